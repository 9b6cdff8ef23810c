/-
  Post's answer; a loan's balance where all postings are that loan's. No statement is proved here.
-/
import Derived.Test.YtpmbbhefcejjlaaLedU
import Derived.Test.YtpmbbhefcejjlaaLedX
namespace Go.Proofs.Ytpmbbhefcejjlaa
open Go.RowKit
set_option linter.unusedVariables false

/-- A journal none of whose blocks lies from lo to hi, nor from z to zz. -/
structure JQ (w : World) (g base lo hi z zz : Nat) (ps : List PV) (cl : Int) : Prop where
  ex : ∃ v qs, Jn w g base v qs cl ∧ pvs qs = ps ∧ ∀ k, (k = g ∨ Blk v qs k) → ¬ (lo ≤ k ∧ k < hi) ∧ ¬ (z ≤ k ∧ k < zz)
  len : ps.length ≤ 65536
  lines : ∀ p ∈ ps, p.lines.length ≤ 7
  cls : -719163 ≤ cl ∧ cl ≤ 2932896
theorem JQ.jw {w : World} {g base lo hi z zz : Nat} {ps : List PV} {cl : Int} (h : JQ w g base lo hi z zz ps cl) : JW w g base lo hi ps cl := by
  obtain ⟨v, qs, h1, h2, h3⟩ := h.ex
  exact ⟨⟨v, qs, h1, h2, fun k hk => (h3 k hk).1⟩, h.len, h.lines, h.cls⟩
theorem JQ.set {w : World} {g base lo hi z zz q : Nat} {ps : List PV} {cl : Int} (h : JQ w g base lo hi z zz ps cl) (hq : z ≤ q ∧ q < zz) (j : Nat) (u : Value) : JQ (w.setCell ⟨q, j, none⟩ u) g base lo hi z zz ps cl := by
  obtain ⟨v, qs, h1, h2, h3⟩ := h.ex
  exact ⟨⟨v, qs, h1.same fun k hk => heap_setCell_other _ _ _ _ (fun e => (h3 k hk).2 (by rw [e]; exact hq)), h2, h3⟩, h.len, h.lines, h.cls⟩
/-- Post, and what lies beyond all of the journal's blocks. -/
theorem Post_jw3 (s t : St) (w : World) (g base lo hi z : Nat) (v : Value) (qs : List PR) (ps : List PV) (cl day : Int) (loan : ByteArray) (h : JW w g base lo hi ps cl) (hJ : Jn w g base v qs cl) (hp : pvs qs = ps) (ha : ∀ k, (k = g ∨ Blk v qs k) → ¬ (lo ≤ k ∧ k < hi)) (hz : ∀ k, (k = g ∨ Blk v qs k) → k < z) (hhi : hi ≤ w.heap.size) :
    Calls Try.prog 19 #[.pointer (some ⟨g, 0, none⟩), .int .i64 day, .string loan, .agg (stCells s), .agg (stCells t)] w fun e w' =>
      (∃ pn pd pl A m c ok, e = .returned (.tuple #[.agg #[.int .i64 pn, .int .i64 pd, .string pl, .slice A m c], .bool ok, .int .i64 (postR ps.length cl day loan s t).1])) ∧
      JQ w' g base lo hi z w.heap.size (match (postR ps.length cl day loan s t).2 with | none => ps | some p => ps ++ [p]) cl ∧ Win base lo hi w w' ∧ (∀ k, z ≤ k → k < w.heap.size → w'.heap[k]? = w.heap[k]?) := by
  have e : qs.length = ps.length := by rw [← hp, pvs_len]
  have hP := Post_any s t g base w v qs cl day loan hJ h.cls (by rw [e]; exact h.len)
  rw [e] at hP
  refine hP.mono ?_
  rintro e w' ⟨pn, pd, pl, vl, rfl, h1, h2⟩
  cases hr : (postR ps.length cl day loan s t).2 with
  | none =>
    obtain ⟨hb, rfl, rfl, rfl, rfl⟩ := h1 hr
    exact ⟨⟨_, _, _, _, _, _, _, rfl⟩, ⟨⟨v, qs, hJ.same fun k hk => hb.block k (hJ.lt hk).2, hp, fun k hk => ⟨ha k hk, fun hh => by have := hz k hk; omega⟩⟩, h.len, h.lines, h.cls⟩, winB hb, fun k _ hk => hb.block k hk⟩
  | some p =>
    obtain ⟨rfl, rfl, rfl, m, v', q, rfl, hm, hol, _, hJ', hB, hK⟩ := h2 p hr
    obtain ⟨h3, _, h4⟩ := postR_lines hr
    obtain ⟨A, m2, c, rfl, _⟩ := hol.form
    refine ⟨⟨_, _, _, _, _, _, _, rfl⟩, ⟨⟨v', qs ++ [q], hJ', by rw [pvs_snoc, hp], fun k hk => ⟨fun hh => ?_, fun hh => ?_⟩⟩, ?_, fun p hp => ?_, h.cls⟩, ⟨hK.os, hK.tape, hK.output, hK.size, fun k hk hlt => hK.block k hlt (fun e => ?_)⟩, fun k hk1 hk2 => hK.block k hk2 (fun e => by have := hz k (e.imp id .inl); omega)⟩
    · rcases hk with rfl | hk
      · exact ha k (.inl rfl) hh
      · rcases hB k hk with h5 | h5
        · exact ha k (.inr h5) hh
        · omega
    · rcases hk with rfl | hk
      · have := hz k (.inl rfl)
        omega
      · rcases hB k hk with h5 | h5
        · have := hz k (.inr h5)
          omega
        · omega
    · have := h.len
      simp
      omega
    · rcases List.mem_append.1 hp with h5 | h5
      · exact h.lines p h5
      · obtain rfl := List.mem_singleton.1 h5
        exact h4
    · have hh : k = g ∨ Blk v qs k := e.imp id .inl
      rcases hk with hk | hk
      · have := (hJ.lt hh).1
        omega
      · exact ha k hh hk
set_option maxRecDepth 100000 in
set_option maxHeartbeats 2000000 in
theorem CloneP_any (base : Nat) (v : Value) (qs : List PR) (w : World) (h : OwnJ w base v qs) (hn : qs.length ≤ 900000) (hb : base ≤ w.heap.size) :
    Calls Try.prog 33 #[v] w fun e w' => ∃ v', e = .returned v' ∧ OwnJ w' base v' qs ∧ (∀ k, v'.ownBlock = some k → w.heap.size ≤ k) ∧ Below w.heap.size w w' := by
  rcases h.row.2 with ⟨rfl, hn0⟩ | ⟨g, cap, cur, rfl, hg, hh, hc, hm, r⟩
  · obtain rfl := List.eq_nil_of_length_eq_zero hn0
    have hq : ∀ w : World, (binOp .eql 42 (.slice none 0 0) (.slice none 0 0)).run Try.prog w = .ok (.bool true) w := fun _ => rfl
    clear h
    go_enter Try.func33, Try.ntmps33
    go_wp2
    go_ret
    exact ⟨_, rfl, OwnJ.nil _ _, fun k hk => by simp [Value.ownBlock] at hk, Below.refl _ _⟩
  · have hrd : Rd w 4 (some ⟨g, 0, none⟩) qs.length (prows qs) := Rd.of_own (c := cap) h.row
    have hone : ∀ u ∈ prows qs, u.oneCell' = true := fun u hu => by
      unfold prows at hu
      obtain ⟨q, hq, hu⟩ := List.mem_flatMap.1 hu
      exact prow_one (h.each q hq) u hu
    have he : (w.alloc (.cells #[] 49)).ownsRow w.heap.size 49 4 (.slice (some ⟨w.heap.size, 0, none⟩) 0 0) 0 [] := World.ownsRow_lit (base := w.heap.size) (e := 49) (size := 4) w #[] 0 (Nat.le_refl _) (by simp [maxLen]) rfl
    have HO := Lib.hid h
    have HRA := Lib.hid (Rd.alloc hrd (.cells #[] 49))
    have HE := Lib.hid he
    have HON := Lib.hid hone
    have hq : ∀ w : World, (binOp .eql 42 (.slice (some ⟨g, 0, none⟩) qs.length cap) (.slice none 0 0)).run Try.prog w = .ok (.bool false) w := fun _ => rfl
    clear h hrd he hone hh r
    go_enter Try.func33, Try.ntmps33
    go_wp2_with (at_builtin; refine app_post rfl _ _ rfl w.heap.size _ 0 [] rfl HE.out _ qs.length cap (prows qs) rfl HRA.out HON.out (by omega) (by simp) ?_)
    intro v' w' hv hb2 hg2
    have hbb := ((Below.refl w.heap.size w).alloc (Nat.le_refl _) (.cells #[] 49)).trans hb2
    have HV := Lib.hid hv
    go_wp2
    go_ret
    refine ⟨v', rfl, ⟨?_, fun q hq => OwnL.below (HO.out.each q hq) hbb⟩, fun k hk => (row_block HV.out hk).1, hbb⟩
    have h3 := HV.out
    exact row_lower h3 hb
set_option maxRecDepth 100000 in
set_option maxHeartbeats 2000000 in
theorem del_any (pn pd : Int) (s L : ByteArray) (A : Option Addr) (m c b : Nat) (w : World) (h : w.cell? ⟨b, 0, none⟩ = some (.string L)) :
    Calls Try.prog 34 #[.agg #[.int .i64 pn, .int .i64 pd, .string s, .slice A m c], .pointer (some ⟨b, 0, none⟩)] w fun e w' => e = .returned (.bool (decide (s ≠ L))) ∧ Below w.heap.size w w' := by
  have hbw := World.block_lt_of_cell? w ⟨b, 0, none⟩ h
  have hne : b ≠ w.heap.size := by
    have : b < w.heap.size := hbw
    omega
  by_cases hs : s = L
  · have e : decide (s ≠ L) = false := decide_eq_false (fun h => h hs)
    rw [e]
    subst hs
    go_enter Try.func34, Try.ntmps34
    go_wp2
    go_ret
    exact ⟨by simp, (Below.refl _ _).alloc (Nat.le_refl _) _⟩
  · have e : decide (s ≠ L) = true := decide_eq_true hs
    rw [e]
    go_enter Try.func34, Try.ntmps34
    go_wp2
    go_ret
    refine ⟨?_, (Below.refl _ _).alloc (Nat.le_refl _) _⟩
    simp
    intro h
    exact hs (WideShapes.bytes_inj (by rw [← ByteArray.toList_eq, ← ByteArray.toList_eq]; exact h))
set_option maxRecDepth 100000 in
set_option maxHeartbeats 2000000 in
theorem Index_none (A : Option Addr) (n c b : Nat) (ps : List PV) (L : ByteArray) (w : World) (h : RdP w A n ps) (hn : n ≤ 900000) (hb : w.cell? ⟨b, 0, none⟩ = some (.string L)) (hall : ∀ p ∈ ps, p.loan = L) :
    Calls Try.prog 43 #[.slice A n c, .func (.func 34) #[] #[.pointer (some ⟨b, 0, none⟩)]] w fun e w' => e = .returned (.int .i64 (-1)) ∧ Below w.heap.size w w' := by
  have HX := Lib.hid h
  have HN : Hid (ps.length = n) := Lib.hid h.len
  have HA := Lib.hid hall
  have hbw := World.block_lt_of_cell? w ⟨b, 0, none⟩ hb
  have HD := Lib.hid (fun pn pd A m c W (hW : Below w.heap.size w W) => del_any pn pd L L A m c b W ((hW.cell (p := ⟨b, 0, none⟩) hbw).trans hb))
  rw [show decide (L ≠ L) = false from decide_eq_false (fun h => h rfl)] at HD
  clear h hall hb hbw
  go_enter Try.func43, Try.ntmps43
  go_wp2_with fail
  go_loopw [8] (fun t wr => ∃ k : Nat, k ≤ n ∧ t = .int .i64 k ∧ Hid (Below w.heap.size w wr)) (fun t _ => n - (intOf t).toNat)
  case atStart => exact ⟨0, Nat.zero_le _, rfl, Lib.hid (Below.refl _ _)⟩
  case round =>
    obtain ⟨k, hk, rfl, HB⟩ := hrel
    obtain ⟨wa, rfl⟩ : ∃ x, x = wr := ⟨_, rfl⟩
    by_cases hlt : k < n
    · have hkl : k < ps.length := by rw [HN.out]; exact hlt
      obtain ⟨b0, off, rfl, hc⟩ := (HX.out.below HB.out).ex (by omega)
      obtain ⟨Al, ml, cl, p0, p1, p2, p3, _, _⟩ := hc k hkl
      rw [HA.out _ (List.getElem_mem hkl)] at p2
      clear hc
      generalize ps[k] = p at *
      go_wp2_with fail
      refine (HD.out _ _ _ _ _ wa HB.out).mono ?_
      rintro e w1 ⟨rfl, hb1⟩
      have HB1 := Lib.hid (HB.out.trans (hb1.mono HB.out.size))
      clear hb1 p0 p1 p2 p3
      go_wp2
      go_roundw
      case rel => exact ⟨k + 1, by omega, by go_num, HB1⟩
      case measure => (try simp [intOf]) <;> (try omega)
    · go_wp2
      go_ret
      exact ⟨rfl, HB.out⟩
set_option maxRecDepth 100000 in
set_option maxHeartbeats 2000000 in
theorem Delete_none (A : Option Addr) (n c b : Nat) (ps : List PV) (L : ByteArray) (w : World) (h : RdP w A n ps) (hn : n ≤ 900000) (hb : w.cell? ⟨b, 0, none⟩ = some (.string L)) (hall : ∀ p ∈ ps, p.loan = L) :
    Calls Try.prog 32 #[.slice A n c, .func (.func 34) #[] #[.pointer (some ⟨b, 0, none⟩)]] w fun e w' => e = .returned (.slice A n c) ∧ Below w.heap.size w w' := by
  have HI := Lib.hid (Index_none A n c b ps L w h hn hb hall)
  clear h hb hall
  go_enter Try.func32, Try.ntmps32
  go_wp2_with fail
  refine HI.out.mono ?_
  rintro e w1 ⟨rfl, hb1⟩
  go_wp2
  go_ret
  exact ⟨rfl, hb1⟩
set_option maxRecDepth 100000 in
set_option maxHeartbeats 2000000 in
theorem Balance_all (w : World) (g base lo hi : Nat) (ps : List PV) (cl : Int) (L : ByteArray) (h : JW w g base lo hi ps cl) (hall : ∀ p ∈ ps, p.loan = L) (hbs : base ≤ w.heap.size) :
    Calls Try.prog 20 #[.pointer (some ⟨g, 0, none⟩), .string L] w fun e w' => ∃ v, e = .returned v ∧ OwnL w' w.heap.size v (sumsOf ps) ∧ Below w.heap.size w w' := by
  obtain ⟨v, qs, hJ, hp, _⟩ := h.ex
  have hql : qs.length ≤ 65536 := by rw [← pvs_len, hp]; exact h.len
  have HLL := Lib.hid h.lines
  have HA := Lib.hid hall
  have HP := Lib.hid hp
  have hg := heap_lt' hJ.cell
  have hb1 : Below w.heap.size w (w.alloc (.cells #[.string L] 9)) := (Below.refl _ _).alloc (Nat.le_refl _) _
  have HO := Lib.hid (hJ.own.below hb1)
  have j0 : w.cell? ⟨g, 0, none⟩ = some v := by rw [cell_of_row _ _ _ _ _ _ hJ.cell]; rfl
  have hne : g ≠ w.heap.size := by omega
  have HS := Lib.hid (heap_alloc_new w (.cells #[.string L] 9))
  have HB1 := Lib.hid hb1
  clear h hall hp hJ hb1
  go_enter Try.func20, Try.ntmps20
  obtain ⟨Aj, cj, rfl, _⟩ := HO.out.form
  go_wp2_with fail
  refine (CloneP_any base _ qs _ HO.out (by omega) (by have := HB1.out.size; omega)).mono ?_
  rintro e w2 ⟨v2, rfl, ho2, hn2, hb2⟩
  obtain ⟨A2, c2, rfl, _, hr2, _⟩ := ho2.form
  rw [HP.out] at hr2
  have hS2 := (hb2.block w.heap.size (heap_lt' HS.out)).trans HS.out
  have hs2 : w2.cell? ⟨w.heap.size, 0, none⟩ = some (.string L) := by rw [cell_of_row _ _ _ _ _ _ hS2]; rfl
  have HR2 := Lib.hid hr2
  have HS2 := Lib.hid hs2
  have HB2 := Lib.hid (HB1.out.trans (hb2.mono HB1.out.size))
  clear ho2 hn2 hb2 hr2 hS2 hs2 j0 HO
  go_wp2_with fail
  refine (Delete_none A2 qs.length c2 w.heap.size ps L w2 HR2.out (by omega) HS2.out HA.out).mono ?_
  rintro e w3 ⟨rfl, hb3⟩
  have HSU := Lib.hid (Sums_any A2 qs.length c2 ps w3 (HR2.out.below hb3) (by omega) (fun p hp => by have := HLL.out p hp; omega))
  have HB3 := Lib.hid (HB2.out.trans (hb3.mono HB2.out.size))
  clear hb3
  go_wp2_with fail
  refine HSU.out.mono ?_
  rintro e w4 ⟨v4, rfl, hv4, hb4⟩
  go_wp2
  go_ret
  exact ⟨v4, rfl, OwnL.lower hv4 HB3.out.size, HB3.out.trans (hb4.mono HB3.out.size)⟩
end Go.Proofs.Ytpmbbhefcejjlaa
