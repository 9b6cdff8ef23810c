/-
  The engine's Add. No statement is proved here.
-/
import Derived.Lib.SlicesS
import Derived.Deep.RegionLaw
import Derived.Deep.RegionWith
import Derived.Deep.CutRange
import Derived.Test.YtcbopgopegphlaaGreatEnQ
namespace Go.Proofs.YtcbopgopegphlaaGreat
open Go.RowKit
set_option linter.unusedVariables false
/-- What came last, or an event of the loan that comes. -/
def lastOf (l : List Ev) (e : Ev) : Ev := (l.getLast?).getD ⟨0, e.loan, 0, 0, 0, 0⟩
def addBad (l : List Ev) (e : Ev) : Bool := decide (e.seq ≤ (lastOf l e).seq) || (decide (e.loan ≠ (lastOf l e).loan) || (decide (e.kind = 5) && !revB l e.ref))
noncomputable def addAns (l : List Ev) (e : Ev) : Int := if bcode e ≠ 0 then bcode e else if 4096 ≤ l.length then 3 else if addBad l e then 52 else 0
/-- Only two blocks may change. -/
structure EnKeeps (ge : Nat) (r : Option Nat) (w w' : World) : Prop where
  os : w'.os = w.os
  tape : w'.tape = w.tape
  output : w'.output = w.output
  size : w.heap.size ≤ w'.heap.size
  block : ∀ k, k < w.heap.size → k ≠ ge → r ≠ some k → w'.heap[k]? = w.heap[k]?
/-- What Add answers. -/
def AddSays (w : World) (ge gm : Nat) (p : Prod) (A : Option Addr) (n c : Nat) (v : Value) (l : List Ev) (M : List ((Int × Int) × Ln)) (e : Ev) (x : Ending) (w' : World) : Prop :=
  x = .returned (.int .i64 (addAns l e)) ∧ (addAns l e ≠ 0 → Below w.heap.size w w') ∧ (addAns l e = 0 → ∃ v', EngAt w' ge gm p A n c v' (l ++ [e]) M ∧ EnKeeps ge v.ownBlock w w' ∧ ∀ k, v'.ownBlock = some k → v.ownBlock = some k ∨ w.heap.size ≤ k)
theorem AddSays.bad {w w' : World} {ge gm : Nat} {p : Prod} {A : Option Addr} {n c : Nat} {v : Value} {l : List Ev} {M : List ((Int × Int) × Ln)} {e : Ev} {r : Int} (h : addAns l e = r) (hr : r ≠ 0) (hb : Below w.heap.size w w') : AddSays w ge gm p A n c v l M e (.returned (.int .i64 r)) w' :=
  ⟨by rw [h], fun _ => hb, fun h0 => absurd (h.symm.trans h0) hr⟩
theorem built_ev (s : ByteArray) : Tryz.prog.built 39 [(1, .string s)] = some #[.int .i64 0, .string s, .int .i64 0, .int .i64 0, .int .i64 0, .int .i64 0] := by kernel_rfl
theorem ev_box {w : World} {g : Nat} {es ed ek ea er : Int} {el : ByteArray} (h : w.heap[g]? = some (.cells #[.int .i64 es, .string el, .int .i64 ed, .int .i64 ek, .int .i64 ea, .int .i64 er] 39 (0, 0))) :
    w.cell? ⟨g, 0, none⟩ = some (.int .i64 es) ∧ w.cell? ⟨g, 1, none⟩ = some (.string el) ∧ w.cell? ⟨g, 2, none⟩ = some (.int .i64 ed) ∧ w.cell? ⟨g, 3, none⟩ = some (.int .i64 ek) ∧ w.cell? ⟨g, 4, none⟩ = some (.int .i64 ea) ∧ w.cell? ⟨g, 5, none⟩ = some (.int .i64 er) := by
  refine ⟨?_, ?_, ?_, ?_, ?_, ?_⟩ <;> (rw [cell_of_row _ _ _ _ _ _ h]; rfl)
theorem cell_nine {w : World} {ge gm : Nat} {p : Prod} {B v : Value} (h : w.heap[ge]? = some (.cells (enCells p B v gm) 60 (0, 0))) : w.cell? ⟨ge, 9, none⟩ = some v := by
  rw [cell_of_row _ _ _ _ _ _ h]; rfl
theorem ev_lit (w : World) (es ed ek ea er : Int) (el : ByteArray) : (w.alloc (.cells #[.int .i64 es, .string el, .int .i64 ed, .int .i64 ek, .int .i64 ea, .int .i64 er] 39)).heap[w.heap.size]? = some (.cells #[.int .i64 es, .string el, .int .i64 ed, .int .i64 ek, .int .i64 ea, .int .i64 er] 39 (0, 0)) := heap_alloc_new _ _
/-- A row of one event that was just made. -/
theorem ev_lit' (w : World) (e : Ev) : RdE (w.alloc (.cells (evCells e) 39)) (some ⟨w.heap.size, 0, none⟩) 1 [e] := by
  refine ⟨rfl, fun _ => ⟨w.heap.size, 0, rfl, fun j hj k u hu => ?_⟩⟩
  obtain rfl : j = 0 := by simpa using hj
  rw [cell_of_row _ _ _ _ _ _ (heap_alloc_new w _), show 0 + 0 * 6 + k = k by omega]
  exact hu
/-- Behind an append of an event: all but the row's block is as it was. -/
structure RowKept (r : Option Nat) (w w' : World) : Prop where
  os : w'.os = w.os
  tape : w'.tape = w.tape
  output : w'.output = w.output
  size : w.heap.size ≤ w'.heap.size
  block : ∀ k, k < w.heap.size → r ≠ some k → w'.heap[k]? = w.heap[k]?
theorem RowKept.of {w w2 w' : World} {r : Option Nat} (h : RowKept r w2 w') (hb : Below w.heap.size w w2) : RowKept r w w' :=
  ⟨h.os.trans hb.os, h.tape.trans hb.tape, h.output.trans hb.output, Nat.le_trans hb.size h.size, fun k h1 h2 => (h.block k (Nat.lt_of_lt_of_le h1 hb.size) h2).trans (hb.block k h1)⟩
/-- append, of one event, at a step of a region that draws its order. -/
theorem step_e {ops : Array Oper} {o : Oper} {a : Act} {w : World} {K : Act → World → Prop} {Q : Exit → Act → World → Prop} {E : Prop} (hgd : o.guard = none) (s x : Operand)
    (ho : o.op = .call { callee := .builtin .append, args := #[s, x], argTypes := #[35, 35] })
    (v : Value) (l : List Ev) (hs : a.eval s = v) (hown : w.ownsRow 0 39 6 v l.length (flatE l)) (e : Ev) (A : Option Addr) (c : Nat) (hx : a.eval x = .slice A 1 c) (hr : RdE w A 1 [e])
    (hlen : l.length ≤ 900000)
    (h : ∀ v' w', w'.ownsRow 0 39 6 v' (l ++ [e]).length (flatE (l ++ [e])) → (∀ k, v'.ownBlock = some k → v.ownBlock = some k ∨ w.heap.size ≤ k) → RowKept v.ownBlock w w' → K (a.put o.dst v') w') :
    if Region.wanted o (yielded ops a.tmps) = true then Oper.wp Tryz.prog o a w K Q else E := by
  have hw : Region.wanted o (yielded ops a.tmps) = true := by simp [Region.wanted, hgd]
  rw [if_pos hw]
  obtain ⟨i0, hi, hz0, hz1, hz2⟩ := info_parts infoEv
  refine wp_append_rd w s x 35 ho 0 39 i0 (.agg #[.int .i64 0, .string ⟨#[]⟩, .int .i64 0, .int .i64 0, .int .i64 0, .int .i64 0]) 6 56 Tryz.underlying35 hi hz0 hz1 hz2 rfl (by decide) v l.length _ hs hown A 1 c (flatE [e]) hx hr.rd (flatE_one [e]) (by unfold maxLen; omega) (by omega) (Nat.zero_le _) fun v' w' hown' hg hb => ?_
  have hg2 := Below.grown (B := 0) (Below.refl 0 _) hg (Nat.zero_le _) (fun _ _ => Nat.zero_le _)
  refine h v' w' ?_ (fun k hk => ?_) ⟨hg2.os, hg2.tape, hg2.output, hg2.size, fun k hk hne => hg.block k hk (fun e => hne e.symm)⟩
  · rw [List.length_append, flatE_append]; exact hown'
  · rcases hb with h1 | h1
    · exact .inl (h1 ▸ hk)
    · rw [h1] at hk
      injection hk with hk
      exact .inr (Nat.le_of_eq hk)
/-- The engine behind a store of its row. -/
theorem EngAt.store {w w' : World} {ge gm n c : Nat} {p : Prod} {A : Option Addr} {v v' : Value} {l : List Ev} {M : List ((Int × Int) × Ln)} {e : Ev} (h : EngAt w ge gm p A n c v l M)
    (hown : w'.ownsRow 0 39 6 v' (l ++ [e]).length (flatE (l ++ [e]))) (hv : ∀ k, v'.ownBlock = some k → v.ownBlock = some k ∨ w.heap.size ≤ k) (hk : RowKept v.ownBlock w w') :
    EngAt (w'.setCell ⟨ge, 9, none⟩ v') ge gm p A n c v' (l ++ [e]) M ∧ EnKeeps ge v.ownBlock w (w'.setCell ⟨ge, 9, none⟩ v') := by
  have hge : ge < w.heap.size := (Array.getElem?_eq_some_iff.1 h.cells).1
  have hgm : gm < w.heap.size := (Array.getElem?_eq_some_iff.1 h.map).1
  have hap := h.apart
  have hc := (hk.block ge hge hap.2.2).trans h.cells
  have hs := heap_setCell_same w' ge 9 _ _ v' hc
  refine ⟨⟨?_, ?_, ?_, ?_, ?_⟩, ⟨hk.os, hk.tape, hk.output, by simp [World.setCell]; exact hk.size, fun k h1 h2 h3 => ?_⟩⟩
  · rw [hs]; rfl
  · exact (heap_setCell_other _ _ _ _ (fun e => hap.1 e.symm)).trans ((hk.block gm hgm hap.2.1).trans h.map)
  · refine ownE_keep hown fun g hg => heap_setCell_other _ _ _ _ fun e => ?_
    subst e
    rcases hv g hg with h1 | h1
    · exact hap.2.2 h1
    · omega
  · refine rdI_keep h.bnds fun hn ad e => ?_
    have hf := h.far hn ad e
    exact (heap_setCell_other _ _ _ _ hf.1).trans (hk.block _ (rdI_lt h.bnds hn ad e) hf.2.2)
  · intro hn ad e
    have hf := h.far hn ad e
    refine ⟨hf.1, hf.2.1, fun h1 => ?_⟩
    rcases hv _ h1 with h2 | h2
    · exact hf.2.2 h2
    · have := rdI_lt h.bnds hn ad e
      omega
  · exact (heap_setCell_other _ _ _ _ h2).trans (hk.block k h1 h3)
set_option maxRecDepth 100000 in
set_option maxHeartbeats 600000 in
theorem Add_any (ge gm : Nat) (p : Prod) (A : Option Addr) (n c : Nat) (v : Value) (l : List Ev) (M : List ((Int × Int) × Ln)) (e : Ev) (w : World) (h : EngAt w ge gm p A n c v l M) (hl : l.length ≤ 100000) :
    Calls Tryz.prog 9 #[.pointer (some ⟨ge, 0, none⟩), e.val] w (AddSays w ge gm p A n c v l M e) := by
  obtain ⟨E, m, rfl, hE⟩ := own_rdE h.row
  have HEN := Lib.hid h
  obtain ⟨k, hk⟩ : ∃ k, k = l.length := ⟨_, rfl⟩
  have HK := Lib.hid hk
  have hE' : RdE w E k l := by rw [hk]; exact hE
  have hl' : k ≤ 100000 := by rw [hk]; exact hl
  have BAD : Hid (∀ r : Int, addAns l e = r → r ≠ 0 → ∀ W, Below w.heap.size w W → AddSays w ge gm p A n c (.slice E l.length m) l M e (.returned (.int .i64 r)) W) := Lib.hid fun r h1 h2 W hb => AddSays.bad h1 h2 hb
  have HANS := Lib.hid (show addAns l e = if bcode e ≠ 0 then bcode e else if 4096 ≤ l.length then 3 else if addBad l e then 52 else 0 from rfl)
  obtain ⟨w1, hw1⟩ : ∃ w1, w1 = w.alloc (.cells (evCells e) 39) := ⟨_, rfl⟩
  have hb1 : Below w.heap.size w w1 := by rw [hw1]; exact (Below.refl _ _).alloc (Nat.le_refl _) _
  have hz1 : w1.heap.size = w.heap.size + 1 := by rw [hw1]; simp
  have hS1 : w1.heap[w.heap.size]? = some (.cells (evCells e) 39 (0, 0)) := by rw [hw1]; exact heap_alloc_new _ _
  have HC := Lib.hid (bCheck_code e w1)
  have HGE : Hid (ge < w.heap.size) := Lib.hid (Array.getElem?_eq_some_iff.1 h.cells).1
  have HE := Lib.hid hE'
  clear hE hE' h hl hk
  generalize hP : AddSays w ge gm p A n c (.slice E l.length m) l M e = P at BAD ⊢
  have HP := Lib.hid hP
  clear hP
  have HRV := Lib.hid fun W hg hR => reversible_any ge E k m l e.ref W hg hR hl'
  obtain ⟨es, el, ed, ek, ea, er⟩ := e
  unfold Ev.val evCells at *
  dsimp only at *
  go_enter Tryz.func9, Tryz.ntmps9
  go_upto_region 3 with (fail)
  rw [← hw1]
  clear hw1
  obtain ⟨x0, x1, x2, x3, x4, x5⟩ := ev_box hS1
  generalize hbc : bcode ⟨es, el, ed, ek, ea, er⟩ = bc at *
  by_cases h0 : bc = 0
  · subst h0
    go_upto_region 6 with (first
      | (go_at_call 20; refine HC.out.mono ?_; rintro x w2 ⟨rfl, hb2⟩))
    have hb02 := hb1.trans (hb2.mono hb1.size)
    have hS2 := (hb2.block w.heap.size (by omega)).trans hS1
    have HC2 := Lib.hid ((hb02.block ge HGE.out).trans HEN.out.cells)
    have HE2 := Lib.hid (HE.out.below hb02)
    have c9 : w2.cell? ⟨ge, 9, none⟩ = some (.slice E k m) := by rw [cell_of_row _ _ _ _ _ _ HC2.out, HK.out]; rfl
    have hz2 := hb02.size
    have hz2' := hb2.size
    clear x0 x1 x2 x3 x4 x5 hS1 HC
    obtain ⟨x0, x1, x2, x3, x4, x5⟩ := ev_box hS2
    by_cases hbig : 4096 ≤ k
    · have HB := Lib.hid (BAD.out 3 (by rw [HANS.out, if_neg (by simp), if_pos (by rw [← HK.out]; exact hbig)]) (by decide) w2 hb02)
      have hbig' : (4096 : Int) ≤ (k : Int) := by omega
      clear hbig
      go_wp2
      exact HB.out
    · have hbig' : ¬ (4096 : Int) ≤ (k : Int) := by omega
      have HBIG := Lib.hid hbig
      clear hbig
      go_upto_region 10 with (first
        | (refine wpList_buildTo rfl 39 _ rfl _ rfl _ (built_1 (built_ev el) _ _ rfl) ?_))
      obtain ⟨w3, hw3⟩ : ∃ w3, w3 = w2.alloc (.cells #[.int .i64 0, .string el, .int .i64 0, .int .i64 0, .int .i64 0, .int .i64 0] 39) := ⟨_, rfl⟩
      have hb3 : Below w2.heap.size w2 w3 := by rw [hw3]; exact (Below.refl _ _).alloc (Nat.le_refl _) _
      have hz3 : w3.heap.size = w2.heap.size + 1 := by rw [hw3]; simp
      have hL3 : w3.heap[w2.heap.size]? = some (.cells #[.int .i64 0, .string el, .int .i64 0, .int .i64 0, .int .i64 0, .int .i64 0] 39 (0, 0)) := by rw [hw3]; exact heap_alloc_new _ _
      rw [← hw3]
      clear hw3 x0 x1 x2 x3 x4 x5 c9
      have hS3 := (hb3.block w.heap.size (by omega)).trans hS2
      have HE3 := Lib.hid (HE2.out.below hb3)
      have HC3 := Lib.hid ((hb3.block ge (by have := HGE.out; omega)).trans HC2.out)
      have c9 : w3.cell? ⟨ge, 9, none⟩ = some (.slice E k m) := by rw [cell_of_row _ _ _ _ _ _ HC3.out, HK.out]; rfl
      have hb03 := hb02.trans (hb3.mono hb02.size)
      generalize hg3 : w2.heap.size = g3 at *
      have hgw : w.heap.size < g3 := by omega
      obtain ⟨le, hle⟩ : ∃ le, le = lastOf l ⟨es, el, ed, ek, ea, er⟩ := ⟨_, rfl⟩
      have HLE := Lib.hid hle
      have HADD : Hid (addBad l ⟨es, el, ed, ek, ea, er⟩ = (decide (es ≤ le.seq) || (decide (el ≠ le.loan) || (decide (ek = 5) && !revB l er)))) := Lib.hid (by unfold addBad; rw [HLE.out])
      have HANA : Hid (addAns l ⟨es, el, ed, ek, ea, er⟩ = if addBad l ⟨es, el, ed, ek, ea, er⟩ then 52 else 0) := Lib.hid (by rw [HANS.out, if_neg (by simp), if_neg (by rw [← HK.out]; exact HBIG.out)])
      clear hle HANS
      go_upto_if 26 with (fail)
      go_cut [26] from 27 to 34 (fun _ wx => Hid (wx.heap[g3]? = some (.cells (evCells le) 39 (0, 0))) ∧ Hid (Below w.heap.size w wx) ∧ Hid (wx.heap[w.heap.size]? = some (.cells #[.int .i64 es, .string el, .int .i64 ed, .int .i64 ek, .int .i64 ea, .int .i64 er] 39 (0, 0))))
      case first =>
        rcases Nat.eq_zero_or_pos k with hk0 | hk0
        · have hgt : ¬ (0 : Int) < (k : Int) := by omega
          have hl0 : l = [] := List.eq_nil_of_length_eq_zero (by rw [← HK.out, hk0])
          have h9 : (⟨0, el, 0, 0, 0, 0⟩ : Ev) = le := by rw [HLE.out, hl0]; rfl
          have H9 := Lib.hid h9
          have HK0 := Lib.hid hk0
          clear hl0 h9 hk0
          go_wp2_with fail
          go_meet
          exact ⟨Lib.hid (by rw [← H9.out]; exact hL3), Lib.hid hb03, Lib.hid hS3⟩
        · obtain ⟨k', hk'⟩ : ∃ k' : Nat, k = k' + 1 := ⟨k - 1, by omega⟩
          have hgt : (0 : Int) < (k : Int) := by omega
          have hkk : (k : Int) - 1 = (k' : Int) := by omega
          have hlt : (k' : Int) < (k : Int) := by omega
          have hkl : k' < l.length := by have := HK.out; omega
          have HK1 := Lib.hid hk'
          have hk0' : 0 < k := by omega
          clear hk' hk0
          have hr3 := HE3.out
          obtain ⟨b0, off, rfl, _⟩ := hr3.2 (by omega)
          obtain ⟨y0, y1, y2, y3, y4, y5⟩ := ev_six hr3 k' hkl
          have hlast : le = l[k'] := by
            rw [HLE.out]
            unfold lastOf
            rw [List.getLast?_eq_getElem?, show l.length - 1 = k' by have := HK.out; have := HK1.out; omega, List.getElem?_eq_getElem hkl]
            rfl
          have HLA := Lib.hid hlast
          clear hr3 hlast
          generalize l[k'] = la' at *
          obtain ⟨ls, ll, ld, lk, la, lr⟩ := la'
          dsimp only at *
          have hinf := info_ev ⟨ls, ll, ld, lk, la, lr⟩
          have hone := ev_one ⟨ls, ll, ld, lk, la, lr⟩
          unfold evCells at hinf hone
          go_wp2_with (first
            | (refine wpList_store_rowTo rfl 39 _ _ rfl rfl _ _ rfl rfl _ _ hL3 hinf rfl hone ?_))
          go_meet
          refine ⟨Lib.hid ?_, Lib.hid (below_row hb03 (g := g3) (by omega) _), Lib.hid ((setRow_other w3 g3 w.heap.size _ (by omega)).trans hS3)⟩
          rw [HLA.out]
          exact setRow_heap w3 g3 _ _ _ _ hL3
      case rest =>
        obtain ⟨HL4, HB4, HS4⟩ := hcut
        obtain ⟨w4, rfl⟩ : ∃ x, x = wc := ⟨_, rfl⟩
        have hS4 := HS4.out
        have hL4 := HL4.out
        obtain ⟨x0, x1, x2, x3, x4, x5⟩ := ev_box hS4
        obtain ⟨ls, ll, ld, lk, la, lr⟩ := le
        unfold evCells at hL4
        dsimp only at *
        obtain ⟨z0, z1, _⟩ := ev_box hL4
        have HC4 := Lib.hid ((HB4.out.block ge HGE.out).trans HEN.out.cells)
        have HE4 := Lib.hid (HE.out.below HB4.out)
        have c9 := cell_nine HC4.out
        rw [← HK.out] at c9
        have HRV4 := Lib.hid (HRV.out w4 c9 HE4.out)
        have hcw := HB4.out.size
        clear hL4 HL4 HE3 HC3 hb3 hz3 hL3 hb03 hS3 HE2 HC2 hS2
        go_upto_region 12 with (fail)
        go_cut [58] from 35 to 57 (fun t wx => t = .bool (addBad l ⟨es, el, ed, ek, ea, er⟩) ∧ Below w4.heap.size w4 wx)
        case first =>
          by_cases q1 : es ≤ ls
          · have HBB : Hid (addBad l ⟨es, el, ed, ek, ea, er⟩ = true) := Lib.hid (by rw [HADD.out]; simp [q1])
            clear HADD HANA
            go_wp2
            go_meet
            exact ⟨by rw [HBB.out], Below.refl _ _⟩
          · by_cases q2 : el = ll
            · subst q2
              by_cases q3 : ek = 5
              · subst q3
                have HBB : Hid (addBad l ⟨es, el, ed, 5, ea, er⟩ = !revB l er) := Lib.hid (by rw [HADD.out]; simp [q1])
                clear HADD HANA
                generalize revB l er = rv at *
                go_wp2_with (first
                  | (go_at_call 21; refine HRV4.out.mono ?_; rintro x w5 ⟨rfl, hb5⟩))
                go_meet
                exact ⟨by rw [HBB.out], hb5⟩
              · have q3' : (ek == 5) = false := by simp [q3]
                have HBB : Hid (addBad l ⟨es, el, ed, ek, ea, er⟩ = false) := Lib.hid (by rw [HADD.out]; simp [q1, q3])
                clear HADD HANA
                go_wp2
                go_meet
                exact ⟨by rw [HBB.out], Below.refl _ _⟩
            · have q2' : (el.toList == ll.toList) = false := (Lib.bytes_beq_false_iff _ _).2 q2
              have q2'' : ¬ el.toList = ll.toList := by rw [beq_eq_false_iff_ne] at q2'; exact q2'
              have HBB : Hid (addBad l ⟨es, el, ed, ek, ea, er⟩ = true) := Lib.hid (by rw [HADD.out, decide_eq_true q2]; simp)
              clear HADD HANA
              go_wp2_with fail
              go_meet
              exact ⟨by rw [HBB.out], Below.refl _ _⟩
        case rest =>
          obtain ⟨rfl, hb5⟩ := hcut
          obtain ⟨w5, rfl⟩ : ∃ x, x = wc := ⟨_, rfl⟩
          have hb05 := HB4.out.trans (hb5.mono hcw)
          have hw4 : w.heap.size < w4.heap.size := (Array.getElem?_eq_some_iff.1 HS4.out).1
          have hS5 := (hb5.block w.heap.size hw4).trans HS4.out
          clear x0 x1 x2 x3 x4 x5 z0 z1 HRV4 HRV HC4 HE4 hS4 c9
          generalize addBad l ⟨es, el, ed, ek, ea, er⟩ = ab at *
          cases ab
          · have HEN5 := Lib.hid (HEN.out.below hb05)
            obtain ⟨x0, x1, x2, x3, x4, x5⟩ := ev_box hS5
            have c9 : w5.cell? ⟨ge, 9, none⟩ = some (.slice E k m) := by rw [cell_of_row _ _ _ _ _ _ HEN5.out.cells, HK.out]; rfl
            have cf : w5.frozen? ⟨ge, 9, none⟩ = false := by simp [World.frozen?, HEN5.out.cells]
            clear HADD BAD
            have HOW : Hid (∀ W, Below w5.heap.size w5 W → W.ownsRow 0 39 6 (.slice E k m) l.length (flatE l)) := Lib.hid fun W hW => by
              have := (HEN5.out.below hW).row
              rwa [← HK.out] at this ⊢
            have HM9 : Hid (∀ W, RowKept (Value.slice E k m).ownBlock w5 W → W.cell? ⟨ge, 9, none⟩ = some (.slice E k m) ∧ W.frozen? ⟨ge, 9, none⟩ = false) := Lib.hid fun W hW => by
              have hap := HEN5.out.apart.2.2
              have hr := (hW.block ge (Array.getElem?_eq_some_iff.1 HEN5.out.cells).1 (by rw [HK.out]; exact hap)).trans HEN5.out.cells
              exact ⟨by rw [cell_of_row _ _ _ _ _ _ hr, HK.out]; rfl, by simp [World.frozen?, hr]⟩
            obtain ⟨n6, hn6⟩ : ∃ n6, (l ++ [(⟨es, el, ed, ek, ea, er⟩ : Ev)]).length = n6 := ⟨_, rfl⟩
            have N6 := Lib.hid hn6
            clear hn6
            have k2 : ∀ o, (w5.alloc o).cell? ⟨ge, 9, none⟩ = some (.slice E k m) := fun o => (World.cell?_alloc_lt w5 o _ (World.block_lt_of_cell? _ _ c9)).trans c9
            go_upto_region 14 with (fail)
            go_cut [] from 59 to 68 (fun wx => ∃ v', Hid (EngAt wx ge gm p A n c v' (l ++ [⟨es, el, ed, ek, ea, er⟩]) M) ∧ Hid (EnKeeps ge (Value.slice E k m).ownBlock w5 wx) ∧ Hid (∀ q, v'.ownBlock = some q → (Value.slice E k m).ownBlock = some q ∨ w5.heap.size ≤ q))
            case first =>
              go_region_law (first
                | (apply step_e (hgd := rfl) (ho := rfl) (v := .slice E k m) (l := l) (hs := rfl) (hown := HOW.out _ (by first | exact ((Below.refl _ _).alloc (Nat.le_refl _) _).drew | exact (((Below.refl _ _).drew).alloc (Nat.le_refl _) _))) (e := ⟨es, el, ed, ek, ea, er⟩) (A := some ⟨w5.heap.size, 0, none⟩) (hx := rfl) (hr := (ev_lit' w5 ⟨es, el, ed, ek, ea, er⟩).below ((Below.refl _ _).drew)) (hlen := by have := HK.out; omega); intro v6 w6 hv6 hbk6 hk6; have hrk6 : RowKept (Value.slice E k m).ownBlock w5 w6 := hk6.of (by exact ((Below.refl _ _).alloc (Nat.le_refl _) _).drew); obtain ⟨m0, mf⟩ := HM9.out w6 hrk6; rw [N6.out] at hv6; obtain ⟨A6, c6, rfl⟩ := own_slice hv6))
              all_goals
                go_wp2_with fail
                go_meet
                have hst := EngAt.store (e := ⟨es, el, ed, ek, ea, er⟩) HEN5.out (v' := .slice A6 n6 c6) (by rw [N6.out]; exact hv6) (fun q hq => by have := hbk6 q hq; rw [← HK.out]; exact this.imp id fun h => by simp at h; omega) (by rw [← HK.out]; exact hrk6)
                exact ⟨_, Lib.hid hst.1, Lib.hid (by have := hst.2; rw [← HK.out] at this; exact this), Lib.hid fun q hq => (hbk6 q hq).imp id fun h => by simp at h; omega⟩
            case rest =>
              obtain ⟨v', HE7, HK7, HV7⟩ := hcut
              have HFIN : Hid (P (.returned (.int .i64 0)) wc) := Lib.hid (by
                have h0 := HANA.out
                rw [if_neg (by simp)] at h0
                rw [← HP.out]
                refine ⟨by rw [h0], fun h => absurd h0 h, fun _ => ⟨v', HE7.out, ?_, fun q hq => (HV7.out q hq).imp (by rw [HK.out]; exact id) fun h => Nat.le_trans hb05.size h⟩⟩
                have hk := HK7.out
                rw [HK.out] at hk
                exact ⟨hk.os.trans hb05.os, hk.tape.trans hb05.tape, hk.output.trans hb05.output, Nat.le_trans hb05.size hk.size, fun q h1 h2 h3 => (hk.block q (Nat.lt_of_lt_of_le h1 hb05.size) h2 h3).trans (hb05.block q h1)⟩)
              go_wp2
              exact HFIN.out
          · have HB := BAD.out 52 (by rw [HANA.out]; rfl) (by decide) w5 hb05
            clear BAD
            go_wp2
            exact HB
  · have t0 : (bc != 0) = true := by simp [h0]
    have hans := BAD.out bc (by rw [HANS.out, if_pos h0]) h0
    have HB := Lib.hid hans
    clear hans h0
    go_wp2_with (first
      | (go_at_call 20; refine HC.out.mono ?_; rintro x w2 ⟨rfl, hb2⟩))
    exact HB.out w2 (hb1.trans (hb2.mono hb1.size))
end Go.Proofs.YtcbopgopegphlaaGreat
