/-
  The walk of EngineLayers.
-/
import Derived.Deep.CutBlock
import Derived.Deep.CutRange
import Derived.Test.YtcbopgopegphlaaEnV
import Derived.Test.YtcbopgopegphlaaReg
namespace Go.Proofs.Ytcbopgopegphlaa
open Go.RowKit
set_option linter.unusedVariables false
def layG (w7 : World) (_ : Nat → Bool) (v : World) : Prop := Below w7.heap.size w7 v
/-- What each operation of region 15 leaves. -/
def layT (p : Prod) (PC S Z : Array Value) (n : Nat) (l : List Ev) (x y e : Int) (gt ge top : Nat) (L : Nat → Bool) (i : Nat) (u : Value) (v : World) : Prop :=
  match i with
  | 0 => u = .agg PC
  | 1 => L 9 = false → ∃ A c, u = .agg (pCells p (.slice A n c)) ∧ RdI v A n p.bounds
  | 2 => u = .pointer (some ⟨ge, 0, none⟩)
  | 3 => L 6 = false → ∃ E c, u = .slice E l.length c ∧ RdE v E l.length l
  | 4 => u = .pointer (some ⟨gt, 1, none⟩)
  | 5 => u = .int .i64 y
  | 6 => L 9 = false → ∃ E k c, u = .slice E k c ∧ RdE v E k (knownOf l y)
  | 7 => u = .pointer (some ⟨gt, 0, none⟩)
  | 8 => u = .int .i64 x
  | 9 => u = .tuple #[.agg S, .int .i64 e]
  | 10 => u = .tuple #[.agg S, .int .i64 e]
  | 11 => u = .agg S
  | 12 => u = .int .i64 e
  | 13 => ∃ g, u = .pointer (some ⟨g, 0, none⟩) ∧ top ≤ g ∧ v.heap[g]? = some (.cells (if L 14 = true then S else Z) 40 (0, 0))
  | 15 => u = .int .i64 e
  | _ => True
theorem layT_keep {p : Prod} {PC S Z : Array Value} {n : Nat} {l : List Ev} {x y e : Int} {gt ge top : Nat} {L : Nat → Bool} {i j : Nat} {u : Value} {v v2 : World} (hi : i ≠ 14) (hb : Below v.heap.size v v2) (h : layT p PC S Z n l x y e gt ge top L j u v) : layT p PC S Z n l x y e gt ge top (upd L i) j u v2 := by
  unfold layT at h ⊢
  split at h <;> try exact h
  · intro h9
    obtain ⟨A, c, h1, h2⟩ := h (upd_false h9)
    exact ⟨A, c, h1, h2.below hb⟩
  · intro h9
    obtain ⟨A, c, h1, h2⟩ := h (upd_false h9)
    exact ⟨A, c, h1, h2.below hb⟩
  · intro h9
    obtain ⟨A, k, c, h1, h2⟩ := h (upd_false h9)
    exact ⟨A, k, c, h1, h2.below hb⟩
  · obtain ⟨g, h1, h2, h3⟩ := h
    exact ⟨g, h1, h2, by rw [upd_other (fun e => hi e.symm)]; exact (hb.block _ (Array.getElem?_eq_some_iff.1 h3).1).trans h3⟩
set_option maxRecDepth 100000 in
set_option maxHeartbeats 4000000 in
theorem EngineLayers_walk (p : Prod) (A : Option Addr) (n c : Nat) (E : Option Addr) (m ce : Nat) (l : List Ev) (x y : Int) (w : World) (hA : RdI w A n p.bounds) (hs : p.name.size ≤ 140737488351232) (hn : n ≤ c) (hc : c * 8 ≤ 140737488351232) (hE : RdE w E m l) (hm : m ≤ ce) (hce : ce * 56 ≤ 140737488351232) (he : ∀ e ∈ l, e.loan.size ≤ 140737488351232 ∧ (-9223372036854775808 ≤ e.day ∧ e.day ≤ 9223372036854775807) ∧ (-9223372036854775808 ≤ e.seq ∧ e.seq ≤ 9223372036854775807)) (bx0 : -9223372036854775808 ≤ x) (bx1 : x ≤ 9223372036854775807) (by0 : -9223372036854775808 ≤ y) (by1 : y ≤ 9223372036854775807) :
    Calls Try.prog 5 #[p.val (.slice A n c), .slice E m ce, .agg #[.int .i64 x, .int .i64 y]] w fun e w' => e = .returned (.bool true) ∧ Below w.heap.size w w' := by
  have WK := Lib.hid wakes_any
  have CP := Lib.hid fun W (h : RdI W A n p.bounds) => Copy_any p A n c W h (by omega)
  have HA := Lib.hid hA
  have HE := Lib.hid hE
  have hlm := Lib.hid hE.1
  have hm12 : m ≤ 1000000000000000 := by omega
  have hn12 : n ≤ 17592186044416 := by omega
  have hiP : (Try.prog.info? 25).map (·.size) = some (pCells p (.slice A n c)).size := info_prod _ _
  unfold Prod.val at CP ⊢
  generalize hPC : pCells p (.slice A n c) = PC at *
  have HPC := Lib.hid hPC
  clear hPC hA hE he
  obtain ⟨w1, hw1⟩ : ∃ w1, w1 = (w.alloc (.cells PC 25)).alloc (.cells #[.int .i64 x, .int .i64 y] 43) := ⟨_, rfl⟩
  have hz1 : w1.heap.size = w.heap.size + 2 := by rw [hw1]; simp
  have hb1 : Below w.heap.size w w1 := by rw [hw1]; exact ((Below.refl _ _).alloc (Nat.le_refl _) _).alloc (by simp) _
  have hP1 : w1.heap[w.heap.size]? = some (.cells PC 25 (0, 0)) := by rw [hw1]; exact heap_old (heap_alloc_new _ _)
  have hT1 : w1.heap[w.heap.size + 1]? = some (.cells #[.int .i64 x, .int .i64 y] 43 (0, 0)) := by rw [hw1, ← World.size_alloc w]; exact heap_alloc_new _ _
  go_enter Try.func5, Try.ntmps5
  go_upto_region 1 with (fail)
  rw [← hw1]
  clear hw1
  go_upto_region 3 with (first
    | (go_at_call 6; refine (WK.out _).mono ?_; rintro e w2 ⟨rfl, hb2⟩))
  have hb02 := hb1.trans (hb2.mono hb1.size)
  have hP2 := (hb2.block _ (by omega)).trans hP1
  have hT2 := (hb2.block (w.heap.size + 1) (by omega)).trans hT1
  have hs2 : w.heap.size + 2 ≤ w2.heap.size := by have := hb2.size; omega
  clear hP1 hT1 hb1 hb2 WK
  go_upto_region 4 with (first
    | (refine wpList_load_row rfl 25 _ rfl _ rfl _ _ _ _ hP2 Try.underlying25 rfl hiP ?_)
    | (go_at_call 8; refine (CP.out _ (HA.out.below hb02)).mono ?_; rintro e w3 ⟨⟨A3, c3, rfl, hA3⟩, hb3⟩))
  go_at_call 7
  refine (New_b p A3 n c3 w3 hA3 (by omega)).mono ?_
  rintro e w4 ⟨hb4, hcase⟩
  have hb24 : Below w2.heap.size w2 w4 := hb3.trans (hb4.mono hb3.size)
  have hs4 := hb24.size
  rcases hcase with ⟨hno, rfl⟩ | ⟨hok, ge, rfl, hEn⟩
  · clear CP HPC hP2 hT2
    go_wp2_with fail
    go_ret
    exact ⟨rfl, hb02.trans (hb24.mono (by omega))⟩
  have hP4 := (hb24.block _ (by omega)).trans hP2
  have hT4 := (hb24.block (w.heap.size + 1) (by omega)).trans hT2
  have hE4 := HE.out.below (hb02.trans (hb24.mono (by omega)))
  have hA4 := HA.out.below (hb02.trans (hb24.mono (by omega)))
  have HEn := Lib.hid hEn
  have hbase : w2.heap.size ≤ w3.heap.size := hb3.size
  have hb43 := hb4.size
  have HB4 := Lib.hid (hb02.trans (hb24.mono (by omega)))
  clear hb24 hb02 hb3 hb4 hP2 hT2 hA3 hEn
  generalize hbs : w3.heap.size = base at *
  have HKEEP : Hid (∀ W, EK base w4 W → RdE W E m l ∧ RdI W A n p.bounds ∧ W.heap[w.heap.size]? = some (.cells PC 25 (0, 0)) ∧ W.heap[w.heap.size + 1]? = some (.cells #[.int .i64 x, .int .i64 y] 43 (0, 0)) ∧ Below w.heap.size w W) := Lib.hid fun W hW => by
    have hW2 : Below w2.heap.size w4 W := hW.below hbase hs4
    have hlt := fun k (h : k < w.heap.size) => HB4.out.block k h
    refine ⟨?_, ?_, (hW2.block _ (by omega)).trans hP4, (hW2.block _ (by omega)).trans hT4, HB4.out.trans (hW2.mono (by omega))⟩
    · exact rdE_keep hE4 fun hn ad e => hW2.block _ (by have := rdE_lt HE.out hn ad e; omega)
    · exact rdI_keep hA4 fun hn ad e => hW2.block _ (by have := rdI_lt HA.out hn ad e; omega)
  clear hP4 hT4 hE4 hA4
  go_upto_block 0 with (fail)
  go_cut [28] from 29 to 48 (fun _ wx => ∃ L, Hid (EnB wx base w4.heap.size ge p L) ∧ Hid (EK base w4 wx))
  case first =>
    go_wp2
    go_loopw [28] (fun t wr => ∃ (j : Nat) (L : List Ev), j ≤ m ∧ t = .int .i64 (j : Int) ∧ Hid (EnB wr base w4.heap.size ge p L) ∧ Hid (EK base w4 wr)) (fun t _ => m - (intOf t).toNat)
    case atStart => exact ⟨0, [], Nat.zero_le _, rfl, HEn, Lib.hid (EK.refl _ _)⟩
    case round =>
      obtain ⟨j, L, hj, rfl, HE5, HK5⟩ := hrel
      obtain ⟨w5, rfl⟩ : ∃ x, x = wr := ⟨_, rfl⟩
      by_cases hlt : j < m
      · by_cases h40 : (40 : Int) < (j : Int)
        · go_wp2_with fail
          go_meet
          exact ⟨L, HE5, HK5⟩
        · obtain ⟨hrd, _, _, hT5, _⟩ := HKEEP.out w5 HK5.out
          obtain ⟨b0, off, rfl, hcs⟩ := hrd.2 (by omega)
          have hjl : j < l.length := by have := hlm.out; omega
          have hrow := hcs j hjl
          have hbs5 : base ≤ w5.heap.size := by have := HK5.out.size; omega
          have ADD := Lib.hid (Add_b HE5.out l[j] hbs5)
          unfold Ev.val at ADD
          have hie := info_ev l[j]
          have hmid : w5.rangeAt b0 (off + j * 6) (evCells l[j]).toList := fun q u hu => hrow q u (by simpa using hu)
          have hi6 : (Try.prog.info? 38).map (·.size) = some (evCells l[j]).toList.length := by rw [show (evCells l[j]).toList.length = 6 from rfl]; kernel_rfl
          clear hrd hcs hrow
          generalize l[j] = e at *
          obtain ⟨r, hr, hrc⟩ : ∃ r : Int, (j : Int).tmod 3 = r ∧ (r = 0 ∨ (r == 0) = false) := ⟨_, rfl, by
            by_cases h : (j : Int).tmod 3 = 0
            · exact .inl h
            · exact .inr (by simpa using h)⟩
          go_upto_region 11 with (first
            | (refine wpList_load_mid rfl 38 _ rfl b0 (off + j * 6) rfl (evCells e).toList _ hmid Try.underlying38 rfl hi6 ?_)
            | (go_at_call 9; refine ADD.out.mono ?_; rintro x w6 ⟨rfl, hk6, hE6⟩))
          have HE6 := Lib.hid hE6
          have HK6 := Lib.hid (HK5.out.trans hk6)
          have hT6 := (HKEEP.out w6 HK6.out).2.2.2.1
          have x0 : w6.cell? ⟨w.heap.size + 1, 0, none⟩ = some (.int .i64 x) := by rw [cell_of_row _ _ _ _ _ _ hT6]; rfl
          clear ADD hk6 hE6 hmid hi6 HE5 HK5 hT5
          generalize addTo L e = L2 at *
          rcases hrc with rfl | hrc
          · go_wp2_with (first
              | (go_at_call 11; refine (At_b HE6.out _).mono ?_; rintro x w7 ⟨rfl, hk7, hE7⟩))
            go_roundw
            case rel => exact ⟨j + 1, L2, by omega, by go_num, Lib.hid hE7, Lib.hid (HK6.out.trans hk7)⟩
            case measure => simp [intOf]; omega
          · go_wp2_with fail
            go_roundw
            case rel => exact ⟨j + 1, L2, by omega, by go_num, HE6, HK6⟩
            case measure => simp [intOf]; omega
      · go_wp2_with fail
        go_meet
        exact ⟨L, HE5, HK5⟩
  case rest =>
    obtain ⟨Lst, HE5, HK5⟩ := hcut
    obtain ⟨w5, rfl⟩ : ∃ x, x = wc := ⟨_, rfl⟩
    obtain ⟨_, _, _, hT5, _⟩ := HKEEP.out w5 HK5.out
    have x0 : w5.cell? ⟨w.heap.size + 1, 0, none⟩ = some (.int .i64 x) := by rw [cell_of_row _ _ _ _ _ _ hT5]; rfl
    have x1 : w5.cell? ⟨w.heap.size + 1, 1, none⟩ = some (.int .i64 y) := by rw [cell_of_row _ _ _ _ _ _ hT5]; rfl
    have ASF := Lib.hid (AsOf_b HE5.out x y)
    obtain ⟨s, e, hans⟩ : ∃ s e, replayAns p (knownOf Lst y) x = (s, e) := ⟨_, _, rfl⟩
    rw [hans] at ASF
    unfold St.val at ASF
    have HANS := Lib.hid hans
    have hsi := info_st s
    have hso := st_one s
    have hsz : ((Try.prog.info? 40).bind (·.zero)).map (·.cells.size) = some (stCells s).size := by rw [show (stCells s).size = 12 from rfl]; kernel_rfl
    have heq : ∀ W, (Op.equalIn 10000 40 (.agg (stCells s)) (.agg (stCells s))).run Try.prog W = .ok true W := fun W => st_equal s W
    have g40 : Try.prog.eqGuardType Try.prog.depth 40 = false := by kernel_rfl
    clear hans
    generalize hSC : stCells s = S at *
    have HSC := Lib.hid hSC
    clear hSC
    go_upto_region 15 with (first
      | (go_at_call 10; refine ASF.out.mono ?_; rintro x w6 ⟨rfl, hk6, hE6⟩)
      | (refine alloc_store rfl rfl 40 _ _ rfl rfl rfl rfl S rfl rfl hsz hsi hso ?_))
    obtain ⟨g10, hg10⟩ : ∃ g10, g10 = w6.heap.size := ⟨_, rfl⟩
    rw [← hg10]
    refine wp_at (fun wx => wx.heap[g10]? = some (.cells S 40 (0, 0)) ∧ Below w6.heap.size w6 wx) (by rw [hg10]; exact ⟨heap_alloc_new _ _, (Below.refl _ _).alloc (Nat.le_refl _) _⟩) ?_
    rintro w7 ⟨hr7, hb7⟩
    clear hg10
    have HE7 := Lib.hid (hE6.below hb7)
    obtain ⟨hrd7, hrI7, hP7, hT7, hb07⟩ := HKEEP.out w7 ((HK5.out.trans hk6).trans (EK.of_below hb7))
    clear x0 x1 ASF hk6 hE6 HE5 HK5 hT5 hb7
    have hsT := hb07.size
    go_cut [12, 13] from 58 to 70 (fun t12 t13 wx => ∃ g : Nat, t12 = .pointer (some ⟨g, 0, none⟩) ∧ t13 = .int .i64 e ∧ Hid (wx.heap[g]? = some (.cells S 40 (0, 0))) ∧ Hid (Below w7.heap.size w7 wx))
    case first =>
      refine region_letters fun a Q ha hQ => ?_
      have HA' := Lib.hid ha
      have HQ := Lib.hid hQ
      have e3 : a.eval (.tmp 3) = .pointer (some ⟨w.heap.size, 0, none⟩) := by rw [ha]; rfl
      have e5 : a.eval (.tmp 5) = .pointer (some ⟨w.heap.size + 1, 0, none⟩) := by rw [ha]; rfl
      have e7 : a.eval (.tmp 7) = .pointer (some ⟨ge, 0, none⟩) := by rw [ha]; rfl
      have hsz79 : a.tmps.size = 79 := by rw [ha]; rfl
      clear ha hQ
      refine region_ops (by kernel_rfl) [58, 59, 60, 61, 62, 63, 64, 65, 66, 67, 68, 69, 70, 12, 13] (layG w7) (layT p PC S (stCells St.zero) n Lst x y e (w.heap.size + 1) ge w7.heap.size) (by kernel_rfl) (fun t h => by rw [hsz79] at h; simp; omega) ((Below.refl _ _).drew) ⟨?_, ?_, ?_, ?_, ?_, ?_, ?_, ?_, ?_, ?_, ?_, ?_, ?_, ?_, ?_, ?_, trivial⟩ ?_
      · intro L b v hi hdep hcl hf hg ht
        have hg : Below w7.heap.size w7 v := hg
        exact still_ok (.agg PC) (exec_row 25 (.tmp 3) rfl w.heap.size (by rw [hf.eval (by decide)]; exact e3) _ _ _ _ ((Below.block hg _ (Array.getElem?_eq_some_iff.1 hP7).1).trans hP7) Try.underlying25 rfl hiP) hg (rfl) (fun j oj d _ _ _ _ h => layT_keep (show (0 : Nat) ≠ 14 by decide) (Below.refl _ _) h)
      · intro L b v hi hdep hcl hf hg ht
        have hg : Below w7.heap.size w7 v := hg
        have x0 : b.eval (.tmp 59) = .agg PC := ht 0 _ 59 rfl rfl (hdep 0 (by decide))
        refine call_ok 8 #[.tmp 59] _ rfl #[.agg PC] (by simp [x0]) (enters_of Try.func8 (by kernel_rfl) rfl) ((CP.out v (hrI7.below hg)).mono ?_)
        rintro r v2 ⟨⟨A2, c2, rfl, hA2⟩, hb2⟩
        exact ⟨_, rfl, hg.trans (hb2.mono hg.size), fun _ => ⟨A2, c2, rfl, hA2⟩, fun j oj d _ _ _ _ h => layT_keep (by omega) hb2 h⟩
      · intro L b v hi hdep hcl hf hg ht
        have hg : Below w7.heap.size w7 v := hg
        exact still_ok (.pointer (some ⟨ge, 0, none⟩)) (by rw [exec_move (.tmp 7) rfl, hf.eval (by decide), e7]) hg (rfl) (fun j oj d _ _ _ _ h => layT_keep (by omega) (Below.refl _ _) h)
      · intro L b v hi hdep hcl hf hg ht
        have hg : Below w7.heap.size w7 v := hg
        have x0 : b.eval (.tmp 61) = .pointer (some ⟨ge, 0, none⟩) := ht 2 _ 61 rfl rfl (hdep 2 (by decide))
        refine call_ok 12 #[.tmp 61] _ rfl #[.pointer (some ⟨ge, 0, none⟩)] (by simp [x0]) (enters_of Try.func12 (by kernel_rfl) rfl) ((Events_b (HE7.out.below hg)).mono ?_)
        rintro r v2 ⟨E2, c2, rfl, hown, hb2⟩
        exact ⟨_, rfl, hg.trans (hb2.mono hg.size), fun _ => ⟨E2, c2, rfl, (Rd.of_own hown).ev⟩, fun j oj d _ _ _ _ h => layT_keep (by omega) hb2 h⟩
      · intro L b v hi hdep hcl hf hg ht
        have hg : Below w7.heap.size w7 v := hg
        have x0 : b.eval (.tmp 5) = .pointer (some ⟨w.heap.size + 1, 0, none⟩) := by rw [hf.eval (by decide)]; exact e5
        exact still_ok (.pointer (some ⟨w.heap.size + 1, 1, none⟩)) (by unfold execOp; simp only [x0]; go_simp) hg (rfl) (fun j oj d _ _ _ _ h => layT_keep (by omega) (Below.refl _ _) h)
      · intro L b v hi hdep hcl hf hg ht
        have hg : Below w7.heap.size w7 v := hg
        have x0 : b.eval (.tmp 63) = .pointer (some ⟨w.heap.size + 1, 1, none⟩) := ht 4 _ 63 rfl rfl (hdep 4 (by decide))
        have hc : v.cell? ⟨w.heap.size + 1, 1, none⟩ = some (.int .i64 y) := by rw [cell_of_row _ _ _ _ _ _ ((Below.block hg _ (Array.getElem?_eq_some_iff.1 hT7).1).trans hT7)]; rfl
        exact still_ok (.int .i64 y) (by unfold execOp; simp only [x0]; go_simp) hg (rfl) (fun j oj d _ _ _ _ h => layT_keep (by omega) (Below.refl _ _) h)
      · intro L b v hi hdep hcl hf hg ht
        have hg : Below w7.heap.size w7 v := hg
        have x0 : b.eval (.tmp 64) = .int .i64 y := ht 5 _ 64 rfl rfl (hdep 5 (by decide))
        have x1 : L 6 = false → ∃ E c, b.eval (.tmp 62) = .slice E Lst.length c ∧ RdE v E Lst.length Lst := ht 3 _ 62 rfl rfl (hdep 3 (by decide))
        obtain ⟨E2, c2, x1, hE2⟩ := x1 hi
        refine call_ok 14 #[.tmp 62, .tmp 64] _ rfl #[.slice E2 Lst.length c2, .int .i64 y] (by simp [x0, x1]) (enters_of Try.func14 (by kernel_rfl) rfl) ((Known_any E2 Lst.length c2 Lst y v hE2 (by have := HE7.out.evs.len; omega) HE7.out.evs.rise).mono ?_)
        rintro r v2 ⟨E3, k3, c3, rfl, hE3, _, hb2, _⟩
        exact ⟨_, rfl, hg.trans (hb2.mono hg.size), fun _ => ⟨E3, k3, c3, rfl, hE3⟩, fun j oj d _ _ _ _ h => layT_keep (by omega) hb2 h⟩
      · intro L b v hi hdep hcl hf hg ht
        have hg : Below w7.heap.size w7 v := hg
        have x0 : b.eval (.tmp 5) = .pointer (some ⟨w.heap.size + 1, 0, none⟩) := by rw [hf.eval (by decide)]; exact e5
        exact still_ok (.pointer (some ⟨w.heap.size + 1, 0, none⟩)) (by unfold execOp; simp only [x0]; go_simp) hg (rfl) (fun j oj d _ _ _ _ h => layT_keep (by omega) (Below.refl _ _) h)
      · intro L b v hi hdep hcl hf hg ht
        have hg : Below w7.heap.size w7 v := hg
        have x0 : b.eval (.tmp 66) = .pointer (some ⟨w.heap.size + 1, 0, none⟩) := ht 7 _ 66 rfl rfl (hdep 7 (by decide))
        have hc : v.cell? ⟨w.heap.size + 1, 0, none⟩ = some (.int .i64 x) := by rw [cell_of_row _ _ _ _ _ _ ((Below.block hg _ (Array.getElem?_eq_some_iff.1 hT7).1).trans hT7)]; rfl
        exact still_ok (.int .i64 x) (by unfold execOp; simp only [x0]; go_simp) hg (rfl) (fun j oj d _ _ _ _ h => layT_keep (by omega) (Below.refl _ _) h)
      · intro L b v hi hdep hcl hf hg ht
        have hg : Below w7.heap.size w7 v := hg
        have x0 : b.eval (.tmp 67) = .int .i64 x := ht 8 _ 67 rfl rfl (hdep 8 (by decide))
        have x1 : L 9 = false → ∃ A c, b.eval (.tmp 60) = .agg (pCells p (.slice A n c)) ∧ RdI v A n p.bounds := ht 1 _ 60 rfl rfl (hdep 1 (by decide))
        obtain ⟨A2, c2, x1, hA2⟩ := x1 hi
        have x2 : L 9 = false → ∃ E k c, b.eval (.tmp 65) = .slice E k c ∧ RdE v E k (knownOf Lst y) := ht 6 _ 65 rfl rfl (hdep 6 (by decide))
        obtain ⟨E2, k2, c3, x2, hE2⟩ := x2 hi
        have hk2 : k2 ≤ 1000000000000000000 := by have h1 := hE2.1; have h2 := known_len Lst y HE7.out.evs.rise; have := HE7.out.evs.len; omega
        refine call_ok 13 #[.tmp 60, .tmp 65, .tmp 67] _ rfl #[.agg (pCells p (.slice A2 n c2)), .slice E2 k2 c3, .int .i64 x] (by simp [x0, x1, x2]) (enters_of Try.func13 (by kernel_rfl) rfl) ((Replay_any p A2 n c2 E2 k2 c3 (knownOf Lst y) x v hA2 hE2 hk2).mono ?_)
        rintro r v2 ⟨rfl, hb2⟩
        rw [HANS.out]
        refine ⟨_, rfl, hg.trans (hb2.mono hg.size), ?_, fun j oj d _ _ _ _ h => layT_keep (by omega) hb2 h⟩
        show Value.tuple #[.agg (stCells s), .int .i64 e] = .tuple #[.agg S, .int .i64 e]
        rw [HSC.out]
      · intro L b v hi hdep hcl hf hg ht
        have hg : Below w7.heap.size w7 v := hg
        have x0 : b.eval (.tmp 68) = .tuple #[.agg S, .int .i64 e] := ht 9 _ 68 rfl rfl (hdep 9 (by decide))
        exact still_ok (.tuple #[.agg S, .int .i64 e]) (by rw [exec_move (.tmp 68) rfl, x0]) hg (rfl) (fun j oj d _ _ _ _ h => layT_keep (by omega) (Below.refl _ _) h)
      · intro L b v hi hdep hcl hf hg ht
        have hg : Below w7.heap.size w7 v := hg
        have x0 : b.eval (.tmp 58) = .tuple #[.agg S, .int .i64 e] := ht 10 _ 58 rfl rfl (hdep 10 (by decide))
        exact still_ok (.agg S) (exec_extract (.tmp 58) 0 rfl _ _ x0 rfl) hg (rfl) (fun j oj d _ _ _ _ h => layT_keep (by omega) (Below.refl _ _) h)
      · intro L b v hi hdep hcl hf hg ht
        have hg : Below w7.heap.size w7 v := hg
        have x0 : b.eval (.tmp 58) = .tuple #[.agg S, .int .i64 e] := ht 10 _ 58 rfl rfl (hdep 10 (by decide))
        exact still_ok (.int .i64 e) (exec_extract (.tmp 58) 1 rfl _ _ x0 rfl) hg (rfl) (fun j oj d _ _ _ _ h => layT_keep (by omega) (Below.refl _ _) h)
      · intro L b v hi hdep hcl hf hg ht
        have hg : Below w7.heap.size w7 v := hg
        have hb2 : Below v.heap.size v (v.alloc (.cells (stCells St.zero) 40)) := (Below.refl _ _).alloc (Nat.le_refl _) _
        have h14 : L 14 = false := by
          cases h : L 14 with
          | false => rfl
          | true => rw [hcl 14 _ 13 rfl h (by decide)] at hi; cases hi
        refine makes_ok _ (exec_alloc 40 rfl (stCells St.zero) (by kernel_rfl)) (hg.trans (hb2.mono hg.size)) ⟨v.heap.size, rfl, hg.size, ?_⟩ (fun j oj d _ _ _ _ h => layT_keep (by omega) hb2 h)
        rw [upd_other (by omega), h14]
        exact heap_alloc_new _ _
      · intro L b v hi hdep hcl hf hg ht
        have hg : Below w7.heap.size w7 v := hg
        have x0 : b.eval (.tmp 69) = .agg S := ht 11 _ 69 rfl rfl (hdep 11 (by decide))
        have x1 : ∃ g, b.eval (.tmp 12) = .pointer (some ⟨g, 0, none⟩) ∧ w7.heap.size ≤ g ∧ v.heap[g]? = some (.cells (if L 14 = true then S else stCells St.zero) 40 (0, 0)) := ht 13 _ 12 rfl rfl (hdep 13 (by decide))
        obtain ⟨g, x1, hgt, hrg⟩ := x1
        have h10 := hcl 11 _ 10 rfl (hdep 11 (by decide)) (by decide)
        have h9 := hcl 10 _ 9 rfl h10 (by decide)
        have h6 := hcl 9 _ 6 rfl h9 (by decide)
        rw [hi] at hrg
        refine skip_ok (exec_store_row 40 (.tmp 12) (.tmp 69) rfl g S x1 x0 _ _ hrg hsi (by rw [← HSC.out]; rfl) hso) (below_row hg hgt _) trivial ?_
        intro j oj d hoj hd hj _ h
        unfold layT at h ⊢
        split at h <;> try exact h
        · intro h5; rw [upd_true h9] at h5; cases h5
        · intro h5; rw [upd_true h6] at h5; cases h5
        · intro h5; rw [upd_true h9] at h5; cases h5
        · obtain rfl : d = 12 := by
            have h7 : (some 12 : Option Nat) = some d := dst_at hoj hd rfl
            injection h7 with h7
            exact h7.symm
          refine ⟨g, x1, hgt, ?_⟩
          rw [upd_self, if_pos rfl]
          exact setRow_heap _ _ _ _ _ _ hrg
      · intro L b v hi hdep hcl hf hg ht
        have hg : Below w7.heap.size w7 v := hg
        have x0 : b.eval (.tmp 70) = .int .i64 e := ht 12 _ 70 rfl rfl (hdep 12 (by decide))
        exact still_ok (.int .i64 e) (by rw [exec_assign (.tmp 70) rfl, x0]) hg (rfl) (fun j oj d _ _ _ _ h => layT_keep (by omega) (Below.refl _ _) h)
      · intro b v hf hg ht
        obtain ⟨g, x1, hgt, hrg⟩ : ∃ g, b.eval (.tmp 12) = .pointer (some ⟨g, 0, none⟩) ∧ w7.heap.size ≤ g ∧ v.heap[g]? = some (.cells (if decide (14 < 16) = true then S else stCells St.zero) 40 (0, 0)) := ht 13 _ 12 rfl rfl
        have x2 : b.eval (.tmp 13) = .int .i64 e := ht 15 _ 13 rfl rfl
        refine HQ.out b v ?_
        rw [hf.out]
        simp only [List.foldl_cons, List.foldl_nil, x1, x2]
        rw [HA'.out]
        generalize b.eval (.tmp 58) = u58
        generalize b.eval (.tmp 59) = u59
        generalize b.eval (.tmp 60) = u60
        generalize b.eval (.tmp 61) = u61
        generalize b.eval (.tmp 62) = u62
        generalize b.eval (.tmp 63) = u63
        generalize b.eval (.tmp 64) = u64
        generalize b.eval (.tmp 65) = u65
        generalize b.eval (.tmp 66) = u66
        generalize b.eval (.tmp 67) = u67
        generalize b.eval (.tmp 68) = u68
        generalize b.eval (.tmp 69) = u69
        generalize b.eval (.tmp 70) = u70
        simp only [Act.put, List.setIfInBounds_toArray, List.set_cons_succ, List.set_cons_zero]
        go_wp2_with fail
        go_meet
        exact ⟨g, rfl, rfl, Lib.hid (by simpa using hrg), Lib.hid hg⟩
    case rest =>
      obtain ⟨g, rfl, rfl, HR8, HB8⟩ := hcut
      obtain ⟨w8, rfl⟩ : ∃ x, x = wc := ⟨_, rfl⟩
      have hr8 := HR8.out
      have hq8 := (HB8.out.block _ (Array.getElem?_eq_some_iff.1 hr7).1).trans hr7
      go_wp2_with (first
        | (refine wpList_load_row rfl 40 _ rfl g10 rfl _ _ _ _ hq8 Try.underlying40 rfl hsi ?_)
        | (refine wpList_load_row rfl 40 _ rfl g rfl _ _ _ _ hr8 Try.underlying40 rfl hsi ?_))
      go_ret
      exact ⟨by simp, hb07.trans (HB8.out.mono hsT)⟩
end Go.Proofs.Ytcbopgopegphlaa
