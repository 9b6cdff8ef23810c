/-
  The walk of FrameTold.
-/
import Derived.Test.YtcpojhckgoinmaaFrameBack
import Derived.Test.YtcpojhckgoinmaaFrameSums
import Derived.Test.YtcpojhckgoinmaaOnlyA
namespace Go.Proofs.Ytcpojhckgoinmaa
open Go.RowKit
set_option linter.unusedVariables false

/-- The frames up to the j-th, the wh-th as given. -/
def toldTo (ps : List (List UInt8)) (wh : Nat) (fr : List UInt8) : Nat → List UInt8
  | 0 => []
  | j + 1 => toldTo ps wh fr j ++ (if j = wh then fr else frameOf (ps.getD j []))
theorem told_le (ps : List (List UInt8)) (wh : Nat) (fr : List UInt8) (j : Nat) (hj : j ≤ wh) (hw : wh ≤ ps.length) : toldTo ps wh fr j = flat (ps.take j) := by
  induction j with
  | zero => simp [toldTo, flat]
  | succ j ih =>
    have hlt : j < ps.length := by omega
    rw [toldTo, ih (by omega), if_neg (by omega), flat_step ps j hlt, List.getD_eq_getElem?_getD, List.getElem?_eq_getElem hlt]
    rfl
theorem told_gt (ps : List (List UInt8)) (wh : Nat) (fr : List UInt8) (j : Nat) (hw : wh ≤ ps.length) : ∃ rest, toldTo ps wh fr (wh + 1 + j) = flat (ps.take wh) ++ (fr ++ rest) := by
  induction j with
  | zero => exact ⟨[], by rw [Nat.add_zero, toldTo, if_pos rfl, told_le ps wh fr wh (Nat.le_refl _) hw, List.append_nil]⟩
  | succ j ih =>
    obtain ⟨r, hr⟩ := ih
    exact ⟨r ++ frameOf (ps.getD (wh + 1 + j) []), by rw [show wh + 1 + (j + 1) = (wh + 1 + j) + 1 by omega, toldTo, hr, if_neg (by omega)]; simp⟩
theorem told_len (ps : List (List UInt8)) (wh : Nat) (fr : List UInt8) (hfr : fr.length ≤ 308) (j : Nat) (hj : j ≤ ps.length) (h : ∀ i (hi : i < ps.length), i < j → ps[i].length ≤ 300) : (toldTo ps wh fr j).length ≤ 308 * j := by
  induction j with
  | zero => simp [toldTo]
  | succ j ih =>
    have h1 := ih (by omega) fun i hi hij => h i hi (by omega)
    have hlt : j < ps.length := by omega
    have h2 := h j hlt (by omega)
    have h3 : (ps.getD j []).length ≤ 300 := by
      rw [List.getD_eq_getElem?_getD, List.getElem?_eq_getElem hlt]
      exact h2
    rw [toldTo, List.length_append]
    split
    · omega
    · rw [frameOf_len]; omega
/-- The turned frame. -/
def turnAt (p : List UInt8) (q : Nat) : Nat := 4 + q % (p.length + 4)
def turnTo (p : List UInt8) (q : Nat) : UInt8 := UInt8.ofNat (((frameOf p).getD (turnAt p q) 0).toNat ^^^ (1 + q % 255))
def turned (p : List UInt8) (q : Nat) : List UInt8 := (frameOf p).set (turnAt p q) (turnTo p q)
theorem turned_len (p : List UInt8) (q : Nat) : (turned p q).length = 8 + p.length := by
  unfold turned
  rw [List.length_set, frameOf_len]
theorem turnTo_ne (p : List UInt8) (q : Nat) (hq : q < 256) : (frameOf p).getD (turnAt p q) 0 ≠ turnTo p q := by
  intro hh
  have h3 := congrArg UInt8.toNat hh
  have hx := ((frameOf p).getD (turnAt p q) 0).toNat_lt
  unfold turnTo at h3
  rw [u8_ofNat _ (Nat.xor_lt_two_pow (n := 8) hx (by omega))] at h3
  have h4 : ((frameOf p).getD (turnAt p q) 0).toNat ^^^ (1 + q % 255) = ((frameOf p).getD (turnAt p q) 0).toNat ^^^ 0 := by rw [← h3, Nat.xor_zero]
  have h5 := xorL h4
  omega
theorem all_told (ps : List (List UInt8)) (wh q : Nat) (hw : wh < ps.length) (hq : q < 256) (h : ∀ p ∈ ps, p.length ≤ 2097152) : allOf (toldTo ps wh (turned ps[wh] q) ps.length) = (ps.take wh, (flat (ps.take wh)).length, 11) := by
  obtain ⟨rest, hr⟩ := told_gt ps wh (turned ps[wh] q) (ps.length - (wh + 1)) (by omega)
  rw [show wh + 1 + (ps.length - (wh + 1)) = ps.length by omega] at hr
  rw [hr]
  have hat : turnAt ps[wh] q < 8 + ps[wh].length := by
    have := Nat.mod_lt q (show 0 < ps[wh].length + 4 by omega)
    unfold turnAt
    omega
  have hx : (frameOf ps[wh])[turnAt ps[wh] q]? = some ((frameOf ps[wh]).getD (turnAt ps[wh] q) 0) := by
    have : turnAt ps[wh] q < (frameOf ps[wh]).length := by rw [frameOf_len]; exact hat
    rw [List.getD_eq_getElem?_getD, List.getElem?_eq_getElem this]
    rfl
  have h11 := rd_turned (flat (ps.take wh)) ps[wh] rest (turnAt ps[wh] q) _ (turnTo ps[wh] q) (h _ (List.getElem_mem hw)) (by unfold turnAt; omega) hat hx (turnTo_ne _ q hq)
  have hs := stands_flat (ps.take wh) (turned ps[wh] q ++ rest) (fun p hp => h p (List.mem_of_mem_take hp))
  have h12 : (rd (flat (ps.take wh) ++ (turned ps[wh] q ++ rest)) (flat (ps.take wh)).length).2.2 = 11 := h11
  rw [hs.fin (by rw [h12]; decide), h12]
  rfl
theorem elemSizeP (W : World) : (sizeOf (Try.prog.elem 39)).run Try.prog W = .ok 1 W := by kernel_rfl
theorem elemUndP : Try.prog.underlying 39 = some (.slice (Try.prog.elem 39)) := by kernel_rfl
theorem RdP.cut_h {w : World} {A : Option Addr} {n : Nat} {ps : List (List UInt8)} (h : RdP w A n ps) (c : Nat) (hc : n ≤ c) (j : Nat) (hj : j ≤ n) (J : Int) (hJ : J = (j : Int)) :
    ∃ A', (∀ W, (Instr.slice 39 (.slice A n c) none (some (.int .i64 J)) none).run Try.prog W = .ok (.slice A' j c) W) ∧ RdP w A' j (ps.take j) := by
  have hl := h.1
  refine ⟨if c = 0 then A else A.map (·.add (0 * 1)), fun W => ?_, by rw [List.length_take]; omega, fun i hi => ?_⟩
  · subst hJ
    rw [run_slice_h W 39 A n c elemUndP .i64 _ (by omega) (by omega), elemSizeP]
    simp [Result.andThen, sliced]
  · rw [List.length_take] at hi
    obtain ⟨b, off, Au, mu, cu, rfl, h2, h3, h4⟩ := h.2 i (by omega)
    rw [if_neg (by omega)]
    refine ⟨b, off, Au, mu, cu, by simp [add_plain], h2, ?_, h4⟩
    rw [List.getElem_take]
    exact h3
set_option maxRecDepth 100000 in
set_option maxHeartbeats 4000000 in
theorem FrameTold_walk (A : Option Addr) (n c : Nat) (p q' : Int) (w : World) (ps : List (List UInt8)) (h : RdP w A n ps) (hn : n ≤ c) (hl : n ≤ 1048576) (ht : (ps.map List.length).sum ≤ 1048576) (hp0 : -9223372036854775808 ≤ p) (hp1 : p ≤ 9223372036854775807) (hq0 : 0 ≤ q') (hq1 : q' ≤ 255) :
    Calls Try.prog 7 #[.slice A n c, .int .i64 p, .int .u8 q'] w fun e w' => e = .returned (.bool true) ∧ Below w.heap.size w w' := by
  obtain ⟨q, rfl⟩ := Int.eq_ofNat_of_zero_le hq0
  have hq : q < 256 := by omega
  have HL := Lib.hid h.1
  have HX := Lib.hid h
  have HP : Hid (∀ p ∈ ps, p.length ≤ 2097152) := Lib.hid (fun p hp => by
    obtain ⟨j, hj, rfl⟩ := List.getElem_of_mem hp
    have := le_sum ps j hj
    omega)
  have HJ : Hid (∀ j (hj : j < ps.length), ps[j].length ≤ 1048576) := Lib.hid (fun j hj => by have := le_sum ps j hj; omega)
  have HW := Lib.hid wakes_any
  clear h ht
  go_enter Try.func7, Try.ntmps7
  go_wp2_with fail
  refine (HW.out w).mono ?_
  rintro e w1 ⟨rfl, hb1⟩
  by_cases hn0 : n = 0
  · subst hn0
    go_wp2
    go_ret
    exact ⟨rfl, hb1⟩
  obtain ⟨wh, hwh, hwn⟩ : ∃ wh : Nat, wrap64 ((IntKind.u64.wrap p).tmod (n : Int)) = (wh : Int) ∧ wh < n := by
    have e1 : (IntKind.u64.wrap p) = p % 18446744073709551616 := by simp [IntKind.wrap, IntKind.bits, IntKind.signed]
    have h1 : 0 ≤ p % 18446744073709551616 := Int.emod_nonneg _ (by omega)
    rw [e1, Int.tmod_eq_emod_of_nonneg h1]
    have h2 := Int.emod_nonneg (p % 18446744073709551616) (show ((n : Int)) ≠ 0 by omega)
    have h3 := Int.emod_lt_of_pos (p % 18446744073709551616) (show (0 : Int) < n by omega)
    refine ⟨(p % 18446744073709551616 % n).toNat, ?_, by omega⟩
    rw [IntWalk.wrap64_in _ (by omega)]
    omega
  have hwp : wh < ps.length := by rw [HL.out]; exact hwn
  have HA := Lib.hid (all_told ps wh q hwp hq HP.out)
  have HF : Hid ((turned ps[wh] q).length = 8 + ps[wh].length) := Lib.hid (turned_len _ _)
  have HTS : Hid (∀ j (hj : j < ps.length), toldTo ps wh (turned ps[wh] q) (j + 1) = toldTo ps wh (turned ps[wh] q) j ++ (if j = wh then turned ps[j] q else frameOf ps[j])) := Lib.hid (fun j hj => by
    rw [toldTo]
    congr 1
    split
    · rename_i e; subst e; rfl
    · rw [List.getD_eq_getElem?_getD, List.getElem?_eq_getElem hj]; rfl)
  have HTL : Hid (toldTo ps wh (turned ps[wh] q) wh = flat (ps.take wh)) := Lib.hid (told_le ps wh _ wh (Nat.le_refl _) (by omega))
  have HT0 : Hid (toldTo ps wh (turned ps[wh] q) 0 = []) := Lib.hid rfl
  have HTN : Hid (∀ j, j ≤ ps.length → (∀ i (hi : i < ps.length), i < j → ps[i].length ≤ 300) → (toldTo ps wh (turned ps[wh] q) j).length ≤ 308 * j) := Lib.hid (fun j hj h => by
    by_cases hwj : wh < j
    · exact told_len ps wh _ (by have := h wh hwp hwj; rw [turned_len]; omega) j hj h
    · rw [told_le ps wh _ j (by omega) (by omega), flat_len]
      rw [List.length_take]
      have : ((ps.take j).map List.length).sum ≤ 300 * j := by
        clear HA HF HTS HTL HT0
        induction j with
        | zero => simp
        | succ j ih =>
          have h1 := ih (by omega) (fun i hi hij => h i hi (by omega)) (by omega)
          have h2 := h j (by omega) (by omega)
          rw [take_snoc' ps j (by omega), List.map_append, List.sum_append]
          simp only [List.map_cons, List.map_nil, List.sum_cons, List.sum_nil]
          omega
      omega)
  generalize turned ps[wh] q = fr at *
  have HWH := Lib.hid hwh
  clear hwh
  go_upto_region 6 with (fail)
  rw [HWH.out, show ((n : Int) == 0) = false by rw [beq_eq_false_iff_ne]; omega]
  clear HWH
  go_wp2_with fail
  go_loopw [8, 9, 31] (fun b k i wr => ∃ j kv : Nat, j ≤ n ∧ i = .int .i64 j ∧ k = .int .i64 kv ∧ Hid (wh < j → kv = (flat (ps.take wh)).length) ∧ Hid (∀ i (hi : i < ps.length), i < j → ps[i].length ≤ 300) ∧ OwnB wr w.heap.size b (toldTo ps wh fr j) ∧ Below w.heap.size w wr) (fun _ _ i _ => n - (intOf i).toNat)
  case atStart => exact ⟨0, 0, by omega, rfl, rfl, Lib.hid (fun h => by omega), Lib.hid (fun i hi h => by omega), by simpa [toldTo] using OwnB.nil _ _, hb1⟩
  case round =>
    obtain ⟨j, kv, hj, rfl, rfl, hkv, h3, hp, hb⟩ := hrel
    by_cases hlt : j < n
    · have h1 : j < ps.length := by rw [HL.out]; exact hlt
      obtain ⟨g1, o1, A1, m1, c1, rfl, x1, r1, _⟩ := (HX.out.below hb).2 j h1
      have hm1 : m1 ≤ 1048576 := by have := r1.len; have := HJ.out j h1; omega
      have HS1 := Lib.hid (HTS.out j h1)
      have hr1l := Lib.hid r1.len
      by_cases h300 : 300 < m1
      · go_wp2
        go_ret
        exact ⟨rfl, hb⟩
      have H3 : Hid (∀ i (hi : i < ps.length), i < j + 1 → ps[i].length ≤ 300) := Lib.hid (fun i hi hij => by
        rcases Nat.lt_or_eq_of_le (Nat.le_of_lt_succ hij) with e | e
        · exact h3.out i hi e
        · subst e; have := hr1l.out; omega)
      have HB0 := Lib.hid (HTN.out j (by omega) h3.out)
      generalize hx : ps[j] = x at *
      go_wp2_with fail
      refine (own_any A1 m1 c1 wr _ r1 (by omega)).mono ?_
      rintro e w2 ⟨v2, rfl, hv2, hb2⟩
      obtain ⟨A2, m2, c2, rfl, hm2, hmc2, _, hr2, _⟩ := hv2.form
      have hm2' : m2 ≤ 300 := by have := hm2.out; have := hr1l.out; omega
      have hb02 := hb.trans (hb2.mono hb.size)
      go_wp2_with fail
      refine (Put_ok A2 m2 c2 w2 _ hr2 (by omega)).mono ?_
      rintro e w3 ⟨v3, rfl, hv3, hb3⟩
      have hb03 := hb02.trans (hb3.mono hb02.size)
      have hbe : Below wr.heap.size wr w3 := hb2.trans (hb3.mono hb2.size)
      obtain ⟨A3, m3, c3, rfl, hm3, hmc3, _, hr3, hg3⟩ := hv3.form
      have hm3' : m3 = m1 + 8 := by have h1 := hm3.out; have h2 := hr1l.out; rw [frameOf_len] at h1; omega
      have x3 : w3.cell? ⟨g1, o1 + j, none⟩ = some (.slice A1 m1 c1) := by
        obtain ⟨o, ho, _⟩ := cells_of_cell x1
        exact (hbe.cell (p := ⟨g1, o1 + j, none⟩) (Array.getElem?_eq_some_iff.1 ho).1).trans x1
      have hpp := hp.below hbe
      subst hm3'
      by_cases hjw : j = wh
      · subst hjw
        obtain ⟨A4, m4, c4, rfl, hm4, hmc4, _, hr4, _⟩ := hpp.form
        obtain ⟨r, hr, hrl, hra⟩ : ∃ r : Nat, Hid (wrap64 (4 + ((q : Nat) : Int) % ((m1 : Int) + 8 - 4)) = ((r : Nat) : Int)) ∧ r < m1 + 8 ∧ Hid (r = turnAt x q) :=
          ⟨4 + q % (m1 + 4), Lib.hid (by
            have h1 := Nat.mod_lt q (show 0 < m1 + 4 by omega)
            rw [show (m1 : Int) + 8 - 4 = ((m1 + 4 : Nat) : Int) by omega, ← Int.natCast_emod, IntWalk.wrap64_in _ (by omega)]
            omega), by have h1 := Nat.mod_lt q (show 0 < m1 + 4 by omega); omega, Lib.hid (by unfold turnAt; rw [hr1l.out])⟩
        obtain ⟨s, hs, hsl, hse⟩ : ∃ s : Nat, ((q : Nat) : Int) % 255 = (s : Int) ∧ s < 255 ∧ Hid (s = q % 255) := ⟨q % 255, by omega, Nat.mod_lt _ (by omega), Lib.hid rfl⟩
        have hkx : r < (frameOf x).length := by have := hm3.out; omega
        obtain ⟨b3, o3, rfl⟩ := hr3.addr (by omega)
        obtain ⟨g, hg, hgb, hgs⟩ := hg3 _ rfl
        injection hg with e1 e2
        subst e1 e2
        have hc3 := hr3.cells (r) hkx
        rw [Nat.zero_add] at hc3
        have hf3 : w3.frozen? ⟨b3, r, none⟩ = false := World.ownsRow.frozenAt (xs := (frameOf x).map bv) (n := (frameOf x).length) (by have e := hm3.out; rw [← e] at hv3; exact hv3) _
        have HY : Hid (bits .xor .u8 ((frameOf x)[r].toNat : Int) (1 + (s : Int)) = ((turnTo x q).toNat : Int)) := Lib.hid (by
          have e0 : (frameOf x).getD (turnAt x q) 0 = (frameOf x)[r] := by
            rw [← hra.out, List.getD_eq_getElem?_getD, List.getElem?_eq_getElem hkx]
            rfl
          unfold turnTo
          rw [e0, ← hse.out]
          have e1 := u8_xor_nat (frameOf x)[r].toNat (1 + s) (UInt8.toNat_lt _) (by omega)
          rw [u8_ofNat _ (Nat.xor_lt_two_pow (n := 8) (UInt8.toNat_lt _) (by omega)), ← e1]
          rfl)
        have hv5 := hv3.set hm3.out (r) (turnTo x q)
        have hht : (frameOf x).set (r) (turnTo x q) = turned x q := by unfold turned; rw [hra.out]
        rw [hht] at hv5
        clear hht
        have hxl := (frameOf x)[r].toNat_lt
        generalize (frameOf x)[r].toNat = y at *
        generalize turnTo x q = tt at *
        have hbw : Below wr.heap.size wr (w3.setCell ⟨b3, r, none⟩ (.int .u8 (tt.toNat : Int))) := hbe.setCell (Nat.le_trans hb2.size hgb) _
        have hb0w := hb.trans (hbw.mono hb.size)
        obtain ⟨A5, m5, c5, hv5e, hm5, hmc5, _, hr5, _⟩ := hv5.form
        injection hv5e with e1 e2 e3
        subst e1 e2 e3
        have hp5 := hp.below hbw
        rw [if_pos rfl] at HS1
        have HK : Hid (m4 = (flat (ps.take j)).length) := Lib.hid (by have h1 := hm4.out; rw [HTL.out] at h1; exact h1.symm)
        have hlen : (toldTo ps j fr j).length + (m1 + 8) ≤ 140737488355328 := by have := HB0.out; omega
        have HLEN := Lib.hid hlen
        clear hlen
        go_upto_region 19 with (fail)
        rw [hr.out]
        go_upto_region 20 with (fail)
        rw [HY.out]
        generalize w3.setCell ⟨b3, r, none⟩ (.int .u8 (tt.toNat : Int)) = w5 at *
        have hb1w := below_drewN hb0w 1
        have hp6 := hp5.drewN 1
        have hr6 := hr5.drewN 1
        go_wp2_with (at_builtin; refine app_u8 rfl _ _ rfl w.heap.size _ _ rfl hp6 _ (m1 + 8) c3 _ rfl hr6 ?c1 ?c2 ?_)
        case c1 => exact HLEN.out
        case c2 => exact hb1w.size
        intro v7 w7 hv7 hb7 _
        rw [← HS1.out] at hv7
        go_wp2
        go_roundw
        case rel => exact ⟨j + 1, m4, by omega, by go_num, rfl, Lib.hid (fun _ => HK.out), H3, hv7, hb0w.trans hb7⟩
        case measure => simp [intOf]; omega
      · go_wp2_with (at_builtin; refine app_u8 rfl _ _ rfl w.heap.size _ _ rfl hpp _ (m1 + 8) c3 _ rfl hr3 ?c1 ?c2 ?_)
        case c1 => have := HB0.out; omega
        case c2 => exact hb03.size
        intro v7 w7 hv7 hb7 _
        rw [if_neg hjw] at HS1
        rw [← HS1.out] at hv7
        have HKV : Hid (wh < j + 1 → kv = (flat (ps.take wh)).length) := Lib.hid (fun h => hkv.out (by omega))
        go_wp2
        go_roundw
        case rel => exact ⟨j + 1, kv, by omega, by go_num, rfl, HKV, H3, hv7, hb03.trans hb7⟩
        case measure => simp [intOf]; omega
    · obtain rfl : j = n := by omega
      have hkv2 := hkv.out hwn
      have HN := Lib.hid (HTN.out j (by rw [HL.out]; exact Nat.le_refl _) h3.out)
      have HA2 : Hid (allOf (toldTo ps wh fr j) = (ps.take wh, kv, 11)) := Lib.hid (by have := HA.out; rw [HL.out, ← hkv2] at this; exact this)
      obtain ⟨A9, s9, r9⟩ := RdP.cut_h (HX.out.below hb) c hn wh (by omega) (wh : Int) rfl
      have R9 := Lib.hid r9
      have HP9 : Hid ((ps.take wh).length ≤ 1000000000) := Lib.hid (by rw [List.length_take]; omega)
      clear hkv2 hkv h3 r9
      generalize toldTo ps wh fr j = F at *
      generalize ps.take wh = qs at *
      obtain ⟨A1, m1, c1, rfl, hm1, hmc1, _, hr1, _⟩ := hp.form
      have hm1' : m1 ≤ 900000000 := by have h1 := hm1.out; have h2 := HN.out; rw [← h1]; exact Nat.le_trans h2 (Nat.le_trans (Nat.mul_le_mul_left 308 hl) (by decide))
      have hm1'' : m1 ≤ 140737488355328 := Nat.le_trans hm1' (by decide)
      go_wp2_with fail
      refine (own_any A1 m1 c1 wr _ hr1 hm1'').mono ?_
      rintro e w2 ⟨v2, rfl, hv2, hb2⟩
      obtain ⟨A2, m2, c2, rfl, hm2, hmc2, _, hr2, _⟩ := hv2.form
      have hm2' : m2 ≤ 1000000000 := by have h1 := hm2.out; have h2 := hm1.out; rw [← h1, h2]; exact Nat.le_trans hm1' (by decide)
      have hb02 := hb.trans (hb2.mono hb.size)
      go_wp2_with fail
      refine (All_any A2 m2 c2 w2 _ hr2 hm2' hmc2).mono ?_
      rintro e w3 ⟨v3, rfl, hv3, hb3⟩
      rw [HA2.out] at hv3 ⊢
      dsimp only at *
      have hb03 := hb02.trans (hb3.mono hb02.size)
      have hbe := hb2.trans (hb3.mono hb2.size)
      obtain ⟨A3, c3, rfl, _⟩ := hv3.len
      go_wp2_with fail
      refine (SameR_any A3 A9 _ wh c3 c qs qs w3 hv3.rd (R9.out.below hbe) HP9.out HP9.out).mono ?_
      rintro e w4 ⟨rfl, hb4⟩
      rw [show decide (qs = qs) = true from decide_eq_true rfl]
      go_wp2
      go_ret
      exact ⟨rfl, hb03.trans (hb4.mono hb03.size)⟩
end Go.Proofs.Ytcpojhckgoinmaa
