/-
  The walk of LedgerClosed.
-/
import Derived.Test.YtpmbbhefcejjlaaLedU
namespace Go.Proofs.Ytpmbbhefcejjlaa
open Go.RowKit
set_option linter.unusedVariables false

theorem fold_ext (acs : List Ac) (ps : List PV) (cl : Int) : ∃ ext, (acs.foldl actR (ps, cl)).1 = ps ++ ext ∧ cl ≤ (acs.foldl actR (ps, cl)).2 ∧ ∀ p ∈ ext, cl < p.day := by
  induction acs generalizing ps cl with
  | nil => exact ⟨[], by simp, Int.le_refl _, by simp⟩
  | cons a acs ih =>
    rw [List.foldl_cons]
    obtain ⟨e1, h1, h2, h3⟩ : ∃ e1, (actR (ps, cl) a).1 = ps ++ e1 ∧ cl ≤ (actR (ps, cl) a).2 ∧ ∀ p ∈ e1, cl < p.day := by
      unfold actR
      by_cases h : a.kind.tmod 4 = 2
      · rw [if_pos h]
        by_cases h4 : -719162 ≤ a.day ∧ a.day ≤ 2932896 ∧ cl < a.day
        · rw [if_pos h4]
          exact ⟨[], by simp, by have := h4.2.2; dsimp only; omega, by simp⟩
        · rw [if_neg h4]
          exact ⟨[], by simp, Int.le_refl _, by simp⟩
      · rw [if_neg h]
        dsimp only
        cases hr : (postR ps.length cl a.day a.loan a.was a.now).2 with
        | none => exact ⟨[], by simp, Int.le_refl _, by simp⟩
        | some p =>
          obtain ⟨_, e, _⟩ := postR_lines hr
          refine ⟨[p], rfl, Int.le_refl _, fun q hq => ?_⟩
          obtain rfl := List.mem_singleton.1 hq
          rw [e]
          show cl < max a.day (cl + 1)
          omega
    obtain ⟨e2, h4, h5, h6⟩ := ih (actR (ps, cl) a).1 (actR (ps, cl) a).2
    refine ⟨e1 ++ e2, ?_, Int.le_trans h2 h5, fun p hp => ?_⟩
    · rw [show actR (ps, cl) a = ((actR (ps, cl) a).1, (actR (ps, cl) a).2) from rfl, h4, h1, List.append_assoc]
    · rcases List.mem_append.1 hp with h | h
      · exact h3 p h
      · have := h6 p h
        omega
theorem closed_ext (acs : List Ac) (ps : List PV) (cl a : Int) : ((acs.foldl actR (ps, cl)).1).filter (inDays a cl) = ps.filter (inDays a cl) := by
  obtain ⟨ext, h1, _, h3⟩ := fold_ext acs ps cl
  rw [h1, List.filter_append]
  have : ext.filter (inDays a cl) = [] := by
    rw [List.filter_eq_nil_iff]
    intro p hp
    have := h3 p hp
    unfold inDays
    simp
    intro _
    omega
  rw [this, List.append_nil]
theorem RdAc.blk {w : World} {A : Option Addr} {n : Nat} {acs : List Ac} (h : RdAc w A n acs) (hn : 0 < n) : ∀ a, A = some a → a.block < w.heap.size := by
  intro a ha
  obtain ⟨b, off, e, hc⟩ := h.ex hn
  rw [ha] at e
  injection e with e
  subst e
  have hl : 0 < acs.length := by have := h.len; omega
  have h1 := hc 0 hl 0 _ (show (acCells acs[0])[0]? = some (.int .i64 acs[0].kind) by unfold acCells; rw [Array.append_assoc, Array.getElem?_append_left (by simp)]; rfl)
  exact World.block_lt_of_cell? w _ h1
theorem JW.new (w : World) (base : Nat) (hb : base ≤ w.heap.size) : JW (w.alloc (.cells #[.slice none 0 0, .int .i64 (-719163)] 70)) w.heap.size base 0 0 [] (-719163) :=
  ⟨⟨.slice none 0 0, [], ⟨heap_alloc_new _ _, OwnJ.nil _ _, hb⟩, rfl, fun k _ h => by omega⟩, by simp, by simp, by omega⟩
set_option maxRecDepth 100000 in
set_option maxHeartbeats 2000000 in
theorem LedgerClosed_walk (A : Option Addr) (n c : Nat) (A' : Option Addr) (n' c' : Nat) (a : Int) (w : World) (acs : List Ac) (h : RdAc w A n acs) (hn : n ≤ c) (hc : c ≤ 140737488351232) (mor : List Ac) (h' : RdAc w A' n' mor) (hn' : n' ≤ c') (hc' : c' ≤ 140737488351232) (ha1 : -9223372036854775808 ≤ a) (ha2 : a ≤ 9223372036854775807) :
    Calls Try.prog 5 #[.slice A n c, .slice A' n' c', .int .i64 a] w fun e w' => e = .returned (.bool true) ∧ Below w.heap.size w w' := by
  have HX := Lib.hid h
  have HY := Lib.hid h'
  have WK := Lib.hid (wakes_any w)
  have HF := Lib.hid (fun ps cl => closed_ext mor ps cl a)
  have HE := Lib.hid (fun ps cl => fold_ext mor ps cl)
  clear h h'
  go_enter Try.func5, Try.ntmps5
  go_wp2_with fail
  refine WK.out.mono ?_
  rintro e w1 ⟨rfl, hb1⟩
  have HB1 := Lib.hid hb1
  clear hb1 WK
  go_wp2_with fail
  refine (New_any w1).mono ?_
  rintro e w2 ⟨rfl, hw2⟩
  have HJ2 : Hid (JW w2 w1.heap.size w.heap.size 0 0 [] (-719163)) := Lib.hid (by rw [hw2]; exact JW.new w1 w.heap.size HB1.out.size)
  have HB2 : Hid (Below w.heap.size w w2) := Lib.hid (by rw [hw2]; exact HB1.out.alloc HB1.out.size _)
  clear hw2
  generalize w1.heap.size = g at *
  clear HB1
  go_wp2_with fail
  refine (do_any A n c acs w2 g w.heap.size 0 0 [] (-719163) (HX.out.below HB2.out) HJ2.out (Nat.zero_le _) (fun h0 => HX.out.blk h0) (by omega)).mono ?_
  rintro e w3 ⟨⟨ve, rfl⟩, hj3, hw3⟩
  generalize acs.foldl actR ([], -719163) = R at *
  obtain ⟨ps, cl⟩ := R
  have HJ3 : Hid (JW w3 g w.heap.size 0 0 ps cl) := Lib.hid hj3
  have HB3 := Lib.hid (HB2.out.trans (hw3.below HB2.out.size))
  clear hj3 hw3 HJ2 HB2
  obtain ⟨Aj, cj, hcell3, _⟩ := HJ3.out.rd
  have HC3 := Lib.hid (Closed_any w3 g _ cl hcell3)
  clear hcell3
  go_wp2_with fail
  refine HC3.out.mono ?_
  rintro e w' ⟨rfl, hww⟩
  obtain rfl := hww.symm
  clear HC3 hww
  go_wp2_with fail
  refine (Postings_jw w3 g w.heap.size 0 0 ps cl a cl HJ3.out).mono ?_
  rintro e w4 ⟨v4, qs4, rfl, hp4, ho4, hb4⟩
  have HO4 := Lib.hid ho4
  have HP4 := Lib.hid hp4
  have HB34 := Lib.hid hb4
  have HJ4 := Lib.hid (HJ3.out.below hb4)
  clear ho4 hp4 hb4
  go_wp2_with fail
  refine (Trial_jw w4 g w.heap.size 0 0 ps cl a cl HJ4.out).mono ?_
  rintro e w5 ⟨v5, rfl, hv5, hb5⟩
  have HV5 := Lib.hid hv5
  have HB45 := Lib.hid hb5
  have HB35 := Lib.hid (HB34.out.trans (hb5.mono HB34.out.size))
  have HJ5 := Lib.hid ((HJ3.out.window (lo' := w3.heap.size) (hi' := w5.heap.size) (Nat.le_refl _)).below HB35.out)
  have HO5 := Lib.hid (HO4.out.below hb5)
  have HB5 := Lib.hid (HB3.out.trans (HB35.out.mono HB3.out.size))
  clear hv5 hb5 HJ3 HJ4
  go_wp2_with fail
  refine (do_any A' n' c' mor w5 g w.heap.size w3.heap.size w5.heap.size ps cl (HY.out.below HB5.out) HJ5.out (Nat.le_refl _) (fun h0 => HY.out.blk h0) (by omega)).mono ?_
  rintro e w6 ⟨⟨ve2, rfl⟩, hj6, hw6⟩
  have hfe := HF.out ps cl
  obtain ⟨ext, _, hcl, _⟩ := HE.out ps cl
  generalize mor.foldl actR (ps, cl) = R2 at *
  obtain ⟨ps2, cl2⟩ := R2
  dsimp only at hfe hcl hj6
  have HFE := Lib.hid hfe
  have HJ6 := Lib.hid hj6
  have HB6 := Lib.hid (HB5.out.trans (hw6.below HB5.out.size))
  have HO6 : Hid (OwnJ w6 w3.heap.size v4 qs4) := Lib.hid (HO5.out.same fun k hk => by
    obtain ⟨h1, h2⟩ := HO5.out.blk hk
    exact hw6.block k (.inr ⟨h1, h2⟩) h2)
  have HV6 : Hid (OwnL w6 w4.heap.size v5 (sumsOf (ps.filter (inDays a cl)))) := Lib.hid (ownsRow_same HV5.out fun k cs fr h1 h2 h3 => by
    have h4 := heap_lt' h3
    exact hw6.block k (.inr ⟨Nat.le_trans HB34.out.size h1, h4⟩) h4)
  obtain ⟨Ak, ck, hcell6, _⟩ := HJ6.out.rd
  have HC6 := Lib.hid (Closed_any w6 g _ cl2 hcell6)
  have hge : cl2 ≥ cl := hcl
  clear hfe hcl hj6 hw6 HO4 HV5 HO5 HJ5 hcell6 HF HE
  obtain ⟨A4, c4, rfl, _, hr4, _⟩ := HO6.out.form
  rw [HP4.out] at hr4
  obtain ⟨n4, hn4⟩ : ∃ n4, n4 = qs4.length := ⟨_, rfl⟩
  rw [← hn4] at hr4
  rw [← hn4]
  have HR4 := Lib.hid hr4
  have HN4 : Hid ((ps.filter (inDays a cl)).length = n4) := Lib.hid hr4.len
  have hl6 : Hid (n4 ≤ 65536) := Lib.hid (by
    have h1 := HN4.out
    have h2 := List.length_filter_le (inDays a cl) ps2
    rw [HFE.out] at h2
    have := HJ6.out.len
    omega)
  have HLL : Hid (∀ p ∈ ps.filter (inDays a cl), p.lines.length ≤ 4398046511104) := Lib.hid (fun p hp => by
    rw [← HFE.out] at hp
    have := HJ6.out.lines p (List.mem_filter.1 hp).1
    omega)
  clear hn4 hr4
  go_wp2_with fail
  refine HC6.out.mono ?_
  rintro e w' ⟨rfl, hww⟩
  obtain rfl := hww.symm
  clear HC6 hww
  go_wp2_with fail
  refine (Postings_jw w6 g w.heap.size _ _ ps2 cl2 a cl HJ6.out).mono ?_
  rintro e w7 ⟨v7, qs7, rfl, hp7, ho7, hb7⟩
  rw [HFE.out] at hp7
  obtain ⟨A7, n7, c7, rfl, hn7, hr7⟩ : ∃ A7 n7 c7, v7 = .slice A7 n7 c7 ∧ n7 = n4 ∧ RdP w7 A7 n7 (ps.filter (inDays a cl)) := by
    obtain ⟨A7, c7, e, _, hr, _⟩ := ho7.form
    rw [hp7] at hr
    exact ⟨A7, _, c7, e, hr.len.symm.trans HN4.out, hr⟩
  obtain rfl := hn7.symm
  have SP := Lib.hid (SamePostings_eq A7 A4 n4 c7 c4 _ w7 hr7 (HR4.out.below hb7) (by have := hl6.out; omega) HLL.out)
  have HJ7 := Lib.hid (HJ6.out.below hb7)
  have HB7 := Lib.hid (HB6.out.trans (hb7.mono HB6.out.size))
  have HV7 := Lib.hid (HV6.out.below hb7)
  clear hp7 ho7 hb7 hr7 HJ6 HV6 HR4
  go_wp2_with fail
  refine SP.out.mono ?_
  rintro e w8 ⟨rfl, hd8⟩
  have HJ8 := Lib.hid (HJ7.out.below hd8.below)
  have HB8 := Lib.hid (HB7.out.trans (hd8.below.mono HB7.out.size))
  have HV8 : Hid (OwnL w8 w4.heap.size v5 (sumsOf (ps.filter (inDays a cl)))) := Lib.hid (OwnL.below HV7.out hd8.below)
  clear hd8 HJ7 HV7 SP
  go_wp2_with fail
  refine (Trial_jw w8 g w.heap.size _ _ ps2 cl2 a cl HJ8.out).mono ?_
  rintro e w9 ⟨v9, rfl, hv9, hb9⟩
  rw [HFE.out] at hv9
  have hv5 := HV8.out.below hb9
  obtain ⟨A9, m9, c9, rfl, hm9, _, _, hr9, _⟩ := OwnL.form hv9
  obtain ⟨A5, m5, c5, rfl, hm5, _, _, hr5, _⟩ := OwnL.form hv5
  obtain rfl : m9 = m5 := by rw [← hm9.out, ← hm5.out]
  have SM := Lib.hid (Same_eq A9 A5 m9 c9 c5 _ w9 hr9 hr5 (by have h1 := hm9.out; have h2 := rowsT_len (totF (flatL (ps.filter (inDays a cl)))) 7; have h3 : (sumsOf (ps.filter (inDays a cl))).length ≤ 7 := h2; omega))
  have HB9 := Lib.hid (HB8.out.trans (hb9.mono HB8.out.size))
  clear hv9 hb9 hv5 hm9 hm5 hr9 hr5
  go_wp2_with fail
  refine SM.out.mono ?_
  rintro e w10 ⟨rfl, hd10⟩
  go_wp2
  go_ret
  exact ⟨rfl, HB9.out.trans (hd10.below.mono HB9.out.size)⟩
end Go.Proofs.Ytpmbbhefcejjlaa
