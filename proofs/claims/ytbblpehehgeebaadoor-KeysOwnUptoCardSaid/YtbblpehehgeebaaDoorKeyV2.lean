/-
  keys.Encode: what it answers is a row of its own. No statement is proved here.
-/
import Derived.Test.YtbblpehehgeebaaDoorKeyV
namespace Go.Proofs.YtbblpehehgeebaaDoor
open Go.RowKit
set_option linter.unusedVariables false

/-- New bytes: a row of the call's own. -/
structure NewR (base : Nat) (w : World) (v : Value) (xs : List UInt8) : Prop where
  ex : ∃ A m c, v = .slice A m c ∧ m ≤ c ∧ c ≤ maxLen ∧ RdB w A m xs ∧ (∀ a, A = some a → ∃ g cs, a = ⟨g, 0, none⟩ ∧ base ≤ g ∧ g < w.heap.size ∧ w.heap[g]? = some (.cells cs 5 (0, 0)))
theorem OwnB.newR {w : World} {base : Nat} {v : Value} {xs : List UInt8} (h : OwnB w base v xs) : NewR base w v xs := by
  obtain ⟨A, m, c, rfl, _, h1, h2, h3, h4⟩ := h.form
  refine ⟨A, m, c, rfl, h1, h2, h3, fun a ha => ?_⟩
  obtain ⟨g, e, h5, h6⟩ := h4 a ha
  rcases h.2 with ⟨hv, _⟩ | ⟨g', cap, cur, hv, _, hh, _⟩
  · injection hv with e1 e2 e3
    rw [ha] at e1
    cases e1
  · injection hv with e1 e2 e3
    rw [ha] at e1
    injection e1 with e1
    rw [e] at e1
    injection e1 with e4 e5
    subst e4
    exact ⟨g, cur, e, h5, h6, hh⟩
set_option maxHeartbeats 1000000 in
theorem clip_own (base : Nat) (v : Value) (xs : List UInt8) (w : World) (h : NewR base w v xs) :
    Calls Tryd.prog 23 #[v] w fun e w' => ∃ v', e = .returned v' ∧ NewR base w' v' xs ∧ w' = w := by
  obtain ⟨A, m, c, rfl, hmc, hc, hr, ha⟩ := h.ex
  go_enter Tryd.func23, Tryd.ntmps23
  go_wp2
  go_ret
  exact ⟨_, rfl, ⟨A, m, m, rfl, Nat.le_refl _, by omega, hr, ha⟩, rfl⟩
def EncOwn (base : Nat) (w : World) (r : List UInt8 × Int) (e : Ending) (w' : World) : Prop :=
  ∃ v, e = .returned (.tuple #[v, .int .i64 r.2]) ∧ NewR base w' v r.1 ∧ Below w.heap.size w w'
set_option maxHeartbeats 2000000 in
theorem Encode_own (A : Option Addr) (n c : Nat) (ps : List PartV) (w : World) (h : RdPt w A n ps) (hn : n ≤ 10000000000000) (hl : ∀ p ∈ ps, p.text.length ≤ 9223372036854775807) (hok : ∀ p ∈ ps, p.ok) (hm : MaxLen w) :
    Calls Tryd.prog 9 #[.slice A n c] w (EncOwn w.heap.size w (encOf ps)) := by
  have hlen := h.len
  have FT := Lib.hid (fits_any A n c ps w h hn hl)
  have h00 : 0 < w.heap.size := by
    obtain ⟨m, hm⟩ := hm
    exact World.block_lt_of_cell? w ⟨0, 0, none⟩ hm
  have HE : Hid (encOf ps = if 8 < ps.length ∨ ps.any PartV.long = true then ([], 3)
    else if ps.any PartV.odd = true then ([], 2)
    else if (encL ps).length = 0 ∨ 200 < (encL ps).length then ([], 30)
    else (encL ps, 0)) := Lib.hid rfl
  generalize encOf ps = R at *
  by_cases h3 : 8 < ps.length ∨ ps.any PartV.long = true
  · obtain rfl : R = ([], 3) := by rw [HE.out, if_pos h3]
    rw [if_pos h3] at FT
    unfold EncOwn
    clear h3 HE h
    go_enter Tryd.func9, Tryd.ntmps9
    go_wp2_with fail
    refine FT.out.mono ?_
    rintro e w2 ⟨rfl, hb⟩
    go_wp2
    go_ret2
    exact ⟨_, rfl, (OwnB.nil _ _).newR, hb⟩
  · rw [if_neg h3] at FT HE
    have h8 : ps.length ≤ 8 := by
      rcases Nat.lt_or_ge 8 ps.length with h9 | h9
      · exact absurd (.inl h9) h3
      · exact h9
    have hlong : ∀ p ∈ ps, p.long = false := fun p hp => by
      cases hL : p.long
      · rfl
      · exact absurd (.inr (List.any_eq_true.2 ⟨p, hp, hL⟩)) h3
    have HLO := Lib.hid hlong
    have HX := Lib.hid h
    have HLN := Lib.hid hlen
    have HLT := Lib.hid hl
    have HOK := Lib.hid hok
    have HM := Lib.hid hm
    have hn8 : n ≤ 8 := by omega
    clear h3 h hlong hlen hl hok hm h8
    unfold EncOwn
    go_enter Tryd.func9, Tryd.ntmps9
    go_wp2_with fail
    refine FT.out.mono ?_
    rintro e w2 ⟨rfl, hb⟩
    have HB2 := Lib.hid hb
    clear hb FT
    go_wp2_with fail
    go_loopw [5, 15] (fun bv' t wr => ∃ k : Nat, k ≤ n ∧ t = .int .i64 k ∧ OwnB wr w.heap.size bv' (encL (ps.take k)) ∧ Hid (∀ p ∈ ps.take k, p.odd = false) ∧ Hid (Below w.heap.size w wr)) (fun _ t _ => n - (intOf t).toNat)
    case atStart => exact ⟨0, by omega, rfl, OwnB.nil _ _, Lib.hid (by simp), HB2⟩
    case round =>
      clear HB2
      obtain ⟨k, hk, rfl, ho, HP, HB⟩ := hrel
      obtain ⟨A2, m2, c2, rfl, _⟩ := ho.form
      by_cases hlt : k < n
      · have hkl : k < ps.length := by rw [HLN.out]; exact hlt
        obtain ⟨b, off, rfl, hc⟩ := (HX.out.below HB.out).ex (by omega)
        obtain ⟨q0, q1, q2⟩ := hc k hkl
        have HTK : Hid (ps.take (k + 1) = ps.take k ++ [ps[k]]) := Lib.hid (take_snoc' _ _ hkl)
        have HMEM := Lib.hid (List.getElem_mem hkl)
        have HOD : Hid (ps[k].odd = true → R = ([], 2)) := Lib.hid fun h => by
          rw [HE.out, if_pos (List.any_eq_true.2 ⟨_, HMEM.out, h⟩)]
        have hel := encL_len (ps.take k) fun p hp => HLO.out p (List.mem_of_mem_take hp)
        rw [List.length_take] at hel
        have hb1 : w.heap.size ≤ wr.heap.size := HB.out.size
        have PU := Lib.hid (fun w' ho' hb' hm' => put_any w.heap.size (.slice A2 m2 c2) (encL (ps.take k)) ps[k] w' ho' hb' h00 hm' (by omega) (fun hT => by have h1 := HLO.out _ HMEM.out; unfold PartV.long at h1; rw [hT] at h1; simp at h1; omega) (HOK.out _ HMEM.out))
        have HO := Lib.hid ho
        have HODP : Hid (ps[k].odd = false → ∀ p ∈ ps.take (k + 1), p.odd = false) := Lib.hid fun h p hp => by
          rw [HTK.out] at hp
          rcases List.mem_append.1 hp with h1 | h1
          · exact HP.out p h1
          · simp at h1; rw [h1]; exact h
        clear hc ho HP HMEM hel
        unfold partV at PU
        generalize ps[k] = q at *
        obtain ⟨qb, qn, qt⟩ := q
        dsimp only at *
        rcases qb with _ | _
        · rcases qt with _ | ⟨x, qt⟩
          · have HOD2 := Lib.hid (HODP.out (by simp [PartV.odd]))
            have hba := (Below.refl wr.heap.size wr).alloc (Nat.le_refl _) (.cells #[.bool false, .int .i64 qn, .string ⟨#[]⟩] 40)
            have HBA := Lib.hid (HB.out.trans (hba.mono hb1))
            have P2 := Lib.hid (PU.out (wr.alloc (.cells #[.bool false, .int .i64 qn, .string ⟨#[]⟩] 40)) (HO.out.alloc _) (by simp; omega) (HM.out.below HBA.out h00))
            clear HOD HODP PU HO hba HB
            go_wp2_with fail
            refine P2.out.mono ?_
            rintro e w5 ⟨v5, rfl, ho5, hb5⟩
            rw [← encL_snoc, ← HTK.out] at ho5
            have HO5 := Lib.hid ho5
            have HB5 := Lib.hid (HBA.out.trans hb5)
            clear ho5 hb5 P2 q0 q1 q2
            go_wp2
            go_roundw
            case rel => exact ⟨k + 1, by omega, by go_num, HO5.out, HOD2, HB5⟩
            case measure => (try simp [intOf]) <;> (try omega)
          · obtain rfl := HOD.out (by simp [PartV.odd])
            clear HE HOD PU HODP HTK
            go_wp2
            go_ret2
            exact ⟨_, rfl, (OwnB.nil _ _).newR, HB.out.alloc hb1 _⟩
        · by_cases hq0 : qn = 0
          · subst hq0
            have HOD2 := Lib.hid (HODP.out (by simp [PartV.odd]))
            have hba := (Below.refl wr.heap.size wr).alloc (Nat.le_refl _) (.cells #[.bool true, .int .i64 0, .string ⟨qt.toArray⟩] 40)
            have HBA := Lib.hid (HB.out.trans (hba.mono hb1))
            have P2 := Lib.hid (PU.out (wr.alloc (.cells #[.bool true, .int .i64 0, .string ⟨qt.toArray⟩] 40)) (HO.out.alloc _) (by simp; omega) (HM.out.below HBA.out h00))
            clear HOD HODP PU HO hba HB
            go_wp2_with fail
            refine P2.out.mono ?_
            rintro e w5 ⟨v5, rfl, ho5, hb5⟩
            rw [← encL_snoc, ← HTK.out] at ho5
            have HO5 := Lib.hid ho5
            have HB5 := Lib.hid (HBA.out.trans hb5)
            clear ho5 hb5 P2 q0 q1 q2
            go_wp2
            go_roundw
            case rel => exact ⟨k + 1, by omega, by go_num, HO5.out, HOD2, HB5⟩
            case measure => (try simp [intOf]) <;> (try omega)
          · obtain rfl := HOD.out (by simp [PartV.odd, hq0])
            clear HE HOD PU HODP HTK
            go_wp2
            go_ret2
            exact ⟨_, rfl, (OwnB.nil _ _).newR, HB.out.alloc hb1 _⟩
      · obtain rfl : k = n := by omega
        have hte : ps.take k = ps := List.take_of_length_le (by rw [HLN.out]; exact Nat.le_refl _)
        rw [hte] at ho HP
        have hod : ps.any PartV.odd = false := by
          rw [List.any_eq_false]
          intro x hx
          rw [HP.out x hx]
          simp
        have HE2 : Hid (R = if (encL ps).length = 0 ∨ 200 < (encL ps).length then ([], 30) else (encL ps, 0)) := Lib.hid (by rw [HE.out, if_neg (by rw [hod]; simp)])
        obtain ⟨A3, m3, c3, hsv, hml, _⟩ := ho.form
        injection hsv with e1 e2 e3
        subst e1 e2 e3
        have hml' := hml.out
        rw [hml'] at HE2
        have CL := Lib.hid (fun w' h => clip_own w.heap.size (.slice A2 m2 c2) (encL ps) w' h)
        have HN := Lib.hid ho.newR
        clear ho hte hod HE HP hml
        by_cases hbad : m2 = 0 ∨ 200 < m2
        · obtain rfl : R = ([], 30) := by rw [HE2.out, if_pos hbad]
          clear HE2
          rcases hbad with rfl | hbad
          · go_wp2
            go_ret2
            exact ⟨_, rfl, (OwnB.nil _ _).newR, HB.out⟩
          · have hbi : (200 : Int) < (m2 : Int) := by omega
            have hz : ¬ (m2 : Int) = 0 := by omega
            go_wp2
            go_ret2
            exact ⟨_, rfl, (OwnB.nil _ _).newR, HB.out⟩
        · obtain rfl : R = (encL ps, 0) := by rw [HE2.out, if_neg hbad]
          have hz : ¬ (m2 : Int) = 0 := by omega
          have hz2 : ¬ (200 : Int) < (m2 : Int) := by omega
          clear HE2
          go_wp2_with fail
          refine (CL.out _ HN.out).mono ?_
          rintro e w5 ⟨v5, rfl, h5, rfl⟩
          go_wp2
          go_ret2
          exact ⟨_, rfl, h5, HB.out⟩
end Go.Proofs.YtbblpehehgeebaaDoor
