/-
  The reference's Encode. No statement is proved here.
-/
import Derived.Test.YtbblpehehgeebaaDoorKeyR
namespace Go.Proofs.YtbblpehehgeebaaDoor
open Go.RowKit
set_option linter.unusedVariables false

def REncEnds (base : Nat) (w : World) (r : List UInt8 × Int) (e : Ending) (w' : World) : Prop :=
  ∃ v, e = .returned (.tuple #[v, .int .i64 r.2]) ∧ OwnB w' base v r.1 ∧ Below w.heap.size w w'
set_option maxHeartbeats 4000000 in
theorem rEncode_any (A : Option Addr) (n c : Nat) (ps : List PartV) (w : World) (h : RdPt w A n ps) (hn : n ≤ 10000000000000) (hl : ∀ p ∈ ps, p.text.length ≤ 9223372036854775807) (hok : ∀ p ∈ ps, p.ok) :
    Calls Tryd.prog 11 #[.slice A n c] w (REncEnds w.heap.size w (encOf ps)) := by
  have hlen := h.len
  have HE : Hid (encOf ps = if 8 < ps.length ∨ ps.any PartV.long = true then ([], 3)
    else if ps.any PartV.odd = true then ([], 2)
    else if (encL ps).length = 0 ∨ 200 < (encL ps).length then ([], 30)
    else (encL ps, 0)) := Lib.hid rfl
  generalize encOf ps = R at *
  unfold REncEnds
  by_cases h8 : 8 < n
  · obtain rfl : R = ([], 3) := by rw [HE.out, if_pos (.inl (by omega))]
    clear HE hl hok h
    have h8i : (8 : Int) < (n : Int) := by omega
    go_enter Tryd.func11, Tryd.ntmps11
    go_wp2
    go_ret2
    exact ⟨_, rfl, OwnB.nil _ _, Below.refl _ _⟩
  · have HX := Lib.hid h
    have HLN := Lib.hid hlen
    have HLT := Lib.hid hl
    have HOK := Lib.hid hok
    have hn8 : n ≤ 8 := by omega
    clear h hlen hl hok h8
    go_enter Tryd.func11, Tryd.ntmps11
    go_wp2_with fail
    go_loopw [13] (fun t wr => ∃ k : Nat, k ≤ n ∧ t = .int .i64 k ∧ Hid (∀ p ∈ ps.take k, p.long = false) ∧ w = wr) (fun t _ => n - (intOf t).toNat)
    case atStart => exact ⟨0, by omega, rfl, Lib.hid (by simp), rfl⟩
    case round =>
      obtain ⟨k, hk, rfl, HP, rfl⟩ := hrel
      by_cases hlt : k < n
      · have hkl : k < ps.length := by rw [HLN.out]; exact hlt
        obtain ⟨b, off, rfl, hc⟩ := HX.out.ex (by omega)
        obtain ⟨q0, q1, q2⟩ := hc k hkl
        have HTK : Hid (ps.take (k + 1) = ps.take k ++ [ps[k]]) := Lib.hid (take_snoc' _ _ hkl)
        have HMEM := Lib.hid (List.getElem_mem hkl)
        have HLG : Hid (ps[k].long = true → R = ([], 3)) := Lib.hid fun h => by
          rw [HE.out, if_pos (.inr (List.any_eq_true.2 ⟨_, HMEM.out, h⟩))]
        have HLGP : Hid (ps[k].long = false → ∀ p ∈ ps.take (k + 1), p.long = false) := Lib.hid fun h p hp => by
          rw [HTK.out] at hp
          rcases List.mem_append.1 hp with h1 | h1
          · exact HP.out p h1
          · simp at h1; rw [h1]; exact h
        have hql := HLT.out _ HMEM.out
        clear hc HP HMEM HTK
        unfold PartV.long at HLG HLGP
        generalize ps[k] = q at *
        obtain ⟨qb, qn, qt⟩ := q
        dsimp only at *
        have hsz : ByteArray.size ⟨qt.toArray⟩ = qt.length := by simp [ByteArray.size]
        by_cases hlo : 64 < qt.length
        · have hli : (64 : Int) < (qt.length : Int) := by omega
          rcases qb with _ | _
          · have HG2 := Lib.hid (HLGP.out (by simp))
            clear HLG HLGP
            go_wp2
            go_roundw
            case rel => exact ⟨k + 1, by omega, by go_num, HG2, by trivial⟩
            case measure => (try simp [intOf]) <;> (try omega)
          · obtain rfl := HLG.out (by simp [hlo])
            clear HLG HLGP HE
            go_wp2
            go_ret2
            exact ⟨_, rfl, OwnB.nil _ _, Below.refl _ _⟩
        · have hli : ¬ (64 : Int) < (qt.length : Int) := by omega
          have HG2 := Lib.hid (HLGP.out (by simp; omega))
          clear HLG HLGP
          go_wp2
          go_roundw
          case rel => exact ⟨k + 1, by omega, by go_num, HG2, by trivial⟩
          case measure => (try simp [intOf]) <;> (try omega)
      · obtain rfl : k = n := by omega
        have hte : ps.take k = ps := List.take_of_length_le (by rw [HLN.out]; exact Nat.le_refl _)
        rw [hte] at HP
        have HLO := HP
        clear HP
        have HE2 : Hid (R = if ps.any PartV.odd = true then ([], 2)
            else if (encL ps).length = 0 ∨ 200 < (encL ps).length then ([], 30)
            else (encL ps, 0)) := Lib.hid (by
          rw [HE.out, if_neg]
          intro h
          rcases h with h | h
          · have := HLN.out; omega
          · obtain ⟨x, hx, hx2⟩ := List.any_eq_true.1 h
            rw [HLO.out x hx] at hx2
            cases hx2)
        clear HE hte hlt
        go_wp2_with fail
        go_loopw [31] (fun t wr => ∃ j : Nat, j ≤ k ∧ t = .int .i64 j ∧ Hid (∀ p ∈ ps.take j, p.odd = false) ∧ w = wr) (fun t _ => k - (intOf t).toNat)
        case atStart => exact ⟨0, by omega, rfl, Lib.hid (by simp), rfl⟩
        case round =>
          obtain ⟨j, hj, rfl, HP, rfl⟩ := hrel
          by_cases hlt : j < k
          · have hkl : j < ps.length := by rw [HLN.out]; exact hlt
            obtain ⟨b, off, rfl, hc⟩ := HX.out.ex (by omega)
            obtain ⟨q0, q1, q2⟩ := hc j hkl
            have HTK : Hid (ps.take (j + 1) = ps.take j ++ [ps[j]]) := Lib.hid (take_snoc' _ _ hkl)
            have HMEM := Lib.hid (List.getElem_mem hkl)
            have HOD : Hid (ps[j].odd = true → R = ([], 2)) := Lib.hid fun h => by
              rw [HE2.out, if_pos (List.any_eq_true.2 ⟨_, HMEM.out, h⟩)]
            have HODP : Hid (ps[j].odd = false → ∀ p ∈ ps.take (j + 1), p.odd = false) := Lib.hid fun h p hp => by
              rw [HTK.out] at hp
              rcases List.mem_append.1 hp with h1 | h1
              · exact HP.out p h1
              · simp at h1; rw [h1]; exact h
            clear hc HP HMEM HTK
            generalize ps[j] = q at *
            obtain ⟨qb, qn, qt⟩ := q
            dsimp only at *
            rcases qb with _ | _
            · rcases qt with _ | ⟨x, qt⟩
              · have HOD2 := Lib.hid (HODP.out (by simp [PartV.odd]))
                clear HOD HODP
                go_wp2
                go_roundw
                case rel => exact ⟨j + 1, by omega, by go_num, HOD2, by trivial⟩
                case measure => (try simp [intOf]) <;> (try omega)
              · obtain rfl := HOD.out (by simp [PartV.odd])
                clear HE2 HOD HODP
                go_wp2
                go_ret2
                exact ⟨_, rfl, OwnB.nil _ _, Below.refl _ _⟩
            · by_cases hq0 : qn = 0
              · subst hq0
                have HOD2 := Lib.hid (HODP.out (by simp [PartV.odd]))
                clear HOD HODP
                go_wp2
                go_roundw
                case rel => exact ⟨j + 1, by omega, by go_num, HOD2, by trivial⟩
                case measure => (try simp [intOf]) <;> (try omega)
              · obtain rfl := HOD.out (by simp [PartV.odd, hq0])
                clear HE2 HOD HODP
                go_wp2
                go_ret2
                exact ⟨_, rfl, OwnB.nil _ _, Below.refl _ _⟩
          · obtain rfl : j = k := by omega
            have hte : ps.take j = ps := List.take_of_length_le (by rw [HLN.out]; exact Nat.le_refl _)
            rw [hte] at HP
            have hod : ps.any PartV.odd = false := by
              rw [List.any_eq_false]
              intro x hx
              rw [HP.out x hx]
              simp
            have HE3 : Hid (R = if (encL ps).length = 0 ∨ 200 < (encL ps).length then ([], 30) else (encL ps, 0)) := Lib.hid (by rw [HE2.out, if_neg (by rw [hod]; simp)])
            clear HE2 hte hlt hod HP
            go_wp2_with fail
            go_loopw [6, 66] (fun bv' t wr => ∃ i : Nat, i ≤ j ∧ t = .int .i64 i ∧ OwnB wr w.heap.size bv' (encL (ps.take i)) ∧ Hid (Below w.heap.size w wr)) (fun _ t _ => j - (intOf t).toNat)
            case atStart => exact ⟨0, by omega, rfl, OwnB.nil _ _, Lib.hid (Below.refl _ _)⟩
            case round =>
              obtain ⟨i, hi, rfl, ho, HB⟩ := hrel
              rename_i wr
              obtain ⟨A2, m2, c2, rfl, _⟩ := ho.form
              by_cases hlt : i < j
              · have hkl : i < ps.length := by rw [HLN.out]; exact hlt
                obtain ⟨b, off, rfl, hc⟩ := (HX.out.below HB.out).ex (by omega)
                obtain ⟨q0, q1, q2⟩ := hc i hkl
                have HTK : Hid (ps.take (i + 1) = ps.take i ++ [ps[i]]) := Lib.hid (take_snoc' _ _ hkl)
                have HMEM := Lib.hid (List.getElem_mem hkl)
                have hel := encL_len (ps.take i) fun p hp => HLO.out p (List.mem_of_mem_take hp)
                rw [List.length_take] at hel
                have HEL : Hid ((encL (ps.take i)).length ≤ 1048) := Lib.hid (by omega)
                have hep := partE_len ps[i] (HLO.out _ HMEM.out)
                have HEP := Lib.hid hep
                have hb1 : w.heap.size ≤ wr.heap.size := HB.out.size
                have PU := Lib.hid (fun w' => rpart_any ps[i] w' (HOK.out _ HMEM.out) (fun hT => by have h1 := HLO.out _ HMEM.out; unfold PartV.long at h1; rw [hT] at h1; simp at h1; omega))
                have HO := Lib.hid ho
                clear hc ho HMEM hel hep
                unfold partV at PU
                generalize ps[i] = q at *
                obtain ⟨qb, qn, qt⟩ := q
                dsimp only at *
                go_wp2_with fail
                refine (PU.out _).mono ?_
                rintro e w5 ⟨v5, rfl, ho5, hb5⟩
                obtain ⟨A5, m5, c5, rfl, hm5, _, _, hr5, _⟩ := ho5.form
                have HO6 := Lib.hid (HO.out.below hb5)
                have HB5 := Lib.hid (HB.out.trans (hb5.mono hb1))
                have HM5 : Hid (m5 ≤ 131) := Lib.hid (by have h1 := HEP.out; have h2 := hm5.out; omega)
                clear HO HB PU hm5 ho5 q0 q1 q2 hb5
                go_wp2_with (at_builtin; refine app_u8 rfl _ _ rfl w.heap.size _ _ rfl HO6.out A5 m5 c5 _ rfl hr5 ?c1 ?c2 ?_)
                case c1 => have := HM5.out; have := HEL.out; omega
                case c2 => exact HB5.out.size
                intro v7 W7 ho7 hb7 hg7
                rw [← encL_snoc, ← HTK.out] at ho7
                have HO7 := Lib.hid ho7
                have HB7 := Lib.hid (HB5.out.trans hb7)
                clear ho7 hb7 HB5 HO6 hr5
                go_wp2
                go_roundw
                case rel => exact ⟨i + 1, by omega, by go_num, HO7.out, HB7⟩
                case measure => (try simp [intOf]) <;> (try omega)
              · obtain rfl : i = j := by omega
                have hte : ps.take i = ps := List.take_of_length_le (by rw [HLN.out]; exact Nat.le_refl _)
                rw [hte] at ho
                obtain ⟨A3, m3, c3, hsv, hml, _⟩ := ho.form
                injection hsv with e1 e2 e3
                subst e1 e2 e3
                have hml' := hml.out
                rw [hml'] at HE3
                have HN := Lib.hid ho
                clear ho hte hml
                by_cases hbad : m2 = 0 ∨ 200 < m2
                · obtain rfl : R = ([], 30) := by rw [HE3.out, if_pos hbad]
                  clear HE3
                  rcases hbad with rfl | hbad
                  · go_wp2
                    go_ret2
                    exact ⟨_, rfl, OwnB.nil _ _, HB.out⟩
                  · have hbi : (200 : Int) < (m2 : Int) := by omega
                    have hz : ¬ (m2 : Int) = 0 := by omega
                    go_wp2
                    go_ret2
                    exact ⟨_, rfl, OwnB.nil _ _, HB.out⟩
                · obtain rfl : R = (encL ps, 0) := by rw [HE3.out, if_neg hbad]
                  have hz : ¬ (m2 : Int) = 0 := by omega
                  have hz2 : ¬ (200 : Int) < (m2 : Int) := by omega
                  clear HE3
                  go_wp2
                  go_ret2
                  exact ⟨_, rfl, HN.out, HB.out⟩
end Go.Proofs.YtbblpehehgeebaaDoor
