/-
  The walk of the day by its parts: the reference's Of.
-/
import Derived.Test.YtdadhpfaompmnaaCivilW2
namespace Go.Proofs.Ytdadhpfaompmnaa
open Go.RowKit
set_option linter.unusedVariables false


theorem refOf_out (y m d : Int) (w : World) (h : ¬ Parts y m d) :
    Calls Try.prog 11 #[.int .i64 y, .int .i64 m, .int .i64 d] w fun e w' => e = .returned (.tuple #[.int .i64 0, .int .i64 6]) ∧ w = w' := by
  rcases not_parts h with h | h | h | h | h | ⟨a, b, rfl, rfl, h1, h2, h3, h4, h5, h6⟩
  case inr.inr.inr.inr.inr =>
    have L := Lib.hid (Days_any a b w h1 h2 h3 h4)
    generalize dim a b = q at L h6
    go_enter Try.func11, Try.ntmps11
    go_wp2_with fail
    refine L.out.mono ?_
    rintro e w' ⟨rfl, rfl⟩
    go_wp2
    go_ret2
    exact ⟨rfl, rfl⟩
  all_goals
    go_enter Try.func11, Try.ntmps11
    go_wp2
    go_ret2
    exact ⟨rfl, rfl⟩

set_option maxRecDepth 100000 in
set_option maxHeartbeats 2000000 in
theorem refOf_in (y m d : Nat) (w : World) (h : Valid y m d) :
    Calls Try.prog 11 #[.int .i64 y, .int .i64 m, .int .i64 d] w fun e w' => e = .returned (.tuple #[.int .i64 (dayOf y m d), .int .i64 0]) ∧ w = w' := by
  have hv := Lib.hid h
  obtain ⟨h1, h2, h3, h4, h5, h6⟩ := h
  have L := Lib.hid (Days_any y m w h1 h2 h3 h4)
  have D := Lib.hid fun k (h3 : 1 ≤ k) (h4 : k ≤ 12) => Days_any y k w h1 h2 h3 h4
  have N := Lib.hid (ahead_any y w h1 (by omega))
  have h7 := (dim_le y m).2
  have hday : ∀ a : Nat, ahead y = a → dayOf y m d = -719162 + (a : Int) + (mon y m : Int) + d - 1 := fun a e => by rw [← e]; rfl
  have hdl := Lib.hid fun k => (dim_le y k).2
  have hms := Lib.hid fun k (h : 1 ≤ k) => mon_succ y k h
  have hal : ahead y ≤ 3652059 := by
    have e : ahead 10000 = 3652059 := by decide
    have := ahead_mono h1 (show y < 10000 by omega)
    omega
  have hm1 := Lib.hid (mon_one y)
  generalize ahead y = a at N hday hal
  have HD := Lib.hid (hday a rfl)
  clear hday
  have H6 := Lib.hid h6
  generalize hq : dim y m = q at L h6 h7
  clear hq H6
  go_enter Try.func11, Try.ntmps11
  go_wp2_with fail
  refine L.out.mono ?_
  rintro e w' ⟨rfl, rfl⟩
  go_wp2_with fail
  refine N.out.mono ?_
  rintro e w' ⟨rfl, rfl⟩
  go_wp2_with fail
  go_loop [8, 9] (fun t i => ∃ k s : Nat, 1 ≤ k ∧ k ≤ m ∧ s ≤ 31 * k ∧ Hid (mon y k = s) ∧ t = .int .i64 (-719162 + (a : Int) + s) ∧ i = .int .i64 k) (fun _ i => m - (intOf i).toNat)
  case atStart => exact ⟨1, 0, by omega, by omega, by omega, hm1, by simp, rfl⟩
  case round =>
    obtain ⟨k, s, hk1, hkm, hs, HM, rfl, rfl⟩ := hrel
    by_cases hlt : k < m
    · have E := Lib.hid (D.out k hk1 (by omega))
      have hdk := hdl.out k
      have HMS := Lib.hid (hms.out k hk1)
      generalize dim y k = r at E hdk HMS
      go_wp2_with fail
      refine E.out.mono ?_
      rintro e w' ⟨rfl, rfl⟩
      go_wp2
      go_round
      case rel => exact ⟨k + 1, s + r, by omega, by omega, by omega, by have := HMS.out; have := HM.out; show _ = _; omega, by go_num, by go_num⟩
      case measure => simp [intOf]; omega
    · have hkm' : Hid (k = m) := Lib.hid (by omega)
      go_wp2
      go_ret2
      refine ⟨ret_day ?_, rfl⟩
      have h1 := HD.out
      have h2 := HM.out
      rw [hkm'.out] at h2
      omega
end Go.Proofs.Ytdadhpfaompmnaa
