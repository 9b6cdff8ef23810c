/-
  strings.ContainsFunc's contract at this program, laid by the kit's own program; bitemp.Name. No statement is proved here.
-/
import Derived.Shelf.GgClosure.StringsIndexFuncTop
import Derived.Test.YtpmbbhefcejjlaaLedW2
namespace Go.Proofs.Ytpmbbhefcejjlaa
open Go.RowKit Go.Lib Go.Shelf
set_option linter.unusedVariables false

def contains_ren : Go.Shelf.Ren := ⟨fun | 17 => 40 | 15 => 44 | 20 => 45 | n => n, fun | 9 => 9 | 23 => 86 | 4 => 4 | 3 => 3 | 0 => 0 | 21 => 21 | n => n, fun | n => n⟩
theorem contains_lays : Go.Proofs.LaysGw.n17 Try.prog contains_ren := {
  mixed := by kernel_rfl
  f15 := Try.func44.trans (congrArg some (by kernel_rfl))
  f17 := Try.func40.trans (congrArg some (by kernel_rfl))
  f20 := Try.func45.trans (congrArg some (by kernel_rfl))
  t0 := Try.underlying0
  a0 := Try.isAgg0
  z0 := Try.sizeOf0
  v0 := Try.zeroValue0
  i0 := by kernel_rfl
  t3 := Try.underlying3
  a3 := Try.isAgg3
  z3 := Try.sizeOf3
  v3 := Try.zeroValue3
  i3 := by kernel_rfl
  t4 := Try.underlying4
  a4 := Try.isAgg4
  z4 := Try.sizeOf4
  v4 := Try.zeroValue4
  i4 := by kernel_rfl
  t9 := Try.underlying9
  a9 := Try.isAgg9
  z9 := Try.sizeOf9
  v9 := Try.zeroValue9
  i9 := by kernel_rfl
  t21 := Try.underlying21
  a21 := Try.isAgg21
  z21 := Try.sizeOf21
  v21 := Try.zeroValue21
  i21 := by kernel_rfl
  t23 := Try.underlying86
  a23 := Try.isAgg86
  z23 := Try.sizeOf86
  v23 := Try.zeroValue86
  i23 := by kernel_rfl }
theorem containsFunc_any (g : Nat) (lb : Array Value) (eg : ∀ args w, (callFunc g args).run Try.prog w = .ok (.enter g args) w) (p : Nat → Bool) (s : ByteArray) (w : World) (hp : PredAt Try.prog g lb encR p w) :
    Calls Try.prog 40 #[.string s, .func (.func g) #[] lb] w fun e w' => e = .returned (.bool (decide (0 ≤ Lib.idxFunc p true s))) ∧ Below w.heap.size w w' := Any.strings_ContainsFunc contains_lays g lb eg p s w hp

/-- What a name's letters may not be. -/
def notLetter (r : Nat) : Bool := (decide (r < 97) || decide (122 < r)) && (decide (r < 48) || decide (57 < r))
theorem letter_pred (w : World) : PredAt Try.prog 41 #[] encR notLetter w := fun W r _ => by
  unfold FnGives notLetter
  by_cases h1 : r < 97 <;> by_cases h2 : 122 < r <;> by_cases h3 : r < 48 <;> by_cases h4 : 57 < r
  all_goals try (exfalso; omega)
  all_goals
    have z1 : ((r : Int) < 97) ↔ r < 97 := by omega
    have z2 : ((122 : Int) < (r : Int)) ↔ 122 < r := by omega
    have z3 : ((r : Int) < 48) ↔ r < 48 := by omega
    have z4 : ((57 : Int) < (r : Int)) ↔ 57 < r := by omega
    go_enter Try.func41, Try.ntmps41
    go_wp2
    all_goals (go_ret; exact ⟨by simp [h1, h2, h3, h4], 0, rfl⟩)
/-- A name: one to twelve bytes, letters and digits. -/
def nameOk (s : ByteArray) : Bool := !s.toList.isEmpty && (decide (s.size ≤ 12) && !decide (0 ≤ Lib.idxFunc notLetter true s))
set_option maxRecDepth 100000 in
set_option maxHeartbeats 2000000 in
theorem Name_any (s : ByteArray) (w : World) :
    Calls Try.prog 30 #[.string s] w fun e w' => e = .returned (.bool (nameOk s)) ∧ Below w.heap.size w w' := by
  have hC := Lib.hid (fun W => containsFunc_any 41 #[] (enters_of Try.func41 (by kernel_rfl) rfl) notLetter s W (letter_pred W))
  unfold nameOk
  cases hb : s.toList.isEmpty with
  | true =>
    go_enter Try.func30, Try.ntmps30
    go_wp2_with fail
    go_ret
    exact ⟨by simp, Below.refl _ _⟩
  | false =>
    by_cases h12 : s.size ≤ 12
    · rw [decide_eq_true h12]
      generalize decide (0 ≤ Lib.idxFunc notLetter true s) = d at *
      go_enter Try.func30, Try.ntmps30
      go_wp2_with fail
      refine (hC.out _).mono ?_
      rintro e w' ⟨rfl, hb'⟩
      cases d
      all_goals
        go_wp2
        go_ret
        exact ⟨rfl, hb'⟩
    · rw [decide_eq_false h12]
      go_enter Try.func30, Try.ntmps30
      go_wp2_with fail
      go_ret
      exact ⟨by simp, Below.refl _ _⟩
theorem name_a : nameOk ⟨#[97]⟩ = true := by kernel_rfl
end Go.Proofs.Ytpmbbhefcejjlaa
