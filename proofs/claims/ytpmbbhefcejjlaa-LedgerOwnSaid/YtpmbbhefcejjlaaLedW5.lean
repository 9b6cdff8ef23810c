/-
  The walks of Same, New, Closed, Close.
-/
import Derived.Test.YtpmbbhefcejjlaaLedW2
import Derived.Deep.QuietTactic
import Derived.Deep.Cut
import Derived.Laws.StructEq
namespace Go.Proofs.Ytpmbbhefcejjlaa
open Go.RowKit
set_option linter.unusedVariables false

theorem line_fields : Try.prog.fieldsOf 35 = #[{ name := "Account", type := 3, offset := 0, embedded := false, tag := "", pkgPath := "", byteOffset := 0 }, { name := "Amount", type := 2, offset := 1, embedded := false, tag := "", pkgPath := "", byteOffset := 8 }] := by
  unfold Program.fieldsOf
  rw [Try.underlying35]
theorem line_struct : Try.prog.underlying 35 = some (.struct (Try.prog.fieldsOf 35)) := by
  rw [line_fields, Try.underlying35]
theorem line_held : Try.prog.stoodInHeld 35 = false := by kernel_rfl
theorem line_guard : Try.prog.eqGuardType Try.prog.depth 35 = false := by kernel_rfl
theorem line_equal (x1 x2 y1 y2 : Int) (w : World) : (Op.equalIn 10000 35 (.agg #[.int .i64 x1, .int .i64 x2]) (.agg #[.int .i64 y1, .int .i64 y2])).run Try.prog w = .ok (x1 == y1 && x2 == y2) w := by
  rw [run_equalIn_agg w 9999 _ _ _ line_struct line_held, line_fields]
  have p1 : ∀ a b : Int, (part 3 #[.int .i64 a, .int .i64 b] 0).run Try.prog w = .ok (.int .i64 a) w := fun a b => by kernel_rfl
  have p2 : ∀ a b : Int, (part 2 #[.int .i64 a, .int .i64 b] 1).run Try.prog w = .ok (.int .i64 b) w := fun a b => by kernel_rfl
  have e1 := fun a b => run_equalIn_int (P := Try.prog) w 9998 3 .i64 .i64 a b Try.underlying3
  have e2 := fun a b => run_equalIn_int (P := Try.prog) w 9998 2 .i64 .i64 a b Try.underlying2
  simp only [Op.eqFields]
  by_cases h1 : x1 = y1 <;> by_cases h2 : x2 = y2 <;> simp [h1, h2, p1, p2, e1, e2]
theorem belowD {B : Nat} {a w : World} (h : Below B a w) (n : Nat) : Below B a (w.drewN n) := ⟨h.os, h.tape, h.output, h.size, h.block⟩
theorem same_step {ls ms : List (Int × Int)} (h : ls.length = ms.length) (j : Nat) (hj : j < ls.length) (hj' : j < ms.length) (hp : ls.take j = ms.take j) (he : ls[j] = ms[j]) : ls.take (j + 1) = ms.take (j + 1) := by
  rw [take_snoc' ls j hj, take_snoc' ms j hj', hp, he]
set_option maxRecDepth 100000 in
set_option maxHeartbeats 2000000 in
theorem Same_any (A B : Option Addr) (m n c d : Nat) (ls ms : List (Int × Int)) (w : World) (hA : RdL w A m ls) (hB : RdL w B n ms) (hm : m ≤ 8796093022208) (hn : n ≤ 8796093022208) :
    Calls Try.prog 12 #[.slice A m c, .slice B n d] w fun e w' => e = .returned (.bool (decide (ls = ms))) ∧ Below w.heap.size w w' := by
  generalize hd : decide (ls = ms) = D
  have HD := Lib.hid hd
  clear hd
  have hl1 := Lib.hid hA.len
  have hl2 := Lib.hid hB.len
  by_cases hmn : m = n
  · subst hmn
    go_enter Try.func12, Try.ntmps12
    go_wp2
    go_loopw [13] (fun i wr => ∃ j : Nat, j ≤ m ∧ i = .int .i64 j ∧ Hid (ls.take j = ms.take j) ∧ Below w.heap.size w wr) (fun i _ => m - (intOf i).toNat)
    case atStart => exact ⟨0, by omega, rfl, Lib.hid (by simp), Below.refl _ _⟩
    case round =>
      obtain ⟨j, hj, rfl, hp, hb⟩ := hrel
      by_cases hlt : j < m
      · obtain ⟨a, o, rfl⟩ := hA.addr (by omega)
        obtain ⟨b, q, rfl⟩ := hB.addr (by omega)
        have h1 : j < ls.length := by rw [hl1.out]; exact hlt
        have h2 : j < ms.length := by rw [hl2.out]; exact hlt
        obtain ⟨c1, c2⟩ := (hA.below hb).cells j h1
        obtain ⟨d1, d2⟩ := (hB.below hb).cells j h2
        have HS := Lib.hid (same_step (hl1.out.trans hl2.out.symm) j h1 h2 hp.out)
        have HN : Hid (ls[j] ≠ ms[j] → D = false) := Lib.hid (fun h => by rw [← HD.out]; exact decide_eq_false (fun e => h (by subst e; rfl)))
        clear hA hB
        generalize ls[j] = x at *
        generalize ms[j] = y at *
        obtain ⟨x1, x2⟩ := x
        obtain ⟨y1, y2⟩ := y
        simp only at c1 c2 d1 d2
        rw [← Nat.add_assoc] at c2 d2
        clear h1 h2
        have g4 := line_guard
        by_cases hx : (x1, x2) = (y1, y2)
        · have g1 : ∀ W, (Op.equalIn 10000 35 (.agg #[.int .i64 x1, .int .i64 x2]) (.agg #[.int .i64 y1, .int .i64 y2])).run Try.prog W = .ok true W := fun W => by
            injection hx with e1 e2
            rw [line_equal x1 x2 y1 y2 W, e1, e2]
            simp
          have HX := Lib.hid (HS.out hx)
          clear HN hx
          go_upto_region 6 with (fail)
          go_quiet (fail)
          go_wp2
          go_roundw
          case rel => exact ⟨j + 1, by omega, by go_num, HX, belowD hb _⟩
          case measure => simp [intOf]; omega
        · have g1 : ∀ W, (Op.equalIn 10000 35 (.agg #[.int .i64 x1, .int .i64 x2]) (.agg #[.int .i64 y1, .int .i64 y2])).run Try.prog W = .ok false W := fun W => by
            rw [line_equal x1 x2 y1 y2 W]
            have : (x1 == y1 && x2 == y2) = false := by
              rw [Bool.eq_false_iff]
              intro h
              simp at h
              exact hx (by rw [h.1, h.2])
            rw [this]
          have HX := HN.out hx
          subst HX
          clear HN HS hx
          go_upto_region 6 with (fail)
          go_quiet (fail)
          go_wp2
          go_ret
          exact ⟨rfl, belowD hb _⟩
      · have hj2 : j = m := by omega
        have hD : D = true := by rw [← HD.out]; exact decide_eq_true (by have := hp.out; rw [List.take_of_length_le (by rw [hl1.out]; omega), List.take_of_length_le (by rw [hl2.out]; omega)] at this; exact this)
        subst hD
        clear hA hB
        go_wp2
        go_ret
        exact ⟨rfl, hb⟩
  · have hne : D = false := by rw [← HD.out]; exact decide_eq_false (fun h => hmn (by rw [← hl1.out, ← hl2.out, h]))
    subst hne
    go_enter Try.func12, Try.ntmps12
    go_wp2
    go_ret
    exact ⟨rfl, Below.refl _ _⟩
end Go.Proofs.Ytpmbbhefcejjlaa
