/-
  The engine's places as keys of a map. No statement is proved here.
-/
import Derived.Test.YtcbopgopegphlaaGreatEnI
namespace Go.Proofs.YtcbopgopegphlaaGreat
open Go.RowKit
set_option linter.unusedVariables false
theorem place_fields : Tryz.prog.fieldsOf 72 = #[{ name := "booked", type := 3, offset := 0, embedded := false, tag := "", pkgPath := "usance/engine", byteOffset := 0 }, { name := "many", type := 3, offset := 1, embedded := false, tag := "", pkgPath := "usance/engine", byteOffset := 8 }] := by
  unfold Program.fieldsOf
  rw [Tryz.underlying72]
theorem place_struct : Tryz.prog.underlying 72 = some (.struct (Tryz.prog.fieldsOf 72)) := by
  rw [place_fields, Tryz.underlying72]
theorem place_held : Tryz.prog.stoodInHeld 72 = false := by kernel_rfl
theorem place_equal (a b : Int × Int) (w : World) : (Op.equalIn 10000 72 (keP a) (keP b)).run Tryz.prog w = .ok (a == b) w := by
  obtain ⟨a1, a2⟩ := a
  obtain ⟨b1, b2⟩ := b
  unfold keP
  rw [run_equalIn_agg w 9999 _ _ _ place_struct place_held, place_fields]
  have p1 : ∀ a b : Int, (part 3 #[.int .i64 a, .int .i64 b] 0).run Tryz.prog w = .ok (.int .i64 a) w := fun a b => by kernel_rfl
  have p2 : ∀ a b : Int, (part 3 #[.int .i64 a, .int .i64 b] 1).run Tryz.prog w = .ok (.int .i64 b) w := fun a b => by kernel_rfl
  have e1 := fun a b => run_equalIn_int (P := Tryz.prog) w 9998 3 .i64 .i64 a b Tryz.underlying3
  simp only [Op.eqFields]
  by_cases h1 : a1 = b1 <;> by_cases h2 : a2 = b2 <;> simp [h1, h2, p1, p2, e1]
theorem asking_place {ν : Type} (ve : ν → Value) (l : List ((Int × Int) × ν)) (k : Int × Int) (b i : Nat) (w : World) : (Instr.findAsking 72 (keP k) (mapG keP ve l b) i).run Tryz.prog w = .ok ((idxG l k i).map fun p => (p.1, ve p.2)) w := by
  induction l generalizing b i with
  | nil => rfl
  | cons x l ih =>
    have e : (Op.equal 72 (keP k) (keP x.1)).run Tryz.prog w = .ok (k == x.1) w := place_equal k x.1 w
    unfold mapG idxG Instr.findAsking
    by_cases h : k = x.1
    · have h2 : (k == x.1) = true := by simp [h]
      rw [if_pos h]
      rw [h2] at e
      simp [e]
    · have h2 : (k == x.1) = false := by rw [beq_eq_false_iff_ne]; exact h
      simp [e, h, h2, ih]
theorem place_find {ν : Type} (ve : ν → Value) (l : List ((Int × Int) × ν)) (k : Int × Int) (w : World) : (Instr.findKey 72 (keP k) (mapG keP ve l 0)).run Tryz.prog w = .ok ((idxG l k 0).map fun p => (p.1, ve p.2)) w := by
  unfold Instr.findKey
  cases l with
  | nil => kernel_rfl
  | cons x l =>
    have hn : Instr.findNow (.struct (Tryz.prog.fieldsOf 72)) (keP k) (mapG keP ve (x :: l) 0) 0 = none := by
      unfold mapG Instr.findNow Instr.sameNow keP
      rfl
    have := asking_place ve (x :: l) k 0 0 w
    simp [run_underlying place_struct w, hn, this]
theorem place_check (e : Bool) (k : Int × Int) (w : World) : (Instr.checkKey e 10000 72 (keP k)).run Tryz.prog w = .ok () w := by
  cases e <;> kernel_rfl
theorem place_stays (k : Int × Int) (w : World) : (Instr.keyThatStays (keP k) (keP k)).run Tryz.prog w = .ok (keP k) w := by
  have : Instr.sameBits 10000 (keP k) (keP k) = true := by simp [Instr.sameBits, keP]
  simp [Instr.keyThatStays, this]
theorem keyOk_place {ν : Type} (ve : ν → Value) : KeyOk keP ve Tryz.prog 72 where
  find l k w := place_find ve l k w
  check e k w := place_check e k w
  stays k w := place_stays k w
end Go.Proofs.YtcbopgopegphlaaGreat
