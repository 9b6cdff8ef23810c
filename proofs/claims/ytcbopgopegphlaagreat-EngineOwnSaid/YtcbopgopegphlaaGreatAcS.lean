/-
  Two states that are the same are equal. No statement is proved here.
-/
import Derived.Test.YtcbopgopegphlaaGreatAcX
import Derived.Laws.StructEq
namespace Go.Proofs.YtcbopgopegphlaaGreat
open Go.RowKit
set_option linter.unusedVariables false

set_option maxRecDepth 100000 in
set_option maxHeartbeats 1000000 in
theorem st_equal (s : St) (w : World) : (Op.equalIn 10000 45 s.val s.val).run Tryz.prog w = .ok true w := by
  have hf : Tryz.prog.fieldsOf 45 = (match Tryz.prog.underlying 45 with | some (.struct fs) => fs | _ => #[]) := rfl
  rw [Tryz.underlying45] at hf
  simp only at hf
  have e1 := fun a W => run_equalIn_int (P := Tryz.prog) W 9998 3 .i64 .i64 a a Tryz.underlying3
  have e2 := fun a W => run_equalIn_int (P := Tryz.prog) W 9998 2 .i64 .i64 a a Tryz.underlying2
  obtain ⟨a0, a1, a2, a3, a4, a5, a6, a7, a8, a9, a10, a11⟩ := s
  unfold St.val stCells
  rw [show (10000 : Nat) = 9999 + 1 from rfl, run_equalIn_struct w 9999 _ _ _ (by rw [hf]; exact Tryz.underlying45) (by kernel_rfl), hf]
  have p0 : ∀ W, (part 3 #[.int .i64 a0, .int .i64 a1, .int .i64 a2, .int .i64 a3, .int .i64 a4, .int .i64 a5, .int .i64 a6, .int .i64 a7, .int .i64 a8, .int .i64 a9, .int .i64 a10, .int .i64 a11] 0).run Tryz.prog W = .ok (.int .i64 a0) W := fun W => by kernel_rfl
  have p1 : ∀ W, (part 2 #[.int .i64 a0, .int .i64 a1, .int .i64 a2, .int .i64 a3, .int .i64 a4, .int .i64 a5, .int .i64 a6, .int .i64 a7, .int .i64 a8, .int .i64 a9, .int .i64 a10, .int .i64 a11] 1).run Tryz.prog W = .ok (.int .i64 a1) W := fun W => by kernel_rfl
  have p2 : ∀ W, (part 2 #[.int .i64 a0, .int .i64 a1, .int .i64 a2, .int .i64 a3, .int .i64 a4, .int .i64 a5, .int .i64 a6, .int .i64 a7, .int .i64 a8, .int .i64 a9, .int .i64 a10, .int .i64 a11] 2).run Tryz.prog W = .ok (.int .i64 a2) W := fun W => by kernel_rfl
  have p3 : ∀ W, (part 2 #[.int .i64 a0, .int .i64 a1, .int .i64 a2, .int .i64 a3, .int .i64 a4, .int .i64 a5, .int .i64 a6, .int .i64 a7, .int .i64 a8, .int .i64 a9, .int .i64 a10, .int .i64 a11] 3).run Tryz.prog W = .ok (.int .i64 a3) W := fun W => by kernel_rfl
  have p4 : ∀ W, (part 2 #[.int .i64 a0, .int .i64 a1, .int .i64 a2, .int .i64 a3, .int .i64 a4, .int .i64 a5, .int .i64 a6, .int .i64 a7, .int .i64 a8, .int .i64 a9, .int .i64 a10, .int .i64 a11] 4).run Tryz.prog W = .ok (.int .i64 a4) W := fun W => by kernel_rfl
  have p5 : ∀ W, (part 2 #[.int .i64 a0, .int .i64 a1, .int .i64 a2, .int .i64 a3, .int .i64 a4, .int .i64 a5, .int .i64 a6, .int .i64 a7, .int .i64 a8, .int .i64 a9, .int .i64 a10, .int .i64 a11] 5).run Tryz.prog W = .ok (.int .i64 a5) W := fun W => by kernel_rfl
  have p6 : ∀ W, (part 2 #[.int .i64 a0, .int .i64 a1, .int .i64 a2, .int .i64 a3, .int .i64 a4, .int .i64 a5, .int .i64 a6, .int .i64 a7, .int .i64 a8, .int .i64 a9, .int .i64 a10, .int .i64 a11] 6).run Tryz.prog W = .ok (.int .i64 a6) W := fun W => by kernel_rfl
  have p7 : ∀ W, (part 2 #[.int .i64 a0, .int .i64 a1, .int .i64 a2, .int .i64 a3, .int .i64 a4, .int .i64 a5, .int .i64 a6, .int .i64 a7, .int .i64 a8, .int .i64 a9, .int .i64 a10, .int .i64 a11] 7).run Tryz.prog W = .ok (.int .i64 a7) W := fun W => by kernel_rfl
  have p8 : ∀ W, (part 2 #[.int .i64 a0, .int .i64 a1, .int .i64 a2, .int .i64 a3, .int .i64 a4, .int .i64 a5, .int .i64 a6, .int .i64 a7, .int .i64 a8, .int .i64 a9, .int .i64 a10, .int .i64 a11] 8).run Tryz.prog W = .ok (.int .i64 a8) W := fun W => by kernel_rfl
  have p9 : ∀ W, (part 2 #[.int .i64 a0, .int .i64 a1, .int .i64 a2, .int .i64 a3, .int .i64 a4, .int .i64 a5, .int .i64 a6, .int .i64 a7, .int .i64 a8, .int .i64 a9, .int .i64 a10, .int .i64 a11] 9).run Tryz.prog W = .ok (.int .i64 a9) W := fun W => by kernel_rfl
  have p10 : ∀ W, (part 3 #[.int .i64 a0, .int .i64 a1, .int .i64 a2, .int .i64 a3, .int .i64 a4, .int .i64 a5, .int .i64 a6, .int .i64 a7, .int .i64 a8, .int .i64 a9, .int .i64 a10, .int .i64 a11] 10).run Tryz.prog W = .ok (.int .i64 a10) W := fun W => by kernel_rfl
  have p11 : ∀ W, (part 3 #[.int .i64 a0, .int .i64 a1, .int .i64 a2, .int .i64 a3, .int .i64 a4, .int .i64 a5, .int .i64 a6, .int .i64 a7, .int .i64 a8, .int .i64 a9, .int .i64 a10, .int .i64 a11] 11).run Tryz.prog W = .ok (.int .i64 a11) W := fun W => by kernel_rfl
  have q1 : ∀ a W, (Op.equalIn 9999 3 (.int .i64 a) (.int .i64 a)).run Tryz.prog W = .ok true W := fun a W => by rw [show (9999 : Nat) = 9998 + 1 from rfl, e1]; simp
  have q2 : ∀ a W, (Op.equalIn 9999 2 (.int .i64 a) (.int .i64 a)).run Tryz.prog W = .ok true W := fun a W => by rw [show (9999 : Nat) = 9998 + 1 from rfl, e2]; simp
  simp only [Op.eqFields, Sem.run_bind, Sem.run_ite, p0, p1, p2, p3, p4, p5, p6, p7, p8, p9, p10, p11, q1, q2, Result.andThen_ok]
  simp
end Go.Proofs.YtcbopgopegphlaaGreat
