/-
  The plain law of lines: what one state has more than another one.
-/
import Derived.Test.YtpmbbhefcejjlaaLedL
namespace Go.Proofs.Ytpmbbhefcejjlaa
set_option linter.unusedVariables false

/-- A loan's state. -/
structure St where
  day : Int
  rate : Int
  p : Int
  i : Int
  f : Int
  c : Int
  o : Int
  n : Int
  a : Int
  ch : Int
  late : Int
  bk : Int
def St.val (s : St) : Value := .agg #[.int .i64 s.day, .int .i64 s.rate, .int .i64 s.p, .int .i64 s.i, .int .i64 s.f, .int .i64 s.c, .int .i64 s.o, .int .i64 s.n, .int .i64 s.a, .int .i64 s.ch, .int .i64 s.late, .int .i64 s.bk]
/-- The amounts that are looked at. -/
def eight (s : St) : List Int := [s.p, s.i, s.f, s.c, s.o, s.n, s.a, s.ch]
def fits (x : Int) : Prop := -4000000000000000 ≤ x ∧ x ≤ 4000000000000000
instance (x : Int) : Decidable (fits x) := by unfold fits; infer_instance
def Within (s : St) : Prop := ∀ x ∈ eight s, fits x
instance (s : St) : Decidable (Within s) := by unfold Within; infer_instance
def Even (s : St) : Prop := s.p + s.i + s.f - s.c = s.o + s.a + s.ch - s.n
instance (s : St) : Decidable (Even s) := by unfold Even; infer_instance
def amts (s : St) : List Int := [s.n - s.o, s.p, s.i, s.f, -s.c, -s.a, -s.ch]
def all7 (s t : St) : List (Int × Int) := [(1, t.n - t.o - s.n + s.o), (2, t.p - s.p), (3, t.i - s.i), (4, t.f - s.f), (5, s.c - t.c), (6, s.a - t.a), (7, s.ch - t.ch)]
def linesOf (s t : St) : List (Int × Int) := (all7 s t).filter fun l => l.2 != 0
/-- What Lines answers. -/
def linesAt (s t : St) : List (Int × Int) × Int :=
  if ¬ (Within s ∧ Within t) then ([], 2) else if ¬ (Even s ∧ Even t) then ([], 52) else (linesOf s t, 0)

theorem Within.all {s : St} (h : Within s) : fits s.p ∧ fits s.i ∧ fits s.f ∧ fits s.c ∧ fits s.o ∧ fits s.n ∧ fits s.a ∧ fits s.ch := by
  unfold Within eight at h
  simpa using h
end Go.Proofs.Ytpmbbhefcejjlaa
