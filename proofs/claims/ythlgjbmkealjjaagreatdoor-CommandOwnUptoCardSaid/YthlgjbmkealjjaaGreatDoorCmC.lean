/-
  A command that came in: what the calls answer of it. No statement is proved here.
-/
import Derived.Test.YthlgjbmkealjjaaGreatDoorCmB
import Derived.Test.YthlgjbmkealjjaaGreatDoorCmRW
namespace Go.Proofs.YthlgjbmkealjjaaGreatDoor
open Go.RowKit
set_option linter.unusedVariables false
structure CmdIn (w : World) (c : Cm) (A : Option Addr) (n k : Nat) : Prop where
  vrs : Vrs w.heap.size w
  rd : Rd w 1 A n (c.args.map (Value.int .i64))
  len : c.args.length = n
  cap : n ≤ k
  kb : k ≤ 1048576
  ints : ∀ z ∈ c.args, -9223372036854775808 ≤ z ∧ z ≤ 9223372036854775807
  s1 : c.op.size ≤ 1048576
  s2 : c.name.size ≤ 1048576
  s3 : c.text.size ≤ 1048576
theorem vrs_at {w W : World} (h : Vrs w.heap.size w) (hW : Below w.heap.size w W) : Vrs W.heap.size W := fun W' hW' => h W' (hW.trans (hW'.mono hW.size))
section
variable {w W : World} {c : Cm} {A : Option Addr} {n k : Nat}
theorem own_b (h : CmdIn w c A n k) (hW : Below w.heap.size w W) : Calls Tryz.prog 12 #[.agg #[.string c.op, .string c.name, .slice A n k, .string c.text]] W fun e w' => (∃ A' k', e = .returned (.agg #[.string c.op, .string c.name, .slice A' n k', .string c.text]) ∧ n ≤ k' ∧ w'.ownsRow W.heap.size 2 1 (.slice A' n k') n (c.args.map (Value.int .i64)) ∧ Rd w' 1 A' n (c.args.map (Value.int .i64))) ∧ Below W.heap.size W w' := by
  have hkb := h.kb
  have hcp := h.cap
  refine (own_any c A n k W (Lib.hid h.len) (h.rd.below hW) (by omega)).mono ?_
  rintro e w' ⟨⟨A', k', rfl, ho⟩, hb⟩
  exact ⟨⟨A', k', rfl, own_cap ho, ho, Rd.of_own ho⟩, hb⟩
theorem Write_b (h : CmdIn w c A n k) (hW : Below w.heap.size w W) (A' : Option Addr) (k' : Nat) (hr : Rd W 1 A' n (c.args.map (Value.int .i64))) (hk : n ≤ k') : Calls Tryz.prog 11 #[.agg #[.string c.op, .string c.name, .slice A' n k', .string c.text]] W fun e w' => e = .returned (.tuple #[.string (progW c).1, .int .i64 (progW c).2]) ∧ Below W.heap.size W w' := by
  have hkb := h.kb
  have hcp := h.cap
  exact Write_any c A' n k' W (Lib.hid h.len) hr hk (by omega) h.ints (Nat.le_trans h.s1 (by omega)) (Nat.le_trans h.s2 (by omega)) (Nat.le_trans h.s3 (by omega)) (vrs_at h.vrs hW)
theorem refWrite_b (h : CmdIn w c A n k) (hW : Below w.heap.size w W) : Calls Tryz.prog 13 #[.agg #[.string c.op, .string c.name, .slice A n k, .string c.text]] W fun e w' => e = .returned (.tuple #[.string (progW c).1, .int .i64 (progW c).2]) ∧ Below W.heap.size W w' := by
  have hkb := h.kb
  have hcp := h.cap
  have a1 := h.s1
  have a2 := h.s2
  have a3 := h.s3
  refine (refWrite_any c A n k W (Lib.hid h.len) (h.rd.below hW) (by omega) h.ints (by omega)).mono ?_
  rintro e w' ⟨⟨x, er, rfl, hs⟩, hb⟩
  obtain ⟨e1, e2⟩ := says_uni hs (progW_says c)
  rw [e1, e2]
  exact ⟨rfl, hb⟩
theorem Same_b (d : Cm) {A' : Option Addr} {n' k' : Nat} (hn : c.args.length = n) (hn' : d.args.length = n') (hr : Rd W 1 A n (c.args.map (Value.int .i64))) (hr' : Rd W 1 A' n' (d.args.map (Value.int .i64))) (hm : n ≤ 140737488355328) (hm' : n' ≤ 140737488355328) (hs : sameC c d) : Calls Tryz.prog 10 #[.agg #[.string c.op, .string c.name, .slice A n k, .string c.text], .agg #[.string d.op, .string d.name, .slice A' n' k', .string d.text]] W fun e w' => e = .returned (.bool true) ∧ Below W.heap.size W w' := by
  have h := refSame_any c d A n k A' n' k' W (Lib.hid hn) (Lib.hid hn') hr hr' hm hm'
  rw [decide_eq_true hs] at h
  exact h
end
theorem read_bound {k : Kd} {c c' : Cm} {w : List UInt8} (h : readW k c w = (c', 0)) (hw : w.length ≤ 400) (h0 : c.op.size ≤ 400 ∧ c.name.size ≤ 400 ∧ c.text.size ≤ 400 ∧ ∀ z ∈ c.args, -9223372036854775808 ≤ z ∧ z ≤ 9223372036854775807) : c'.op.size ≤ 400 ∧ c'.name.size ≤ 400 ∧ c'.text.size ≤ 400 ∧ ∀ z ∈ c'.args, -9223372036854775808 ≤ z ∧ z ≤ 9223372036854775807 := by
  obtain ⟨b1, b2, b3, b4⟩ := h0
  have hbs : (bs w).size ≤ 400 := by rw [bs_size]; exact hw
  have push : ∀ z : Int, (-9223372036854775808 ≤ z ∧ z ≤ 9223372036854775807) → ∀ y ∈ c.args ++ [z], -9223372036854775808 ≤ y ∧ y ≤ 9223372036854775807 := fun z hz y hy => by
    rcases List.mem_append.1 hy with h | h
    · exact b4 y h
    · rw [List.mem_singleton] at h; subst h; exact hz
  cases k with
  | n =>
    simp only [readW] at h
    injection h with h1 h2
    subst h1
    exact ⟨b1, hbs, b3, b4⟩
  | t =>
    simp only [readW] at h
    injection h with h1 h2
    subst h1
    exact ⟨b1, b2, hbs, b4⟩
  | d =>
    simp only [readW] at h
    injection h with h1 h2
    subst h1
    have hin := civOf_in w h2
    exact ⟨b1, b2, b3, push _ (by omega)⟩
  | m =>
    simp only [readW] at h
    injection h with h1 h2
    subst h1
    have hm : monOk (readOf w) = true := by
      cases e : monOk (readOf w)
      · rw [e] at h2; simp at h2
      · rfl
    obtain ⟨_, q1, q2⟩ := monOk_t (x := (readOf w).1) (er := (readOf w).2) hm
    exact ⟨b1, b2, b3, push _ (by omega)⟩
  | i =>
    simp only [readW] at h
    injection h with h1 h2
    subst h1
    have hm : numOk w = true := by
      cases e : numOk w
      · rw [e] at h2; simp at h2
      · rfl
    obtain ⟨_, h18, hd, _⟩ := (numOk_iff w).1 hm
    have hlt : numOf w < 10 ^ 18 := Nat.lt_of_lt_of_le (numOf_lt w hd) (Nat.pow_le_pow_right (by omega) h18)
    exact ⟨b1, b2, b3, push _ (by omega)⟩
theorem run_bound (op : List UInt8) (ho : op.length ≤ 400) (l : List (Kd × List UInt8)) : ∀ c' : Cm, runW op l = some (c', 0) → (∀ x ∈ l, x.2.length ≤ 400) → c'.op.size ≤ 400 ∧ c'.name.size ≤ 400 ∧ c'.text.size ≤ 400 ∧ ∀ z ∈ c'.args, -9223372036854775808 ≤ z ∧ z ≤ 9223372036854775807 := by
  refine snoc_ind (P := fun l => ∀ c' : Cm, runW op l = some (c', 0) → (∀ x ∈ l, x.2.length ≤ 400) → c'.op.size ≤ 400 ∧ c'.name.size ≤ 400 ∧ c'.text.size ≤ 400 ∧ ∀ z ∈ c'.args, -9223372036854775808 ≤ z ∧ z ≤ 9223372036854775807) ?_ ?_ l
  · intro c' h _
    unfold runW at h
    injection h with h
    injection h with h _
    subst h
    exact ⟨by show (bs op).size ≤ 400; rw [bs_size]; exact ho, Nat.zero_le _, Nat.zero_le _, fun z hz => by cases hz⟩
  · intro l x ih c' h hx
    rw [runW_snoc] at h
    obtain ⟨k, w⟩ := x
    cases hr : runW op l with
    | none => rw [hr] at h; cases h
    | some s =>
      obtain ⟨c1, late1⟩ := s
      rw [hr] at h
      have h0 : (readW k c1 w).2 = 0 ∧ late1 = 0 ∧ (readW k c1 w).1 = c' := by
        unfold stepW at h
        simp only [Option.bind_some] at h
        split at h
        · rename_i he
          injection h with h
          injection h with e1 e2
          exact ⟨he, e2, e1⟩
        · split at h
          · injection h with h
            injection h with _ e2
            cases e2
          · cases h
      obtain ⟨h1, rfl, h2⟩ := h0
      exact read_bound (Prod.ext h2 h1) (hx (k, w) (by simp)) (ih c1 hr (fun y hy => hx y (List.mem_append_left _ hy)))
theorem parse_bound2 {l : List UInt8} {c : Cm} (h : parseAns l = (c, 0)) : c.op.size ≤ 400 ∧ c.name.size ≤ 400 ∧ c.text.size ≤ 400 ∧ ∀ z ∈ c.args, -9223372036854775808 ≤ z ∧ z ≤ 9223372036854775807 := by
  unfold parseAns at h
  split at h
  · injection h with _ h; cases h
  · rename_i hl
    have hwl : ∀ x ∈ wordsOf l, x.length ≤ 400 := fun x hx => Nat.le_trans (words_mem l x hx) (by omega)
    cases hw : wordsOf l with
    | nil => exact absurd hw (words_ne l)
    | cons op r =>
      rw [hw] at h hwl
      cases hf : formOf op ((r.length : Int) - 1) with
      | none => rw [parse_none hf] at h; injection h with _ h; cases h
      | some f =>
        rw [parse_some hf] at h
        split at h
        · injection h with _ h; cases h
        · cases hr : runW op (f.zip r) with
          | none => rw [hr] at h; injection h with _ h; cases h
          | some s =>
            obtain ⟨cm, late⟩ := s
            rw [hr] at h
            unfold endW at h
            dsimp only at h
            split at h
            · rename_i hne
              injection h with _ h
              exact absurd h hne
            · rename_i hl0
              have hl0 : late = 0 := Decidable.not_not.1 hl0
              subst hl0
              injection h with h _
              subst h
              exact run_bound op (hwl op List.mem_cons_self) _ cm hr (fun x hx => hwl _ (List.mem_cons_of_mem _ (List.of_mem_zip hx).2))
end Go.Proofs.YthlgjbmkealjjaaGreatDoor
