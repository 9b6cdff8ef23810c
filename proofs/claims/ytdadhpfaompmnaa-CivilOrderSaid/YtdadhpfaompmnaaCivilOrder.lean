/-
  The walk of the law CivilOrder: it returns true.
-/
import Derived.Test.YtdadhpfaompmnaaCivilW10
namespace Go.Proofs.Ytdadhpfaompmnaa
open Go.RowKit
set_option linter.unusedVariables false
set_option linter.unusedSimpArgs false

/-! ### Texts are ordered as the days are -/
theorem less_dig (u v : Nat) (r s : List UInt8) : Op.bytesLess (dig u :: r) (dig v :: s) = (decide (u % 10 < v % 10) || (decide (u % 10 = v % 10) && Op.bytesLess r s)) := by
  rw [Op.bytesLess]
  have h1 : (dig u < dig v) ↔ u % 10 < v % 10 := by
    rw [UInt8.lt_iff_toNat_lt, dig_toNat, dig_toNat]; omega
  have h2 : (dig u = dig v) ↔ u % 10 = v % 10 := by
    constructor
    · intro h
      have := congrArg UInt8.toNat h
      rw [dig_toNat, dig_toNat] at this
      omega
    · intro h; unfold dig; rw [h]
  rw [show decide (dig u < dig v) = decide (u % 10 < v % 10) from decide_eq_decide.2 h1]
  congr 2
  rw [Bool.eq_iff_iff, beq_iff_eq, decide_eq_true_iff, h2]
theorem less_self (x : UInt8) (r s : List UInt8) : Op.bytesLess (x :: r) (x :: s) = Op.bytesLess r s := by
  rw [Op.bytesLess]
  simp
theorem less_digs (k : Nat) : ∀ (u v : Nat) (r s : List UInt8), u < 10 ^ k → v < 10 ^ k → Op.bytesLess (digs k u ++ r) (digs k v ++ s) = (decide (u < v) || (decide (u = v) && Op.bytesLess r s)) := by
  induction k with
  | zero => intro u v r s hu hv; simp at hu hv; subst hu hv; simp [digs]
  | succ k ih =>
    intro u v r s hu hv
    rw [Nat.pow_succ] at hu hv
    rw [digs, digs, List.append_assoc, List.append_assoc, ih (u / 10) (v / 10) _ _ (by omega) (by omega), List.singleton_append, List.singleton_append, less_dig]
    by_cases h1 : u / 10 < v / 10
    · have h2 : u < v := by omega
      simp [h1, h2]
    · by_cases h2 : u / 10 = v / 10
      · have e1 : decide (u < v) = decide (u % 10 < v % 10) := decide_eq_decide.2 (by omega)
        have e2 : decide (u = v) = decide (u % 10 = v % 10) := decide_eq_decide.2 (by omega)
        rw [e1, e2]
        simp [h1, h2]
      · have h3 : ¬ u < v := by omega
        have h4 : ¬ u = v := by omega
        simp [h1, h2, h3, h4]
theorem less_txt {y m a z n b : Nat} (h : Valid y m a) (h' : Valid z n b) : Op.bytesLess (txt y m a) (txt z n b) = decide (dayOf y m a < dayOf z n b) := by
  have d1 := (dim_le y m).2
  have d2 := (dim_le z n).2
  have g1 := h
  have g2 := h'
  obtain ⟨v1, v2, v3, v4, v5, v6⟩ := h
  obtain ⟨w1, w2, w3, w4, w5, w6⟩ := h'
  have e : Op.bytesLess (txt y m a) (txt z n b) = (decide (y < z) || (decide (y = z) && (decide (m < n) || (decide (m = n) && decide (a < b))))) := by
    have hd : Op.bytesLess (digs 2 a) (digs 2 b) = decide (a < b) := by
      have := less_digs 2 a b [] [] (by omega) (by omega)
      simpa [Op.bytesLess] using this
    unfold txt
    simp only [List.append_assoc, List.cons_append, List.nil_append]
    rw [less_digs 4 y z _ _ (by omega) (by omega), less_self, less_digs 2 m n _ _ (by omega) (by omega), less_self, hd]
  rw [e]
  rw [Bool.eq_iff_iff]
  simp only [Bool.or_eq_true, Bool.and_eq_true, decide_eq_true_eq]
  constructor
  · intro hl
    exact dayOf_lt g1 g2 hl
  · intro hl
    by_cases h1 : y < z ∨ y = z ∧ (m < n ∨ m = n ∧ a < b)
    · exact h1
    · exfalso
      by_cases h2 : z < y ∨ z = y ∧ (n < m ∨ n = m ∧ b < a)
      · have := dayOf_lt g2 g1 h2; omega
      · obtain ⟨rfl, rfl, rfl⟩ : y = z ∧ m = n ∧ a = b := by omega
        omega
theorem digs_inj (k : Nat) : ∀ u v : Nat, u < 10 ^ k → v < 10 ^ k → digs k u = digs k v → u = v := by
  intro u v hu hv h
  have := congrArg num h
  rw [num_digs k u hu, num_digs k v hv] at this
  exact this
theorem eq_txt {y m a z n b : Nat} (h : Valid y m a) (h' : Valid z n b) : ((txt y m a) == (txt z n b)) = (dayOf y m a == dayOf z n b) := by
  rw [Bool.eq_iff_iff, beq_iff_eq, beq_iff_eq]
  constructor
  · intro he
    have h1 := readAs_of h (l := txt y m a) rfl
    rw [he] at h1
    have := h1.txt h'
    injection this
  · intro he
    obtain ⟨rfl, rfl, rfl⟩ := dayOf_inj h h' he
    rfl

set_option maxHeartbeats 2000000 in
theorem CivilOrder_walk (a b : Int) (w : World) (ha0 : -9223372036854775808 ≤ a) (ha1 : a ≤ 9223372036854775807) (hb0' : -9223372036854775808 ≤ b) (hb1' : b ≤ 9223372036854775807) :
    Calls Try.prog 8 #[.int .i64 a, .int .i64 b] w fun e w' => e = .returned (.bool true) ∧ Below w.heap.size w w' := by
  go_enter Try.func8, Try.ntmps8
  go_wp2_with fail
  refine (wakes_any w).mono ?_
  rintro e w1 ⟨rfl, hb1⟩
  by_cases ra : -719162 ≤ a ∧ a ≤ 2932896
  · by_cases rb : -719162 ≤ b ∧ b ≤ 2932896
    · go_wp2_with fail
      refine (Text_in a w1 ra.1 ra.2).mono ?_
      rintro e w2 ⟨⟨y, m, c, hv, hd, rfl⟩, hb2⟩
      have HV := Lib.hid hv
      have HD := Lib.hid hd
      clear hv hd
      have hb02 := hb1.trans (hb2.mono hb1.size)
      go_wp2_with fail
      refine (Text_in b w2 rb.1 rb.2).mono ?_
      rintro e w3 ⟨⟨y', m', c', hv', hd', rfl⟩, hb3⟩
      have hb03 := hb02.trans (hb3.mono hb02.size)
      have l1 := less_txt HV.out hv'
      have l2 := eq_txt HV.out hv'
      rw [HD.out, hd'] at l1 l2
      clear hv' hd'
      generalize txt y m c = t1 at l1 l2
      generalize txt y' m' c' = t2 at l1 l2
      clear HV HD
      go_wp2
      go_ret
      exact ⟨by simp, hb03⟩
    · have ho : b < -719162 ∨ 2932896 < b := by omega
      go_wp2_with fail
      refine (Text_in a w1 ra.1 ra.2).mono ?_
      rintro e w2 ⟨⟨y, m, c, hv, hd, rfl⟩, hb2⟩
      clear hv hd
      have hb02 := hb1.trans (hb2.mono hb1.size)
      go_wp2_with fail
      refine (Text_out b w2 ho).mono ?_
      rintro e w3 ⟨rfl, hb3⟩
      have hb03 := hb02.trans (hb3.mono hb02.size)
      go_wp2_with fail
      refine (Good_in a w3 ra.1 ra.2).mono ?_
      rintro e w' ⟨rfl, rfl⟩
      go_wp2_with fail
      refine (Good_out b w3 ho).mono ?_
      rintro e w' ⟨rfl, rfl⟩
      go_wp2
      go_ret
      exact ⟨by simp, hb03⟩
  · have ho : a < -719162 ∨ 2932896 < a := by omega
    have T : ∀ w, Calls Try.prog 18 #[.int .i64 b] w fun e w' => ∃ s q, e = .returned (.tuple #[.string s, .int .i64 q]) ∧ Below w.heap.size w w' := fun w => by
      by_cases rb : -719162 ≤ b ∧ b ≤ 2932896
      · refine (Text_in b w rb.1 rb.2).mono ?_
        rintro e w' ⟨⟨y, m, c, _, _, rfl⟩, h⟩
        exact ⟨_, _, rfl, h⟩
      · refine (Text_out b w (by omega)).mono ?_
        rintro e w' ⟨rfl, h⟩
        exact ⟨_, _, rfl, h⟩
    have HT := Lib.hid T
    clear T
    go_wp2_with fail
    refine (Text_out a w1 ho).mono ?_
    rintro e w2 ⟨rfl, hb2⟩
    have hb02 := hb1.trans (hb2.mono hb1.size)
    go_wp2_with fail
    refine (HT.out w2).mono ?_
    rintro e w3 ⟨s, q, rfl, hb3⟩
    have hb03 := hb02.trans (hb3.mono hb02.size)
    go_wp2_with fail
    refine (Good_out a w3 ho).mono ?_
    rintro e w' ⟨rfl, rfl⟩
    go_wp2
    go_ret
    exact ⟨by simp, hb03⟩
end Go.Proofs.Ytdadhpfaompmnaa
