/-
  The reference's Times: the plain law, the walk. No statement is proved here.
-/
import Derived.Test.YtjniclalobggpaaDoorAmN4
namespace Go.Proofs.YtjniclalobggpaaDoor
open Go.RowKit
set_option linter.unusedVariables false

theorem dg_add_mul (n m q j : Nat) (h : j < q) : dg (n + m * 65536 ^ q) j = dg n j := by
  obtain ⟨d, rfl⟩ : ∃ d, q = j + 1 + d := ⟨q - j - 1, by omega⟩
  unfold dg
  have e : m * 65536 ^ (j + 1 + d) = 65536 ^ j * (65536 * (m * 65536 ^ d)) := by
    rw [Nat.pow_add, Nat.pow_succ]
    simp only [Nat.mul_assoc, Nat.mul_comm, Nat.mul_left_comm]
  rw [e, Nat.add_comm n, Nat.mul_add_div (pow_pos' j), Nat.add_comm, Nat.add_mul_mod_self_left]
def XX (a b i : Nat) : Nat := a % 65536 ^ i * b
def PP (a b i k : Nat) : Nat := XX a b i + dg a i * (b % 65536 ^ k) * 65536 ^ i
def CC (a b i k : Nat) : Nat := PP a b i k / 65536 ^ (i + k) - XX a b i / 65536 ^ (i + k)
theorem PP_zero (a b i : Nat) : PP a b i 0 = XX a b i := by simp [PP, Nat.mod_one]
theorem CC_zero (a b i : Nat) : CC a b i 0 = 0 := by unfold CC; rw [PP_zero]; omega
theorem PP_succ (a b i k : Nat) : PP a b i (k + 1) = PP a b i k + dg a i * dg b k * 65536 ^ (i + k) := by
  unfold PP
  have e : b % 65536 ^ (k + 1) = b % 65536 ^ k + 65536 ^ k * dg b k := by
    unfold dg
    rw [pow_succ', Nat.mod_mul]
  rw [e, Nat.mul_add, Nat.add_mul, Nat.pow_add, ← Nat.add_assoc]
  congr 1
  simp only [Nat.mul_assoc, Nat.mul_comm, Nat.mul_left_comm]
theorem XX_succ (a b i : Nat) : XX a b (i + 1) = XX a b i + dg a i * b * 65536 ^ i := by
  unfold XX dg
  rw [pow_succ', Nat.mod_mul, Nat.add_mul]
  congr 1
  simp only [Nat.mul_comm, Nat.mul_left_comm]
theorem PP_end (a b i k : Nat) (h : i + k = 20) : ∃ m, XX a b (i + 1) = PP a b i k + m * 65536 ^ 20 := by
  refine ⟨dg a i * (b / 65536 ^ k), ?_⟩
  rw [XX_succ]
  unfold PP
  rw [← h, Nat.pow_add]
  have e := Nat.div_add_mod b (65536 ^ k)
  have e2 : dg a i * b * 65536 ^ i = dg a i * (b % 65536 ^ k) * 65536 ^ i + dg a i * (b / 65536 ^ k) * (65536 ^ i * 65536 ^ k) := by
    have e3 : dg a i * b = dg a i * (b % 65536 ^ k) + dg a i * (b / 65536 ^ k) * 65536 ^ k := by
      rw [Nat.mul_assoc, ← Nat.mul_add]
      congr 1
      rw [Nat.mul_comm (b / 65536 ^ k)]
      omega
    rw [e3, Nat.add_mul]
    congr 1
    simp only [Nat.mul_assoc, Nat.mul_comm, Nat.mul_left_comm]
  rw [e2]
  omega
theorem PP_low (a b i k j : Nat) (h : j < i + k) : dg (PP a b i (k + 1)) j = dg (PP a b i k) j := by
  rw [PP_succ]
  exact dg_add_mul _ _ _ _ h
theorem PP_step (a b i k : Nat) : (dg (XX a b i) (i + k) + dg a i * dg b k + CC a b i k) % 65536 = dg (PP a b i (k + 1)) (i + k) ∧ (dg (XX a b i) (i + k) + dg a i * dg b k + CC a b i k) / 65536 = CC a b i (k + 1) := by
  have hp := pow_pos' (i + k)
  have h1 : PP a b i (k + 1) / 65536 ^ (i + k) = PP a b i k / 65536 ^ (i + k) + dg a i * dg b k := by
    rw [PP_succ, Nat.add_mul_div_right _ _ hp]
  have hle : XX a b i / 65536 ^ (i + k) ≤ PP a b i k / 65536 ^ (i + k) := Nat.div_le_div_right (by unfold PP; omega)
  have e1 : dg (PP a b i (k + 1)) (i + k) = PP a b i (k + 1) / 65536 ^ (i + k) % 65536 := rfl
  have e2 : CC a b i (k + 1) = PP a b i (k + 1) / 65536 ^ (i + k) / 65536 - XX a b i / 65536 ^ (i + k) / 65536 := by
    unfold CC
    rw [← Nat.add_assoc, pow_succ', Nat.div_div_eq_div_mul, Nat.div_div_eq_div_mul]
  have e3 : CC a b i k = PP a b i k / 65536 ^ (i + k) - XX a b i / 65536 ^ (i + k) := rfl
  have e4 : dg (XX a b i) (i + k) = XX a b i / 65536 ^ (i + k) % 65536 := rfl
  rw [e1, e2, e3, e4, h1]
  generalize PP a b i k / 65536 ^ (i + k) = u at *
  generalize XX a b i / 65536 ^ (i + k) = v at *
  generalize dg a i * dg b k = m at *
  omega
theorem XX_zero (a b : Nat) : XX a b 0 = 0 := by simp [XX, Nat.mod_one]
theorem alloc4 (w : World) (a b c d : Obj) : ((((w.alloc a).alloc b).alloc c).alloc d).heap[w.heap.size]? = some a ∧ ((((w.alloc a).alloc b).alloc c).alloc d).heap[w.heap.size + 1]? = some b ∧ ((((w.alloc a).alloc b).alloc c).alloc d).heap[w.heap.size + 2]? = some c ∧ ((((w.alloc a).alloc b).alloc c).alloc d).heap[w.heap.size + 3]? = some d := by
  obtain ⟨h1, h2, h3⟩ := alloc3 w a b c
  have hB := (Below.refl (((w.alloc a).alloc b).alloc c).heap.size (((w.alloc a).alloc b).alloc c)).alloc (Nat.le_refl _) d
  refine ⟨(hB.block _ (by (simp) <;> omega)).trans h1, (hB.block _ (by (simp) <;> omega)).trans h2, (hB.block _ (by simp)).trans h3, ?_⟩
  have := heap_alloc_new (((w.alloc a).alloc b).alloc c) d
  simpa using this
theorem below4 (w : World) (a b c d : Obj) : Below w.heap.size w ((((w.alloc a).alloc b).alloc c).alloc d) :=
  ((((Below.refl _ _).alloc (Nat.le_refl _) _).alloc (by simp) _).alloc (by (simp) <;> omega) _).alloc (by (simp) <;> omega) _
set_option maxRecDepth 100000 in
set_option maxHeartbeats 4000000 in
theorem Times_any (a b : Nat) (w : World) (ha : a < 65536 ^ 20) :
    Calls Tryd.prog 34 #[natOf a, natOf b] w fun e w' => e = .returned (natOf (a * b)) ∧ Below w.heap.size w w' := by
  have hz := zero20
  have e1 : (row20 (dg a)).size = 20 := row20_size _
  have e2 : (row20 (dg b)).size = 20 := row20_size _
  have HAB : Hid (XX a b 20 = a * b) := Lib.hid (by unfold XX; rw [Nat.mod_eq_of_lt ha])
  clear ha
  unfold natOf
  rw [← HAB.out]
  clear HAB
  go_enter Tryd.func34, Tryd.ntmps34
  go_wp2
  go_loopw [6] (fun t wr => ∃ i : Nat, i ≤ 20 ∧ t = .int .i64 i ∧ wr.heap[w.heap.size]? = some (.cells (row20 (dg a)) 59 (0, 0)) ∧ wr.heap[w.heap.size + 1]? = some (.cells (row20 (dg b)) 59 (0, 0)) ∧ wr.heap[w.heap.size + 2]? = some (.cells z20 59 (0, 0)) ∧ wr.heap[w.heap.size + 3]? = some (.cells (row20 (dg (XX a b i))) 59 (0, 0)) ∧ Below w.heap.size w wr) (fun t _ => 20 - (intOf t).toNat)
  case atStart =>
    obtain ⟨q0, q1, q2, q3⟩ := alloc4 w (.cells (row20 (dg a)) 59) (.cells (row20 (dg b)) 59) (.cells z20 59) (.cells z20 59)
    refine ⟨0, by omega, rfl, q0, q1, q2, ?_, below4 _ _ _ _ _⟩
    rw [XX_zero, show row20 (dg 0) = z20 from row20_ext _ _ fun i _ => by simp [dg]]
    exact q3
  case round =>
    obtain ⟨i, hi, rfl, h0, h1, h2, h3, hb⟩ := hrel
    by_cases hlt : i < 20
    · have H0 := Lib.hid h0
      have H1 := Lib.hid h1
      have H2 := Lib.hid h2
      have H3 := Lib.hid h3
      clear h0 h1 h2 h3
      obtain ⟨wo, hwo⟩ : ∃ x, x = wr := ⟨_, rfl⟩
      go_wp2
      go_loopw [7, 8] (fun c t wz => ∃ k : Nat, i + k ≤ 20 ∧ c = .int .u64 (CC a b i k : Int) ∧ t = .int .i64 k ∧ CC a b i k ≤ 65535 ∧ Hid (wz.heap[w.heap.size]? = some (.cells (row20 (dg a)) 59 (0, 0))) ∧ Hid (wz.heap[w.heap.size + 1]? = some (.cells (row20 (dg b)) 59 (0, 0))) ∧ Hid (wz.heap[w.heap.size + 2]? = some (.cells z20 59 (0, 0))) ∧ Hid (wz.heap[w.heap.size + 3]? = some (.cells (row20 fun j => if j < i + k then dg (PP a b i k) j else dg (XX a b i) j) 59 (0, 0))) ∧ Below w.heap.size w wz) (fun _ t _ => 20 - (intOf t).toNat)
      case atStart =>
        refine ⟨0, by omega, by rw [CC_zero]; rfl, rfl, by rw [CC_zero]; omega, H0, H1, H2, Lib.hid ?_, hb⟩
        rw [PP_zero]
        rw [show (fun j => if j < i + 0 then dg (XX a b i) j else dg (XX a b i) j) = dg (XX a b i) from funext fun j => by split <;> rfl]
        exact H3.out
      case round =>
        clear hb H0 H1 H2 H3 hwo
        obtain ⟨k, hk, rfl, rfl, hcl, H0, H1, H2, H3, hb⟩ := hrel
        by_cases hlk : i + k < 20
        · have c0 := cells_at H0.out i hlt
          have c1 := cells_at H1.out k (by omega)
          have c3 := cells_at H3.out (i + k) hlk
          rw [if_neg (by omega)] at c3
          have f3 := frozen_of_row _ _ (i + k) _ _ H3.out
          obtain ⟨s1, s2⟩ := PP_step a b i k
          have HS : Hid ((row20 fun j => if j < i + k then dg (PP a b i k) j else dg (XX a b i) j).setIfInBounds (i + k) (.int .u64 (dg (PP a b i (k + 1)) (i + k) : Int)) = row20 fun j => if j < i + (k + 1) then dg (PP a b i (k + 1)) j else dg (XX a b i) j) := Lib.hid (by
            refine Eq.trans ?_ (row_step (dg (XX a b i)) (dg (PP a b i (k + 1))) (i + k) hlk)
            congr 1
            exact row20_ext _ _ fun j hj => by
              by_cases h : j < i + k
              · rw [if_pos h, if_pos h, PP_low a b i k j h]
              · rw [if_neg h, if_neg h])
          have hx := dg_lt (XX a b i) (i + k)
          have hy := dg_lt a i
          have hzz := dg_lt b k
          have hdl := dg_lt (PP a b i (k + 1)) (i + k)
          have hm : dg a i * dg b k ≤ 65535 * 65535 := Nat.mul_le_mul (by omega) (by omega)
          have hmm : ((dg a i : Nat) : Int) * ((dg b k : Nat) : Int) = ((dg a i * dg b k : Nat) : Int) := rfl
          generalize dg (XX a b i) (i + k) = x at *
          generalize dg a i * dg b k = m at *
          generalize dg a i = y at *
          generalize dg b k = z at *
          generalize hcn : CC a b i (k + 1) = cn at *
          generalize CC a b i k = c at *
          have HCN := Lib.hid hcn
          generalize hdn : dg (PP a b i (k + 1)) (i + k) = d at *
          clear hcn hdn
          have t1 : ((x : Int) + (m : Int) + (c : Int)) % 65536 = (d : Int) := by omega
          have t2 : ((x : Int) + (m : Int) + (c : Int)) / 65536 = (cn : Int) := by omega
          have hcnl : Hid (cn ≤ 65535) := Lib.hid (by omega)
          clear s1 s2
          go_upto_region 9 with (fail)
          go_quiet (fail)
          go_wp2
          go_roundw
          case rel =>
            refine ⟨k + 1, by omega, by (rw [HCN.out]) <;> (first | rw [t2] | rfl), by go_num, by rw [HCN.out]; exact hcnl.out, Lib.hid ?_, Lib.hid ?_, Lib.hid ?_, Lib.hid ?_, ?_⟩
            · rw [heap_setCell_other _ _ _ _ (by (simp) <;> omega)]; exact H0.out
            · rw [heap_setCell_other _ _ _ _ (by (simp) <;> omega)]; exact H1.out
            · rw [heap_setCell_other _ _ _ _ (by (simp) <;> omega)]; exact H2.out
            · rw [heap_setCell_same _ _ _ _ _ _ (by exact H3.out), HS.out]
            · exact (below_drewN hb _).setCell (by (simp) <;> omega) _
          case measure => (try simp [intOf]) <;> (try omega)
        · have hk20 : i + k = 20 := by omega
          have HE : Hid ((row20 fun j => if j < i + k then dg (PP a b i k) j else dg (XX a b i) j) = row20 (dg (XX a b (i + 1)))) := Lib.hid (row20_ext _ _ fun j hj => by
            rw [if_pos (by omega)]
            obtain ⟨m, hm⟩ := PP_end a b i k hk20
            rw [hm, dg_add_mul _ _ _ _ hj])
          rw [HE.out] at H3
          clear HE
          go_wp2
          go_roundw
          case rel => exact ⟨i + 1, by omega, by go_num, H0.out, H1.out, H2.out, H3.out, hb⟩
          case measure => (try simp [intOf]) <;> (try omega)
    · obtain rfl : i = 20 := by omega
      have H2 := Lib.hid h2
      have H3 := Lib.hid h3
      clear h0 h1 h2 h3
      go_wp2_with (first | (refine wpList_load_row rfl 59 _ rfl _ rfl _ _ _ _ H3.out Tryd.underlying59 rfl ?c1 ?_) | (refine wpList_store_row rfl _ _ _ rfl _ _ rfl rfl _ _ H2.out ?c2 ?c3 ?c4 ?_))
      case c1 => exact infoN _
      case c2 => exact infoN _
      case c3 => rw [row20_size]; rfl
      case c4 => exact row20_one _
      exact bodyPost_ret (results_cell_row (fn := Tryd.f34) rfl _ _ (w.heap.size + 2) 59 (row20 (dg (XX a b 20))) (0, 0) _ rfl (setRow_heap _ _ _ _ _ _ H2.out) Tryd.underlying59 rfl (infoN _)) rfl ⟨rfl, hb.setRow (by omega) _⟩
end Go.Proofs.YtjniclalobggpaaDoor
