/-
  Joined texts: AmK AmK2 AmK3 AmMD AmL. No statement is proved here.
-/
import Derived.Test.YtcbopgopegphlaaGreatAmA
namespace Go.Proofs.YtcbopgopegphlaaGreat
set_option linter.unusedVariables false

/-- How a guess stands: not below the quotient, and not far above it. -/
structure Guess (u v y1 y0 q r : Nat) : Prop where
  eq : q * y1 + r = u
  low : (u * 4294967296 + v) / (y1 * 4294967296 + y0) ≤ q
theorem yprod (q y1 y0 : Nat) : q * (y1 * 4294967296 + y0) = q * y1 * 4294967296 + q * y0 := by
  rw [Nat.mul_add, Nat.mul_assoc]
theorem guess_start (u v y1 y0 : Nat) (h1 : 0 < y1) (hv : v < 4294967296) : Guess u v y1 y0 (u / y1) (u % y1) := by
  refine ⟨by rw [Nat.mul_comm]; exact Nat.div_add_mod u y1, ?_⟩
  apply Nat.le_of_lt_succ
  rw [Nat.div_lt_iff_lt_mul (by omega), yprod]
  have h2 : u < (u / y1).succ * y1 := by
    have := Nat.lt_div_mul_add (a := u) h1
    rw [Nat.succ_mul]
    omega
  omega
theorem guess_top (u y1 y0 : Nat) (h1 : 2147483648 ≤ y1) (h0 : y0 < 4294967296) (hu : u < y1 * 4294967296 + y0) : u / y1 ≤ 4294967297 := by
  apply Nat.le_of_lt_succ
  rw [Nat.div_lt_iff_lt_mul (by omega)]
  have : Nat.succ 4294967297 * y1 = y1 * 4294967298 := by rw [Nat.mul_comm]
  omega
theorem less_lin (a b r v : Nat) (h : r * 4294967296 + v < b) : (a + r) * 4294967296 + v < a * 4294967296 + b := by
  rw [Nat.add_mul, Nat.add_assoc]
  exact Nat.add_lt_add_left h _
theorem guess_less {u v y1 y0 q r : Nat} (g : Guess u v y1 y0 q r) (h1 : 0 < y1) (hv : v < 4294967296) (hu : u < y1 * 4294967296 + y0) (ht : 4294967296 ≤ q ∨ r * 4294967296 + v < q * y0) : 1 ≤ q ∧ Guess u v y1 y0 (q - 1) (r + y1) := by
  have hq : (u * 4294967296 + v) / (y1 * 4294967296 + y0) < q := by
    rw [Nat.div_lt_iff_lt_mul (by omega)]
    rcases ht with h | h
    · have h3 : 4294967296 * (y1 * 4294967296 + y0) ≤ q * (y1 * 4294967296 + y0) := Nat.mul_le_mul_right _ h
      exact Nat.lt_of_lt_of_le (by omega) h3
    · rw [yprod]
      have h5 := g.eq
      obtain ⟨a, ha⟩ : ∃ a, a = q * y1 := ⟨_, rfl⟩
      obtain ⟨b, hb⟩ : ∃ b, b = q * y0 := ⟨_, rfl⟩
      rw [← ha] at h5 ⊢
      rw [← hb] at h ⊢
      subst h5
      exact less_lin a b r v h
  have h1q : 1 ≤ q := Nat.lt_of_le_of_lt (Nat.zero_le _) hq
  have hlow : (u * 4294967296 + v) / (y1 * 4294967296 + y0) ≤ q - 1 := Nat.le_sub_one_of_lt hq
  refine ⟨h1q, ?_, hlow⟩
  clear hq hlow ht
  obtain ⟨k, rfl⟩ : ∃ k, q = k + 1 := ⟨q - 1, by omega⟩
  have := g.eq
  rw [Nat.add_mul, Nat.one_mul] at this
  rw [Nat.add_sub_cancel]
  omega
theorem guess_done {u v y1 y0 q r : Nat} (g : Guess u v y1 y0 q r) (h1 : 0 < y1) (h0 : y0 < 4294967296) (hq : q ≤ 4294967296) (ht : q * y0 ≤ r * 4294967296 + v ∨ 4294967296 ≤ r) : q = (u * 4294967296 + v) / (y1 * 4294967296 + y0) := by
  apply Nat.le_antisymm _ g.low
  rw [Nat.le_div_iff_mul_le (by omega), yprod]
  have h2 : q * y0 ≤ r * 4294967296 + v := by
    rcases ht with h | h
    · exact h
    · have h3 : q * y0 ≤ 4294967296 * 4294967295 := Nat.mul_le_mul hq (by omega)
      omega
  have := g.eq
  omega
/-- A quotient of the kind is below a word. -/
theorem quot_lt (u v y : Nat) (hy : 0 < y) (hu : u < y) (hv : v < 4294967296) : (u * 4294967296 + v) / y < 4294967296 := by
  rw [Nat.div_lt_iff_lt_mul hy]
  have : 4294967296 * (u + 1) ≤ 4294967296 * y := Nat.mul_le_mul_left _ hu
  omega
/-- Two digits of the quotient, behind a shift. -/
theorem two_digits (n y Y s u1 u0 un : Nat) (hy : 0 < y) (hY : Y = y * 2 ^ s) (hn : n * 2 ^ s = (un * 4294967296 + u1) * 4294967296 + u0) (h0 : u0 < 4294967296) :
    n / y = (un * 4294967296 + u1) / Y * 4294967296 + ((un * 4294967296 + u1) % Y * 4294967296 + u0) / Y ∧
    n % y = ((un * 4294967296 + u1) % Y * 4294967296 + u0) % Y / 2 ^ s := by
  have hp : 0 < 2 ^ s := Nat.two_pow_pos s
  have hYp : 0 < Y := by rw [hY]; exact Nat.mul_pos hy hp
  have e1 : n / y = n * 2 ^ s / Y := by rw [hY, Nat.mul_div_mul_right _ _ hp]
  have e2 : n * 2 ^ s % Y = n % y * 2 ^ s := by rw [hY, Nat.mul_mod_mul_right]
  have e3 : n % y = n * 2 ^ s % Y / 2 ^ s := by rw [e2, Nat.mul_div_cancel _ hp]
  rw [e1, e3, hn]
  have hd := Nat.div_add_mod (un * 4294967296 + u1) Y
  obtain ⟨a, ha⟩ : ∃ a, a = un * 4294967296 + u1 := ⟨_, rfl⟩
  rw [← ha] at hd ⊢
  have e4 : a * 4294967296 + u0 = Y * (a / Y * 4294967296) + (a % Y * 4294967296 + u0) := by
    have h5 : Y * (a / Y * 4294967296) = Y * (a / Y) * 4294967296 := (Nat.mul_assoc _ _ _).symm
    rw [h5]
    omega
  refine ⟨?_, ?_⟩
  · rw [e4, Nat.mul_add_div hYp]
  · rw [e4, Nat.mul_add_mod]
end Go.Proofs.YtcbopgopegphlaaGreat

namespace Go.Proofs.YtcbopgopegphlaaGreat
open Go.RowKit
set_option linter.unusedVariables false

theorem bitLenAux_law (f x : Nat) (h0 : 0 < x) (h : x < 2 ^ f) : x < 2 ^ Lib.bitLenAux f x ∧ 2 ^ (Lib.bitLenAux f x - 1) ≤ x ∧ 1 ≤ Lib.bitLenAux f x ∧ Lib.bitLenAux f x ≤ f := by
  induction f generalizing x with
  | zero => simp at h; omega
  | succ f ih =>
    rw [Lib.bitLenAux, if_neg (by omega)]
    rcases Nat.eq_zero_or_pos (x / 2) with hz | hp
    · have : x = 1 := by omega
      subst this
      have e : Lib.bitLenAux f 0 = 0 := by cases f <;> simp [Lib.bitLenAux]
      rw [show (1 : Nat) / 2 = 0 from rfl, e]
      simp
    · obtain ⟨h1, h2, h3, h4⟩ := ih (x / 2) hp (by rw [Nat.pow_succ] at h; omega)
      generalize Lib.bitLenAux f (x / 2) = k at *
      obtain ⟨m, rfl⟩ : ∃ m, k = m + 1 := ⟨k - 1, by omega⟩
      rw [show 1 + (m + 1) = (m + 1) + 1 by omega]
      simp only [Nat.add_sub_cancel] at h2 ⊢
      rw [Nat.pow_succ] at h1
      refine ⟨?_, ?_, by omega, by omega⟩
      · rw [Nat.pow_succ, Nat.pow_succ]; omega
      · rw [Nat.pow_succ]; omega
/-- What is left of the words behind the shift. -/
structure Words (hi lo y s Y un u10 : Nat) : Prop where
  s63 : s ≤ 63
  Yeq : Y = y * 2 ^ s
  Ylo : 9223372036854775808 ≤ Y
  Yhi : Y < 18446744073709551616
  unY : un < Y
  ulo : u10 < 18446744073709551616
  eq : (hi * 18446744073709551616 + lo) * 2 ^ s = un * 18446744073709551616 + u10
  wy : IntKind.u64.wrap ((y : Int) * 2 ^ s) = (Y : Int)
  wu : bits .or .u64 (IntKind.u64.wrap ((hi : Int) * 2 ^ s)) ((lo : Int) / 2 ^ (64 - s)) = (un : Int)
  wl : IntKind.u64.wrap ((lo : Int) * 2 ^ s) = (u10 : Int)
theorem wrapU' (n : Int) : IntKind.u64.wrap n = n % 18446744073709551616 := IntKind.wrap_u64 n
theorem words_any (hi lo y : Nat) (h0 : hi < y) (h1 : lo < 18446744073709551616) (h2 : y < 18446744073709551616) : ∃ (s Y un u10 : Nat), 64 - (Lib.bitLen y : Int) = (s : Int) ∧ Words hi lo y s Y un u10 := by
  obtain ⟨b1, b2, b3, b4⟩ := bitLenAux_law 64 y (by omega) (by omega)
  have e : Lib.bitLen y = Lib.bitLenAux 64 y := rfl
  rw [e]
  generalize Lib.bitLenAux 64 y = k at *
  obtain ⟨s, hk, hs⟩ : ∃ s, k = 64 - s ∧ s ≤ 63 := ⟨64 - k, by omega, by omega⟩
  subst hk
  have hT : 0 < 2 ^ s := Nat.two_pow_pos s
  have hD : 0 < 2 ^ (64 - s) := Nat.two_pow_pos _
  have hDT : 2 ^ (64 - s) * 2 ^ s = 18446744073709551616 := by rw [← Nat.pow_add, show 64 - s + s = 64 by omega]
  have hT63 : 2 ^ (64 - s - 1) * 2 ^ s = 9223372036854775808 := by rw [← Nat.pow_add, show 64 - s - 1 + s = 63 by omega]
  have hYhi : y * 2 ^ s < 18446744073709551616 := by rw [← hDT]; exact (Nat.mul_lt_mul_right hT).2 b1
  have hYlo : 9223372036854775808 ≤ y * 2 ^ s := by rw [← hT63]; exact Nat.mul_le_mul_right _ b2
  have hlo : lo / 2 ^ (64 - s) < 2 ^ s := by rw [Nat.div_lt_iff_lt_mul hD, Nat.mul_comm, hDT]; exact h1
  have hhi : hi * 2 ^ s + 2 ^ s ≤ y * 2 ^ s := by rw [← Nat.succ_mul]; exact Nat.mul_le_mul_right _ h0
  have hdiv : lo * 2 ^ s / 18446744073709551616 = lo / 2 ^ (64 - s) := by rw [← hDT, Nat.mul_div_mul_right _ _ hT]
  have cy : (y : Int) * 2 ^ s = ((y * 2 ^ s : Nat) : Int) := by simp
  have ch : (hi : Int) * 2 ^ s = ((hi * 2 ^ s : Nat) : Int) := by simp
  have cl : (lo : Int) * 2 ^ s = ((lo * 2 ^ s : Nat) : Int) := by simp
  have cd : (lo : Int) / 2 ^ (64 - s) = ((lo / 2 ^ (64 - s) : Nat) : Int) := by simp
  have hor := u64_or_nat (hi * 2 ^ s) (lo / 2 ^ (64 - s)) (by omega) (by omega)
  rw [← Nat.shiftLeft_eq, ← Nat.shiftLeft_add_eq_or_of_lt hlo, Nat.shiftLeft_eq] at hor
  refine ⟨s, y * 2 ^ s, hi * 2 ^ s + lo / 2 ^ (64 - s), lo * 2 ^ s % 18446744073709551616, by omega, hs, rfl, hYlo, hYhi, by omega, Nat.mod_lt _ (by omega), ?_, ?_, ?_, ?_⟩
  · have e1 : (hi * 18446744073709551616 + lo) * 2 ^ s = hi * 2 ^ s * 18446744073709551616 + lo * 2 ^ s := by rw [Nat.add_mul, Nat.mul_right_comm]
    rw [e1]
    generalize hi * 2 ^ s = a at *
    generalize lo * 2 ^ s = b at *
    omega
  · rw [cy, wrapU']
    omega
  · rw [ch, cd, show IntKind.u64.wrap ((hi * 2 ^ s : Nat) : Int) = ((hi * 2 ^ s : Nat) : Int) by rw [wrapU']; omega]
    exact hor
  · rw [cl, wrapU']
    omega
end Go.Proofs.YtcbopgopegphlaaGreat

namespace Go.Proofs.YtcbopgopegphlaaGreat
open Go.RowKit
set_option linter.unusedVariables false
theorem words_eq (a b c : Nat) : a * 18446744073709551616 + (b * 4294967296 + c) = (a * 4294967296 + b) * 4294967296 + c := by
  have e : (4294967296 * 4294967296 : Nat) = 18446744073709551616 := rfl
  rw [Nat.add_mul, Nat.mul_assoc, e, Nat.add_assoc]
theorem wrapDiv (u v q Y : Nat) (hq : q = (u * 4294967296 + v) / Y) (hY : 0 < Y) (hY2 : Y < 18446744073709551616) :
    IntKind.u64.wrap (IntKind.u64.wrap (IntKind.u64.wrap ((u : Int) * 4294967296) + (v : Int)) - IntKind.u64.wrap ((q : Int) * (Y : Int))) = (((u * 4294967296 + v) % Y : Nat) : Int) := by
  have h1 := Nat.div_add_mod (u * 4294967296 + v) Y
  have h2 : (u * 4294967296 + v) % Y < Y := Nat.mod_lt _ hY
  rw [← hq, Nat.mul_comm] at h1
  have h3 : (q : Int) * (Y : Int) = ((q * Y : Nat) : Int) := rfl
  rw [h3, wrapU', wrapU', wrapU', wrapU']
  obtain ⟨p, hp⟩ : ∃ p, p = q * Y := ⟨_, rfl⟩
  obtain ⟨r, hr⟩ : ∃ r, r = (u * 4294967296 + v) % Y := ⟨_, rfl⟩
  rw [← hp, ← hr] at h1
  rw [← hr] at h2
  rw [← hp, ← hr]
  clear hp hr h3 hq
  omega
set_option maxRecDepth 100000 in
set_option maxHeartbeats 8000000 in
theorem Div64_big (hi lo y : Nat) (h0 : hi < y) (h1 : lo < 18446744073709551616) (h2 : y < 18446744073709551616) (hh : 0 < hi) : DivAt hi lo y := by
  intro w
  obtain ⟨s, Y, un, u10, hs, W⟩ := words_any hi lo y h0 h1 h2
  have LZ := Lib.hid (fun w => bits_LeadingZeros64 (y : Int) w (by omega) (by omega))
  rw [Int.toNat_natCast, hs] at LZ
  have hs63 := W.s63
  have E1 := Lib.hid W.wy
  have E3 := Lib.hid W.wu
  have E4 := Lib.hid W.wl
  have hYlo := W.Ylo
  have hYhi := W.Yhi
  have hunY := W.unY
  have hulo := W.ulo
  obtain ⟨y1, hy1⟩ : ∃ x, x = Y / 4294967296 := ⟨_, rfl⟩
  obtain ⟨y0, hy0⟩ : ∃ x, x = Y % 4294967296 := ⟨_, rfl⟩
  obtain ⟨u1, hu1⟩ : ∃ x, x = u10 / 4294967296 := ⟨_, rfl⟩
  obtain ⟨u0, hu0⟩ : ∃ x, x = u10 % 4294967296 := ⟨_, rfl⟩
  have A1 : Hid ((Y : Int) / 4294967296 = (y1 : Int)) := Lib.hid (by omega)
  have A2 : Hid (bits .and .u64 (Y : Int) 4294967295 = (y0 : Int)) := Lib.hid (by rw [and32 Y hYhi, hy0])
  have A3 : Hid ((u10 : Int) / 4294967296 = (u1 : Int)) := Lib.hid (by omega)
  have A4 : Hid (bits .and .u64 (u10 : Int) 4294967295 = (u0 : Int)) := Lib.hid (by rw [and32 u10 hulo, hu0])
  have hYs : Y = y1 * 4294967296 + y0 := by omega
  have hy1l : 2147483648 ≤ y1 := by omega
  have hy1h : y1 < 4294967296 := by omega
  have hy0h : y0 < 4294967296 := by omega
  have hu1h : u1 < 4294967296 := by omega
  have hu0h : u0 < 4294967296 := by omega
  have HW := Lib.hid W
  have hs' : Hid (u10 = u1 * 4294967296 + u0) := Lib.hid (by omega)
  clear hs W hy1 hy0 hu1 hu0 hulo
  go_enter Tryz.func115, Tryz.ntmps115
  go_wp2_with fail
  refine (LZ.out _).mono ?_
  rintro e w' ⟨rfl, rfl⟩
  go_upto_region 15 with (fail)
  rw [E1.out, E3.out, E4.out, A1.out, A2.out, A3.out, A4.out]
  have G0 := guess_start un u1 y1 y0 (by omega) hu1h
  have hqt := guess_top un y1 y0 hy1l hy0h (by omega)
  have D1 : (un : Int) / (y1 : Int) = ((un / y1 : Nat) : Int) := rfl
  have D2 : (un : Int).tdiv (y1 : Int) = ((un / y1 : Nat) : Int) := rfl
  have hrl : un % y1 < y1 := Nat.mod_lt _ (by omega)
  generalize un / y1 = q at *
  generalize un % y1 = r at *
  have D3 : (q : Int) * (y1 : Int) = ((q * y1 : Nat) : Int) := rfl
  have hqy : q * y1 + r = un := G0.eq
  obtain ⟨p, hp⟩ : ∃ p, p = q * y1 := ⟨_, rfl⟩
  rw [← hp] at D3 hqy
  have D4 : (un : Int) - (p : Int) = (r : Int) := by omega
  have G0' := Lib.hid G0
  clear hp G0
  go_upto_region 17 with (fail)
  clear D1 D2 D3 D4 hqy
  have HYs := Lib.hid hYs
  clear hYs
  go_loopw [15, 16] (fun a b wr => ∃ q r : Nat, a = .int .u64 q ∧ b = .int .u64 r ∧ Hid (Guess un u1 y1 y0 q r) ∧ q ≤ 4294967297 ∧ r < 4294967296 ∧ wr = w') (fun a _ _ => (intOf a).toNat)
  case atStart => exact ⟨q, r, rfl, rfl, G0', hqt, by omega, by simp⟩
  case round =>
    clear hqt hrl G0'
    obtain ⟨qa, ra, rfl, rfl, Ga, hqta, hrla, rfl⟩ := hrel
    by_cases hbiga : 4294967296 ≤ qa
    · have hn : ¬ ((qa : Int) < 4294967296) := by omega
      obtain ⟨hq1a, G2a⟩ := guess_less Ga.out (by omega) hu1h (by have := HYs.out; omega) (.inl hbiga)
      obtain ⟨ka, hka⟩ : ∃ k, k = qa - 1 := ⟨_, rfl⟩
      obtain ⟨sa, hra⟩ : ∃ r', r' = ra + y1 := ⟨_, rfl⟩
      rw [← hka, ← hra] at G2a
      have hqka : (qa : Int) - 1 = (ka : Int) := by omega
      have hrka : (ra : Int) + (y1 : Int) = (sa : Int) := by omega
      have hkla : Hid (ka + 1 = qa) := Lib.hid (by omega)
      have hkta : ka ≤ 4294967296 := by omega
      have HG2a := Lib.hid G2a
      clear hka hra G2a
      by_cases hbra : 4294967296 ≤ sa
      · have hb' : (4294967296 : Int) ≤ (sa : Int) := by omega
        repeat (go_not_at_region 21; first | rw [if_neg hn] | rw [if_pos hb'] | go_values | go_skip | go_guarded | go_step | go_upon | go_back)
        clear hb'
        have hq1 := guess_done HG2a.out (by omega) hy0h hkta (.inr hbra)
        rw [← HYs.out] at hq1
        have E21 := Lib.hid (wrapDiv un u1 ka Y hq1 (by omega) hYhi)
        obtain ⟨R1, hR1e⟩ : ∃ R, R = (un * 4294967296 + u1) % Y := ⟨_, rfl⟩
        have hR1l : R1 < Y := by rw [hR1e]; exact Nat.mod_lt _ (by omega)
        rw [← hR1e] at E21
        have HR1 := Lib.hid hR1e
        have HQ1 := Lib.hid hq1
        have hQ1l : ka < 4294967296 := by rw [hq1]; exact quot_lt un u1 Y (by omega) hunY hu1h
        clear hq1 hR1e
        repeat (go_not_at_region 22; first | go_values | go_skip | go_guarded | go_step | go_upon | go_back)
        rw [E21.out]
        have G0 := guess_start R1 u0 y1 y0 (by omega) hu0h
        have hqt := guess_top R1 y1 y0 hy1l hy0h (by have := HYs.out; omega)
        have D1 : (R1 : Int) / (y1 : Int) = ((R1 / y1 : Nat) : Int) := rfl
        have D2 : (R1 : Int).tdiv (y1 : Int) = ((R1 / y1 : Nat) : Int) := rfl
        have hrl : R1 % y1 < y1 := Nat.mod_lt _ (by omega)
        generalize R1 / y1 = qs at *
        generalize R1 % y1 = rs at *
        have D3 : (qs : Int) * (y1 : Int) = ((qs * y1 : Nat) : Int) := rfl
        have hqy : qs * y1 + rs = R1 := G0.eq
        obtain ⟨p, hp⟩ : ∃ p, p = qs * y1 := ⟨_, rfl⟩
        rw [← hp] at D3 hqy
        have D4 : (R1 : Int) - (p : Int) = (rs : Int) := by omega
        have G0' := Lib.hid G0
        clear hp G0
        go_upto_region 24 with (fail)
        clear D1 D2 D3 D4 hqy
        obtain ⟨wc, hwc⟩ : ∃ x, x = wr := ⟨_, rfl⟩
        go_loopw [18, 16] (fun a b wr => ∃ q r : Nat, a = .int .u64 q ∧ b = .int .u64 r ∧ Hid (Guess R1 u0 y1 y0 q r) ∧ q ≤ 4294967297 ∧ r < 4294967296 ∧ wr = wc) (fun a _ _ => (intOf a).toNat)
        case atStart => exact ⟨qs, rs, rfl, rfl, G0', hqt, by omega, hwc.symm⟩
        case round =>
          clear hqt hrl G0'
          obtain ⟨qb, rb, rfl, rfl, Gb, hqtb, hrlb, rfl⟩ := hrel
          subst hwc
          by_cases hbigb : 4294967296 ≤ qb
          · have hn : ¬ ((qb : Int) < 4294967296) := by omega
            obtain ⟨hq1b, G2b⟩ := guess_less Gb.out (by omega) hu0h (by have := HYs.out; omega) (.inl hbigb)
            obtain ⟨kb, hkb⟩ : ∃ k, k = qb - 1 := ⟨_, rfl⟩
            obtain ⟨sb, hrb⟩ : ∃ r', r' = rb + y1 := ⟨_, rfl⟩
            rw [← hkb, ← hrb] at G2b
            have hqkb : (qb : Int) - 1 = (kb : Int) := by omega
            have hrkb : (rb : Int) + (y1 : Int) = (sb : Int) := by omega
            have hklb : Hid (kb + 1 = qb) := Lib.hid (by omega)
            have hktb : kb ≤ 4294967296 := by omega
            have HG2b := Lib.hid G2b
            clear hkb hrb G2b
            by_cases hbrb : 4294967296 ≤ sb
            · have hb' : (4294967296 : Int) ≤ (sb : Int) := by omega
              repeat (go_not_at_region 28; first | rw [if_neg hn] | rw [if_pos hb'] | go_values | go_skip | go_guarded | go_step | go_upon | go_back)
              clear hb'
              have hq2 := guess_done HG2b.out (by omega) hy0h hktb (.inr hbrb)
              rw [← HYs.out] at hq2
              have E28 := Lib.hid (wrapDiv R1 u0 kb Y hq2 (by omega) hYhi)
              have TD := two_digits (wd hi lo) y Y s u1 u0 un (by omega) HW.out.Yeq (by have e1 := HW.out.eq; have e2 := hs'.out; unfold wd; rw [e1, e2]; exact words_eq un u1 u0) hu0h
              rw [← HQ1.out, ← HR1.out, ← hq2] at TD
              have hQ2l : kb < 4294967296 := by rw [hq2]; exact quot_lt R1 u0 Y (by omega) hR1l hu0h
              clear hq2
              have E29 : Hid ((ka : Int) * 4294967296 + (kb : Int) = ((wd hi lo / y : Nat) : Int)) := Lib.hid (by rw [TD.1]; omega)
              have E30 : Hid (IntKind.u64.wrap (IntKind.u64.wrap (IntKind.u64.wrap ((R1 : Int) * 4294967296) + (u0 : Int)) - IntKind.u64.wrap ((kb : Int) * (Y : Int))) / 2 ^ s = ((wd hi lo % y : Nat) : Int)) := Lib.hid (by rw [E28.out, TD.2]; simp)
              clear TD E28
              repeat (first | go_values | go_skip | go_guarded | go_step | go_upon | go_back)
              rw [E29.out, E30.out]
              go_ret2
              exact ⟨rfl, Below.refl _ _⟩
            · have hb' : ¬ (4294967296 : Int) ≤ (sb : Int) := by omega
              repeat (first | rw [if_neg hn] | rw [if_neg hb'] | go_values | go_skip | go_guarded | go_step | go_upon | go_back)
              go_roundw
              case rel => exact ⟨kb, sb, rfl, rfl, HG2b, by omega, by omega, by first | rfl | simp⟩
              case measure => have := hklb.out; simp [intOf]; omega
          · have hn : (qb : Int) < 4294967296 := by omega
            obtain ⟨mb, hmb, hmlb⟩ : ∃ m : Nat, (4294967296 : Int) * (rb : Int) = (m : Int) ∧ m = rb * 4294967296 := ⟨rb * 4294967296, by omega, rfl⟩
            obtain ⟨nb, hm2b, hml2b⟩ : ∃ m2 : Nat, (mb : Int) + (u0 : Int) = (m2 : Int) ∧ m2 = rb * 4294967296 + u0 := ⟨mb + u0, by omega, by omega⟩
            obtain ⟨pb, hpb, hplb⟩ : ∃ p0 : Nat, (qb : Int) * (y0 : Int) = (p0 : Int) ∧ p0 = qb * y0 := ⟨qb * y0, rfl, rfl⟩
            have hpbb : pb < 18446744073709551616 := by
              have h5 : qb * y0 ≤ 4294967295 * 4294967295 := Nat.mul_le_mul (by omega) (by omega)
              rw [hplb]
              exact Nat.lt_of_le_of_lt h5 (by omega)
            have hmbb : mb < 18446744073709551616 := by omega
            have hm2bb : nb < 18446744073709551616 := by omega
            have HL2b := Lib.hid hml2b
            have HPLb := Lib.hid hplb
            clear hmlb hml2b hplb
            by_cases hcmpb : nb < pb
            · have hc : (nb : Int) < (pb : Int) := by omega
              obtain ⟨hq1b, G2b⟩ := guess_less Gb.out (by omega) hu0h (by have := HYs.out; omega) (.inr (by rw [← HL2b.out, ← HPLb.out]; exact hcmpb))
              obtain ⟨kb, hkb⟩ : ∃ k, k = qb - 1 := ⟨_, rfl⟩
              obtain ⟨sb, hrb⟩ : ∃ r', r' = rb + y1 := ⟨_, rfl⟩
              rw [← hkb, ← hrb] at G2b
              have hqkb : (qb : Int) - 1 = (kb : Int) := by omega
              have hrkb : (rb : Int) + (y1 : Int) = (sb : Int) := by omega
              have hklb : Hid (kb + 1 = qb) := Lib.hid (by omega)
              have hktb : kb ≤ 4294967296 := by omega
              have HG2b := Lib.hid G2b
              clear hkb hrb G2b
              by_cases hbrb : 4294967296 ≤ sb
              · have hb' : (4294967296 : Int) ≤ (sb : Int) := by omega
                repeat (go_not_at_region 28; first | rw [if_pos hn] | rw [if_pos hc] | rw [if_pos hb'] | go_values | go_skip | go_guarded | go_step | go_upon | go_back)
                clear hb'
                have hq2 := guess_done HG2b.out (by omega) hy0h hktb (.inr hbrb)
                rw [← HYs.out] at hq2
                have E28 := Lib.hid (wrapDiv R1 u0 kb Y hq2 (by omega) hYhi)
                have TD := two_digits (wd hi lo) y Y s u1 u0 un (by omega) HW.out.Yeq (by have e1 := HW.out.eq; have e2 := hs'.out; unfold wd; rw [e1, e2]; exact words_eq un u1 u0) hu0h
                rw [← HQ1.out, ← HR1.out, ← hq2] at TD
                have hQ2l : kb < 4294967296 := by rw [hq2]; exact quot_lt R1 u0 Y (by omega) hR1l hu0h
                clear hq2
                have E29 : Hid ((ka : Int) * 4294967296 + (kb : Int) = ((wd hi lo / y : Nat) : Int)) := Lib.hid (by rw [TD.1]; omega)
                have E30 : Hid (IntKind.u64.wrap (IntKind.u64.wrap (IntKind.u64.wrap ((R1 : Int) * 4294967296) + (u0 : Int)) - IntKind.u64.wrap ((kb : Int) * (Y : Int))) / 2 ^ s = ((wd hi lo % y : Nat) : Int)) := Lib.hid (by rw [E28.out, TD.2]; simp)
                clear TD E28
                repeat (first | go_values | go_skip | go_guarded | go_step | go_upon | go_back)
                rw [E29.out, E30.out]
                go_ret2
                exact ⟨rfl, Below.refl _ _⟩
              · have hb' : ¬ (4294967296 : Int) ≤ (sb : Int) := by omega
                repeat (first | rw [if_pos hn] | rw [if_pos hc] | rw [if_neg hb'] | go_values | go_skip | go_guarded | go_step | go_upon | go_back)
                go_roundw
                case rel => exact ⟨kb, sb, rfl, rfl, HG2b, by omega, by omega, by first | rfl | simp⟩
                case measure => have := hklb.out; simp [intOf]; omega
            · have hc : ¬ (nb : Int) < (pb : Int) := by omega
              have hc2 : (pb : Int) ≤ (nb : Int) := by omega
              have hcb : decide ((nb : Int) < (pb : Int)) = false := decide_eq_false hc
              have hnq : ¬ (4294967296 : Int) ≤ (qb : Int) := by omega
              repeat (go_not_at_region 28; first | rw [if_pos hn] | rw [if_neg hnq] | rw [if_neg hc] | rw [if_pos hc2] | rw [hcb] | go_values | go_skip | go_guarded | go_step | go_upon | go_back)
              clear hc hn hc2 hcb hnq
              have hq2 := guess_done Gb.out (by omega) hy0h (by omega) (.inl (by rw [← HL2b.out, ← HPLb.out]; omega))
              rw [← HYs.out] at hq2
              have E28 := Lib.hid (wrapDiv R1 u0 qb Y hq2 (by omega) hYhi)
              have TD := two_digits (wd hi lo) y Y s u1 u0 un (by omega) HW.out.Yeq (by have e1 := HW.out.eq; have e2 := hs'.out; unfold wd; rw [e1, e2]; exact words_eq un u1 u0) hu0h
              rw [← HQ1.out, ← HR1.out, ← hq2] at TD
              have hQ2l : qb < 4294967296 := by rw [hq2]; exact quot_lt R1 u0 Y (by omega) hR1l hu0h
              clear hq2
              have E29 : Hid ((ka : Int) * 4294967296 + (qb : Int) = ((wd hi lo / y : Nat) : Int)) := Lib.hid (by rw [TD.1]; omega)
              have E30 : Hid (IntKind.u64.wrap (IntKind.u64.wrap (IntKind.u64.wrap ((R1 : Int) * 4294967296) + (u0 : Int)) - IntKind.u64.wrap ((qb : Int) * (Y : Int))) / 2 ^ s = ((wd hi lo % y : Nat) : Int)) := Lib.hid (by rw [E28.out, TD.2]; simp)
              clear TD E28
              repeat (first | go_values | go_skip | go_guarded | go_step | go_upon | go_back)
              rw [E29.out, E30.out]
              go_ret2
              exact ⟨rfl, Below.refl _ _⟩
      · have hb' : ¬ (4294967296 : Int) ≤ (sa : Int) := by omega
        repeat (first | rw [if_neg hn] | rw [if_neg hb'] | go_values | go_skip | go_guarded | go_step | go_upon | go_back)
        go_roundw
        case rel => exact ⟨ka, sa, rfl, rfl, HG2a, by omega, by omega, by first | rfl | simp⟩
        case measure => have := hkla.out; simp [intOf]; omega
    · have hn : (qa : Int) < 4294967296 := by omega
      obtain ⟨ma, hma, hmla⟩ : ∃ m : Nat, (4294967296 : Int) * (ra : Int) = (m : Int) ∧ m = ra * 4294967296 := ⟨ra * 4294967296, by omega, rfl⟩
      obtain ⟨na, hm2a, hml2a⟩ : ∃ m2 : Nat, (ma : Int) + (u1 : Int) = (m2 : Int) ∧ m2 = ra * 4294967296 + u1 := ⟨ma + u1, by omega, by omega⟩
      obtain ⟨pa, hpa, hpla⟩ : ∃ p0 : Nat, (qa : Int) * (y0 : Int) = (p0 : Int) ∧ p0 = qa * y0 := ⟨qa * y0, rfl, rfl⟩
      have hpba : pa < 18446744073709551616 := by
        have h5 : qa * y0 ≤ 4294967295 * 4294967295 := Nat.mul_le_mul (by omega) (by omega)
        rw [hpla]
        exact Nat.lt_of_le_of_lt h5 (by omega)
      have hmba : ma < 18446744073709551616 := by omega
      have hm2ba : na < 18446744073709551616 := by omega
      have HL2a := Lib.hid hml2a
      have HPLa := Lib.hid hpla
      clear hmla hml2a hpla
      by_cases hcmpa : na < pa
      · have hc : (na : Int) < (pa : Int) := by omega
        obtain ⟨hq1a, G2a⟩ := guess_less Ga.out (by omega) hu1h (by have := HYs.out; omega) (.inr (by rw [← HL2a.out, ← HPLa.out]; exact hcmpa))
        obtain ⟨ka, hka⟩ : ∃ k, k = qa - 1 := ⟨_, rfl⟩
        obtain ⟨sa, hra⟩ : ∃ r', r' = ra + y1 := ⟨_, rfl⟩
        rw [← hka, ← hra] at G2a
        have hqka : (qa : Int) - 1 = (ka : Int) := by omega
        have hrka : (ra : Int) + (y1 : Int) = (sa : Int) := by omega
        have hkla : Hid (ka + 1 = qa) := Lib.hid (by omega)
        have hkta : ka ≤ 4294967296 := by omega
        have HG2a := Lib.hid G2a
        clear hka hra G2a
        by_cases hbra : 4294967296 ≤ sa
        · have hb' : (4294967296 : Int) ≤ (sa : Int) := by omega
          repeat (go_not_at_region 21; first | rw [if_pos hn] | rw [if_pos hc] | rw [if_pos hb'] | go_values | go_skip | go_guarded | go_step | go_upon | go_back)
          clear hb'
          have hq1 := guess_done HG2a.out (by omega) hy0h hkta (.inr hbra)
          rw [← HYs.out] at hq1
          have E21 := Lib.hid (wrapDiv un u1 ka Y hq1 (by omega) hYhi)
          obtain ⟨R1, hR1e⟩ : ∃ R, R = (un * 4294967296 + u1) % Y := ⟨_, rfl⟩
          have hR1l : R1 < Y := by rw [hR1e]; exact Nat.mod_lt _ (by omega)
          rw [← hR1e] at E21
          have HR1 := Lib.hid hR1e
          have HQ1 := Lib.hid hq1
          have hQ1l : ka < 4294967296 := by rw [hq1]; exact quot_lt un u1 Y (by omega) hunY hu1h
          clear hq1 hR1e
          repeat (go_not_at_region 22; first | go_values | go_skip | go_guarded | go_step | go_upon | go_back)
          rw [E21.out]
          have G0 := guess_start R1 u0 y1 y0 (by omega) hu0h
          have hqt := guess_top R1 y1 y0 hy1l hy0h (by have := HYs.out; omega)
          have D1 : (R1 : Int) / (y1 : Int) = ((R1 / y1 : Nat) : Int) := rfl
          have D2 : (R1 : Int).tdiv (y1 : Int) = ((R1 / y1 : Nat) : Int) := rfl
          have hrl : R1 % y1 < y1 := Nat.mod_lt _ (by omega)
          generalize R1 / y1 = qs at *
          generalize R1 % y1 = rs at *
          have D3 : (qs : Int) * (y1 : Int) = ((qs * y1 : Nat) : Int) := rfl
          have hqy : qs * y1 + rs = R1 := G0.eq
          obtain ⟨p, hp⟩ : ∃ p, p = qs * y1 := ⟨_, rfl⟩
          rw [← hp] at D3 hqy
          have D4 : (R1 : Int) - (p : Int) = (rs : Int) := by omega
          have G0' := Lib.hid G0
          clear hp G0
          go_upto_region 24 with (fail)
          clear D1 D2 D3 D4 hqy
          obtain ⟨wc, hwc⟩ : ∃ x, x = wr := ⟨_, rfl⟩
          go_loopw [18, 16] (fun a b wr => ∃ q r : Nat, a = .int .u64 q ∧ b = .int .u64 r ∧ Hid (Guess R1 u0 y1 y0 q r) ∧ q ≤ 4294967297 ∧ r < 4294967296 ∧ wr = wc) (fun a _ _ => (intOf a).toNat)
          case atStart => exact ⟨qs, rs, rfl, rfl, G0', hqt, by omega, hwc.symm⟩
          case round =>
            clear hqt hrl G0'
            obtain ⟨qb, rb, rfl, rfl, Gb, hqtb, hrlb, rfl⟩ := hrel
            subst hwc
            by_cases hbigb : 4294967296 ≤ qb
            · have hn : ¬ ((qb : Int) < 4294967296) := by omega
              obtain ⟨hq1b, G2b⟩ := guess_less Gb.out (by omega) hu0h (by have := HYs.out; omega) (.inl hbigb)
              obtain ⟨kb, hkb⟩ : ∃ k, k = qb - 1 := ⟨_, rfl⟩
              obtain ⟨sb, hrb⟩ : ∃ r', r' = rb + y1 := ⟨_, rfl⟩
              rw [← hkb, ← hrb] at G2b
              have hqkb : (qb : Int) - 1 = (kb : Int) := by omega
              have hrkb : (rb : Int) + (y1 : Int) = (sb : Int) := by omega
              have hklb : Hid (kb + 1 = qb) := Lib.hid (by omega)
              have hktb : kb ≤ 4294967296 := by omega
              have HG2b := Lib.hid G2b
              clear hkb hrb G2b
              by_cases hbrb : 4294967296 ≤ sb
              · have hb' : (4294967296 : Int) ≤ (sb : Int) := by omega
                repeat (go_not_at_region 28; first | rw [if_neg hn] | rw [if_pos hb'] | go_values | go_skip | go_guarded | go_step | go_upon | go_back)
                clear hb'
                have hq2 := guess_done HG2b.out (by omega) hy0h hktb (.inr hbrb)
                rw [← HYs.out] at hq2
                have E28 := Lib.hid (wrapDiv R1 u0 kb Y hq2 (by omega) hYhi)
                have TD := two_digits (wd hi lo) y Y s u1 u0 un (by omega) HW.out.Yeq (by have e1 := HW.out.eq; have e2 := hs'.out; unfold wd; rw [e1, e2]; exact words_eq un u1 u0) hu0h
                rw [← HQ1.out, ← HR1.out, ← hq2] at TD
                have hQ2l : kb < 4294967296 := by rw [hq2]; exact quot_lt R1 u0 Y (by omega) hR1l hu0h
                clear hq2
                have E29 : Hid ((ka : Int) * 4294967296 + (kb : Int) = ((wd hi lo / y : Nat) : Int)) := Lib.hid (by rw [TD.1]; omega)
                have E30 : Hid (IntKind.u64.wrap (IntKind.u64.wrap (IntKind.u64.wrap ((R1 : Int) * 4294967296) + (u0 : Int)) - IntKind.u64.wrap ((kb : Int) * (Y : Int))) / 2 ^ s = ((wd hi lo % y : Nat) : Int)) := Lib.hid (by rw [E28.out, TD.2]; simp)
                clear TD E28
                repeat (first | go_values | go_skip | go_guarded | go_step | go_upon | go_back)
                rw [E29.out, E30.out]
                go_ret2
                exact ⟨rfl, Below.refl _ _⟩
              · have hb' : ¬ (4294967296 : Int) ≤ (sb : Int) := by omega
                repeat (first | rw [if_neg hn] | rw [if_neg hb'] | go_values | go_skip | go_guarded | go_step | go_upon | go_back)
                go_roundw
                case rel => exact ⟨kb, sb, rfl, rfl, HG2b, by omega, by omega, by first | rfl | simp⟩
                case measure => have := hklb.out; simp [intOf]; omega
            · have hn : (qb : Int) < 4294967296 := by omega
              obtain ⟨mb, hmb, hmlb⟩ : ∃ m : Nat, (4294967296 : Int) * (rb : Int) = (m : Int) ∧ m = rb * 4294967296 := ⟨rb * 4294967296, by omega, rfl⟩
              obtain ⟨nb, hm2b, hml2b⟩ : ∃ m2 : Nat, (mb : Int) + (u0 : Int) = (m2 : Int) ∧ m2 = rb * 4294967296 + u0 := ⟨mb + u0, by omega, by omega⟩
              obtain ⟨pb, hpb, hplb⟩ : ∃ p0 : Nat, (qb : Int) * (y0 : Int) = (p0 : Int) ∧ p0 = qb * y0 := ⟨qb * y0, rfl, rfl⟩
              have hpbb : pb < 18446744073709551616 := by
                have h5 : qb * y0 ≤ 4294967295 * 4294967295 := Nat.mul_le_mul (by omega) (by omega)
                rw [hplb]
                exact Nat.lt_of_le_of_lt h5 (by omega)
              have hmbb : mb < 18446744073709551616 := by omega
              have hm2bb : nb < 18446744073709551616 := by omega
              have HL2b := Lib.hid hml2b
              have HPLb := Lib.hid hplb
              clear hmlb hml2b hplb
              by_cases hcmpb : nb < pb
              · have hc : (nb : Int) < (pb : Int) := by omega
                obtain ⟨hq1b, G2b⟩ := guess_less Gb.out (by omega) hu0h (by have := HYs.out; omega) (.inr (by rw [← HL2b.out, ← HPLb.out]; exact hcmpb))
                obtain ⟨kb, hkb⟩ : ∃ k, k = qb - 1 := ⟨_, rfl⟩
                obtain ⟨sb, hrb⟩ : ∃ r', r' = rb + y1 := ⟨_, rfl⟩
                rw [← hkb, ← hrb] at G2b
                have hqkb : (qb : Int) - 1 = (kb : Int) := by omega
                have hrkb : (rb : Int) + (y1 : Int) = (sb : Int) := by omega
                have hklb : Hid (kb + 1 = qb) := Lib.hid (by omega)
                have hktb : kb ≤ 4294967296 := by omega
                have HG2b := Lib.hid G2b
                clear hkb hrb G2b
                by_cases hbrb : 4294967296 ≤ sb
                · have hb' : (4294967296 : Int) ≤ (sb : Int) := by omega
                  repeat (go_not_at_region 28; first | rw [if_pos hn] | rw [if_pos hc] | rw [if_pos hb'] | go_values | go_skip | go_guarded | go_step | go_upon | go_back)
                  clear hb'
                  have hq2 := guess_done HG2b.out (by omega) hy0h hktb (.inr hbrb)
                  rw [← HYs.out] at hq2
                  have E28 := Lib.hid (wrapDiv R1 u0 kb Y hq2 (by omega) hYhi)
                  have TD := two_digits (wd hi lo) y Y s u1 u0 un (by omega) HW.out.Yeq (by have e1 := HW.out.eq; have e2 := hs'.out; unfold wd; rw [e1, e2]; exact words_eq un u1 u0) hu0h
                  rw [← HQ1.out, ← HR1.out, ← hq2] at TD
                  have hQ2l : kb < 4294967296 := by rw [hq2]; exact quot_lt R1 u0 Y (by omega) hR1l hu0h
                  clear hq2
                  have E29 : Hid ((ka : Int) * 4294967296 + (kb : Int) = ((wd hi lo / y : Nat) : Int)) := Lib.hid (by rw [TD.1]; omega)
                  have E30 : Hid (IntKind.u64.wrap (IntKind.u64.wrap (IntKind.u64.wrap ((R1 : Int) * 4294967296) + (u0 : Int)) - IntKind.u64.wrap ((kb : Int) * (Y : Int))) / 2 ^ s = ((wd hi lo % y : Nat) : Int)) := Lib.hid (by rw [E28.out, TD.2]; simp)
                  clear TD E28
                  repeat (first | go_values | go_skip | go_guarded | go_step | go_upon | go_back)
                  rw [E29.out, E30.out]
                  go_ret2
                  exact ⟨rfl, Below.refl _ _⟩
                · have hb' : ¬ (4294967296 : Int) ≤ (sb : Int) := by omega
                  repeat (first | rw [if_pos hn] | rw [if_pos hc] | rw [if_neg hb'] | go_values | go_skip | go_guarded | go_step | go_upon | go_back)
                  go_roundw
                  case rel => exact ⟨kb, sb, rfl, rfl, HG2b, by omega, by omega, by first | rfl | simp⟩
                  case measure => have := hklb.out; simp [intOf]; omega
              · have hc : ¬ (nb : Int) < (pb : Int) := by omega
                have hc2 : (pb : Int) ≤ (nb : Int) := by omega
                have hcb : decide ((nb : Int) < (pb : Int)) = false := decide_eq_false hc
                have hnq : ¬ (4294967296 : Int) ≤ (qb : Int) := by omega
                repeat (go_not_at_region 28; first | rw [if_pos hn] | rw [if_neg hnq] | rw [if_neg hc] | rw [if_pos hc2] | rw [hcb] | go_values | go_skip | go_guarded | go_step | go_upon | go_back)
                clear hc hn hc2 hcb hnq
                have hq2 := guess_done Gb.out (by omega) hy0h (by omega) (.inl (by rw [← HL2b.out, ← HPLb.out]; omega))
                rw [← HYs.out] at hq2
                have E28 := Lib.hid (wrapDiv R1 u0 qb Y hq2 (by omega) hYhi)
                have TD := two_digits (wd hi lo) y Y s u1 u0 un (by omega) HW.out.Yeq (by have e1 := HW.out.eq; have e2 := hs'.out; unfold wd; rw [e1, e2]; exact words_eq un u1 u0) hu0h
                rw [← HQ1.out, ← HR1.out, ← hq2] at TD
                have hQ2l : qb < 4294967296 := by rw [hq2]; exact quot_lt R1 u0 Y (by omega) hR1l hu0h
                clear hq2
                have E29 : Hid ((ka : Int) * 4294967296 + (qb : Int) = ((wd hi lo / y : Nat) : Int)) := Lib.hid (by rw [TD.1]; omega)
                have E30 : Hid (IntKind.u64.wrap (IntKind.u64.wrap (IntKind.u64.wrap ((R1 : Int) * 4294967296) + (u0 : Int)) - IntKind.u64.wrap ((qb : Int) * (Y : Int))) / 2 ^ s = ((wd hi lo % y : Nat) : Int)) := Lib.hid (by rw [E28.out, TD.2]; simp)
                clear TD E28
                repeat (first | go_values | go_skip | go_guarded | go_step | go_upon | go_back)
                rw [E29.out, E30.out]
                go_ret2
                exact ⟨rfl, Below.refl _ _⟩
        · have hb' : ¬ (4294967296 : Int) ≤ (sa : Int) := by omega
          repeat (first | rw [if_pos hn] | rw [if_pos hc] | rw [if_neg hb'] | go_values | go_skip | go_guarded | go_step | go_upon | go_back)
          go_roundw
          case rel => exact ⟨ka, sa, rfl, rfl, HG2a, by omega, by omega, by first | rfl | simp⟩
          case measure => have := hkla.out; simp [intOf]; omega
      · have hc : ¬ (na : Int) < (pa : Int) := by omega
        have hc2 : (pa : Int) ≤ (na : Int) := by omega
        have hcb : decide ((na : Int) < (pa : Int)) = false := decide_eq_false hc
        have hnq : ¬ (4294967296 : Int) ≤ (qa : Int) := by omega
        repeat (go_not_at_region 21; first | rw [if_pos hn] | rw [if_neg hnq] | rw [if_neg hc] | rw [if_pos hc2] | rw [hcb] | go_values | go_skip | go_guarded | go_step | go_upon | go_back)
        clear hc hn hc2 hcb hnq
        have hq1 := guess_done Ga.out (by omega) hy0h (by omega) (.inl (by rw [← HL2a.out, ← HPLa.out]; omega))
        rw [← HYs.out] at hq1
        have E21 := Lib.hid (wrapDiv un u1 qa Y hq1 (by omega) hYhi)
        obtain ⟨R1, hR1e⟩ : ∃ R, R = (un * 4294967296 + u1) % Y := ⟨_, rfl⟩
        have hR1l : R1 < Y := by rw [hR1e]; exact Nat.mod_lt _ (by omega)
        rw [← hR1e] at E21
        have HR1 := Lib.hid hR1e
        have HQ1 := Lib.hid hq1
        have hQ1l : qa < 4294967296 := by rw [hq1]; exact quot_lt un u1 Y (by omega) hunY hu1h
        clear hq1 hR1e
        repeat (go_not_at_region 22; first | go_values | go_skip | go_guarded | go_step | go_upon | go_back)
        rw [E21.out]
        have G0 := guess_start R1 u0 y1 y0 (by omega) hu0h
        have hqt := guess_top R1 y1 y0 hy1l hy0h (by have := HYs.out; omega)
        have D1 : (R1 : Int) / (y1 : Int) = ((R1 / y1 : Nat) : Int) := rfl
        have D2 : (R1 : Int).tdiv (y1 : Int) = ((R1 / y1 : Nat) : Int) := rfl
        have hrl : R1 % y1 < y1 := Nat.mod_lt _ (by omega)
        generalize R1 / y1 = qs at *
        generalize R1 % y1 = rs at *
        have D3 : (qs : Int) * (y1 : Int) = ((qs * y1 : Nat) : Int) := rfl
        have hqy : qs * y1 + rs = R1 := G0.eq
        obtain ⟨p, hp⟩ : ∃ p, p = qs * y1 := ⟨_, rfl⟩
        rw [← hp] at D3 hqy
        have D4 : (R1 : Int) - (p : Int) = (rs : Int) := by omega
        have G0' := Lib.hid G0
        clear hp G0
        go_upto_region 24 with (fail)
        clear D1 D2 D3 D4 hqy
        obtain ⟨wc, hwc⟩ : ∃ x, x = wr := ⟨_, rfl⟩
        go_loopw [18, 16] (fun a b wr => ∃ q r : Nat, a = .int .u64 q ∧ b = .int .u64 r ∧ Hid (Guess R1 u0 y1 y0 q r) ∧ q ≤ 4294967297 ∧ r < 4294967296 ∧ wr = wc) (fun a _ _ => (intOf a).toNat)
        case atStart => exact ⟨qs, rs, rfl, rfl, G0', hqt, by omega, hwc.symm⟩
        case round =>
          clear hqt hrl G0'
          obtain ⟨qb, rb, rfl, rfl, Gb, hqtb, hrlb, rfl⟩ := hrel
          subst hwc
          by_cases hbigb : 4294967296 ≤ qb
          · have hn : ¬ ((qb : Int) < 4294967296) := by omega
            obtain ⟨hq1b, G2b⟩ := guess_less Gb.out (by omega) hu0h (by have := HYs.out; omega) (.inl hbigb)
            obtain ⟨kb, hkb⟩ : ∃ k, k = qb - 1 := ⟨_, rfl⟩
            obtain ⟨sb, hrb⟩ : ∃ r', r' = rb + y1 := ⟨_, rfl⟩
            rw [← hkb, ← hrb] at G2b
            have hqkb : (qb : Int) - 1 = (kb : Int) := by omega
            have hrkb : (rb : Int) + (y1 : Int) = (sb : Int) := by omega
            have hklb : Hid (kb + 1 = qb) := Lib.hid (by omega)
            have hktb : kb ≤ 4294967296 := by omega
            have HG2b := Lib.hid G2b
            clear hkb hrb G2b
            by_cases hbrb : 4294967296 ≤ sb
            · have hb' : (4294967296 : Int) ≤ (sb : Int) := by omega
              repeat (go_not_at_region 28; first | rw [if_neg hn] | rw [if_pos hb'] | go_values | go_skip | go_guarded | go_step | go_upon | go_back)
              clear hb'
              have hq2 := guess_done HG2b.out (by omega) hy0h hktb (.inr hbrb)
              rw [← HYs.out] at hq2
              have E28 := Lib.hid (wrapDiv R1 u0 kb Y hq2 (by omega) hYhi)
              have TD := two_digits (wd hi lo) y Y s u1 u0 un (by omega) HW.out.Yeq (by have e1 := HW.out.eq; have e2 := hs'.out; unfold wd; rw [e1, e2]; exact words_eq un u1 u0) hu0h
              rw [← HQ1.out, ← HR1.out, ← hq2] at TD
              have hQ2l : kb < 4294967296 := by rw [hq2]; exact quot_lt R1 u0 Y (by omega) hR1l hu0h
              clear hq2
              have E29 : Hid ((qa : Int) * 4294967296 + (kb : Int) = ((wd hi lo / y : Nat) : Int)) := Lib.hid (by rw [TD.1]; omega)
              have E30 : Hid (IntKind.u64.wrap (IntKind.u64.wrap (IntKind.u64.wrap ((R1 : Int) * 4294967296) + (u0 : Int)) - IntKind.u64.wrap ((kb : Int) * (Y : Int))) / 2 ^ s = ((wd hi lo % y : Nat) : Int)) := Lib.hid (by rw [E28.out, TD.2]; simp)
              clear TD E28
              repeat (first | go_values | go_skip | go_guarded | go_step | go_upon | go_back)
              rw [E29.out, E30.out]
              go_ret2
              exact ⟨rfl, Below.refl _ _⟩
            · have hb' : ¬ (4294967296 : Int) ≤ (sb : Int) := by omega
              repeat (first | rw [if_neg hn] | rw [if_neg hb'] | go_values | go_skip | go_guarded | go_step | go_upon | go_back)
              go_roundw
              case rel => exact ⟨kb, sb, rfl, rfl, HG2b, by omega, by omega, by first | rfl | simp⟩
              case measure => have := hklb.out; simp [intOf]; omega
          · have hn : (qb : Int) < 4294967296 := by omega
            obtain ⟨mb, hmb, hmlb⟩ : ∃ m : Nat, (4294967296 : Int) * (rb : Int) = (m : Int) ∧ m = rb * 4294967296 := ⟨rb * 4294967296, by omega, rfl⟩
            obtain ⟨nb, hm2b, hml2b⟩ : ∃ m2 : Nat, (mb : Int) + (u0 : Int) = (m2 : Int) ∧ m2 = rb * 4294967296 + u0 := ⟨mb + u0, by omega, by omega⟩
            obtain ⟨pb, hpb, hplb⟩ : ∃ p0 : Nat, (qb : Int) * (y0 : Int) = (p0 : Int) ∧ p0 = qb * y0 := ⟨qb * y0, rfl, rfl⟩
            have hpbb : pb < 18446744073709551616 := by
              have h5 : qb * y0 ≤ 4294967295 * 4294967295 := Nat.mul_le_mul (by omega) (by omega)
              rw [hplb]
              exact Nat.lt_of_le_of_lt h5 (by omega)
            have hmbb : mb < 18446744073709551616 := by omega
            have hm2bb : nb < 18446744073709551616 := by omega
            have HL2b := Lib.hid hml2b
            have HPLb := Lib.hid hplb
            clear hmlb hml2b hplb
            by_cases hcmpb : nb < pb
            · have hc : (nb : Int) < (pb : Int) := by omega
              obtain ⟨hq1b, G2b⟩ := guess_less Gb.out (by omega) hu0h (by have := HYs.out; omega) (.inr (by rw [← HL2b.out, ← HPLb.out]; exact hcmpb))
              obtain ⟨kb, hkb⟩ : ∃ k, k = qb - 1 := ⟨_, rfl⟩
              obtain ⟨sb, hrb⟩ : ∃ r', r' = rb + y1 := ⟨_, rfl⟩
              rw [← hkb, ← hrb] at G2b
              have hqkb : (qb : Int) - 1 = (kb : Int) := by omega
              have hrkb : (rb : Int) + (y1 : Int) = (sb : Int) := by omega
              have hklb : Hid (kb + 1 = qb) := Lib.hid (by omega)
              have hktb : kb ≤ 4294967296 := by omega
              have HG2b := Lib.hid G2b
              clear hkb hrb G2b
              by_cases hbrb : 4294967296 ≤ sb
              · have hb' : (4294967296 : Int) ≤ (sb : Int) := by omega
                repeat (go_not_at_region 28; first | rw [if_pos hn] | rw [if_pos hc] | rw [if_pos hb'] | go_values | go_skip | go_guarded | go_step | go_upon | go_back)
                clear hb'
                have hq2 := guess_done HG2b.out (by omega) hy0h hktb (.inr hbrb)
                rw [← HYs.out] at hq2
                have E28 := Lib.hid (wrapDiv R1 u0 kb Y hq2 (by omega) hYhi)
                have TD := two_digits (wd hi lo) y Y s u1 u0 un (by omega) HW.out.Yeq (by have e1 := HW.out.eq; have e2 := hs'.out; unfold wd; rw [e1, e2]; exact words_eq un u1 u0) hu0h
                rw [← HQ1.out, ← HR1.out, ← hq2] at TD
                have hQ2l : kb < 4294967296 := by rw [hq2]; exact quot_lt R1 u0 Y (by omega) hR1l hu0h
                clear hq2
                have E29 : Hid ((qa : Int) * 4294967296 + (kb : Int) = ((wd hi lo / y : Nat) : Int)) := Lib.hid (by rw [TD.1]; omega)
                have E30 : Hid (IntKind.u64.wrap (IntKind.u64.wrap (IntKind.u64.wrap ((R1 : Int) * 4294967296) + (u0 : Int)) - IntKind.u64.wrap ((kb : Int) * (Y : Int))) / 2 ^ s = ((wd hi lo % y : Nat) : Int)) := Lib.hid (by rw [E28.out, TD.2]; simp)
                clear TD E28
                repeat (first | go_values | go_skip | go_guarded | go_step | go_upon | go_back)
                rw [E29.out, E30.out]
                go_ret2
                exact ⟨rfl, Below.refl _ _⟩
              · have hb' : ¬ (4294967296 : Int) ≤ (sb : Int) := by omega
                repeat (first | rw [if_pos hn] | rw [if_pos hc] | rw [if_neg hb'] | go_values | go_skip | go_guarded | go_step | go_upon | go_back)
                go_roundw
                case rel => exact ⟨kb, sb, rfl, rfl, HG2b, by omega, by omega, by first | rfl | simp⟩
                case measure => have := hklb.out; simp [intOf]; omega
            · have hc : ¬ (nb : Int) < (pb : Int) := by omega
              have hc2 : (pb : Int) ≤ (nb : Int) := by omega
              have hcb : decide ((nb : Int) < (pb : Int)) = false := decide_eq_false hc
              have hnq : ¬ (4294967296 : Int) ≤ (qb : Int) := by omega
              repeat (go_not_at_region 28; first | rw [if_pos hn] | rw [if_neg hnq] | rw [if_neg hc] | rw [if_pos hc2] | rw [hcb] | go_values | go_skip | go_guarded | go_step | go_upon | go_back)
              clear hc hn hc2 hcb hnq
              have hq2 := guess_done Gb.out (by omega) hy0h (by omega) (.inl (by rw [← HL2b.out, ← HPLb.out]; omega))
              rw [← HYs.out] at hq2
              have E28 := Lib.hid (wrapDiv R1 u0 qb Y hq2 (by omega) hYhi)
              have TD := two_digits (wd hi lo) y Y s u1 u0 un (by omega) HW.out.Yeq (by have e1 := HW.out.eq; have e2 := hs'.out; unfold wd; rw [e1, e2]; exact words_eq un u1 u0) hu0h
              rw [← HQ1.out, ← HR1.out, ← hq2] at TD
              have hQ2l : qb < 4294967296 := by rw [hq2]; exact quot_lt R1 u0 Y (by omega) hR1l hu0h
              clear hq2
              have E29 : Hid ((qa : Int) * 4294967296 + (qb : Int) = ((wd hi lo / y : Nat) : Int)) := Lib.hid (by rw [TD.1]; omega)
              have E30 : Hid (IntKind.u64.wrap (IntKind.u64.wrap (IntKind.u64.wrap ((R1 : Int) * 4294967296) + (u0 : Int)) - IntKind.u64.wrap ((qb : Int) * (Y : Int))) / 2 ^ s = ((wd hi lo % y : Nat) : Int)) := Lib.hid (by rw [E28.out, TD.2]; simp)
              clear TD E28
              repeat (first | go_values | go_skip | go_guarded | go_step | go_upon | go_back)
              rw [E29.out, E30.out]
              go_ret2
              exact ⟨rfl, Below.refl _ _⟩
end Go.Proofs.YtcbopgopegphlaaGreat

namespace Go.Proofs.YtcbopgopegphlaaGreat
open Go.RowKit
set_option linter.unusedVariables false

theorem Div64_any (hi lo y : Nat) (h0 : hi < y) (h1 : lo < 18446744073709551616) (h2 : y < 18446744073709551616) : DivAt hi lo y := by
  rcases Nat.eq_zero_or_pos hi with rfl | hh
  · exact Div64_small lo y h1 h2 h0
  · exact Div64_big hi lo y h0 h1 h2 hh
theorem MulDiv_any (a b c : Int) (w : World) (a0 : -9223372036854775808 ≤ a) (a1 : a ≤ 9223372036854775807) (b0 : -9223372036854775808 ≤ b) (b1 : b ≤ 9223372036854775807) (c0 : -9223372036854775808 ≤ c) (c1 : c ≤ 9223372036854775807) :
    Calls Tryz.prog 67 #[.int .i64 a, .int .i64 b, .int .i64 c] w fun e w' => e = .returned (.tuple #[.int .i64 (mulDivOf a b c).1, .int .i64 (mulDivOf a b c).2]) ∧ Below w.heap.size w w' :=
  MulDiv_of a b c w a0 a1 b0 b1 c0 c1 fun _ h => Div64_any _ _ _ h (Nat.mod_lt _ (by omega)) (by omega)
end Go.Proofs.YtcbopgopegphlaaGreat

namespace Go.Proofs.YtcbopgopegphlaaGreat
open Go.RowKit
set_option linter.unusedVariables false

theorem evenDiv_mul (n d : Nat) (hd : 0 < d) : evenDiv (n * d) d = n := by
  rw [evenDiv_eq, Nat.mul_mod_left, Nat.mul_div_cancel _ hd, if_neg (by omega)]
theorem overOf_mul (n d : Nat) (m : Bool) (hd : 0 < d) : overOf (n * d) d m = sgn n m := by
  show sgn (evenDiv (n * d) d) m = sgn n m
  rw [evenDiv_mul n d hd]
theorem sgn_self (a : Int) (h0 : -9223372036854775808 ≤ a) (h1 : a ≤ 9223372036854775807) : sgn a.natAbs (decide (a < 0)) = (a, 0) := by
  unfold sgn
  by_cases h : a < 0
  · rw [decide_eq_true h, if_pos rfl, if_pos (by omega)]
    congr 1
    omega
  · rw [decide_eq_false h, if_neg (by simp), if_pos (by omega)]
    congr 1
    omega
/-- What is multiplied and divided by one number stays. -/
theorem mulDiv_same (a b : Int) (h0 : -9223372036854775808 ≤ a) (h1 : a ≤ 9223372036854775807) (hb : b ≠ 0) : mulDivOf a b b = (a, 0) := by
  unfold mulDivOf
  rw [if_neg hb, overOf_mul _ _ _ (by omega)]
  have e : (decide (a < 0) ^^ decide (b < 0) ^^ decide (b < 0)) = decide (a < 0) := by
    cases decide (a < 0) <;> cases decide (b < 0) <;> rfl
  rw [e]
  exact sgn_self a h0 h1
theorem mulDiv_comm (a b c : Int) : mulDivOf b a c = mulDivOf a b c := by
  unfold mulDivOf
  rw [Nat.mul_comm b.natAbs a.natAbs]
  have e : (decide (b < 0) ^^ decide (a < 0)) = (decide (a < 0) ^^ decide (b < 0)) := by
    cases decide (a < 0) <;> cases decide (b < 0) <;> rfl
  rw [e]
theorem sgn_not (q : Nat) (m : Bool) (y : Int) (h : sgn q m = (y, 0)) (hy : -9223372036854775808 < y) : sgn q (!m) = (-y, 0) := by
  unfold sgn at h ⊢
  cases m
  · rw [if_neg (by simp)] at h
    split at h
    · injection h with h1 h2
      rw [Bool.not_false, if_pos rfl, if_pos (by omega), h1]
    · injection h with h1 h2
      cases h2
  · rw [if_pos rfl] at h
    split at h
    · injection h with h1 h2
      rw [Bool.not_true, if_neg (by simp), if_pos (by omega)]
      congr 1
      omega
    · injection h with h1 h2
      cases h2
/-- The other sign. -/
theorem mulDiv_neg (a b c y : Int) (hc : c ≠ 0) (h : mulDivOf a b c = (y, 0)) (hy : -9223372036854775808 < y) : mulDivOf (-a) b c = (-y, 0) := by
  unfold mulDivOf at h ⊢
  rw [if_neg hc] at h ⊢
  rw [Int.natAbs_neg]
  have h' : sgn (evenDiv (a.natAbs * b.natAbs) c.natAbs) (decide (a < 0) ^^ decide (b < 0) ^^ decide (c < 0)) = (y, 0) := h
  show sgn (evenDiv (a.natAbs * b.natAbs) c.natAbs) (decide (-a < 0) ^^ decide (b < 0) ^^ decide (c < 0)) = (-y, 0)
  by_cases ha : a = 0
  · subst ha
    simp only [Int.natAbs_zero, Nat.zero_mul] at h' ⊢
    have e0 : evenDiv 0 c.natAbs = 0 := by
      rw [evenDiv_eq, Nat.zero_mod, Nat.zero_div, if_neg (by omega)]
    rw [e0] at h' ⊢
    have ez : ∀ m, sgn 0 m = (0, 0) := by intro m; cases m <;> rfl
    rw [ez] at h' ⊢
    injection h' with h1 h2
    rw [← h1]
    rfl
  · have e : (decide (-a < 0) ^^ decide (b < 0) ^^ decide (c < 0)) = !(decide (a < 0) ^^ decide (b < 0) ^^ decide (c < 0)) := by
      rcases (show a < 0 ∨ 0 < a by omega) with h1 | h1
      · rw [decide_eq_true h1, decide_eq_false (show ¬ -a < 0 by omega)]
        cases decide (b < 0) <;> cases decide (c < 0) <;> rfl
      · rw [decide_eq_false (show ¬ a < 0 by omega), decide_eq_true (show -a < 0 by omega)]
        cases decide (b < 0) <;> cases decide (c < 0) <;> rfl
    rw [e]
    exact sgn_not _ _ y h' hy
end Go.Proofs.YtcbopgopegphlaaGreat
