/-
  The walk of bits.Div64. No statement is proved here.
-/
import Derived.Test.YtjniclalobggpaaDoorAmK2
import Derived.Test.YtjniclalobggpaaDoorAmW2
namespace Go.Proofs.YtjniclalobggpaaDoor
open Go.RowKit
set_option linter.unusedVariables false
theorem words_eq (a b c : Nat) : a * 18446744073709551616 + (b * 4294967296 + c) = (a * 4294967296 + b) * 4294967296 + c := by
  have e : (4294967296 * 4294967296 : Nat) = 18446744073709551616 := rfl
  rw [Nat.add_mul, Nat.mul_assoc, e, Nat.add_assoc]
theorem wrapDiv (u v q Y : Nat) (hq : q = (u * 4294967296 + v) / Y) (hY : 0 < Y) (hY2 : Y < 18446744073709551616) :
    IntKind.u64.wrap (IntKind.u64.wrap (IntKind.u64.wrap ((u : Int) * 4294967296) + (v : Int)) - IntKind.u64.wrap ((q : Int) * (Y : Int))) = (((u * 4294967296 + v) % Y : Nat) : Int) := by
  have h1 := Nat.div_add_mod (u * 4294967296 + v) Y
  have h2 : (u * 4294967296 + v) % Y < Y := Nat.mod_lt _ hY
  rw [← hq, Nat.mul_comm] at h1
  have h3 : (q : Int) * (Y : Int) = ((q * Y : Nat) : Int) := rfl
  rw [h3, wrapU', wrapU', wrapU', wrapU']
  obtain ⟨p, hp⟩ : ∃ p, p = q * Y := ⟨_, rfl⟩
  obtain ⟨r, hr⟩ : ∃ r, r = (u * 4294967296 + v) % Y := ⟨_, rfl⟩
  rw [← hp, ← hr] at h1
  rw [← hr] at h2
  rw [← hp, ← hr]
  clear hp hr h3 hq
  omega
set_option maxRecDepth 100000 in
set_option maxHeartbeats 8000000 in
theorem Div64_big (hi lo y : Nat) (h0 : hi < y) (h1 : lo < 18446744073709551616) (h2 : y < 18446744073709551616) (hh : 0 < hi) : DivAt hi lo y := by
  intro w
  obtain ⟨s, Y, un, u10, hs, W⟩ := words_any hi lo y h0 h1 h2
  have LZ := Lib.hid (fun w => bits_LeadingZeros64 (y : Int) w (by omega) (by omega))
  rw [Int.toNat_natCast, hs] at LZ
  have hs63 := W.s63
  have E1 := Lib.hid W.wy
  have E3 := Lib.hid W.wu
  have E4 := Lib.hid W.wl
  have hYlo := W.Ylo
  have hYhi := W.Yhi
  have hunY := W.unY
  have hulo := W.ulo
  obtain ⟨y1, hy1⟩ : ∃ x, x = Y / 4294967296 := ⟨_, rfl⟩
  obtain ⟨y0, hy0⟩ : ∃ x, x = Y % 4294967296 := ⟨_, rfl⟩
  obtain ⟨u1, hu1⟩ : ∃ x, x = u10 / 4294967296 := ⟨_, rfl⟩
  obtain ⟨u0, hu0⟩ : ∃ x, x = u10 % 4294967296 := ⟨_, rfl⟩
  have A1 : Hid ((Y : Int) / 4294967296 = (y1 : Int)) := Lib.hid (by omega)
  have A2 : Hid (bits .and .u64 (Y : Int) 4294967295 = (y0 : Int)) := Lib.hid (by rw [and32 Y hYhi, hy0])
  have A3 : Hid ((u10 : Int) / 4294967296 = (u1 : Int)) := Lib.hid (by omega)
  have A4 : Hid (bits .and .u64 (u10 : Int) 4294967295 = (u0 : Int)) := Lib.hid (by rw [and32 u10 hulo, hu0])
  have hYs : Y = y1 * 4294967296 + y0 := by omega
  have hy1l : 2147483648 ≤ y1 := by omega
  have hy1h : y1 < 4294967296 := by omega
  have hy0h : y0 < 4294967296 := by omega
  have hu1h : u1 < 4294967296 := by omega
  have hu0h : u0 < 4294967296 := by omega
  have HW := Lib.hid W
  have hs' : Hid (u10 = u1 * 4294967296 + u0) := Lib.hid (by omega)
  clear hs W hy1 hy0 hu1 hu0 hulo
  go_enter Tryd.func39, Tryd.ntmps39
  go_wp2_with fail
  refine (LZ.out _).mono ?_
  rintro e w' ⟨rfl, rfl⟩
  go_upto_region 15 with (fail)
  rw [E1.out, E3.out, E4.out, A1.out, A2.out, A3.out, A4.out]
  have G0 := guess_start un u1 y1 y0 (by omega) hu1h
  have hqt := guess_top un y1 y0 hy1l hy0h (by omega)
  have D1 : (un : Int) / (y1 : Int) = ((un / y1 : Nat) : Int) := rfl
  have D2 : (un : Int).tdiv (y1 : Int) = ((un / y1 : Nat) : Int) := rfl
  have hrl : un % y1 < y1 := Nat.mod_lt _ (by omega)
  generalize un / y1 = q at *
  generalize un % y1 = r at *
  have D3 : (q : Int) * (y1 : Int) = ((q * y1 : Nat) : Int) := rfl
  have hqy : q * y1 + r = un := G0.eq
  obtain ⟨p, hp⟩ : ∃ p, p = q * y1 := ⟨_, rfl⟩
  rw [← hp] at D3 hqy
  have D4 : (un : Int) - (p : Int) = (r : Int) := by omega
  have G0' := Lib.hid G0
  clear hp G0
  go_upto_region 17 with (fail)
  clear D1 D2 D3 D4 hqy
  have HYs := Lib.hid hYs
  clear hYs
  go_loopw [15, 16] (fun a b wr => ∃ q r : Nat, a = .int .u64 q ∧ b = .int .u64 r ∧ Hid (Guess un u1 y1 y0 q r) ∧ q ≤ 4294967297 ∧ r < 4294967296 ∧ wr = w') (fun a _ _ => (intOf a).toNat)
  case atStart => exact ⟨q, r, rfl, rfl, G0', hqt, by omega, by simp⟩
  case round =>
    clear hqt hrl G0'
    obtain ⟨qa, ra, rfl, rfl, Ga, hqta, hrla, rfl⟩ := hrel
    by_cases hbiga : 4294967296 ≤ qa
    · have hn : ¬ ((qa : Int) < 4294967296) := by omega
      obtain ⟨hq1a, G2a⟩ := guess_less Ga.out (by omega) hu1h (by have := HYs.out; omega) (.inl hbiga)
      obtain ⟨ka, hka⟩ : ∃ k, k = qa - 1 := ⟨_, rfl⟩
      obtain ⟨sa, hra⟩ : ∃ r', r' = ra + y1 := ⟨_, rfl⟩
      rw [← hka, ← hra] at G2a
      have hqka : (qa : Int) - 1 = (ka : Int) := by omega
      have hrka : (ra : Int) + (y1 : Int) = (sa : Int) := by omega
      have hkla : Hid (ka + 1 = qa) := Lib.hid (by omega)
      have hkta : ka ≤ 4294967296 := by omega
      have HG2a := Lib.hid G2a
      clear hka hra G2a
      by_cases hbra : 4294967296 ≤ sa
      · have hb' : (4294967296 : Int) ≤ (sa : Int) := by omega
        repeat (go_not_at_region 21; first | rw [if_neg hn] | rw [if_pos hb'] | go_values | go_skip | go_guarded | go_step | go_upon | go_back)
        clear hb'
        have hq1 := guess_done HG2a.out (by omega) hy0h hkta (.inr hbra)
        rw [← HYs.out] at hq1
        have E21 := Lib.hid (wrapDiv un u1 ka Y hq1 (by omega) hYhi)
        obtain ⟨R1, hR1e⟩ : ∃ R, R = (un * 4294967296 + u1) % Y := ⟨_, rfl⟩
        have hR1l : R1 < Y := by rw [hR1e]; exact Nat.mod_lt _ (by omega)
        rw [← hR1e] at E21
        have HR1 := Lib.hid hR1e
        have HQ1 := Lib.hid hq1
        have hQ1l : ka < 4294967296 := by rw [hq1]; exact quot_lt un u1 Y (by omega) hunY hu1h
        clear hq1 hR1e
        repeat (go_not_at_region 22; first | go_values | go_skip | go_guarded | go_step | go_upon | go_back)
        rw [E21.out]
        have G0 := guess_start R1 u0 y1 y0 (by omega) hu0h
        have hqt := guess_top R1 y1 y0 hy1l hy0h (by have := HYs.out; omega)
        have D1 : (R1 : Int) / (y1 : Int) = ((R1 / y1 : Nat) : Int) := rfl
        have D2 : (R1 : Int).tdiv (y1 : Int) = ((R1 / y1 : Nat) : Int) := rfl
        have hrl : R1 % y1 < y1 := Nat.mod_lt _ (by omega)
        generalize R1 / y1 = qs at *
        generalize R1 % y1 = rs at *
        have D3 : (qs : Int) * (y1 : Int) = ((qs * y1 : Nat) : Int) := rfl
        have hqy : qs * y1 + rs = R1 := G0.eq
        obtain ⟨p, hp⟩ : ∃ p, p = qs * y1 := ⟨_, rfl⟩
        rw [← hp] at D3 hqy
        have D4 : (R1 : Int) - (p : Int) = (rs : Int) := by omega
        have G0' := Lib.hid G0
        clear hp G0
        go_upto_region 24 with (fail)
        clear D1 D2 D3 D4 hqy
        obtain ⟨wc, hwc⟩ : ∃ x, x = wr := ⟨_, rfl⟩
        go_loopw [18, 16] (fun a b wr => ∃ q r : Nat, a = .int .u64 q ∧ b = .int .u64 r ∧ Hid (Guess R1 u0 y1 y0 q r) ∧ q ≤ 4294967297 ∧ r < 4294967296 ∧ wr = wc) (fun a _ _ => (intOf a).toNat)
        case atStart => exact ⟨qs, rs, rfl, rfl, G0', hqt, by omega, hwc.symm⟩
        case round =>
          clear hqt hrl G0'
          obtain ⟨qb, rb, rfl, rfl, Gb, hqtb, hrlb, rfl⟩ := hrel
          subst hwc
          by_cases hbigb : 4294967296 ≤ qb
          · have hn : ¬ ((qb : Int) < 4294967296) := by omega
            obtain ⟨hq1b, G2b⟩ := guess_less Gb.out (by omega) hu0h (by have := HYs.out; omega) (.inl hbigb)
            obtain ⟨kb, hkb⟩ : ∃ k, k = qb - 1 := ⟨_, rfl⟩
            obtain ⟨sb, hrb⟩ : ∃ r', r' = rb + y1 := ⟨_, rfl⟩
            rw [← hkb, ← hrb] at G2b
            have hqkb : (qb : Int) - 1 = (kb : Int) := by omega
            have hrkb : (rb : Int) + (y1 : Int) = (sb : Int) := by omega
            have hklb : Hid (kb + 1 = qb) := Lib.hid (by omega)
            have hktb : kb ≤ 4294967296 := by omega
            have HG2b := Lib.hid G2b
            clear hkb hrb G2b
            by_cases hbrb : 4294967296 ≤ sb
            · have hb' : (4294967296 : Int) ≤ (sb : Int) := by omega
              repeat (go_not_at_region 28; first | rw [if_neg hn] | rw [if_pos hb'] | go_values | go_skip | go_guarded | go_step | go_upon | go_back)
              clear hb'
              have hq2 := guess_done HG2b.out (by omega) hy0h hktb (.inr hbrb)
              rw [← HYs.out] at hq2
              have E28 := Lib.hid (wrapDiv R1 u0 kb Y hq2 (by omega) hYhi)
              have TD := two_digits (wd hi lo) y Y s u1 u0 un (by omega) HW.out.Yeq (by have e1 := HW.out.eq; have e2 := hs'.out; unfold wd; rw [e1, e2]; exact words_eq un u1 u0) hu0h
              rw [← HQ1.out, ← HR1.out, ← hq2] at TD
              have hQ2l : kb < 4294967296 := by rw [hq2]; exact quot_lt R1 u0 Y (by omega) hR1l hu0h
              clear hq2
              have E29 : Hid ((ka : Int) * 4294967296 + (kb : Int) = ((wd hi lo / y : Nat) : Int)) := Lib.hid (by rw [TD.1]; omega)
              have E30 : Hid (IntKind.u64.wrap (IntKind.u64.wrap (IntKind.u64.wrap ((R1 : Int) * 4294967296) + (u0 : Int)) - IntKind.u64.wrap ((kb : Int) * (Y : Int))) / 2 ^ s = ((wd hi lo % y : Nat) : Int)) := Lib.hid (by rw [E28.out, TD.2]; simp)
              clear TD E28
              repeat (first | go_values | go_skip | go_guarded | go_step | go_upon | go_back)
              rw [E29.out, E30.out]
              go_ret2
              exact ⟨rfl, Below.refl _ _⟩
            · have hb' : ¬ (4294967296 : Int) ≤ (sb : Int) := by omega
              repeat (first | rw [if_neg hn] | rw [if_neg hb'] | go_values | go_skip | go_guarded | go_step | go_upon | go_back)
              go_roundw
              case rel => exact ⟨kb, sb, rfl, rfl, HG2b, by omega, by omega, by first | rfl | simp⟩
              case measure => have := hklb.out; simp [intOf]; omega
          · have hn : (qb : Int) < 4294967296 := by omega
            obtain ⟨mb, hmb, hmlb⟩ : ∃ m : Nat, (4294967296 : Int) * (rb : Int) = (m : Int) ∧ m = rb * 4294967296 := ⟨rb * 4294967296, by omega, rfl⟩
            obtain ⟨nb, hm2b, hml2b⟩ : ∃ m2 : Nat, (mb : Int) + (u0 : Int) = (m2 : Int) ∧ m2 = rb * 4294967296 + u0 := ⟨mb + u0, by omega, by omega⟩
            obtain ⟨pb, hpb, hplb⟩ : ∃ p0 : Nat, (qb : Int) * (y0 : Int) = (p0 : Int) ∧ p0 = qb * y0 := ⟨qb * y0, rfl, rfl⟩
            have hpbb : pb < 18446744073709551616 := by
              have h5 : qb * y0 ≤ 4294967295 * 4294967295 := Nat.mul_le_mul (by omega) (by omega)
              rw [hplb]
              exact Nat.lt_of_le_of_lt h5 (by omega)
            have hmbb : mb < 18446744073709551616 := by omega
            have hm2bb : nb < 18446744073709551616 := by omega
            have HL2b := Lib.hid hml2b
            have HPLb := Lib.hid hplb
            clear hmlb hml2b hplb
            by_cases hcmpb : nb < pb
            · have hc : (nb : Int) < (pb : Int) := by omega
              obtain ⟨hq1b, G2b⟩ := guess_less Gb.out (by omega) hu0h (by have := HYs.out; omega) (.inr (by rw [← HL2b.out, ← HPLb.out]; exact hcmpb))
              obtain ⟨kb, hkb⟩ : ∃ k, k = qb - 1 := ⟨_, rfl⟩
              obtain ⟨sb, hrb⟩ : ∃ r', r' = rb + y1 := ⟨_, rfl⟩
              rw [← hkb, ← hrb] at G2b
              have hqkb : (qb : Int) - 1 = (kb : Int) := by omega
              have hrkb : (rb : Int) + (y1 : Int) = (sb : Int) := by omega
              have hklb : Hid (kb + 1 = qb) := Lib.hid (by omega)
              have hktb : kb ≤ 4294967296 := by omega
              have HG2b := Lib.hid G2b
              clear hkb hrb G2b
              by_cases hbrb : 4294967296 ≤ sb
              · have hb' : (4294967296 : Int) ≤ (sb : Int) := by omega
                repeat (go_not_at_region 28; first | rw [if_pos hn] | rw [if_pos hc] | rw [if_pos hb'] | go_values | go_skip | go_guarded | go_step | go_upon | go_back)
                clear hb'
                have hq2 := guess_done HG2b.out (by omega) hy0h hktb (.inr hbrb)
                rw [← HYs.out] at hq2
                have E28 := Lib.hid (wrapDiv R1 u0 kb Y hq2 (by omega) hYhi)
                have TD := two_digits (wd hi lo) y Y s u1 u0 un (by omega) HW.out.Yeq (by have e1 := HW.out.eq; have e2 := hs'.out; unfold wd; rw [e1, e2]; exact words_eq un u1 u0) hu0h
                rw [← HQ1.out, ← HR1.out, ← hq2] at TD
                have hQ2l : kb < 4294967296 := by rw [hq2]; exact quot_lt R1 u0 Y (by omega) hR1l hu0h
                clear hq2
                have E29 : Hid ((ka : Int) * 4294967296 + (kb : Int) = ((wd hi lo / y : Nat) : Int)) := Lib.hid (by rw [TD.1]; omega)
                have E30 : Hid (IntKind.u64.wrap (IntKind.u64.wrap (IntKind.u64.wrap ((R1 : Int) * 4294967296) + (u0 : Int)) - IntKind.u64.wrap ((kb : Int) * (Y : Int))) / 2 ^ s = ((wd hi lo % y : Nat) : Int)) := Lib.hid (by rw [E28.out, TD.2]; simp)
                clear TD E28
                repeat (first | go_values | go_skip | go_guarded | go_step | go_upon | go_back)
                rw [E29.out, E30.out]
                go_ret2
                exact ⟨rfl, Below.refl _ _⟩
              · have hb' : ¬ (4294967296 : Int) ≤ (sb : Int) := by omega
                repeat (first | rw [if_pos hn] | rw [if_pos hc] | rw [if_neg hb'] | go_values | go_skip | go_guarded | go_step | go_upon | go_back)
                go_roundw
                case rel => exact ⟨kb, sb, rfl, rfl, HG2b, by omega, by omega, by first | rfl | simp⟩
                case measure => have := hklb.out; simp [intOf]; omega
            · have hc : ¬ (nb : Int) < (pb : Int) := by omega
              have hc2 : (pb : Int) ≤ (nb : Int) := by omega
              have hcb : decide ((nb : Int) < (pb : Int)) = false := decide_eq_false hc
              have hnq : ¬ (4294967296 : Int) ≤ (qb : Int) := by omega
              repeat (go_not_at_region 28; first | rw [if_pos hn] | rw [if_neg hnq] | rw [if_neg hc] | rw [if_pos hc2] | rw [hcb] | go_values | go_skip | go_guarded | go_step | go_upon | go_back)
              clear hc hn hc2 hcb hnq
              have hq2 := guess_done Gb.out (by omega) hy0h (by omega) (.inl (by rw [← HL2b.out, ← HPLb.out]; omega))
              rw [← HYs.out] at hq2
              have E28 := Lib.hid (wrapDiv R1 u0 qb Y hq2 (by omega) hYhi)
              have TD := two_digits (wd hi lo) y Y s u1 u0 un (by omega) HW.out.Yeq (by have e1 := HW.out.eq; have e2 := hs'.out; unfold wd; rw [e1, e2]; exact words_eq un u1 u0) hu0h
              rw [← HQ1.out, ← HR1.out, ← hq2] at TD
              have hQ2l : qb < 4294967296 := by rw [hq2]; exact quot_lt R1 u0 Y (by omega) hR1l hu0h
              clear hq2
              have E29 : Hid ((ka : Int) * 4294967296 + (qb : Int) = ((wd hi lo / y : Nat) : Int)) := Lib.hid (by rw [TD.1]; omega)
              have E30 : Hid (IntKind.u64.wrap (IntKind.u64.wrap (IntKind.u64.wrap ((R1 : Int) * 4294967296) + (u0 : Int)) - IntKind.u64.wrap ((qb : Int) * (Y : Int))) / 2 ^ s = ((wd hi lo % y : Nat) : Int)) := Lib.hid (by rw [E28.out, TD.2]; simp)
              clear TD E28
              repeat (first | go_values | go_skip | go_guarded | go_step | go_upon | go_back)
              rw [E29.out, E30.out]
              go_ret2
              exact ⟨rfl, Below.refl _ _⟩
      · have hb' : ¬ (4294967296 : Int) ≤ (sa : Int) := by omega
        repeat (first | rw [if_neg hn] | rw [if_neg hb'] | go_values | go_skip | go_guarded | go_step | go_upon | go_back)
        go_roundw
        case rel => exact ⟨ka, sa, rfl, rfl, HG2a, by omega, by omega, by first | rfl | simp⟩
        case measure => have := hkla.out; simp [intOf]; omega
    · have hn : (qa : Int) < 4294967296 := by omega
      obtain ⟨ma, hma, hmla⟩ : ∃ m : Nat, (4294967296 : Int) * (ra : Int) = (m : Int) ∧ m = ra * 4294967296 := ⟨ra * 4294967296, by omega, rfl⟩
      obtain ⟨na, hm2a, hml2a⟩ : ∃ m2 : Nat, (ma : Int) + (u1 : Int) = (m2 : Int) ∧ m2 = ra * 4294967296 + u1 := ⟨ma + u1, by omega, by omega⟩
      obtain ⟨pa, hpa, hpla⟩ : ∃ p0 : Nat, (qa : Int) * (y0 : Int) = (p0 : Int) ∧ p0 = qa * y0 := ⟨qa * y0, rfl, rfl⟩
      have hpba : pa < 18446744073709551616 := by
        have h5 : qa * y0 ≤ 4294967295 * 4294967295 := Nat.mul_le_mul (by omega) (by omega)
        rw [hpla]
        exact Nat.lt_of_le_of_lt h5 (by omega)
      have hmba : ma < 18446744073709551616 := by omega
      have hm2ba : na < 18446744073709551616 := by omega
      have HL2a := Lib.hid hml2a
      have HPLa := Lib.hid hpla
      clear hmla hml2a hpla
      by_cases hcmpa : na < pa
      · have hc : (na : Int) < (pa : Int) := by omega
        obtain ⟨hq1a, G2a⟩ := guess_less Ga.out (by omega) hu1h (by have := HYs.out; omega) (.inr (by rw [← HL2a.out, ← HPLa.out]; exact hcmpa))
        obtain ⟨ka, hka⟩ : ∃ k, k = qa - 1 := ⟨_, rfl⟩
        obtain ⟨sa, hra⟩ : ∃ r', r' = ra + y1 := ⟨_, rfl⟩
        rw [← hka, ← hra] at G2a
        have hqka : (qa : Int) - 1 = (ka : Int) := by omega
        have hrka : (ra : Int) + (y1 : Int) = (sa : Int) := by omega
        have hkla : Hid (ka + 1 = qa) := Lib.hid (by omega)
        have hkta : ka ≤ 4294967296 := by omega
        have HG2a := Lib.hid G2a
        clear hka hra G2a
        by_cases hbra : 4294967296 ≤ sa
        · have hb' : (4294967296 : Int) ≤ (sa : Int) := by omega
          repeat (go_not_at_region 21; first | rw [if_pos hn] | rw [if_pos hc] | rw [if_pos hb'] | go_values | go_skip | go_guarded | go_step | go_upon | go_back)
          clear hb'
          have hq1 := guess_done HG2a.out (by omega) hy0h hkta (.inr hbra)
          rw [← HYs.out] at hq1
          have E21 := Lib.hid (wrapDiv un u1 ka Y hq1 (by omega) hYhi)
          obtain ⟨R1, hR1e⟩ : ∃ R, R = (un * 4294967296 + u1) % Y := ⟨_, rfl⟩
          have hR1l : R1 < Y := by rw [hR1e]; exact Nat.mod_lt _ (by omega)
          rw [← hR1e] at E21
          have HR1 := Lib.hid hR1e
          have HQ1 := Lib.hid hq1
          have hQ1l : ka < 4294967296 := by rw [hq1]; exact quot_lt un u1 Y (by omega) hunY hu1h
          clear hq1 hR1e
          repeat (go_not_at_region 22; first | go_values | go_skip | go_guarded | go_step | go_upon | go_back)
          rw [E21.out]
          have G0 := guess_start R1 u0 y1 y0 (by omega) hu0h
          have hqt := guess_top R1 y1 y0 hy1l hy0h (by have := HYs.out; omega)
          have D1 : (R1 : Int) / (y1 : Int) = ((R1 / y1 : Nat) : Int) := rfl
          have D2 : (R1 : Int).tdiv (y1 : Int) = ((R1 / y1 : Nat) : Int) := rfl
          have hrl : R1 % y1 < y1 := Nat.mod_lt _ (by omega)
          generalize R1 / y1 = qs at *
          generalize R1 % y1 = rs at *
          have D3 : (qs : Int) * (y1 : Int) = ((qs * y1 : Nat) : Int) := rfl
          have hqy : qs * y1 + rs = R1 := G0.eq
          obtain ⟨p, hp⟩ : ∃ p, p = qs * y1 := ⟨_, rfl⟩
          rw [← hp] at D3 hqy
          have D4 : (R1 : Int) - (p : Int) = (rs : Int) := by omega
          have G0' := Lib.hid G0
          clear hp G0
          go_upto_region 24 with (fail)
          clear D1 D2 D3 D4 hqy
          obtain ⟨wc, hwc⟩ : ∃ x, x = wr := ⟨_, rfl⟩
          go_loopw [18, 16] (fun a b wr => ∃ q r : Nat, a = .int .u64 q ∧ b = .int .u64 r ∧ Hid (Guess R1 u0 y1 y0 q r) ∧ q ≤ 4294967297 ∧ r < 4294967296 ∧ wr = wc) (fun a _ _ => (intOf a).toNat)
          case atStart => exact ⟨qs, rs, rfl, rfl, G0', hqt, by omega, hwc.symm⟩
          case round =>
            clear hqt hrl G0'
            obtain ⟨qb, rb, rfl, rfl, Gb, hqtb, hrlb, rfl⟩ := hrel
            subst hwc
            by_cases hbigb : 4294967296 ≤ qb
            · have hn : ¬ ((qb : Int) < 4294967296) := by omega
              obtain ⟨hq1b, G2b⟩ := guess_less Gb.out (by omega) hu0h (by have := HYs.out; omega) (.inl hbigb)
              obtain ⟨kb, hkb⟩ : ∃ k, k = qb - 1 := ⟨_, rfl⟩
              obtain ⟨sb, hrb⟩ : ∃ r', r' = rb + y1 := ⟨_, rfl⟩
              rw [← hkb, ← hrb] at G2b
              have hqkb : (qb : Int) - 1 = (kb : Int) := by omega
              have hrkb : (rb : Int) + (y1 : Int) = (sb : Int) := by omega
              have hklb : Hid (kb + 1 = qb) := Lib.hid (by omega)
              have hktb : kb ≤ 4294967296 := by omega
              have HG2b := Lib.hid G2b
              clear hkb hrb G2b
              by_cases hbrb : 4294967296 ≤ sb
              · have hb' : (4294967296 : Int) ≤ (sb : Int) := by omega
                repeat (go_not_at_region 28; first | rw [if_neg hn] | rw [if_pos hb'] | go_values | go_skip | go_guarded | go_step | go_upon | go_back)
                clear hb'
                have hq2 := guess_done HG2b.out (by omega) hy0h hktb (.inr hbrb)
                rw [← HYs.out] at hq2
                have E28 := Lib.hid (wrapDiv R1 u0 kb Y hq2 (by omega) hYhi)
                have TD := two_digits (wd hi lo) y Y s u1 u0 un (by omega) HW.out.Yeq (by have e1 := HW.out.eq; have e2 := hs'.out; unfold wd; rw [e1, e2]; exact words_eq un u1 u0) hu0h
                rw [← HQ1.out, ← HR1.out, ← hq2] at TD
                have hQ2l : kb < 4294967296 := by rw [hq2]; exact quot_lt R1 u0 Y (by omega) hR1l hu0h
                clear hq2
                have E29 : Hid ((ka : Int) * 4294967296 + (kb : Int) = ((wd hi lo / y : Nat) : Int)) := Lib.hid (by rw [TD.1]; omega)
                have E30 : Hid (IntKind.u64.wrap (IntKind.u64.wrap (IntKind.u64.wrap ((R1 : Int) * 4294967296) + (u0 : Int)) - IntKind.u64.wrap ((kb : Int) * (Y : Int))) / 2 ^ s = ((wd hi lo % y : Nat) : Int)) := Lib.hid (by rw [E28.out, TD.2]; simp)
                clear TD E28
                repeat (first | go_values | go_skip | go_guarded | go_step | go_upon | go_back)
                rw [E29.out, E30.out]
                go_ret2
                exact ⟨rfl, Below.refl _ _⟩
              · have hb' : ¬ (4294967296 : Int) ≤ (sb : Int) := by omega
                repeat (first | rw [if_neg hn] | rw [if_neg hb'] | go_values | go_skip | go_guarded | go_step | go_upon | go_back)
                go_roundw
                case rel => exact ⟨kb, sb, rfl, rfl, HG2b, by omega, by omega, by first | rfl | simp⟩
                case measure => have := hklb.out; simp [intOf]; omega
            · have hn : (qb : Int) < 4294967296 := by omega
              obtain ⟨mb, hmb, hmlb⟩ : ∃ m : Nat, (4294967296 : Int) * (rb : Int) = (m : Int) ∧ m = rb * 4294967296 := ⟨rb * 4294967296, by omega, rfl⟩
              obtain ⟨nb, hm2b, hml2b⟩ : ∃ m2 : Nat, (mb : Int) + (u0 : Int) = (m2 : Int) ∧ m2 = rb * 4294967296 + u0 := ⟨mb + u0, by omega, by omega⟩
              obtain ⟨pb, hpb, hplb⟩ : ∃ p0 : Nat, (qb : Int) * (y0 : Int) = (p0 : Int) ∧ p0 = qb * y0 := ⟨qb * y0, rfl, rfl⟩
              have hpbb : pb < 18446744073709551616 := by
                have h5 : qb * y0 ≤ 4294967295 * 4294967295 := Nat.mul_le_mul (by omega) (by omega)
                rw [hplb]
                exact Nat.lt_of_le_of_lt h5 (by omega)
              have hmbb : mb < 18446744073709551616 := by omega
              have hm2bb : nb < 18446744073709551616 := by omega
              have HL2b := Lib.hid hml2b
              have HPLb := Lib.hid hplb
              clear hmlb hml2b hplb
              by_cases hcmpb : nb < pb
              · have hc : (nb : Int) < (pb : Int) := by omega
                obtain ⟨hq1b, G2b⟩ := guess_less Gb.out (by omega) hu0h (by have := HYs.out; omega) (.inr (by rw [← HL2b.out, ← HPLb.out]; exact hcmpb))
                obtain ⟨kb, hkb⟩ : ∃ k, k = qb - 1 := ⟨_, rfl⟩
                obtain ⟨sb, hrb⟩ : ∃ r', r' = rb + y1 := ⟨_, rfl⟩
                rw [← hkb, ← hrb] at G2b
                have hqkb : (qb : Int) - 1 = (kb : Int) := by omega
                have hrkb : (rb : Int) + (y1 : Int) = (sb : Int) := by omega
                have hklb : Hid (kb + 1 = qb) := Lib.hid (by omega)
                have hktb : kb ≤ 4294967296 := by omega
                have HG2b := Lib.hid G2b
                clear hkb hrb G2b
                by_cases hbrb : 4294967296 ≤ sb
                · have hb' : (4294967296 : Int) ≤ (sb : Int) := by omega
                  repeat (go_not_at_region 28; first | rw [if_pos hn] | rw [if_pos hc] | rw [if_pos hb'] | go_values | go_skip | go_guarded | go_step | go_upon | go_back)
                  clear hb'
                  have hq2 := guess_done HG2b.out (by omega) hy0h hktb (.inr hbrb)
                  rw [← HYs.out] at hq2
                  have E28 := Lib.hid (wrapDiv R1 u0 kb Y hq2 (by omega) hYhi)
                  have TD := two_digits (wd hi lo) y Y s u1 u0 un (by omega) HW.out.Yeq (by have e1 := HW.out.eq; have e2 := hs'.out; unfold wd; rw [e1, e2]; exact words_eq un u1 u0) hu0h
                  rw [← HQ1.out, ← HR1.out, ← hq2] at TD
                  have hQ2l : kb < 4294967296 := by rw [hq2]; exact quot_lt R1 u0 Y (by omega) hR1l hu0h
                  clear hq2
                  have E29 : Hid ((ka : Int) * 4294967296 + (kb : Int) = ((wd hi lo / y : Nat) : Int)) := Lib.hid (by rw [TD.1]; omega)
                  have E30 : Hid (IntKind.u64.wrap (IntKind.u64.wrap (IntKind.u64.wrap ((R1 : Int) * 4294967296) + (u0 : Int)) - IntKind.u64.wrap ((kb : Int) * (Y : Int))) / 2 ^ s = ((wd hi lo % y : Nat) : Int)) := Lib.hid (by rw [E28.out, TD.2]; simp)
                  clear TD E28
                  repeat (first | go_values | go_skip | go_guarded | go_step | go_upon | go_back)
                  rw [E29.out, E30.out]
                  go_ret2
                  exact ⟨rfl, Below.refl _ _⟩
                · have hb' : ¬ (4294967296 : Int) ≤ (sb : Int) := by omega
                  repeat (first | rw [if_pos hn] | rw [if_pos hc] | rw [if_neg hb'] | go_values | go_skip | go_guarded | go_step | go_upon | go_back)
                  go_roundw
                  case rel => exact ⟨kb, sb, rfl, rfl, HG2b, by omega, by omega, by first | rfl | simp⟩
                  case measure => have := hklb.out; simp [intOf]; omega
              · have hc : ¬ (nb : Int) < (pb : Int) := by omega
                have hc2 : (pb : Int) ≤ (nb : Int) := by omega
                have hcb : decide ((nb : Int) < (pb : Int)) = false := decide_eq_false hc
                have hnq : ¬ (4294967296 : Int) ≤ (qb : Int) := by omega
                repeat (go_not_at_region 28; first | rw [if_pos hn] | rw [if_neg hnq] | rw [if_neg hc] | rw [if_pos hc2] | rw [hcb] | go_values | go_skip | go_guarded | go_step | go_upon | go_back)
                clear hc hn hc2 hcb hnq
                have hq2 := guess_done Gb.out (by omega) hy0h (by omega) (.inl (by rw [← HL2b.out, ← HPLb.out]; omega))
                rw [← HYs.out] at hq2
                have E28 := Lib.hid (wrapDiv R1 u0 qb Y hq2 (by omega) hYhi)
                have TD := two_digits (wd hi lo) y Y s u1 u0 un (by omega) HW.out.Yeq (by have e1 := HW.out.eq; have e2 := hs'.out; unfold wd; rw [e1, e2]; exact words_eq un u1 u0) hu0h
                rw [← HQ1.out, ← HR1.out, ← hq2] at TD
                have hQ2l : qb < 4294967296 := by rw [hq2]; exact quot_lt R1 u0 Y (by omega) hR1l hu0h
                clear hq2
                have E29 : Hid ((ka : Int) * 4294967296 + (qb : Int) = ((wd hi lo / y : Nat) : Int)) := Lib.hid (by rw [TD.1]; omega)
                have E30 : Hid (IntKind.u64.wrap (IntKind.u64.wrap (IntKind.u64.wrap ((R1 : Int) * 4294967296) + (u0 : Int)) - IntKind.u64.wrap ((qb : Int) * (Y : Int))) / 2 ^ s = ((wd hi lo % y : Nat) : Int)) := Lib.hid (by rw [E28.out, TD.2]; simp)
                clear TD E28
                repeat (first | go_values | go_skip | go_guarded | go_step | go_upon | go_back)
                rw [E29.out, E30.out]
                go_ret2
                exact ⟨rfl, Below.refl _ _⟩
        · have hb' : ¬ (4294967296 : Int) ≤ (sa : Int) := by omega
          repeat (first | rw [if_pos hn] | rw [if_pos hc] | rw [if_neg hb'] | go_values | go_skip | go_guarded | go_step | go_upon | go_back)
          go_roundw
          case rel => exact ⟨ka, sa, rfl, rfl, HG2a, by omega, by omega, by first | rfl | simp⟩
          case measure => have := hkla.out; simp [intOf]; omega
      · have hc : ¬ (na : Int) < (pa : Int) := by omega
        have hc2 : (pa : Int) ≤ (na : Int) := by omega
        have hcb : decide ((na : Int) < (pa : Int)) = false := decide_eq_false hc
        have hnq : ¬ (4294967296 : Int) ≤ (qa : Int) := by omega
        repeat (go_not_at_region 21; first | rw [if_pos hn] | rw [if_neg hnq] | rw [if_neg hc] | rw [if_pos hc2] | rw [hcb] | go_values | go_skip | go_guarded | go_step | go_upon | go_back)
        clear hc hn hc2 hcb hnq
        have hq1 := guess_done Ga.out (by omega) hy0h (by omega) (.inl (by rw [← HL2a.out, ← HPLa.out]; omega))
        rw [← HYs.out] at hq1
        have E21 := Lib.hid (wrapDiv un u1 qa Y hq1 (by omega) hYhi)
        obtain ⟨R1, hR1e⟩ : ∃ R, R = (un * 4294967296 + u1) % Y := ⟨_, rfl⟩
        have hR1l : R1 < Y := by rw [hR1e]; exact Nat.mod_lt _ (by omega)
        rw [← hR1e] at E21
        have HR1 := Lib.hid hR1e
        have HQ1 := Lib.hid hq1
        have hQ1l : qa < 4294967296 := by rw [hq1]; exact quot_lt un u1 Y (by omega) hunY hu1h
        clear hq1 hR1e
        repeat (go_not_at_region 22; first | go_values | go_skip | go_guarded | go_step | go_upon | go_back)
        rw [E21.out]
        have G0 := guess_start R1 u0 y1 y0 (by omega) hu0h
        have hqt := guess_top R1 y1 y0 hy1l hy0h (by have := HYs.out; omega)
        have D1 : (R1 : Int) / (y1 : Int) = ((R1 / y1 : Nat) : Int) := rfl
        have D2 : (R1 : Int).tdiv (y1 : Int) = ((R1 / y1 : Nat) : Int) := rfl
        have hrl : R1 % y1 < y1 := Nat.mod_lt _ (by omega)
        generalize R1 / y1 = qs at *
        generalize R1 % y1 = rs at *
        have D3 : (qs : Int) * (y1 : Int) = ((qs * y1 : Nat) : Int) := rfl
        have hqy : qs * y1 + rs = R1 := G0.eq
        obtain ⟨p, hp⟩ : ∃ p, p = qs * y1 := ⟨_, rfl⟩
        rw [← hp] at D3 hqy
        have D4 : (R1 : Int) - (p : Int) = (rs : Int) := by omega
        have G0' := Lib.hid G0
        clear hp G0
        go_upto_region 24 with (fail)
        clear D1 D2 D3 D4 hqy
        obtain ⟨wc, hwc⟩ : ∃ x, x = wr := ⟨_, rfl⟩
        go_loopw [18, 16] (fun a b wr => ∃ q r : Nat, a = .int .u64 q ∧ b = .int .u64 r ∧ Hid (Guess R1 u0 y1 y0 q r) ∧ q ≤ 4294967297 ∧ r < 4294967296 ∧ wr = wc) (fun a _ _ => (intOf a).toNat)
        case atStart => exact ⟨qs, rs, rfl, rfl, G0', hqt, by omega, hwc.symm⟩
        case round =>
          clear hqt hrl G0'
          obtain ⟨qb, rb, rfl, rfl, Gb, hqtb, hrlb, rfl⟩ := hrel
          subst hwc
          by_cases hbigb : 4294967296 ≤ qb
          · have hn : ¬ ((qb : Int) < 4294967296) := by omega
            obtain ⟨hq1b, G2b⟩ := guess_less Gb.out (by omega) hu0h (by have := HYs.out; omega) (.inl hbigb)
            obtain ⟨kb, hkb⟩ : ∃ k, k = qb - 1 := ⟨_, rfl⟩
            obtain ⟨sb, hrb⟩ : ∃ r', r' = rb + y1 := ⟨_, rfl⟩
            rw [← hkb, ← hrb] at G2b
            have hqkb : (qb : Int) - 1 = (kb : Int) := by omega
            have hrkb : (rb : Int) + (y1 : Int) = (sb : Int) := by omega
            have hklb : Hid (kb + 1 = qb) := Lib.hid (by omega)
            have hktb : kb ≤ 4294967296 := by omega
            have HG2b := Lib.hid G2b
            clear hkb hrb G2b
            by_cases hbrb : 4294967296 ≤ sb
            · have hb' : (4294967296 : Int) ≤ (sb : Int) := by omega
              repeat (go_not_at_region 28; first | rw [if_neg hn] | rw [if_pos hb'] | go_values | go_skip | go_guarded | go_step | go_upon | go_back)
              clear hb'
              have hq2 := guess_done HG2b.out (by omega) hy0h hktb (.inr hbrb)
              rw [← HYs.out] at hq2
              have E28 := Lib.hid (wrapDiv R1 u0 kb Y hq2 (by omega) hYhi)
              have TD := two_digits (wd hi lo) y Y s u1 u0 un (by omega) HW.out.Yeq (by have e1 := HW.out.eq; have e2 := hs'.out; unfold wd; rw [e1, e2]; exact words_eq un u1 u0) hu0h
              rw [← HQ1.out, ← HR1.out, ← hq2] at TD
              have hQ2l : kb < 4294967296 := by rw [hq2]; exact quot_lt R1 u0 Y (by omega) hR1l hu0h
              clear hq2
              have E29 : Hid ((qa : Int) * 4294967296 + (kb : Int) = ((wd hi lo / y : Nat) : Int)) := Lib.hid (by rw [TD.1]; omega)
              have E30 : Hid (IntKind.u64.wrap (IntKind.u64.wrap (IntKind.u64.wrap ((R1 : Int) * 4294967296) + (u0 : Int)) - IntKind.u64.wrap ((kb : Int) * (Y : Int))) / 2 ^ s = ((wd hi lo % y : Nat) : Int)) := Lib.hid (by rw [E28.out, TD.2]; simp)
              clear TD E28
              repeat (first | go_values | go_skip | go_guarded | go_step | go_upon | go_back)
              rw [E29.out, E30.out]
              go_ret2
              exact ⟨rfl, Below.refl _ _⟩
            · have hb' : ¬ (4294967296 : Int) ≤ (sb : Int) := by omega
              repeat (first | rw [if_neg hn] | rw [if_neg hb'] | go_values | go_skip | go_guarded | go_step | go_upon | go_back)
              go_roundw
              case rel => exact ⟨kb, sb, rfl, rfl, HG2b, by omega, by omega, by first | rfl | simp⟩
              case measure => have := hklb.out; simp [intOf]; omega
          · have hn : (qb : Int) < 4294967296 := by omega
            obtain ⟨mb, hmb, hmlb⟩ : ∃ m : Nat, (4294967296 : Int) * (rb : Int) = (m : Int) ∧ m = rb * 4294967296 := ⟨rb * 4294967296, by omega, rfl⟩
            obtain ⟨nb, hm2b, hml2b⟩ : ∃ m2 : Nat, (mb : Int) + (u0 : Int) = (m2 : Int) ∧ m2 = rb * 4294967296 + u0 := ⟨mb + u0, by omega, by omega⟩
            obtain ⟨pb, hpb, hplb⟩ : ∃ p0 : Nat, (qb : Int) * (y0 : Int) = (p0 : Int) ∧ p0 = qb * y0 := ⟨qb * y0, rfl, rfl⟩
            have hpbb : pb < 18446744073709551616 := by
              have h5 : qb * y0 ≤ 4294967295 * 4294967295 := Nat.mul_le_mul (by omega) (by omega)
              rw [hplb]
              exact Nat.lt_of_le_of_lt h5 (by omega)
            have hmbb : mb < 18446744073709551616 := by omega
            have hm2bb : nb < 18446744073709551616 := by omega
            have HL2b := Lib.hid hml2b
            have HPLb := Lib.hid hplb
            clear hmlb hml2b hplb
            by_cases hcmpb : nb < pb
            · have hc : (nb : Int) < (pb : Int) := by omega
              obtain ⟨hq1b, G2b⟩ := guess_less Gb.out (by omega) hu0h (by have := HYs.out; omega) (.inr (by rw [← HL2b.out, ← HPLb.out]; exact hcmpb))
              obtain ⟨kb, hkb⟩ : ∃ k, k = qb - 1 := ⟨_, rfl⟩
              obtain ⟨sb, hrb⟩ : ∃ r', r' = rb + y1 := ⟨_, rfl⟩
              rw [← hkb, ← hrb] at G2b
              have hqkb : (qb : Int) - 1 = (kb : Int) := by omega
              have hrkb : (rb : Int) + (y1 : Int) = (sb : Int) := by omega
              have hklb : Hid (kb + 1 = qb) := Lib.hid (by omega)
              have hktb : kb ≤ 4294967296 := by omega
              have HG2b := Lib.hid G2b
              clear hkb hrb G2b
              by_cases hbrb : 4294967296 ≤ sb
              · have hb' : (4294967296 : Int) ≤ (sb : Int) := by omega
                repeat (go_not_at_region 28; first | rw [if_pos hn] | rw [if_pos hc] | rw [if_pos hb'] | go_values | go_skip | go_guarded | go_step | go_upon | go_back)
                clear hb'
                have hq2 := guess_done HG2b.out (by omega) hy0h hktb (.inr hbrb)
                rw [← HYs.out] at hq2
                have E28 := Lib.hid (wrapDiv R1 u0 kb Y hq2 (by omega) hYhi)
                have TD := two_digits (wd hi lo) y Y s u1 u0 un (by omega) HW.out.Yeq (by have e1 := HW.out.eq; have e2 := hs'.out; unfold wd; rw [e1, e2]; exact words_eq un u1 u0) hu0h
                rw [← HQ1.out, ← HR1.out, ← hq2] at TD
                have hQ2l : kb < 4294967296 := by rw [hq2]; exact quot_lt R1 u0 Y (by omega) hR1l hu0h
                clear hq2
                have E29 : Hid ((qa : Int) * 4294967296 + (kb : Int) = ((wd hi lo / y : Nat) : Int)) := Lib.hid (by rw [TD.1]; omega)
                have E30 : Hid (IntKind.u64.wrap (IntKind.u64.wrap (IntKind.u64.wrap ((R1 : Int) * 4294967296) + (u0 : Int)) - IntKind.u64.wrap ((kb : Int) * (Y : Int))) / 2 ^ s = ((wd hi lo % y : Nat) : Int)) := Lib.hid (by rw [E28.out, TD.2]; simp)
                clear TD E28
                repeat (first | go_values | go_skip | go_guarded | go_step | go_upon | go_back)
                rw [E29.out, E30.out]
                go_ret2
                exact ⟨rfl, Below.refl _ _⟩
              · have hb' : ¬ (4294967296 : Int) ≤ (sb : Int) := by omega
                repeat (first | rw [if_pos hn] | rw [if_pos hc] | rw [if_neg hb'] | go_values | go_skip | go_guarded | go_step | go_upon | go_back)
                go_roundw
                case rel => exact ⟨kb, sb, rfl, rfl, HG2b, by omega, by omega, by first | rfl | simp⟩
                case measure => have := hklb.out; simp [intOf]; omega
            · have hc : ¬ (nb : Int) < (pb : Int) := by omega
              have hc2 : (pb : Int) ≤ (nb : Int) := by omega
              have hcb : decide ((nb : Int) < (pb : Int)) = false := decide_eq_false hc
              have hnq : ¬ (4294967296 : Int) ≤ (qb : Int) := by omega
              repeat (go_not_at_region 28; first | rw [if_pos hn] | rw [if_neg hnq] | rw [if_neg hc] | rw [if_pos hc2] | rw [hcb] | go_values | go_skip | go_guarded | go_step | go_upon | go_back)
              clear hc hn hc2 hcb hnq
              have hq2 := guess_done Gb.out (by omega) hy0h (by omega) (.inl (by rw [← HL2b.out, ← HPLb.out]; omega))
              rw [← HYs.out] at hq2
              have E28 := Lib.hid (wrapDiv R1 u0 qb Y hq2 (by omega) hYhi)
              have TD := two_digits (wd hi lo) y Y s u1 u0 un (by omega) HW.out.Yeq (by have e1 := HW.out.eq; have e2 := hs'.out; unfold wd; rw [e1, e2]; exact words_eq un u1 u0) hu0h
              rw [← HQ1.out, ← HR1.out, ← hq2] at TD
              have hQ2l : qb < 4294967296 := by rw [hq2]; exact quot_lt R1 u0 Y (by omega) hR1l hu0h
              clear hq2
              have E29 : Hid ((qa : Int) * 4294967296 + (qb : Int) = ((wd hi lo / y : Nat) : Int)) := Lib.hid (by rw [TD.1]; omega)
              have E30 : Hid (IntKind.u64.wrap (IntKind.u64.wrap (IntKind.u64.wrap ((R1 : Int) * 4294967296) + (u0 : Int)) - IntKind.u64.wrap ((qb : Int) * (Y : Int))) / 2 ^ s = ((wd hi lo % y : Nat) : Int)) := Lib.hid (by rw [E28.out, TD.2]; simp)
              clear TD E28
              repeat (first | go_values | go_skip | go_guarded | go_step | go_upon | go_back)
              rw [E29.out, E30.out]
              go_ret2
              exact ⟨rfl, Below.refl _ _⟩
end Go.Proofs.YtjniclalobggpaaDoor
