/-
  Joined texts: CivilW4 CivilW5 CivilW7 CivilR CivilW8 CivilW9. No statement is proved here.
-/
import Derived.Test.YthlgjbmkealjjaaGreatDoorCivA
import Derived.Deep.RegionHeld3
import Derived.Lib.ConvBytes
namespace Go.Proofs.YthlgjbmkealjjaaGreatDoor
open Go.RowKit
set_option linter.unusedVariables false

theorem results_tmp4 {fn : Func} {t u v x : Tmp} (h : fn.results = #[.tmp t, .tmp u, .tmp v, .tmp x]) (tmps : Array Value) (P : Program) (w : World) :
    (results fn tmps).run P w = .ok (.tuple #[tmps.getD t undef, tmps.getD u undef, tmps.getD v undef, tmps.getD x undef]) w := by
  simp [results, h]

theorem ret_four {a b c a' b' c' : Int} {x : Value} (h1 : a = a') (h2 : b = b') (h3 : c = c') : Ending.returned (.tuple #[.int .i64 a, .int .i64 b, .int .i64 c, x]) = Ending.returned (.tuple #[.int .i64 a', .int .i64 b', .int .i64 c', x]) := by rw [h1, h2, h3]

theorem Split_out (d : Int) (w : World) (h : d < -719162 ∨ 2932896 < d) :
    Calls Tryz.prog 87 #[.int .i64 d] w fun e w' => e = .returned (.tuple #[.int .i64 0, .int .i64 0, .int .i64 0, .int .i64 6]) ∧ w = w' := by
  rcases h with h | h
  all_goals
    go_enter Tryz.func87, Tryz.ntmps87
    go_wp2
    refine bodyPost_ret (results_tmp4 rfl _ _ _) rfl ?_
    exact ⟨rfl, rfl⟩

/-- What the parts of the walk are. -/
theorem split_steps (d : Int) (h0 : -719162 ≤ d) (h1 : d ≤ 2932896) : ∃ n e o Y u mp dd : Nat, d = (n : Int) - 719468 ∧ 306 ≤ n ∧ n ≤ 3652364 ∧ (n : Int) / 146097 = e ∧ (n : Int) % 146097 = o ∧ o < 146097 ∧ e ≤ 24 ∧
    ((o : Int) - (o : Int) / 1460 + (o : Int) / 36524 - (o : Int) / 146096) / 365 = Y ∧ Y < 400 ∧ (o : Int) - (365 * (Y : Int) + (Y : Int) / 4 - (Y : Int) / 100) = u ∧ u ≤ 365 ∧ (5 * (u : Int) + 2) / 153 = mp ∧ mp ≤ 11 ∧
    (u : Int) - (153 * (mp : Int) + 2) / 5 + 1 = dd ∧ dd ≤ 31 ∧
    (mp ≤ 9 → Valid (400 * e + Y) (mp + 3) dd ∧ dayOf (400 * e + Y) (mp + 3) dd = d) ∧ (9 < mp → Valid (400 * e + Y + 1) (mp - 9) dd ∧ dayOf (400 * e + Y + 1) (mp - 9) dd = d) := by
  obtain ⟨n, hn⟩ := Int.eq_ofNat_of_zero_le (show 0 ≤ d + 719468 by omega)
  obtain ⟨c1, Y, u, hY, hY4, ho, hu⟩ := era_year (n % 146097) (Nat.mod_lt _ (by decide))
  have hq := div_ord Y
  have hl := split_law n (n / 146097) Y u ((5 * u + 2) / 153) (u - (153 * ((5 * u + 2) / 153) + 2) / 5 + 1) (by omega) (by omega) (by rw [← ho]; omega) hY4 (by rw [← ho]; exact Nat.mod_lt _ (by decide)) hu rfl rfl
  obtain ⟨l1, l2, l3, l4⟩ := hl
  have hu5 : u ≤ 365 := by split at hu <;> omega
  refine ⟨n, n / 146097, n % 146097, Y, u, (5 * u + 2) / 153, u - (153 * ((5 * u + 2) / 153) + 2) / 5 + 1, by omega, by omega, by omega, by omega, by omega, by omega, by omega, ?_, hY4, ?_, hu5, by omega, l1, ?_, by omega, ?_, ?_⟩
  · rw [← hY]
    generalize n % 146097 = o at c1
    omega
  · generalize n % 146097 = o at ho
    omega
  · generalize (5 * u + 2) / 153 = mp at l2
    omega
  · intro h; have := l3 h; rw [show d = (n : Int) - 719468 by omega]; exact this
  · intro h; have := l4 h; rw [show d = (n : Int) - 719468 by omega]; exact this

set_option maxRecDepth 100000 in
set_option maxHeartbeats 4000000 in
theorem Split_in (d : Int) (w : World) (h0 : -719162 ≤ d) (h1 : d ≤ 2932896) :
    Calls Tryz.prog 87 #[.int .i64 d] w fun e w' => (∃ y m a : Nat, e = .returned (.tuple #[.int .i64 y, .int .i64 m, .int .i64 a, .int .i64 0]) ∧ Valid y m a ∧ dayOf y m a = d) ∧ w = w' := by
  obtain ⟨n, e, o, Y, u, mp, dd, rfl, hn0, hn1, e1, e2, ho, he, e3, hY, e4, hu, e5, hmp, e6, hdd, l1, l2⟩ := split_steps d h0 h1
  have L1 := Lib.hid l1
  have L2 := Lib.hid l2
  clear l1 l2
  by_cases h9 : mp ≤ 9
  · obtain ⟨v1, v2⟩ := L1.out h9
    have V1 := Lib.hid v1
    have V2 := Lib.hid v2
    clear v1 v2 L1 L2
    go_enter Tryz.func87, Tryz.ntmps87
    go_wp2
    refine bodyPost_ret (results_tmp4 rfl _ _ _) rfl ?_
    exact ⟨⟨400 * e + Y, mp + 3, dd, rfl, V1.out, V2.out⟩, rfl⟩
  · obtain ⟨v1, v2⟩ := L2.out (by omega)
    have V1 := Lib.hid v1
    have V2 := Lib.hid v2
    clear v1 v2 L1 L2
    obtain ⟨k, rfl⟩ : ∃ k, mp = k + 10 := ⟨mp - 10, by omega⟩
    go_enter Tryz.func87, Tryz.ntmps87
    go_wp2
    refine bodyPost_ret (results_tmp4 rfl _ _ _) rfl ?_
    refine ⟨⟨400 * e + Y + 1, k + 10 - 9, dd, ret_four (by omega) (by omega) (by omega), V1.out, V2.out⟩, rfl⟩
end Go.Proofs.YthlgjbmkealjjaaGreatDoor

namespace Go.Proofs.YthlgjbmkealjjaaGreatDoor
open Go.RowKit
set_option linter.unusedVariables false

theorem refSplit_out (d : Int) (w : World) (h : d < -719162 ∨ 2932896 < d) :
    Calls Tryz.prog 48 #[.int .i64 d] w fun e w' => e = .returned (.tuple #[.int .i64 0, .int .i64 0, .int .i64 0, .int .i64 6]) ∧ w = w' := by
  go_enter Tryz.func48, Tryz.ntmps48
  go_wp2_with fail
  refine (Good_out d w h).mono ?_
  rintro e w' ⟨rfl, rfl⟩
  go_wp2
  refine bodyPost_ret (results_tmp4 rfl _ _ _) rfl ?_
  exact ⟨rfl, rfl⟩

theorem ahead_lt (n y : Nat) (h : y = n / 366 + 1) : ahead y ≤ n := by
  subst h
  unfold ahead
  simp only [Nat.add_sub_cancel]
  have h1 := Nat.div_add_mod n 366
  generalize n / 366 = q at *
  have h2 : q / 4 - q / 100 + q / 400 ≤ q := by omega
  omega
theorem ahead_top (n y : Nat) (hy : 1 ≤ y) (hn : n ≤ 3652058) (h : ahead y ≤ n) : y ≤ 9999 := by
  rcases Nat.lt_or_ge y 10000 with h1 | h1
  · omega
  · exfalso
    have e : ahead 10000 = 3652059 := by decide
    rcases Nat.lt_or_ge 10000 y with h2 | h2
    · have := ahead_mono (by omega) h2; omega
    · obtain rfl : y = 10000 := by omega
      omega

set_option maxRecDepth 100000 in
set_option maxHeartbeats 4000000 in
theorem refSplit_in (d : Int) (w : World) (h0 : -719162 ≤ d) (h1 : d ≤ 2932896) :
    Calls Tryz.prog 48 #[.int .i64 d] w fun e w' => (∃ y m a : Nat, e = .returned (.tuple #[.int .i64 y, .int .i64 m, .int .i64 a, .int .i64 0]) ∧ Valid y m a ∧ dayOf y m a = d) ∧ w = w' := by
  obtain ⟨n, hn⟩ := Int.eq_ofNat_of_zero_le (show 0 ≤ d + 719162 by omega)
  obtain rfl : d = (n : Int) - 719162 := by omega
  have hn2 : n ≤ 3652058 := by omega
  clear hn
  have A := Lib.hid fun y w (h : 1 ≤ y) (h1 : y ≤ 10000) => ahead_any y w h h1
  have D := Lib.hid fun y m w (h0 : 1 ≤ y) (h1 : y ≤ 9999) (h2 : 1 ≤ m) (h3 : m ≤ 12) => Days_any y m w h0 h1 h2 h3
  have T := Lib.hid fun y (hy : 1 ≤ y) (h : ahead y ≤ n) => ahead_top n y hy hn2 h
  have HA := Lib.hid (ahead_lt n (n / 366 + 1) rfl)
  go_enter Tryz.func48, Tryz.ntmps48
  go_wp2_with fail
  refine (Good_in _ w h0 h1).mono ?_
  rintro e w' ⟨rfl, rfl⟩
  go_wp2
  go_loop [7] (fun i => ∃ y : Nat, 1 ≤ y ∧ Hid (ahead y ≤ n) ∧ i = .int .i64 y) (fun i => 10000 - (intOf i).toNat)
  case atStart => exact ⟨n / 366 + 1, by omega, HA, by go_num⟩
  case round =>
    obtain ⟨y, hy1, hya, rfl⟩ := hrel
    have hy2 := T.out y hy1 hya.out
    have hsucc := Lib.hid (ahead_succ y hy1)
    have P := Lib.hid (A.out (y + 1) w (by omega) (by omega))
    have PY := Lib.hid (A.out y w hy1 (by omega))
    generalize hz : ahead (y + 1) = z at P hsucc
    have HZ := Lib.hid hz
    clear hz
    go_wp2_with fail
    refine P.out.mono ?_
    rintro e w' ⟨rfl, rfl⟩
    by_cases hlt : z ≤ n
    · go_wp2
      go_round
      case rel => exact ⟨y + 1, by omega, by rw [HZ.out]; exact hlt, by go_num⟩
      case measure => simp [intOf]; omega
    · go_wp2_with fail
      refine PY.out.mono ?_
      rintro e w' ⟨rfl, rfl⟩
      obtain ⟨r, hr, hrn⟩ : ∃ r : Nat, (n : Int) - (ahead y : Int) = r ∧ n = ahead y + r := ⟨n - ahead y, by have := hya.out; omega, by have := hya.out; omega⟩
      have HR := Lib.hid hrn
      have hrl : r < 365 + lp y := by have := hsucc.out; omega
      have hpl := lp_le y
      have HRL := Lib.hid hrl
      have hr366 : r ≤ 365 := by omega
      clear hrl hpl hrn hlt
      clear PY hsucc HZ P T A
      generalize hya2 : ahead y = a at hr
      have HYA2 := Lib.hid hya2
      clear hya2
      go_wp2
      go_loop [6, 8] (fun t i => ∃ s m : Nat, 1 ≤ m ∧ m ≤ 12 ∧ s ≤ 365 ∧ Hid (mon y m + s = r) ∧ t = .int .i64 s ∧ i = .int .i64 m) (fun t _ => (intOf t).toNat)
      case atStart => exact ⟨r, 1, by omega, by omega, hr366, by rw [mon_one]; exact Lib.hid (by omega), rfl, rfl⟩
      case round =>
        obtain ⟨s, m, hm1, hm2, hs, HM, rfl, rfl⟩ := hrel
        have E := Lib.hid (D.out y m w hy1 hy2 hm1 hm2)
        have hq := dim_le y m
        have HQ : Hid (∀ q, dim y m = q → (q ≤ s → m < 12 ∧ mon y (m + 1) + (s - q) = r) ∧ (s < q → Valid y m (s + 1) ∧ dayOf y m (s + 1) = (n : Int) - 719162)) := Lib.hid (by
          intro q e
          refine ⟨fun h => ?_, fun h => ⟨⟨hy1, hy2, hm1, hm2, by omega, by omega⟩, ?_⟩⟩
          · have h1 := mon_succ y m hm1
            have h2 := HM.out
            refine ⟨?_, by omega⟩
            rcases Nat.lt_or_ge m 12 with h3 | h3
            · exact h3
            · obtain rfl : m = 12 := by omega
              have h4 : mon y (12 + 1) = 365 + lp y := (mons y).2.2.2.2.2.2.2.2.2.2.2.2
              have h5 := HRL.out
              omega
          · unfold dayOf
            have h2 := HM.out
            have h3 := HR.out
            omega)
        generalize dim y m = q at E hq HQ
        have HQ1 := Lib.hid (HQ.out q rfl)
        clear HQ
        go_wp2_with fail
        refine E.out.mono ?_
        rintro e w' ⟨rfl, rfl⟩
        by_cases hlt2 : q ≤ s
        · obtain ⟨g1, g2⟩ := HQ1.out.1 hlt2
          have G2 := Lib.hid g2
          clear g2 HQ1
          go_wp2_with fail
          refine E.out.mono ?_
          rintro e w' ⟨rfl, rfl⟩
          go_wp2
          go_round
          case rel => exact ⟨s - q, m + 1, by omega, by omega, by omega, G2, by go_num, by go_num⟩
          case measure => simp [intOf]; omega
        · have G := Lib.hid (HQ1.out.2 (by omega))
          clear HQ1
          go_wp2
          refine bodyPost_ret (results_tmp4 rfl _ _ _) rfl ?_
          exact ⟨⟨y, m, s + 1, rfl, G.out.1, G.out.2⟩, rfl⟩
end Go.Proofs.YthlgjbmkealjjaaGreatDoor

namespace Go.Proofs.YthlgjbmkealjjaaGreatDoor
open Go.RowKit
set_option linter.unusedVariables false
set_option linter.unusedSimpArgs false

def dig (v : Nat) : UInt8 := UInt8.ofNat (48 + v % 10)
theorem dig_toNat (v : Nat) : (dig v).toNat = 48 + v % 10 := u8_ofNat _ (by omega)
theorem dig_cell (v : Nat) : #[.int .u8 (48 + (v : Int) % 10)] = (([dig v]).map bv).toArray := by
  simp only [List.map, bv, dig_toNat]
  rfl
/-- A number's last digits. -/
def digs : Nat → Nat → List UInt8
  | 0, _ => []
  | k + 1, v => digs k (v / 10) ++ [dig v]
theorem digs_length (k v : Nat) : (digs k v).length = k := by
  induction k generalizing v with
  | zero => rfl
  | succ k ih => simp [digs, ih]
def txt (y m d : Nat) : List UInt8 := digs 4 y ++ [45] ++ digs 2 m ++ [45] ++ digs 2 d
theorem txt_length (y m d : Nat) : (txt y m d).length = 10 := by simp [txt, digs_length]
theorem digs_four (y : Nat) : digs 2 (y / 100) ++ digs 2 (y % 100) = digs 4 y := by
  have e1 : dig (y % 100 / 10) = dig (y / 10) := by unfold dig; rw [show y % 100 / 10 % 10 = y / 10 % 10 by omega]
  have e2 : dig (y % 100) = dig y := by unfold dig; rw [show y % 100 % 10 = y % 10 by omega]
  have e3 : y / 10 / 10 = y / 100 := by omega
  simp only [digs, List.nil_append, e1, e2, e3]
  simp

set_option maxHeartbeats 2000000 in
theorem c_digits_any (k : Nat) : ∀ (v base : Nat) (w : World) (u : Value) (xs : List UInt8), v ≤ 9999 → k ≤ 3 → OwnB w base u xs → base ≤ w.heap.size → xs.length ≤ 100 →
    Calls Tryz.prog 88 #[u, .int .i64 v, .int .i64 (k + 1 : Nat)] w fun e w' => ∃ u', e = .returned u' ∧ OwnB w' base u' (xs ++ digs (k + 1) v) ∧ Below base w w' := by
  induction k with
  | zero =>
    intro v base w u xs hv _ hown hb hl
    obtain ⟨A, m, c, rfl, hm, hmc, _, hr, _⟩ := hown.form
    have hbyte := Lib.hid (dig_cell v)
    go_enter Tryz.func88, Tryz.ntmps88
    go_wp2_with (at_builtin; refine app_u8 rfl _ _ rfl base _ xs rfl (hown.alloc _) _ 1 1 _ rfl (RdB.lit w _ _ hbyte.out 1 rfl) ?c1 ?c2 ?_)
    case c1 => omega
    case c2 => exact Nat.le_trans hb (by simp)
    intro u' w' hv' hb' _
    go_wp2
    go_ret
    rw [show digs (0 + 1) v = [dig v] from rfl]
    exact ⟨u', rfl, hv', ((Below.refl _ _).alloc hb _).trans hb'⟩
  | succ k ih =>
    intro v base w u xs hv hk hown hb hl
    obtain ⟨A, m, c, rfl, hm, hmc, _, hr, _⟩ := hown.form
    have hbyte := Lib.hid (dig_cell v)
    have IH := Lib.hid (ih (v / 10) base w _ xs (by omega) (by omega) hown hb hl)
    have hdl := Lib.hid (digs_length (k + 1) (v / 10))
    have hds : Hid (digs (k + 1 + 1) v = digs (k + 1) (v / 10) ++ [dig v]) := Lib.hid rfl
    generalize digs (k + 1) (v / 10) = ds at IH hdl hds
    clear ih
    go_enter Tryz.func88, Tryz.ntmps88
    go_wp2_with fail
    refine IH.out.mono ?_
    rintro e w1 ⟨u1, rfl, hv1, hb1⟩
    have hl1 : (xs ++ ds).length + 1 ≤ 140737488355328 := by have := hdl.out; simp; omega
    go_wp2_with (at_builtin; refine app_u8 rfl _ _ rfl base _ (xs ++ ds) rfl (hv1.alloc _) _ 1 1 _ rfl (RdB.lit w1 _ _ hbyte.out 1 rfl) ?c1 ?c2 ?_)
    case c1 => exact hl1
    case c2 => exact Nat.le_trans hb (Nat.le_trans hb1.size (by simp))
    intro u' w' hv' hb' _
    go_wp2
    go_ret
    refine ⟨u', rfl, ?_, (hb1.alloc (Nat.le_trans hb hb1.size) _).trans hb'⟩
    rw [hds.out]
    first
      | exact hv'
      | (rw [← List.append_assoc]; exact hv')

set_option maxHeartbeats 2000000 in
theorem Text_out (d : Int) (w : World) (h : d < -719162 ∨ 2932896 < d) :
    Calls Tryz.prog 61 #[.int .i64 d] w fun e w' => e = .returned (.tuple #[.string ⟨#[]⟩, .int .i64 6]) ∧ Below w.heap.size w w' := by
  go_enter Tryz.func61, Tryz.ntmps61
  go_wp2_with fail
  refine (Split_out d w h).mono ?_
  rintro e w' ⟨rfl, rfl⟩
  go_wp2
  go_ret2
  exact ⟨rfl, Below.refl _ _⟩

/-- What a day's text is. -/
def Texts (d : Int) (e : Ending) : Prop := ∃ y m a : Nat, Valid y m a ∧ dayOf y m a = d ∧ e = .returned (.tuple #[.string ⟨(txt y m a).toArray⟩, .int .i64 0])

set_option maxHeartbeats 4000000 in
theorem Text_in (d : Int) (w : World) (h0 : -719162 ≤ d) (h1 : d ≤ 2932896) :
    Calls Tryz.prog 61 #[.int .i64 d] w fun e w' => Texts d e ∧ Below w.heap.size w w' := by
  go_enter Tryz.func61, Tryz.ntmps61
  go_wp2_with fail
  refine (Split_in d w h0 h1).mono ?_
  rintro e w' ⟨⟨y, m, a, rfl, hv, hd⟩, rfl⟩
  have HV := Lib.hid hv
  have HD := Lib.hid hd
  obtain ⟨v1, v2, v3, v4, v5, v6⟩ := hv
  have va : a ≤ 31 := Nat.le_trans v6 (dim_le y m).2
  clear hd v6
  have h4 := Lib.hid (digs_length 4 y)
  have h2 := Lib.hid (digs_length 2 m)
  have h2' := Lib.hid (digs_length 2 a)
  have D1 := Lib.hid (c_digits_any 3 y w.heap.size w _ [] (by omega) (by omega) (OwnB.nil w _) (Nat.le_refl _) (by simp))
  have D2 := Lib.hid fun w1 u xs (hu : OwnB w1 w.heap.size u xs) (hb : w.heap.size ≤ w1.heap.size) (hl : xs.length ≤ 100) => c_digits_any 1 m w.heap.size w1 u xs (by omega) (by omega) hu hb hl
  have D3 := Lib.hid fun w1 u xs (hu : OwnB w1 w.heap.size u xs) (hb : w.heap.size ≤ w1.heap.size) (hl : xs.length ≤ 100) => c_digits_any 1 a w.heap.size w1 u xs (by omega) (by omega) hu hb hl
  have HT : Hid (∀ xs, digs 4 y ++ [45] ++ digs 2 m ++ [45] ++ digs 2 a = xs → Texts d (.returned (.tuple #[.string ⟨xs.toArray⟩, .int .i64 0]))) := Lib.hid fun xs e => ⟨y, m, a, HV.out, HD.out, by rw [← e]; rfl⟩
  rw [List.nil_append] at D1
  generalize digs 4 y = p1 at h4 D1 HT
  generalize digs 2 m = p2 at h2 D2 HT
  generalize digs 2 a = p3 at h2' D3 HT
  go_wp2_with fail
  refine D1.out.mono ?_
  rintro e w1 ⟨u1, rfl, hv1, hb1⟩
  have hl1 : p1.length + 1 ≤ 140737488355328 := by have := h4.out; omega
  go_wp2_with (at_builtin; refine app_u8 rfl _ _ rfl w.heap.size _ p1 rfl (hv1.alloc _) _ 1 1 [45] rfl (RdB.lit w1 _ _ rfl 1 rfl) ?c1 ?c2 ?_)
  case c1 => exact hl1
  case c2 => exact Nat.le_trans hb1.size (by simp)
  intro u2 w2 hv2 hb2 _
  have hb02 := (hb1.alloc hb1.size _).trans hb2
  have hl2 : (p1 ++ [45]).length ≤ 100 := by have := h4.out; simp; omega
  go_wp2_with fail
  refine (D2.out w2 u2 (p1 ++ [45]) (by simpa using hv2) hb02.size hl2).mono ?_
  rintro e w3 ⟨u3, rfl, hv3, hb3⟩
  have hb03 := hb02.trans hb3
  have hl3 : (p1 ++ [45] ++ p2).length + 1 ≤ 140737488355328 := by have := h4.out; have := h2.out; simp; omega
  go_wp2_with (at_builtin; refine app_u8 rfl _ _ rfl w.heap.size _ (p1 ++ [45] ++ p2) rfl (hv3.alloc _) _ 1 1 [45] rfl (RdB.lit w3 _ _ rfl 1 rfl) ?c3 ?c4 ?_)
  case c3 => exact hl3
  case c4 => exact Nat.le_trans hb03.size (by simp)
  intro u4 w4 hv4 hb4 _
  have hb04 := (hb03.alloc hb03.size _).trans hb4
  have hl4 : (p1 ++ [45] ++ p2 ++ [45]).length ≤ 100 := by have := h4.out; have := h2.out; simp; omega
  go_wp2_with fail
  refine (D3.out w4 u4 (p1 ++ [45] ++ p2 ++ [45]) (by simpa using hv4) hb04.size hl4).mono ?_
  rintro e w5 ⟨u5, rfl, hv5, hb5⟩
  have hb05 := hb04.trans hb5
  obtain ⟨A, n, c, rfl, hm, hmc, _, hr, _⟩ := hv5.form
  have HTT := Lib.hid (HT.out (p1 ++ 45 :: (p2 ++ 45 :: p3)) (by simp))
  have k1 := hr.conv (P := Tryz.prog) (src := 86) (dst := 9) Tryz.underlying86 Tryz.underlying5 Tryz.underlying9 c
  go_wp2
  go_ret2
  exact ⟨HTT.out, hb05⟩

/-! ### The reference's text -/
theorem two_slices : ∀ a : Nat, a < 10 → (ByteArray.mk #[48, 49, 50, 51, 52, 53, 54, 55, 56, 57]).extract a (a + 1) = ⟨#[dig a]⟩ := by
  intro a h
  rcases (show a = 0 ∨ a = 1 ∨ a = 2 ∨ a = 3 ∨ a = 4 ∨ a = 5 ∨ a = 6 ∨ a = 7 ∨ a = 8 ∨ a = 9 by omega) with rfl | rfl | rfl | rfl | rfl | rfl | rfl | rfl | rfl | rfl <;> rfl
theorem two_slice (a : Nat) (h : a < 10) (I J : Int) (hI : I = a) (hJ : J = a + 1) (W : World) :
    (Instr.slice 9 (.string ⟨#[48, 49, 50, 51, 52, 53, 54, 55, 56, 57]⟩) (some (.int .i64 I)) (some (.int .i64 J)) none).run Tryz.prog W = .ok (.string ⟨#[dig a]⟩) W := by
  subst hI hJ
  rw [run_slice_string W 9 _ .i64 .i64 _ _ Tryz.underlying9 (by omega) (by omega) (by show (a : Int) + 1 ≤ ((10 : Nat) : Int); omega), Int.toNat_natCast, show ((a : Int) + 1).toNat = a + 1 by omega, two_slices a h]

theorem ret_str {a b : ByteArray} (h : a = b) : Ending.returned (.string a) = Ending.returned (.string b) := by rw [h]
theorem ret_pair {a b : ByteArray} {x : Value} (h : a = b) : Ending.returned (.tuple #[.string a, x]) = Ending.returned (.tuple #[.string b, x]) := by rw [h]
set_option maxHeartbeats 2000000 in
theorem two_any (n : Nat) (w : World) (h : n < 100) :
    Calls Tryz.prog 49 #[.int .i64 n] w fun e w' => e = .returned (.string ⟨(digs 2 n).toArray⟩) ∧ Below w.heap.size w w' := by
  obtain ⟨a, ha, ha9⟩ : ∃ a : Nat, (n : Int) / 10 = a ∧ a < 10 := ⟨n / 10, by omega, by omega⟩
  obtain ⟨b, hb, hb9⟩ : ∃ b : Nat, (n : Int) % 10 = b ∧ b < 10 := ⟨n % 10, by omega, by omega⟩
  have s1 := two_slice a ha9 ((n : Int) / 10) ((n : Int) / 10 + 1) ha (by omega)
  have s2 := two_slice b hb9 ((n : Int) % 10) ((n : Int) % 10 + 1) hb (by omega)
  have s3 := two_slice a ha9 (a : Int) ((a : Int) + 1) rfl rfl
  have s4 := two_slice b hb9 (b : Int) ((b : Int) + 1) rfl rfl
  have hd : digs 2 n = [dig a, dig b] := by
    simp only [digs, List.nil_append, dig]
    rw [show n / 10 % 10 = a % 10 by omega, show n % 10 = b % 10 by omega]
    rfl
  rw [hd]
  clear hd
  go_enter Tryz.func49, Tryz.ntmps49
  go_wp2
  go_quiet (fail)
  go_wp2
  go_ret
  refine ⟨ret_str (ByteArray.ext ?_), below_drewN (Below.refl _ _) nq⟩
  simp [ByteArray.data_append]

theorem digs_two (v : Nat) : ∃ a b, digs 2 v = [a, b] := ⟨_, _, rfl⟩
theorem refText_out (d : Int) (w : World) (h : d < -719162 ∨ 2932896 < d) :
    Calls Tryz.prog 25 #[.int .i64 d] w fun e w' => e = .returned (.tuple #[.string ⟨#[]⟩, .int .i64 6]) ∧ Below w.heap.size w w' := by
  go_enter Tryz.func25, Tryz.ntmps25
  go_wp2_with fail
  refine (refSplit_out d w h).mono ?_
  rintro e w' ⟨rfl, rfl⟩
  go_wp2
  go_ret2
  exact ⟨rfl, Below.refl _ _⟩

set_option maxHeartbeats 4000000 in
theorem refText_in (d : Int) (w : World) (h0 : -719162 ≤ d) (h1 : d ≤ 2932896) :
    Calls Tryz.prog 25 #[.int .i64 d] w fun e w' => Texts d e ∧ Below w.heap.size w w' := by
  go_enter Tryz.func25, Tryz.ntmps25
  go_wp2_with fail
  refine (refSplit_in d w h0 h1).mono ?_
  rintro e w' ⟨⟨y, m, a, rfl, hv, hd⟩, rfl⟩
  have HV := Lib.hid hv
  have HD := Lib.hid hd
  obtain ⟨v1, v2, v3, v4, v5, v6⟩ := hv
  have va : a ≤ 31 := Nat.le_trans v6 (dim_le y m).2
  clear hd v6
  have D1 := Lib.hid fun w => two_any (y / 100) w (by omega)
  have D2 := Lib.hid fun w => two_any (y % 100) w (by omega)
  have D3 := Lib.hid fun w => two_any m w (by omega)
  have D4 := Lib.hid fun w => two_any a w (by omega)
  have HT : Hid (∀ xs : ByteArray, xs.data.toList = digs 2 (y / 100) ++ digs 2 (y % 100) ++ [45] ++ digs 2 m ++ [45] ++ digs 2 a → Texts d (.returned (.tuple #[.string xs, .int .i64 0]))) := Lib.hid fun xs e => ⟨y, m, a, HV.out, HD.out, ret_pair (by
    apply ByteArray.ext
    rw [digs_four] at e
    rw [← Array.toArray_toList (xs := xs.data), e]
    rfl)⟩
  obtain ⟨a1, b1, e1⟩ := digs_two (y / 100)
  obtain ⟨a2, b2, e2⟩ := digs_two (y % 100)
  obtain ⟨a3, b3, e3⟩ := digs_two m
  obtain ⟨a4, b4, e4⟩ := digs_two a
  rw [e1] at D1 HT
  rw [e2] at D2 HT
  rw [e3] at D3 HT
  rw [e4] at D4 HT
  clear e1 e2 e3 e4
  go_wp2_with fail
  refine (D1.out w).mono ?_
  rintro e w1 ⟨rfl, hb1⟩
  go_wp2_with fail
  refine (D2.out w1).mono ?_
  rintro e w2 ⟨rfl, hb2⟩
  have hb02 := hb1.trans (hb2.mono hb1.size)
  go_wp2_with fail
  refine (D3.out w2).mono ?_
  rintro e w3 ⟨rfl, hb3⟩
  have hb03 := hb02.trans (hb3.mono hb02.size)
  go_wp2_with fail
  refine (D4.out w3).mono ?_
  rintro e w4 ⟨rfl, hb4⟩
  have hb04 := hb03.trans (hb4.mono hb03.size)
  go_wp2
  go_ret2
  exact ⟨HT.out _ (by simp [ByteArray.data_append]), hb04⟩
end Go.Proofs.YthlgjbmkealjjaaGreatDoor

namespace Go.Proofs.YthlgjbmkealjjaaGreatDoor
set_option linter.unusedVariables false
set_option linter.unusedSimpArgs false

instance (y m d : Nat) : Decidable (Valid y m d) := by unfold Valid; infer_instance
def ofAt (y m d : Nat) : Int × Int := if Valid y m d then (dayOf y m d, 0) else (0, 6)
/-- A number by its digits. -/
def num (l : List UInt8) : Nat := l.foldl (fun a x => a * 10 + (x.toNat - 48)) 0
theorem num_snoc (l : List UInt8) (x : UInt8) : num (l ++ [x]) = num l * 10 + (x.toNat - 48) := by simp [num]
def isd (x : UInt8) : Prop := 48 ≤ x.toNat ∧ x.toNat ≤ 57
/-- A text is a day's, as the document says it: the place's byte is a dash or a digit. -/
def okAt (l : List UInt8) (j : Nat) : Prop := if j = 4 ∨ j = 7 then (l.getD j 0).toNat = 45 else isd (l.getD j 0)
def Good (l : List UInt8) : Prop := l.length = 10 ∧ ∀ j, j < 10 → okAt l j
def ReadAs (l : List UInt8) (p : Int × Int) : Prop := (Good l ∧ p = ofAt (num (l.take 4)) (num ((l.drop 5).take 2)) (num ((l.drop 8).take 2))) ∨ (¬ Good l ∧ p = (0, 7))
theorem readAs (l : List UInt8) : ∃ p, ReadAs l p := by
  by_cases h : Good l
  · exact ⟨_, .inl ⟨h, rfl⟩⟩
  · exact ⟨_, .inr ⟨h, rfl⟩⟩
theorem ReadAs.bad {l : List UInt8} {p : Int × Int} (h : ReadAs l p) (j : Nat) (hj : j < 10) (hb : ¬ okAt l j) : p = (0, 7) := by
  rcases h with ⟨h, _⟩ | ⟨_, h⟩
  · exact absurd (h.2 j hj) hb
  · exact h
theorem ReadAs.short {l : List UInt8} {p : Int × Int} (h : ReadAs l p) (hb : l.length ≠ 10) : p = (0, 7) := by
  rcases h with ⟨h, _⟩ | ⟨_, h⟩
  · exact absurd h.1 hb
  · exact h
theorem ReadAs.good {l : List UInt8} {p : Int × Int} (h : ReadAs l p) (hg : Good l) : p = ofAt (num (l.take 4)) (num ((l.drop 5).take 2)) (num ((l.drop 8).take 2)) := by
  rcases h with ⟨_, h⟩ | ⟨h, _⟩
  · exact h
  · exact absurd hg h
/-- One digit more. -/
theorem num_take (l : List UInt8) (i : Nat) (h : i < l.length) : num (l.take (i + 1)) = num (l.take i) * 10 + ((l.getD i 0).toNat - 48) := by
  rw [take_snoc' l i h, num_snoc]
  simp [List.getD, List.getElem?_eq_getElem h]
theorem num_drop (l : List UInt8) (k i : Nat) (h : k + i < l.length) : num ((l.drop k).take (i + 1)) = num ((l.drop k).take i) * 10 + ((l.getD (k + i) 0).toNat - 48) := by
  rw [num_take (l.drop k) i (by rw [List.length_drop]; omega)]
  simp [List.getD, List.getElem?_drop]
theorem num_digs (k v : Nat) (h : v < 10 ^ k) : num (digs k v) = v := by
  induction k generalizing v with
  | zero => simp at h; subst h; rfl
  | succ k ih =>
    rw [digs, num_snoc, dig_toNat, ih (v / 10) (by rw [Nat.pow_succ] at h; omega)]
    omega
theorem isd_dig (v : Nat) : isd (dig v) := by unfold isd; rw [dig_toNat]; omega
/-- A day's text is read as the day. -/
theorem ReadAs.txt {y m a : Nat} (h : Valid y m a) {p : Int × Int} (hp : ReadAs (txt y m a) p) : p = (dayOf y m a, 0) := by
  have hd := (dim_le y m).2
  have e4 : digs 4 y = [dig (y / 10 / 10 / 10), dig (y / 10 / 10), dig (y / 10), dig y] := rfl
  have e2 : ∀ v, digs 2 v = [dig (v / 10), dig v] := fun v => rfl
  have hl : Proofs.YthlgjbmkealjjaaGreatDoor.txt y m a = digs 4 y ++ ([45] ++ (digs 2 m ++ ([45] ++ digs 2 a))) := by simp [Proofs.YthlgjbmkealjjaaGreatDoor.txt]
  have hg : Good (Proofs.YthlgjbmkealjjaaGreatDoor.txt y m a) := by
    refine ⟨txt_length y m a, fun j hj => ?_⟩
    rw [hl, e4, e2, e2]
    unfold okAt
    rcases (show j = 0 ∨ j = 1 ∨ j = 2 ∨ j = 3 ∨ j = 4 ∨ j = 5 ∨ j = 6 ∨ j = 7 ∨ j = 8 ∨ j = 9 by omega) with rfl | rfl | rfl | rfl | rfl | rfl | rfl | rfl | rfl | rfl
    all_goals simp [isd_dig]
  rw [hp.good hg]
  have t1 : (Proofs.YthlgjbmkealjjaaGreatDoor.txt y m a).take 4 = digs 4 y := by rw [hl, e4]; rfl
  have t2 : ((Proofs.YthlgjbmkealjjaaGreatDoor.txt y m a).drop 5).take 2 = digs 2 m := by rw [hl, e4, e2, e2]; rfl
  have t3 : ((Proofs.YthlgjbmkealjjaaGreatDoor.txt y m a).drop 8).take 2 = digs 2 a := by rw [hl, e4, e2, e2]; rfl
  have := h.2.2.2.2.2
  rw [t1, t2, t3, num_digs 4 y (by have := h.2.1; omega), num_digs 2 m (by have := h.2.2.2.1; omega), num_digs 2 a (by omega)]
  unfold ofAt
  rw [if_pos h]
end Go.Proofs.YthlgjbmkealjjaaGreatDoor

namespace Go.Proofs.YthlgjbmkealjjaaGreatDoor
open Go.RowKit
set_option linter.unusedVariables false

theorem zero3 (w : World) : (zeroValue 77).run Tryz.prog w = .ok (.agg #[.int .i64 0, .int .i64 0, .int .i64 0]) w := by kernel_rfl
theorem index_str (l : List UInt8) (i : Nat) (h : i < l.length) (I : Int) (hI : I = i) (W : World) : (Instr.index 9 (.string ⟨l.toArray⟩) (.int .i64 I)).run Tryz.prog W = .ok (.int .u8 ((l.getD i 0).toNat : Int)) W := by
  subst hI
  rw [run_index_string W 9 _ .i64 _ Tryz.underlying9]
  have h1 : (0 : Int) ≤ (i : Int) ∧ (i : Int) < ((ByteArray.mk l.toArray).size : Int) := ⟨by omega, by show (i : Int) < ((l.toArray.size : Nat) : Int); simp; exact h⟩
  rw [dif_pos h1]
  simp [List.getD, List.getElem?_eq_getElem h]
  rfl

theorem refOf_any (y m d : Nat) (w : World) :
    Calls Tryz.prog 40 #[.int .i64 y, .int .i64 m, .int .i64 d] w fun e w' => e = .returned (.tuple #[.int .i64 (ofAt y m d).1, .int .i64 (ofAt y m d).2]) ∧ w = w' := by
  unfold ofAt
  by_cases h : Valid y m d
  · rw [if_pos h]; exact refOf_in y m d w h
  · rw [if_neg h]
    refine refOf_out y m d w ?_
    rintro ⟨a, b, c, e1, e2, e3, hv⟩
    obtain rfl : y = a := by omega
    obtain rfl : m = b := by omega
    obtain rfl : d = c := by omega
    exact h hv

theorem step10 (a j d K : Nat) (h : a < 10 ^ j) (hd : d ≤ 9) (hj : j < K) : a * 10 + d < 10 ^ (j + 1) ∧ a * 10 + d < 10 ^ K := by
  have h1 : 10 ^ (j + 1) ≤ 10 ^ K := Nat.pow_le_pow_right (by omega) hj
  have h2 : 10 ^ (j + 1) = 10 ^ j * 10 := Nat.pow_succ 10 j
  omega

set_option maxRecDepth 100000 in
set_option maxHeartbeats 4000000 in
theorem c_refRead_any (s : ByteArray) (p : Int × Int) (w : World) (hp : ReadAs s.data.toList p) (hs : s.size ≤ 9223372036854775807) :
    Calls Tryz.prog 20 #[.string s] w fun e w' => e = .returned (.tuple #[.int .i64 p.1, .int .i64 p.2]) ∧ Below w.heap.size w w' := by
  obtain ⟨l, rfl⟩ : ∃ l : List UInt8, s = ⟨l.toArray⟩ := ⟨s.data.toList, by cases s; simp⟩
  simp only at hp
  have hsz : (ByteArray.mk l.toArray).size = l.length := by show l.toArray.size = _; simp
  rw [hsz] at hs
  by_cases hl : l.length = 10
  · have HL := Lib.hid hl
    have hlen : ((l.length : Int) != 10) = false := by rw [hl]; rfl
    have HP := Lib.hid hp
    have HX := Lib.hid (index_str l)
    have hz := zero3
    have HO := Lib.hid refOf_any
    clear hp hsz hs hl
    go_enter Tryz.func20, Tryz.ntmps20
    go_wp2
    go_loopw [5, 6] (fun k i wr => ∃ (j q a b c : Nat), j ≤ 10 ∧ i = .int .i64 j ∧ k = .int .i64 q ∧ (∀ n, n < j → okAt l n) ∧ wr.heap[w.heap.size]? = some (.cells #[.int .i64 a, .int .i64 b, .int .i64 c] 77 (0, 0)) ∧ Below w.heap.size w wr ∧
      ((j ≤ 4 ∧ q = 0 ∧ a = num (l.take j) ∧ b = 0 ∧ c = 0 ∧ Hid (a < 10 ^ j)) ∨ (5 ≤ j ∧ j ≤ 7 ∧ q = 1 ∧ a = num (l.take 4) ∧ b = num ((l.drop 5).take (j - 5)) ∧ c = 0 ∧ Hid (b < 10 ^ (j - 5))) ∨ (8 ≤ j ∧ q = 2 ∧ a = num (l.take 4) ∧ b = num ((l.drop 5).take 2) ∧ c = num ((l.drop 8).take (j - 8)) ∧ Hid (c < 10 ^ (j - 8)))) ∧ a < 10000 ∧ b < 100 ∧ c < 100) (fun _ i _ => 10 - (intOf i).toNat)
    case atStart => exact ⟨0, 0, 0, 0, 0, by omega, rfl, rfl, fun n h => by omega, heap_alloc_new w _, (Below.refl _ _).alloc (Nat.le_refl _) _, .inl ⟨by omega, rfl, rfl, rfl, rfl, Lib.hid (by decide)⟩, by omega, by omega, by omega⟩
    case round =>
      obtain ⟨j, q, a, b, c, hj, rfl, rfl, hok, hh, hb, hph, ha, hb9, hc9⟩ := hrel
      have HOK := Lib.hid hok
      have HH := Lib.hid hh
      clear hok hh
      by_cases hlt : j < 10
      · have hj10 : j < l.length := by have := HL.out; omega
        have hbad := Lib.hid (HP.out.bad j hlt)
        have hok1 : Hid (okAt l j → ∀ n, n < j + 1 → okAt l n) := Lib.hid fun h n hn => by
          rcases Nat.lt_or_ge n j with h1 | h1
          · exact HOK.out n h1
          · obtain rfl : n = j := by omega
            exact h
        by_cases hd : j = 4 ∨ j = 7
        · have hd1 : Hid (okAt l j ↔ (l.getD j 0).toNat = 45) := Lib.hid (by unfold okAt; rw [if_pos hd])
          rcases hd with rfl | rfl
          · have hx := HX.out 4 hj10 4 rfl
            obtain ⟨rfl, h1, rfl, rfl⟩ : q = 0 ∧ a = num (l.take 4) ∧ b = 0 ∧ c = 0 := by
              rcases hph with ⟨_, h1, h2, h3, h4, _⟩ | ⟨h0, _⟩ | ⟨h0, _⟩
              · exact ⟨h1, h2, h3, h4⟩
              · omega
              · omega
            have H1 := Lib.hid h1
            clear h1 hph
            generalize (l.getD 4 0).toNat = x at hx hd1
            by_cases hx45 : x = 45
            · subst hx45
              have HG := Lib.hid (hok1.out (hd1.out.2 rfl))
              go_wp2
              go_roundw
              case rel => exact ⟨5, 1, a, 0, 0, by omega, rfl, rfl, HG.out, HH.out, hb, .inr (.inl ⟨by omega, by omega, rfl, H1.out, rfl, rfl, Lib.hid (by decide)⟩), ha, hb9, hc9⟩
              case measure => simp [intOf]
            · have f1 : ((x : Int) != 45) = true := by rw [bne_iff_ne]; omega
              have hp0 := hbad.out (fun h => hx45 (hd1.out.1 h))
              subst hp0
              go_wp2
              go_ret2
              exact ⟨rfl, hb⟩
          · have hx := HX.out 7 hj10 7 rfl
            obtain ⟨rfl, h1, h2, rfl⟩ : q = 1 ∧ a = num (l.take 4) ∧ b = num ((l.drop 5).take 2) ∧ c = 0 := by
              rcases hph with ⟨h0, _⟩ | ⟨_, _, h1, h2, h3, h4, _⟩ | ⟨h0, _⟩
              · omega
              · exact ⟨h1, h2, h3, h4⟩
              · omega
            have H1 := Lib.hid h1
            have H2 := Lib.hid h2
            clear h1 h2 hph
            generalize (l.getD 7 0).toNat = x at hx hd1
            by_cases hx45 : x = 45
            · subst hx45
              have HG := Lib.hid (hok1.out (hd1.out.2 rfl))
              go_wp2
              go_roundw
              case rel => exact ⟨8, 2, a, b, 0, by omega, rfl, rfl, HG.out, HH.out, hb, .inr (.inr ⟨by omega, rfl, H1.out, H2.out, rfl, Lib.hid (by decide)⟩), ha, hb9, hc9⟩
              case measure => simp [intOf]
            · have f1 : ((x : Int) != 45) = true := by rw [bne_iff_ne]; omega
              have hp0 := hbad.out (fun h => hx45 (hd1.out.1 h))
              subst hp0
              go_wp2
              go_ret2
              exact ⟨rfl, hb⟩
        · have hd1 : Hid (okAt l j ↔ 48 ≤ (l.getD j 0).toNat ∧ (l.getD j 0).toNat ≤ 57) := Lib.hid (by unfold okAt isd; rw [if_neg hd])
          have f4 : ((j : Int) == 4) = false := by simp; omega
          have f7 : ((j : Int) == 7) = false := by simp; omega
          have hx := HX.out j hj10 j rfl
          have N1 := Lib.hid (num_take l j hj10)
          have N2 : Hid (5 ≤ j → num ((l.drop 5).take (j - 5 + 1)) = num ((l.drop 5).take (j - 5)) * 10 + ((l.getD j 0).toNat - 48)) := Lib.hid fun h => by
            rw [num_drop l 5 (j - 5) (by omega), show 5 + (j - 5) = j by omega]
          have N3 : Hid (8 ≤ j → num ((l.drop 8).take (j - 8 + 1)) = num ((l.drop 8).take (j - 8)) * 10 + ((l.getD j 0).toNat - 48)) := Lib.hid fun h => by
            rw [num_drop l 8 (j - 8) (by omega), show 8 + (j - 8) = j by omega]
          generalize (l.getD j 0).toNat = x at hx hd1 N1 N2 N3
          by_cases hx48 : x < 48
          · have hp0 := hbad.out (fun h => by have := hd1.out.1 h; omega)
            subst hp0
            go_wp2
            go_ret2
            exact ⟨rfl, hb⟩
          by_cases hx57 : 57 < x
          · have hp0 := hbad.out (fun h => by have := hd1.out.1 h; omega)
            subst hp0
            go_wp2
            go_ret2
            exact ⟨rfl, hb⟩
          have HG := Lib.hid (hok1.out (hd1.out.2 ⟨by omega, by omega⟩))
          rcases hph with ⟨h0, rfl, h1, rfl, rfl, hw⟩ | ⟨h0, h0', rfl, h1, h2, rfl, hw⟩ | ⟨h0, rfl, h1, h2, h3, hw⟩
          · have H1 := Lib.hid h1
            clear h1
            have hw2 := step10 a j (x - 48) 4 hw.out (by omega) (by omega)
            have HW2 := Lib.hid hw2.1
            have hw3 := hw2.2
            have hcell : wr.cell? ⟨w.heap.size, 0, none⟩ = some (.int .i64 a) := by rw [cell_of_row _ _ _ _ _ _ HH.out]; rfl
            have hfr : wr.frozen? ⟨w.heap.size, 0, none⟩ = false := frozen_of_row _ _ _ _ _ HH.out
            clear hw2
            go_wp2
            go_region
            go_wp2
            go_roundw
            case rel =>
              rw [show (10 * (a : Int) + ((x : Int) - 48)) = ((a * 10 + (x - 48) : Nat) : Int) by omega]
              refine ⟨j + 1, 0, a * 10 + (x - 48), 0, 0, by omega, by go_num, rfl, HG.out, ?_, ?_, .inl ⟨by omega, rfl, by rw [N1.out, H1.out], rfl, rfl, HW2⟩, hw3, by omega, by omega⟩
              · show (wr.setCell _ _).heap[_]? = _
                rw [heap_setCell_same _ _ _ _ _ _ HH.out]
                rfl
              · exact (hb.setCell (Nat.le_refl _) _).drew
            case measure => simp [intOf]; omega
          · have H1 := Lib.hid h1
            have H2 := Lib.hid h2
            clear h1 h2
            have hw2 := step10 b (j - 5) (x - 48) 2 hw.out (by omega) (by omega)
            have HW2 := Lib.hid hw2.1
            have hw3 := hw2.2
            have hcell : wr.cell? ⟨w.heap.size, 1, none⟩ = some (.int .i64 b) := by rw [cell_of_row _ _ _ _ _ _ HH.out]; rfl
            have hfr : wr.frozen? ⟨w.heap.size, 1, none⟩ = false := frozen_of_row _ _ _ _ _ HH.out
            clear hw2
            go_wp2
            go_region
            go_wp2
            go_roundw
            case rel =>
              rw [show (10 * (b : Int) + ((x : Int) - 48)) = ((b * 10 + (x - 48) : Nat) : Int) by omega]
              refine ⟨j + 1, 1, a, b * 10 + (x - 48), 0, by omega, by go_num, rfl, HG.out, ?_, ?_, .inr (.inl ⟨by omega, by omega, rfl, H1.out, ?_, rfl, ?_⟩), ha, hw3, by omega⟩
              · show (wr.setCell _ _).heap[_]? = _
                rw [heap_setCell_same _ _ _ _ _ _ HH.out]
                rfl
              · exact (hb.setCell (Nat.le_refl _) _).drew
              · rw [show j + 1 - 5 = j - 5 + 1 by omega, N2.out h0, H2.out]
              · rw [show j + 1 - 5 = j - 5 + 1 by omega]; exact HW2
            case measure => simp [intOf]; omega
          · have H1 := Lib.hid h1
            have H2 := Lib.hid h2
            have H3 := Lib.hid h3
            clear h1 h2 h3
            have hw2 := step10 c (j - 8) (x - 48) 2 hw.out (by omega) (by omega)
            have HW2 := Lib.hid hw2.1
            have hw3 := hw2.2
            have hcell : wr.cell? ⟨w.heap.size, 2, none⟩ = some (.int .i64 c) := by rw [cell_of_row _ _ _ _ _ _ HH.out]; rfl
            have hfr : wr.frozen? ⟨w.heap.size, 2, none⟩ = false := frozen_of_row _ _ _ _ _ HH.out
            clear hw2
            go_wp2
            go_region
            go_wp2
            go_roundw
            case rel =>
              rw [show (10 * (c : Int) + ((x : Int) - 48)) = ((c * 10 + (x - 48) : Nat) : Int) by omega]
              refine ⟨j + 1, 2, a, b, c * 10 + (x - 48), by omega, by go_num, rfl, HG.out, ?_, ?_, .inr (.inr ⟨by omega, rfl, H1.out, H2.out, ?_, ?_⟩), ha, hb9, hw3⟩
              · show (wr.setCell _ _).heap[_]? = _
                rw [heap_setCell_same _ _ _ _ _ _ HH.out]
                rfl
              · exact (hb.setCell (Nat.le_refl _) _).drew
              · rw [show j + 1 - 8 = j - 8 + 1 by omega, N3.out h0, H3.out]
              · rw [show j + 1 - 8 = j - 8 + 1 by omega]; exact HW2
            case measure => simp [intOf]; omega
      · obtain rfl : j = 10 := by omega
        obtain ⟨rfl, h1, h2, h3⟩ : q = 2 ∧ a = num (l.take 4) ∧ b = num ((l.drop 5).take 2) ∧ c = num ((l.drop 8).take 2) := by
          rcases hph with ⟨h0, _⟩ | ⟨_, h0, _⟩ | ⟨_, h1, h2, h3, h4, _⟩
          · omega
          · omega
          · exact ⟨h1, h2, h3, h4⟩
        have hpg := HP.out.good ⟨HL.out, HOK.out⟩
        rw [← h1, ← h2, ← h3] at hpg
        have HPG := Lib.hid hpg
        clear hph h1 h2 h3 hpg
        have hc0 : wr.cell? ⟨w.heap.size, 0, none⟩ = some (.int .i64 a) := by rw [cell_of_row _ _ _ _ _ _ HH.out]; rfl
        have hc1 : wr.cell? ⟨w.heap.size, 1, none⟩ = some (.int .i64 b) := by rw [cell_of_row _ _ _ _ _ _ HH.out]; rfl
        have hc2 : wr.cell? ⟨w.heap.size, 2, none⟩ = some (.int .i64 c) := by rw [cell_of_row _ _ _ _ _ _ HH.out]; rfl
        go_wp2_with fail
        refine (HO.out a b c wr).mono ?_
        rintro e w' ⟨rfl, rfl⟩
        go_wp2
        go_ret2
        rw [HPG.out]
        exact ⟨rfl, hb⟩
  · have h9 := hp.short hl
    subst h9
    have hne : ((l.length : Int) != 10) = true := by rw [bne_iff_ne]; omega
    go_enter Tryz.func20, Tryz.ntmps20
    go_wp2
    go_ret2
    exact ⟨rfl, Below.refl _ _⟩
end Go.Proofs.YthlgjbmkealjjaaGreatDoor

namespace Go.Proofs.YthlgjbmkealjjaaGreatDoor
open Go.RowKit
set_option linter.unusedVariables false

theorem c_Of_any (y m d : Nat) (w : World) :
    Calls Tryz.prog 86 #[.int .i64 y, .int .i64 m, .int .i64 d] w fun e w' => e = .returned (.tuple #[.int .i64 (ofAt y m d).1, .int .i64 (ofAt y m d).2]) ∧ Below w.heap.size w w' := by
  unfold ofAt
  by_cases h : Valid y m d
  · rw [if_pos h]; exact Of_in y m d w h
  · rw [if_neg h]
    refine Of_out y m d w ?_
    rintro ⟨a, b, c, e1, e2, e3, hv⟩
    obtain rfl : y = a := by omega
    obtain rfl : m = b := by omega
    obtain rfl : d = c := by omega
    exact h hv

/-- A part of the text, cut out. -/
theorem part_hi (l : List UInt8) (h : l.length = 10) (W : World) : (Instr.slice 9 (.string ⟨l.toArray⟩) none (some (.int .i64 4)) none).run Tryz.prog W = .ok (.string ⟨(l.take 4).toArray⟩) W := by
  rw [run_slice_string_h W 9 _ Tryz.underlying9 .i64 4 (by omega) (by show (4 : Int) ≤ ((l.toArray.size : Nat) : Int); simp; omega), show (4 : Int).toNat = 4 from rfl, ByteArray.extract_mk]
  simp
theorem part_mid (l : List UInt8) (h : l.length = 10) (W : World) : (Instr.slice 9 (.string ⟨l.toArray⟩) (some (.int .i64 5)) (some (.int .i64 7)) none).run Tryz.prog W = .ok (.string ⟨((l.drop 5).take 2).toArray⟩) W := by
  rw [run_slice_string W 9 _ .i64 .i64 5 7 Tryz.underlying9 (by omega) (by omega) (by show (7 : Int) ≤ ((l.toArray.size : Nat) : Int); simp; omega), show (5 : Int).toNat = 5 from rfl, show (7 : Int).toNat = 7 from rfl, ByteArray.extract_mk]
theorem part_lo (l : List UInt8) (h : l.length = 10) (W : World) : (Instr.slice 9 (.string ⟨l.toArray⟩) (some (.int .i64 8)) none none).run Tryz.prog W = .ok (.string ⟨((l.drop 8).take 2).toArray⟩) W := by
  rw [run_slice_string_l W 9 _ Tryz.underlying9 .i64 8 (by omega) (by show (8 : Int) ≤ ((l.toArray.size : Nat) : Int); simp; omega), show (8 : Int).toNat = 8 from rfl, ByteArray.extract_mk]
  have e : (ByteArray.mk l.toArray).size - 8 = 2 := by show l.toArray.size - 8 = 2; simp; omega
  rw [e]

set_option maxRecDepth 100000 in
theorem index_three (x y z : Value) (W : World) : (Instr.index 124 (.agg #[x, y, z]) (.int .i64 0)).run Tryz.prog W = .ok x W ∧ (Instr.index 124 (.agg #[x, y, z]) (.int .i64 1)).run Tryz.prog W = .ok y W ∧ (Instr.index 124 (.agg #[x, y, z]) (.int .i64 2)).run Tryz.prog W = .ok z W := by
  refine ⟨?_, ?_, ?_⟩ <;> simp [Instr.index, asIntOf, run_underlying Tryz.underlying124] <;> rfl
/-- The bytes of a part, as []byte: one new row. -/
theorem part_conv (W : World) (xs : List UInt8) : ∃ C W', (convert 9 86 (.string ⟨xs.toArray⟩)).run Tryz.prog W = .ok (.slice (some ⟨W.heap.size, 0, none⟩) xs.length C) W' ∧ RdB W' (some ⟨W.heap.size, 0, none⟩) xs.length xs ∧ W'.heap.size = W.heap.size + 1 ∧ Below W.heap.size W W' := by
  have hs : (ByteArray.mk xs.toArray).size = xs.length := by show xs.toArray.size = _; simp
  have h := Lib.run_convert_string_bytes (P := Tryz.prog) W 9 86 5 ⟨xs.toArray⟩ Tryz.underlying9 Tryz.underlying86 Tryz.underlying5
  rw [hs] at h
  refine ⟨_, _, h, ?_, Lib.bytesWorld_size _ _ _, ⟨rfl, rfl, rfl, by rw [Lib.bytesWorld_size]; omega, fun k hk => Lib.bytesWorld_at_old _ _ _ _ hk⟩⟩
  refine RdB.mk rfl fun j hj => ?_
  rw [Nat.zero_add, Lib.bytesWorld_cell _ _ _ _ (by rw [hs]; exact hj)]
  simp [List.getD, List.getElem?_eq_getElem hj]
theorem RdB.other {w : World} {g off n b j : Nat} {xs : List UInt8} {u : Value} (h : RdB w (some ⟨g, off, none⟩) n xs) (hne : g ≠ b) : RdB (w.setCell ⟨b, j, none⟩ u) (some ⟨g, off, none⟩) n xs :=
  ⟨h.1, fun hn => by
    obtain ⟨b', off', e, hc⟩ := h.2 hn
    refine ⟨b', off', e, fun i v hv => ?_⟩
    injection e with e
    injection e with e1 e2
    subst e1 e2
    exact (World.cell?_of_block (w := w) (heap_setCell_other w ⟨b, j, none⟩ _ u hne)).trans (hc i v hv)⟩

/-- The place in the text where a part begins. -/
def startOf (k : Nat) : Nat := if k = 0 then 0 else if k = 1 then 5 else if k = 2 then 8 else 10

set_option maxRecDepth 100000 in
set_option maxHeartbeats 8000000 in
theorem c_Read_any (s : ByteArray) (p : Int × Int) (w : World) (hp : ReadAs s.data.toList p) (hs : s.size ≤ 9223372036854775807) :
    Calls Tryz.prog 59 #[.string s] w fun e w' => e = .returned (.tuple #[.int .i64 p.1, .int .i64 p.2]) ∧ Below w.heap.size w w' := by
  obtain ⟨l, rfl⟩ : ∃ l : List UInt8, s = ⟨l.toArray⟩ := ⟨s.data.toList, by cases s; simp⟩
  simp only at hp
  have hsz : (ByteArray.mk l.toArray).size = l.length := by show l.toArray.size = _; simp
  rw [hsz] at hs
  by_cases hl : l.length = 10
  · have HL := Lib.hid hl
    have hlen : ((l.length : Int) != 10) = false := by rw [hl]; rfl
    have HP := Lib.hid hp
    have x4 := index_str l 4 (by omega) 4 rfl
    have x7 := index_str l 7 (by omega) 7 rfl
    have hz := zero3
    have HO := Lib.hid c_Of_any
    have s1 := part_hi l hl
    have s2 := part_mid l hl
    have s3 := part_lo l hl
    have b4 := Lib.hid (hp.bad 4 (by omega))
    have b7 := Lib.hid (hp.bad 7 (by omega))
    have k4 : Hid (okAt l 4 ↔ (l.getD 4 0).toNat = 45) := Lib.hid (by unfold okAt; rw [if_pos (.inl rfl)])
    have k7 : Hid (okAt l 7 ↔ (l.getD 7 0).toNat = 45) := Lib.hid (by unfold okAt; rw [if_pos (.inr rfl)])
    clear hp hsz hs hl
    generalize (l.getD 4 0).toNat = c4 at x4 k4
    generalize (l.getD 7 0).toNat = c7 at x7 k7
    by_cases h4 : c4 = 45
    · subst h4
      by_cases h7 : c7 = 45
      · subst h7
        have ok4 := Lib.hid (k4.out.2 rfl)
        have ok7 := Lib.hid (k7.out.2 rfl)
        clear k4 k7 b4 b7
        have HG := Lib.hid HP.out.good
        have L0 : Hid ((l.take 4).length = 4) := Lib.hid (by rw [List.length_take]; have := HL.out; omega)
        have L1 : Hid (((l.drop 5).take 2).length = 2) := Lib.hid (by rw [List.length_take, List.length_drop]; have := HL.out; omega)
        have L2 : Hid (((l.drop 8).take 2).length = 2) := Lib.hid (by rw [List.length_take, List.length_drop]; have := HL.out; omega)
        have G0 : Hid (∀ t (h : t < (l.take 4).length), (l.take 4)[t] = l.getD (0 + t) 0) := Lib.hid fun t h => by
          rw [List.length_take] at h
          simp [List.getD, List.getElem?_eq_getElem (show t < l.length by omega)]
        have G1 : Hid (∀ t (h : t < ((l.drop 5).take 2).length), ((l.drop 5).take 2)[t] = l.getD (5 + t) 0) := Lib.hid fun t h => by
          rw [List.length_take, List.length_drop] at h
          simp [List.getD, List.getElem?_eq_getElem (show 5 + t < l.length by omega)]
        have G2 : Hid (∀ t (h : t < ((l.drop 8).take 2).length), ((l.drop 8).take 2)[t] = l.getD (8 + t) 0) := Lib.hid fun t h => by
          rw [List.length_take, List.length_drop] at h
          simp [List.getD, List.getElem?_eq_getElem (show 8 + t < l.length by omega)]
        generalize l.take 4 = P0 at s1 HG L0 G0
        generalize (l.drop 5).take 2 = P1 at s2 HG L1 G1
        generalize (l.drop 8).take 2 = P2 at s3 HG L2 G2
        go_enter Tryz.func59, Tryz.ntmps59
        go_wp2
        go_quiet (fail)
        go_wp2
        go_loopw [29] (fun i wr => ∃ (k a b c : Nat), k ≤ 3 ∧ i = .int .i64 k ∧ wr.heap[w.heap.size]? = some (.cells #[.int .i64 a, .int .i64 b, .int .i64 c] 77 (0, 0)) ∧ Below w.heap.size w wr ∧ (∀ n, n < startOf k → okAt l n) ∧
          ((k = 0 ∧ a = 0 ∧ b = 0 ∧ c = 0) ∨ (k = 1 ∧ a = num P0 ∧ b = 0 ∧ c = 0) ∨ (k = 2 ∧ a = num P0 ∧ b = num P1 ∧ c = 0) ∨ (k = 3 ∧ a = num P0 ∧ b = num P1 ∧ c = num P2))) (fun i _ => 3 - (intOf i).toNat)
        case atStart => exact ⟨0, 0, 0, 0, by omega, rfl, heap_alloc_drewN w _ _, below_drewN ((Below.refl _ _).alloc (Nat.le_refl _) _) _, fun n h => by simp [startOf] at h, .inl ⟨rfl, rfl, rfl, rfl⟩⟩
        case round =>
          obtain ⟨k, a, b, c, hk, rfl, hh, hb, hok, hph⟩ := hrel
          have HOK := Lib.hid hok
          have HH := Lib.hid hh
          have HGW : Hid (∀ W : World, W.heap[w.heap.size]? = some (.cells #[.int .i64 a, .int .i64 b, .int .i64 c] 77 (0, 0)) → w.heap.size < W.heap.size) := Lib.hid fun W h => (Array.getElem?_eq_some_iff.1 h).1
          clear hok hh
          rcases hph with ⟨rfl, rfl, rfl, rfl⟩ | ⟨rfl, h1, rfl, rfl⟩ | ⟨rfl, h1, h2, rfl⟩ | ⟨rfl, h1, h2, h3⟩
          · have hix := (index_three (.string ⟨P0.toArray⟩) (.string ⟨P1.toArray⟩) (.string ⟨P2.toArray⟩) wr).1
            have hcv0 := part_conv wr P0
            obtain ⟨C, wb, hcv, hrd, hszb, hbw⟩ := hcv0
            have HSZ := Lib.hid hszb
            have HRD := Lib.hid hrd
            have hb1 := hb.trans (hbw.mono hb.size)
            have hgw : w.heap.size < wr.heap.size := HGW.out wr HH.out
            have HGW1 := Lib.hid hgw
            have HH1 := Lib.hid ((hbw.block w.heap.size hgw).trans HH.out)
            have hlen : ((P0.length : Nat) : Int) = 4 := by have := L0.out; omega
            obtain ⟨lv, hlv⟩ : ∃ lv, P0.length = lv := ⟨_, rfl⟩
            rw [hlv] at hcv
            have HLV := Lib.hid hlv
            have hlv2 : lv = 4 := by have := L0.out; omega
            subst hlv2
            clear hlv hlen hszb hrd hgw
            go_wp2
            go_loopw [36] (fun i wc => ∃ (t v : Nat), t ≤ 4 ∧ i = .int .i64 t ∧ Hid (v = num (P0.take t)) ∧ Hid (v < 10 ^ t) ∧ v < 10000 ∧ (∀ n, n < 0 + t → okAt l n) ∧ wc.heap[w.heap.size]? = some (.cells #[.int .i64 v, .int .i64 (0 : Nat), .int .i64 (0 : Nat)] 77 (0, 0)) ∧ RdB wc (some ⟨wr.heap.size, 0, none⟩) P0.length P0 ∧ Below w.heap.size w wc) (fun i _ => 4 - (intOf i).toNat)
            case atStart => exact ⟨0, 0, by omega, rfl, Lib.hid (by simp [num]), Lib.hid (by decide), by omega, HOK.out, HH1.out, HRD.out, hb1⟩
            case round =>
              obtain ⟨t, v, ht, rfl, hvn, hv10, hv4, hok, hh, hrd, hbb⟩ := hrel
              have HK := Lib.hid hok
              have HC := Lib.hid hh
              have HR := Lib.hid hrd
              clear hok hh hrd
              by_cases hlt : t < 4
              · have htl : t < P0.length := by have := L0.out; omega
                have hx := HR.out.cells t htl
                have hbad := Lib.hid (HP.out.bad (0 + t) (by omega))
                have hok1 : Hid (okAt l (0 + t) → ∀ n, n < 0 + (t + 1) → okAt l n) := Lib.hid fun h n hn => by
                  rcases Nat.lt_or_ge n (0 + t) with h1 | h1
                  · exact HK.out n h1
                  · obtain rfl : n = 0 + t := by omega
                    exact h
                have hd1 : Hid (okAt l (0 + t) ↔ 48 ≤ (l.getD (0 + t) 0).toNat ∧ (l.getD (0 + t) 0).toNat ≤ 57) := Lib.hid (by unfold okAt isd; rw [if_neg (by omega)])
                have N1 := Lib.hid (num_take P0 t htl)
                have e1 : P0.getD t 0 = l.getD (0 + t) 0 := by rw [← G0.out t htl]; simp [List.getD, List.getElem?_eq_getElem htl]
                rw [e1] at N1
                rw [Nat.zero_add, G0.out t htl] at hx
                clear e1
                have hx256 := (l.getD (0 + t) 0).toNat_lt
                generalize (l.getD (0 + t) 0).toNat = x at hx hd1 N1 hx256
                by_cases hx48 : x < 48
                · have hp0 := hbad.out (fun h => by have := hd1.out.1 h; omega)
                  subst hp0
                  go_wp2
                  go_ret2
                  exact ⟨rfl, hbb⟩
                by_cases hx57 : 57 < x
                · have hp0 := hbad.out (fun h => by have := hd1.out.1 h; omega)
                  subst hp0
                  go_wp2
                  go_ret2
                  exact ⟨rfl, hbb⟩
                have HGD := Lib.hid (hok1.out (hd1.out.2 ⟨by omega, by omega⟩))
                have hw2 := step10 v t (x - 48) 4 hv10.out (by omega) (by omega)
                have HW2 := Lib.hid hw2.1
                have hw3 := hw2.2
                have hcell : wr.cell? ⟨w.heap.size, 0, none⟩ = some (.int .i64 v) := by rw [cell_of_row _ _ _ _ _ _ HC.out]; rfl
                have hfr : wr.frozen? ⟨w.heap.size, 0, none⟩ = false := frozen_of_row _ _ _ _ _ HC.out
                clear hw2
                go_wp2
                go_roundw
                case rel =>
                  rw [show ((v : Int) * 10 + ((x : Int) - 48)) = ((v * 10 + (x - 48) : Nat) : Int) by omega]
                  refine ⟨t + 1, v * 10 + (x - 48), by omega, by go_num, ?_, HW2, by omega, HGD.out, ?_, HR.out.other (by have := HGW1.out; omega), hbb.setCell (Nat.le_refl _) _⟩
                  · rw [N1.out, ← hvn.out]; rfl
                  · rw [heap_setCell_same _ _ _ _ _ _ HC.out]
                    rfl
                case measure => simp [intOf]; omega
              · obtain rfl : t = 4 := by omega
                have hvp : v = num P0 := by
                  have h1 := hvn.out
                  rw [← L0.out, List.take_length] at h1
                  exact h1
                have HVP := Lib.hid hvp
                clear hvp
                go_wp2
                go_roundw
                case rel =>
                  refine ⟨1, v, 0, 0, by omega, by go_num, HC.out, hbb, ?_, .inr (.inl ⟨rfl, HVP.out, rfl, rfl⟩)⟩
                  intro n hn
                  have hn5 : n < 5 := hn
                  rcases Nat.lt_or_ge n 4 with h | h
                  · exact HK.out n (by omega)
                  · obtain rfl : n = 4 := by omega
                    exact ok4.out
                case measure => simp [intOf]
          · have H1 := Lib.hid h1
            clear h1
            have hix := (index_three (.string ⟨P0.toArray⟩) (.string ⟨P1.toArray⟩) (.string ⟨P2.toArray⟩) wr).2.1
            have hcv0 := part_conv wr P1
            obtain ⟨C, wb, hcv, hrd, hszb, hbw⟩ := hcv0
            have HSZ := Lib.hid hszb
            have HRD := Lib.hid hrd
            have hb1 := hb.trans (hbw.mono hb.size)
            have hgw : w.heap.size < wr.heap.size := HGW.out wr HH.out
            have HGW1 := Lib.hid hgw
            have HH1 := Lib.hid ((hbw.block w.heap.size hgw).trans HH.out)
            have hlen : ((P1.length : Nat) : Int) = 2 := by have := L1.out; omega
            obtain ⟨lv, hlv⟩ : ∃ lv, P1.length = lv := ⟨_, rfl⟩
            rw [hlv] at hcv
            have HLV := Lib.hid hlv
            have hlv2 : lv = 2 := by have := L1.out; omega
            subst hlv2
            clear hlv hlen hszb hrd hgw
            go_wp2
            go_loopw [36] (fun i wc => ∃ (t v : Nat), t ≤ 2 ∧ i = .int .i64 t ∧ Hid (v = num (P1.take t)) ∧ Hid (v < 10 ^ t) ∧ v < 10000 ∧ (∀ n, n < 5 + t → okAt l n) ∧ wc.heap[w.heap.size]? = some (.cells #[.int .i64 a, .int .i64 v, .int .i64 (0 : Nat)] 77 (0, 0)) ∧ RdB wc (some ⟨wr.heap.size, 0, none⟩) P1.length P1 ∧ Below w.heap.size w wc) (fun i _ => 2 - (intOf i).toNat)
            case atStart => exact ⟨0, 0, by omega, rfl, Lib.hid (by simp [num]), Lib.hid (by decide), by omega, HOK.out, HH1.out, HRD.out, hb1⟩
            case round =>
              obtain ⟨t, v, ht, rfl, hvn, hv10, hv4, hok, hh, hrd, hbb⟩ := hrel
              have HK := Lib.hid hok
              have HC := Lib.hid hh
              have HR := Lib.hid hrd
              clear hok hh hrd
              by_cases hlt : t < 2
              · have htl : t < P1.length := by have := L1.out; omega
                have hx := HR.out.cells t htl
                have hbad := Lib.hid (HP.out.bad (5 + t) (by omega))
                have hok1 : Hid (okAt l (5 + t) → ∀ n, n < 5 + (t + 1) → okAt l n) := Lib.hid fun h n hn => by
                  rcases Nat.lt_or_ge n (5 + t) with h1 | h1
                  · exact HK.out n h1
                  · obtain rfl : n = 5 + t := by omega
                    exact h
                have hd1 : Hid (okAt l (5 + t) ↔ 48 ≤ (l.getD (5 + t) 0).toNat ∧ (l.getD (5 + t) 0).toNat ≤ 57) := Lib.hid (by unfold okAt isd; rw [if_neg (by omega)])
                have N1 := Lib.hid (num_take P1 t htl)
                have e1 : P1.getD t 0 = l.getD (5 + t) 0 := by rw [← G1.out t htl]; simp [List.getD, List.getElem?_eq_getElem htl]
                rw [e1] at N1
                rw [Nat.zero_add, G1.out t htl] at hx
                clear e1
                have hx256 := (l.getD (5 + t) 0).toNat_lt
                generalize (l.getD (5 + t) 0).toNat = x at hx hd1 N1 hx256
                by_cases hx48 : x < 48
                · have hp0 := hbad.out (fun h => by have := hd1.out.1 h; omega)
                  subst hp0
                  go_wp2
                  go_ret2
                  exact ⟨rfl, hbb⟩
                by_cases hx57 : 57 < x
                · have hp0 := hbad.out (fun h => by have := hd1.out.1 h; omega)
                  subst hp0
                  go_wp2
                  go_ret2
                  exact ⟨rfl, hbb⟩
                have HGD := Lib.hid (hok1.out (hd1.out.2 ⟨by omega, by omega⟩))
                have hw2 := step10 v t (x - 48) 2 hv10.out (by omega) (by omega)
                have HW2 := Lib.hid hw2.1
                have hw3 := hw2.2
                have hcell : wr.cell? ⟨w.heap.size, 1, none⟩ = some (.int .i64 v) := by rw [cell_of_row _ _ _ _ _ _ HC.out]; rfl
                have hfr : wr.frozen? ⟨w.heap.size, 1, none⟩ = false := frozen_of_row _ _ _ _ _ HC.out
                clear hw2
                go_wp2
                go_roundw
                case rel =>
                  rw [show ((v : Int) * 10 + ((x : Int) - 48)) = ((v * 10 + (x - 48) : Nat) : Int) by omega]
                  refine ⟨t + 1, v * 10 + (x - 48), by omega, by go_num, ?_, HW2, by omega, HGD.out, ?_, HR.out.other (by have := HGW1.out; omega), hbb.setCell (Nat.le_refl _) _⟩
                  · rw [N1.out, ← hvn.out]; rfl
                  · rw [heap_setCell_same _ _ _ _ _ _ HC.out]
                    rfl
                case measure => simp [intOf]; omega
              · obtain rfl : t = 2 := by omega
                have hvp : v = num P1 := by
                  have h1 := hvn.out
                  rw [← L1.out, List.take_length] at h1
                  exact h1
                have HVP := Lib.hid hvp
                clear hvp
                go_wp2
                go_roundw
                case rel =>
                  refine ⟨2, a, v, 0, by omega, by go_num, HC.out, hbb, ?_, .inr (.inr (.inl ⟨rfl, H1.out, HVP.out, rfl⟩))⟩
                  intro n hn
                  have hn5 : n < 8 := hn
                  rcases Nat.lt_or_ge n 7 with h | h
                  · exact HK.out n (by omega)
                  · obtain rfl : n = 7 := by omega
                    exact ok7.out
                case measure => simp [intOf]
          · have H1 := Lib.hid h1
            have H2 := Lib.hid h2
            clear h1 h2
            have hix := (index_three (.string ⟨P0.toArray⟩) (.string ⟨P1.toArray⟩) (.string ⟨P2.toArray⟩) wr).2.2
            have hcv0 := part_conv wr P2
            obtain ⟨C, wb, hcv, hrd, hszb, hbw⟩ := hcv0
            have HSZ := Lib.hid hszb
            have HRD := Lib.hid hrd
            have hb1 := hb.trans (hbw.mono hb.size)
            have hgw : w.heap.size < wr.heap.size := HGW.out wr HH.out
            have HGW1 := Lib.hid hgw
            have HH1 := Lib.hid ((hbw.block w.heap.size hgw).trans HH.out)
            have hlen : ((P2.length : Nat) : Int) = 2 := by have := L2.out; omega
            obtain ⟨lv, hlv⟩ : ∃ lv, P2.length = lv := ⟨_, rfl⟩
            rw [hlv] at hcv
            have HLV := Lib.hid hlv
            have hlv2 : lv = 2 := by have := L2.out; omega
            subst hlv2
            clear hlv hlen hszb hrd hgw
            go_wp2
            go_loopw [36] (fun i wc => ∃ (t v : Nat), t ≤ 2 ∧ i = .int .i64 t ∧ Hid (v = num (P2.take t)) ∧ Hid (v < 10 ^ t) ∧ v < 10000 ∧ (∀ n, n < 8 + t → okAt l n) ∧ wc.heap[w.heap.size]? = some (.cells #[.int .i64 a, .int .i64 b, .int .i64 v] 77 (0, 0)) ∧ RdB wc (some ⟨wr.heap.size, 0, none⟩) P2.length P2 ∧ Below w.heap.size w wc) (fun i _ => 2 - (intOf i).toNat)
            case atStart => exact ⟨0, 0, by omega, rfl, Lib.hid (by simp [num]), Lib.hid (by decide), by omega, HOK.out, HH1.out, HRD.out, hb1⟩
            case round =>
              obtain ⟨t, v, ht, rfl, hvn, hv10, hv4, hok, hh, hrd, hbb⟩ := hrel
              have HK := Lib.hid hok
              have HC := Lib.hid hh
              have HR := Lib.hid hrd
              clear hok hh hrd
              by_cases hlt : t < 2
              · have htl : t < P2.length := by have := L2.out; omega
                have hx := HR.out.cells t htl
                have hbad := Lib.hid (HP.out.bad (8 + t) (by omega))
                have hok1 : Hid (okAt l (8 + t) → ∀ n, n < 8 + (t + 1) → okAt l n) := Lib.hid fun h n hn => by
                  rcases Nat.lt_or_ge n (8 + t) with h1 | h1
                  · exact HK.out n h1
                  · obtain rfl : n = 8 + t := by omega
                    exact h
                have hd1 : Hid (okAt l (8 + t) ↔ 48 ≤ (l.getD (8 + t) 0).toNat ∧ (l.getD (8 + t) 0).toNat ≤ 57) := Lib.hid (by unfold okAt isd; rw [if_neg (by omega)])
                have N1 := Lib.hid (num_take P2 t htl)
                have e1 : P2.getD t 0 = l.getD (8 + t) 0 := by rw [← G2.out t htl]; simp [List.getD, List.getElem?_eq_getElem htl]
                rw [e1] at N1
                rw [Nat.zero_add, G2.out t htl] at hx
                clear e1
                have hx256 := (l.getD (8 + t) 0).toNat_lt
                generalize (l.getD (8 + t) 0).toNat = x at hx hd1 N1 hx256
                by_cases hx48 : x < 48
                · have hp0 := hbad.out (fun h => by have := hd1.out.1 h; omega)
                  subst hp0
                  go_wp2
                  go_ret2
                  exact ⟨rfl, hbb⟩
                by_cases hx57 : 57 < x
                · have hp0 := hbad.out (fun h => by have := hd1.out.1 h; omega)
                  subst hp0
                  go_wp2
                  go_ret2
                  exact ⟨rfl, hbb⟩
                have HGD := Lib.hid (hok1.out (hd1.out.2 ⟨by omega, by omega⟩))
                have hw2 := step10 v t (x - 48) 2 hv10.out (by omega) (by omega)
                have HW2 := Lib.hid hw2.1
                have hw3 := hw2.2
                have hcell : wr.cell? ⟨w.heap.size, 2, none⟩ = some (.int .i64 v) := by rw [cell_of_row _ _ _ _ _ _ HC.out]; rfl
                have hfr : wr.frozen? ⟨w.heap.size, 2, none⟩ = false := frozen_of_row _ _ _ _ _ HC.out
                clear hw2
                go_wp2
                go_roundw
                case rel =>
                  rw [show ((v : Int) * 10 + ((x : Int) - 48)) = ((v * 10 + (x - 48) : Nat) : Int) by omega]
                  refine ⟨t + 1, v * 10 + (x - 48), by omega, by go_num, ?_, HW2, by omega, HGD.out, ?_, HR.out.other (by have := HGW1.out; omega), hbb.setCell (Nat.le_refl _) _⟩
                  · rw [N1.out, ← hvn.out]; rfl
                  · rw [heap_setCell_same _ _ _ _ _ _ HC.out]
                    rfl
                case measure => simp [intOf]; omega
              · obtain rfl : t = 2 := by omega
                have hvp : v = num P2 := by
                  have h1 := hvn.out
                  rw [← L2.out, List.take_length] at h1
                  exact h1
                have HVP := Lib.hid hvp
                clear hvp
                go_wp2
                go_roundw
                case rel =>
                  refine ⟨3, a, b, v, by omega, by go_num, HC.out, hbb, ?_, .inr (.inr (.inr ⟨rfl, H1.out, H2.out, HVP.out⟩))⟩
                  intro n hn
                  have hn5 : n < 10 := hn
                  exact HK.out n (by omega)
                case measure => simp [intOf]
          · have hpg := HG.out ⟨HL.out, fun j hj => HOK.out j hj⟩
            rw [← h1, ← h2, ← h3] at hpg
            have HPG := Lib.hid hpg
            clear h1 h2 h3 hpg
            have hc0 : wr.cell? ⟨w.heap.size, 0, none⟩ = some (.int .i64 a) := by rw [cell_of_row _ _ _ _ _ _ HH.out]; rfl
            have hc1 : wr.cell? ⟨w.heap.size, 1, none⟩ = some (.int .i64 b) := by rw [cell_of_row _ _ _ _ _ _ HH.out]; rfl
            have hc2 : wr.cell? ⟨w.heap.size, 2, none⟩ = some (.int .i64 c) := by rw [cell_of_row _ _ _ _ _ _ HH.out]; rfl
            go_wp2_with fail
            refine (HO.out a b c wr).mono ?_
            rintro e w' ⟨rfl, hbo⟩
            go_wp2
            go_ret2
            rw [HPG.out]
            exact ⟨rfl, hb.trans (hbo.mono hb.size)⟩
      · have f1 : ((c7 : Int) != 45) = true := by rw [bne_iff_ne]; omega
        have hp0 := b7.out (fun h => h7 (k7.out.1 h))
        subst hp0
        go_enter Tryz.func59, Tryz.ntmps59
        go_wp2
        go_ret2
        exact ⟨rfl, Below.refl _ _⟩
    · have f1 : ((c4 : Int) != 45) = true := by rw [bne_iff_ne]; omega
      have hp0 := b4.out (fun h => h4 (k4.out.1 h))
      subst hp0
      go_enter Tryz.func59, Tryz.ntmps59
      go_wp2
      go_ret2
      exact ⟨rfl, Below.refl _ _⟩
  · have h9 := hp.short hl
    subst h9
    have hne : ((l.length : Int) != 10) = true := by rw [bne_iff_ne]; omega
    go_enter Tryz.func59, Tryz.ntmps59
    go_wp2
    go_ret2
    exact ⟨rfl, Below.refl _ _⟩
end Go.Proofs.YthlgjbmkealjjaaGreatDoor
