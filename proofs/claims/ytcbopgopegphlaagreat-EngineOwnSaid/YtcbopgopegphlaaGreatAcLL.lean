/-
  Joined texts: AcL AcL2 AcL3 AcR AcR2. No statement is proved here.
-/
import Derived.Test.YtcbopgopegphlaaGreatAcTW
import Derived.Test.YtcbopgopegphlaaGreatCivB
import Derived.Laws.EntriesVeiled
import Derived.Test.YtcbopgopegphlaaGreatAcA
import Derived.Great.BuildSlice
import Derived.Deep.MidRow
namespace Go.Proofs.YtcbopgopegphlaaGreat
open Go.RowKit
set_option linter.unusedVariables false

set_option maxRecDepth 100000 in
set_option maxHeartbeats 2000000 in
theorem Search_any (g : Nat) (cb : Array Value) (n : Nat) (q : Nat → Bool) (w : World) (eg : ∀ args w, (callFunc g args).run Tryz.prog w = .ok (.enter g args) w) (hn : n ≤ 1000000)
    (hf : ∀ W, Below w.heap.size w W → ∀ i : Nat, i < n → Calls Tryz.prog g (#[.int .i64 i] ++ cb) W fun e w' => e = .returned (.bool (q i)) ∧ Below w.heap.size w w') (hm : ∀ a b, a ≤ b → b < n → q a = true → q b = true) :
    Calls Tryz.prog 64 #[.int .i64 n, .func (.func g) #[] cb] w fun e w' => e = .returned (.int .i64 ((List.range n).countP (fun i => !q i) : Nat)) ∧ Below w.heap.size w w' := by
  have HF := Lib.hid hf
  have HM := Lib.hid hm
  obtain ⟨m, hmn, hcnt, hmf, hmt⟩ := count_cut q n hm
  rw [hcnt]
  have HMF := Lib.hid hmf
  have HMT := Lib.hid hmt
  clear hf hm hcnt hmf hmt
  go_enter Tryz.func64, Tryz.ntmps64
  go_wp2
  go_loopw [5, 6] (fun s5 s6 wr => ∃ lo hi : Nat, s5 = .int .i64 lo ∧ s6 = .int .i64 hi ∧ lo ≤ m ∧ m ≤ hi ∧ hi ≤ n ∧ Below w.heap.size w wr) (fun s5 s6 _ => (intOf s6 - intOf s5).toNat)
  case atStart => exact ⟨0, n, rfl, rfl, by omega, by omega, by omega, Below.refl _ _⟩
  case round =>
    obtain ⟨lo, hi, rfl, rfl, h1, h2, h3, hb⟩ := hrel
    by_cases hlt : lo < hi
    · have hc := HF.out wr hb ((lo + hi) / 2) (by omega)
      rw [show (((lo + hi) / 2 : Nat) : Int) = ((lo : Int) + (hi : Int)) / 2 by omega] at hc
      cases hq : q ((lo + hi) / 2)
      · rw [hq] at hc
        have hle : (lo + hi) / 2 + 1 ≤ m := by
          rcases Nat.lt_or_ge ((lo + hi) / 2) m with h | h
          · exact h
          · have := HMT.out _ h (by omega)
            rw [hq] at this; cases this
        clear hq
        go_wp2_with (go_at_fn g; refine hc.mono ?_; rintro e w' ⟨rfl, hb'⟩)
        go_roundw
        case rel => exact ⟨(lo + hi) / 2 + 1, hi, by go_num, rfl, hle, h2, h3, hb'⟩
        case measure => simp [intOf]; omega
      · rw [hq] at hc
        have hle : m ≤ (lo + hi) / 2 := by
          rcases Nat.lt_or_ge ((lo + hi) / 2) m with h | h
          · have := HMF.out _ h
            rw [hq] at this; cases this
          · exact h
        clear hq
        go_wp2_with (go_at_fn g; refine hc.mono ?_; rintro e w' ⟨rfl, hb'⟩)
        go_roundw
        case rel => exact ⟨lo, (lo + hi) / 2, rfl, by go_num, h1, hle, by omega, hb'⟩
        case measure => simp [intOf]; omega
    · obtain rfl : lo = m := by omega
      go_wp2
      go_ret
      exact ⟨rfl, hb⟩
end Go.Proofs.YtcbopgopegphlaaGreat

namespace Go.Proofs.YtcbopgopegphlaaGreat
open Go.RowKit
set_option linter.unusedVariables false

theorem AddDay_any (d k : Int) (w : World) (d0 : -719162 ≤ d) (d1 : d ≤ 2932896) (k0 : -9223372036854775808 ≤ k) (k1 : k ≤ 9223372036854775807) :
    Calls Tryz.prog 63 #[.int .i64 d, .int .i64 k] w fun e w' => e = .returned (.tuple #[.int .i64 (addDay d k).1, .int .i64 (addDay d k).2]) ∧ Below w.heap.size w w' := by
  refine (Add_in d k w d0 d1 k0 k1).mono ?_
  rintro e w' ⟨⟨y, m, a, hv, hd, rfl⟩, hb⟩
  unfold addDay
  rw [partsOf_eq hv hd]
  exact ⟨rfl, hb⟩
theorem refAddDay_any (d k : Int) (w : World) (d0 : -719162 ≤ d) (d1 : d ≤ 2932896) (k0 : -9223372036854775808 ≤ k) (k1 : k ≤ 9223372036854775807) :
    Calls Tryz.prog 56 #[.int .i64 d, .int .i64 k] w fun e w' => e = .returned (.tuple #[.int .i64 (addDay d k).1, .int .i64 (addDay d k).2]) ∧ w = w' := by
  refine (refAdd_in d k w d0 d1 k0 k1).mono ?_
  rintro e w' ⟨⟨y, m, a, hv, hd, rfl⟩, hb⟩
  unfold addDay
  rw [partsOf_eq hv hd]
  exact ⟨rfl, hb⟩
set_option maxRecDepth 100000 in
set_option maxHeartbeats 2000000 in
theorem day_any (bf bp bv : Nat) (first step v k : Int) (w : World) (cf : w.cell? ⟨bf, 0, none⟩ = some (.int .i64 first)) (cp : w.cell? ⟨bp, 3, none⟩ = some (.int .i64 step)) (cv : w.cell? ⟨bv, 0, none⟩ = some (.int .i64 v))
    (f0 : -719162 ≤ first) (f1 : first ≤ 2932896) (s0 : 1 ≤ step) (s1 : step ≤ 120) (k0 : 0 ≤ k) (k1 : k ≤ 1000) :
    Calls Tryz.prog 62 #[.int .i64 k, .pointer (some ⟨bf, 0, none⟩), .pointer (some ⟨bp, 0, none⟩), .pointer (some ⟨bv, 0, none⟩)] w fun e w' =>
      e = .returned (.tuple #[.int .i64 (addDay first (k * step)).1, .bool (decide ((addDay first (k * step)).2 = 0) && decide ((addDay first (k * step)).1 < v))]) ∧ Below w.heap.size w w' := by
  have hks0 : 0 ≤ k * step := Int.mul_nonneg k0 (by omega)
  have hks1 : k * step ≤ 1000 * 120 := Int.mul_le_mul k1 s1 (by omega) (by omega)
  have HA := Lib.hid fun W => AddDay_any first (k * step) W f0 f1 (by omega) (by omega)
  generalize hks : k * step = ks at *
  generalize (addDay first ks).1 = D at *
  generalize (addDay first ks).2 = E at *
  generalize hres : (decide (E = 0) && decide (D < v)) = res
  have HR := Lib.hid hres
  clear hres
  go_enter Tryz.func62, Tryz.ntmps62
  go_wp2_with fail
  refine (HA.out _).mono ?_
  rintro e w1 ⟨rfl, hb⟩
  have dv := cell_later hb cv
  clear cf cp cv
  go_upto_region 2 with (fail)
  by_cases hE : E = 0
  · have e1 : (E == 0) = true := by simp [hE]
    have hres : res = decide (D < v) := by rw [← HR.out, decide_eq_true hE]; simp
    subst hres
    clear hE HR
    go_quiet (fail)
    go_wp2
    go_ret2
    exact ⟨rfl, below_drewN hb _⟩
  · have e1 : (E == 0) = false := by simp [hE]
    have hres : res = false := by rw [← HR.out, decide_eq_false hE]; simp
    subst hres
    clear hE HR
    go_quiet (fail)
    go_wp2
    go_ret2
    exact ⟨rfl, below_drewN hb _⟩
set_option maxRecDepth 100000 in
set_option maxHeartbeats 2000000 in
theorem notDay_any (bd bf bp bv : Nat) (first step v i : Int) (w : World) (cd : w.cell? ⟨bd, 0, none⟩ = some (.func (.func 62) #[] #[.pointer (some ⟨bf, 0, none⟩), .pointer (some ⟨bp, 0, none⟩), .pointer (some ⟨bv, 0, none⟩)]))
    (cf : w.cell? ⟨bf, 0, none⟩ = some (.int .i64 first)) (cp : w.cell? ⟨bp, 3, none⟩ = some (.int .i64 step)) (cv : w.cell? ⟨bv, 0, none⟩ = some (.int .i64 v))
    (f0 : -719162 ≤ first) (f1 : first ≤ 2932896) (s0 : 1 ≤ step) (s1 : step ≤ 120) (k0 : 0 ≤ i) (k1 : i ≤ 900) :
    Calls Tryz.prog 65 #[.int .i64 i, .pointer (some ⟨bd, 0, none⟩)] w fun e w' =>
      e = .returned (.bool (!(decide ((addDay first ((i + 1) * step)).2 = 0) && decide ((addDay first ((i + 1) * step)).1 < v)))) ∧ Below w.heap.size w w' := by
  have HD := Lib.hid (day_any bf bp bv first step v (i + 1) w cf cp cv f0 f1 s0 s1 (by omega) (by omega))
  generalize (addDay first ((i + 1) * step)).1 = D at *
  generalize (decide ((addDay first ((i + 1) * step)).2 = 0) && decide (D < v)) = q at *
  go_enter Tryz.func65, Tryz.ntmps65
  go_wp2_with (go_at_call 62; refine HD.out.mono ?_; rintro e w1 ⟨rfl, hb⟩)
  go_ret
  exact ⟨rfl, hb⟩
set_option maxRecDepth 100000 in
set_option maxHeartbeats 2000000 in
theorem short_any (bo bp br : Nat) (out count repaid i : Int) (w : World) (co : w.cell? ⟨bo, 0, none⟩ = some (.int .i64 out)) (cp : w.cell? ⟨bp, 4, none⟩ = some (.int .i64 count)) (cr : w.cell? ⟨br, 0, none⟩ = some (.int .i64 repaid))
    (o0 : 0 ≤ out) (o1 : out ≤ 1000000000000000) (n0 : 1 ≤ count) (n1 : count ≤ 480) (k0 : 0 ≤ i) (k1 : i ≤ 900) :
    Calls Tryz.prog 66 #[.int .i64 i, .pointer (some ⟨bo, 0, none⟩), .pointer (some ⟨bp, 0, none⟩), .pointer (some ⟨br, 0, none⟩)] w fun e w' =>
      e = .returned (.bool (decide (repaid < (mulDivOf out (i + 1) count).1))) ∧ Below w.heap.size w w' := by
  have HD := Lib.hid fun W => MulDiv_any out (i + 1) count W (by omega) (by omega) (by omega) (by omega) (by omega) (by omega)
  generalize (mulDivOf out (i + 1) count).1 = D at *
  generalize (mulDivOf out (i + 1) count).2 = E at *
  go_enter Tryz.func66, Tryz.ntmps66
  go_wp2_with fail
  refine (HD.out _).mono ?_
  rintro e w1 ⟨rfl, hb⟩
  have dr := cell_later hb cr
  clear co cp cr
  go_wp2
  go_ret
  exact ⟨rfl, hb⟩
end Go.Proofs.YtcbopgopegphlaaGreat

namespace Go.Proofs.YtcbopgopegphlaaGreat
open Go.RowKit
set_option linter.unusedVariables false

theorem rises_head (a : Int) (l : List Int) (h : risesFrom a l) : ∀ b ∈ l, a < b := by
  induction l generalizing a with
  | nil => intro b hb; cases hb
  | cons x l ih =>
    intro b hb
    rcases List.mem_cons.1 hb with rfl | hb
    · exact h.1
    · have := ih x h.2.2 b hb
      have := h.1
      omega
theorem rises_le (a : Int) (l : List Int) (h : risesFrom a l) : ∀ i j : Nat, i ≤ j → ∀ (hj : j < l.length) (hi : i < l.length), l[i] ≤ l[j] := by
  induction l generalizing a with
  | nil => intro i j _ hj; simp at hj
  | cons x l ih =>
    intro i j hij hj hi
    cases j with
    | zero =>
      obtain rfl : i = 0 := by omega
      exact Int.le_refl _
    | succ j =>
      cases i with
      | zero =>
        have hj' : j < l.length := by simpa using hj
        have := rises_head x l h.2.2 l[j] (List.getElem_mem hj')
        simp
        omega
      | succ i => simpa using ih x h.2.2 i j (by omega) (by simpa using hj) (by simpa using hi)
theorem Bucket_any (p : Prod) (hp : p.Ok) (A : Option Addr) (n c : Nat) (days : Int) (w : World) (hA : RdI w A n p.bounds) :
    Calls Tryz.prog 68 #[.slice A n c, .int .i64 (days + 1)] w fun e w' => e = .returned (.int .i64 (bucketOf p days : Nat)) ∧ Below w.heap.size w w' := by
  rcases Nat.eq_zero_or_pos n with h0 | h0
  · subst h0
    have hl : p.bounds = [] := List.eq_nil_of_length_eq_zero hA.len
    refine (sort_SearchInts_none A c (days + 1) w).mono ?_
    rintro e w' ⟨rfl, hb⟩
    refine ⟨?_, hb⟩
    unfold bucketOf
    rw [hl]
    rfl
  · obtain ⟨b, off, rfl⟩ := hA.addr h0
    have hlen := hA.len
    have hlen8 := hp.len
    have hc : ∀ i, i < p.bounds.toArray.size → w.cell? ⟨b, off + i, none⟩ = some ((Value.int .i64) p.bounds.toArray[i]!) := fun i hi => by
      have hi' : i < p.bounds.length := by simpa using hi
      rw [hA.cell i hi']
      rw [getElem!_pos p.bounds.toArray i hi]
      simp
    have h1 := sort_SearchInts b off c p.bounds.toArray (days + 1) w hc (World.block_lt_of_cell? _ _ (hc 0 (by simp; omega))) (by simp; omega) (fun i j hij hj hx => by
      have hj' : j < p.bounds.length := by simpa using hj
      have := rises_le 0 p.bounds hp.rises i j hij hj' (by omega)
      rw [getElem!_pos p.bounds.toArray i (by simp; omega)] at hx
      rw [getElem!_pos p.bounds.toArray j hj]
      simp at hx ⊢
      omega)
    rw [show p.bounds.toArray.size = n by simpa using hlen] at h1
    refine h1.mono ?_
    rintro e w' ⟨rfl, hb⟩
    refine ⟨?_, hb⟩
    unfold bucketOf
    have : (fun y : Int => !decide (days + 1 ≤ y)) = fun y => decide (y ≤ days) := by
      funext y
      by_cases h : y ≤ days
      · rw [decide_eq_true h, decide_eq_false (by omega)]; rfl
      · rw [decide_eq_false h, decide_eq_true (by omega)]; rfl
    rw [this]
set_option maxRecDepth 100000 in
set_option maxHeartbeats 1000000 in
theorem late_any (p : Prod) (A : Option Addr) (n c : Nat) (first out repaid v : Int) (w : World) (hp : p.Ok) (hA : RdI w A n p.bounds) (f0 : -719162 ≤ first) (f1 : first ≤ 2932896) (v0 : -719162 ≤ v) (v1 : v ≤ 2932896)
    (o0 : 0 ≤ out) (o1 : out ≤ 1000000000000000) (r0 : 0 ≤ repaid) (r1 : repaid ≤ 1000000000000000) :
    Calls Tryz.prog 48 #[p.val (.slice A n c), .int .i64 first, .int .i64 out, .int .i64 repaid, .int .i64 v] w fun e w' =>
      e = .returned (.tuple #[.int .i64 (lateOf p first out repaid v), .int .i64 (bucketOf p (lateOf p first out repaid v) : Nat)]) ∧ Below w.heap.size w w' := by
  have hmf : ∀ (fn : Fn) (first cap : Array Value) (w : World), (Instr.makeFunc fn first cap).run Tryz.prog w = .ok (.func fn first cap) w := fun _ _ _ _ => rfl
  unfold Prod.val pCells
  go_enter Tryz.func48, Tryz.ntmps48
  go_upto_region 2 with (fail)
  obtain ⟨m, k, hm, hmc, hk, hkm, hpass, hlate⟩ := late_search p hp first out repaid v f0 f1 o0 o1
  obtain ⟨N, hN⟩ : ∃ N : Nat, p.count = N := Int.eq_ofNat_of_zero_le (by have := hp.count0; omega)
  have hNt : p.count.toNat = N := by omega
  rw [hNt] at hm hmc
  have s0 := hp.step0
  have s1 := hp.step1
  have n0 := hp.count0
  have n1 := hp.count1
  refine wp_at (fun wx => wx.cell? ⟨w.heap.size, 3, none⟩ = some (.int .i64 p.step) ∧ wx.cell? ⟨w.heap.size, 4, none⟩ = some (.int .i64 p.count) ∧ wx.cell? ⟨w.heap.size, 6 + 2, none⟩ = some (.slice A n c) ∧ wx.cell? ⟨w.heap.size + 1, 0, none⟩ = some (.int .i64 first) ∧ wx.cell? ⟨w.heap.size + 1 + 1, 0, none⟩ = some (.int .i64 out) ∧ wx.cell? ⟨w.heap.size + 1 + 1 + 1, 0, none⟩ = some (.int .i64 repaid) ∧
    wx.cell? ⟨w.heap.size + 1 + 1 + 1 + 1, 0, none⟩ = some (.int .i64 v) ∧ wx.cell? ⟨w.heap.size + 1 + 1 + 1 + 1 + 1, 0, none⟩ = some (.func (.func 62) #[] #[.pointer (some ⟨w.heap.size + 1, 0, none⟩), .pointer (some ⟨w.heap.size, 0, none⟩), .pointer (some ⟨w.heap.size + 1 + 1 + 1 + 1, 0, none⟩)]) ∧ Below w.heap.size w wx)
    ⟨by simp [go_sem], by simp [go_sem], by simp [go_sem], by simp [go_sem], by simp [go_sem], by simp [go_sem], by simp [go_sem], by simp [go_sem], ((((((Below.refl _ _).alloc (Nat.le_refl _) _).alloc (by first | (simp; done) | (simp; omega)) _).alloc (by first | (simp; done) | (simp; omega)) _).alloc (by first | (simp; done) | (simp; omega)) _).alloc (by first | (simp; done) | (simp; omega)) _).alloc (by first | (simp; done) | (simp; omega)) _⟩ ?_
  rintro w1 ⟨c3, c4, c8, cf, co, cr, cv, cd, hb1⟩
  rw [hN] at c4
  have S1 := Lib.hid (Search_any 65 #[.pointer (some ⟨w.heap.size + 1 + 1 + 1 + 1 + 1, 0, none⟩)] N (fun i => !passed p first v i) w1 (enters_of Tryz.func65 (by kernel_rfl) rfl) (by omega)
    (fun W hW i hi => notDay_any _ _ _ _ first p.step v i W (cell_later hW cd) (cell_later hW cf) (cell_later hW c3) (cell_later hW cv) f0 f1 s0 s1 (by omega) (by omega) |>.mono fun e W2 ⟨h1, h2⟩ => ⟨h1, hW.trans (h2.mono hW.size)⟩)
    (fun a b h1 h2 h3 => by
      cases hb : passed p first v b
      · rfl
      · have := passed_mono p hp first v f0 f1 a b h1 hb
        simp [this] at h3))
  rw [hm] at S1
  have S2 : Hid (∀ W1, Below w1.heap.size w1 W1 → Calls Tryz.prog 64 #[.int .i64 m, .func (.func 66) #[] #[.pointer (some ⟨w.heap.size + 1 + 1, 0, none⟩), .pointer (some ⟨w.heap.size, 0, none⟩), .pointer (some ⟨w.heap.size + 1 + 1 + 1, 0, none⟩)]] W1 fun e w' => e = .returned (.int .i64 (k : Nat)) ∧ Below W1.heap.size W1 w') := Lib.hid fun W1 hW1 => by
    have h := Search_any 66 #[.pointer (some ⟨w.heap.size + 1 + 1, 0, none⟩), .pointer (some ⟨w.heap.size, 0, none⟩), .pointer (some ⟨w.heap.size + 1 + 1 + 1, 0, none⟩)] m (fun i => short p out repaid i) W1 (enters_of Tryz.func66 (by kernel_rfl) rfl) (by omega)
      (fun W hW i hi => short_any _ _ _ out p.count repaid i W (cell_later (hW1.trans (hW.mono hW1.size)) co) (by rw [hN]; exact cell_later (hW1.trans (hW.mono hW1.size)) c4) (cell_later (hW1.trans (hW.mono hW1.size)) cr) o0 o1 n0 n1 (by omega) (by omega) |>.mono fun e W2 ⟨h1, h2⟩ => ⟨h1, hW.trans (h2.mono hW.size)⟩)
      (fun a b h1 h2 h3 => by
        simp only [short, decide_eq_true_eq] at h3 ⊢
        have := due_mono out ((a + 1 : Nat) : Int) ((b + 1 : Nat) : Int) p.count o0 o1 (by omega) (by omega) (by omega) (by omega)
        omega)
    rw [hk] at h
    exact h
  have hA1 := Lib.hid (hA.below hb1)
  have HB := Lib.hid fun days W hW => Bucket_any p hp A n c days W (RdI.below hA1.out hW)
  have HDAY := Lib.hid fun W (hW : Below w1.heap.size w1 W) => day_any _ _ _ first p.step v ((k : Int) + 1) W (cell_later hW cf) (cell_later hW c3) (cell_later hW cv) f0 f1 s0 s1 (by omega) (by omega)
  have HL := Lib.hid hlate
  have HP := Lib.hid hpass
  have hcast : (((k + 1 : Nat) : Int)) = (k : Int) + 1 := rfl
  rw [hcast] at HL
  have HRG := Lib.hid fun h => addDay_range first (((k : Int) + 1) * p.step) f0 f1 h
  generalize (addDay first (((k : Int) + 1) * p.step)).1 = D at *
  clear hlate hpass hm hk hA cf co cr c3
  go_wp2_with fail
  refine S1.out.mono ?_
  rintro e w2 ⟨rfl, hb2⟩
  clear S1 c4
  go_wp2_with fail
  refine (S2.out _ hb2).mono ?_
  rintro e w3 ⟨rfl, hb3⟩
  have hb13 := hb2.trans (hb3.mono hb2.size)
  have hbw3 := hb1.trans (hb13.mono hb1.size)
  have d8 := cell_later hb13 c8
  have dd := cell_later hb13 cd
  have dv := cell_later hb13 cv
  have hday := HDAY.out w3 hb13
  clear S2 c8 cd cv hb2 hb3
  by_cases hlt : k < m
  · have hps := HP.out hlt
    simp only [passed, Bool.and_eq_true, decide_eq_true_eq] at hps
    obtain ⟨D0, D1⟩ := HRG.out hps.1
    have HLL : Hid (lateOf p first out repaid v = v - D) := Lib.hid (HL.out.trans (if_pos hlt))
    clear HL HP hps HRG HDAY
    go_wp2_with fail
    refine hday.mono ?_
    rintro e w4 ⟨rfl, hb4⟩
    have e8 := cell_later hb4 d8
    have ev := cell_later hb4 dv
    have HBK := Lib.hid (HB.out (v - D) w4 (hb13.trans (hb4.mono hb13.size)))
    have HBE := Lib.hid (hbw3.trans (hb4.mono hbw3.size))
    clear hday d8 dd dv HB hb4
    go_wp2_with fail
    refine HBK.out.mono ?_
    rintro e w5 ⟨rfl, hb5⟩
    have hend := HBE.out.trans (hb5.mono HBE.out.size)
    clear HBK HBE hb5 e8 ev
    go_wp2
    go_ret2
    exact ⟨by rw [HLL.out]; rfl, hend⟩
  · have HLL : Hid (lateOf p first out repaid v = 0) := Lib.hid (HL.out.trans (if_neg hlt))
    have HBK := Lib.hid (HB.out 0 w3 hb13)
    clear HL HP HRG HDAY hday dd dv HB
    go_wp2_with fail
    refine HBK.out.mono ?_
    rintro e w5 ⟨rfl, hb5⟩
    have hend := hbw3.trans (hb5.mono hbw3.size)
    clear HBK hb5 d8
    go_wp2
    go_ret2
    exact ⟨by rw [HLL.out]; rfl, hend⟩
end Go.Proofs.YtcbopgopegphlaaGreat

namespace Go.Proofs.YtcbopgopegphlaaGreat
open Go.RowKit
set_option linter.unusedVariables false

theorem info_prod (p : Prod) (B : Value) : (Tryz.prog.info? 25).map (·.size) = some (pCells p B).size := by rw [show (pCells p B).size = 9 from rfl]; kernel_rfl
theorem info_ln (p : Prod) (B : Value) (L : Ln) : (Tryz.prog.info? 69).map (·.size) = some (lnCells p B L).size := by rw [show (lnCells p B L).size = 24 from rfl]; kernel_rfl
theorem info_st (s : St) : (Tryz.prog.info? 45).map (·.size) = some (stCells s).size := by rw [show (stCells s).size = 12 from rfl]; kernel_rfl
def bset (a b x : Int) : Bool := decide (a ≤ x) && decide (x ≤ b)
theorem bset_iff (a b x : Int) : bset a b x = true ↔ a ≤ x ∧ x ≤ b := by unfold bset; simp
end Go.Proofs.YtcbopgopegphlaaGreat

namespace Go.Proofs.YtcbopgopegphlaaGreat
open Go.RowKit
set_option linter.unusedVariables false

theorem built_1 {P : Program} {t : TypeId} {i : Nat} {V : Value} {C : Array Value} (h : P.built t [(i, V)] = some C) (a : Act) (x : Operand) (hx : a.eval x = V) :
    P.built t ((#[(i, x)] : Array (Nat × Operand)).map fun (i, x) => (i, a.eval x)).toList = some C := by
  rw [← h]
  simp [hx]
theorem built_2 {P : Program} {t : TypeId} {i j : Nat} {V W : Value} {C : Array Value} (h : P.built t [(i, V), (j, W)] = some C) (a : Act) (x y : Operand) (hx : a.eval x = V) (hy : a.eval y = W) :
    P.built t ((#[(i, x), (j, y)] : Array (Nat × Operand)).map fun (i, x) => (i, a.eval x)).toList = some C := by
  rw [← h]
  simp [hx, hy]
theorem below_row {B g : Nat} {a b : World} (h : Below B a b) (hg : B ≤ g) (cs : Array Value) : Below B a (b.setRow g cs) :=
  ⟨h.os, h.tape, h.output, by rw [setRow_size]; exact h.size, fun i hi => by rw [setRow_other _ _ _ _ (by omega)]; exact h.block i hi⟩
set_option maxRecDepth 100000 in
set_option maxHeartbeats 2000000 in
theorem Begin_any (p : Prod) (B : Value) (hB : B.oneCell' = true) (w : World) :
    Calls Tryz.prog 29 #[p.val B] w fun e w' => e = .returned (.agg (lnCells p B (Ln.start p))) ∧ Below w.heap.size w w' := by
  obtain ⟨name, rate, conv, step, count, o1, o2, o3, bounds⟩ := p
  unfold Prod.val pCells lnCells Ln.start
  simp only
  obtain ⟨w1, hw1⟩ : ∃ w1, w1 = w.alloc (.cells #[.string name, .int .i64 rate, .int .i64 conv, .int .i64 step, .int .i64 count, .int .i64 o1, .int .i64 o2, .int .i64 o3, B] 25) := ⟨_, rfl⟩
  have hb1 : Below w.heap.size w w1 := by rw [hw1]; exact (Below.refl _ _).alloc (Nat.le_refl _) _
  have hz1 : w1.heap.size = w.heap.size + 1 := by rw [hw1]; simp
  have hS1 : w1.heap[w.heap.size]? = some (.cells #[.string name, .int .i64 rate, .int .i64 conv, .int .i64 step, .int .i64 count, .int .i64 o1, .int .i64 o2, .int .i64 o3, B] 25 (0, 0)) := by rw [hw1]; exact heap_alloc_new _ _
  go_enter Tryz.func29, Tryz.ntmps29
  go_upto_region 1 with (fail)
  rw [← hw1]
  clear hw1
  have h29 : Tryz.prog.built 45 [(1, .int .i64 rate)] = some #[.int .i64 0, .int .i64 rate, .int .i64 0, .int .i64 0, .int .i64 0, .int .i64 0, .int .i64 0, .int .i64 0, .int .i64 0, .int .i64 0, .int .i64 0, .int .i64 0] := by kernel_rfl
  have h61 : Tryz.prog.built 69 [(0, .agg #[.string name, .int .i64 rate, .int .i64 conv, .int .i64 step, .int .i64 count, .int .i64 o1, .int .i64 o2, .int .i64 o3, B]), (1, .agg #[.int .i64 0, .int .i64 rate, .int .i64 0, .int .i64 0, .int .i64 0, .int .i64 0, .int .i64 0, .int .i64 0, .int .i64 0, .int .i64 0, .int .i64 0, .int .i64 0])] = some #[.string name, .int .i64 rate, .int .i64 conv, .int .i64 step, .int .i64 count, .int .i64 o1, .int .i64 o2, .int .i64 o3, B, .int .i64 0, .int .i64 rate, .int .i64 0, .int .i64 0, .int .i64 0, .int .i64 0, .int .i64 0, .int .i64 0, .int .i64 0, .int .i64 0, .int .i64 0, .int .i64 0, .int .i64 0, .bool false, .bool false] := by kernel_rfl
  have hi25 : (Tryz.prog.info? 25).map (·.size) = some (#[.string name, .int .i64 rate, .int .i64 conv, .int .i64 step, .int .i64 count, .int .i64 o1, .int .i64 o2, .int .i64 o3, B] : Array Value).size := by rw [show (#[.string name, .int .i64 rate, .int .i64 conv, .int .i64 step, .int .i64 count, .int .i64 o1, .int .i64 o2, .int .i64 o3, B] : Array Value).size = 9 from rfl]; kernel_rfl
  have hi61 : (Tryz.prog.info? 69).map (·.size) = some (#[.string name, .int .i64 rate, .int .i64 conv, .int .i64 step, .int .i64 count, .int .i64 o1, .int .i64 o2, .int .i64 o3, B, .int .i64 0, .int .i64 rate, .int .i64 0, .int .i64 0, .int .i64 0, .int .i64 0, .int .i64 0, .int .i64 0, .int .i64 0, .int .i64 0, .int .i64 0, .int .i64 0, .int .i64 0, .bool false, .bool false] : Array Value).size := by rw [show (#[.string name, .int .i64 rate, .int .i64 conv, .int .i64 step, .int .i64 count, .int .i64 o1, .int .i64 o2, .int .i64 o3, B, .int .i64 0, .int .i64 rate, .int .i64 0, .int .i64 0, .int .i64 0, .int .i64 0, .int .i64 0, .int .i64 0, .int .i64 0, .int .i64 0, .int .i64 0, .int .i64 0, .int .i64 0, .bool false, .bool false] : Array Value).size = 24 from rfl]; kernel_rfl
  have hone : (#[.string name, .int .i64 rate, .int .i64 conv, .int .i64 step, .int .i64 count, .int .i64 o1, .int .i64 o2, .int .i64 o3, B, .int .i64 0, .int .i64 rate, .int .i64 0, .int .i64 0, .int .i64 0, .int .i64 0, .int .i64 0, .int .i64 0, .int .i64 0, .int .i64 0, .int .i64 0, .int .i64 0, .int .i64 0, .bool false, .bool false] : Array Value).all (·.oneCell') = true := by simp [hB]; simp [Value.oneCell']
  obtain ⟨w2, hw2⟩ : ∃ w2, w2 = w1.alloc (.cells #[.string ⟨#[]⟩, .int .i64 0, .int .i64 0, .int .i64 0, .int .i64 0, .int .i64 0, .int .i64 0, .int .i64 0, .slice none 0 0, .int .i64 0, .int .i64 0, .int .i64 0, .int .i64 0, .int .i64 0, .int .i64 0, .int .i64 0, .int .i64 0, .int .i64 0, .int .i64 0, .int .i64 0, .int .i64 0, .int .i64 0, .bool false, .bool false] 69) := ⟨_, rfl⟩
  have hS2 : w2.heap[w.heap.size]? = some (.cells #[.string name, .int .i64 rate, .int .i64 conv, .int .i64 step, .int .i64 count, .int .i64 o1, .int .i64 o2, .int .i64 o3, B] 25 (0, 0)) := by rw [hw2]; exact heap_old hS1
  have hL2 : w2.heap[w.heap.size + 1]? = some (.cells #[.string ⟨#[]⟩, .int .i64 0, .int .i64 0, .int .i64 0, .int .i64 0, .int .i64 0, .int .i64 0, .int .i64 0, .slice none 0 0, .int .i64 0, .int .i64 0, .int .i64 0, .int .i64 0, .int .i64 0, .int .i64 0, .int .i64 0, .int .i64 0, .int .i64 0, .int .i64 0, .int .i64 0, .int .i64 0, .int .i64 0, .bool false, .bool false] 69 (0, 0)) := by rw [hw2, ← hz1]; exact heap_alloc_new _ _
  have hb2 : Below w.heap.size w w2 := by rw [hw2]; exact hb1.alloc (by omega) _
  have cr : w2.cell? ⟨w.heap.size, 1, none⟩ = some (.int .i64 rate) := by rw [cell_of_row _ _ _ _ _ _ hS2]; rfl
  rw [← hw2]
  clear hw2 hS1
  go_step
  refine wpList_load_row rfl 25 _ rfl _ rfl _ _ _ _ hS2 Tryz.underlying25 rfl hi25 ?_
  refine run_to rfl _ rfl (.pointer (some ⟨w.heap.size, 1, none⟩)) w2 (by simp [execOp, go_sem]; done) ?_
  refine run_to rfl _ rfl (.int .i64 rate) w2 (by simp [execOp, go_sem, cr]; done) ?_
  refine wpList_buildTo rfl 45 _ rfl _ rfl _ (built_1 h29 _ _ rfl) ?_
  refine wpList_buildTo rfl 69 _ rfl _ rfl _ (built_2 h61 _ _ _ rfl rfl) ?_
  refine wpList_store_rowTo rfl 69 _ _ rfl rfl _ _ rfl rfl _ _ hL2 hi61 rfl hone ?_
  go_wp2
  refine bodyPost_ret (results_cell_row (fn := Tryz.f29) rfl _ _ (w.heap.size + 1) 69 _ (0, 0) _ rfl (setRow_heap _ _ _ _ _ _ hL2) Tryz.underlying69 rfl hi61) rfl ⟨rfl, below_row hb2 (by omega) _⟩
theorem results_cell2E {P : Program} {fn : Func} {p u : Tmp} {ty : TypeId} (h : fn.results = #[.cell p ty, .tmp u]) (tmps : Array Value) (w : World) (g : Nat) (t : TypeId) (cs : Array Value) (fr : Nat × Nat) (d : TypeDesc)
    (hp : tmps.getD p undef = .pointer (some ⟨g, 0, none⟩)) (hg : w.heap[g]? = some (.cells cs t fr))
    (hu : P.underlying ty = some d) (hd : (match d with | .struct _ | .array _ _ => true | _ => false) = true) (hi : (P.info? ty).map (·.size) = some cs.size) :
    (results fn tmps).run P w = .ok (.tuple #[.agg cs, tmps.getD u undef]) w := by
  have hp' : tmps[p]?.getD undef = .pointer (some ⟨g, 0, none⟩) := by simpa using hp
  simp [results, h, hp', asAddr, run_loadVar_row w g t ty cs fr d hg hu hd hi]
theorem st_one (s : St) : (stCells s).all (·.oneCell') = true := by simp [stCells, Value.oneCell']
theorem built_z {a : Act} : Tryz.prog.built 45 ((#[] : Array (Nat × Operand)).map fun (i, x) => (i, a.eval x)).toList = some (stCells St.zero) := by
  have h : Tryz.prog.built 45 [] = some (stCells St.zero) := by kernel_rfl
  rw [← h]
  simp
set_option maxRecDepth 100000 in
set_option maxHeartbeats 2000000 in
theorem End_any (p : Prod) (A : Option Addr) (n c : Nat) (L : Ln) (v : Int) (w : World) (hp : p.Ok) (hL : L.Fine) (v0 : -719162 ≤ v) (v1 : v ≤ 2932896) (hA : RdI w A n p.bounds) :
    Calls Tryz.prog 31 #[.agg (lnCells p (.slice A n c) L), .int .i64 v] w fun e w' => Below w.heap.size w w' ∧ (endOf p L v = none ∧ e = .returned (.tuple #[St.zero.val, .int .i64 4]) ∨ ∃ s, endOf p L v = some s ∧ e = .returned (.tuple #[s.val, .int .i64 0])) := by
  obtain ⟨S, hS⟩ : ∃ S, S = lnCells p (.slice A n c) L := ⟨_, rfl⟩
  have hi : (Tryz.prog.info? 69).map (·.size) = some S.size := by rw [hS]; exact info_ln _ _ _
  obtain ⟨w1, hw1⟩ : ∃ w1, w1 = (w.alloc (.cells S 69)).alloc (.cells #[.int .i64 0, .int .i64 0, .int .i64 0, .int .i64 0, .int .i64 0, .int .i64 0, .int .i64 0, .int .i64 0, .int .i64 0, .int .i64 0, .int .i64 0, .int .i64 0] 45) := ⟨_, rfl⟩
  have hz1 : w1.heap.size = w.heap.size + 2 := by rw [hw1]; simp
  have hb1 : Below w.heap.size w w1 := by rw [hw1]; exact ((Below.refl _ _).alloc (Nat.le_refl _) _).alloc (by simp) _
  have hS1 : EvRow w.heap.size p (.slice A n c) L w1 := by rw [hw1]; unfold EvRow; rw [← hS]; exact heap_old (heap_alloc_new _ _)
  have hT1 : w1.heap[w.heap.size + 1]? = some (.cells (stCells St.zero) 45 (0, 0)) := by rw [hw1, ← World.size_alloc w]; exact heap_alloc_new _ _
  have HTo := Lib.hid (To_any w.heap.size p (.slice A n c) L v w1 hp hL v0 v1 hS1)
  rw [← hS]
  clear hS
  go_enter Tryz.func31, Tryz.ntmps31
  go_upto_region 1 with (fail)
  rw [← hw1]
  clear hw1
  go_wp2_with fail
  refine HTo.out.mono ?_
  rintro e w2 ⟨hk2, (⟨hn, rfl⟩ | ⟨M, hm, rfl, hr2⟩)⟩
  · have HN : Hid (endOf p L v = none) := Lib.hid (by unfold endOf; rw [hn])
    have hT2 := (hk2.block (w.heap.size + 1) (by omega) (by omega)).trans hT1
    have hb2 := hb1.trans (hk2.below (Nat.le_refl _) (by omega))
    clear hn hk2 hT1 hS1 HTo
    go_wp2_with (first
      | (refine wpList_buildTo rfl 45 _ rfl _ rfl _ built_z ?_)
      | (refine wpList_store_rowTo rfl 45 _ _ rfl rfl _ _ rfl rfl _ _ hT2 (info_st St.zero) rfl (st_one _) ?_))
    refine bodyPost_ret (results_cell2E (fn := Tryz.f31) rfl _ _ (w.heap.size + 1) 45 (stCells St.zero) (0, 0) _ rfl (setRow_heap _ _ _ _ _ _ hT2) Tryz.underlying45 rfl (info_st St.zero)) rfl ⟨below_row hb2 (by omega) _, .inl ⟨HN.out, rfl⟩⟩
  have hF := toDay_fine hL v0 v1 hm
  have hM := hF.1
  have hfi : M.lent = true → -719162 ≤ M.first ∧ M.first ≤ 2932896 := hM.first
  have HE : Hid (endOf p L v = some (if M.lent then { M.s with day := v, late := lateOf p M.first M.s.o (M.s.o - M.s.p) v, bk := (bucketOf p (lateOf p M.first M.s.o (M.s.o - M.s.p) v) : Nat) } else { M.s with day := v })) := Lib.hid (by unfold endOf; rw [hm])
  have hT2 := (hk2.block (w.heap.size + 1) (by omega) (by omega)).trans hT1
  have hb2 := hb1.trans (hk2.below (Nat.le_refl _) (by omega))
  have hz2 := hk2.size
  have k9 : w2.cell? ⟨w.heap.size, 9, none⟩ = some (.int .i64 M.s.day) := by rw [cell_of_row _ _ _ _ _ _ hr2]; rfl
  have f9 : w2.frozen? ⟨w.heap.size, 9, none⟩ = false := by simp [World.frozen?, hr2]
  obtain ⟨r1, q1⟩ := row_set (i := 9) (.int .i64 v) hr2
  have HR1 : Hid (EvRow w.heap.size p (.slice A n c) ⟨{ M.s with day := v }, M.first, M.began, M.lent⟩ (w2.setCell ⟨w.heap.size, 9, none⟩ (.int .i64 v))) := Lib.hid r1
  have HQ1 := Lib.hid q1
  have HP0 := hM.p0
  have HP1 := hM.p1
  have HO1 := hM.o1
  clear hk2 hT1 hS1 HTo r1 q1 hF hM hm hr2
  go_upto_region 5 with (fail)
  refine wp_at (fun wx => EvRow w.heap.size p (.slice A n c) ⟨{ M.s with day := v }, M.first, M.began, M.lent⟩ wx ∧ KeptBut w.heap.size w2 wx) ⟨HR1.out, HQ1.out⟩ ?_
  rintro w3 ⟨hr3, hk3⟩
  have hT3 := (hk3.block (w.heap.size + 1) (by omega) (by omega)).trans hT2
  have hb3 := hb2.trans (hk3.below (Nat.le_refl _) (by omega))
  have hz3 := hk3.size
  clear HR1 HQ1 k9 f9 hT2 hk3 hb2
  have c23 : w3.cell? ⟨w.heap.size, 23, none⟩ = some (.bool M.lent) := by rw [cell_of_row _ _ _ _ _ _ hr3]; rfl
  cases hl : M.lent
  · rw [hl] at c23
    have HN := Lib.hid (HE.out.trans (by rw [hl]; rfl) : endOf p L v = some { M.s with day := v })
    have hmid : w3.rangeAt w.heap.size 9 (stCells { M.s with day := v }).toList := fun j u hu => by
      rw [cell_of_row _ _ _ _ _ _ hr3]
      have hj : j < 12 := by
        have := (List.getElem?_eq_some_iff.1 hu).1
        simpa [stCells] using this
      rcases (show j = 0 ∨ j = 1 ∨ j = 2 ∨ j = 3 ∨ j = 4 ∨ j = 5 ∨ j = 6 ∨ j = 7 ∨ j = 8 ∨ j = 9 ∨ j = 10 ∨ j = 11 by omega) with rfl | rfl | rfl | rfl | rfl | rfl | rfl | rfl | rfl | rfl | rfl | rfl <;> exact hu
    have hi12 : (Tryz.prog.info? 45).map (·.size) = some (stCells { M.s with day := v }).toList.length := by rw [show (stCells { M.s with day := v }).toList.length = 12 from rfl]; kernel_rfl
    clear HE hfi hr3
    generalize ({ M.s with day := v } : St) = T at *
    go_wp2_with (first
      | (refine wpList_load_mid rfl 45 _ rfl w.heap.size 9 rfl (stCells T).toList _ hmid Tryz.underlying45 rfl hi12 ?_)
      | (refine wpList_store_rowTo rfl 45 _ _ rfl rfl _ _ rfl rfl _ _ hT3 (info_st T) rfl (st_one _) ?_))
    refine bodyPost_ret (results_cell2E (fn := Tryz.f31) rfl _ _ (w.heap.size + 1) 45 (stCells T) (0, 0) _ rfl (setRow_heap _ _ _ _ _ _ hT3) Tryz.underlying45 rfl (info_st T)) rfl ⟨below_row hb3 (by omega) _, .inr ⟨T, HN.out, rfl⟩⟩
  · rw [hl] at c23
    obtain ⟨m0, m1⟩ := hfi hl
    have HN := Lib.hid (HE.out.trans (by rw [hl]; rfl) : endOf p L v = some { M.s with day := v, late := lateOf p M.first M.s.o (M.s.o - M.s.p) v, bk := (bucketOf p (lateOf p M.first M.s.o (M.s.o - M.s.p) v) : Nat) })
    have HL := Lib.hid (late_any p A n c M.first M.s.o (M.s.o - M.s.p) v w3 hp (hA.below hb3) m0 m1 v0 v1 (by omega) (by omega) (by omega) (by omega))
    generalize lateOf p M.first M.s.o (M.s.o - M.s.p) v = LL at *
    generalize ((bucketOf p LL : Nat) : Int) = BB at *
    have hpm : w3.rangeAt w.heap.size 0 (pCells p (.slice A n c)).toList := fun j u hu => by
      rw [cell_of_row _ _ _ _ _ _ hr3]
      have hj : j < 9 := by
        have := (List.getElem?_eq_some_iff.1 hu).1
        simpa [pCells] using this
      rcases (show j = 0 ∨ j = 1 ∨ j = 2 ∨ j = 3 ∨ j = 4 ∨ j = 5 ∨ j = 6 ∨ j = 7 ∨ j = 8 by omega) with rfl | rfl | rfl | rfl | rfl | rfl | rfl | rfl | rfl <;> exact hu
    have hi9 : (Tryz.prog.info? 25).map (·.size) = some (pCells p (.slice A n c)).toList.length := by rw [show (pCells p (.slice A n c)).toList.length = 9 from rfl]; kernel_rfl
    have c21 : w3.cell? ⟨w.heap.size, 21, none⟩ = some (.int .i64 M.first) := by rw [cell_of_row _ _ _ _ _ _ hr3]; rfl
    have c15 : w3.cell? ⟨w.heap.size, 15, none⟩ = some (.int .i64 M.s.o) := by rw [cell_of_row _ _ _ _ _ _ hr3]; rfl
    have c11 : w3.cell? ⟨w.heap.size, 11, none⟩ = some (.int .i64 M.s.p) := by rw [cell_of_row _ _ _ _ _ _ hr3]; rfl
    have HR3 := Lib.hid hr3
    have HT3 := Lib.hid hT3
    clear hr3 hT3 HE hfi
    rw [show p.val (.slice A n c) = .agg (pCells p (.slice A n c)).toList.toArray from rfl] at HL
    generalize (pCells p (.slice A n c)).toList = PL at *
    go_upto_region 6 with (fail)
    go_wp2_with (first
      | (refine wpList_load_mid rfl 25 _ rfl w.heap.size 0 rfl PL _ hpm Tryz.underlying25 rfl hi9 ?_)
      | (fail))
    refine HL.out.mono ?_
    rintro e w4 ⟨rfl, hb4⟩
    have hr4 : EvRow w.heap.size p (.slice A n c) ⟨{ M.s with day := v }, M.first, M.began, M.lent⟩ w4 := (hb4.block w.heap.size (by omega)).trans HR3.out
    have hT4 := (hb4.block (w.heap.size + 1) (by omega)).trans HT3.out
    have hbb4 := hb3.trans (hb4.mono hb3.size)
    have d19 : w4.cell? ⟨w.heap.size, 19, none⟩ = some (.int .i64 M.s.late) := by rw [cell_of_row _ _ _ _ _ _ hr4]; rfl
    have d20 : w4.cell? ⟨w.heap.size, 20, none⟩ = some (.int .i64 M.s.bk) := by rw [cell_of_row _ _ _ _ _ _ hr4]; rfl
    have z19 : w4.frozen? ⟨w.heap.size, 19, none⟩ = false := by simp [World.frozen?, hr4]
    have z20 : w4.frozen? ⟨w.heap.size, 20, none⟩ = false := by simp [World.frozen?, hr4]
    obtain ⟨r1, q1⟩ := row_set (i := 19) (.int .i64 LL) hr4
    obtain ⟨r2, q2⟩ := row_set (i := 20) (.int .i64 BB) r1
    have HR5 : Hid (EvRow w.heap.size p (.slice A n c) ⟨{ M.s with day := v, late := LL, bk := BB }, M.first, M.began, M.lent⟩ ((w4.setCell ⟨w.heap.size, 19, none⟩ (.int .i64 LL)).setCell ⟨w.heap.size, 20, none⟩ (.int .i64 BB))) := Lib.hid r2
    have HQ5 := Lib.hid (q1.trans q2)
    have hz4 := hb4.size
    clear r1 q1 r2 q2 hr4 hb4 HL c23 c21 c15 c11 hpm
    go_upto_region 7 with (fail)
    refine wp_at (fun wx => EvRow w.heap.size p (.slice A n c) ⟨{ M.s with day := v, late := LL, bk := BB }, M.first, M.began, M.lent⟩ wx ∧ KeptBut w.heap.size w4 wx) ⟨HR5.out, HQ5.out⟩ ?_
    rintro w5 ⟨hr5, hk5⟩
    have hT5 := (hk5.block (w.heap.size + 1) (by omega) (by omega)).trans hT4
    have hb5 := hbb4.trans (hk5.below (Nat.le_refl _) (by omega))
    clear HR5 HQ5 hk5 hT4 hbb4 d19 d20 z19 z20
    have hmid : w5.rangeAt w.heap.size 9 (stCells { M.s with day := v, late := LL, bk := BB }).toList := fun j u hu => by
      rw [cell_of_row _ _ _ _ _ _ hr5]
      have hj : j < 12 := by
        have := (List.getElem?_eq_some_iff.1 hu).1
        simpa [stCells] using this
      rcases (show j = 0 ∨ j = 1 ∨ j = 2 ∨ j = 3 ∨ j = 4 ∨ j = 5 ∨ j = 6 ∨ j = 7 ∨ j = 8 ∨ j = 9 ∨ j = 10 ∨ j = 11 by omega) with rfl | rfl | rfl | rfl | rfl | rfl | rfl | rfl | rfl | rfl | rfl | rfl <;> exact hu
    have hi12 : (Tryz.prog.info? 45).map (·.size) = some (stCells { M.s with day := v, late := LL, bk := BB }).toList.length := by rw [show (stCells { M.s with day := v, late := LL, bk := BB }).toList.length = 12 from rfl]; kernel_rfl
    clear hr5
    generalize ({ M.s with day := v, late := LL, bk := BB } : St) = T at *
    go_wp2_with (first
      | (refine wpList_load_mid rfl 45 _ rfl w.heap.size 9 rfl (stCells T).toList _ hmid Tryz.underlying45 rfl hi12 ?_)
      | (refine wpList_store_rowTo rfl 45 _ _ rfl rfl _ _ rfl rfl _ _ hT5 (info_st T) rfl (st_one _) ?_))
    refine bodyPost_ret (results_cell2E (fn := Tryz.f31) rfl _ _ (w.heap.size + 1) 45 (stCells T) (0, 0) _ rfl (setRow_heap _ _ _ _ _ _ hT5) Tryz.underlying45 rfl (info_st T)) rfl ⟨below_row hb5 (by omega) _, .inr ⟨T, HN.out, rfl⟩⟩
end Go.Proofs.YtcbopgopegphlaaGreat
