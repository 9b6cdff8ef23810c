/-
  The walks of the library's stable sort. No statement is proved here.
-/
import Derived.Test.YtcbopgopegphlaaGreatChecked
import Derived.Test.YtcbopgopegphlaaGreatSoP
import Derived.Test.YtcbopgopegphlaaGreatLib
import Derived.Shelf.SlSortCmp.KitK
import Derived.Deep.LoopGhost
import Derived.Deep.Cut
import Derived.Deep.CutRange
namespace Go.Proofs.YtcbopgopegphlaaGreat
open Go.Shelf Go.RowKit Go.Lib Go.Sort
set_option linter.unusedVariables false

theorem el_agg (w : World) : (isAgg 39).run Tryz.prog w = .ok true w := by kernel_rfl
section
variable {α : Type} [Inhabited α]
set_option maxHeartbeats 4000000 in
set_option maxRecDepth 1000000 in
theorem swapRange_any (k : Nat) (zE : ∀ w, (Go.sizeOf 39).run Tryz.prog w = .ok k w) (enc : α → List Value) (g : Nat) (cb : Array Value) (blk off cap N a b n : Nat) (d0 d : Array α) (w0 w : World)
    (R : RowK enc k w0 blk off d0) (hs : d0.size = N) (hN : d.size = N) (S : SWK enc k w0 blk off d w) (ha : a + n ≤ N) (hb : b + n ≤ N) (hsz : N < 4611686018427387904) :
    Calls Tryz.prog 119 #[.slice (some ⟨blk, off, none⟩) N cap, .int .i64 a, .int .i64 b, .int .i64 n, .func (.func g) #[] cb] w fun e w' => e = .returned (.tuple #[]) ∧ SWK enc k w0 blk off (swapFrom a b n 0 d) w' := by
  have mixed : Tryz.prog.follows .mixedOrders = true := by kernel_rfl
  have aE := el_agg
  have S0 : Aside (SWK enc k w0 blk off d w) := S
  clear S
  go_enter Tryz.func119, Tryz.ntmps119
  go_wp2
  go_loopg [10] n (fun kx s10 wr => ∃ (i : Nat) (dk : Array α), s10 = .int .i64 i ∧ i ≤ n ∧ n - i ≤ kx ∧ dk.size = N ∧ Aside (SWK enc k w0 blk off dk wr) ∧ Aside (swapFrom a b n i dk = swapFrom a b n 0 d))
  case atStart => exact ⟨0, d, rfl, by omega, by omega, hN, S0, rfl⟩
  case round =>
    clear S0
    obtain ⟨i, dk, rfl, hin, hkx, hds, S1, heq⟩ := hrel
    by_cases hlt : i < n
    · have hltz : (i : Int) < (n : Int) := by omega
      go_wp2_with fail
      have e1 : IntKind.i64.wrap ((a : Int) + (i : Int)) = ((a + i : Nat) : Int) := by rw [IntKind.wrap_i64]; omega
      have e2 : IntKind.i64.wrap ((b : Int) + (i : Int)) = ((b + i : Nat) : Int) := by rw [IntKind.wrap_i64]; omega
      have ea : (((a + i : Nat) : Int)).toNat = a + i := by omega
      have pa : (0 : Int) ≤ ((a + i : Nat) : Int) := by omega
      have ba : ((a + i : Nat) : Int) < (N : Int) := by omega
      have ec : (((b + i : Nat) : Int)).toNat = b + i := by omega
      have pc : (0 : Int) ≤ ((b + i : Nat) : Int) := by omega
      have bc : ((b + i : Nat) : Int) < (N : Int) := by omega
      have S2 : Aside (SWK enc k w0 blk off (swp dk (a + i) (b + i)) ((wr.drew.setCells blk (off + (a + i) * k) (enc dk[b + i]!)).setCells blk (off + (b + i) * k) (enc dk[a + i]!))) := S1.out.swapped R (a + i) (b + i) (by omega) (by omega)
      have la := S1.out.ld1 R (by omega) Tryz.prog (a + i) (by omega)
      have lb := S1.out.ld1 R (by omega) Tryz.prog (b + i) (by omega)
      have sa := S1.out.st1 R (by omega) Tryz.prog (a + i) (by omega) dk[b + i]!
      have sb := S1.out.st2 R (by omega) Tryz.prog (a + i) (b + i) (by omega) (by omega) dk[b + i]! dk[a + i]!
      have na : (enc dk[a + i]!).length = k := R.hk _
      have nb : (enc dk[b + i]!).length = k := R.hk _
      generalize enc dk[a + i]! = cI at S2 la sb na
      generalize enc dk[b + i]! = cJ at S2 lb sa sb nb
      clear S1
      go_wp2_with fail
      go_big_region_o
      clear la lb sa sb
      generalize (wr.drew.setCells blk (off + (a + i) * k) cJ).setCells blk (off + (b + i) * k) cI = w2 at S2 ⊢
      go_wp2
      go_roundg (n - (i + 1))
      case measure => omega
      case rel =>
        have hq := heq.out
        rw [swapFrom, if_pos hlt] at hq
        exact ⟨i + 1, swp dk (a + i) (b + i), by first | rfl | go_num, by omega, Nat.le_refl _, by rw [size_swp]; exact hds, S2, hq⟩
    · have hltz : ¬ (i : Int) < (n : Int) := by omega
      go_wp2
      go_end0
      refine ⟨rfl, ?_⟩
      have := heq.out
      rw [swapFrom, if_neg hlt] at this
      rw [← this]
      exact S1.out
set_option maxHeartbeats 4000000 in
set_option maxRecDepth 1000000 in
theorem rotate_any (k : Nat) (zE : ∀ w, (Go.sizeOf 39).run Tryz.prog w = .ok k w) (enc : α → List Value) (g : Nat) (cb : Array Value) (blk off cap N a m b : Nat) (d0 d : Array α) (w0 w : World)
    (R : RowK enc k w0 blk off d0) (hs : d0.size = N) (hN : d.size = N) (S : SWK enc k w0 blk off d w) (ham : a < m) (hmb : m < b) (hb : b ≤ N) (hsz : N < 4611686018427387904) :
    Calls Tryz.prog 113 #[.slice (some ⟨blk, off, none⟩) N cap, .int .i64 a, .int .i64 m, .int .i64 b, .func (.func g) #[] cb] w fun e w' => e = .returned (.tuple #[]) ∧ SWK enc k w0 blk off (rotLoop m (m - a) (b - m) d) w' := by
  have SWC := Lib.hid fun a b n (dk : Array α) W (hN : dk.size = N) (S : SWK enc k w0 blk off dk W) ha hb => swapRange_any k zE enc g cb blk off cap N a b n d0 dk w0 W R hs hN S ha hb hsz
  have S0 : Aside (SWK enc k w0 blk off d w) := S
  clear S
  have x1 : IntKind.i64.wrap ((m : Int) - (a : Int)) = ((m - a : Nat) : Int) := by rw [IntKind.wrap_i64]; omega
  have x2 : IntKind.i64.wrap ((b : Int) - (m : Int)) = ((b - m : Nat) : Int) := by rw [IntKind.wrap_i64]; omega
  go_enter Tryz.func113, Tryz.ntmps113
  go_wp2_with fail
  go_loopg [10, 11] (b - a) (fun kx s10 s11 wr => ∃ (i j : Nat) (dk : Array α), s10 = .int .i64 i ∧ s11 = .int .i64 j ∧ 0 < i ∧ 0 < j ∧ a + i ≤ m ∧ m + j ≤ b ∧ i + j ≤ kx ∧ dk.size = N ∧ Aside (SWK enc k w0 blk off dk wr) ∧ Aside (rotLoop m i j dk = rotLoop m (m - a) (b - m) d))
  case atStart => exact ⟨m - a, b - m, d, by go_num, by go_num, by omega, by omega, by omega, by omega, by omega, hN, S0, rfl⟩
  case round =>
    clear S0 x1 x2
    obtain ⟨i, j, dk, rfl, rfl, hi, hj, him, hjb, hkx, hds, S1, heq⟩ := hrel
    have x1 : IntKind.i64.wrap ((m : Int) - (i : Int)) = ((m - i : Nat) : Int) := by rw [IntKind.wrap_i64]; omega
    by_cases hij : i = j
    · have t1 : ((i : Int) != (j : Int)) = false := by simp [hij]
      subst hij
      go_wp2_with fail
      refine (SWC.out (m - i) m i dk _ hds S1.out (by omega) (by omega)).mono ?_
      rintro e w2 ⟨rfl, S2⟩
      go_wp2
      go_end0
      refine ⟨rfl, ?_⟩
      have hq := heq.out
      rw [rotLoop, dif_pos ⟨hi, hj⟩, if_pos rfl] at hq
      rw [← hq]
      exact S2
    · have t1 : ((i : Int) != (j : Int)) = true := by simpa using (show (i : Int) ≠ j by omega)
      have hq := heq.out
      rw [rotLoop, dif_pos ⟨hi, hj⟩, if_neg hij] at hq
      by_cases hlt : j < i
      · rw [if_pos hlt] at hq
        have HQ : Aside _ := hq
        have t2 : decide ((j : Int) < (i : Int)) = true := decide_eq_true (by omega)
        have x2 : IntKind.i64.wrap ((i : Int) - (j : Int)) = ((i - j : Nat) : Int) := by rw [IntKind.wrap_i64]; omega
        clear hq heq
        go_wp2_with fail
        refine (SWC.out (m - i) m j dk _ hds S1.out (by omega) (by omega)).mono ?_
        rintro e w2 ⟨rfl, S2⟩
        have S2 : Aside _ := S2
        go_wp2
        go_roundg (i - j + j)
        case measure => omega
        case rel => exact ⟨i - j, j, _, by first | rfl | go_num, rfl, by omega, hj, by omega, hjb, Nat.le_refl _, by rw [swapFrom_size _ _ _ j 0 dk (by omega)]; exact hds, S2, HQ⟩
      · rw [if_neg hlt] at hq
        have HQ : Aside _ := hq
        have t2 : decide ((j : Int) < (i : Int)) = false := decide_eq_false (by omega)
        have x2 : IntKind.i64.wrap ((j : Int) - (i : Int)) = ((j - i : Nat) : Int) := by rw [IntKind.wrap_i64]; omega
        obtain ⟨mj, hmj⟩ : ∃ x : Nat, x = m + j := ⟨_, rfl⟩
        obtain ⟨y, hy⟩ : ∃ x : Nat, x = m + j - i := ⟨_, rfl⟩
        rw [← hy] at HQ
        have x3 : IntKind.i64.wrap ((m : Int) + (j : Int)) = (mj : Int) := by rw [IntKind.wrap_i64]; omega
        have x4 : IntKind.i64.wrap ((mj : Int) - (i : Int)) = (y : Int) := by rw [IntKind.wrap_i64]; omega
        have HY : y + i ≤ N := by omega
        clear hq heq hmj hy
        go_wp2_with fail
        refine (SWC.out (m - i) y i dk _ hds S1.out (by omega) HY).mono ?_
        rintro e w2 ⟨rfl, S2⟩
        have S2 : Aside _ := S2
        go_wp2
        go_roundg (i + (j - i))
        case measure => omega
        case rel => exact ⟨i, j - i, _, rfl, by first | rfl | go_num, hi, by omega, him, by omega, Nat.le_refl _, by rw [swapFrom_size _ _ _ i 0 dk (by omega)]; exact hds, S2, HQ⟩
theorem rotLoop_size (m : Nat) : ∀ (f i j : Nat) (d : Array α), i + j ≤ f → (rotLoop m i j d).size = d.size
  | 0, i, j, d, hf => by rw [rotLoop, dif_neg (by omega)]
  | f + 1, i, j, d, hf => by
    rw [rotLoop]
    split
    · rename_i h
      split
      · exact swapFrom_size _ _ _ i 0 d (by omega)
      · split
        · rw [rotLoop_size m f (i - j) j _ (by omega)]; exact swapFrom_size _ _ _ j 0 d (by omega)
        · rw [rotLoop_size m f i (j - i) _ (by omega)]; exact swapFrom_size _ _ _ i 0 d (by omega)
    · rfl
theorem downFrom_size (i : Nat) : ∀ (k : Nat) (d : Array α), (downFrom i k d).size = d.size
  | 0, d => rfl
  | k + 1, d => by
    rw [downFrom]
    split
    · rw [downFrom_size i k, size_swp]
    · rfl
theorem symMerge_size (lt : α → α → Bool) : ∀ (f a m b : Nat) (d : Array α), (symMerge lt f a m b d).size = d.size
  | 0, _, _, _, _ => rfl
  | f + 1, a, m, b, d => by
    rw [symMerge]
    split
    · exact upFrom_size _ _ _ _ rfl
    · split
      · exact downFrom_size _ _ _
      · simp only
        generalize (if (a + b) / 2 < m then bsr (fun c => !lt d[(a + b) / 2 + m - 1 - c]! d[c]!) ((a + b) / 2 + m - b) ((a + b) / 2) else bsr (fun c => !lt d[(a + b) / 2 + m - 1 - c]! d[c]!) a m) = s
        have h1 : ∀ (c : Prop) [Decidable c] (x y : Nat) (e : Array α), (if c then rotLoop m x y e else e).size = e.size := fun c _ x y e => by split <;> first | exact rotLoop_size m (x + y) x y e (Nat.le_refl _) | rfl
        have h2 : ∀ (c : Prop) [Decidable c] (x y z : Nat) (e : Array α), (if c then symMerge lt f x y z e else e).size = e.size := fun c _ x y z e => by split <;> first | exact symMerge_size lt f x y z e | rfl
        rw [h2, h2, h1]
set_option maxHeartbeats 8000000 in
set_option maxRecDepth 1000000 in
theorem symMerge_any (k : Nat) (zE : ∀ w, (Go.sizeOf 39).run Tryz.prog w = .ok k w) (enc : α → List Value) (cf : α → α → Int) (g : Nat) (cb : Array Value) (blk off cap N : Nat) (d0 : Array α) (w0 : World)
    (R : RowK enc k w0 blk off d0) (hs : d0.size = N) (hsz : N < 4611686018427387904) (eg : ∀ args w, (callFunc g args).run Tryz.prog w = .ok (.enter g args) w) (hcmp : CmpLays Tryz.prog g cb enc k cf blk off N w0) :
    ∀ (f a m b : Nat) (d : Array α) (w : World), d.size = N → SWK enc k w0 blk off d w → a < m → m < b → b ≤ N → b - a ≤ f →
    Calls Tryz.prog 90 #[.slice (some ⟨blk, off, none⟩) N cap, .int .i64 a, .int .i64 m, .int .i64 b, .func (.func g) #[] cb] w fun e w' => e = .returned (.tuple #[]) ∧ SWK enc k w0 blk off (symMerge (ltOf cf) f a m b d) w' := by
  intro f
  induction f with
  | zero => intro a m b d w hN S ham hmb hb hf; omega
  | succ f ih =>
    intro a m b d w hN S ham hmb hb hf
    have IH0 : Aside _ := ih
    clear ih
    have mixed : Tryz.prog.follows .mixedOrders = true := by kernel_rfl
    have aE := el_agg
    have HC : Aside _ := hcmp
    have S0 : Aside (SWK enc k w0 blk off d w) := S
    clear S
    go_enter Tryz.func90, Tryz.ntmps90
    by_cases h1 : m - a = 1
    · have x1 : IntKind.i64.wrap ((m : Int) - (a : Int)) = 1 := by rw [IntKind.wrap_i64]; omega
      obtain ⟨p, hp⟩ : ∃ p : Nat → Bool, p = fun h => ltOf cf d[h]! d[a]! := ⟨_, rfl⟩
      have HP : Aside _ := hp
      clear hp
      go_wp2_with fail
      go_loopg [10, 11] (b - m) (fun kx s10 s11 wr => ∃ (i j : Nat), s10 = .int .i64 i ∧ s11 = .int .i64 j ∧ m ≤ i ∧ i ≤ j ∧ j ≤ b ∧ j - i ≤ kx ∧ Aside (SWK enc k w0 blk off d wr) ∧ Aside (bsr p i j = bsr p m b))
      case atStart => exact ⟨m, b, rfl, rfl, by omega, by omega, by omega, Nat.le_refl _, S0, rfl⟩
      case round =>
        clear S0 x1
        obtain ⟨i, j, rfl, rfl, hmi, hij, hjb, hkx, S1, heq⟩ := hrel
        by_cases hlt : i < j
        · obtain ⟨s, hs1⟩ : ∃ s : Nat, s = i + j := ⟨_, rfl⟩
          have y1 : IntKind.i64.wrap ((i : Int) + (j : Int)) = (s : Int) := by rw [IntKind.wrap_i64]; omega
          have y2 : IntKind.u64.wrap (s : Int) = (s : Int) := by rw [IntKind.wrap_u64]; omega
          obtain ⟨h, hh⟩ : ∃ h : Nat, (i + j) / 2 = h := ⟨_, rfl⟩
          have y3 : ((i : Int) + (j : Int)) / 2 = (h : Int) := by omega
          have hh1 : i ≤ h := by omega
          have hh2 : h < j := by omega
          have z1 : (h : Int) < (N : Int) := by omega
          have z2 : (a : Int) < (N : Int) := by omega
          obtain ⟨ex, hex⟩ : ∃ e, d[h]! = e := ⟨_, rfl⟩
          obtain ⟨ey, hey⟩ : ∃ e, d[a]! = e := ⟨_, rfl⟩
          have lx : ∀ n os, Sem.run Tryz.prog (loadCellsFrom ⟨blk, off + h * k, none⟩ 0 k #[]) (grow (wr.drewN n) os) = .ok (enc ex).toArray (grow (wr.drewN n) os) := fun n os => by rw [← hex]; exact S1.out.ld R (by omega) Tryz.prog h (by omega) n os
          have ly : ∀ n os, Sem.run Tryz.prog (loadCellsFrom ⟨blk, off + a * k, none⟩ 0 k #[]) (grow (wr.drewN n) os) = .ok (enc ey).toArray (grow (wr.drewN n) os) := fun n os => by rw [← hey]; exact S1.out.ld R (by omega) Tryz.prog a (by omega) n os
          have hcg : ∀ n os, Calls Tryz.prog g (#[.agg (enc ex).toArray, .agg (enc ey).toArray] ++ cb) (grow (wr.drewN n) os) fun e w' => e = .returned (.int .i64 (cf ex ey)) ∧ ∃ q os', w' = grow ((grow (wr.drewN n) os).drewN q) os' := fun n os => S1.out.cmp HC.out hN ex ey n os
          have CLS : Aside (∀ n os, SWK enc k w0 blk off d (grow (wr.drewN n) os)) := fun n os => S1.out.grown n os
          have hpx : Aside (p h = decide (cf ex ey < 0)) := by show p h = _; rw [HP.out]; simp only [ltOf]; rw [hex, hey]
          have hq := heq.out
          rw [bsr, dif_pos hlt, hh] at hq
          have HQ : Aside _ := hq
          clear S1 hq heq hh hex hey
          by_cases hlv : cf ex ey < 0
          · go_wp2_with fail
            go_quiet_grown (first | (go_at_fn g; refine Calls.grown_of (hcg _ _)))
            go_wp2
            go_roundg (j - (h + 1))
            case measure => omega
            case rel =>
              have hq := HQ.out
              rw [if_pos (by rw [hpx.out]; exact decide_eq_true hlv)] at hq
              exact ⟨h + 1, j, by first | rfl | go_num, rfl, by omega, by omega, hjb, Nat.le_refl _, CLS.out _ _, hq⟩
          · go_wp2_with fail
            go_quiet_grown (first | (go_at_fn g; refine Calls.grown_of (hcg _ _)))
            go_wp2
            go_roundg (h - i)
            case measure => omega
            case rel =>
              have hq := HQ.out
              rw [if_neg (by rw [hpx.out]; simpa using hlv)] at hq
              exact ⟨i, h, rfl, rfl, hmi, by omega, by omega, Nat.le_refl _, CLS.out _ _, hq⟩
        · obtain rfl : i = j := by omega
          have hI : i = bsr p m b := by rw [← heq.out, bsr, dif_neg (by omega)]
          have HI : Aside _ := hI
          obtain ⟨e, he⟩ : ∃ e : Nat, i - 1 = e := ⟨_, rfl⟩
          have x2 : IntKind.i64.wrap ((i : Int) - 1) = (e : Int) := by rw [IntKind.wrap_i64]; omega
          have hae : a ≤ e := by omega
          have heb : e < b := by omega
          have HE : Aside _ := he
          clear heq hI he
          go_wp2_with fail
          go_loopg [13] (e - a) (fun kx s13 wr => ∃ (q : Nat) (dk : Array α), s13 = .int .i64 q ∧ a ≤ q ∧ q ≤ e ∧ e - q ≤ kx ∧ dk.size = N ∧ Aside (SWK enc k w0 blk off dk wr) ∧ Aside (upFrom e q dk = upFrom e a d))
          case atStart => exact ⟨a, d, rfl, by omega, by omega, Nat.le_refl _, hN, S1, rfl⟩
          case round =>
            clear S1
            obtain ⟨q, dk, rfl, haq, hqe, hkx, hds, S1, heq⟩ := hrel
            by_cases hlt : q < e
            · obtain ⟨q1, hq1⟩ : ∃ q1 : Nat, q + 1 = q1 := ⟨_, rfl⟩
              have y1 : IntKind.i64.wrap ((q : Int) + 1) = (q1 : Int) := by rw [IntKind.wrap_i64]; omega
              have z1 : (q : Int) < (N : Int) := by omega
              have z2 : (q1 : Int) < (N : Int) := by omega
              have S2 : Aside (SWK enc k w0 blk off (swp dk q q1) ((wr.drew.setCells blk (off + q * k) (enc dk[q1]!)).setCells blk (off + q1 * k) (enc dk[q]!))) := S1.out.swapped R q q1 (by omega) (by omega)
              have la := S1.out.ld1 R (by omega) Tryz.prog q (by omega)
              have lb := S1.out.ld1 R (by omega) Tryz.prog q1 (by omega)
              have sa := S1.out.st1 R (by omega) Tryz.prog q (by omega) dk[q1]!
              have sb := S1.out.st2 R (by omega) Tryz.prog q q1 (by omega) (by omega) dk[q1]! dk[q]!
              have na : (enc dk[q]!).length = k := R.hk _
              have nb : (enc dk[q1]!).length = k := R.hk _
              generalize enc dk[q]! = cI at S2 la sb na
              generalize enc dk[q1]! = cJ at S2 lb sa sb nb
              clear S1
              go_wp2_with fail
              go_big_region_o
              clear la lb sa sb
              generalize (wr.drew.setCells blk (off + q * k) cJ).setCells blk (off + q1 * k) cI = w2 at S2 ⊢
              go_wp2
              go_roundg (e - q1)
              case measure => omega
              case rel =>
                have hq := heq.out
                rw [upFrom, if_pos hlt, hq1] at hq
                exact ⟨q1, swp dk q q1, by first | rfl | go_num, by omega, by omega, Nat.le_refl _, by rw [size_swp]; exact hds, S2, hq⟩
            · obtain rfl : q = e := by omega
              go_wp2
              refine bodyPost_ret (results_none rfl _ _ _) rfl ⟨rfl, ?_⟩
              have hq := heq.out
              rw [upFrom, if_neg (by omega)] at hq
              rw [symMerge, if_pos h1, ← show p = fun h => ltOf cf d[h]! d[a]! from HP.out, ← HI.out, HE.out, ← hq]
              exact S1.out
    · obtain ⟨u1, hu1⟩ : ∃ u : Nat, m - a = u := ⟨_, rfl⟩
      have x1 : IntKind.i64.wrap ((m : Int) - (a : Int)) = (u1 : Int) := by rw [IntKind.wrap_i64]; omega
      have t1 : ((u1 : Int) == 1) = false := by simp; omega
      by_cases h2 : b - m = 1
      · have x2 : IntKind.i64.wrap ((b : Int) - (m : Int)) = 1 := by rw [IntKind.wrap_i64]; omega
        obtain ⟨p, hp⟩ : ∃ p : Nat → Bool, p = fun h => !ltOf cf d[m]! d[h]! := ⟨_, rfl⟩
        have HP : Aside _ := hp
        clear hp hu1
        go_wp2_with fail
        go_loopg [14, 15] (m - a) (fun kx s14 s15 wr => ∃ (i j : Nat), s14 = .int .i64 i ∧ s15 = .int .i64 j ∧ a ≤ i ∧ i ≤ j ∧ j ≤ m ∧ j - i ≤ kx ∧ Aside (SWK enc k w0 blk off d wr) ∧ Aside (bsr p i j = bsr p a m))
        case atStart => exact ⟨a, m, rfl, rfl, by omega, by omega, by omega, Nat.le_refl _, S0, rfl⟩
        case round =>
          clear S0 x1 x2 t1
          obtain ⟨i, j, rfl, rfl, hmi, hij, hjb, hkx, S1, heq⟩ := hrel
          by_cases hlt : i < j
          · obtain ⟨h, hh⟩ : ∃ h : Nat, (i + j) / 2 = h := ⟨_, rfl⟩
            have y3 : ((i : Int) + (j : Int)) / 2 = (h : Int) := by omega
            have hh1 : i ≤ h := by omega
            have hh2 : h < j := by omega
            have z1 : (h : Int) < (N : Int) := by omega
            have z2 : (m : Int) < (N : Int) := by omega
            obtain ⟨ex, hex⟩ : ∃ e, d[m]! = e := ⟨_, rfl⟩
            obtain ⟨ey, hey⟩ : ∃ e, d[h]! = e := ⟨_, rfl⟩
            have lx : ∀ n os, Sem.run Tryz.prog (loadCellsFrom ⟨blk, off + m * k, none⟩ 0 k #[]) (grow (wr.drewN n) os) = .ok (enc ex).toArray (grow (wr.drewN n) os) := fun n os => by rw [← hex]; exact S1.out.ld R (by omega) Tryz.prog m (by omega) n os
            have ly : ∀ n os, Sem.run Tryz.prog (loadCellsFrom ⟨blk, off + h * k, none⟩ 0 k #[]) (grow (wr.drewN n) os) = .ok (enc ey).toArray (grow (wr.drewN n) os) := fun n os => by rw [← hey]; exact S1.out.ld R (by omega) Tryz.prog h (by omega) n os
            have hcg : ∀ n os, Calls Tryz.prog g (#[.agg (enc ex).toArray, .agg (enc ey).toArray] ++ cb) (grow (wr.drewN n) os) fun e w' => e = .returned (.int .i64 (cf ex ey)) ∧ ∃ q os', w' = grow ((grow (wr.drewN n) os).drewN q) os' := fun n os => S1.out.cmp HC.out hN ex ey n os
            have CLS : Aside (∀ n os, SWK enc k w0 blk off d (grow (wr.drewN n) os)) := fun n os => S1.out.grown n os
            have hpx : Aside (p h = !decide (cf ex ey < 0)) := by show p h = !decide (cf ex ey < 0); rw [HP.out]; simp only [ltOf]; rw [hex, hey]
            have hq := heq.out
            rw [bsr, dif_pos hlt, hh] at hq
            have HQ : Aside _ := hq
            clear S1 hq heq hh hex hey
            by_cases hlv : cf ex ey < 0
            · have tv : decide (cf ex ey < 0) = true := decide_eq_true hlv
              go_wp2_with fail
              go_quiet_grown (first | (go_at_fn g; refine Calls.grown_of (hcg _ _)))
              go_wp2
              go_roundg (h - i)
              case measure => omega
              case rel =>
                have hq := HQ.out
                rw [if_neg (by rw [hpx.out]; simpa using hlv)] at hq
                exact ⟨i, h, rfl, rfl, hmi, by omega, by omega, Nat.le_refl _, CLS.out _ _, hq⟩
            · have tv : decide (cf ex ey < 0) = false := decide_eq_false hlv
              go_wp2_with fail
              go_quiet_grown (first | (go_at_fn g; refine Calls.grown_of (hcg _ _)))
              go_wp2
              go_roundg (j - (h + 1))
              case measure => omega
              case rel =>
                have hq := HQ.out
                rw [if_pos (by rw [hpx.out]; simpa using hlv)] at hq
                exact ⟨h + 1, j, by first | rfl | go_num, rfl, by omega, by omega, hjb, Nat.le_refl _, CLS.out _ _, hq⟩
          · obtain rfl : i = j := by omega
            have hI : i = bsr p a m := by rw [← heq.out, bsr, dif_neg (by omega)]
            have HI : Aside _ := hI
            clear heq hI
            go_wp2_with fail
            go_loopg [17] (m - i) (fun kx s17 wr => ∃ (q : Nat) (dk : Array α), s17 = .int .i64 q ∧ i ≤ q ∧ q ≤ m ∧ q - i ≤ kx ∧ dk.size = N ∧ Aside (SWK enc k w0 blk off dk wr) ∧ Aside (downFrom i q dk = downFrom i m d))
            case atStart => exact ⟨m, d, rfl, by omega, by omega, Nat.le_refl _, hN, S1, rfl⟩
            case round =>
              clear S1
              obtain ⟨q, dk, rfl, haq, hqe, hkx, hds, S1, heq⟩ := hrel
              by_cases hlt : i < q
              · obtain ⟨q1, hq1⟩ : ∃ q1 : Nat, q1 + 1 = q := ⟨q - 1, by omega⟩
                have y1 : IntKind.i64.wrap ((q : Int) - 1) = (q1 : Int) := by rw [IntKind.wrap_i64]; omega
                have z1 : (q : Int) < (N : Int) := by omega
                have z2 : (q1 : Int) < (N : Int) := by omega
                have S2 : Aside (SWK enc k w0 blk off (swp dk q q1) ((wr.drew.setCells blk (off + q * k) (enc dk[q1]!)).setCells blk (off + q1 * k) (enc dk[q]!))) := S1.out.swapped R q q1 (by omega) (by omega)
                have la := S1.out.ld1 R (by omega) Tryz.prog q (by omega)
                have lb := S1.out.ld1 R (by omega) Tryz.prog q1 (by omega)
                have sa := S1.out.st1 R (by omega) Tryz.prog q (by omega) dk[q1]!
                have sb := S1.out.st2 R (by omega) Tryz.prog q q1 (by omega) (by omega) dk[q1]! dk[q]!
                have na : (enc dk[q]!).length = k := R.hk _
                have nb : (enc dk[q1]!).length = k := R.hk _
                generalize enc dk[q]! = cI at S2 la sb na
                generalize enc dk[q1]! = cJ at S2 lb sa sb nb
                clear S1
                go_wp2_with fail
                go_big_region_o
                clear la lb sa sb
                generalize (wr.drew.setCells blk (off + q * k) cJ).setCells blk (off + q1 * k) cI = w2 at S2 ⊢
                go_wp2
                go_roundg (q1 - i)
                case measure => omega
                case rel =>
                  have hq := heq.out
                  rw [← hq1, downFrom, if_pos (by omega), hq1] at hq
                  exact ⟨q1, swp dk q q1, by first | rfl | go_num, by omega, by omega, Nat.le_refl _, by rw [size_swp]; exact hds, S2, hq⟩
              · obtain rfl : i = q := by omega
                go_wp2
                refine bodyPost_ret (results_none rfl _ _ _) rfl ⟨rfl, ?_⟩
                have hq := heq.out
                have hd : downFrom i i dk = dk := by
                  cases i with
                  | zero => rfl
                  | succ i => rw [downFrom, if_neg (by omega)]
                rw [hd] at hq
                rw [symMerge, if_neg h1, if_pos h2, ← show p = fun h => !ltOf cf d[m]! d[h]! from HP.out, ← HI.out, ← hq]
                exact S1.out
      · obtain ⟨u2, hu2⟩ : ∃ u : Nat, b - m = u := ⟨_, rfl⟩
        have x2 : IntKind.i64.wrap ((b : Int) - (m : Int)) = (u2 : Int) := by rw [IntKind.wrap_i64]; omega
        have t2 : ((u2 : Int) == 1) = false := by simp; omega
        obtain ⟨mid, hmid⟩ : ∃ x : Nat, (a + b) / 2 = x := ⟨_, rfl⟩
        have y1 : ((a : Int) + (b : Int)) / 2 = (mid : Int) := by omega
        obtain ⟨n, hn⟩ : ∃ x : Nat, mid + m = x := ⟨_, rfl⟩
        have y2 : IntKind.i64.wrap ((mid : Int) + (m : Int)) = (n : Int) := by rw [IntKind.wrap_i64]; omega
        obtain ⟨pp, hpp⟩ : ∃ x : Nat, n - 1 = x := ⟨_, rfl⟩
        have y3 : IntKind.i64.wrap ((n : Int) - 1) = (pp : Int) := by rw [IntKind.wrap_i64]; omega
        obtain ⟨p, hp⟩ : ∃ p : Nat → Bool, p = fun c => !ltOf cf d[n - 1 - c]! d[c]! := ⟨_, rfl⟩
        have hs0 : ∃ s0 r0 : Nat, a ≤ s0 ∧ s0 ≤ r0 ∧ r0 ≤ m ∧ r0 ≤ mid ∧ n ≤ s0 + b ∧ (mid < m → s0 + b = n ∧ r0 = mid) ∧ (¬ mid < m → s0 = a ∧ r0 = m) ∧
            (if mid < m then bsr (fun c => !ltOf cf d[n - 1 - c]! d[c]!) (n - b) mid else bsr (fun c => !ltOf cf d[n - 1 - c]! d[c]!) a m) = bsr p s0 r0 := by
          by_cases h : mid < m
          · exact ⟨n - b, mid, by omega, by omega, by omega, by omega, by omega, fun _ => ⟨by omega, rfl⟩, fun h' => absurd h h', by rw [if_pos h, hp]⟩
          · exact ⟨a, m, by omega, by omega, by omega, by omega, by omega, fun h' => absurd h' h, fun _ => ⟨rfl, rfl⟩, by rw [if_neg h, hp]⟩
        obtain ⟨s0, r0, k1, k2, k3, k4, k5, k6, k7, k8⟩ := hs0
        have HP : Aside _ := hp
        have K6 : Aside _ := k6
        have K7 : Aside _ := k7
        have K8 : Aside _ := k8
        have HMID : Aside _ := hmid
        have HNN : Aside _ := hn
        have IH : Aside (∀ (a m b : Nat) (d : Array α) (w : World), d.size = N → SWK enc k w0 blk off d w → a < m → m < b → b ≤ N → b - a ≤ f →
          Calls Tryz.prog 90 #[.slice (some ⟨blk, off, none⟩) N cap, .int .i64 a, .int .i64 m, .int .i64 b, .func (.func g) #[] cb] w fun e w' => e = .returned (.tuple #[]) ∧ SWK enc k w0 blk off (symMerge (ltOf cf) f a m b d) w') := IH0.out
        clear hp k6 k7 k8 hu1 hu2
        go_upto_if 140 with (fail)
        go_cut [20, 21] from 138 to 146 (fun t20 t21 wx => t20 = .int .i64 (s0 : Int) ∧ t21 = .int .i64 (r0 : Int) ∧ wx = w)
        case first =>
          by_cases hm : mid < m
          · obtain ⟨e1, e2⟩ := K6.out hm
            have y4 : IntKind.i64.wrap ((n : Int) - (b : Int)) = (s0 : Int) := by rw [IntKind.wrap_i64]; omega
            have y5 : (mid : Int) < (m : Int) := by omega
            subst e2
            clear e1
            go_wp2
            go_meet
            case rel => exact ⟨by first | rfl | go_num, rfl, by trivial⟩
          · obtain ⟨e1, e2⟩ := K7.out hm
            have y5 : ¬ (mid : Int) < (m : Int) := by omega
            subst e1 e2
            go_wp2
            go_meet
            case rel => exact ⟨rfl, rfl, by trivial⟩
        case rest =>
          obtain ⟨rfl, rfl, hw⟩ := hcut
          subst hw
          clear x1 x2 t1 t2 K6 K7 y1 y2
          go_wp2_with fail
          go_loopg [20, 21] (r0 - s0) (fun kx s20 s21 wr => ∃ (i j : Nat), s20 = .int .i64 i ∧ s21 = .int .i64 j ∧ s0 ≤ i ∧ i ≤ j ∧ j ≤ r0 ∧ j - i ≤ kx ∧ Aside (SWK enc k w0 blk off d wr) ∧ Aside (bsr p i j = bsr p s0 r0))
          case atStart => exact ⟨s0, r0, rfl, rfl, by omega, by omega, by omega, Nat.le_refl _, S0, rfl⟩
          case round =>
            clear S0 y3
            obtain ⟨i, j, rfl, rfl, hmi, hij, hjb, hkx, S1, heq⟩ := hrel
            by_cases hlt : i < j
            · obtain ⟨h, hh⟩ : ∃ h : Nat, (i + j) / 2 = h := ⟨_, rfl⟩
              have y3 : ((i : Int) + (j : Int)) / 2 = (h : Int) := by omega
              have hh1 : i ≤ h := by omega
              have hh2 : h < j := by omega
              obtain ⟨pc, hpc⟩ : ∃ x : Nat, n - 1 - h = x := ⟨_, rfl⟩
              have y4 : IntKind.i64.wrap ((pp : Int) - (h : Int)) = (pc : Int) := by rw [IntKind.wrap_i64]; omega
              have z1 : (h : Int) < (N : Int) := by omega
              have z2 : (pc : Int) < (N : Int) := by omega
              have z3 : pc < N := by omega
              obtain ⟨ex, hex⟩ : ∃ e, d[pc]! = e := ⟨_, rfl⟩
              obtain ⟨ey, hey⟩ : ∃ e, d[h]! = e := ⟨_, rfl⟩
              have lx : ∀ n os, Sem.run Tryz.prog (loadCellsFrom ⟨blk, off + pc * k, none⟩ 0 k #[]) (grow (wr.drewN n) os) = .ok (enc ex).toArray (grow (wr.drewN n) os) := fun n os => by rw [← hex]; exact S1.out.ld R (by omega) Tryz.prog pc (by omega) n os
              have ly : ∀ n os, Sem.run Tryz.prog (loadCellsFrom ⟨blk, off + h * k, none⟩ 0 k #[]) (grow (wr.drewN n) os) = .ok (enc ey).toArray (grow (wr.drewN n) os) := fun n os => by rw [← hey]; exact S1.out.ld R (by omega) Tryz.prog h (by omega) n os
              have hcg : ∀ n os, Calls Tryz.prog g (#[.agg (enc ex).toArray, .agg (enc ey).toArray] ++ cb) (grow (wr.drewN n) os) fun e w' => e = .returned (.int .i64 (cf ex ey)) ∧ ∃ q os', w' = grow ((grow (wr.drewN n) os).drewN q) os' := fun n os => S1.out.cmp HC.out hN ex ey n os
              have CLS : Aside (∀ n os, SWK enc k w0 blk off d (grow (wr.drewN n) os)) := fun n os => S1.out.grown n os
              have hpx : Aside (p h = !decide (cf ex ey < 0)) := by show p h = !decide (cf ex ey < 0); rw [HP.out]; simp only [ltOf]; rw [hpc, hex, hey]
              have hq := heq.out
              rw [bsr, dif_pos hlt, hh] at hq
              have HQ : Aside _ := hq
              clear S1 hq heq hh hex hey hpc
              by_cases hlv : cf ex ey < 0
              · have tv : decide (cf ex ey < 0) = true := decide_eq_true hlv
                go_wp2_with fail
                go_quiet_grown (first | (go_at_fn g; refine Calls.grown_of (hcg _ _)))
                go_wp2
                go_roundg (h - i)
                case measure => omega
                case rel =>
                  have hq := HQ.out
                  rw [if_neg (by rw [hpx.out]; simpa using hlv)] at hq
                  exact ⟨i, h, rfl, rfl, hmi, by omega, by omega, Nat.le_refl _, CLS.out _ _, hq⟩
              · have tv : decide (cf ex ey < 0) = false := decide_eq_false hlv
                go_wp2_with fail
                go_quiet_grown (first | (go_at_fn g; refine Calls.grown_of (hcg _ _)))
                go_wp2
                go_roundg (j - (h + 1))
                case measure => omega
                case rel =>
                  have hq := HQ.out
                  rw [if_pos (by rw [hpx.out]; simpa using hlv)] at hq
                  exact ⟨h + 1, j, by first | rfl | go_num, rfl, by omega, by omega, hjb, Nat.le_refl _, CLS.out _ _, hq⟩
            · obtain rfl : i = j := by omega
              have hI : i = bsr p s0 r0 := by rw [← heq.out, bsr, dif_neg (by omega)]
              obtain ⟨st, hst⟩ : ∃ st, st = i := ⟨_, rfl⟩
              subst hst
              obtain ⟨e, he⟩ : ∃ x : Nat, n - st = x := ⟨_, rfl⟩
              have y4 : IntKind.i64.wrap ((n : Int) - (st : Int)) = (e : Int) := by rw [IntKind.wrap_i64]; omega
              have he1 : m ≤ e := by omega
              have he2 : e ≤ b := by omega
              have he3 : st ≤ mid := by omega
              have he4 : mid ≤ e := by omega
              have he5 : mid < b := by omega
              have he6 : a < mid := by omega
              obtain ⟨d1, hd1⟩ : ∃ x, (if st < m ∧ m < e then rotLoop m (m - st) (e - m) d else d) = x := ⟨_, rfl⟩
              obtain ⟨d2, hd2⟩ : ∃ x, (if a < st ∧ st < mid then symMerge (ltOf cf) f a st mid d1 else d1) = x := ⟨_, rfl⟩
              have HFIN : Aside (symMerge (ltOf cf) (f + 1) a m b d = if mid < e ∧ e < b then symMerge (ltOf cf) f mid e b d2 else d2) := by
                show symMerge (ltOf cf) (f + 1) a m b d = _
                rw [symMerge, if_neg h1, if_neg h2]
                simp only
                rw [HMID.out, HNN.out, K8.out, ← hI, he, hd1, hd2]
              have hz1 : d1.size = N := by
                rw [← hd1]
                split
                · rw [rotLoop_size m (m - st + (e - m)) _ _ d (Nat.le_refl _)]; exact hN
                · exact hN
              have hz2 : d2.size = N := by
                rw [← hd2]
                split
                · rw [symMerge_size]; exact hz1
                · exact hz1
              have HD1 : Aside _ := hd1
              have HD2 : Aside _ := hd2
              have RT : Aside (st < m → m < e → Calls Tryz.prog 113 #[.slice (some ⟨blk, off, none⟩) N cap, .int .i64 st, .int .i64 m, .int .i64 e, .func (.func g) #[] cb] wr fun x w' => x = .returned (.tuple #[]) ∧ SWK enc k w0 blk off (rotLoop m (m - st) (e - m) d) w') := fun q1 q2 => rotate_any k zE enc g cb blk off cap N st m e d0 d w0 wr R hs hN S1.out q1 q2 (by omega) hsz
              clear IH0 hd1 hd2 heq hI he HC hcmp eg zE aE mixed HP K8 HMID HNN k1 k2 k3 k4 k5 hkx hmi hij hjb hN R hs he1 he2 hpp hmid hn
              go_upto_region 38 with (fail)
              go_cut [24] from 175 to 177 (fun t24 wx => t24 = .int .i64 (e : Int) ∧ wx = wr)
              case first =>
                go_wp2
                go_meet
                case rel => exact ⟨by first | rfl | go_num, by trivial⟩
              case rest =>
                obtain ⟨rfl, hw⟩ := hcut
                subst hw
                clear y4
                go_step
                go_step
                go_cut [] from 178 to 191 (fun wx => Aside (SWK enc k w0 blk off d1 wx))
                case first =>
                  by_cases c1 : st < m
                  · have t1 : decide ((st : Int) < (m : Int)) = true := decide_eq_true (by omega)
                    by_cases c2 : m < e
                    · have t2 : decide ((m : Int) < (e : Int)) = true := decide_eq_true (by omega)
                      go_wp2_with fail
                      refine (RT.out c1 c2).mono ?_
                      rintro er w2 ⟨rfl, S2⟩
                      have S3 : Aside _ := S2
                      clear S2
                      go_wp2
                      go_meet
                      case rel => exact (by show SWK enc k w0 blk off d1 _; rw [← HD1.out, if_pos ⟨c1, c2⟩]; exact S3.out)
                    · have t2 : decide ((m : Int) < (e : Int)) = false := decide_eq_false (by omega)
                      go_wp2
                      go_meet
                      case rel => exact (by show SWK enc k w0 blk off d1 _; rw [← HD1.out, if_neg (fun h => c2 h.2)]; exact S1.out)
                  · have t1 : decide ((st : Int) < (m : Int)) = false := decide_eq_false (by omega)
                    go_wp2
                    go_meet
                    case rel => exact (by show SWK enc k w0 blk off d1 _; rw [← HD1.out, if_neg (fun h => c1 h.1)]; exact S1.out)
                case rest =>
                  have S1 : Aside _ := hcut.out
                  clear RT hcut
                  go_step
                  go_step
                  go_cut [] from 192 to 205 (fun wx => Aside (SWK enc k w0 blk off d2 wx))
                  case first =>
                    by_cases c1 : a < st
                    · have t1 : decide ((a : Int) < (st : Int)) = true := decide_eq_true (by omega)
                      by_cases c2 : st < mid
                      · have t2 : decide ((st : Int) < (mid : Int)) = true := decide_eq_true (by omega)
                        go_wp2_with fail
                        refine (IH.out a st mid d1 _ hz1 S1.out c1 c2 (by omega) (by omega)).mono ?_
                        rintro er w2 ⟨rfl, S2⟩
                        have S3 : Aside _ := S2
                        clear S2
                        go_wp2
                        go_meet
                        case rel => exact (by show SWK enc k w0 blk off d2 _; rw [← HD2.out, if_pos ⟨c1, c2⟩]; exact S3.out)
                      · have t2 : decide ((st : Int) < (mid : Int)) = false := decide_eq_false (by omega)
                        go_wp2
                        go_meet
                        case rel => exact (by show SWK enc k w0 blk off d2 _; rw [← HD2.out, if_neg (fun h => c2 h.2)]; exact S1.out)
                    · have t1 : decide ((a : Int) < (st : Int)) = false := decide_eq_false (by omega)
                      go_wp2
                      go_meet
                      case rel => exact (by show SWK enc k w0 blk off d2 _; rw [← HD2.out, if_neg (fun h => c1 h.1)]; exact S1.out)
                  case rest =>
                    have S1 : Aside _ := hcut.out
                    clear hcut
                    by_cases c1 : mid < e
                    · have t1 : decide ((mid : Int) < (e : Int)) = true := decide_eq_true (by omega)
                      by_cases c2 : e < b
                      · have t2 : decide ((e : Int) < (b : Int)) = true := decide_eq_true (by omega)
                        go_wp2_with fail
                        refine (IH.out mid e b d2 _ hz2 S1.out c1 c2 (by omega) (by omega)).mono ?_
                        rintro er w2 ⟨rfl, S2⟩
                        have S3 : Aside _ := S2
                        clear S2
                        go_wp2
                        go_end0
                        refine ⟨rfl, ?_⟩
                        rw [HFIN.out]
                        exact (by rw [if_pos ⟨c1, c2⟩]; exact S3.out)
                      · have t2 : decide ((e : Int) < (b : Int)) = false := decide_eq_false (by omega)
                        go_wp2
                        go_end0
                        refine ⟨rfl, ?_⟩
                        rw [HFIN.out]
                        exact (by rw [if_neg (fun h => c2 h.2)]; exact S1.out)
                    · have t1 : decide ((mid : Int) < (e : Int)) = false := decide_eq_false (by omega)
                      go_wp2
                      go_end0
                      refine ⟨rfl, ?_⟩
                      rw [HFIN.out]
                      exact (by rw [if_neg (fun h => c1 h.1)]; exact S1.out)
end
end Go.Proofs.YtcbopgopegphlaaGreat
