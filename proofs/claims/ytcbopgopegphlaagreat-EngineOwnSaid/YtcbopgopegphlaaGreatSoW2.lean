/-
  The walks of the library's insertion sort and of its stable sort as a whole. No statement is proved here.
-/
import Derived.Test.YtcbopgopegphlaaGreatSoW
namespace Go.Proofs.YtcbopgopegphlaaGreat
open Go.Shelf Go.RowKit Go.Lib Go.Sort
set_option linter.unusedVariables false
section
variable {α : Type} [Inhabited α]
set_option maxHeartbeats 4000000 in
set_option maxRecDepth 1000000 in
theorem insertion_any (k : Nat) (zE : ∀ w, (Go.sizeOf 39).run Tryz.prog w = .ok k w) (enc : α → List Value) (cf : α → α → Int) (g : Nat) (cb : Array Value) (blk off cap N a b : Nat) (d0 d : Array α) (w0 w : World)
    (R : RowK enc k w0 blk off d0) (hs : d0.size = N) (hsz : N < 4611686018427387904) (eg : ∀ args w, (callFunc g args).run Tryz.prog w = .ok (.enter g args) w) (hcmp : CmpLays Tryz.prog g cb enc k cf blk off N w0)
    (hN : d.size = N) (S : SWK enc k w0 blk off d w) (hab : a ≤ b) (hb : b ≤ N) :
    Calls Tryz.prog 89 #[.slice (some ⟨blk, off, none⟩) N cap, .int .i64 a, .int .i64 b, .func (.func g) #[] cb] w fun e w' => e = .returned (.tuple #[]) ∧ SWK enc k w0 blk off (Sort.insertionSort (ltOf cf) d a b) w' := by
  have mixed : Tryz.prog.follows .mixedOrders = true := by kernel_rfl
  have aE := el_agg
  have HC : Aside _ := hcmp
  have S0 : Aside (SWK enc k w0 blk off d w) := S
  clear S hcmp
  obtain ⟨a1, ha1⟩ : ∃ x : Nat, a + 1 = x := ⟨_, rfl⟩
  have x1 : IntKind.i64.wrap ((a : Int) + 1) = (a1 : Int) := by rw [IntKind.wrap_i64]; omega
  go_enter Tryz.func89, Tryz.ntmps89
  go_wp2
  go_loopg [8] (b - a) (fun g1 vi wr => ∃ (i : Nat) (dk : Array α), vi = .int .i64 i ∧ a < i ∧ i ≤ b + 1 ∧ b + 1 - i ≤ g1 + 1 ∧ dk.size = N ∧ Aside (SWK enc k w0 blk off dk wr) ∧ Aside (insOuter (ltOf cf) a b i dk = insOuter (ltOf cf) a b a1 d))
  case atStart => exact ⟨a1, d, by first | rfl | go_num, by omega, by omega, by omega, hN, S0, rfl⟩
  case round =>
    clear S0 x1
    obtain ⟨i, dk, rfl, hai, hib, hg1, hsk, S1, HO⟩ := hrel
    by_cases hlt : i < b
    · have hltz : (i : Int) < (b : Int) := by omega
      obtain ⟨i1, hi1⟩ : ∃ x : Nat, i + 1 = x := ⟨_, rfl⟩
      have y1 : IntKind.i64.wrap ((i : Int) + 1) = (i1 : Int) := by rw [IntKind.wrap_i64]; omega
      go_wp2
      go_loopg [9] i (fun g2 vj wr2 => ∃ (j : Nat) (dj : Array α), vj = .int .i64 j ∧ a ≤ j ∧ j ≤ i ∧ j ≤ g2 ∧ dj.size = N ∧ Aside (SWK enc k w0 blk off dj wr2) ∧ Aside (insInner (ltOf cf) a j dj = insInner (ltOf cf) a i dk))
      case atStart => exact ⟨i, dk, rfl, by omega, Nat.le_refl _, Nat.le_refl _, hsk, S1, rfl⟩
      case round =>
        clear S1
        obtain ⟨q, dj, rfl, haj, hji, hg2, hsj, S1, HI⟩ := hrel
        have OUT : Aside ((q ≤ a ∨ ltOf cf dj[q]! dj[q - 1]! = false) → Aside (insOuter (ltOf cf) a b i1 dj = insOuter (ltOf cf) a b a1 d)) := fun hs => by
          show insOuter (ltOf cf) a b i1 dj = _
          rw [← HO.out, insOuter_go _ _ _ _ _ hlt, ← HI.out, insInner_stop _ _ _ _ hs, hi1]
        by_cases hja : a < q
        · have hjaz : (a : Int) < (q : Int) := by omega
          have hjd : decide ((a : Int) < (q : Int)) = true := decide_eq_true hjaz
          obtain ⟨q1, hq1⟩ : ∃ q1 : Nat, q1 + 1 = q := ⟨q - 1, by omega⟩
          have z0 : IntKind.i64.wrap ((q : Int) - 1) = (q1 : Int) := by rw [IntKind.wrap_i64]; omega
          have z1 : (q : Int) < (N : Int) := by omega
          have z2 : (q1 : Int) < (N : Int) := by omega
          obtain ⟨ex, hex⟩ : ∃ e, dj[q]! = e := ⟨_, rfl⟩
          obtain ⟨ey, hey⟩ : ∃ e, dj[q1]! = e := ⟨_, rfl⟩
          obtain ⟨wq, hwq⟩ : ∃ x, x = wr := ⟨_, rfl⟩
          rw [← hwq] at S1 ⊢
          have lx : ∀ n os, Sem.run Tryz.prog (loadCellsFrom ⟨blk, off + q * k, none⟩ 0 k #[]) (grow (wq.drewN n) os) = .ok (enc ex).toArray (grow (wq.drewN n) os) := fun n os => by rw [← hex]; exact S1.out.ld R (by omega) Tryz.prog q (by omega) n os
          have ly : ∀ n os, Sem.run Tryz.prog (loadCellsFrom ⟨blk, off + q1 * k, none⟩ 0 k #[]) (grow (wq.drewN n) os) = .ok (enc ey).toArray (grow (wq.drewN n) os) := fun n os => by rw [← hey]; exact S1.out.ld R (by omega) Tryz.prog q1 (by omega) n os
          have hcg : ∀ n os, Calls Tryz.prog g (#[.agg (enc ex).toArray, .agg (enc ey).toArray] ++ cb) (grow (wq.drewN n) os) fun e w' => e = .returned (.int .i64 (cf ex ey)) ∧ ∃ q os', w' = grow ((grow (wq.drewN n) os).drewN q) os' := fun n os => S1.out.cmp HC.out hsj ex ey n os
          have CLS : Aside (∀ n os, SWK enc k w0 blk off dj (grow (wq.drewN n) os)) := fun n os => S1.out.grown n os
          have hlt2 : Aside (ltOf cf dj[q]! dj[q1]! = decide (cf ex ey < 0)) := by show _ = _; simp only [ltOf]; rw [hex, hey]
          clear S1 hex hey hwq
          by_cases hlv : cf ex ey < 0
          · have tv : decide (cf ex ey < 0) = true := decide_eq_true hlv
            have HI2 : Aside (insInner (ltOf cf) a q1 (swp dj q q1) = insInner (ltOf cf) a i dk) := by
              show _ = _
              have e1 : q - 1 = q1 := by omega
              have h3 := insInner_go (ltOf cf) a q dj hja (by rw [e1]; exact hlt2.out.trans tv)
              rw [e1] at h3
              rw [← HI.out, h3]
            go_wp2_with fail
            go_quiet_grown (first | (go_at_fn g; refine Calls.grown_of (hcg _ _)))
            go_wp2_with fail
            have S1 : Aside (SWK enc k w0 blk off dj (grow (wq.drewN nq) osq)) := CLS.out nq osq
            clear lx ly hcg CLS OUT HI
            generalize grow (wq.drewN nq) osq = wq at S1 ⊢
            have S2 : Aside (SWK enc k w0 blk off (swp dj q q1) ((wq.drew.setCells blk (off + q * k) (enc dj[q1]!)).setCells blk (off + q1 * k) (enc dj[q]!))) := S1.out.swapped R q q1 (by omega) (by omega)
            have la := S1.out.ld1 R (by omega) Tryz.prog q (by omega)
            have lb := S1.out.ld1 R (by omega) Tryz.prog q1 (by omega)
            have sa := S1.out.st1 R (by omega) Tryz.prog q (by omega) dj[q1]!
            have sb := S1.out.st2 R (by omega) Tryz.prog q q1 (by omega) (by omega) dj[q1]! dj[q]!
            have na : (enc dj[q]!).length = k := R.hk _
            have nb : (enc dj[q1]!).length = k := R.hk _
            generalize enc dj[q]! = cI at S2 la sb na
            generalize enc dj[q1]! = cJ at S2 lb sa sb nb
            clear S1
            go_wp2_with fail
            go_big_region_o
            clear la lb sa sb
            generalize (wq.drew.setCells blk (off + q * k) cJ).setCells blk (off + q1 * k) cI = w2 at S2 ⊢
            go_wp2
            go_roundg q1
            case measure => omega
            case rel => exact ⟨q1, swp dj q q1, by first | rfl | go_num, by omega, by omega, Nat.le_refl _, by rw [size_swp]; exact hsj, S2, HI2⟩
          · have tv : decide (cf ex ey < 0) = false := decide_eq_false hlv
            have HO2 := OUT.out (Or.inr (by rw [show q - 1 = q1 by omega]; exact hlt2.out.trans tv))
            go_wp2_with fail
            go_quiet_grown (first | (go_at_fn g; refine Calls.grown_of (hcg _ _)))
            go_wp2
            go_roundg (b - i1)
            case measure => omega
            case rel => exact ⟨i1, dj, by first | rfl | go_num, by omega, by omega, by omega, hsj, CLS.out nq osq, HO2⟩
        · have hjaz : decide ((a : Int) < (q : Int)) = false := decide_eq_false (by omega)
          have hjaz' : ¬ (a : Int) < (q : Int) := by omega
          have HO2 := OUT.out (Or.inl (by omega))
          have S2 : Aside (SWK enc k w0 blk off dj wr.drew) := S1.out.drew
          clear S1 OUT HI
          go_wp2_with fail
          go_big_region_o
          all_goals go_wp2
          go_roundg (b - i1)
          case measure => omega
          case rel => exact ⟨i1, dj, by first | rfl | go_num, by omega, by omega, by omega, hsj, S2, HO2⟩
    · have hltz : ¬ (i : Int) < (b : Int) := by omega
      go_wp2
      go_end0
      refine ⟨rfl, ?_⟩
      unfold Sort.insertionSort
      rw [ha1, ← HO.out, insOuter_stop _ _ _ _ _ hlt]
      exact S1.out
theorem mergePass_size (lt : α → α → Bool) (n bs : Nat) : ∀ (r a : Nat) (d : Array α), n - a ≤ r → (mergePass lt n bs a d).size = d.size := by
  intro r
  induction r using Nat.strongRecOn with
  | ind r ih =>
    intro a d hr
    rw [mergePass]
    split
    · rename_i h
      rw [ih (n - (a + 2 * bs)) (by omega) _ _ (Nat.le_refl _), symMerge_size]
    · split
      · exact symMerge_size _ _ _ _ _ _
      · rfl
theorem insertion_size (lt : α → α → Bool) (a b : Nat) (d : Array α) : (Sort.insertionSort lt d a b).size = d.size := by
  have hi : ∀ (j : Nat) (d : Array α), (insInner lt a j d).size = d.size := fun j => by
    induction j with
    | zero => intro d; rfl
    | succ j ih => intro d; rw [insInner]; split; rw [ih, size_swp]; rfl
  have ho : ∀ (r i : Nat) (d : Array α), b - i ≤ r → (insOuter lt a b i d).size = d.size := fun r => by
    induction r with
    | zero => intro i d h; rw [insOuter, if_neg (by omega)]
    | succ r ih =>
      intro i d h
      rw [insOuter]
      split
      · rw [ih _ _ (by omega), hi]
      · rfl
  exact ho (b - (a + 1)) (a + 1) d (Nat.le_refl _)
set_option maxHeartbeats 4000000 in
set_option maxRecDepth 1000000 in
theorem stable_any (k : Nat) (zE : ∀ w, (Go.sizeOf 39).run Tryz.prog w = .ok k w) (enc : α → List Value) (cf : α → α → Int) (g : Nat) (cb : Array Value) (blk off cap N : Nat) (d : Array α) (w0 : World)
    (R : RowK enc k w0 blk off d) (hsz : N ≤ 1000000000) (eg : ∀ args w, (callFunc g args).run Tryz.prog w = .ok (.enter g args) w) (hcmp : CmpLays Tryz.prog g cb enc k cf blk off N w0) (hN : d.size = N) :
    Calls Tryz.prog 58 #[.slice (some ⟨blk, off, none⟩) N cap, .int .i64 N, .func (.func g) #[] cb] w0 fun e w' => e = .returned (.tuple #[]) ∧ SWK enc k w0 blk off (stable (ltOf cf) d) w' := by
  have INS := Lib.hid fun a b (dk : Array α) w (h1 : dk.size = N) (S : SWK enc k w0 blk off dk w) (h2 : a ≤ b) (h3 : b ≤ N) => insertion_any k zE enc cf g cb blk off cap N a b d dk w0 w R hN (by omega) eg hcmp h1 S h2 h3
  have SMC := Lib.hid fun f a m b (dk : Array α) w (h1 : dk.size = N) (S : SWK enc k w0 blk off dk w) (h2 : a < m) (h3 : m < b) (h4 : b ≤ N) (h5 : b - a ≤ f) => symMerge_any k zE enc cf g cb blk off cap N d w0 R hN (by omega) eg hcmp f a m b dk w h1 S h2 h3 h4 h5
  have S0 : Aside (SWK enc k w0 blk off d w0) := SWK.start R.hH
  have HFIN : Aside (stable (ltOf cf) d = stableLoop (ltOf cf) N 20 (insBlocks (ltOf cf) N 0 d)) := by show stable (ltOf cf) d = _; unfold stable; rw [hN]
  clear eg hcmp zE R
  go_enter Tryz.func58, Tryz.ntmps58
  go_wp2_with fail
  go_loopg [7, 8] N (fun kx s7 s8 wr => ∃ (a b : Nat) (dk : Array α), s7 = .int .i64 a ∧ s8 = .int .i64 b ∧ a + 20 = b ∧ a ≤ N ∧ N - a ≤ kx ∧ dk.size = N ∧ Aside (SWK enc k w0 blk off dk wr) ∧ Aside (insBlocks (ltOf cf) N a dk = insBlocks (ltOf cf) N 0 d))
  case atStart => exact ⟨0, 20, d, rfl, rfl, rfl, by omega, by omega, hN, S0, rfl⟩
  case round =>
    clear S0
    obtain ⟨a, b, dk, rfl, rfl, hab, haN, hkx, hds, S1, heq⟩ := hrel
    by_cases hle : b ≤ N
    · have hz : (b : Int) ≤ (N : Int) := by omega
      obtain ⟨b2, hb2⟩ : ∃ x : Nat, b + 20 = x := ⟨_, rfl⟩
      have y1 : IntKind.i64.wrap ((b : Int) + 20) = (b2 : Int) := by rw [IntKind.wrap_i64]; omega
      have hq := heq.out
      rw [insBlocks, if_pos (by omega), hab] at hq
      have HQ : Aside _ := hq
      clear hq heq
      go_wp2_with fail
      refine (INS.out a b dk _ hds S1.out (by omega) hle).mono ?_
      rintro er w2 ⟨rfl, S2⟩
      have S3 : Aside _ := S2
      clear S2 S1
      go_wp2
      go_roundg (N - b)
      case measure => omega
      case rel => exact ⟨b, b2, _, rfl, by first | rfl | go_num, hb2, hle, Nat.le_refl _, by rw [insertion_size]; exact hds, S3, HQ⟩
    · have hz : ¬ (b : Int) ≤ (N : Int) := by omega
      have hq := heq.out
      rw [insBlocks, if_neg (by omega)] at hq
      have HQ : Aside _ := hq
      clear hq heq
      go_wp2_with fail
      refine (INS.out a N dk _ hds S1.out haN (Nat.le_refl _)).mono ?_
      rintro er w2 ⟨rfl, S2⟩
      have S3 : Aside (SWK enc k w0 blk off (insBlocks (ltOf cf) N 0 d) w2) := by show SWK enc k w0 blk off _ w2; rw [← HQ.out]; exact S2
      have hz2 : (insBlocks (ltOf cf) N 0 d).size = N := by rw [← HQ.out, insertion_size]; exact hds
      obtain ⟨D0, hD0⟩ : ∃ x, x = insBlocks (ltOf cf) N 0 d := ⟨_, rfl⟩
      rw [← hD0] at S3 hz2 HFIN
      clear S2 S1 HQ hD0 hds hab haN hkx hz
      go_wp2_with fail
      go_loopg [6] N (fun kx s6 wr => ∃ (bs : Nat) (dk : Array α), s6 = .int .i64 bs ∧ 0 < bs ∧ bs ≤ 2 * N + 20 ∧ N - bs ≤ kx ∧ dk.size = N ∧ Aside (SWK enc k w0 blk off dk wr) ∧ Aside (stableLoop (ltOf cf) N bs dk = stableLoop (ltOf cf) N 20 D0))
      case atStart => exact ⟨20, D0, rfl, by omega, by omega, by omega, hz2, S3, rfl⟩
      case round =>
        clear S3
        obtain ⟨bs, dk, rfl, hbs, hbN, hkx, hds, S1, heq⟩ := hrel
        by_cases hlt : bs < N
        · have hz : (bs : Int) < (N : Int) := by omega
          obtain ⟨b2, hb2⟩ : ∃ x : Nat, 2 * bs = x := ⟨_, rfl⟩
          have y1 : IntKind.i64.wrap (2 * (bs : Int)) = (b2 : Int) := by rw [IntKind.wrap_i64]; omega
          have y2 : IntKind.i64.wrap ((bs : Int) * 2) = (b2 : Int) := by rw [IntKind.wrap_i64]; omega
          have hq := heq.out
          rw [stableLoop, dif_pos ⟨hbs, hlt⟩, hb2] at hq
          have HQ : Aside _ := hq
          clear hq heq
          go_wp2_with fail
          go_loopg [7, 8] N (fun kx s7 s8 wr => ∃ (a b : Nat) (dj : Array α), s7 = .int .i64 a ∧ s8 = .int .i64 b ∧ a + b2 = b ∧ a ≤ N ∧ N - a ≤ kx ∧ dj.size = N ∧ Aside (SWK enc k w0 blk off dj wr) ∧ Aside (mergePass (ltOf cf) N bs a dj = mergePass (ltOf cf) N bs 0 dk))
          case atStart => exact ⟨0, b2, dk, rfl, rfl, by omega, by omega, by omega, hds, S1, rfl⟩
          case round =>
            clear S1
            obtain ⟨a, b, dj, rfl, rfl, hab, haN, hkx2, hdj, S1, heq⟩ := hrel
            obtain ⟨m, hm⟩ : ∃ x : Nat, a + bs = x := ⟨_, rfl⟩
            have y3 : IntKind.i64.wrap ((a : Int) + (bs : Int)) = (m : Int) := by rw [IntKind.wrap_i64]; omega
            by_cases hle : b ≤ N
            · have hz3 : (b : Int) ≤ (N : Int) := by omega
              obtain ⟨b3, hb3⟩ : ∃ x : Nat, b + b2 = x := ⟨_, rfl⟩
              have y4 : IntKind.i64.wrap ((b : Int) + (b2 : Int)) = (b3 : Int) := by rw [IntKind.wrap_i64]; omega
              have hq := heq.out
              rw [mergePass, dif_pos ⟨hbs, by omega⟩, show a + 2 * bs = b by omega, hm] at hq
              have HQ2 : Aside _ := hq
              clear hq heq
              go_wp2_with fail
              refine (SMC.out (2 * bs) a m b dj _ hdj S1.out (by omega) (by omega) hle (by omega)).mono ?_
              rintro er w2 ⟨rfl, S2⟩
              have S3 : Aside _ := S2
              clear S2 S1
              go_wp2
              go_roundg (N - b)
              case measure => omega
              case rel => exact ⟨b, b3, _, rfl, by first | rfl | go_num, hb3, hle, Nat.le_refl _, by rw [symMerge_size]; exact hdj, S3, HQ2⟩
            · have hz3 : ¬ (b : Int) ≤ (N : Int) := by omega
              have hq := heq.out
              rw [mergePass, dif_neg (by omega), hm] at hq
              by_cases hmn : m < N
              · have hz4 : (m : Int) < (N : Int) := by omega
                rw [if_pos hmn] at hq
                have HQ2 : Aside _ := hq
                clear hq heq
                go_wp2_with fail
                refine (SMC.out (N - a) a m N dj _ hdj S1.out (by omega) hmn (Nat.le_refl _) (Nat.le_refl _)).mono ?_
                rintro er w2 ⟨rfl, S2⟩
                have S3 : Aside (SWK enc k w0 blk off (mergePass (ltOf cf) N bs 0 dk) w2) := by show SWK enc k w0 blk off _ w2; rw [← HQ2.out]; exact S2
                clear S2 S1
                go_wp2
                go_roundg (N - b2)
                case measure => omega
                case rel => exact ⟨b2, _, by first | rfl | go_num, by omega, by omega, Nat.le_refl _, by rw [mergePass_size _ _ _ N 0 dk (by omega)]; exact hds, S3, HQ⟩
              · have hz4 : ¬ (m : Int) < (N : Int) := by omega
                rw [if_neg hmn] at hq
                have HQ2 : Aside _ := hq
                clear hq heq
                have S3 : Aside (SWK enc k w0 blk off (mergePass (ltOf cf) N bs 0 dk) wr) := by show SWK enc k w0 blk off _ wr; rw [← HQ2.out]; exact S1.out
                clear S1
                go_wp2
                go_roundg (N - b2)
                case measure => omega
                case rel => exact ⟨b2, _, by first | rfl | go_num, by omega, by omega, Nat.le_refl _, by rw [mergePass_size _ _ _ N 0 dk (by omega)]; exact hds, S3, HQ⟩
        · have hz : ¬ (bs : Int) < (N : Int) := by omega
          have hq := heq.out
          rw [stableLoop, dif_neg (by omega)] at hq
          go_wp2
          go_end0
          refine ⟨rfl, ?_⟩
          rw [HFIN.out, ← hq]
          exact S1.out
end
end Go.Proofs.YtcbopgopegphlaaGreat
