/-
  Joined texts: AmN9 AmN10 AmN11 AmI. No statement is proved here.
-/
import Derived.Deep.RegionHeld3
import Derived.Deep.MidRow
import Derived.Test.YtcbopgopegphlaaGreatAmCC
import Derived.Test.YtcbopgopegphlaaGreatAmB
import Derived.Test.YtcbopgopegphlaaGreatAmA
import Derived.ProofKit
import Derived.OpenShut
import Derived.ChangeOld
import Derived.Laws.IdiomArrays
namespace Go.Proofs.YtcbopgopegphlaaGreat
open Go.RowKit
set_option linter.unusedVariables false

theorem below3 (w : World) (a b c : Obj) : Below w.heap.size w (((w.alloc a).alloc b).alloc c) :=
  (((Below.refl _ _).alloc (Nat.le_refl _) _).alloc (by simp) _).alloc (by (simp) <;> omega) _
structure EvSt (w v : World) (g b q r : Nat) : Prop where
  h1 : v.heap[w.heap.size + 1]? = some (.cells (row20 (dg b)) 138 (0, 0))
  h2 : v.heap[w.heap.size + 2]? = some (.cells z20 138 (0, 0))
  hq : v.heap[g]? = some (.cells (row20 (dg q)) 138 (0, 0))
  hr : v.heap[g + 1]? = some (.cells (row20 (dg r)) 138 (0, 0))
  bel : Below w.heap.size w v
  hg : w.heap.size + 3 ≤ g
theorem EvSt.below {w v v2 : World} {g b q r : Nat} (S : EvSt w v g b q r) (hb : Below v.heap.size v v2) : EvSt w v2 g b q r := by
  have h := heap_lt S.hr
  have hg := S.hg
  exact ⟨(hb.block _ (by omega)).trans S.h1, (hb.block _ (by omega)).trans S.h2, (hb.block _ (by omega)).trans S.hq, (hb.block _ (by omega)).trans S.hr, S.bel.trans (hb.mono (by omega)), hg⟩
theorem yields_row {P : Program} {ops : Array Oper} {S : World → Prop} {op : Oper} {a : Act} (hw : Region.wanted op (yielded ops a.tmps) = true) (ty : TypeId) (x : Operand) (ho : op.op = .load ty x)
    (g : Nat) (hx : a.eval x = .pointer (some ⟨g, 0, none⟩)) (t : TypeId) (cs : Array Value) (fr : Nat × Nat) (d : TypeDesc) (hS : ∀ w, S w → w.heap[g]? = some (.cells cs t fr))
    (hu : P.underlying ty = some d) (hd : (match d with | .struct _ | .array _ _ => true | _ => false) = true) (hi : (P.info? ty).map (·.size) = some cs.size) : YieldsIf P ops S op (.agg cs) a :=
  .inl ⟨hw, fun w hw' => by
    unfold execOp
    simp only [ho, hx, Instr.loadAt, Instr.sureAddr, Sem.run_bind, Sem.run_pure, Result.andThen_ok, run_loadVar_row w g t ty cs fr d (hS w hw') hu hd hi]⟩
theorem EvSt.setq {w v : World} {g b q r : Nat} (S : EvSt w v g b q r) (q' : Nat) : EvSt w (v.setRow g (row20 (dg q'))) g b q' r := by
  have hg := S.hg
  exact ⟨(setRow_other _ _ _ _ (by omega)).trans S.h1, (setRow_other _ _ _ _ (by omega)).trans S.h2, setRow_heap _ _ _ _ _ _ S.hq, (setRow_other _ _ _ _ (by omega)).trans S.hr, S.bel.setRow (by omega) _, hg⟩
theorem even_open {w w2 : World} (b q r : Nat) (h1 : w2.heap[w.heap.size + 1]? = some (.cells (row20 (dg b)) 138 (0, 0))) (h2 : w2.heap[w.heap.size + 2]? = some (.cells z20 138 (0, 0))) (hb : Below w.heap.size w w2) (hs : w.heap.size + 3 ≤ w2.heap.size) :
    EvSt w ((((w2.alloc (.cells z20 138)).alloc (.cells z20 138)).setRow w2.heap.size (row20 (dg q))).setRow (w2.heap.size + 1) (row20 (dg r))) w2.heap.size b q r := by
  have hB := ((Below.refl w2.heap.size w2).alloc (Nat.le_refl _) (.cells z20 138)).alloc (by simp) (.cells z20 138)
  have hC := (hB.setRow (Nat.le_refl _) (row20 (dg q))).setRow (g := w2.heap.size + 1) (by omega) (row20 (dg r))
  refine ⟨(hC.block _ (by omega)).trans h1, (hC.block _ (by omega)).trans h2, (setRow_other _ _ _ _ (by omega)).trans (setRow_heap _ _ _ _ _ _ (heap_alloc2_old w2 _ _)), setRow_heap _ _ _ _ _ _ ((setRow_other _ _ _ _ (by omega)).trans (heap_alloc2_new w2 _ _)), hb.trans (hC.mono (by omega)), hs⟩
set_option maxRecDepth 100000 in
set_option maxHeartbeats 4000000 in
theorem Even_any (a b : Nat) (w : World) (hb0 : 0 < b) (ha : a < 65536 ^ 20) (hb2 : 2 * b < 65536 ^ 20) :
    Calls Tryz.prog 83 #[natOf a, natOf b] w fun e w' => e = .returned (natOf (evenDiv a b)) ∧ Below w.heap.size w w' := by
  have hz := zero20
  have e1 : (row20 (dg a)).size = 20 := row20_size _
  have e2 : (row20 (dg b)).size = 20 := row20_size _
  have OV := Lib.hid (fun w => Over_any a b w hb0 ha hb2)
  have hED := Lib.hid (evenDiv_eq a b)
  have hR : a % b < b := Nat.mod_lt _ hb0
  have PL := Lib.hid (fun r w => Plus_any r r w)
  have PQ := Lib.hid (fun w => Plus_any (a / b) 1 w)
  have OF : Hid (∀ w, Calls Tryz.prog 86 #[.int .u64 1] w fun e w' => e = .returned (natOf 1) ∧ Below w.heap.size w w') := Lib.hid (fun w => Of_any 1 w (by omega))
  have CM := Lib.hid (fun (r : Nat) (hr : r < 65536 ^ 20) w => Cmp_any r b w hr (by omega))
  have H2R : Hid (a % b + a % b < 65536 ^ 20) := Lib.hid (by omega)
  obtain ⟨q0, q1, q2⟩ := alloc3 w (.cells (row20 (dg a)) 138) (.cells (row20 (dg b)) 138) (.cells z20 138)
  have HB := Lib.hid (below3 w (.cells (row20 (dg a)) 138) (.cells (row20 (dg b)) 138) (.cells z20 138))
  clear ha hb2
  unfold natOf at *
  generalize evenDiv a b = E at *
  generalize a / b = q at *
  generalize a % b = r at *
  go_enter Tryz.func83, Tryz.ntmps83
  go_wp2_with (first | (refine wpList_load_row rfl 138 _ rfl _ rfl _ _ _ _ q0 Tryz.underlying138 rfl (infoN _) ?_) | (refine wpList_load_row rfl 138 _ rfl _ rfl _ _ _ _ q1 Tryz.underlying138 rfl (infoN _) ?_))
  have hs0 : (((w.alloc (.cells (row20 (dg a)) 138)).alloc (.cells (row20 (dg b)) 138)).alloc (.cells z20 138)).heap.size = w.heap.size + 3 := by simp
  generalize (((w.alloc (.cells (row20 (dg a)) 138)).alloc (.cells (row20 (dg b)) 138)).alloc (.cells z20 138)) = v0 at *
  refine (OV.out _).mono ?_
  rintro e w2 ⟨rfl, hb2⟩
  rw [hs0] at hb2
  have G1 := (hb2.block _ (by omega)).trans q1
  have G2 := (hb2.block _ (by omega)).trans q2
  have HB2 := Lib.hid (HB.out.trans (hb2.mono (by omega)))
  have hs2 : Hid (w.heap.size + 3 ≤ w2.heap.size) := Lib.hid (by have := hb2.size; omega)
  clear q0 q1 q2 hb2 HB hs0
  have HE := even_open b q r G1 G2 HB2.out hs2.out
  have A0 : ((w2.alloc (.cells z20 138)).alloc (.cells z20 138)).heap[w2.heap.size]? = _ := heap_alloc2_old w2 _ _
  have A1 : (((w2.alloc (.cells z20 138)).alloc (.cells z20 138)).setRow w2.heap.size (row20 (dg q))).heap[w2.heap.size + 1]? = _ := (setRow_other _ _ _ _ (by omega)).trans (heap_alloc2_new w2 _ _)
  clear G1 G2 HB2 hs2
  have HEE := Lib.hid HE
  clear HE
  go_wp2_with (first | (refine wpList_store_row rfl _ _ _ rfl _ _ rfl rfl _ _ A0 (infoN _) (by rw [row20_size]; rfl) (row20_one _) ?_) | (refine wpList_store_row rfl _ _ _ rfl _ _ rfl rfl _ _ A1 (infoN _) (by rw [row20_size]; rfl) (row20_one _) ?_))
  clear A0 A1
  generalize (((w2.alloc (.cells z20 138)).alloc (.cells z20 138)).setRow w2.heap.size (row20 (dg q))).setRow (w2.heap.size + 1) (row20 (dg r)) = v3 at *
  generalize w2.heap.size = g at *
  simp only [Act.put]
  have HD := HEE.out.below (Below.refl _ _).drew
  clear HEE
  refine wp_region_held (S := fun v => EvSt w v g b q r) (by kernel_rfl) ?_
  change wpAnyH _ _ _ _ _ _ _ _ (World.drew _)
  refine wpAnyH_take (i := 0) rfl (by kernel_rfl) (by kernel_rfl) (by kernel_rfl) (fun _ _ _ h => h) (yields_row (by rfl) 138 _ rfl _ rfl _ _ _ _ (fun _ S => S.hr) Tryz.underlying138 rfl (infoN _)) (by assumption) ?_
  refine wpAnyH_take (i := 1) rfl (by kernel_rfl) (by kernel_rfl) (by kernel_rfl) (fun _ _ _ h => h) (yields_row (by rfl) 138 _ rfl _ rfl _ _ _ _ (fun _ S => S.hr) Tryz.underlying138 rfl (infoN _)) (by assumption) ?_
  refine wpAnyH_take (i := 3) rfl (by kernel_rfl) (by kernel_rfl) (by kernel_rfl) (fun _ _ _ h => h) (yields_row (by rfl) 138 _ rfl _ rfl _ _ _ _ (fun _ S => S.h1) Tryz.underlying138 rfl (infoN _)) (by assumption) ?_
  generalize v3.drew = v4 at *
  refine wpAnyH_ready (rs := [2]) (by kernel_rfl) (by simp) ?_
  refine AllReadyH.cons rfl (fun K hK => ?_) AllReadyH.nil
  go_simp
  refine (PL.out _ _).mono ?_
  rintro e w5 ⟨rfl, hb5⟩
  have HD5 := HD.below hb5
  clear HD hb5
  refine hK.out _ _ HD5 fun _ => ?_
  clear hK K
  refine wpAnyH_ready (rs := [4]) (by kernel_rfl) (by simp) ?_
  refine AllReadyH.cons rfl (fun K hK => ?_) AllReadyH.nil
  go_simp
  refine (CM.out _ H2R.out _).mono ?_
  rintro e w6 ⟨rfl, hb6⟩
  have HD6 := HD5.below hb6
  clear HD5 hb6
  refine hK.out _ _ HD6 fun _ => ?_
  clear hK K
  refine wpAnyH_ready (rs := [5]) (by kernel_rfl) (by simp) ?_
  refine AllReadyH.cons rfl (fun K hK => ?_) AllReadyH.nil
  go_simp
  refine hK.out _ _ HD6 fun _ => ?_
  clear hK K
  refine wpAnyH_done (by kernel_rfl) ?_ _
  rename_i hX1 hX2
  clear hX1 hX2
  have hc0 := cells_at HD6.hq 0 (by omega)
  have hdq : dg q 0 = q % 65536 := by simp [dg]
  rw [hdq] at hc0
  have hql : q % 65536 < 65536 := Nat.mod_lt _ (by omega)
  have HC : Hid (cmpOf (r + r) b = if r + r < b then -1 else if b < r + r then 1 else 0) := Lib.hid rfl
  have HE6 := Lib.hid HD6
  generalize hq6 : q % 65536 = d at *
  have HQ := Lib.hid hq6
  clear HD6 hdq hq6
  generalize cmpOf (r + r) b = c at *
  by_cases h1 : b < r + r
  · obtain rfl : E = q + 1 := by rw [hED.out, if_pos (by omega)]
    obtain rfl : c = 1 := by rw [HC.out, if_neg (by omega), if_pos h1]
    clear HC hED
    go_wp2_with fail
    have S0 := HE6.out.below (Below.refl _ _).drew
    clear HE6 hc0
    refine wp_region_any (by kernel_rfl) ?_
    change wpAny _ _ _ _ _ _ _ (World.drew _)
    generalize w6.drew = w7 at *
    refine wpAny_ready (rs := [0, 1]) (by kernel_rfl) (by simp) ?_
    refine AllReady.cons rfl (fun K hK => ?_) (AllReady.cons rfl (fun K hK => ?_) AllReady.nil)
    · refine step_load_row rfl 138 _ rfl _ rfl _ _ _ _ S0.hq Tryz.underlying138 rfl (infoN _) ?_; refine hK _ _ ?_; clear hK K
      refine wpAny_ready (rs := [1]) (by kernel_rfl) (by simp) ?_
      refine AllReady.cons rfl (fun K hK => ?_) AllReady.nil
      have HKK : Shut (∀ a w, _ → K a w) := hK
      clear hK
      go_simp
      refine (OF.out _).mono ?_
      rintro e w9 ⟨rfl, hb9⟩
      have S1 := S0.below hb9
      clear hb9 S0
      refine HKK.out _ _ ?_
      clear HKK K
      refine wpAny_ready (rs := [2]) (by kernel_rfl) (by simp) ?_
      refine AllReady.cons rfl (fun K hK => ?_) AllReady.nil
      have HKK : Shut (∀ a w, _ → K a w) := hK
      clear hK
      go_simp
      refine (PQ.out _).mono ?_
      rintro e w9 ⟨rfl, hb9⟩
      have S2 := S1.below hb9
      clear hb9 S1
      refine HKK.out _ _ ?_
      clear HKK K
      refine wpAny_ready (rs := [3]) (by kernel_rfl) (by simp) ?_
      refine AllReady.cons rfl (fun K hK => ?_) AllReady.nil
      have S3 := S2.setq (q + 1)
      refine step_store_row rfl _ _ _ rfl _ _ rfl rfl _ _ S2.hq (infoN _) (by rw [row20_size]; rfl) (row20_one _) ?_; refine hK _ _ ?_; clear hK K
      clear S2
      refine wpAny_done (by kernel_rfl) ?_ _
      go_wp2_with (first | (refine wpList_load_row rfl 138 _ rfl _ rfl _ _ _ _ S3.hq Tryz.underlying138 rfl (infoN _) ?_) | (refine wpList_store_row rfl _ _ _ rfl _ _ rfl rfl _ _ S3.h2 (infoN _) (by rw [row20_size]; rfl) (row20_one _) ?_))
      exact bodyPost_ret (results_cell_row (fn := Tryz.f83) rfl _ _ (w.heap.size + 2) 138 (row20 (dg (q + 1))) (0, 0) _ rfl (setRow_heap _ _ _ _ _ _ S3.h2) Tryz.underlying138 rfl (infoN _)) rfl ⟨rfl, (S3.bel).setRow (by omega) _⟩
    · have HKK : Shut (∀ a w, _ → K a w) := hK
      clear hK
      go_simp
      refine (OF.out _).mono ?_
      rintro e w9 ⟨rfl, hb9⟩
      have S1 := S0.below hb9
      clear hb9 S0
      refine HKK.out _ _ ?_
      clear HKK K
      refine wpAny_ready (rs := [0]) (by kernel_rfl) (by simp) ?_
      refine AllReady.cons rfl (fun K hK => ?_) AllReady.nil
      refine step_load_row rfl 138 _ rfl _ rfl _ _ _ _ S1.hq Tryz.underlying138 rfl (infoN _) ?_; refine hK _ _ ?_; clear hK K
      refine wpAny_ready (rs := [2]) (by kernel_rfl) (by simp) ?_
      refine AllReady.cons rfl (fun K hK => ?_) AllReady.nil
      have HKK : Shut (∀ a w, _ → K a w) := hK
      clear hK
      go_simp
      refine (PQ.out _).mono ?_
      rintro e w9 ⟨rfl, hb9⟩
      have S2 := S1.below hb9
      clear hb9 S1
      refine HKK.out _ _ ?_
      clear HKK K
      refine wpAny_ready (rs := [3]) (by kernel_rfl) (by simp) ?_
      refine AllReady.cons rfl (fun K hK => ?_) AllReady.nil
      have S3 := S2.setq (q + 1)
      refine step_store_row rfl _ _ _ rfl _ _ rfl rfl _ _ S2.hq (infoN _) (by rw [row20_size]; rfl) (row20_one _) ?_; refine hK _ _ ?_; clear hK K
      clear S2
      refine wpAny_done (by kernel_rfl) ?_ _
      go_wp2_with (first | (refine wpList_load_row rfl 138 _ rfl _ rfl _ _ _ _ S3.hq Tryz.underlying138 rfl (infoN _) ?_) | (refine wpList_store_row rfl _ _ _ rfl _ _ rfl rfl _ _ S3.h2 (infoN _) (by rw [row20_size]; rfl) (row20_one _) ?_))
      exact bodyPost_ret (results_cell_row (fn := Tryz.f83) rfl _ _ (w.heap.size + 2) 138 (row20 (dg (q + 1))) (0, 0) _ rfl (setRow_heap _ _ _ _ _ _ S3.h2) Tryz.underlying138 rfl (infoN _)) rfl ⟨rfl, (S3.bel).setRow (by omega) _⟩
  · by_cases h2 : r + r < b
    · obtain rfl : E = q := by rw [hED.out, if_neg (by omega)]
      obtain rfl : c = -1 := by rw [HC.out, if_pos h2]
      clear HC hED
      go_wp2_with (first | (refine wpList_load_row rfl 138 _ rfl _ rfl _ _ _ _ HE6.out.hq Tryz.underlying138 rfl (infoN _) ?_) | (refine wpList_store_row rfl _ _ _ rfl _ _ rfl rfl _ _ HE6.out.h2 (infoN _) (by rw [row20_size]; rfl) (row20_one _) ?_))
      exact bodyPost_ret (results_cell_row (fn := Tryz.f83) rfl _ _ (w.heap.size + 2) 138 (row20 (dg E)) (0, 0) _ rfl (setRow_heap _ _ _ _ _ _ HE6.out.h2) Tryz.underlying138 rfl (infoN _)) rfl ⟨rfl, (HE6.out.bel).setRow (by omega) _⟩
    · have hrb : r + r = b := by omega
      obtain rfl : c = 0 := by rw [HC.out, if_neg h2, if_neg h1]
      by_cases h3 : q % 2 = 1
      · obtain rfl : E = q + 1 := by rw [hED.out, if_pos (by omega)]
        have hd1 : (d : Int) % 2 = 1 := by have := HQ.out; omega
        clear HC hED
        go_wp2_with fail
        have S0 := HE6.out.below (Below.refl _ _).drew
        clear HE6 hc0
        refine wp_region_any (by kernel_rfl) ?_
        change wpAny _ _ _ _ _ _ _ (World.drew _)
        generalize w6.drew = w7 at *
        refine wpAny_ready (rs := [0, 1]) (by kernel_rfl) (by simp) ?_
        refine AllReady.cons rfl (fun K hK => ?_) (AllReady.cons rfl (fun K hK => ?_) AllReady.nil)
        · refine step_load_row rfl 138 _ rfl _ rfl _ _ _ _ S0.hq Tryz.underlying138 rfl (infoN _) ?_; refine hK _ _ ?_; clear hK K
          refine wpAny_ready (rs := [1]) (by kernel_rfl) (by simp) ?_
          refine AllReady.cons rfl (fun K hK => ?_) AllReady.nil
          have HKK : Shut (∀ a w, _ → K a w) := hK
          clear hK
          go_simp
          refine (OF.out _).mono ?_
          rintro e w9 ⟨rfl, hb9⟩
          have S1 := S0.below hb9
          clear hb9 S0
          refine HKK.out _ _ ?_
          clear HKK K
          refine wpAny_ready (rs := [2]) (by kernel_rfl) (by simp) ?_
          refine AllReady.cons rfl (fun K hK => ?_) AllReady.nil
          have HKK : Shut (∀ a w, _ → K a w) := hK
          clear hK
          go_simp
          refine (PQ.out _).mono ?_
          rintro e w9 ⟨rfl, hb9⟩
          have S2 := S1.below hb9
          clear hb9 S1
          refine HKK.out _ _ ?_
          clear HKK K
          refine wpAny_ready (rs := [3]) (by kernel_rfl) (by simp) ?_
          refine AllReady.cons rfl (fun K hK => ?_) AllReady.nil
          have S3 := S2.setq (q + 1)
          refine step_store_row rfl _ _ _ rfl _ _ rfl rfl _ _ S2.hq (infoN _) (by rw [row20_size]; rfl) (row20_one _) ?_; refine hK _ _ ?_; clear hK K
          clear S2
          refine wpAny_done (by kernel_rfl) ?_ _
          go_wp2_with (first | (refine wpList_load_row rfl 138 _ rfl _ rfl _ _ _ _ S3.hq Tryz.underlying138 rfl (infoN _) ?_) | (refine wpList_store_row rfl _ _ _ rfl _ _ rfl rfl _ _ S3.h2 (infoN _) (by rw [row20_size]; rfl) (row20_one _) ?_))
          exact bodyPost_ret (results_cell_row (fn := Tryz.f83) rfl _ _ (w.heap.size + 2) 138 (row20 (dg (q + 1))) (0, 0) _ rfl (setRow_heap _ _ _ _ _ _ S3.h2) Tryz.underlying138 rfl (infoN _)) rfl ⟨rfl, (S3.bel).setRow (by omega) _⟩
        · have HKK : Shut (∀ a w, _ → K a w) := hK
          clear hK
          go_simp
          refine (OF.out _).mono ?_
          rintro e w9 ⟨rfl, hb9⟩
          have S1 := S0.below hb9
          clear hb9 S0
          refine HKK.out _ _ ?_
          clear HKK K
          refine wpAny_ready (rs := [0]) (by kernel_rfl) (by simp) ?_
          refine AllReady.cons rfl (fun K hK => ?_) AllReady.nil
          refine step_load_row rfl 138 _ rfl _ rfl _ _ _ _ S1.hq Tryz.underlying138 rfl (infoN _) ?_; refine hK _ _ ?_; clear hK K
          refine wpAny_ready (rs := [2]) (by kernel_rfl) (by simp) ?_
          refine AllReady.cons rfl (fun K hK => ?_) AllReady.nil
          have HKK : Shut (∀ a w, _ → K a w) := hK
          clear hK
          go_simp
          refine (PQ.out _).mono ?_
          rintro e w9 ⟨rfl, hb9⟩
          have S2 := S1.below hb9
          clear hb9 S1
          refine HKK.out _ _ ?_
          clear HKK K
          refine wpAny_ready (rs := [3]) (by kernel_rfl) (by simp) ?_
          refine AllReady.cons rfl (fun K hK => ?_) AllReady.nil
          have S3 := S2.setq (q + 1)
          refine step_store_row rfl _ _ _ rfl _ _ rfl rfl _ _ S2.hq (infoN _) (by rw [row20_size]; rfl) (row20_one _) ?_; refine hK _ _ ?_; clear hK K
          clear S2
          refine wpAny_done (by kernel_rfl) ?_ _
          go_wp2_with (first | (refine wpList_load_row rfl 138 _ rfl _ rfl _ _ _ _ S3.hq Tryz.underlying138 rfl (infoN _) ?_) | (refine wpList_store_row rfl _ _ _ rfl _ _ rfl rfl _ _ S3.h2 (infoN _) (by rw [row20_size]; rfl) (row20_one _) ?_))
          exact bodyPost_ret (results_cell_row (fn := Tryz.f83) rfl _ _ (w.heap.size + 2) 138 (row20 (dg (q + 1))) (0, 0) _ rfl (setRow_heap _ _ _ _ _ _ S3.h2) Tryz.underlying138 rfl (infoN _)) rfl ⟨rfl, (S3.bel).setRow (by omega) _⟩
      · obtain rfl : E = q := by rw [hED.out, if_neg (by omega)]
        have hd1 : (d : Int) % 2 = 0 := by have := HQ.out; omega
        clear HC hED
        go_wp2_with (first | (refine wpList_load_row rfl 138 _ rfl _ rfl _ _ _ _ HE6.out.hq Tryz.underlying138 rfl (infoN _) ?_) | (refine wpList_store_row rfl _ _ _ rfl _ _ rfl rfl _ _ HE6.out.h2 (infoN _) (by rw [row20_size]; rfl) (row20_one _) ?_))
        exact bodyPost_ret (results_cell_row (fn := Tryz.f83) rfl _ _ (w.heap.size + 2) 138 (row20 (dg E)) (0, 0) _ rfl (setRow_heap _ _ _ _ _ _ HE6.out.h2) Tryz.underlying138 rfl (infoN _)) rfl ⟨rfl, (HE6.out.bel).setRow (by omega) _⟩
end Go.Proofs.YtcbopgopegphlaaGreat

namespace Go.Proofs.YtcbopgopegphlaaGreat
open Go.RowKit
set_option linter.unusedVariables false

theorem dg_unroll (n j : Nat) : n / 65536 ^ j = dg n j + 65536 * (n / 65536 ^ (j + 1)) := by
  unfold dg
  rw [Nat.pow_succ, ← Nat.div_div_eq_div_mul]
  omega
theorem dg_high (n : Nat) (hn : n < 65536 ^ 20) (h : ∀ j, 4 ≤ j → j < 20 → dg n j = 0) : n < 18446744073709551616 := by
  have key : ∀ k, k ≤ 16 → n / 65536 ^ (20 - k) = 0 := by
    intro k
    induction k with
    | zero => intro _; exact Nat.div_eq_of_lt hn
    | succ k ih =>
      intro hk
      rw [dg_unroll, h (20 - (k + 1)) (by omega) (by omega), show 20 - (k + 1) + 1 = 20 - k by omega, ih (by omega)]
  have h4 := key 16 (by omega)
  have e : (65536 : Nat) ^ (20 - 16) = 18446744073709551616 := by decide
  rw [e] at h4
  omega
theorem dg_nonzero (n j : Nat) (hj : 4 ≤ j) (h : dg n j ≠ 0) : 9223372036854775808 < n := by
  rcases Nat.lt_or_ge n (65536 ^ 4) with h2 | h2
  · exact absurd (dg_far n 4 j h2 hj) h
  · have e : (65536 : Nat) ^ 4 = 18446744073709551616 := by decide
    omega
theorem dg_four (n : Nat) (hn : n < 18446744073709551616) : n = dg n 0 + 65536 * (dg n 1 + 65536 * (dg n 2 + 65536 * dg n 3)) := by
  have h0 := dg_unroll n 0
  have h1 := dg_unroll n 1
  have h2 := dg_unroll n 2
  have h3 := dg_unroll n 3
  have e : n / 65536 ^ (3 + 1) = 0 := Nat.div_eq_of_lt hn
  rw [e] at h3
  rw [Nat.pow_zero, Nat.div_one] at h0
  simp only [Nat.zero_add] at h0
  omega
theorem sgn_ok (q : Nat) (m : Bool) : (sgn q m).2 = 0 ∨ sgn q m = (0, 4) := by
  unfold sgn
  split <;> split <;> simp
set_option maxRecDepth 100000 in
set_option maxHeartbeats 4000000 in
theorem Back_any (n : Nat) (m : Bool) (w : World) (hn : n < 65536 ^ 20) :
    Calls Tryz.prog 82 #[natOf n, .bool m] w fun e w' => e = .returned (.tuple #[.int .i64 (sgn n m).1, .bool (decide ((sgn n m).2 = 0))]) ∧ Below w.heap.size w w' := by
  have e1 : (row20 (dg n)).size = 20 := row20_size _
  have HN := Lib.hid hn
  have HS : Hid (sgn n m = if m then (if n ≤ 9223372036854775808 then (-(n : Int), 0) else (0, 4)) else (if n < 9223372036854775808 then ((n : Int), 0) else (0, 4))) := Lib.hid rfl
  generalize sgn n m = S at *
  clear hn
  unfold natOf at *
  go_enter Tryz.func82, Tryz.ntmps82
  go_wp2
  have h0 : (w.alloc (.cells (row20 (dg n)) 138)).heap[w.heap.size]? = some (.cells (row20 (dg n)) 138 (0, 0)) := heap_alloc_new w _
  have HB := Lib.hid ((Below.refl w.heap.size w).alloc (Nat.le_refl _) (.cells (row20 (dg n)) 138))
  generalize w.alloc (.cells (row20 (dg n)) 138) = v at *
  have H0 := Lib.hid h0
  clear h0
  go_loopw [6] (fun t wr => ∃ i : Nat, 4 ≤ i ∧ i ≤ 20 ∧ t = .int .i64 i ∧ wr = v ∧ Hid (∀ j, 4 ≤ j → j < i → dg n j = 0)) (fun t _ => 20 - (intOf t).toNat)
  case atStart => exact ⟨4, by omega, by omega, rfl, rfl, Lib.hid fun j h1 h2 => by omega⟩
  case round =>
    obtain ⟨i, h4, hi, rfl, rfl, HZ⟩ := hrel
    by_cases hlt : i < 20
    · have c0 := cells_at H0.out i hlt
      have hdl := dg_lt n i
      by_cases hz : dg n i = 0
      · have HZ2 : Hid (∀ j, 4 ≤ j → j < i + 1 → dg n j = 0) := Lib.hid fun j h1 h2 => by
          rcases Nat.lt_or_ge j i with h | h
          · exact HZ.out j h1 h
          · rw [show j = i by omega, hz]
        rw [hz] at c0
        clear HZ hz hdl
        go_wp2
        go_roundw
        case rel => exact ⟨i + 1, by omega, by omega, by go_num, trivial, HZ2⟩
        case measure => (try simp [intOf]) <;> (try omega)
      · have hbig := dg_nonzero n i h4 hz
        obtain rfl : S = (0, 4) := by
          rw [HS.out]
          cases m
          · rw [if_neg (by simp), if_neg (by omega)]
          · rw [if_pos rfl, if_neg (by omega)]
        clear HS hbig
        generalize dg n i = d at *
        go_wp2
        go_ret2
        exact ⟨rfl, HB.out⟩
    · obtain rfl : i = 20 := by omega
      have hs := dg_high n HN.out HZ.out
      have hf := dg_four n hs
      have c0 := cells_at H0.out 0 (by omega)
      have c1 := cells_at H0.out 1 (by omega)
      have c2 := cells_at H0.out 2 (by omega)
      have c3 := cells_at H0.out 3 (by omega)
      have d0 := dg_lt n 0
      have d1 := dg_lt n 1
      have d2 := dg_lt n 2
      have d3 := dg_lt n 3
      clear HN HZ
      generalize dg n 0 = x0 at *
      generalize dg n 1 = x1 at *
      generalize dg n 2 = x2 at *
      generalize dg n 3 = x3 at *
      obtain ⟨y2, hy2⟩ : ∃ y, y = x2 + 65536 * x3 := ⟨_, rfl⟩
      obtain ⟨y1, hy1⟩ : ∃ y, y = x1 + 65536 * y2 := ⟨_, rfl⟩
      have g2 : (x2 : Int) + 65536 * (x3 : Int) = (y2 : Int) := by omega
      have g1 : (x1 : Int) + 65536 * (y2 : Int) = (y1 : Int) := by omega
      have g0 : (x0 : Int) + 65536 * (y1 : Int) = (n : Int) := by omega
      have b2 : y2 < 4294967296 := by omega
      have b1 : y1 < 281474976710656 := by omega
      clear hf hy2 hy1
      have hs' := hs
      cases m
      · by_cases hb : n < 9223372036854775808
        · obtain rfl : S = ((n : Int), 0) := by rw [HS.out, if_neg (by simp), if_pos hb]
          clear HS
          go_wp2
          go_ret2
          exact ⟨rfl, HB.out⟩
        · obtain rfl : S = (0, 4) := by rw [HS.out, if_neg (by simp), if_neg hb]
          clear HS
          go_wp2
          go_ret2
          exact ⟨rfl, HB.out⟩
      · by_cases hb : n ≤ 9223372036854775808
        · obtain rfl : S = (-(n : Int), 0) := by rw [HS.out, if_pos rfl, if_pos hb]
          clear HS
          have e2 : Hid (wrap64 (IntKind.u64.wrap (-(n : Int))) = -(n : Int)) := Lib.hid (by rw [wrapU']; unfold wrap64; omega)
          go_wp2
          go_ret2
          exact ⟨by rw [e2.out]; rfl, HB.out⟩
        · obtain rfl : S = (0, 4) := by rw [HS.out, if_pos rfl, if_neg hb]
          clear HS
          go_wp2
          go_ret2
          exact ⟨rfl, HB.out⟩
end Go.Proofs.YtcbopgopegphlaaGreat

namespace Go.Proofs.YtcbopgopegphlaaGreat
open Go.RowKit
set_option linter.unusedVariables false

theorem evenDiv_le (n d : Nat) : evenDiv n d ≤ n + 1 := by
  rw [evenDiv_eq]
  have := Nat.div_le_self n d
  split <;> omega
theorem pow20_big : (1461501637330902918203684832716283019655932542975 : Nat) < 65536 ^ 20 := by decide +kernel
theorem sgn_tuple (q : Nat) (m : Bool) : sgn q m = if decide ((sgn q m).2 = 0) = true then ((sgn q m).1, 0) else (0, 4) := by
  unfold sgn
  split <;> split <;> simp
set_option maxHeartbeats 1000000 in
theorem refMulDiv (a b c : Int) (w : World) (a0 : -9223372036854775808 ≤ a) (a1 : a ≤ 9223372036854775807) (b0 : -9223372036854775808 ≤ b) (b1 : b ≤ 9223372036854775807) (c0 : -9223372036854775808 ≤ c) (c1 : c ≤ 9223372036854775807) :
    Calls Tryz.prog 57 #[.int .i64 a, .int .i64 b, .int .i64 c] w fun e w' => e = .returned (.tuple #[.int .i64 (mulDivOf a b c).1, .int .i64 (mulDivOf a b c).2]) ∧ Below w.heap.size w w' := by
  have HDef : mulDivOf a b c = if c = 0 then (0, 5) else overOf (a.natAbs * b.natAbs) c.natAbs (decide (a < 0) ^^ decide (b < 0) ^^ decide (c < 0)) := rfl
  rw [HDef]
  clear HDef
  by_cases hc : c = 0
  · subst hc
    rw [if_pos rfl]
    go_enter Tryz.func57, Tryz.ntmps57
    go_wp2
    go_ret2
    exact ⟨rfl, Below.refl _ _⟩
  · rw [if_neg hc]
    have SA := Lib.hid (fun w => Size_any a w a0 a1)
    have SB := Lib.hid (fun w => Size_any b w b0 b1)
    have SC := Lib.hid (fun w => Size_any c w c0 c1)
    have hA := natAbs_le a a0 a1
    have hB := natAbs_le b b0 b1
    have hC := natAbs_le c c0 c1
    have hP : a.natAbs * b.natAbs ≤ 9223372036854775808 * 9223372036854775808 := Nat.mul_le_mul hA hB
    have TI := Lib.hid (fun w => Times_any a.natAbs b.natAbs w (by have := pow20_big; omega))
    have EV := Lib.hid (fun w => Even_any (a.natAbs * b.natAbs) c.natAbs w (by omega) (by have := pow20_big; omega) (by have := pow20_big; omega))
    have BK := Lib.hid (fun m w => Back_any (evenDiv (a.natAbs * b.natAbs) c.natAbs) m w (by have := evenDiv_le (a.natAbs * b.natAbs) c.natAbs; have := pow20_big; omega))
    have HX : Hid (overOf (a.natAbs * b.natAbs) c.natAbs (decide (a < 0) ^^ decide (b < 0) ^^ decide (c < 0)) = sgn (evenDiv (a.natAbs * b.natAbs) c.natAbs) (decide (a < 0) ^^ decide (b < 0) ^^ decide (c < 0))) := Lib.hid rfl
    rw [HX.out]
    clear HX hP hA hB hC
    rw [show (decide (a < 0) ^^ decide (b < 0) ^^ decide (c < 0)) = !((!(decide (a < 0) == decide (b < 0))) == decide (c < 0)) by cases decide (a < 0) <;> cases decide (b < 0) <;> cases decide (c < 0) <;> rfl]
    generalize evenDiv (a.natAbs * b.natAbs) c.natAbs = E at *
    have BK2 := Lib.hid (fun w => BK.out (!((!(decide (a < 0) == decide (b < 0))) == decide (c < 0))) w)
    have H4 := Lib.hid (sgn_ok E (!((!(decide (a < 0) == decide (b < 0))) == decide (c < 0))))
    clear BK
    generalize sgn E (!((!(decide (a < 0) == decide (b < 0))) == decide (c < 0))) = S at *
    go_enter Tryz.func57, Tryz.ntmps57
    go_wp2_with fail
    refine (SA.out w).mono ?_
    rintro e w1 ⟨rfl, hb1⟩
    go_wp2_with fail
    refine (SB.out _).mono ?_
    rintro e w2 ⟨rfl, hb2⟩
    go_wp2_with fail
    refine (TI.out _).mono ?_
    rintro e w3 ⟨rfl, hb3⟩
    go_wp2_with fail
    refine (SC.out _).mono ?_
    rintro e w4 ⟨rfl, hb4⟩
    go_wp2_with fail
    refine (EV.out _).mono ?_
    rintro e w5 ⟨rfl, hb5⟩
    go_wp2_with fail
    refine (BK2.out _).mono ?_
    rintro e w6 ⟨rfl, hb6⟩
    have HB : Hid (Below w.heap.size w w6) := Lib.hid ((((((hb1).trans (hb2.mono (by have := hb1.size; omega))).trans (hb3.mono (by have := hb1.size; have := hb2.size; omega))).trans (hb4.mono (by have := hb1.size; have := hb2.size; have := hb3.size; omega))).trans (hb5.mono (by have := hb1.size; have := hb2.size; have := hb3.size; have := hb4.size; omega))).trans (hb6.mono (by have := hb1.size; have := hb2.size; have := hb3.size; have := hb4.size; have := hb5.size; omega)))
    clear hb1 hb2 hb3 hb4 hb5 hb6 EV SA SB SC TI
    by_cases hok : S.2 = 0
    · rw [decide_eq_true hok]
      go_wp2
      go_ret2
      exact ⟨by rw [hok]; rfl, HB.out⟩
    · rw [decide_eq_false hok]
      obtain rfl : S = (0, 4) := H4.out.resolve_left hok
      go_wp2
      go_ret2
      exact ⟨rfl, HB.out⟩
set_option maxHeartbeats 2000000 in
theorem refInterest (p rate num den : Int) (w : World) (a0 : -9223372036854775808 ≤ p) (a1 : p ≤ 9223372036854775807) (b0 : -9223372036854775808 ≤ rate) (b1 : rate ≤ 9223372036854775807) (c0 : -9223372036854775808 ≤ num) (c1 : num ≤ 9223372036854775807) (d0 : -9223372036854775808 ≤ den) (d1 : den ≤ 9223372036854775807) :
    Calls Tryz.prog 54 #[.int .i64 p, .int .i64 rate, .int .i64 num, .int .i64 den] w fun e w' => e = .returned (.tuple #[.int .i64 (interestOf p rate num den).1, .int .i64 (interestOf p rate num den).2]) ∧ Below w.heap.size w w' := by
  have HDef : interestOf p rate num den = if p < -1000000000000000 ∨ 1000000000000000 < p ∨ rate < 0 ∨ 1000000000 < rate ∨ num < 0 ∨ 10000000 < num ∨ den < 1 ∨ 366 < den then (0, 2)
    else overOf (p.natAbs * rate.natAbs * num.natAbs) (1000000000 * den.natAbs) (decide (p < 0)) := rfl
  rw [HDef]
  clear HDef
  by_cases ho : p < -1000000000000000 ∨ 1000000000000000 < p ∨ rate < 0 ∨ 1000000000 < rate ∨ num < 0 ∨ 10000000 < num ∨ den < 1 ∨ 366 < den
  · rw [if_pos ho]
    go_enter Tryz.func54, Tryz.ntmps54
    go_wp2
    all_goals first
      | (exfalso; omega)
      | (go_ret2; exact ⟨rfl, Below.refl _ _⟩)
  · rw [if_neg ho]
    have SP := Lib.hid (fun w => Size_any p w a0 a1)
    have SR := Lib.hid (fun w => Size_any rate w b0 b1)
    have SN := Lib.hid (fun w => Size_any num w c0 c1)
    have SD := Lib.hid (fun w => Size_any den w d0 d1)
    have OF : Hid (∀ w, Calls Tryz.prog 86 #[.int .u64 1000000000] w fun e w' => e = .returned (natOf 1000000000) ∧ Below w.heap.size w w') := Lib.hid (fun w => Of_any 1000000000 w (by omega))
    have hA : p.natAbs ≤ 1000000000000000 := by omega
    have hB : rate.natAbs ≤ 1000000000 := by omega
    have hC : num.natAbs ≤ 10000000 := by omega
    have hD : den.natAbs ≤ 366 := by omega
    have hD0 : 0 < den.natAbs := by omega
    have hP1 : p.natAbs * rate.natAbs ≤ 1000000000000000 * 1000000000 := Nat.mul_le_mul hA hB
    have hP : p.natAbs * rate.natAbs * num.natAbs ≤ 1000000000000000 * 1000000000 * 10000000 := Nat.mul_le_mul hP1 hC
    have T1 := Lib.hid (fun w => Times_any p.natAbs rate.natAbs w (by have := pow20_big; omega))
    have T2 := Lib.hid (fun w => Times_any (p.natAbs * rate.natAbs) num.natAbs w (by have := pow20_big; omega))
    have T3 := Lib.hid (fun w => Times_any 1000000000 den.natAbs w (by have := pow20_big; omega))
    have EV := Lib.hid (fun w => Even_any (p.natAbs * rate.natAbs * num.natAbs) (1000000000 * den.natAbs) w (by omega) (by have := pow20_big; omega) (by have := pow20_big; omega))
    have BK := Lib.hid (fun w => Back_any (evenDiv (p.natAbs * rate.natAbs * num.natAbs) (1000000000 * den.natAbs)) (decide (p < 0)) w (by have := evenDiv_le (p.natAbs * rate.natAbs * num.natAbs) (1000000000 * den.natAbs); have := pow20_big; omega))
    have HX : Hid (overOf (p.natAbs * rate.natAbs * num.natAbs) (1000000000 * den.natAbs) (decide (p < 0)) = sgn (evenDiv (p.natAbs * rate.natAbs * num.natAbs) (1000000000 * den.natAbs)) (decide (p < 0))) := Lib.hid rfl
    rw [HX.out]
    clear HX hP hP1 hA hB hC hD hD0
    generalize evenDiv (p.natAbs * rate.natAbs * num.natAbs) (1000000000 * den.natAbs) = E at *
    have H4 := Lib.hid (sgn_ok E (decide (p < 0)))
    generalize sgn E (decide (p < 0)) = S at *
    generalize p.natAbs * rate.natAbs * num.natAbs = n2 at *
    generalize p.natAbs * rate.natAbs = n1 at *
    generalize 1000000000 * den.natAbs = n3 at *
    have o1 : ¬ p < -1000000000000000 := by omega
    have o2 : ¬ 1000000000000000 < p := by omega
    have o3 : ¬ rate < 0 := by omega
    have o4 : ¬ 1000000000 < rate := by omega
    have o5 : ¬ num < 0 := by omega
    have o6 : ¬ 10000000 < num := by omega
    have o7 : ¬ den < 1 := by omega
    have o8 : ¬ 366 < den := by omega
    clear ho a0 a1 b0 b1 c0 c1 d0 d1
    go_enter Tryz.func54, Tryz.ntmps54
    go_wp2_with fail
    refine (SP.out _).mono ?_
    rintro e w1 ⟨rfl, hb1⟩
    go_wp2_with fail
    refine (SR.out _).mono ?_
    rintro e w2 ⟨rfl, hb2⟩
    go_wp2_with fail
    refine (T1.out _).mono ?_
    rintro e w3 ⟨rfl, hb3⟩
    go_wp2_with fail
    refine (SN.out _).mono ?_
    rintro e w4 ⟨rfl, hb4⟩
    go_wp2_with fail
    refine (T2.out _).mono ?_
    rintro e w5 ⟨rfl, hb5⟩
    go_wp2_with fail
    refine (OF.out _).mono ?_
    rintro e w6 ⟨rfl, hb6⟩
    go_wp2_with fail
    refine (SD.out _).mono ?_
    rintro e w7 ⟨rfl, hb7⟩
    go_wp2_with fail
    refine (T3.out _).mono ?_
    rintro e w8 ⟨rfl, hb8⟩
    go_wp2_with fail
    refine (EV.out _).mono ?_
    rintro e w9 ⟨rfl, hb9⟩
    go_wp2_with fail
    refine (BK.out _).mono ?_
    rintro e w10 ⟨rfl, hb10⟩
    have HB : Hid (Below w.heap.size w w10) := Lib.hid ((((((((((hb1).trans (hb2.mono (by have := hb1.size; omega))).trans (hb3.mono (by have := hb1.size; have := hb2.size; omega))).trans (hb4.mono (by have := hb1.size; have := hb2.size; have := hb3.size; omega))).trans (hb5.mono (by have := hb1.size; have := hb2.size; have := hb3.size; have := hb4.size; omega))).trans (hb6.mono (by have := hb1.size; have := hb2.size; have := hb3.size; have := hb4.size; have := hb5.size; omega))).trans (hb7.mono (by have := hb1.size; have := hb2.size; have := hb3.size; have := hb4.size; have := hb5.size; have := hb6.size; omega))).trans (hb8.mono (by have := hb1.size; have := hb2.size; have := hb3.size; have := hb4.size; have := hb5.size; have := hb6.size; have := hb7.size; omega))).trans (hb9.mono (by have := hb1.size; have := hb2.size; have := hb3.size; have := hb4.size; have := hb5.size; have := hb6.size; have := hb7.size; have := hb8.size; omega))).trans (hb10.mono (by have := hb1.size; have := hb2.size; have := hb3.size; have := hb4.size; have := hb5.size; have := hb6.size; have := hb7.size; have := hb8.size; have := hb9.size; omega)))
    clear hb1 hb2 hb3 hb4 hb5 hb6 hb7 hb8 hb9 hb10 SP SR SN SD OF T1 T2 T3 EV BK
    by_cases hok : S.2 = 0
    · rw [decide_eq_true hok]
      go_wp2
      go_ret2
      exact ⟨by rw [hok]; rfl, HB.out⟩
    · rw [decide_eq_false hok]
      obtain rfl : S = (0, 4) := H4.out.resolve_left hok
      go_wp2
      go_ret2
      exact ⟨rfl, HB.out⟩
end Go.Proofs.YtcbopgopegphlaaGreat

namespace Go.Proofs.YtcbopgopegphlaaGreat
open Go.ChangeShapes Go.WideShapes Go.ChangeAt Go.RowKit
set_option linter.unusedVariables false

theorem interest_out (p rate num den : Int) (h : p < -1000000000000000 ∨ 1000000000000000 < p ∨ rate < 0 ∨ 1000000000 < rate ∨ num < 0 ∨ 10000000 < num ∨ den < 1 ∨ 366 < den) : interestOf p rate num den = (0, 2) := by
  unfold interestOf
  rw [if_pos h]
set_option maxHeartbeats 1000000 in
theorem Interest_any (p rate num den : Int) (w : World) :
    Calls Tryz.prog 61 #[.int .i64 p, .int .i64 rate, .int .i64 num, .int .i64 den] w fun e w' => e = .returned (.tuple #[.int .i64 (interestOf p rate num den).1, .int .i64 (interestOf p rate num den).2]) ∧ Below w.heap.size w w' := by
  have OU := Lib.hid (fun v lo hi w => outside_any v lo hi w)
  by_cases h1 : p < -1000000000000000 ∨ 1000000000000000 < p
  · rw [interest_out p rate num den (by omega)]
    go_enter Tryz.func61, Tryz.ntmps61
    go_wp2_with fail
    refine (OU.out p (-1000000000000000) 1000000000000000 w).mono ?_
    rintro e w' ⟨rfl, rfl⟩
    rw [show (decide (p < -1000000000000000) || decide (1000000000000000 < p)) = true by simp; omega]
    go_wp2
    go_ret2
    exact ⟨rfl, Below.refl _ _⟩
  by_cases h2 : rate < 0 ∨ 1000000000 < rate
  · rw [interest_out p rate num den (by omega)]
    go_enter Tryz.func61, Tryz.ntmps61
    go_wp2_with fail
    refine (OU.out p (-1000000000000000) 1000000000000000 w).mono ?_
    rintro e w' ⟨rfl, rfl⟩
    rw [show (decide (p < -1000000000000000) || decide (1000000000000000 < p)) = false by simp; omega]
    go_wp2_with fail
    refine (OU.out rate 0 1000000000 w').mono ?_
    rintro e w' ⟨rfl, rfl⟩
    rw [show (decide (rate < 0) || decide (1000000000 < rate)) = true by simp; omega]
    go_wp2
    go_ret2
    exact ⟨rfl, Below.refl _ _⟩
  by_cases h3 : num < 0 ∨ 10000000 < num
  · rw [interest_out p rate num den (by omega)]
    go_enter Tryz.func61, Tryz.ntmps61
    go_wp2_with fail
    refine (OU.out p (-1000000000000000) 1000000000000000 w).mono ?_
    rintro e w' ⟨rfl, rfl⟩
    rw [show (decide (p < -1000000000000000) || decide (1000000000000000 < p)) = false by simp; omega]
    go_wp2_with fail
    refine (OU.out rate 0 1000000000 w').mono ?_
    rintro e w' ⟨rfl, rfl⟩
    rw [show (decide (rate < 0) || decide (1000000000 < rate)) = false by simp; omega]
    go_wp2_with fail
    refine (OU.out num 0 10000000 _).mono ?_
    rintro e w' ⟨rfl, rfl⟩
    rw [show (decide (num < 0) || decide (10000000 < num)) = true by simp; omega]
    go_wp2
    go_ret2
    exact ⟨rfl, Below.refl _ _⟩
  by_cases h4 : den < 1 ∨ 366 < den
  · rw [interest_out p rate num den (by omega)]
    go_enter Tryz.func61, Tryz.ntmps61
    go_wp2_with fail
    refine (OU.out p (-1000000000000000) 1000000000000000 w).mono ?_
    rintro e w' ⟨rfl, rfl⟩
    rw [show (decide (p < -1000000000000000) || decide (1000000000000000 < p)) = false by simp; omega]
    go_wp2_with fail
    refine (OU.out rate 0 1000000000 w').mono ?_
    rintro e w' ⟨rfl, rfl⟩
    rw [show (decide (rate < 0) || decide (1000000000 < rate)) = false by simp; omega]
    go_wp2_with fail
    refine (OU.out num 0 10000000 _).mono ?_
    rintro e w' ⟨rfl, rfl⟩
    rw [show (decide (num < 0) || decide (10000000 < num)) = false by simp; omega]
    go_wp2_with fail
    refine (OU.out den 1 366 _).mono ?_
    rintro e w' ⟨rfl, rfl⟩
    rw [show (decide (den < 1) || decide (366 < den)) = true by simp; omega]
    go_wp2
    go_ret2
    exact ⟨rfl, Below.refl _ _⟩
  have hA : p.natAbs ≤ 1000000000000000 := by omega
  have hB : rate.natAbs ≤ 1000000000 := by omega
  have hC : num.natAbs ≤ 10000000 := by omega
  have hP1 : p.natAbs * rate.natAbs ≤ 1000000000000000 * 1000000000 := Nat.mul_le_mul hA hB
  have hP : p.natAbs * rate.natAbs * num.natAbs ≤ 1000000000000000 * 1000000000 * 10000000 := Nat.mul_le_mul hP1 hC
  exact Interest_of p rate num den w (by omega) (by omega) (by omega) (by omega) (by omega) (by omega) (by omega) (by omega) fun h => Div64_any _ _ _ h (Nat.mod_lt _ (by omega)) (by omega)
section
variable {H : Type} {enc : TypeId × Value → H} {w : World} {base : Nat} {spare : Nat → Bool} {held : Bool}
end
end Go.Proofs.YtcbopgopegphlaaGreat
