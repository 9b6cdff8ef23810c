/-
  The walks of the reference's Even and Back. No statement is proved here.
-/
import Derived.Deep.RegionHeld3
import Derived.Deep.MidRow
import Derived.Test.YtjniclalobggpaaDoorAmN8
namespace Go.Proofs.YtjniclalobggpaaDoor
open Go.RowKit
set_option linter.unusedVariables false

theorem below3 (w : World) (a b c : Obj) : Below w.heap.size w (((w.alloc a).alloc b).alloc c) :=
  (((Below.refl _ _).alloc (Nat.le_refl _) _).alloc (by simp) _).alloc (by (simp) <;> omega) _
structure EvSt (w v : World) (g b q r : Nat) : Prop where
  h1 : v.heap[w.heap.size + 1]? = some (.cells (row20 (dg b)) 59 (0, 0))
  h2 : v.heap[w.heap.size + 2]? = some (.cells z20 59 (0, 0))
  hq : v.heap[g]? = some (.cells (row20 (dg q)) 59 (0, 0))
  hr : v.heap[g + 1]? = some (.cells (row20 (dg r)) 59 (0, 0))
  bel : Below w.heap.size w v
  hg : w.heap.size + 3 ≤ g
theorem EvSt.below {w v v2 : World} {g b q r : Nat} (S : EvSt w v g b q r) (hb : Below v.heap.size v v2) : EvSt w v2 g b q r := by
  have h := heap_lt S.hr
  have hg := S.hg
  exact ⟨(hb.block _ (by omega)).trans S.h1, (hb.block _ (by omega)).trans S.h2, (hb.block _ (by omega)).trans S.hq, (hb.block _ (by omega)).trans S.hr, S.bel.trans (hb.mono (by omega)), hg⟩
theorem yields_row {P : Program} {ops : Array Oper} {S : World → Prop} {op : Oper} {a : Act} (hw : Region.wanted op (yielded ops a.tmps) = true) (ty : TypeId) (x : Operand) (ho : op.op = .load ty x)
    (g : Nat) (hx : a.eval x = .pointer (some ⟨g, 0, none⟩)) (t : TypeId) (cs : Array Value) (fr : Nat × Nat) (d : TypeDesc) (hS : ∀ w, S w → w.heap[g]? = some (.cells cs t fr))
    (hu : P.underlying ty = some d) (hd : (match d with | .struct _ | .array _ _ => true | _ => false) = true) (hi : (P.info? ty).map (·.size) = some cs.size) : YieldsIf P ops S op (.agg cs) a :=
  .inl ⟨hw, fun w hw' => by
    unfold execOp
    simp only [ho, hx, Instr.loadAt, Instr.sureAddr, Sem.run_bind, Sem.run_pure, Result.andThen_ok, run_loadVar_row w g t ty cs fr d (hS w hw') hu hd hi]⟩
theorem EvSt.setq {w v : World} {g b q r : Nat} (S : EvSt w v g b q r) (q' : Nat) : EvSt w (v.setRow g (row20 (dg q'))) g b q' r := by
  have hg := S.hg
  exact ⟨(setRow_other _ _ _ _ (by omega)).trans S.h1, (setRow_other _ _ _ _ (by omega)).trans S.h2, setRow_heap _ _ _ _ _ _ S.hq, (setRow_other _ _ _ _ (by omega)).trans S.hr, S.bel.setRow (by omega) _, hg⟩
theorem even_open {w w2 : World} (b q r : Nat) (h1 : w2.heap[w.heap.size + 1]? = some (.cells (row20 (dg b)) 59 (0, 0))) (h2 : w2.heap[w.heap.size + 2]? = some (.cells z20 59 (0, 0))) (hb : Below w.heap.size w w2) (hs : w.heap.size + 3 ≤ w2.heap.size) :
    EvSt w ((((w2.alloc (.cells z20 59)).alloc (.cells z20 59)).setRow w2.heap.size (row20 (dg q))).setRow (w2.heap.size + 1) (row20 (dg r))) w2.heap.size b q r := by
  have hB := ((Below.refl w2.heap.size w2).alloc (Nat.le_refl _) (.cells z20 59)).alloc (by simp) (.cells z20 59)
  have hC := (hB.setRow (Nat.le_refl _) (row20 (dg q))).setRow (g := w2.heap.size + 1) (by omega) (row20 (dg r))
  refine ⟨(hC.block _ (by omega)).trans h1, (hC.block _ (by omega)).trans h2, (setRow_other _ _ _ _ (by omega)).trans (setRow_heap _ _ _ _ _ _ (heap_alloc2_old w2 _ _)), setRow_heap _ _ _ _ _ _ ((setRow_other _ _ _ _ (by omega)).trans (heap_alloc2_new w2 _ _)), hb.trans (hC.mono (by omega)), hs⟩
set_option maxRecDepth 100000 in
set_option maxHeartbeats 4000000 in
theorem Even_any (a b : Nat) (w : World) (hb0 : 0 < b) (ha : a < 65536 ^ 20) (hb2 : 2 * b < 65536 ^ 20) :
    Calls Tryd.prog 33 #[natOf a, natOf b] w fun e w' => e = .returned (natOf (evenDiv a b)) ∧ Below w.heap.size w w' := by
  have hz := zero20
  have e1 : (row20 (dg a)).size = 20 := row20_size _
  have e2 : (row20 (dg b)).size = 20 := row20_size _
  have OV := Lib.hid (fun w => Over_any a b w hb0 ha hb2)
  have hED := Lib.hid (evenDiv_eq a b)
  have hR : a % b < b := Nat.mod_lt _ hb0
  have PL := Lib.hid (fun r w => Plus_any r r w)
  have PQ := Lib.hid (fun w => Plus_any (a / b) 1 w)
  have OF : Hid (∀ w, Calls Tryd.prog 38 #[.int .u64 1] w fun e w' => e = .returned (natOf 1) ∧ Below w.heap.size w w') := Lib.hid (fun w => Of_any 1 w (by omega))
  have CM := Lib.hid (fun (r : Nat) (hr : r < 65536 ^ 20) w => Cmp_any r b w hr (by omega))
  have H2R : Hid (a % b + a % b < 65536 ^ 20) := Lib.hid (by omega)
  obtain ⟨q0, q1, q2⟩ := alloc3 w (.cells (row20 (dg a)) 59) (.cells (row20 (dg b)) 59) (.cells z20 59)
  have HB := Lib.hid (below3 w (.cells (row20 (dg a)) 59) (.cells (row20 (dg b)) 59) (.cells z20 59))
  clear ha hb2
  unfold natOf at *
  generalize evenDiv a b = E at *
  generalize a / b = q at *
  generalize a % b = r at *
  go_enter Tryd.func33, Tryd.ntmps33
  go_wp2_with (first | (refine wpList_load_row rfl 59 _ rfl _ rfl _ _ _ _ q0 Tryd.underlying59 rfl (infoN _) ?_) | (refine wpList_load_row rfl 59 _ rfl _ rfl _ _ _ _ q1 Tryd.underlying59 rfl (infoN _) ?_))
  have hs0 : (((w.alloc (.cells (row20 (dg a)) 59)).alloc (.cells (row20 (dg b)) 59)).alloc (.cells z20 59)).heap.size = w.heap.size + 3 := by simp
  generalize (((w.alloc (.cells (row20 (dg a)) 59)).alloc (.cells (row20 (dg b)) 59)).alloc (.cells z20 59)) = v0 at *
  refine (OV.out _).mono ?_
  rintro e w2 ⟨rfl, hb2⟩
  rw [hs0] at hb2
  have G1 := (hb2.block _ (by omega)).trans q1
  have G2 := (hb2.block _ (by omega)).trans q2
  have HB2 := Lib.hid (HB.out.trans (hb2.mono (by omega)))
  have hs2 : Hid (w.heap.size + 3 ≤ w2.heap.size) := Lib.hid (by have := hb2.size; omega)
  clear q0 q1 q2 hb2 HB hs0
  have HE := even_open b q r G1 G2 HB2.out hs2.out
  have A0 : ((w2.alloc (.cells z20 59)).alloc (.cells z20 59)).heap[w2.heap.size]? = _ := heap_alloc2_old w2 _ _
  have A1 : (((w2.alloc (.cells z20 59)).alloc (.cells z20 59)).setRow w2.heap.size (row20 (dg q))).heap[w2.heap.size + 1]? = _ := (setRow_other _ _ _ _ (by omega)).trans (heap_alloc2_new w2 _ _)
  clear G1 G2 HB2 hs2
  have HEE := Lib.hid HE
  clear HE
  go_wp2_with (first | (refine wpList_store_row rfl _ _ _ rfl _ _ rfl rfl _ _ A0 (infoN _) (by rw [row20_size]; rfl) (row20_one _) ?_) | (refine wpList_store_row rfl _ _ _ rfl _ _ rfl rfl _ _ A1 (infoN _) (by rw [row20_size]; rfl) (row20_one _) ?_))
  clear A0 A1
  generalize (((w2.alloc (.cells z20 59)).alloc (.cells z20 59)).setRow w2.heap.size (row20 (dg q))).setRow (w2.heap.size + 1) (row20 (dg r)) = v3 at *
  generalize w2.heap.size = g at *
  simp only [Act.put]
  have HD := HEE.out.below (Below.refl _ _).drew
  clear HEE
  refine wp_region_held (S := fun v => EvSt w v g b q r) (by kernel_rfl) ?_
  change wpAnyH _ _ _ _ _ _ _ _ (World.drew _)
  refine wpAnyH_take (i := 0) rfl (by kernel_rfl) (by kernel_rfl) (by kernel_rfl) (fun _ _ _ h => h) (yields_row (by rfl) 59 _ rfl _ rfl _ _ _ _ (fun _ S => S.hr) Tryd.underlying59 rfl (infoN _)) (by assumption) ?_
  refine wpAnyH_take (i := 1) rfl (by kernel_rfl) (by kernel_rfl) (by kernel_rfl) (fun _ _ _ h => h) (yields_row (by rfl) 59 _ rfl _ rfl _ _ _ _ (fun _ S => S.hr) Tryd.underlying59 rfl (infoN _)) (by assumption) ?_
  refine wpAnyH_take (i := 3) rfl (by kernel_rfl) (by kernel_rfl) (by kernel_rfl) (fun _ _ _ h => h) (yields_row (by rfl) 59 _ rfl _ rfl _ _ _ _ (fun _ S => S.h1) Tryd.underlying59 rfl (infoN _)) (by assumption) ?_
  generalize v3.drew = v4 at *
  refine wpAnyH_ready (rs := [2]) (by kernel_rfl) (by simp) ?_
  refine AllReadyH.cons rfl (fun K hK => ?_) AllReadyH.nil
  go_simp
  refine (PL.out _ _).mono ?_
  rintro e w5 ⟨rfl, hb5⟩
  have HD5 := HD.below hb5
  clear HD hb5
  refine hK.out _ _ HD5 fun _ => ?_
  clear hK K
  refine wpAnyH_ready (rs := [4]) (by kernel_rfl) (by simp) ?_
  refine AllReadyH.cons rfl (fun K hK => ?_) AllReadyH.nil
  go_simp
  refine (CM.out _ H2R.out _).mono ?_
  rintro e w6 ⟨rfl, hb6⟩
  have HD6 := HD5.below hb6
  clear HD5 hb6
  refine hK.out _ _ HD6 fun _ => ?_
  clear hK K
  refine wpAnyH_ready (rs := [5]) (by kernel_rfl) (by simp) ?_
  refine AllReadyH.cons rfl (fun K hK => ?_) AllReadyH.nil
  go_simp
  refine hK.out _ _ HD6 fun _ => ?_
  clear hK K
  refine wpAnyH_done (by kernel_rfl) ?_ _
  rename_i hX1 hX2
  clear hX1 hX2
  have hc0 := cells_at HD6.hq 0 (by omega)
  have hdq : dg q 0 = q % 65536 := by simp [dg]
  rw [hdq] at hc0
  have hql : q % 65536 < 65536 := Nat.mod_lt _ (by omega)
  have HC : Hid (cmpOf (r + r) b = if r + r < b then -1 else if b < r + r then 1 else 0) := Lib.hid rfl
  have HE6 := Lib.hid HD6
  generalize hq6 : q % 65536 = d at *
  have HQ := Lib.hid hq6
  clear HD6 hdq hq6
  generalize cmpOf (r + r) b = c at *
  by_cases h1 : b < r + r
  · obtain rfl : E = q + 1 := by rw [hED.out, if_pos (by omega)]
    obtain rfl : c = 1 := by rw [HC.out, if_neg (by omega), if_pos h1]
    clear HC hED
    go_wp2_with fail
    have S0 := HE6.out.below (Below.refl _ _).drew
    clear HE6 hc0
    refine wp_region_any (by kernel_rfl) ?_
    change wpAny _ _ _ _ _ _ _ (World.drew _)
    generalize w6.drew = w7 at *
    refine wpAny_ready (rs := [0, 1]) (by kernel_rfl) (by simp) ?_
    refine AllReady.cons rfl (fun K hK => ?_) (AllReady.cons rfl (fun K hK => ?_) AllReady.nil)
    · refine step_load_row rfl 59 _ rfl _ rfl _ _ _ _ S0.hq Tryd.underlying59 rfl (infoN _) ?_; refine hK _ _ ?_; clear hK K
      refine wpAny_ready (rs := [1]) (by kernel_rfl) (by simp) ?_
      refine AllReady.cons rfl (fun K hK => ?_) AllReady.nil
      have HKK : Shut (∀ a w, _ → K a w) := hK
      clear hK
      go_simp
      refine (OF.out _).mono ?_
      rintro e w9 ⟨rfl, hb9⟩
      have S1 := S0.below hb9
      clear hb9 S0
      refine HKK.out _ _ ?_
      clear HKK K
      refine wpAny_ready (rs := [2]) (by kernel_rfl) (by simp) ?_
      refine AllReady.cons rfl (fun K hK => ?_) AllReady.nil
      have HKK : Shut (∀ a w, _ → K a w) := hK
      clear hK
      go_simp
      refine (PQ.out _).mono ?_
      rintro e w9 ⟨rfl, hb9⟩
      have S2 := S1.below hb9
      clear hb9 S1
      refine HKK.out _ _ ?_
      clear HKK K
      refine wpAny_ready (rs := [3]) (by kernel_rfl) (by simp) ?_
      refine AllReady.cons rfl (fun K hK => ?_) AllReady.nil
      have S3 := S2.setq (q + 1)
      refine step_store_row rfl _ _ _ rfl _ _ rfl rfl _ _ S2.hq (infoN _) (by rw [row20_size]; rfl) (row20_one _) ?_; refine hK _ _ ?_; clear hK K
      clear S2
      refine wpAny_done (by kernel_rfl) ?_ _
      go_wp2_with (first | (refine wpList_load_row rfl 59 _ rfl _ rfl _ _ _ _ S3.hq Tryd.underlying59 rfl (infoN _) ?_) | (refine wpList_store_row rfl _ _ _ rfl _ _ rfl rfl _ _ S3.h2 (infoN _) (by rw [row20_size]; rfl) (row20_one _) ?_))
      exact bodyPost_ret (results_cell_row (fn := Tryd.f33) rfl _ _ (w.heap.size + 2) 59 (row20 (dg (q + 1))) (0, 0) _ rfl (setRow_heap _ _ _ _ _ _ S3.h2) Tryd.underlying59 rfl (infoN _)) rfl ⟨rfl, (S3.bel).setRow (by omega) _⟩
    · have HKK : Shut (∀ a w, _ → K a w) := hK
      clear hK
      go_simp
      refine (OF.out _).mono ?_
      rintro e w9 ⟨rfl, hb9⟩
      have S1 := S0.below hb9
      clear hb9 S0
      refine HKK.out _ _ ?_
      clear HKK K
      refine wpAny_ready (rs := [0]) (by kernel_rfl) (by simp) ?_
      refine AllReady.cons rfl (fun K hK => ?_) AllReady.nil
      refine step_load_row rfl 59 _ rfl _ rfl _ _ _ _ S1.hq Tryd.underlying59 rfl (infoN _) ?_; refine hK _ _ ?_; clear hK K
      refine wpAny_ready (rs := [2]) (by kernel_rfl) (by simp) ?_
      refine AllReady.cons rfl (fun K hK => ?_) AllReady.nil
      have HKK : Shut (∀ a w, _ → K a w) := hK
      clear hK
      go_simp
      refine (PQ.out _).mono ?_
      rintro e w9 ⟨rfl, hb9⟩
      have S2 := S1.below hb9
      clear hb9 S1
      refine HKK.out _ _ ?_
      clear HKK K
      refine wpAny_ready (rs := [3]) (by kernel_rfl) (by simp) ?_
      refine AllReady.cons rfl (fun K hK => ?_) AllReady.nil
      have S3 := S2.setq (q + 1)
      refine step_store_row rfl _ _ _ rfl _ _ rfl rfl _ _ S2.hq (infoN _) (by rw [row20_size]; rfl) (row20_one _) ?_; refine hK _ _ ?_; clear hK K
      clear S2
      refine wpAny_done (by kernel_rfl) ?_ _
      go_wp2_with (first | (refine wpList_load_row rfl 59 _ rfl _ rfl _ _ _ _ S3.hq Tryd.underlying59 rfl (infoN _) ?_) | (refine wpList_store_row rfl _ _ _ rfl _ _ rfl rfl _ _ S3.h2 (infoN _) (by rw [row20_size]; rfl) (row20_one _) ?_))
      exact bodyPost_ret (results_cell_row (fn := Tryd.f33) rfl _ _ (w.heap.size + 2) 59 (row20 (dg (q + 1))) (0, 0) _ rfl (setRow_heap _ _ _ _ _ _ S3.h2) Tryd.underlying59 rfl (infoN _)) rfl ⟨rfl, (S3.bel).setRow (by omega) _⟩
  · by_cases h2 : r + r < b
    · obtain rfl : E = q := by rw [hED.out, if_neg (by omega)]
      obtain rfl : c = -1 := by rw [HC.out, if_pos h2]
      clear HC hED
      go_wp2_with (first | (refine wpList_load_row rfl 59 _ rfl _ rfl _ _ _ _ HE6.out.hq Tryd.underlying59 rfl (infoN _) ?_) | (refine wpList_store_row rfl _ _ _ rfl _ _ rfl rfl _ _ HE6.out.h2 (infoN _) (by rw [row20_size]; rfl) (row20_one _) ?_))
      exact bodyPost_ret (results_cell_row (fn := Tryd.f33) rfl _ _ (w.heap.size + 2) 59 (row20 (dg E)) (0, 0) _ rfl (setRow_heap _ _ _ _ _ _ HE6.out.h2) Tryd.underlying59 rfl (infoN _)) rfl ⟨rfl, (HE6.out.bel).setRow (by omega) _⟩
    · have hrb : r + r = b := by omega
      obtain rfl : c = 0 := by rw [HC.out, if_neg h2, if_neg h1]
      by_cases h3 : q % 2 = 1
      · obtain rfl : E = q + 1 := by rw [hED.out, if_pos (by omega)]
        have hd1 : (d : Int) % 2 = 1 := by have := HQ.out; omega
        clear HC hED
        go_wp2_with fail
        have S0 := HE6.out.below (Below.refl _ _).drew
        clear HE6 hc0
        refine wp_region_any (by kernel_rfl) ?_
        change wpAny _ _ _ _ _ _ _ (World.drew _)
        generalize w6.drew = w7 at *
        refine wpAny_ready (rs := [0, 1]) (by kernel_rfl) (by simp) ?_
        refine AllReady.cons rfl (fun K hK => ?_) (AllReady.cons rfl (fun K hK => ?_) AllReady.nil)
        · refine step_load_row rfl 59 _ rfl _ rfl _ _ _ _ S0.hq Tryd.underlying59 rfl (infoN _) ?_; refine hK _ _ ?_; clear hK K
          refine wpAny_ready (rs := [1]) (by kernel_rfl) (by simp) ?_
          refine AllReady.cons rfl (fun K hK => ?_) AllReady.nil
          have HKK : Shut (∀ a w, _ → K a w) := hK
          clear hK
          go_simp
          refine (OF.out _).mono ?_
          rintro e w9 ⟨rfl, hb9⟩
          have S1 := S0.below hb9
          clear hb9 S0
          refine HKK.out _ _ ?_
          clear HKK K
          refine wpAny_ready (rs := [2]) (by kernel_rfl) (by simp) ?_
          refine AllReady.cons rfl (fun K hK => ?_) AllReady.nil
          have HKK : Shut (∀ a w, _ → K a w) := hK
          clear hK
          go_simp
          refine (PQ.out _).mono ?_
          rintro e w9 ⟨rfl, hb9⟩
          have S2 := S1.below hb9
          clear hb9 S1
          refine HKK.out _ _ ?_
          clear HKK K
          refine wpAny_ready (rs := [3]) (by kernel_rfl) (by simp) ?_
          refine AllReady.cons rfl (fun K hK => ?_) AllReady.nil
          have S3 := S2.setq (q + 1)
          refine step_store_row rfl _ _ _ rfl _ _ rfl rfl _ _ S2.hq (infoN _) (by rw [row20_size]; rfl) (row20_one _) ?_; refine hK _ _ ?_; clear hK K
          clear S2
          refine wpAny_done (by kernel_rfl) ?_ _
          go_wp2_with (first | (refine wpList_load_row rfl 59 _ rfl _ rfl _ _ _ _ S3.hq Tryd.underlying59 rfl (infoN _) ?_) | (refine wpList_store_row rfl _ _ _ rfl _ _ rfl rfl _ _ S3.h2 (infoN _) (by rw [row20_size]; rfl) (row20_one _) ?_))
          exact bodyPost_ret (results_cell_row (fn := Tryd.f33) rfl _ _ (w.heap.size + 2) 59 (row20 (dg (q + 1))) (0, 0) _ rfl (setRow_heap _ _ _ _ _ _ S3.h2) Tryd.underlying59 rfl (infoN _)) rfl ⟨rfl, (S3.bel).setRow (by omega) _⟩
        · have HKK : Shut (∀ a w, _ → K a w) := hK
          clear hK
          go_simp
          refine (OF.out _).mono ?_
          rintro e w9 ⟨rfl, hb9⟩
          have S1 := S0.below hb9
          clear hb9 S0
          refine HKK.out _ _ ?_
          clear HKK K
          refine wpAny_ready (rs := [0]) (by kernel_rfl) (by simp) ?_
          refine AllReady.cons rfl (fun K hK => ?_) AllReady.nil
          refine step_load_row rfl 59 _ rfl _ rfl _ _ _ _ S1.hq Tryd.underlying59 rfl (infoN _) ?_; refine hK _ _ ?_; clear hK K
          refine wpAny_ready (rs := [2]) (by kernel_rfl) (by simp) ?_
          refine AllReady.cons rfl (fun K hK => ?_) AllReady.nil
          have HKK : Shut (∀ a w, _ → K a w) := hK
          clear hK
          go_simp
          refine (PQ.out _).mono ?_
          rintro e w9 ⟨rfl, hb9⟩
          have S2 := S1.below hb9
          clear hb9 S1
          refine HKK.out _ _ ?_
          clear HKK K
          refine wpAny_ready (rs := [3]) (by kernel_rfl) (by simp) ?_
          refine AllReady.cons rfl (fun K hK => ?_) AllReady.nil
          have S3 := S2.setq (q + 1)
          refine step_store_row rfl _ _ _ rfl _ _ rfl rfl _ _ S2.hq (infoN _) (by rw [row20_size]; rfl) (row20_one _) ?_; refine hK _ _ ?_; clear hK K
          clear S2
          refine wpAny_done (by kernel_rfl) ?_ _
          go_wp2_with (first | (refine wpList_load_row rfl 59 _ rfl _ rfl _ _ _ _ S3.hq Tryd.underlying59 rfl (infoN _) ?_) | (refine wpList_store_row rfl _ _ _ rfl _ _ rfl rfl _ _ S3.h2 (infoN _) (by rw [row20_size]; rfl) (row20_one _) ?_))
          exact bodyPost_ret (results_cell_row (fn := Tryd.f33) rfl _ _ (w.heap.size + 2) 59 (row20 (dg (q + 1))) (0, 0) _ rfl (setRow_heap _ _ _ _ _ _ S3.h2) Tryd.underlying59 rfl (infoN _)) rfl ⟨rfl, (S3.bel).setRow (by omega) _⟩
      · obtain rfl : E = q := by rw [hED.out, if_neg (by omega)]
        have hd1 : (d : Int) % 2 = 0 := by have := HQ.out; omega
        clear HC hED
        go_wp2_with (first | (refine wpList_load_row rfl 59 _ rfl _ rfl _ _ _ _ HE6.out.hq Tryd.underlying59 rfl (infoN _) ?_) | (refine wpList_store_row rfl _ _ _ rfl _ _ rfl rfl _ _ HE6.out.h2 (infoN _) (by rw [row20_size]; rfl) (row20_one _) ?_))
        exact bodyPost_ret (results_cell_row (fn := Tryd.f33) rfl _ _ (w.heap.size + 2) 59 (row20 (dg E)) (0, 0) _ rfl (setRow_heap _ _ _ _ _ _ HE6.out.h2) Tryd.underlying59 rfl (infoN _)) rfl ⟨rfl, (HE6.out.bel).setRow (by omega) _⟩
end Go.Proofs.YtjniclalobggpaaDoor
