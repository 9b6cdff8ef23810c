/-
  The walk of the reference's Over. No statement is proved here.
-/
import Derived.Test.YtjniclalobggpaaDoorAmN7
namespace Go.Proofs.YtjniclalobggpaaDoor
open Go.RowKit
set_option linter.unusedVariables false

theorem step_load_row {P : Program} {ops : Array Oper} {o : Oper} {a : Act} {w : World} {K : Act → World → Prop} {Q : Exit → Act → World → Prop} {E : Prop} (hgd : o.guard = none) (ty : TypeId) (x : Operand) (ho : o.op = .load ty x)
    (g : Nat) (hx : a.eval x = .pointer (some ⟨g, 0, none⟩)) (t : TypeId) (cs : Array Value) (fr : Nat × Nat) (d : TypeDesc) (hg : w.heap[g]? = some (.cells cs t fr))
    (hu : P.underlying ty = some d) (hd : (match d with | .struct _ | .array _ _ => true | _ => false) = true) (hi : (P.info? ty).map (·.size) = some cs.size)
    (h : K (a.put o.dst (.agg cs)) w) : if Region.wanted o (yielded ops a.tmps) = true then Oper.wp P o a w K Q else E := by
  have hw : Region.wanted o (yielded ops a.tmps) = true := by simp [Region.wanted, hgd]
  rw [if_pos hw]
  exact wp_load_row ty x ho g hx t cs fr d hg hu hd hi h
theorem step_store_row {P : Program} {ops : Array Oper} {o : Oper} {a : Act} {w : World} {K : Act → World → Prop} {Q : Exit → Act → World → Prop} {E : Prop} (hgd : o.guard = none) (ty : TypeId) (x y : Operand) (ho : o.op = .store ty x y)
    (g : Nat) (cells : Array Value) (hx : a.eval x = .pointer (some ⟨g, 0, none⟩)) (hy : a.eval y = .agg cells)
    (t : TypeId) (old : Array Value) (hg : w.heap[g]? = some (.cells old t (0, 0))) (hi : (P.info? ty).map (·.size) = some cells.size)
    (hold : old.size = cells.size) (h1 : cells.all (·.oneCell') = true)
    (h : K (a.put o.dst undef) (w.setRow g cells)) : if Region.wanted o (yielded ops a.tmps) = true then Oper.wp P o a w K Q else E := by
  have hw : Region.wanted o (yielded ops a.tmps) = true := by simp [Region.wanted, hgd]
  rw [if_pos hw]
  exact wp_store_row ty x y ho g cells hx hy t old hg hi hold h1 h
theorem over_next (i : Nat) (hi : i < 320) : (∃ j : Nat, j < 320 ∧ Value.int .i64 ((i : Int) - 1) = .int .i64 (j : Int) ∧ i = j + 1) ∨ (Value.int .i64 ((i : Int) - 1) = .int .i64 (-1) ∧ i = 0) := by
  rcases i with _ | j
  · exact .inr ⟨rfl, rfl⟩
  · exact .inl ⟨j, by omega, by congr 1; omega, rfl⟩
set_option maxRecDepth 100000 in
set_option maxHeartbeats 8000000 in
theorem Over_any (a b : Nat) (w : World) (hb0 : 0 < b) (ha : a < 65536 ^ 20) (hb2 : 2 * b < 65536 ^ 20) :
    Calls Tryd.prog 43 #[natOf a, natOf b] w fun e w' => e = .returned (.tuple #[natOf (a / b), natOf (a % b)]) ∧ Below w.heap.size w w' := by
  have hz := zero20
  have e1 : (row20 (dg a)).size = 20 := row20_size _
  have e2 : (row20 (dg b)).size = 20 := row20_size _
  have ST := Lib.hid (over_start w a b (Nat.div_eq_of_lt (by rw [show (2 : Nat) ^ 320 = 65536 ^ 20 from by decide +kernel]; exact ha)))
  have PL := Lib.hid (fun r w => Plus_any r r w)
  have CM := Lib.hid (fun r (hr : r < 65536 ^ 20) w => Cmp_any r b w hr (by omega))
  have MI := Lib.hid (fun m w => Minus_any b m w)
  have HB2 := Lib.hid hb2
  clear ha hb2
  unfold natOf at *
  go_enter Tryd.func43, Tryd.ntmps43
  go_wp2
  go_loopw [8] (fun t wr => ∃ h : Nat, ((∃ i : Nat, i < 320 ∧ t = .int .i64 i ∧ h = i + 1) ∨ (t = .int .i64 (-1) ∧ h = 0)) ∧ OvSt w wr a b (a / 2 ^ h / b * 2 ^ h) (a / 2 ^ h % b)) (fun t _ => (intOf t + 1).toNat)
  case atStart => exact ⟨320, .inl ⟨319, by omega, rfl, rfl⟩, ST.out⟩
  case round =>
    clear ST
    obtain ⟨h, hj, S⟩ := hrel
    rcases hj with ⟨i, hi, rfl, rfl⟩ | ⟨rfl, rfl⟩
    · have hR : a / 2 ^ (i + 1) % b < b := Nat.mod_lt _ hb0
      obtain ⟨hq1, hr1⟩ := over_quot a b i hb0
      have ht : bitAt a i < 2 := Nat.mod_lt _ (by omega)
      have hbd := bit_dg a i
      have hy := dg_lt a (i / 16)
      generalize a / 2 ^ (i + 1) % b = R at *
      generalize a / 2 ^ (i + 1) / b = Q at *
      have HQ1 := Lib.hid hq1
      have HR1 := Lib.hid hr1
      clear hq1 hr1
      generalize bitAt a i = t at *
      have HT := Lib.hid ht
      have H5 := S.h5
      have HS := Lib.hid S
      clear S
      go_wp2_with (first | (refine wpList_load_row rfl 59 _ rfl _ rfl _ _ _ _ H5 Tryd.underlying59 rfl (infoN _) ?_))
      refine (PL.out _ _).mono ?_
      rintro e w2 ⟨rfl, hb2⟩
      have S2 := HS.out.below hb2
      have S3 : OvSt w (w2.setRow (w.heap.size + 1 + 1 + 1 + 1 + 1) (row20 (dg (R + R)))) a b (Q * 2 ^ (i + 1)) (2 * R) := by
        rw [show 2 * R = R + R from by omega]
        exact S2.set5 (R + R)
      have H52 := S2.h5
      clear hb2 H5
      have HS3 := Lib.hid S3
      clear S2 S3 HS
      go_wp2_with (first | (refine wpList_store_row rfl _ _ _ rfl _ _ rfl rfl _ _ H52 (infoN _) (by rw [row20_size]; rfl) (row20_one _) ?_))
      generalize w2.setRow (w.heap.size + 1 + 1 + 1 + 1 + 1) (row20 (dg (R + R))) = v at *
      clear H52
      have hi16 : i / 16 < 20 := by omega
      have c0 : v.cell? ⟨w.heap.size, i / 16, none⟩ = _ := cells_at HS3.out.h0 (i / 16) hi16
      have c5 : v.cell? ⟨w.heap.size + 1 + 1 + 1 + 1 + 1, 0, none⟩ = _ := cells_at HS3.out.h5 0 (by omega)
      have f5 : v.frozen? ⟨w.heap.size + 1 + 1 + 1 + 1 + 1, 0, none⟩ = _ := frozen_of_row _ _ 0 _ _ HS3.out.h5
      have HS5 := Lib.hid (HS3.out.cell5 t HT.out)
      have hK : (i : Int) / 16 = ((i / 16 : Nat) : Int) := rfl
      have hs : (i : Int) % 16 = ((i % 16 : Nat) : Int) := rfl
      have hs16 : i % 16 < 16 := Nat.mod_lt _ (by omega)
      have hd0 := (dg0_even R t HT.out).1
      have hdl := dg_lt (2 * R + t) 0
      have hxl := dg_lt (2 * R) 0
      have HKE : Hid (i / 16 < 20) := Lib.hid hi16
      generalize dg (2 * R + t) 0 = d at *
      generalize dg (2 * R) 0 = x at *
      generalize dg a (i / 16) = y at *
      generalize hKe : i / 16 = K at *
      generalize hse : i % 16 = s at *
      have HKe := Lib.hid hKe
      have HSe := Lib.hid hse
      clear hKe hse
      have wK : IntKind.i64.wrap (K : Int) = (K : Int) := IntWalk.i64_in _ (by omega)
      have ws : IntKind.u64.wrap (s : Int) = (s : Int) := IntWalk.u64_in _ (by omega)
      have ws2 : IntKind.i64.wrap (s : Int) = (s : Int) := IntWalk.i64_in _ (by omega)
      have hb1 : bits .and .u64 ((y : Int) / 2 ^ s) 1 = (t : Int) := by
        rw [show ((y : Int) / 2 ^ s) = ((y / 2 ^ s : Nat) : Int) by simp, and1 _ (Nat.lt_of_le_of_lt (Nat.div_le_self _ _) (by omega)), hbd]
      have hxt : (x : Int) + (t : Int) = (d : Int) := by omega
      clear hbd hd0
      have hKs : Hid ((i : Int) / 16 = (K : Int) ∧ (i : Int) % 16 = (s : Int) ∧ IntKind.i64.wrap (K : Int) = (K : Int) ∧ IntKind.u64.wrap (s : Int) = (s : Int) ∧ IntKind.i64.wrap (s : Int) = (s : Int)) := Lib.hid ⟨hK, hs, wK, ws, ws2⟩
      simp only [Act.put]
      go_region
      have S6 : OvSt w ((v.setCell ⟨w.heap.size + 1 + 1 + 1 + 1 + 1, 0, none⟩ (.int .u64 (d : Int))).drew) a b (Q * 2 ^ (i + 1)) (2 * R + t) := HS5.out.below ((Below.refl _ _).drew)
      clear c0 c5 f5 HS5 HS3 hK hs wK ws ws2 hb1 hxt hxl hdl hy
      generalize (v.setCell ⟨w.heap.size + 1 + 1 + 1 + 1 + 1, 0, none⟩ (.int .u64 (d : Int))).drew = v6 at *
      have HS6 := Lib.hid S6
      have G5 := S6.h5
      have G1 := S6.h1
      clear S6
      by_cases hle : b ≤ 2 * R + t
      · obtain ⟨m, hm⟩ : ∃ m, 2 * R + t = b + m := ⟨2 * R + t - b, by omega⟩
        have hmb : m < b := by omega
        have HR1' : Hid (a / 2 ^ i % b = m) := Lib.hid (by rw [HR1.out, if_pos hle]; omega)
        have HQ1' : Hid (a / 2 ^ i / b = 2 * Q + 1) := Lib.hid (by rw [HQ1.out, if_pos hle])
        clear HR1 HQ1
        rw [hm] at HS6 G5 hle
        have hlt : Hid (b + m < 65536 ^ 20) := Lib.hid (by have := HB2.out; omega)
        clear hm
        have hc : cmpOf (b + m) b ≥ 0 := by unfold cmpOf; split; omega; split <;> decide
        go_wp2_with (first | (refine wpList_load_row rfl 59 _ rfl _ rfl _ _ _ _ G5 Tryd.underlying59 rfl (infoN _) ?_) | (refine wpList_load_row rfl 59 _ rfl _ rfl _ _ _ _ G1 Tryd.underlying59 rfl (infoN _) ?_))
        refine (CM.out _ hlt.out _).mono ?_
        rintro e w7 ⟨rfl, hb7⟩
        generalize cmpOf (b + m) b = c at *
        have HS7 := Lib.hid (HS6.out.below hb7)
        clear hb7 G1 G5 HS6
        have G5 := HS7.out.h5
        have G1 := HS7.out.h1
        go_wp2_with (first | (refine wpList_load_row rfl 59 _ rfl _ rfl _ _ _ _ G5 Tryd.underlying59 rfl (infoN _) ?_) | (refine wpList_load_row rfl 59 _ rfl _ rfl _ _ _ _ G1 Tryd.underlying59 rfl (infoN _) ?_))
        refine (MI.out _ _).mono ?_
        rintro e w8 ⟨rfl, hb8⟩
        have S8 := HS7.out.below hb8
        have S9 : OvSt w (w8.setRow (w.heap.size + 1 + 1 + 1 + 1 + 1) (row20 (dg m))) a b (Q * 2 ^ (i + 1)) m := S8.set5 m
        clear hb8 G1 G5 HS7
        have G5 := S8.h5
        have HS9 := Lib.hid S9
        clear S8 S9
        obtain ⟨hK, hs, wK, ws, ws2⟩ := hKs.out
        have c4 : (w8.setRow (w.heap.size + 1 + 1 + 1 + 1 + 1) (row20 (dg m))).cell? ⟨w.heap.size + 1 + 1 + 1 + 1, K, none⟩ = _ := cells_at HS9.out.h4 K hi16
        have f4 : (w8.setRow (w.heap.size + 1 + 1 + 1 + 1 + 1) (row20 (dg m))).frozen? ⟨w.heap.size + 1 + 1 + 1 + 1, K, none⟩ = _ := frozen_of_row _ _ K _ _ HS9.out.h4
        have HS10 := Lib.hid (HS9.out.cell4 Q i hi rfl)
        rw [HKe.out, HSe.out] at HS10
        have hqd := dg_lt (Q * 2 ^ (i + 1)) K
        have hqe := dg_lt (Q * 2 ^ (i + 1) + 2 ^ i) K
        have hq0 := (q_bit Q i).2
        rw [HKe.out, HSe.out] at hq0
        rw [hq0] at hqe
        have HQ2 : Hid (a / 2 ^ i / b * 2 ^ i = Q * 2 ^ (i + 1) + 2 ^ i) := Lib.hid (by rw [HQ1'.out, Nat.add_mul, Nat.one_mul, Nat.pow_succ, Nat.mul_comm 2 Q, Nat.mul_assoc, Nat.mul_comm 2 (2 ^ i)])
        clear hq0
        have hp : IntKind.u64.wrap (2 ^ s) = ((2 ^ s : Nat) : Int) := by
          rw [show ((2 : Int) ^ s) = ((2 ^ s : Nat) : Int) by simp]
          generalize 2 ^ s = p2 at *
          exact IntWalk.u64_in _ (by omega)
        generalize dg (Q * 2 ^ (i + 1)) K = x2 at *
        generalize hpe : 2 ^ s = p2 at *
        clear hpe
        go_wp2_with (first | (refine wpList_store_row rfl _ _ _ rfl _ _ rfl rfl _ _ G5 (infoN _) (by rw [row20_size]; rfl) (row20_one _) ?_))
        refine ⟨⟨i, over_next i hi, ?_⟩, by simp [intOf] <;> omega⟩
        rw [HQ2.out, HR1'.out]
        first
          | exact HS10.out
          | (rw [hp, show IntKind.u64.wrap ((x2 : Int) + (p2 : Int)) = ((x2 + p2 : Nat) : Int) from IntWalk.u64_in _ (by omega)]; exact HS10.out)
      · have HR1' : Hid (a / 2 ^ i % b = 2 * R + t) := Lib.hid (by rw [HR1.out, if_neg hle]; omega)
        have HQ1' : Hid (a / 2 ^ i / b * 2 ^ i = Q * 2 ^ (i + 1)) := Lib.hid (by rw [HQ1.out, if_neg hle, Nat.add_zero, Nat.pow_succ, Nat.mul_comm 2 Q, Nat.mul_assoc, Nat.mul_comm 2 (2 ^ i)])
        clear HR1 HQ1
        have hlt : Hid (2 * R + t < 65536 ^ 20) := Lib.hid (by have := HB2.out; omega)
        have hc : ¬ cmpOf (2 * R + t) b ≥ 0 := by unfold cmpOf; split; decide; omega
        go_wp2_with (first | (refine wpList_load_row rfl 59 _ rfl _ rfl _ _ _ _ G5 Tryd.underlying59 rfl (infoN _) ?_) | (refine wpList_load_row rfl 59 _ rfl _ rfl _ _ _ _ G1 Tryd.underlying59 rfl (infoN _) ?_))
        refine (CM.out _ hlt.out _).mono ?_
        rintro e w7 ⟨rfl, hb7⟩
        generalize cmpOf (2 * R + t) b = c at *
        have HS7 := Lib.hid (HS6.out.below hb7)
        clear hb7 G1 G5 HS6
        go_wp2
        refine ⟨⟨i, over_next i hi, ?_⟩, by simp [intOf] <;> omega⟩
        rw [HQ1'.out, HR1'.out]
        exact HS7.out
    · rw [show a / 2 ^ 0 / b * 2 ^ 0 = a / b by simp, show a / 2 ^ 0 % b = a % b by simp] at S
      have G4 := S.h4
      have G5 := S.h5
      have G2 := S.h2
      have G3 := S.h3
      go_upto_region 10 with (fail)
      have G3b : (wr.drew.setRow (w.heap.size + 1 + 1) (row20 (dg (a / b)))).heap[w.heap.size + 3]? = _ := (setRow_other wr.drew _ _ _ (by omega)).trans G3
      have G5b : (wr.drew.setRow (w.heap.size + 1 + 1) (row20 (dg (a / b)))).heap[w.heap.size + 5]? = _ := (setRow_other wr.drew _ _ _ (by omega)).trans G5
      have H2f : ((wr.drew.setRow (w.heap.size + 1 + 1) (row20 (dg (a / b)))).setRow (w.heap.size + 1 + 1 + 1) (row20 (dg (a % b)))).heap[w.heap.size + 2]? = some (.cells (row20 (dg (a / b))) 59 (0, 0)) := (setRow_other _ _ _ _ (by omega)).trans (setRow_heap wr.drew _ _ _ _ _ G2)
      have H3f : ((wr.drew.setRow (w.heap.size + 1 + 1) (row20 (dg (a / b)))).setRow (w.heap.size + 1 + 1 + 1) (row20 (dg (a % b)))).heap[w.heap.size + 3]? = some (.cells (row20 (dg (a % b))) 59 (0, 0)) := setRow_heap _ _ _ _ _ _ G3b
      have BEL : Below w.heap.size w ((wr.drew.setRow (w.heap.size + 1 + 1) (row20 (dg (a / b)))).setRow (w.heap.size + 1 + 1 + 1) (row20 (dg (a % b)))) := ((S.bel.drew).setRow (by omega) _).setRow (by omega) _
      refine wp_region_any (by kernel_rfl) ?_
      change wpAny _ _ _ _ _ _ _ (World.drew _)
      refine wpAny_ready (rs := [0, 1]) (by kernel_rfl) (by simp) ?_
      refine AllReady.cons rfl (fun K hK => ?_) (AllReady.cons rfl (fun K hK => ?_) AllReady.nil)
      · refine step_load_row rfl 59 _ rfl _ rfl _ _ _ _ G4 Tryd.underlying59 rfl (infoN _) ?_; refine hK _ _ ?_; clear hK K
        refine wpAny_ready (rs := [1, 2]) (by kernel_rfl) (by simp) ?_
        refine AllReady.cons rfl (fun K hK => ?_) (AllReady.cons rfl (fun K hK => ?_) AllReady.nil)
        · refine step_load_row rfl 59 _ rfl _ rfl _ _ _ _ G5 Tryd.underlying59 rfl (infoN _) ?_; refine hK _ _ ?_; clear hK K
          refine wpAny_ready (rs := [2]) (by kernel_rfl) (by simp) ?_
          refine AllReady.cons rfl (fun K hK => ?_) AllReady.nil
          refine step_store_row rfl _ _ _ rfl _ _ rfl rfl _ _ G2 (infoN _) (by rw [row20_size]; rfl) (row20_one _) ?_; refine hK _ _ ?_; clear hK K
          refine wpAny_ready (rs := [3]) (by kernel_rfl) (by simp) ?_
          refine AllReady.cons rfl (fun K hK => ?_) AllReady.nil
          refine step_store_row rfl _ _ _ rfl _ _ rfl rfl _ _ G3b (infoN _) (by rw [row20_size]; rfl) (row20_one _) ?_; refine hK _ _ ?_; clear hK K
          refine wpAny_done (by kernel_rfl) ?_ _; go_wp2; exact bodyPost_ret (results_cells (fn := Tryd.f43) rfl _ _ (w.heap.size + 2) (w.heap.size + 3) 59 59 (row20 (dg (a / b))) (row20 (dg (a % b))) (0, 0) (0, 0) _ _ rfl H2f Tryd.underlying59 rfl (infoN _) rfl H3f Tryd.underlying59 rfl (infoN _)) rfl ⟨rfl, BEL⟩
        · refine step_store_row rfl _ _ _ rfl _ _ rfl rfl _ _ G2 (infoN _) (by rw [row20_size]; rfl) (row20_one _) ?_; refine hK _ _ ?_; clear hK K
          refine wpAny_ready (rs := [1]) (by kernel_rfl) (by simp) ?_
          refine AllReady.cons rfl (fun K hK => ?_) AllReady.nil
          refine step_load_row rfl 59 _ rfl _ rfl _ _ _ _ G5b Tryd.underlying59 rfl (infoN _) ?_; refine hK _ _ ?_; clear hK K
          refine wpAny_ready (rs := [3]) (by kernel_rfl) (by simp) ?_
          refine AllReady.cons rfl (fun K hK => ?_) AllReady.nil
          refine step_store_row rfl _ _ _ rfl _ _ rfl rfl _ _ G3b (infoN _) (by rw [row20_size]; rfl) (row20_one _) ?_; refine hK _ _ ?_; clear hK K
          refine wpAny_done (by kernel_rfl) ?_ _; go_wp2; exact bodyPost_ret (results_cells (fn := Tryd.f43) rfl _ _ (w.heap.size + 2) (w.heap.size + 3) 59 59 (row20 (dg (a / b))) (row20 (dg (a % b))) (0, 0) (0, 0) _ _ rfl H2f Tryd.underlying59 rfl (infoN _) rfl H3f Tryd.underlying59 rfl (infoN _)) rfl ⟨rfl, BEL⟩
      · refine step_load_row rfl 59 _ rfl _ rfl _ _ _ _ G5 Tryd.underlying59 rfl (infoN _) ?_; refine hK _ _ ?_; clear hK K
        refine wpAny_ready (rs := [0]) (by kernel_rfl) (by simp) ?_
        refine AllReady.cons rfl (fun K hK => ?_) AllReady.nil
        refine step_load_row rfl 59 _ rfl _ rfl _ _ _ _ G4 Tryd.underlying59 rfl (infoN _) ?_; refine hK _ _ ?_; clear hK K
        refine wpAny_ready (rs := [2]) (by kernel_rfl) (by simp) ?_
        refine AllReady.cons rfl (fun K hK => ?_) AllReady.nil
        refine step_store_row rfl _ _ _ rfl _ _ rfl rfl _ _ G2 (infoN _) (by rw [row20_size]; rfl) (row20_one _) ?_; refine hK _ _ ?_; clear hK K
        refine wpAny_ready (rs := [3]) (by kernel_rfl) (by simp) ?_
        refine AllReady.cons rfl (fun K hK => ?_) AllReady.nil
        refine step_store_row rfl _ _ _ rfl _ _ rfl rfl _ _ G3b (infoN _) (by rw [row20_size]; rfl) (row20_one _) ?_; refine hK _ _ ?_; clear hK K
        refine wpAny_done (by kernel_rfl) ?_ _; go_wp2; exact bodyPost_ret (results_cells (fn := Tryd.f43) rfl _ _ (w.heap.size + 2) (w.heap.size + 3) 59 59 (row20 (dg (a / b))) (row20 (dg (a % b))) (0, 0) (0, 0) _ _ rfl H2f Tryd.underlying59 rfl (infoN _) rfl H3f Tryd.underlying59 rfl (infoN _)) rfl ⟨rfl, BEL⟩
end Go.Proofs.YtjniclalobggpaaDoor
