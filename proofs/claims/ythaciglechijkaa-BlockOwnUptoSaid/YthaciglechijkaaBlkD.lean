/-
  block.Build: the walk. No statement is proved here.
-/
import Derived.Deep.RegionHeld3
import Derived.Deep.DeepCutAuto
import Derived.BigQuiet
import Derived.Test.YthaciglechijkaaBlkC
import Derived.Test.YthaciglechijkaaBlkR
namespace Go.Proofs.Ythaciglechijkaa
open Go.RowKit
set_option linter.unusedVariables false

theorem ord_pre (r q : List PairV) (a : List UInt8) (h : ordL a (q ++ r) = true) : ordL a q = true := by
  induction q generalizing a with
  | nil => rfl
  | cons x q ih =>
    rw [List.cons_append, ordL, Bool.and_eq_true] at h
    rw [ordL, Bool.and_eq_true]
    exact ⟨h.1, ih _ h.2⟩
theorem ord_take (ps : List PairV) (k : Nat) (hk : k < ps.length) (h : ordL [] (ps.take k) = true) :
    (lessL (lastK (ps.take k)) ps[k].key = -1 → ordL [] (ps.take (k + 1)) = true) ∧ (lessL (lastK (ps.take k)) ps[k].key ≠ -1 → ordL [] ps = false) := by
  have e : ordL [] (ps.take (k + 1)) = decide (lessL (lastK (ps.take k)) ps[k].key = -1) := by rw [take_snoc' ps k hk, ord_snoc, h, Bool.true_and]
  refine ⟨fun hl => by rw [e, hl]; rfl, fun hl => ?_⟩
  cases hx : ordL [] ps
  · rfl
  · exfalso
    have h1 := ord_pre (ps.drop (k + 1)) (ps.take (k + 1)) [] (by rw [List.take_append_drop]; exact hx)
    rw [e] at h1
    exact hl (of_decide_eq_true h1)
theorem lessL_vals : ∀ x y : List UInt8, lessL x y = -1 ∨ lessL x y = 0 ∨ lessL x y = 1
  | [], [] => by simp [lessL]
  | [], _ :: _ => by simp [lessL]
  | _ :: _, [] => by simp [lessL]
  | a :: x, b :: y => by
    rw [lessL_def]
    split
    · simp
    · split
      · simp
      · exact lessL_vals x y
/-- A box of a pair stays where bytes of the call's own grow. -/
theorem OwnB.boxed {w w' : World} {base g : Nat} {v : Value} {xs : List UInt8} {cs : Array Value} (h : OwnB w base v xs) (hb : w.heap[g]? = some (.cells cs 42 (0, 0))) (hg : w.grownBy w' v.ownBlock) : w'.heap[g]? = some (.cells cs 42 (0, 0)) := by
  refine (hg.block g (heap_lt' hb) ?_).trans hb
  intro e
  obtain ⟨cs', h2⟩ := h.ofType e.symm
  rw [hb] at h2
  injection h2 with h3
  injection h3 with _ h4
  exact absurd h4 (by decide)
def BuildEnds (w : World) (r : List UInt8 × Int) (e : Ending) (w' : World) : Prop :=
  ∃ v, e = .returned (.tuple #[v, .int .i64 r.2]) ∧ NewR w.heap.size w' v r.1 ∧ Below w.heap.size w w'
theorem BuildEnds.bad {w w' : World} {e : Int} (h : Below w.heap.size w w') : BuildEnds w ([], e) (.returned (.tuple #[.slice none 0 0, .int .i64 e])) w' := ⟨_, rfl, (OwnB.nil _ _).newR, h⟩
set_option maxHeartbeats 4000000 in
theorem Build_any (A : Option Addr) (n c : Nat) (ps : List PairV) (w : World) (h : RdQ w A n ps) (hn : n ≤ 10000000000000) :
    Calls Try.prog 8 #[.slice A n c] w (BuildEnds w (buildOf ps)) := by
  have CF := Lib.hid (contains_any A n c ps w h hn)
  have HX := Lib.hid h
  have HN : Hid (ps.length = n) := Lib.hid h.len
  clear h
  by_cases h4 : 4096 < n
  · have e : buildOf ps = ([], 3) := by unfold buildOf; rw [if_pos (.inl (by rw [HN.out]; exact h4))]
    rw [e]
    go_enter Try.func8, Try.ntmps8
    go_wp2
    go_ret2
    exact BuildEnds.bad (Below.refl _ _)
  · cases hL : ps.any PairV.long
    · have HB : Hid ((ordL [] ps = true → buildOf ps = (packL [] ps, 0)) ∧ (ordL [] ps = false → buildOf ps = ([], 30))) := Lib.hid (by
        unfold buildOf
        rw [if_neg (by rw [HN.out, hL]; simp; omega)]
        exact ⟨fun h => by rw [if_pos h], fun h => by rw [if_neg (by rw [h]; simp)]⟩)
      have HL : Hid (∀ p ∈ ps, p.key.length ≤ 200 ∧ p.val.length ≤ 4096) := Lib.hid fun p hp => by
        rw [List.any_eq_false] at hL
        have := hL p hp
        unfold PairV.long at this
        simp at this
        omega
      have HPL := Lib.hid (fun k => pack_len (ps.take k) [] (by
        rw [List.any_eq_false] at hL ⊢
        exact fun p hp => hL p (List.mem_of_mem_take hp)))
      rw [hL] at CF
      generalize buildOf ps = R at *
      go_enter Try.func8, Try.ntmps8
      go_wp2_with fail
      refine CF.out.mono ?_
      rintro e w1 ⟨rfl, hb1⟩
      clear CF
      go_wp2
      go_loopw [5, 6, 22] (fun b ah t wr => ∃ (k : Nat) (Aa : Option Addr) (ma ca : Nat), k ≤ n ∧ t = .int .i64 k ∧ ah = .slice Aa ma ca ∧ ma ≤ ca ∧ ma ≤ 200 ∧ Hid (RdB w Aa ma (lastK (ps.take k))) ∧ Hid (OwnB wr w.heap.size b (packL [] (ps.take k))) ∧ Hid (ordL [] (ps.take k) = true) ∧ Hid (Below w.heap.size w wr)) (fun _ _ t _ => n - (intOf t).toNat)
      case atStart => exact ⟨0, none, 0, 0, Nat.zero_le _, rfl, rfl, Nat.le_refl _, Nat.zero_le _, Lib.hid (RdB.nil _ _), Lib.hid (OwnB.nil _ _), Lib.hid rfl, Lib.hid hb1⟩
      case round =>
        obtain ⟨k, Aa, ma, ca, hk, rfl, rfl, hma, hma2, HA, HO, HS, HBW⟩ := hrel
        by_cases hlt : k < n
        · have hkl : k < ps.length := by rw [HN.out]; exact hlt
          obtain ⟨b, off, rfl, hc⟩ := HX.out.ex (by omega)
          obtain ⟨Ak, mk, ck, Av, mv, cv, cc0, cc1, r0, r1, hmk, hmv⟩ := hc k hkl
          have c0 := (HBW.out.cell (p := ⟨b, off + k * 2, none⟩) (World.block_lt_of_cell? w ⟨b, off + k * 2, none⟩ cc0)).trans cc0
          have c1 := (HBW.out.cell (p := ⟨b, off + k * 2 + 1, none⟩) (World.block_lt_of_cell? w ⟨b, off + k * 2 + 1, none⟩ cc1)).trans cc1
          clear cc0 cc1
          have HT := Lib.hid (ord_take ps k hkl HS.out)
          have hlens := HL.out _ (List.getElem_mem hkl)
          rw [r0.len, r1.len] at hlens
          obtain ⟨hl1, hl2⟩ := hlens
          have HR0 := Lib.hid r0
          have HR1 := Lib.hid r1
          have HP := Lib.hid (show packL [] (ps.take (k + 1)) = packL [] (ps.take k) ++ entL (lastK (ps.take k)) ps[k] by rw [take_snoc' ps k hkl, pack_snoc])
          have HK := Lib.hid (show lastK (ps.take (k + 1)) = ps[k].key by rw [take_snoc' ps k hkl, lastK_snoc])
          have hpl : (packL [] (ps.take k)).length ≤ 20000000 := by
            have := HPL.out k
            have h2 : (ps.take k).length ≤ 4096 := by rw [List.length_take]; omega
            omega
          clear hc r0 r1
          generalize ps[k] = p at *
          generalize hX : lastK (ps.take k) = X at *
          generalize packL [] (ps.take k) = Y at *
          go_wp2_with fail
          refine (Compare_any Aa ma ca X Ak mk ck p.key _ ((HA.out.below HBW.out).alloc _) ((HR0.out.below HBW.out).alloc _)).mono ?_
          rintro e w2 ⟨rfl, rfl⟩
          have hbx : (wr.alloc (.cells #[.slice Ak mk ck, .slice Av mv cv] 42)).heap[wr.heap.size]? = some (.cells #[.slice Ak mk ck, .slice Av mv cv] 42 (0, 0)) := heap_alloc_new wr _
          have hbw2 := HBW.out.alloc HBW.out.size (.cells #[.slice Ak mk ck, .slice Av mv cv] 42)
          have HO2 := Lib.hid (HO.out.alloc (.cells #[.slice Ak mk ck, .slice Av mv cv] 42))
          clear HO HBW c0 c1
          generalize wr.alloc (.cells #[.slice Ak mk ck, .slice Av mv cv] 42) = wq at *
          generalize wr.heap.size = g at *
          have BX : Hid (∀ W : World, Below wq.heap.size wq W → W.heap[g]? = some (.cells #[.slice Ak mk ck, .slice Av mv cv] 42 (0, 0))) := Lib.hid fun W hW => (hW.block g (heap_lt' hbx)).trans hbx
          have BC : Hid (∀ W : World, W.heap[g]? = some (.cells #[.slice Ak mk ck, .slice Av mv cv] 42 (0, 0)) → W.cell? ⟨g, 0, none⟩ = some (.slice Ak mk ck) ∧ W.cell? ⟨g, 1, none⟩ = some (.slice Av mv cv)) := Lib.hid fun W hh =>
            ⟨by rw [cell_of_row _ _ _ _ _ _ hh]; rfl, by rw [cell_of_row _ _ _ _ _ _ hh]; rfl⟩
          obtain ⟨b0, b1⟩ := BC.out wq hbx
          clear hbx
          by_cases hless : lessL X p.key = -1
          · have HS2 := Lib.hid (HT.out.1 hless)
            rw [hless]
            clear HT
            go_wp2_with fail
            refine (shared_any Aa ma ca X Ak mk ck p.key _ (HA.out.below hbw2) (HR0.out.below hbw2) (by omega) (by omega)).mono ?_
            rintro e w3 ⟨rfl, m3, rfl⟩
            have hcm : com X p.key ≤ mk := by have := (com_le X p.key).2; have := HR0.out.len; omega
            have HE := Lib.hid (show entL X p = enc (com X p.key) ++ (enc (mk - com X p.key) ++ (enc mv ++ (p.key.drop (com X p.key) ++ p.val))) by unfold entL; rw [HR0.out.len, HR1.out.len])
            generalize com X p.key = cm at *
            have hbd := below_drewN (Below.refl wq.heap.size wq) m3
            have HBD := Lib.hid hbd
            obtain ⟨d0, d1⟩ := BC.out _ (BX.out _ hbd)
            generalize wq.drewN m3 = wd at *
            have hsub : ((mk : Int) - (cm : Int)) = ((mk - cm : Nat) : Int) := by omega
            go_wp2
            have HBZ := Lib.hid (HBD.out.alloc HBD.out.size (.cells #[.int .i64 (cm : Int), .int .i64 ((mk - cm : Nat) : Int), .int .i64 (mv : Int)] 3))
            have HOZ := Lib.hid ((HO2.out.below HBD.out).alloc (.cells #[.int .i64 (cm : Int), .int .i64 ((mk - cm : Nat) : Int), .int .i64 (mv : Int)] 3))
            have hh3 := heap_alloc_new wd (.cells #[.int .i64 (cm : Int), .int .i64 ((mk - cm : Nat) : Int), .int .i64 (mv : Int)] 3)
            generalize wd.alloc (.cells #[.int .i64 (cm : Int), .int .i64 ((mk - cm : Nat) : Int), .int .i64 (mv : Int)] 3) = wz at *
            generalize wd.heap.size = hz at *
            have HZ : Hid (∀ W, Below wz.heap.size wz W → W.cell? ⟨hz, 0, none⟩ = some (.int .i64 (cm : Int)) ∧ W.cell? ⟨hz, 1, none⟩ = some (.int .i64 ((mk - cm : Nat) : Int)) ∧ W.cell? ⟨hz, 2, none⟩ = some (.int .i64 (mv : Int))) := Lib.hid fun W hW => by
              have hh := (hW.block hz (heap_lt' hh3)).trans hh3
              exact ⟨by rw [cell_of_row _ _ _ _ _ _ hh]; rfl, by rw [cell_of_row _ _ _ _ _ _ hh]; rfl, by rw [cell_of_row _ _ _ _ _ _ hh]; rfl⟩
            clear hh3 d0 d1 HO2 HBD hbd
            go_loopw [5, 46] (fun b t wr2 => ∃ (j : Nat), j ≤ 3 ∧ t = .int .i64 j ∧ Hid (OwnB wr2 w.heap.size b (Y ++ ([cm, mk - cm, mv].take j).flatMap enc)) ∧ Hid (Below wz.heap.size wz wr2)) (fun _ t _ => 3 - (intOf t).toNat)
            case atStart => exact ⟨0, by omega, rfl, by simpa using HOZ, Lib.hid (Below.refl _ _)⟩
            case round =>
              obtain ⟨j, hj, rfl, HJ, HBJ⟩ := hrel
              obtain ⟨wj, rfl⟩ : ∃ x, x = wr := ⟨_, rfl⟩
              by_cases hj3 : j < 3
              · obtain ⟨z0, z1, z2⟩ := HZ.out wj HBJ.out
                obtain ⟨Ab, mb, cb, rfl, hmb, _, _, hrb, _⟩ := HJ.out.form
                have HMB := hmb
                have HRB := Lib.hid hrb
                have HEL : Hid (∀ l : List Nat, l.length ≤ 3 → (l.flatMap enc).length ≤ 30) := Lib.hid fun l hl => by
                  have e : ∀ q : List Nat, (q.flatMap enc).length ≤ 10 * q.length := by
                    intro q
                    induction q with
                    | nil => simp
                    | cons x q ih => rw [List.flatMap_cons, List.length_append, List.length_cons]; have := (enc_length x).2; omega
                  have := e l
                  omega
                have hmb2 : mb ≤ 20000030 := by
                  have h1 := hmb.out
                  rw [List.length_append] at h1
                  have h2 := HEL.out ([cm, mk - cm, mv].take j) (by rw [List.length_take]; simp; omega)
                  omega
                clear hmb hrb HEL
                have hwb := Lib.hid (Nat.le_trans hbw2.size HBZ.out.size)
                rcases (show j = 0 ∨ j = 1 ∨ j = 2 by omega) with rfl | rfl | rfl
                all_goals
                  go_wp2_with fail
                  refine (AppendUint_any Ab mb cb _ wj _ HRB.out (by omega) (by omega)).mono ?_
                  rintro e w4 ⟨v4, rfl, hv4, hb4⟩
                  have HV4 := Lib.hid (hv4.mono (Nat.le_trans hwb.out HBJ.out.size))
                  clear hv4
                  go_wp2
                  go_roundw
                  case rel => first
                    | exact ⟨1, by omega, by go_num, Lib.hid (by simpa using HV4.out), Lib.hid (HBJ.out.trans (hb4.mono HBJ.out.size))⟩
                    | exact ⟨2, by omega, by go_num, Lib.hid (by simpa using HV4.out), Lib.hid (HBJ.out.trans (hb4.mono HBJ.out.size))⟩
                    | exact ⟨3, by omega, by go_num, Lib.hid (by simpa using HV4.out), Lib.hid (HBJ.out.trans (hb4.mono HBJ.out.size))⟩
                  case measure => (try simp [intOf]) <;> (try omega)
              · obtain rfl : j = 3 := by omega
                have HE2 := Lib.hid (show Y ++ entL X p = Y ++ ([cm, mk - cm, mv].take 3).flatMap enc ++ p.key.drop cm ++ p.val by rw [HE.out]; simp)
                have hel : (Y ++ ([cm, mk - cm, mv].take 3).flatMap enc).length ≤ 20000030 := by
                  have e1 := (enc_length cm).2
                  have e2 := (enc_length (mk - cm)).2
                  have e3 := (enc_length mv).2
                  simp
                  omega
                generalize Y ++ ([cm, mk - cm, mv].take 3).flatMap enc = Z at *
                have hbq := HBZ.out.trans (HBJ.out.mono HBZ.out.size)
                have HBXJ := Lib.hid (BX.out _ hbq)
                obtain ⟨q0, q1⟩ := BC.out _ HBXJ.out
                have HBWJ := hbw2.trans (hbq.mono hbw2.size)
                obtain ⟨Ac, hsl, hrc⟩ := cut_l HR0.out ck hmk cm hcm (cm : Int) rfl
                obtain ⟨Ab, mb, cb, rfl, hmb, _, _, _, _⟩ := HJ.out.form
                have HR1' := HR1.out
                have HJ' := HJ.out
                have hb0 := Nat.le_refl w.heap.size
                clear hbq HZ BX
                have hrl := hrc.len
                have hml := hmb.out
                go_upto_region 16 with (fail)
                go_region_held3 (fun w' => Below w.heap.size w w' ∧ w'.cell? ⟨g, 0, none⟩ = some (.slice Ak mk ck) ∧ w'.cell? ⟨g, 1, none⟩ = some (.slice Av mv cv)) (first | assumption | exact ⟨Below.drew HBWJ, q0, q1⟩ | exact ⟨below_drewN HBWJ _, q0, q1⟩ | exact ⟨hB6, (BC.out _ hX6).1, (BC.out _ hX6).2⟩ | exact ⟨hB5, (BC.out _ hX5).1, (BC.out _ hX5).2⟩)
                  (first
                    | (refine step_app_u8 (by rfl) (.tmp 55) (.tmp 59) (by rfl) w.heap.size _ Z (by rfl) (OwnB.drewN HJ' _) Ac (mk - cm) (ck - cm) (p.key.drop cm) (by rfl) (hrc.below (And.left (by assumption))) (by omega) (Below.size (And.left (by assumption))) ?_
                       intro v5 w5 hv5 hb5 hg5
                       have hB5 : Below w.heap.size w w5 := Below.trans (And.left (by assumption)) hb5
                       have hX5 := (OwnB.drewN HJ' _).boxed HBXJ.out hg5)
                    | (refine step_app_u8 (by rfl) (.tmp 60) (.tmp 62) (by rfl) w.heap.size _ (Z ++ p.key.drop cm) (by rfl) hv5 Av mv cv p.val (by rfl) (HR1'.below (And.left (by assumption))) (by rw [List.length_append]; omega) (Below.size (And.left (by assumption))) ?_
                       intro v6 w6 hv6 hb6 hg6
                       have hB6 : Below w.heap.size w w6 := Below.trans (And.left (by assumption)) hb6
                       have hX6 := hv5.boxed hX5 hg6))
                obtain ⟨q60, q61⟩ := BC.out _ hX6
                have HV6 := Lib.hid hv6
                clear hv5 hv6 hX6 hb6 hb5 hg5 hg6 hB5 q0 q1 b0 b1 HJ' hsl hrc
                go_wp2
                go_roundw
                case rel => exact ⟨k + 1, Ak, mk, ck, by omega, by go_num, rfl, hmk, hl1, Lib.hid (by rw [HK.out]; exact HR0.out), Lib.hid (by rw [HP.out, HE2.out]; exact HV6.out), HS2, Lib.hid (by assumption)⟩
                case measure => (try simp [intOf]) <;> (try omega)
          · have hord := HB.out.2 (HT.out.2 hless)
            have h0 : 0 ≤ lessL X p.key := by rcases lessL_vals X p.key with h | h | h <;> omega
            clear HT HB HS HP HK HPL
            generalize lessL X p.key = L at *
            go_wp2
            go_ret2
            rw [hord]
            exact BuildEnds.bad hbw2
        · have htk : ps.take k = ps := List.take_of_length_le (by rw [HN.out]; omega)
          rw [htk] at HO HS
          have hr := HB.out.1 HS.out
          obtain ⟨Ab, mb, cb, rfl, hmb, hmc, hmx, _, _⟩ := HO.out.form
          have HV := Lib.hid HO.out.newR
          clear HPL HL HA
          go_wp2_with fail
          refine (Clip_any Ab mb cb wr hmc hmx).mono ?_
          rintro e w4 ⟨rfl, rfl⟩
          go_wp2
          go_ret2
          rw [hr]
          obtain ⟨A2, m2, c2, e2, h1, h2, h3, h5⟩ := HV.out.ex
          injection e2 with e3 e4 e5
          subst e3 e4 e5
          exact ⟨_, rfl, ⟨Ab, mb, mb, rfl, Nat.le_refl _, by omega, h3, h5⟩, HBW.out⟩
    · have e : buildOf ps = ([], 3) := by unfold buildOf; rw [if_pos (.inr hL)]
      rw [e]
      rw [hL] at CF
      go_enter Try.func8, Try.ntmps8
      go_wp2_with fail
      refine CF.out.mono ?_
      rintro e w1 ⟨rfl, hb1⟩
      go_wp2
      go_ret2
      exact BuildEnds.bad hb1
end Go.Proofs.Ythaciglechijkaa
