/-
  The walk of the reference's Read. No statement is proved here.
-/
import Derived.Test.YtjniclalobggpaaDoorAmX7
namespace Go.Proofs.YtjniclalobggpaaDoor
open Go.RowKit Go.Shelf Go.Lib
set_option linter.unusedVariables false

theorem bodyOf_minus (s : ByteArray) (h : minusOf s.data.toList = true) : ∃ h0 : 0 < s.size, s[0]'h0 = 45 ∧ (s.extract 1 s.size).data.toList = bodyOf s.data.toList := by
  have hb : bodyOf s.data.toList = s.data.toList.tail := by unfold bodyOf; rw [if_pos h]
  unfold minusOf at h
  rcases hs : s.data.toList with _ | ⟨c, l⟩
  · rw [hs] at h; simp at h
  · have h0 : 0 < s.size := by
      have e : s.data.toList.length = s.size := by simp
      rw [← e, hs]; simp
    refine ⟨h0, ?_, ?_⟩
    · have e : s.data.toList[0]? = some 45 := by
        rw [hs] at h ⊢
        simpa using h
      rw [List.getElem?_eq_getElem (by rw [hs]; simp)] at e
      exact Option.some.inj e
    · rw [ext_drop, hs]
      unfold bodyOf
      rw [if_pos (by rw [← hs]; exact h)]
      rfl
theorem bodyOf_plain (s : ByteArray) (h : minusOf s.data.toList = false) : bodyOf s.data.toList = s.data.toList ∧ ∀ h0 : 0 < s.size, s[0]'h0 ≠ 45 := by
  refine ⟨by unfold bodyOf; rw [h, if_neg (by simp)], fun h0 h1 => ?_⟩
  have e : s.data.toList.length = s.size := by simp
  have e2 : s.data.toList[0]? = some (s[0]'h0) := by
    rw [List.getElem?_eq_getElem (by omega)]
    rfl
  rw [h1] at e2
  unfold minusOf at h
  rw [List.head?_eq_getElem?, e2] at h
  simp at h
set_option maxRecDepth 100000 in
set_option maxHeartbeats 4000000 in
theorem refRead_any (s : ByteArray) (w : World) (hs : s.size ≤ 140737488351232) :
    Calls Tryd.prog 22 #[.string s] w fun e w' => e = .returned (.tuple #[.int .i64 (readOf s.data.toList).1, .int .i64 (readOf s.data.toList).2]) ∧ Below w.heap.size w w' := by
  obtain ⟨d, hd⟩ : ∃ d : ByteArray, d.data.toList = bodyOf s.data.toList := ⟨⟨(bodyOf s.data.toList).toArray⟩, by simp⟩
  have hm1 := Lib.hid (bodyOf_minus s)
  have hm2 := Lib.hid (bodyOf_plain s)
  have HRB : Hid (¬ okBody d.data.toList → readOf s.data.toList = (0, 7)) := Lib.hid fun h => readOf_bad _ (by rw [← hd]; exact h)
  have HR0 : Hid (minusOf s.data.toList = true → d.data.toList = [48, 46, 48, 48] → readOf s.data.toList = (0, 7)) := Lib.hid fun h h2 => readOf_bad0 _ h (by rw [← hd]; exact h2)
  have HRG : Hid (okBody d.data.toList → ¬ (minusOf s.data.toList = true ∧ d.data.toList = [48, 46, 48, 48]) → readOf s.data.toList = sgn (numOf (whole d.data.toList ++ cents d.data.toList)) (minusOf s.data.toList)) := Lib.hid fun h h2 => by
    have := readOf_good s.data.toList (by rw [← hd]; exact h) (by rw [← hd]; exact h2)
    rw [← hd] at this
    exact this
  have hds : d.size ≤ s.size := by
    have e1 : d.data.toList.length = d.size := by simp
    have e2 : s.data.toList.length = s.size := by simp
    rw [← e1, ← e2, hd]
    unfold bodyOf
    split
    · rw [List.length_tail]; omega
    · exact Nat.le_refl _
  have HD := Lib.hid hd
  clear hd
  generalize readOf s.data.toList = R at *
  generalize minusOf s.data.toList = b at *
  go_enter Tryd.func22, Tryd.ntmps22
  go_upto_region 1 with (fail)
  go_cut [4] (fun t wx => t = .bool b ∧ wx = w)
  case first =>
    rcases b with _ | _
    · obtain ⟨_, hne⟩ := hm2.out rfl
      by_cases h0 : 0 < s.size
      · have h1 : ¬ (((s[0]'h0).toNat : Nat) : Int) = 45 := fun h => hne h0 (by
          apply UInt8.toNat_inj.1
          have e : (45 : UInt8).toNat = 45 := rfl
          rw [e]; omega)
        clear hne hm1 hm2
        go_wp2
        go_meet
        exact ⟨by simp [*], rfl⟩
      · have h1 : (s.size : Int) = 0 := by omega
        clear hne hm1 hm2
        go_wp2
        go_meet
        exact ⟨rfl, rfl⟩
    · obtain ⟨h0, h1, _⟩ := hm1.out rfl
      have h2 : (((s[0]'h0).toNat : Nat) : Int) = 45 := by rw [h1]; rfl
      clear h1 hm1 hm2
      go_wp2
      go_meet
      exact ⟨rfl, rfl⟩
  case rest =>
    obtain ⟨rfl, rfl⟩ := hcut
    go_upto_if 20 with (fail)
    go_cut [5] (fun t wx => t = .string d ∧ wx = wc)
    case first =>
      rcases b with _ | _
      · obtain ⟨hb, _⟩ := hm2.out rfl
        have hsd : s = d := by
          apply ByteArray.ext
          apply Array.toList_inj.1
          rw [HD.out, hb]
        clear hm1 hm2 hb
        go_wp2
        go_meet
        exact ⟨by rw [hsd], rfl⟩
      · obtain ⟨h0, h1, hb⟩ := hm1.out rfl
        have hsd : s.extract 1 s.size = d := by
          apply ByteArray.ext
          apply Array.toList_inj.1
          rw [HD.out, hb]
        clear h1 hm1 hm2 hb
        go_wp2
        go_meet
        exact ⟨rfl, rfl⟩
    case rest =>
      obtain ⟨rfl, rfl⟩ := hcut
      clear hm1 hm2 HD
      have hdl : d.data.toList.length = d.size := by simp
      have HDL := Lib.hid hdl
      clear hdl
      by_cases c1 : d.size < 4
      · obtain rfl := HRB.out fun h => by have := h.h4; have := HDL.out; omega
        have c1' : (d.size : Int) < 4 := by omega
        clear HRB HR0 HRG
        go_wp2
        go_ret2
        exact ⟨rfl, Below.refl _ _⟩
      by_cases c2 : 20 < d.size
      · obtain rfl := HRB.out fun h => by have := h.h20; have := HDL.out; omega
        have c2' : 20 < (d.size : Int) := by omega
        clear HRB HR0 HRG
        go_wp2
        go_ret2
        exact ⟨rfl, Below.refl _ _⟩
      obtain ⟨j, hj⟩ : ∃ j, d.size = j + 3 := ⟨d.size - 3, by omega⟩
      have hji : (d.size : Int) - 3 = (j : Int) := by omega
      have hjd : j < d.size := by omega
      have h0d : 0 < d.size := by omega
      have hj1 : 1 ≤ j := by omega
      have hj17 : j ≤ 17 := by omega
      have hdj : d.data.toList[j]? = some (d[j]'hjd) := by rw [List.getElem?_eq_getElem (by rw [HDL.out]; exact hjd)]; rfl
      have hd0 : d.data.toList[0]? = some (d[0]'h0d) := by rw [List.getElem?_eq_getElem (by rw [HDL.out]; exact h0d)]; rfl
      have HJ := Lib.hid hj
      by_cases c3 : d[j]'hjd ≠ 46
      · obtain rfl := HRB.out fun h => c3 (by
          have h1 := h.dot
          rw [HDL.out, HJ.out, show j + 3 - 3 = j by omega, hdj] at h1
          exact Option.some.inj h1)
        have c3' : ¬ (((d[j]'hjd).toNat : Nat) : Int) = 46 := fun h => c3 (by
          apply UInt8.toNat_inj.1
          have e : (46 : UInt8).toNat = 46 := rfl
          rw [e]; omega)
        clear HRB HR0 HRG c3 hdj hd0 hj
        go_wp2
        go_ret2
        exact ⟨rfl, Below.refl _ _⟩
      have c3e : d[j]'hjd = 46 := Decidable.of_not_not c3
      have c3' : (((d[j]'hjd).toNat : Nat) : Int) = 46 := by rw [c3e]; rfl
      have HDOT : Hid (d.data.toList[d.data.toList.length - 3]? = some 46) := Lib.hid (by rw [HDL.out, HJ.out, show j + 3 - 3 = j by omega, hdj, c3e])
      clear c3 c3e hdj
      by_cases c4 : 1 < j ∧ d[0]'h0d = 48
      · obtain rfl := HRB.out fun h => h.hd ⟨by rw [HDL.out, HJ.out]; omega, by rw [hd0, c4.2]⟩
        have c4' : (((d[0]'h0d).toNat : Nat) : Int) = 48 := by rw [c4.2]; rfl
        have c4'' := c4.1
        clear HRB HR0 HRG c4 hd0 hj
        go_wp2
        go_ret2
        exact ⟨rfl, Below.refl _ _⟩
      have c4' : ¬ 1 < j ∨ ¬ (((d[0]'h0d).toNat : Nat) : Int) = 48 := by
        rcases Nat.lt_or_ge 1 j with h | h
        · exact .inr fun h2 => c4 ⟨h, by
            apply UInt8.toNat_inj.1
            have e : (48 : UInt8).toNat = 48 := rfl
            rw [e]; omega⟩
        · exact .inl (by omega)
      have HHD : Hid (¬ (5 ≤ d.data.toList.length ∧ d.data.toList[0]? = some 48)) := Lib.hid fun h => c4 ⟨by have := h.1; rw [HDL.out, HJ.out] at this; omega, by have := h.2; rw [hd0] at this; exact Option.some.inj this⟩
      clear c4 hd0
      by_cases c5 : b = true ∧ d.data.toList = [48, 46, 48, 48]
      · have c5' : (d.toList == [48, 46, 48, 48]) = true := by rw [ByteArray.toList_eq, c5.2]; rfl
        obtain rfl := HR0.out c5.1 c5.2
        obtain rfl := c5.1
        clear HRB HR0 HRG HDOT HHD c5 hj
        rcases c4' with c4' | c4'
        · go_wp2
          go_ret2
          exact ⟨rfl, Below.refl _ _⟩
        · go_wp2
          all_goals go_ret2
          all_goals exact ⟨rfl, Below.refl _ _⟩
      have HRG2 := Lib.hid fun h => HRG.out h c5
      have HOK : Hid ((proc d.data.toList d.data.toList.length).all digitB = true → okBody d.data.toList) := Lib.hid fun h => proc_all _ (by rw [HDL.out]; omega) (by rw [HDL.out]; omega) HDOT.out HHD.out h
      clear HRG HR0 HDOT HHD
      have k4 : decide ((j : Int) < 1) = false := by simp; omega
      have k5 : decide ((17 : Int) < (j : Int)) = false := by simp; omega
      go_upto_region 6 with (fail)
      go_cut [53] (fun t wx => t = .bool false ∧ wx = wc)
      case first =>
        clear HRB HRG2 HOK
        rcases b with _ | _
        · clear c5
          rcases c4' with c4' | c4'
          · go_wp2
            go_meet
            exact ⟨rfl, rfl⟩
          · have c4b : (((((d[0]'h0d).toNat : Nat) : Int) == 48)) = false := by simpa using c4'
            go_wp2
            all_goals go_meet
            all_goals exact ⟨rfl, rfl⟩
        · have c5' : (d.toList == [48, 46, 48, 48]) = false := by rw [ByteArray.toList_eq, beq_eq_false_iff_ne]; exact fun h => c5 ⟨rfl, h⟩
          clear c5
          rcases c4' with c4' | c4'
          · go_wp2
            go_meet
            exact ⟨rfl, rfl⟩
          · have c4b : (((((d[0]'h0d).toNat : Nat) : Int) == 48)) = false := by simpa using c4'
            go_wp2
            all_goals go_meet
            all_goals exact ⟨rfl, rfl⟩
      case rest =>
        obtain ⟨rfl, rfl⟩ := hcut
        clear c3' c4' c5
        have OF : Hid (∀ w, Calls Tryd.prog 38 #[.int .u64 10] w fun e w' => e = .returned (.agg (row20 (dg 10))) ∧ Below w.heap.size w w') := Lib.hid (fun w => Of_any 10 w (by omega))
        have OC : Hid (∀ (n : Nat) (hn : n < 18446744073709551616) w, Calls Tryd.prog 38 #[.int .u64 n] w fun e w' => e = .returned (.agg (row20 (dg n))) ∧ Below w.heap.size w w') := Lib.hid (fun n hn w => Of_any n w hn)
        have TI : Hid (∀ (n : Nat) (hn : n < 65536 ^ 20) w, Calls Tryd.prog 34 #[.agg (row20 (dg n)), .agg (row20 (dg 10))] w fun e w' => e = .returned (.agg (row20 (dg (n * 10)))) ∧ Below w.heap.size w w') := Lib.hid (fun n hn w => Times_any n 10 w hn)
        have PL : Hid (∀ (a b : Nat) w, Calls Tryd.prog 52 #[.agg (row20 (dg a)), .agg (row20 (dg b))] w fun e w' => e = .returned (.agg (row20 (dg (a + b)))) ∧ Below w.heap.size w w') := Lib.hid (fun a b w => Plus_any a b w)
        have BK : Hid (∀ (n : Nat) (m : Bool) (hn : n < 65536 ^ 20) w, Calls Tryd.prog 32 #[.agg (row20 (dg n)), .bool m] w fun e w' => e = .returned (.tuple #[.int .i64 (sgn n m).1, .bool (decide ((sgn n m).2 = 0))]) ∧ Below w.heap.size w w') := Lib.hid (fun n m hn w => Back_any n m w hn)
        have ez : row20 (dg 0) = z20 := row20_ext _ _ fun i _ => by simp [dg]
        have hz := zero20
        go_wp2_with fail
        have A0 : (wc.alloc (.cells z20 59)).heap[wc.heap.size]? = some (.cells z20 59 (0, 0)) := heap_alloc_new wc _
        have HB0 := (Below.refl wc.heap.size wc).alloc (Nat.le_refl _) (.cells z20 59)
        rw [← ez] at A0
        go_loopw [8] (fun t wr => ∃ i : Nat, i ≤ d.size ∧ t = .int .i64 i ∧ (proc d.data.toList i).all digitB = true ∧ DgSt wc.heap.size wc.heap.size (numOf (proc d.data.toList i)) wc wr none none) (fun t _ => d.size - (intOf t).toNat)
        case atStart => exact ⟨0, by omega, rfl, by rw [proc_zero]; rfl, by rw [proc_zero]; exact DgSt.start A0 HB0⟩
        case round =>
          clear A0 HB0
          obtain ⟨i, hi, rfl, ha, hS⟩ := hrel
          have HA := Lib.hid ha
          have HS := Lib.hid hS
          clear ha hS
          by_cases hlt : i < d.size
          · have hdi : d.data.toList.length = d.size := HDL.out
            by_cases hij : i = j
            · subst hij
              have HP : Hid (proc d.data.toList (i + 1) = proc d.data.toList i) := Lib.hid (by
                have := proc_dot d.data.toList (by rw [HDL.out]; omega)
                rw [HDL.out, HJ.out, show i + 3 - 3 = i by omega] at this
                exact this)
              clear hdi
              go_wp2
              go_roundw
              case rel => exact ⟨i + 1, by omega, by go_num, by rw [HP.out]; exact HA.out, by rw [HP.out]; exact HS.out⟩
              case measure => (try simp [intOf]) <;> (try omega)
            · have HP : Hid (proc d.data.toList (i + 1) = proc d.data.toList i ++ [d[i]'hlt]) := Lib.hid (proc_step d.data.toList i (by rw [HDL.out]; exact hlt) (by rw [HDL.out, HJ.out]; omega))
              by_cases hdg : digitB (d[i]'hlt) = true
              · have hij' : ¬ (i : Int) = (j : Int) := by omega
                have hg1 : 48 ≤ (d[i]'hlt).toNat ∧ (d[i]'hlt).toNat ≤ 57 := by
                  unfold digitB at hdg
                  simpa using hdg
                have HA2 : Hid ((proc d.data.toList (i + 1)).all digitB = true) := Lib.hid (by rw [HP.out, List.all_append, HA.out, List.all_cons, hdg]; rfl)
                have HN : Hid (numOf (proc d.data.toList i) * 10 + ((d[i]'hlt).toNat - 48) = numOf (proc d.data.toList (i + 1))) := Lib.hid (by rw [HP.out, numOf_snoc])
                have hlo := numOf_lt _ HA.out
                have hpl := proc_len d.data.toList i (by rw [HDL.out]; exact hi)
                have HLT : Hid (numOf (proc d.data.toList i) < 65536 ^ 20) := Lib.hid (by
                  have hp : (10 : Nat) ^ (proc d.data.toList i).length ≤ 10 ^ 20 := Nat.pow_le_pow_right (by decide) (by omega)
                  have := pow20_big
                  have e20 : (10 : Nat) ^ 20 = 100000000000000000000 := by decide
                  omega)
                clear hlo hpl hdg hdi HA HRB HRG2 HOK
                obtain ⟨c, hc⟩ : ∃ c, c = (d[i]'hlt).toNat := ⟨_, rfl⟩
                obtain ⟨e, he⟩ : ∃ e, e = c - 48 := ⟨_, rfl⟩
                rw [← hc] at hg1 HN
                rw [← he] at HN
                have hgl := hg1.1
                have hgu := hg1.2
                have hci : (((d[i]'hlt).toNat : Nat) : Int) = (c : Int) := by rw [hc]
                have hei : (c : Int) - 48 = (e : Int) := by omega
                have HEB : Hid (e < 10) := Lib.hid (by omega)
                have hw8 : IntKind.u8.wrap (e : Int) = (e : Int) := IntWalk.u8_in _ (by omega)
                have hw64 : IntKind.u64.wrap (e : Int) = (e : Int) := IntWalk.u64_in _ (by omega)
                clear hg1 he hc
                generalize numOf (proc d.data.toList i) = n at *
                go_upto_region 15 with (fail)
                have D := HS.out.below HS.out.bel.size (Below.refl _ _).drew
                clear HS
                refine wp_region_any (by kernel_rfl) ?_
                change wpAny _ _ _ _ _ _ _ (World.drew _)
                generalize wr.drew = v0 at *
                refine wpAny_take (i := 3) rfl (by kernel_rfl) (by kernel_rfl) (by kernel_rfl) (fun _ _ _ h => h) (.inl ⟨by rfl, fun _ => rfl⟩) ?_
                refine wpAny_take (i := 4) rfl (by kernel_rfl) (by kernel_rfl) (by kernel_rfl) (fun _ _ _ h => h) (.inl ⟨by rfl, fun _ => rfl⟩) ?_
                simp only [Act.put, List.getElem_toArray, List.getElem_cons_succ, List.getElem_cons_zero, List.setIfInBounds_toArray, List.set_cons_succ, List.set_cons_zero]
                refine wpAny_take (i := 5) (v := .int .u8 (c : Int)) rfl (by kernel_rfl) (by kernel_rfl) (by kernel_rfl) (fun _ _ _ h => h) (.inl ⟨by rfl, fun w => ?_⟩) ?_
                · go_simp
                refine wpAny_take (i := 6) (v := .int .u8 (e : Int)) rfl (by kernel_rfl) (by kernel_rfl) (by kernel_rfl) (fun _ _ _ h => h) (.inl ⟨by rfl, fun w => ?_⟩) ?_
                · go_simp
                refine wpAny_take (i := 7) (v := .int .u64 (e : Int)) rfl (by kernel_rfl) (by kernel_rfl) (by kernel_rfl) (fun _ _ _ h => h) (.inl ⟨by rfl, fun w => ?_⟩) ?_
                · go_simp
                simp only [Act.put, List.getElem_toArray, List.getElem_cons_succ, List.getElem_cons_zero, List.setIfInBounds_toArray, List.set_cons_succ, List.set_cons_zero]
                refine wpAny_ready (rs := [0, 1]) (by kernel_rfl) (by simp) ?_
                refine AllReady.cons rfl (fun K hK => ?_) (AllReady.cons rfl (fun K hK => ?_) AllReady.nil)
                · refine step_load_row rfl 59 _ rfl _ rfl _ _ _ _ D.hn Tryd.underlying59 rfl (infoN _) ?_
                  refine hK _ _ ?_
                  clear hK K
                  refine wpAny_ready (rs := [1]) (by kernel_rfl) (by simp) ?_
                  refine AllReady.cons rfl (fun K hK => ?_) AllReady.nil
                  have HKK : Shut (∀ a w, _ → K a w) := hK
                  clear hK
                  go_simp
                  refine (OF.out _).mono ?_
                  rintro e' v' ⟨rfl, hb⟩
                  have D' := D.below D.bel.size hb
                  clear D hb
                  refine HKK.out _ _ ?_
                  clear HKK K
                  have D := D'
                  clear D'
                  refine wpAny_ready (rs := [2]) (by kernel_rfl) (by simp) ?_
                  refine AllReady.cons rfl (fun K hK => ?_) AllReady.nil
                  have HKK : Shut (∀ a w, _ → K a w) := hK
                  clear hK
                  go_simp
                  refine (TI.out n HLT.out _).mono ?_
                  rintro e' v' ⟨rfl, hb⟩
                  have D' := D.below D.bel.size hb
                  clear D hb
                  refine HKK.out _ _ ?_
                  clear HKK K
                  have D := D'
                  clear D'
                  refine wpAny_ready (rs := [8]) (by kernel_rfl) (by simp) ?_
                  refine AllReady.cons rfl (fun K hK => ?_) AllReady.nil
                  have HKK : Shut (∀ a w, _ → K a w) := hK
                  clear hK
                  go_simp
                  refine (OC.out e (by have := HEB.out; omega) _).mono ?_
                  rintro e' v' ⟨rfl, hb⟩
                  have D' := D.below D.bel.size hb
                  clear D hb
                  refine HKK.out _ _ ?_
                  clear HKK K
                  have D := D'
                  clear D'
                  refine wpAny_ready (rs := [9]) (by kernel_rfl) (by simp) ?_
                  refine AllReady.cons rfl (fun K hK => ?_) AllReady.nil
                  have HKK : Shut (∀ a w, _ → K a w) := hK
                  clear hK
                  go_simp
                  refine (PL.out _ _ _).mono ?_
                  rintro e' v' ⟨rfl, hb⟩
                  have D' := D.below D.bel.size hb
                  clear D hb
                  refine HKK.out _ _ ?_
                  clear HKK K
                  have D := D'
                  clear D'
                  refine wpAny_ready (rs := [10]) (by kernel_rfl) (by simp) ?_
                  refine AllReady.cons rfl (fun K hK => ?_) AllReady.nil
                  have D' : DgSt wc.heap.size wc.heap.size (n * 10 + e) wc (v'.setRow wc.heap.size (row20 (dg (n * 10 + e)))) none none := DgSt.start (setRow_heap _ _ _ _ _ _ D.hn) (D.bel.setRow (Nat.le_refl _) _)
                  refine step_store_row0 rfl rfl _ _ _ rfl _ _ rfl rfl _ _ D.hn (infoN _) (by rw [row20_size, row20_size]) (row20_one _) ?_
                  refine hK _ _ ?_
                  clear hK K D
                  refine wpAny_done (by kernel_rfl) ?_ _
                  go_wp2
                  go_roundw
                  case rel => exact ⟨i + 1, by omega, by go_num, HA2.out, by rw [← HN.out]; exact D'⟩
                  case measure => (try simp [intOf]) <;> (try omega)
                · have HKK : Shut (∀ a w, _ → K a w) := hK
                  clear hK
                  go_simp
                  refine (OF.out _).mono ?_
                  rintro e' v' ⟨rfl, hb⟩
                  have D' := D.below D.bel.size hb
                  clear D hb
                  refine HKK.out _ _ ?_
                  clear HKK K
                  have D := D'
                  clear D'
                  refine wpAny_ready (rs := [0]) (by kernel_rfl) (by simp) ?_
                  refine AllReady.cons rfl (fun K hK => ?_) AllReady.nil
                  refine step_load_row rfl 59 _ rfl _ rfl _ _ _ _ D.hn Tryd.underlying59 rfl (infoN _) ?_
                  refine hK _ _ ?_
                  clear hK K
                  refine wpAny_ready (rs := [2]) (by kernel_rfl) (by simp) ?_
                  refine AllReady.cons rfl (fun K hK => ?_) AllReady.nil
                  have HKK : Shut (∀ a w, _ → K a w) := hK
                  clear hK
                  go_simp
                  refine (TI.out n HLT.out _).mono ?_
                  rintro e' v' ⟨rfl, hb⟩
                  have D' := D.below D.bel.size hb
                  clear D hb
                  refine HKK.out _ _ ?_
                  clear HKK K
                  have D := D'
                  clear D'
                  refine wpAny_ready (rs := [8]) (by kernel_rfl) (by simp) ?_
                  refine AllReady.cons rfl (fun K hK => ?_) AllReady.nil
                  have HKK : Shut (∀ a w, _ → K a w) := hK
                  clear hK
                  go_simp
                  refine (OC.out e (by have := HEB.out; omega) _).mono ?_
                  rintro e' v' ⟨rfl, hb⟩
                  have D' := D.below D.bel.size hb
                  clear D hb
                  refine HKK.out _ _ ?_
                  clear HKK K
                  have D := D'
                  clear D'
                  refine wpAny_ready (rs := [9]) (by kernel_rfl) (by simp) ?_
                  refine AllReady.cons rfl (fun K hK => ?_) AllReady.nil
                  have HKK : Shut (∀ a w, _ → K a w) := hK
                  clear hK
                  go_simp
                  refine (PL.out _ _ _).mono ?_
                  rintro e' v' ⟨rfl, hb⟩
                  have D' := D.below D.bel.size hb
                  clear D hb
                  refine HKK.out _ _ ?_
                  clear HKK K
                  have D := D'
                  clear D'
                  refine wpAny_ready (rs := [10]) (by kernel_rfl) (by simp) ?_
                  refine AllReady.cons rfl (fun K hK => ?_) AllReady.nil
                  have D' : DgSt wc.heap.size wc.heap.size (n * 10 + e) wc (v'.setRow wc.heap.size (row20 (dg (n * 10 + e)))) none none := DgSt.start (setRow_heap _ _ _ _ _ _ D.hn) (D.bel.setRow (Nat.le_refl _) _)
                  refine step_store_row0 rfl rfl _ _ _ rfl _ _ rfl rfl _ _ D.hn (infoN _) (by rw [row20_size, row20_size]) (row20_one _) ?_
                  refine hK _ _ ?_
                  clear hK K D
                  refine wpAny_done (by kernel_rfl) ?_ _
                  go_wp2
                  go_roundw
                  case rel => exact ⟨i + 1, by omega, by go_num, HA2.out, by rw [← HN.out]; exact D'⟩
                  case measure => (try simp [intOf]) <;> (try omega)
              · have hdg' : digitB (d[i]'hlt) = false := by simpa using hdg
                obtain rfl := HRB.out (bad_digit d.data.toList i (by rw [HDL.out]; exact hlt) (by rw [HDL.out, HJ.out]; omega) (by rw [HDL.out]; omega) hdg')
                have hbad : (((d[i]'hlt).toNat : Nat) : Int) < 48 ∨ 57 < (((d[i]'hlt).toNat : Nat) : Int) := by
                  unfold digitB at hdg'
                  simp at hdg'
                  omega
                have hbel := HS.out.bel
                clear HRB HRG2 HOK HP HA HS hdg hdg' hdi
                have hij' : ¬ (i : Int) = (j : Int) := by omega
                rcases hbad with hbad | hbad
                · go_wp2
                  go_ret2
                  exact ⟨rfl, hbel⟩
                · go_wp2
                  go_ret2
                  exact ⟨rfl, hbel⟩
          · have hie : i = d.size := by omega
            have hidl : i = d.data.toList.length := by rw [HDL.out]; exact hie
            have hok : okBody d.data.toList := HOK.out (by rw [← hidl]; exact HA.out)
            have hlo := numOf_lt _ HA.out
            have hpl := proc_len d.data.toList i (by rw [HDL.out]; exact hi)
            have HLT : Hid (numOf (proc d.data.toList i) < 65536 ^ 20) := Lib.hid (by
              have hp : (10 : Nat) ^ (proc d.data.toList i).length ≤ 10 ^ 20 := Nat.pow_le_pow_right (by decide) (by omega)
              have := pow20_big
              have e20 : (10 : Nat) ^ 20 = 100000000000000000000 := by decide
              omega)
            have HRS : Hid (R = sgn (numOf (proc d.data.toList i)) b) := Lib.hid (by
              have h := HRG2.out hok
              rw [← proc_end _ hok.h4, ← hidl] at h
              exact h)
            clear hok hidl hlo hpl HRB HRG2 HOK HA OF OC TI PL
            have G0 := HS.out.hn
            generalize numOf (proc d.data.toList i) = n at *
            have BK2 := Lib.hid (fun w => BK.out n b HLT.out w)
            have H4 := Lib.hid (sgn_ok n b)
            clear BK HLT
            generalize sgn n b = S at *
            go_wp2_with (first | (refine wpList_load_row rfl 59 _ rfl _ rfl _ _ _ _ G0 Tryd.underlying59 rfl (infoN _) ?_))
            refine (BK2.out _).mono ?_
            rintro e' v' ⟨rfl, hb⟩
            have hbel := HS.out.bel.trans (hb.mono HS.out.bel.size)
            clear hb HS G0 BK2
            by_cases hk : S.2 = 0
            · rw [decide_eq_true hk]
              go_wp2
              go_ret2
              exact ⟨by rw [HRS.out, hk]; rfl, hbel⟩
            · rw [decide_eq_false hk]
              obtain rfl : S = (0, 4) := H4.out.resolve_left hk
              go_wp2
              go_ret2
              exact ⟨by rw [HRS.out]; rfl, hbel⟩
end Go.Proofs.YtjniclalobggpaaDoor
