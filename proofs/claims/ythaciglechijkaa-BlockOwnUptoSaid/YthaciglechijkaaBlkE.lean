/-
  The reference's Build. No statement is proved here.
-/
import Derived.Lib.AppendStr
import Derived.Deep.RegionHeld3
import Derived.Deep.DeepCutAuto
import Derived.BigQuiet
import Derived.Test.YthaciglechijkaaBlkD
namespace Go.Proofs.Ythaciglechijkaa
open Go.RowKit
set_option linter.unusedVariables false

/-- append of a string's bytes, at a step of a region that draws its order. -/
theorem step_app_str {ops : Array Oper} {o : Oper} {a : Act} {K : Act → World → Prop} {Q : Exit → Act → World → Prop} {E : Prop} {w : World} (hgd : o.guard = none) (s x : Operand)
    (ho : o.op = .call { callee := .builtin .append, args := #[s, x], argTypes := #[24, 9] })
    (base : Nat) (v : Value) (xs : List UInt8) (hs : a.eval s = v) (hown : OwnB w base v xs)
    (ys : List UInt8) (hx : a.eval x = .string ⟨ys.toArray⟩)
    (hlen : xs.length + ys.length ≤ 140737488355328) (hbase : base ≤ w.heap.size)
    (h : ∀ v' w', OwnB w' base v' (xs ++ ys) → Below base w w' → w.grownBy w' v.ownBlock → K (a.put o.dst v') w') :
    if Region.wanted o (yielded ops a.tmps) = true then Oper.wp Try.prog o a w K Q else E := by
  have hw : Region.wanted o (yielded ops a.tmps) = true := by simp [Region.wanted, hgd]
  rw [if_pos hw]
  obtain ⟨i0, hi, hz0, hz1, hz2⟩ := info_parts infoU8
  have hsz : ByteArray.size ⟨ys.toArray⟩ = ys.length := by simp [ByteArray.size]
  obtain ⟨v', w', hr, h2, hg, _⟩ := Lib.run_append_own_string (P := Try.prog) w base 24 9 o.type 5 i0 Try.underlying24 Try.underlying9 hi hz0 hz1 hz2 v xs.length (xs.map bv) hown ⟨ys.toArray⟩ (by unfold maxLen; omega) (by omega) hbase
  unfold Oper.wp execOp
  simp only [ho, resolve, invoke, builtin, Sem.run_bind, Sem.run_pure, Result.andThen_ok, List.map_toArray, List.map_cons, List.map_nil, hs, hx, hr]
  refine h _ _ ?_ ((Below.refl base w).grown hg hbase fun k hk => (hown.lt k hk).1) hg
  unfold OwnB
  rw [hsz] at h2
  rw [List.length_append, List.map_append]
  have e : Lib.strCells ⟨ys.toArray⟩ = ys.map bv := by
    simp [Lib.strCells]
    exact fun a _ => rfl
  rw [e] at h2
  exact h2
theorem str_from (xs : List UInt8) (j : Nat) (hj : j ≤ xs.length) (W : World) : (Instr.slice 9 (.string ⟨xs.toArray⟩) (some (.int .i64 (j : Int))) none none).run Try.prog W = .ok (.string ⟨(xs.drop j).toArray⟩) W := by
  have hs : ByteArray.size ⟨xs.toArray⟩ = xs.length := by simp [ByteArray.size]
  rw [run_slice_string_l W 9 _ Try.underlying9 .i64 _ (by omega) (by rw [hs]; omega)]
  congr 2
  apply ByteArray.ext
  simp [ByteArray.data_extract, hs]
  exact List.take_of_length_le (by rw [List.length_drop]; exact Nat.le_refl _)
def RBuildEnds (w : World) (r : List UInt8 × Int) (e : Ending) (w' : World) : Prop :=
  ∃ v, e = .returned (.tuple #[v, .int .i64 r.2]) ∧ OwnB w' w.heap.size v r.1 ∧ Below w.heap.size w w'
theorem RBuildEnds.bad {w w' : World} {e : Int} (h : Below w.heap.size w w') : RBuildEnds w ([], e) (.returned (.tuple #[.slice none 0 0, .int .i64 e])) w' := ⟨_, rfl, OwnB.nil _ _, h⟩
set_option maxHeartbeats 8000000 in
theorem rBuild_any (A : Option Addr) (n c : Nat) (ps : List PairV) (w : World) (h : RdQ w A n ps) (hn : n ≤ 10000000000000) :
    Calls Try.prog 10 #[.slice A n c] w (RBuildEnds w (buildOf ps)) := by
  have HX := Lib.hid h
  have HN : Hid (ps.length = n) := Lib.hid h.len
  clear h
  by_cases h4 : 4096 < n
  · have e : buildOf ps = ([], 3) := by unfold buildOf; rw [if_pos (.inl (by rw [HN.out]; exact h4))]
    rw [e]
    go_enter Try.func10, Try.ntmps10
    go_wp2
    go_ret2
    exact RBuildEnds.bad (Below.refl _ _)
  · have HB : Hid ((ps.any PairV.long = true → buildOf ps = ([], 3)) ∧ (ps.any PairV.long = false → ordL [] ps = true → buildOf ps = (packL [] ps, 0)) ∧ (ps.any PairV.long = false → ordL [] ps = false → buildOf ps = ([], 30))) := Lib.hid (by
      unfold buildOf
      refine ⟨fun h => by rw [if_pos (.inr h)], fun h h' => ?_, fun h h' => ?_⟩
      · rw [if_neg (by rw [HN.out, h]; simp; omega), if_pos h']
      · rw [if_neg (by rw [HN.out, h]; simp; omega), if_neg (by rw [h']; simp)])
    generalize buildOf ps = R at *
    go_enter Try.func10, Try.ntmps10
    go_wp2
    go_loopw [16] (fun t wr => ∃ k : Nat, k ≤ n ∧ t = .int .i64 k ∧ Hid (∀ p ∈ ps.take k, p.long = false) ∧ Hid (Dr w wr)) (fun t _ => n - (intOf t).toNat)
    case atStart => exact ⟨0, by omega, rfl, Lib.hid (by simp), Lib.hid (Dr.refl _)⟩
    case round =>
      obtain ⟨k, hk, rfl, HP, HD⟩ := hrel
      by_cases hlt : k < n
      · have hkl : k < ps.length := by rw [HN.out]; exact hlt
        obtain ⟨b, off, rfl, hc⟩ := (HX.out.below HD.out.below).ex (by omega)
        obtain ⟨Ak, mk, ck, Av, mv, cv, c0, c1, r0, r1, hmk, hmv⟩ := hc k hkl
        have hL : (decide (200 < mk) || decide (4096 < mv)) = ps[k].long := by
          unfold PairV.long
          rw [r0.len, r1.len]
        have HM := Lib.hid (List.getElem_mem hkl)
        have HT : Hid (ps[k].long = false → ∀ p ∈ ps.take (k + 1), p.long = false) := Lib.hid fun h p hp => by
          rw [take_snoc' _ _ hkl] at hp
          rcases List.mem_append.1 hp with h1 | h1
          · exact HP.out p h1
          · simp at h1; rw [h1]; exact h
        clear hc r0 r1
        generalize ps[k] = p at *
        cases hlg : p.long
        · rw [hlg] at hL
          simp at hL
          obtain ⟨hl1, hl2⟩ := hL
          have HT2 := Lib.hid (HT.out hlg)
          clear HT HP
          go_wp2
          go_roundw
          case rel => exact ⟨k + 1, by omega, by go_num, HT2, HD⟩
          case measure => (try simp [intOf]) <;> (try omega)
        · rw [hlg] at hL
          simp at hL
          have hr := HB.out.1 (List.any_eq_true.2 ⟨p, HM.out, hlg⟩)
          clear HT HP
          by_cases h200 : 200 < mk
          · go_wp2
            go_ret2
            try rw [hr]
            exact RBuildEnds.bad HD.out.below
          · have h4096 : 4096 < mv := by omega
            go_wp2
            go_ret2
            try rw [hr]
            exact RBuildEnds.bad HD.out.below
      · have HLA : Hid (ps.any PairV.long = false) := Lib.hid (by
          have := HP.out
          rw [List.take_of_length_le (by rw [HN.out]; omega)] at this
          rw [List.any_eq_false]
          intro x hx
          rw [this x hx]
          simp)
        have HL : Hid (∀ p ∈ ps, p.key.length ≤ 200 ∧ p.val.length ≤ 4096) := Lib.hid fun p hp => by
          have := HLA.out
          rw [List.any_eq_false] at this
          have := this p hp
          unfold PairV.long at this
          simp at this
          omega
        clear HP
        go_wp2
        go_loopw [38] (fun t wr2 => ∃ k : Nat, k ≤ n ∧ t = .int .i64 k ∧ Hid (ordL [] (ps.take k) = true) ∧ Hid (Dr w wr2)) (fun t _ => n - (intOf t).toNat)
        case atStart => exact ⟨0, by omega, rfl, Lib.hid rfl, HD⟩
        case round =>
          clear HD hk
          obtain ⟨k2, hk2, rfl, HS, HD2⟩ := hrel
          obtain ⟨wb, rfl⟩ : ∃ x, x = wr := ⟨_, rfl⟩
          by_cases hlt2 : k2 < n
          · have hkl : k2 < ps.length := by rw [HN.out]; exact hlt2
            obtain ⟨b, off, rfl, hc⟩ := (HX.out.below HD2.out.below).ex (by omega)
            obtain ⟨Ak, mk, ck, Av, mv, cv, c0, c1, r0, r1, hmk, hmv⟩ := hc k2 hkl
            have HT := Lib.hid (ord_take ps k2 hkl HS.out)
            have hlk := r0.len
            have hl200 := (HL.out _ (List.getElem_mem hkl)).1
            have hgood : lessL (lastK (ps.take k2)) ps[k2].key ≠ -1 → R = ([], 30) := fun h => HB.out.2.2 HLA.out (HT.out.2 h)
            have HK0 := Lib.hid (show k2 = 0 → lastK (ps.take k2) = [] from fun h => by subst h; rfl)
            have HKS : Hid (0 < k2 → ∃ (Ap : Option Addr) (mp cp : Nat), wb.cell? ⟨b, off + (k2 - 1) * 2, none⟩ = some (.slice Ap mp cp) ∧ RdB wb Ap mp (lastK (ps.take k2)) ∧ mp ≤ 200) := Lib.hid fun h => by
              obtain ⟨j, rfl⟩ : ∃ j, k2 = j + 1 := ⟨k2 - 1, by omega⟩
              have hj : j < ps.length := by omega
              obtain ⟨Ap, mp, cp, _, _, _, d0, _, s0, _⟩ := hc j hj
              have h2 := (HL.out _ (List.getElem_mem hj)).1
              rw [s0.len] at h2
              exact ⟨Ap, mp, cp, d0, by rw [take_snoc' ps j hj, lastK_snoc]; exact s0, h2⟩
            clear hc r1 c1 HS
            rw [hlk] at hl200
            generalize ps[k2].key = key at *
            generalize hX : lastK (ps.take k2) = X at *
            by_cases hm0 : mk = 0
            · subst hm0
              obtain rfl : key = [] := List.eq_nil_of_length_eq_zero hlk
              have hr := hgood (by have := lessL_nil X; omega)
              clear HT hgood HKS HK0
              go_wp2_with fail
              go_quiet (fail)
              go_wp2
              go_ret2
              try rw [hr]
              exact RBuildEnds.bad (below_drewN HD2.out.below _)
            · have hm1 : (((mk : Nat) : Int) == 0) = false := by rw [beq_eq_false_iff_ne]; omega
              by_cases hk0 : k2 = 0
              · obtain rfl := HK0.out hk0
                have c0' : wb.cell? ⟨b, off, none⟩ = some (.slice Ak mk ck) := by simpa [hk0] using c0
                have hless : lessL [] key = -1 := by
                  cases key with
                  | nil => simp at hlk; omega
                  | cons a l => rfl
                have HS2 := Lib.hid (HT.out.1 hless)
                clear HT hgood HKS HK0
                go_wp2_with fail
                go_quiet (fail)
                go_wp2
                go_roundw
                case rel => exact ⟨k2 + 1, by omega, by go_num, HS2, Lib.hid (HD2.out.more _)⟩
                case measure => (try simp [intOf]) <;> (try omega)
              · obtain ⟨Ap, mp, cp, d0, s0, hmp⟩ := HKS.out (by omega)
                have k1 := fun m => (s0.drewN m).conv (P := Try.prog) (src := 24) (dst := 9) Try.underlying24 Try.underlying5 Try.underlying9 cp
                have k3 := fun m => (r0.drewN m).conv (P := Try.prog) (src := 24) (dst := 9) Try.underlying24 Try.underlying5 Try.underlying9 ck
                have hk1 : 0 < k2 := by omega
                have hsub : ((k2 : Int) - 1) = ((k2 - 1 : Nat) : Int) := by omega
                have LS := Lib.hid (fun w => Less_q ⟨X.toArray⟩ ⟨key.toArray⟩ w (by have := s0.len; simp [ByteArray.size]; omega) (by simp [ByteArray.size]; omega))
                clear HK0 HKS s0 r0
                by_cases hless : lessL X key = -1
                · have HS2 := Lib.hid (HT.out.1 hless)
                  rw [hless] at LS
                  clear HT hgood
                  go_wp2_with fail
                  go_quiet (first | (go_at_call 24; refine Calls.quiet_of (LS.out _)))
                  go_wp2
                  go_roundw
                  case rel => exact ⟨k2 + 1, by omega, by go_num, HS2, Lib.hid (HD2.out.more _)⟩
                  case measure => (try simp [intOf]) <;> (try omega)
                · have hr := hgood hless
                  have h0 : 0 ≤ lessL X key := by rcases lessL_vals X key with h | h | h <;> omega
                  clear HT hgood hless
                  generalize lessL X key = C at *
                  go_wp2_with fail
                  go_quiet (first | (go_at_call 24; refine Calls.quiet_of (LS.out _)))
                  go_wp2
                  go_ret2
                  try rw [hr]
                  exact RBuildEnds.bad (below_drewN HD2.out.below _)
          · have htk : ps.take k2 = ps := List.take_of_length_le (by rw [HN.out]; omega)
            rw [htk] at HS
            have HR := Lib.hid (HB.out.2.1 HLA.out HS.out)
            have HPL := Lib.hid (fun k => pack_len (ps.take k) [] (by
              have := HLA.out
              rw [List.any_eq_false] at this ⊢
              exact fun p hp => this p (List.mem_of_mem_take hp)))
            clear HS HB hk2 htk
            have HBB := Lib.hid HD2.out.below
            clear HD2
            go_wp2
            go_loopw [6, 7, 72] (fun v ah t wr3 => ∃ k : Nat, k ≤ n ∧ t = .int .i64 k ∧ ah = .string ⟨(lastK (ps.take k)).toArray⟩ ∧ Hid (OwnB wr3 w.heap.size v (packL [] (ps.take k))) ∧ Hid (Below w.heap.size w wr3)) (fun _ _ t _ => n - (intOf t).toNat)
            case atStart => exact ⟨0, by omega, rfl, rfl, Lib.hid (OwnB.nil _ _), HBB⟩
            case round =>
              obtain ⟨k3, hk3, rfl, rfl, HO, HBW⟩ := hrel
              obtain ⟨wc, rfl⟩ : ∃ x, x = wr := ⟨_, rfl⟩
              by_cases hlt3 : k3 < n
              · have hkl : k3 < ps.length := by rw [HN.out]; exact hlt3
                obtain ⟨b, off, rfl, hc⟩ := HX.out.ex (by omega)
                obtain ⟨Ak, mk, ck, Av, mv, cv, cc0, cc1, r0, r1, hmk, hmv⟩ := hc k3 hkl
                have CC : Hid (∀ W : World, Below w.heap.size w W → W.cell? ⟨b, off + k3 * 2, none⟩ = some (.slice Ak mk ck) ∧ W.cell? ⟨b, off + k3 * 2 + 1, none⟩ = some (.slice Av mv cv)) := Lib.hid fun W hW =>
                  ⟨(hW.cell (p := ⟨b, off + k3 * 2, none⟩) (World.block_lt_of_cell? w ⟨b, off + k3 * 2, none⟩ cc0)).trans cc0, (hW.cell (p := ⟨b, off + k3 * 2 + 1, none⟩) (World.block_lt_of_cell? w ⟨b, off + k3 * 2 + 1, none⟩ cc1)).trans cc1⟩
                have hlens := HL.out _ (List.getElem_mem hkl)
                rw [r0.len, r1.len] at hlens
                obtain ⟨hl1, hl2⟩ := hlens
                have HP := Lib.hid (show packL [] (ps.take (k3 + 1)) = packL [] (ps.take k3) ++ entL (lastK (ps.take k3)) ps[k3] by rw [take_snoc' ps k3 hkl, pack_snoc])
                have HK := Lib.hid (show lastK (ps.take (k3 + 1)) = ps[k3].key by rw [take_snoc' ps k3 hkl, lastK_snoc])
                have hX200 : (lastK (ps.take k3)).length ≤ 200 := by
                  rcases Nat.eq_zero_or_pos k3 with h | h
                  · subst h; simp [lastK]
                  · obtain ⟨j, rfl⟩ : ∃ j, k3 = j + 1 := ⟨k3 - 1, by omega⟩
                    have hj : j < ps.length := by omega
                    rw [take_snoc' ps j hj, lastK_snoc]
                    exact (HL.out _ (List.getElem_mem hj)).1
                have hpl : (packL [] (ps.take k3)).length ≤ 20000000 := by
                  have := HPL.out k3
                  have h2 : (ps.take k3).length ≤ 4096 := by rw [List.length_take]; omega
                  omega
                have HR0 := Lib.hid r0
                have HR1 := Lib.hid r1
                obtain ⟨c0, c1⟩ := CC.out _ HBW.out
                have k1 := fun W (hW : Below w.heap.size w W) => (r0.below hW).conv (P := Try.prog) (src := 24) (dst := 9) Try.underlying24 Try.underlying5 Try.underlying9 ck
                have k2 := k1 _ HBW.out
                clear k1 hc cc0 cc1 r0 r1
                generalize ps[k3] = p at *
                generalize hX : lastK (ps.take k3) = X at *
                generalize packL [] (ps.take k3) = Y at *
                have SH := Lib.hid (refShared_any ⟨X.toArray⟩ ⟨p.key.toArray⟩ wc (by simp [ByteArray.size]; omega) (by have := HR0.out.len; simp [ByteArray.size]; omega))
                obtain ⟨Ab, mb, cb, rfl, hmb, _, _, hrb, _⟩ := HO.out.form
                have HRB := Lib.hid hrb
                have hmb2 : mb ≤ 20000000 := by have := hmb.out; omega
                have hcm : com X p.key ≤ mk := by have := (com_le X p.key).2; have := HR0.out.len; omega
                have HE := Lib.hid (show entL X p = enc (com X p.key) ++ (enc (mk - com X p.key) ++ (enc mv ++ (p.key.drop (com X p.key) ++ p.val))) by unfold entL; rw [HR0.out.len, HR1.out.len])
                have hkd : Hid ((p.key.drop (com X p.key)).length = mk - com X p.key) := Lib.hid (by rw [List.length_drop, HR0.out.len])
                have hss := str_from p.key (com X p.key) (by rw [HR0.out.len]; exact hcm)
                have hsz : ByteArray.size ⟨p.key.toArray⟩ = mk := by have := HR0.out.len; simpa [ByteArray.size] using this
                generalize com X p.key = cm at *
                clear hrb hmb
                have hsub : ((mk : Int) - (cm : Int)) = ((mk - cm : Nat) : Int) := by omega
                go_wp2_with fail
                refine SH.out.mono ?_
                rintro e wd ⟨rfl, hd⟩
                have HBD := Lib.hid (HBW.out.trans (hd.below.mono HBW.out.size))
                have HRBD := Lib.hid (HRB.out.below hd.below)
                clear hd HBW HRB SH
                go_wp2_with fail
                refine (refAppendUint_any Ab mb cb cm wd Y HRBD.out (by omega) (by omega)).mono ?_
                rintro e we ⟨ve, rfl, hve, hbe⟩
                have HBE := Lib.hid (HBD.out.trans (hbe.mono HBD.out.size))
                obtain ⟨Ae, me, ce, rfl, hme, _, _, hre, _⟩ := hve.form
                have HRE := Lib.hid hre
                have hme2 : me ≤ 20000010 := by have h1 := hme.out; have := (enc_length cm).2; rw [List.length_append] at h1; omega
                clear hve hbe hre hme HRBD HBD
                go_wp2_with fail
                refine (refAppendUint_any Ae me ce (mk - cm) we _ HRE.out (by omega) (by omega)).mono ?_
                rintro e wf ⟨vf, rfl, hvf, hbf⟩
                have HBF := Lib.hid (HBE.out.trans (hbf.mono HBE.out.size))
                obtain ⟨Af, mf, cf, rfl, hmf, _, _, hrf, _⟩ := hvf.form
                have HRF := Lib.hid hrf
                have hmf2 : mf ≤ 20000020 := by have h1 := hmf.out; have h2 := HRE.out.len; have := (enc_length (mk - cm)).2; rw [List.length_append] at h1; omega
                obtain ⟨_, c1f⟩ := CC.out _ HBF.out
                clear hvf hbf hrf hmf HRE
                go_wp2_with fail
                refine (refAppendUint_any Af mf cf mv wf _ HRF.out (by omega) (by omega)).mono ?_
                rintro e wg ⟨vg, rfl, hvg, hbg⟩
                have HBG := HBF.out.trans (hbg.mono HBF.out.size)
                have hvg' := hvg.mono HBF.out.size
                have hzl : (Y ++ enc cm ++ enc (mk - cm) ++ enc mv).length ≤ 20000030 := by
                  have := HRF.out.len; have := (enc_length mv).2
                  rw [List.length_append]
                  omega
                have HE2 := Lib.hid (show Y ++ entL X p = Y ++ enc cm ++ enc (mk - cm) ++ enc mv ++ p.key.drop cm ++ p.val by rw [HE.out]; simp)
                generalize Y ++ enc cm ++ enc (mk - cm) ++ enc mv = Z at *
                obtain ⟨Ag, mg, cg, rfl, hmg, _, _, _, _⟩ := hvg'.form
                have hml := hmg.out
                have hrl := hkd.out
                have HR1' := HR1.out
                obtain ⟨_, c1g⟩ := CC.out _ HBG
                clear hvg hbg HRF c1f c1 c0 hmg k2
                go_upto_region 25 with (fail)
                go_region_held3 (fun (w' : World) => Below w.heap.size w w' ∧ w'.cell? ⟨b, off + k3 * 2 + 1, none⟩ = some (.slice Av mv cv)) (first | assumption | exact ⟨Below.drew HBG, c1g⟩ | exact ⟨below_drewN HBG _, c1g⟩ | exact ⟨hB6, (CC.out _ hB6).2⟩ | exact ⟨hB5, (CC.out _ hB5).2⟩)
                  (first
                    | (refine step_app_str (by rfl) (.tmp 104) (.tmp 107) (by rfl) w.heap.size _ Z (by rfl) (OwnB.drewN hvg' _) (p.key.drop cm) (by rfl) (by omega) (Below.size (And.left (by assumption))) ?_
                       intro v5 w5 hv5 hb5 hg5
                       have hB5 : Below w.heap.size w w5 := Below.trans (And.left (by assumption)) hb5)
                    | (refine step_app_u8 (by rfl) (.tmp 108) (.tmp 113) (by rfl) w.heap.size _ (Z ++ p.key.drop cm) (by rfl) hv5 Av mv cv p.val (by rfl) (HR1'.below (And.left (by assumption))) (by rw [List.length_append]; omega) (Below.size (And.left (by assumption))) ?_
                       intro v6 w6 hv6 hb6 hg6
                       have hB6 : Below w.heap.size w w6 := Below.trans (And.left (by assumption)) hb6))
                all_goals
                  have HV6 := Lib.hid hv6
                  clear hv5 hv6 hb5 hb6 hg5 hg6
                  go_wp2
                  go_roundw
                  case rel => exact ⟨k3 + 1, by omega, by go_num, by rw [HK.out], Lib.hid (by rw [HP.out, HE2.out]; exact HV6.out), Lib.hid hB6⟩
                  case measure => (try simp [intOf]) <;> (try omega)
              · have htk : ps.take k3 = ps := List.take_of_length_le (by rw [HN.out]; omega)
                rw [htk] at HO
                obtain ⟨Ab, mb, cb, rfl, _⟩ := HO.out.form
                go_wp2
                go_ret2
                rw [HR.out]
                exact ⟨_, rfl, HO.out, HBW.out⟩
end Go.Proofs.Ythaciglechijkaa
