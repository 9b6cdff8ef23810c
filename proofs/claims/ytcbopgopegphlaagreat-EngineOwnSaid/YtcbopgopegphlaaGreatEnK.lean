/-
  bitemp.Known. No statement is proved here.
-/
import Derived.Test.YtcbopgopegphlaaGreatEnS
import Derived.Test.YtcbopgopegphlaaGreatEnB
import Derived.Test.YtcbopgopegphlaaGreatMapG
import Derived.Test.YtcbopgopegphlaaGreatAcWW
namespace Go.Proofs.YtcbopgopegphlaaGreat
open Go.Shelf Go.RowKit Go.Lib Go.Sort
set_option linter.unusedVariables false
theorem encE_cells (e : Ev) (k : Nat) (hk : k < 6) : (evCells e)[k]? = some ((encE e)[k]!) := by
  rcases k with _ | _ | _ | _ | _ | _ | k
  · rfl
  · rfl
  · rfl
  · rfl
  · rfl
  · rfl
  · omega
theorem holds_own {w : World} {base g n cap : Nat} {l : List Ev} (h : w.ownsRow base 39 6 (.slice (some ⟨g, 0, none⟩) n cap) n (flatE l)) : HoldsK encE 6 w g 0 l.toArray := by
  obtain ⟨hl, h⟩ := h
  rcases h with ⟨h, _⟩ | ⟨g', cap', cur, hv, _, hcell, _, _, hsz, htake⟩
  · cases h
  · injection hv with h1 _ _
    injection h1 with h1
    injection h1 with h1 _ _
    subst h1
    intro t ht
    rw [Nat.zero_add]
    refine ⟨?_, frozen_of_row _ _ _ _ _ hcell⟩
    rw [cell_of_row _ _ _ _ _ _ hcell]
    simp only [size_flatK, List.size_toArray] at ht
    rw [get_flatK _ _ _ _ (by simpa using ht)]
    have h6 := flatE_len l
    have hq : t / 6 < l.length := by omega
    have e1 : (flatE l)[t]? = cur[t]? := by
      rw [← htake, List.getElem?_take_of_lt (by omega)]
      simp
    rw [← e1, show t = t / 6 * 6 + t % 6 by omega, flatE_get l (t / 6) (t % 6) hq (Nat.mod_lt _ (by omega)), encE_cells _ _ (Nat.mod_lt _ (by omega))]
    rw [show (t / 6 * 6 + t % 6) / 6 = t / 6 by omega, show (t / 6 * 6 + t % 6) % 6 = t % 6 by omega]
    rw [getElem!_pos l.toArray (t / 6) (by simpa using hq)]
    rfl
theorem rdE_holds {w : World} {g : Nat} {d : Array Ev} (h : HoldsK encE 6 w g 0 d) : RdE w (some ⟨g, 0, none⟩) d.size d.toList := by
  refine ⟨by simp, fun _ => ⟨g, 0, rfl, fun j hj k u hu => ?_⟩⟩
  have hk : k < 6 := (Array.getElem?_eq_some_iff.1 hu).1
  have hj' : j < d.size := by simpa using hj
  rw [(h.cell hj' hk).1]
  rw [encE_cells _ _ hk] at hu
  rw [getElem!_pos d j hj']
  exact hu
theorem sortE_below (w : World) (g off m : Nat) (d : Array Ev) (os : Array Obj) (B : Nat) (hB : B ≤ g) (hw : B ≤ w.heap.size) : Below B w (sortWorldK encE 6 w g off m d os) := by
  have hblk : ∀ b, b ≠ g → b < w.heap.size → (sortWorldK encE 6 w g off m d os).heap[b]? = w.heap[b]? := fun b hb hl => by
    unfold sortWorldK putRowK
    rw [heap_grow_old _ _ (by simpa [putRow, mapBlock] using hl)]
    simp only [putRow, mapBlock, Array.getElem?_modify]
    rw [if_neg (fun h => hb h.symm)]
    rfl
  refine ⟨rfl, rfl, rfl, show w.heap.size ≤ _ from ?_, fun i hi => hblk i (by omega) (by omega)⟩
  unfold sortWorldK
  rw [size_grow, size_putRowK]
  show w.heap.size ≤ w.heap.size + os.size
  omega
theorem gone_snoc (l : List Ev) (e : Ev) (b s : Int) : goneB (l ++ [e]) b s = (goneB l b s || decide (e.kind = 5 ∧ e.seq ≤ b ∧ e.ref = s)) := by
  simp [goneB]
theorem rowEv (W : World) (e : Ev) : RdE (W.alloc (.cells #[.int .i64 e.seq, .string e.loan, .int .i64 e.day, .int .i64 e.kind, .int .i64 e.amount, .int .i64 e.ref] 39)) (some ⟨W.heap.size, 0, none⟩) 1 [e] := by
  refine ⟨rfl, fun _ => ⟨W.heap.size, 0, rfl, fun j hj k u hu => ?_⟩⟩
  have : j = 0 := by simpa using hj
  subst this
  rw [cell_of_row _ _ _ _ _ _ (heap_alloc_new W _)]
  rw [show 0 + 0 * 6 + k = k by omega]
  exact hu
theorem ownE_below {w w' : World} {base B n : Nat} {v : Value} {xs : List Value} (h : w.ownsRow base 39 6 v n xs) (hb : Below B w w') (hlt : ∀ g, v.ownBlock = some g → g < B) : w'.ownsRow base 39 6 v n xs := by
  obtain ⟨h0, h⟩ := h
  refine ⟨h0, ?_⟩
  rcases h with h | ⟨g, cap, cur, hv, h1, h2, h3⟩
  · exact .inl h
  · subst hv
    exact .inr ⟨g, cap, cur, rfl, h1, (hb.block g (hlt g rfl)).trans h2, h3⟩
theorem mapAfter {w : World} {k : Nat} {o : Obj} (p : Obj) (h : w.heap[k]? = some o) : (w.alloc p).heap[k]? = some o := by
  have hlt := (Array.getElem?_eq_some_iff.1 h).1
  rw [← h]
  exact Below.block ((Below.refl w.heap.size w).alloc (Nat.le_refl _) p) k hlt
def keptTo (l : List Ev) (b : Int) (j : Nat) : List Ev := (l.take j).filter (keptB l b)
theorem keptTo_step (l : List Ev) (b : Int) (j : Nat) (h : j < l.length) : keptTo l b (j + 1) = keptTo l b j ++ (if keptB l b l[j] then [l[j]] else []) := by
  unfold keptTo
  rw [List.take_add_one, List.getElem?_eq_getElem h, Option.toList_some, List.filter_append]
  congr 1
  cases h' : keptB l b l[j] <;> simp [h']
theorem keptTo_len (l : List Ev) (b : Int) (j : Nat) : (keptTo l b j).length ≤ l.length := Nat.le_trans (List.length_filter_le _ _) (by simp; omega)
theorem zeroB (w : World) : (zeroValue 4).run Tryz.prog w = .ok (.bool false) w := by kernel_rfl
set_option maxRecDepth 100000 in
set_option maxHeartbeats 4000000 in
theorem Known_any (E : Option Addr) (m c : Nat) (l : List Ev) (b : Int) (w : World) (hE : RdE w E m l) (hm : m ≤ 100000) (hr : Rising l) :
    Calls Tryz.prog 27 #[.slice E m c, .int .i64 b] w fun e w' => ∃ E' n c', e = .returned (.slice E' n c') ∧ RdE w' E' n (knownOf l b) ∧ n ≤ c' ∧ Below w.heap.size w w' ∧ (∀ a, E' = some a → w.heap.size ≤ a.block) := by
  have HE := Lib.hid hE
  have HL := Lib.hid hE.1
  have HR := Lib.hid hr
  have HB0 := Lib.hid ((Below.refl w.heap.size w).alloc (Nat.le_refl _) (.map #[] 0))
  have HG := Lib.hid (show (w.alloc (.map #[] 0)).heap[w.heap.size]? = some (.map (mapG keI Value.bool [] 0).toArray ([] : List (Int × Bool)).length) from heap_alloc_new _ _)
  have HMK : ∀ w : World, (Instr.makeMap 86 none).run Tryz.prog w = .ok (.map (some w.heap.size)) (w.alloc (.map #[] 0)) := fun w => rfl
  have hT : Tryz.prog.underlying 86 = some (.map 3 4) := by kernel_rfl
  have hKI : KeyOk keI Value.bool Tryz.prog 3 := keyOk_int _ _ _ (by kernel_rfl)
  have HT := Lib.hid hT
  have HKI := Lib.hid hKI
  have HSN := Lib.hid fun w => sortStable_nil (.func (.func 43) #[] #[]) w
  obtain ⟨gm, hgm⟩ : ∃ gm, gm = w.heap.size := ⟨_, rfl⟩
  have HGM := Lib.hid hgm
  clear hE hr hT hKI
  go_enter Tryz.func27, Tryz.ntmps27
  go_wp2_with fail
  rw [← hgm] at HG ⊢
  clear hgm
  generalize w.alloc (.map #[] 0) = wa at *
  go_loopw [14] (fun t wr => ∃ (k : Nat) (M : List (Int × Bool)), k ≤ m ∧ t = .int .i64 k ∧ Hid (∀ s, (getG M s).getD false = goneB (l.take k) b s) ∧ Hid (wr.heap[gm]? = some (.map (mapG keI Value.bool M 0).toArray M.length)) ∧ Hid (Below w.heap.size w wr)) (fun t _ => m - (intOf t).toNat)
  case atStart => exact ⟨0, [], Nat.zero_le _, rfl, Lib.hid (fun s => rfl), HG, HB0⟩
  case round =>
    clear HG HB0
    obtain ⟨k, M, hk, rfl, HV, HMP, HB⟩ := hrel
    obtain ⟨wb, rfl⟩ : ∃ x, x = wr := ⟨_, rfl⟩
    by_cases hlt : k < m
    · have hkl : k < l.length := by have := HL.out; omega
      have hEr := HE.out.below HB.out
      obtain ⟨b0, off, rfl, _⟩ := hEr.2 (by omega)
      obtain ⟨x0, x1, x2, x3, x4, x5⟩ := ev_six hEr k hkl
      have HG2 : Hid (∀ s, goneB (l.take (k + 1)) b s = (goneB (l.take k) b s || decide (l[k].kind = 5 ∧ l[k].seq ≤ b ∧ l[k].ref = s))) := Lib.hid fun s => by
        rw [List.take_add_one, List.getElem?_eq_getElem hkl, Option.toList_some, gone_snoc]
      clear hEr
      generalize l[k] = e at *
      obtain ⟨es, el, ed, ek, ea, er⟩ := e
      dsimp only at *
      have HB2 := Lib.hid (HB.out.alloc HB.out.size (.cells #[.int .i64 es, .string el, .int .i64 ed, .int .i64 ek, .int .i64 ea, .int .i64 er] 39))
      have HMP2 := Lib.hid (mapAfter (.cells #[.int .i64 es, .string el, .int .i64 ed, .int .i64 ek, .int .i64 ea, .int .i64 er] 39) HMP.out)
      clear HB HMP
      by_cases h5 : ek = 5
      · subst h5
        by_cases hs : es ≤ b
        · have HV2 : Hid (∀ s, (getG (setG M er true) s).getD false = goneB (l.take (k + 1)) b s) := Lib.hid fun s => by
            rw [HG2.out, get_set]
            by_cases h : s = er
            · simp [h, hs]
            · rw [if_neg h, HV.out]
              simp [Ne.symm h]
          obtain ⟨w2, hu, hM⟩ := upd_one keI Value.bool HKI.out HT.out _ gm M er true HMP2.out
          have HH := Lib.hid hM.here
          have HB3 := Lib.hid (hM.below keI Value.bool (by rw [HGM.out]; exact Nat.le_refl _) HB2.out)
          clear hM HG2 HV HMP2 HB2
          unfold keI at hu
          go_wp2
          go_roundw
          case rel => exact ⟨k + 1, setG M er true, by omega, by go_num, HV2, HH, HB3⟩
          case measure => simp [intOf]; omega
        · have HV2 : Hid (∀ s, (getG M s).getD false = goneB (l.take (k + 1)) b s) := Lib.hid fun s => by
            rw [HG2.out, HV.out]; simp [hs]
          clear HG2 HV
          go_wp2
          go_roundw
          case rel => exact ⟨k + 1, M, by omega, by go_num, HV2, HMP2, HB2⟩
          case measure => simp [intOf]; omega
      · have HV2 : Hid (∀ s, (getG M s).getD false = goneB (l.take (k + 1)) b s) := Lib.hid fun s => by
          rw [HG2.out, HV.out]; simp [h5]
        have h5' : (ek == 5) = false := by simp [h5]
        clear HG2 HV
        go_wp2
        go_roundw
        case rel => exact ⟨k + 1, M, by omega, by go_num, HV2, HMP2, HB2⟩
        case measure => simp [intOf]; omega
    · obtain rfl : k = m := by omega
      have HVF : Hid (∀ s, (getG M s).getD false = goneB l b s) := Lib.hid fun s => by
        rw [HV.out, List.take_of_length_le (by have := HL.out; omega)]
      have HGL : Hid (gm < wb.heap.size) := Lib.hid (Array.getElem?_eq_some_iff.1 HMP.out).1
      have HN0 := Lib.hid (World.ownsRow_nil wb wb.heap.size 39 6)
      clear HV
      go_wp2_with fail
      go_loopw [8, 33] (fun v t wr => ∃ j : Nat, j ≤ k ∧ t = .int .i64 j ∧ Hid (wr.ownsRow wb.heap.size 39 6 v (keptTo l b j).length (flatE (keptTo l b j))) ∧ Hid (Below wb.heap.size wb wr)) (fun _ t _ => k - (intOf t).toNat)
      case atStart => exact ⟨0, Nat.zero_le _, rfl, HN0, Lib.hid (Below.refl _ _)⟩
      case round =>
        clear HN0
        obtain ⟨j, hj, rfl, HO, HBJ⟩ := hrel
        obtain ⟨wd, rfl⟩ : ∃ x, x = wr := ⟨_, rfl⟩
        have HBW := Lib.hid (HB.out.trans (HBJ.out.mono HB.out.size))
        have HLEN : (keptTo l b j).length ≤ 100000 := by have := keptTo_len l b j; have := HL.out; omega
        by_cases hltj : j < k
        · have hkl : j < l.length := by have := HL.out; omega
          have hEr := HE.out.below HBW.out
          obtain ⟨b0, off, rfl, _⟩ := hEr.2 (by omega)
          obtain ⟨x0, x1, x2, x3, x4, x5⟩ := ev_six hEr j hkl
          have HST := Lib.hid (keptTo_step l b j hkl)
          have HGO := Lib.hid (HVF.out l[j].seq)
          clear hEr
          generalize l[j] = e at *
          obtain ⟨es, el, ed, ek, ea, er⟩ := e
          dsimp only at *
          have HO2 := Lib.hid (World.ownsRow.alloc HO.out (.cells #[.int .i64 es, .string el, .int .i64 ed, .int .i64 ek, .int .i64 ea, .int .i64 er] 39))
          have HBJ2 := Lib.hid (HBJ.out.alloc HBJ.out.size (.cells #[.int .i64 es, .string el, .int .i64 ed, .int .i64 ek, .int .i64 ea, .int .i64 er] 39))
          have HMP4 := Lib.hid ((HBJ2.out.block gm HGL.out).trans HMP.out)
          clear HO HBJ
          by_cases hs : es ≤ b
          · by_cases h5 : ek = 5
            · subst h5
              have HS2 : Hid (keptTo l b (j + 1) = keptTo l b j) := Lib.hid (by rw [HST.out]; simp [keptB])
              clear HST HGO
              go_wp2
              go_roundw
              case rel => exact ⟨j + 1, by omega, by go_num, Lib.hid (by rw [HS2.out]; exact HO2.out), HBJ2⟩
              case measure => simp [intOf]; omega
            · have h5' : (ek != 5) = true := by simp [h5]
              have hl := look_one keI Value.bool HKI.out HT.out (.bool false) zeroB _ gm M M.length es HMP4.out
              rw [show ((getG M es).map Value.bool).getD (.bool false) = .bool ((getG M es).getD false) by cases getG M es <;> rfl, HGO.out] at hl
              unfold keI at hl
              cases hg : goneB l b es
              · rw [hg] at hl
                have HS2 : Hid (keptTo l b (j + 1) = keptTo l b j ++ [⟨es, el, ed, ek, ea, er⟩]) := Lib.hid (by rw [HST.out, if_pos (by simp [keptB, hs, h5, hg])])
                have HO3 := Lib.hid (World.ownsRow.alloc HO2.out (.cells #[.int .i64 es, .string el, .int .i64 ed, .int .i64 ek, .int .i64 ea, .int .i64 er] 39))
                have hr3 := rowEv (wd.alloc (.cells #[.int .i64 es, .string el, .int .i64 ed, .int .i64 ek, .int .i64 ea, .int .i64 er] 39)) ⟨es, el, ed, ek, ea, er⟩
                rw [World.size_alloc] at hr3
                have HR3 := Lib.hid hr3
                clear hr3
                have HBJ3 := Lib.hid (HBJ2.out.alloc HBJ2.out.size (.cells #[.int .i64 es, .string el, .int .i64 ed, .int .i64 ek, .int .i64 ea, .int .i64 er] 39))
                have HBS := HBJ3.out.size
                have HL2 : ((keptTo l b j).length + 1) * 56 ≤ 140737488355328 := by omega
                clear HST HGO HO2 hg HMP4 HBJ2
                go_wp2_with (first
                  | (refine app_ev rfl _ _ rfl wb.heap.size _ (keptTo l b j) rfl HO3.out _ 1 1 [⟨es, el, ed, ek, ea, er⟩] rfl HR3.out HL2 HBS ?_))
                intro v' w' hown' hb'
                have HBJ4 := Lib.hid (HBJ3.out.trans hb')
                have HO4 := Lib.hid hown'
                clear hown' hb' HBS HL2 HO3 HR3 HBJ3
                go_wp2
                go_roundw
                case rel => exact ⟨j + 1, by omega, by go_num, Lib.hid (by rw [HS2.out, List.length_append]; exact HO4.out), HBJ4⟩
                case measure => simp [intOf]; omega
              · rw [hg] at hl
                have HS2 : Hid (keptTo l b (j + 1) = keptTo l b j) := Lib.hid (by rw [HST.out]; simp [keptB, hg])
                clear HST HGO hg
                go_wp2
                go_roundw
                case rel => exact ⟨j + 1, by omega, by go_num, Lib.hid (by rw [HS2.out]; exact HO2.out), HBJ2⟩
                case measure => simp [intOf]; omega
          · have HS2 : Hid (keptTo l b (j + 1) = keptTo l b j) := Lib.hid (by rw [HST.out]; simp [keptB, hs])
            clear HST HGO
            go_wp2
            go_roundw
            case rel => exact ⟨j + 1, by omega, by go_num, Lib.hid (by rw [HS2.out]; exact HO2.out), HBJ2⟩
            case measure => simp [intOf]; omega
        · obtain rfl : j = k := by omega
          have hk : keptTo l b j = keptOf l b := by unfold keptTo keptOf; rw [List.take_of_length_le (by have := HL.out; omega)]
          have hst : (stable (ltOf cfE) (keptTo l b j).toArray).toList = knownOf l b := by rw [ltOf_cfE, hk]; exact stable_known HR.out b
          have hsz' : (stable (ltOf cfE) (keptTo l b j).toArray).size = (keptTo l b j).length := by rw [← Array.length_toList, hst, hk]; exact (known_sorted HR.out b).2.length_eq
          have HST := Lib.hid hst
          have HSZ := Lib.hid hsz'
          have HKK := Lib.hid hk
          clear hst hsz' hk
          have HOO := HO.out
          obtain ⟨hl0, hcase⟩ := HOO
          rcases hcase with ⟨rfl, h0⟩ | ⟨g, cap, cur, rfl, hbg, hcell, hcap, hcm, hsz, htk⟩
          · have HKN : Hid (knownOf l b = []) := Lib.hid (by rw [← HST.out]; have := HSZ.out; rw [h0] at this; simpa using this)
            clear hl0 h0 HO
            go_wp2_with (first | (refine (HSN.out _).mono ?_; rintro e w' ⟨rfl, hw⟩; rw [hw]))
            go_ret
            exact ⟨none, 0, 0, rfl, by rw [HKN.out]; exact ⟨rfl, fun h => absurd h (by omega)⟩, Nat.le_refl _, HBW.out, fun a h => by cases h⟩
          · have HH := Lib.hid (holds_own HO.out)
            have hblk : g < wd.heap.size := (Array.getElem?_eq_some_iff.1 hcell).1
            have HS := Lib.hid (sortStable_any g 0 cap (keptTo l b j).length (keptTo l b j).toArray wd HH.out hblk (by omega) (by simp))
            have HBG := Lib.hid hbg
            have HBK := Lib.hid hblk
            have HCP := Lib.hid hcap
            clear hl0 hcell hsz htk HO hbg hblk hcap hcm
            go_wp2_with (first | (refine HS.out.mono ?_; rintro e w' ⟨rfl, n, os, rfl⟩))
            go_ret
            have hrd := rdE_holds (holdsK_sortWorldK encE 6 wd g 0 n _ _ os HBK.out HH.out (by simpa using HSZ.out))
            rw [HST.out, HSZ.out] at hrd
            have h1 := HB.out.size
            have h2 := HBG.out
            exact ⟨_, _, _, rfl, hrd, HCP.out, HBW.out.trans (sortE_below wd g 0 n _ os w.heap.size (by omega) HBW.out.size), fun a h => by
              injection h with h
              subst h
              exact Nat.le_trans h1 h2⟩
end Go.Proofs.YtcbopgopegphlaaGreat
