/-
  The walk of Sums. No statement is proved here.
-/
import Derived.Deep.RegionWith
import Derived.Deep.RegionLaw
import Derived.Deep.CutRange
import Derived.Test.YtpmbbhefcejjlaaLedK
namespace Go.Proofs.Ytpmbbhefcejjlaa
open Go.RowKit
set_option linter.unusedVariables false

def w64 (x : Int) : Int := IntKind.i64.wrap x
def addT (f : Int → Int) (x : Int × Int) : Int → Int := fun a => if a = x.1 then w64 (f a + x.2) else f a
def totF (ls : List (Int × Int)) : Int → Int := ls.foldl addT (fun _ => 0)
theorem totF_snoc (ls : List (Int × Int)) (x : Int × Int) : totF (ls ++ [x]) = addT (totF ls) x := by simp [totF]
def flatL (ps : List PV) : List (Int × Int) := ps.flatMap PV.lines
theorem flatL_snoc (ps : List PV) (p : PV) : flatL (ps ++ [p]) = flatL ps ++ p.lines := by simp [flatL]
def rowsT (f : Int → Int) (k : Nat) : List (Int × Int) := ((List.range k).map fun (i : Nat) => ((i : Int) + 1, f ((i : Int) + 1))).filter fun l => l.2 != 0
theorem rowsT_step (f : Int → Int) (k : Nat) : rowsT f (k + 1) = rowsT f k ++ (if f ((k : Int) + 1) != 0 then [((k : Int) + 1, f ((k : Int) + 1))] else []) := by
  unfold rowsT
  rw [List.range_succ, List.map_append, List.filter_append]
  by_cases h : f ((k : Int) + 1) = 0 <;> simp [h]
theorem rowsT_len (f : Int → Int) (k : Nat) : (rowsT f k).length ≤ k := Nat.le_trans (List.length_filter_le _ _) (by simp)
def sumsOf (ps : List PV) : List (Int × Int) := rowsT (totF (flatL ps)) 7
theorem val_step (l : List (Int × Int)) (f : Int → Int) (x : Int × Int) (h : ∀ a, valL l a = f a) (a : Int) : valL (setL (insL l x.1) x.1 (w64 (valL l x.1 + x.2))) a = addT f x a := by
  obtain ⟨j, hj⟩ := pos_ins l x.1
  rw [val_set _ _ _ _ ⟨_, hj⟩]
  unfold addT
  by_cases h1 : a = x.1
  · rw [if_pos h1, if_pos h1, h1, h]
  · rw [if_neg h1, if_neg h1, val_ins, h]
theorem MapTo.below {g B : Nat} {w a b : World} {l : List (Int × Int)} (h : MapTo g a b l) (hb : Below B w a) (hg : B ≤ g) : Below B w b :=
  ⟨h.os.trans hb.os, h.tape.trans hb.tape, h.output.trans hb.output, by rw [h.size]; exact hb.size, fun k hk => (h.block k (by omega)).trans (hb.block k hk)⟩
theorem map_empty (w : World) : (w.alloc (.map #[] 0)).heap[w.heap.size]? = some (.map (mapL [] 0).toArray 0) := heap_alloc_new _ _
theorem OwnL.empty2 (w : World) (base : Nat) : OwnL w base (.slice none 0 0) [] := World.ownsRow_nil w base _ 2
set_option maxRecDepth 100000 in
set_option maxHeartbeats 4000000 in
theorem Sums_any (A : Option Addr) (n c : Nat) (ps : List PV) (w : World) (h : RdP w A n ps) (hn : n ≤ 900000) (hlen : ∀ p ∈ ps, p.lines.length ≤ 4398046511104) :
    Calls Try.prog 29 #[.slice A n c] w fun e w' => ∃ v, e = .returned v ∧ OwnL w' w.heap.size v (sumsOf ps) ∧ Below w.heap.size w w' := by
  have HX := Lib.hid h
  have HL := Lib.hid hlen
  have HN : Hid (ps.length = n) := Lib.hid h.len
  have HM := make_map
  have HG := Lib.hid (map_empty w)
  have HB0 := Lib.hid ((Below.refl w.heap.size w).alloc (Nat.le_refl _) (.map #[] 0))
  clear h hlen
  obtain ⟨m, hm⟩ : ∃ m, m = w.heap.size := ⟨_, rfl⟩
  have HM0 : Hid (m = w.heap.size) := Lib.hid hm
  go_enter Try.func29, Try.ntmps29
  go_wp2_with fail
  rw [← hm]
  rw [← hm] at HG
  clear hm
  generalize w.alloc (.map #[] 0) = wz at *
  go_loopw [14] (fun t wr => ∃ (k : Nat) (l : List (Int × Int)), k ≤ n ∧ t = .int .i64 k ∧ Hid (∀ a, valL l a = totF (flatL (ps.take k)) a) ∧ Hid (wr.heap[m]? = some (.map (mapL l 0).toArray l.length)) ∧ Hid (Below w.heap.size w wr)) (fun t _ => n - (intOf t).toNat)
  case atStart => exact ⟨0, [], Nat.zero_le _, rfl, Lib.hid (fun a => rfl), HG, HB0⟩
  case round =>
    obtain ⟨k, l, hk, rfl, HV, HMP, HB⟩ := hrel
    obtain ⟨wa, rfl⟩ : ∃ x, x = wr := ⟨_, rfl⟩
    by_cases hlt : k < n
    · have hkl : k < ps.length := by rw [HN.out]; exact hlt
      obtain ⟨b0, off, rfl, hc⟩ := HX.out.ex (by omega)
      obtain ⟨Al, ml, cl, q0, q1, q2, q3, hrl, hml⟩ := hc k hkl
      have lift : ∀ q u, w.cell? ⟨b0, q, none⟩ = some u → wa.cell? ⟨b0, q, none⟩ = some u := fun q u hu =>
        (HB.out.cell (p := ⟨b0, q, none⟩) (World.block_lt_of_cell? w ⟨b0, q, none⟩ hu)).trans hu
      have p0 := lift _ _ q0
      have p1 := lift _ _ q1
      have p2 := lift _ _ q2
      have p3 := lift _ _ q3
      have hll := HL.out _ (List.getElem_mem hkl)
      have HS : Hid (flatL (ps.take (k + 1)) = flatL (ps.take k) ++ ps[k].lines) := Lib.hid (by rw [take_snoc' ps k hkl, flatL_snoc])
      have HML : Hid (ps[k].lines.length = ml) := Lib.hid hrl.len
      have hmlb : ml ≤ 4398046511104 := by have := HML.out; omega
      clear hc hll q0 q1 q2 q3 lift
      generalize ps[k] = p at *
      have HRL : Hid (∀ W, Below w.heap.size w W → RdL W Al ml p.lines) := Lib.hid fun W hW => hrl.below hW
      have HBA := Lib.hid (HB.out.alloc HB.out.size (.cells #[.int .i64 p.num, .int .i64 p.day, .string p.loan, .slice Al ml cl] 49))
      have HMA := Lib.hid (heap_alloc_old (p := .cells #[.int .i64 p.num, .int .i64 p.day, .string p.loan, .slice Al ml cl] 49) HMP.out)
      clear hrl HB HMP
      go_wp2
      generalize wa.alloc (.cells #[.int .i64 p.num, .int .i64 p.day, .string p.loan, .slice Al ml cl] 49) = wb at *
      clear p0 p1 p2 p3
      go_loopw [21] (fun t wr => ∃ (j : Nat) (l2 : List (Int × Int)), j ≤ ml ∧ t = .int .i64 j ∧ Hid (∀ a, valL l2 a = totF (flatL (ps.take k) ++ p.lines.take j) a) ∧ Hid (wr.heap[m]? = some (.map (mapL l2 0).toArray l2.length)) ∧ Hid (Below w.heap.size w wr)) (fun t _ => ml - (intOf t).toNat)
      case atStart => exact ⟨0, l, Nat.zero_le _, rfl, Lib.hid (fun a => by rw [List.take_zero, List.append_nil]; exact HV.out a), HMA, HBA⟩
      case round =>
        clear HV HMA HBA
        obtain ⟨j, l2, hj, rfl, HV, HMP, HB⟩ := hrel
        obtain ⟨wc, rfl⟩ : ∃ x, x = wr := ⟨_, rfl⟩
        by_cases hltj : j < ml
        · have hjl : j < p.lines.length := by rw [HML.out]; exact hltj
          obtain ⟨bl, ol, rfl⟩ := (HRL.out wc HB.out).addr (by omega)
          obtain ⟨c0, c1⟩ := (HRL.out wc HB.out).cells j hjl
          rw [← Nat.add_assoc] at c1
          have HV2 : Hid (∀ a, valL (setL (insL l2 p.lines[j].1) p.lines[j].1 (w64 (valL l2 p.lines[j].1 + p.lines[j].2))) a = totF (flatL (ps.take k) ++ p.lines.take (j + 1)) a) := Lib.hid fun a => by
            rw [take_snoc' p.lines j hjl, ← List.append_assoc, totF_snoc]
            exact val_step l2 _ _ HV.out a
          generalize p.lines[j] = x at *
          obtain ⟨ac, am⟩ := x
          dsimp only at *
          have HBL := Lib.hid (HB.out.alloc HB.out.size (.cells #[.int .i64 ac, .int .i64 am] 35))
          have HML2 := Lib.hid (heap_alloc_old (p := .cells #[.int .i64 ac, .int .i64 am] 35) HMP.out)
          have HL0 := Lib.hid (heap_alloc_new wc (.cells #[.int .i64 ac, .int .i64 am] 35))
          have HZC : Hid (wc.heap.size ≠ m) := Lib.hid fun e => by
            have := heap_lt' HMP.out
            omega
          have HM1 : Hid (w.heap.size ≤ m) := Lib.hid (by rw [HM0.out]; exact Nat.le_refl _)
          go_upto_region 8 with (fail)
          clear HMP HB HV c0 c1
          generalize wc.alloc (.cells #[.int .i64 ac, .int .i64 am] 35) = wl at *
          generalize wc.heap.size = g7 at *
          have d0 : wl.drew.cell? ⟨g7, 0, none⟩ = some (.int .i64 ac) := by rw [cell_of_row _ _ _ _ _ _ (show wl.drew.heap[g7]? = _ from HL0.out)]; rfl
          have d1 : wl.drew.cell? ⟨g7, 1, none⟩ = some (.int .i64 am) := by rw [cell_of_row _ _ _ _ _ _ (show wl.drew.heap[g7]? = _ from HL0.out)]; rfl
          obtain ⟨jj, w1, he, hpj, hm1⟩ := entry_col wl.drew m l2 ac HML2.out
          have hq1 : w1.heap[g7]? = _ := (hm1.block g7 HZC.out).trans HL0.out
          have e0 : w1.cell? ⟨g7, 0, none⟩ = some (.int .i64 ac) := by rw [cell_of_row _ _ _ _ _ _ hq1]; rfl
          have e1 : w1.cell? ⟨g7, 1, none⟩ = some (.int .i64 am) := by rw [cell_of_row _ _ _ _ _ _ hq1]; rfl
          have hl0 := look_col wl.drew m l2 _ ac HML2.out
          have hl1 := look_col w1 m (insL l2 ac) _ ac hm1.here
          rw [val_ins] at hl1
          obtain ⟨w2, hs, hm2⟩ := store_col w1 m (insL l2 ac) ac (w64 (valL l2 ac + am)) jj _ hm1.here hpj
          have HB2 : Hid (Below w.heap.size w w2) := Lib.hid (hm2.below (hm1.below HBL.out.drew HM1.out) HM1.out)
          have HH2 := Lib.hid hm2.here
          clear hm1 hm2 hpj hq1 HL0 HBL HML2 HZC HM1
          unfold w64 at *
          generalize valL l2 ac = V at *
          generalize hz : IntKind.i64.wrap (V + am) = z at *
          go_region
          all_goals
            go_wp2
            go_roundw
            case rel => exact ⟨j + 1, setL (insL l2 ac) ac z, by omega, by go_num, HV2, HH2, HB2⟩
            case measure => simp [intOf]; omega
        · clear hj
          have hta : p.lines.take j = p.lines := List.take_of_length_le (by rw [HML.out]; omega)
          have HV3 : Hid (∀ a, valL l2 a = totF (flatL (ps.take (k + 1))) a) := Lib.hid fun a => by rw [HV.out a, hta, HS.out]
          clear HV hta
          go_wp2
          go_roundw
          case rel => exact ⟨k + 1, l2, by omega, by go_num, HV3, HMP, HB⟩
          case measure => simp [intOf]; omega
    · have htk : ps.take k = ps := List.take_of_length_le (by rw [HN.out]; omega)
      rw [htk] at HV
      have HK := Lib.hid (fun W (h : W.heap[m]? = some (.map (mapL l 0).toArray l.length)) a => look_col W m l _ a h)
      have HF : Hid (∀ a, valL l a = totF (flatL ps) a) := HV
      obtain ⟨F, hF⟩ : ∃ F, F = totF (flatL ps) := ⟨_, rfl⟩
      have HSO : Hid (sumsOf ps = rowsT F 7) := Lib.hid (by rw [hF]; rfl)
      rw [← hF] at HF
      have HRS := Lib.hid (rowsT_step F)
      have HB1 := HB
      have HM1 := HMP
      clear hF htk HV hk HB HMP
      go_wp2_with fail
      go_loopw [8, 9] (fun v i wr => ∃ r : Nat, r ≤ 7 ∧ i = .int .i64 ((r : Int) + 1) ∧ Hid (OwnL wr w.heap.size v (rowsT F r)) ∧ Hid (wr.heap[m]? = some (.map (mapL l 0).toArray l.length)) ∧ Hid (Below w.heap.size w wr)) (fun _ i _ => 8 - (intOf i).toNat)
      case atStart => exact ⟨0, by omega, rfl, Lib.hid (OwnL.empty2 _ _), HM1, HB1⟩
      case round =>
        clear HM1 HB1
        obtain ⟨r, hr, rfl, HO, HMP, HB⟩ := hrel
        obtain ⟨wc, rfl⟩ : ∃ x, x = wr := ⟨_, rfl⟩
        by_cases hlt7 : r < 7
        · have hE := HK.out wc HMP.out ((r : Int) + 1)
          rw [HF.out] at hE
          have HS7 := Lib.hid (HRS.out r)
          have HRL7 := Lib.hid (rowsT_len F r)
          have hle : ((r : Int) + 1) ≤ 7 := by omega
          generalize hfz : F ((r : Int) + 1) = z at *
          clear hfz
          obtain ⟨Av0, mv0, cv0, rfl, HMV, _, _, _, _⟩ := HO.out.form
          by_cases h0 : z = 0
          · subst h0
            have HS8 : Hid (rowsT F (r + 1) = rowsT F r) := Lib.hid (by rw [HS7.out]; simp)
            clear HS7
            go_wp2
            go_roundw
            case rel => exact ⟨r + 1, by omega, by go_num, by rw [HS8.out]; exact HO, HMP, HB⟩
            case measure => (try simp [intOf]) <;> (try omega)
          · have hb0 : (z != 0) = true := by rw [bne_iff_ne]; exact h0
            have HS8 : Hid (rowsT F (r + 1) = rowsT F r ++ [((r : Int) + 1, z)]) := Lib.hid (by rw [HS7.out, if_pos hb0])
            clear HS7
            go_wp2_with (at_builtin; refine app_line rfl _ _ rfl w.heap.size _ (rowsT F r) rfl (HO.out.alloc _) _ 1 1 [((r : Int) + 1, z)] rfl (RdL.lit wc _ _ rfl 1 rfl _) ?c1 ?c2 ?_)
            case c1 => have := HRL7.out; omega
            case c2 => have := HB.out.size; simp; omega
            intro v6 w6 hv6 hb6 hg6
            have hm6 : w6.heap[m]? = some (.map (mapL l 0).toArray l.length) := by
              have h1 := heap_alloc_old (p := .cells #[.int .i64 ((r : Int) + 1), .int .i64 z] 35) HMP.out
              refine (hg6.block m (heap_lt' h1) fun e => ?_).trans h1
              obtain ⟨_, _, cs, h2⟩ := row_block HO.out e.symm
              rw [HMP.out] at h2
              cases h2
            have HO6 : Hid (OwnL w6 w.heap.size v6 (rowsT F (r + 1))) := Lib.hid (by rw [HS8.out]; exact hv6)
            have HM6 := Lib.hid hm6
            have HB6 := Lib.hid ((HB.out.alloc HB.out.size _).trans hb6)
            clear hv6 hb6 hg6 hm6
            go_wp2
            go_roundw
            case rel => exact ⟨r + 1, by omega, by go_num, HO6, HM6, HB6⟩
            case measure => (try simp [intOf]) <;> (try omega)
        · obtain rfl : r = 7 := by omega
          go_wp2
          go_ret
          exact ⟨_, rfl, by rw [HSO.out]; exact HO.out, HB.out⟩
end Go.Proofs.Ytpmbbhefcejjlaa
