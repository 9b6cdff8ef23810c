/-
  The engine's AsOf. No statement is proved here.
-/
import Derived.Test.YtcbopgopegphlaaGreatEnQ
import Derived.Test.YtcbopgopegphlaaGreatEnL
namespace Go.Proofs.YtcbopgopegphlaaGreat
open Go.RowKit
set_option linter.unusedVariables false
theorem elemSizeE (W : World) : (sizeOf (Tryz.prog.elem 35)).run Tryz.prog W = .ok 6 W := by kernel_rfl
theorem elemUndE : Tryz.prog.underlying 35 = some (.slice (Tryz.prog.elem 35)) := by kernel_rfl
theorem RdE.cut {w : World} {A : Option Addr} {n : Nat} {l : List Ev} (h : RdE w A n l) {i j c : Nat} (hij : i ≤ j) (hj : j ≤ n) (hc : n ≤ c) :
    RdE w (if c = i then A else A.map (·.add (i * 6))) (j - i) ((l.drop i).take (j - i)) := by
  have hlen := h.1
  refine ⟨by rw [List.length_take, List.length_drop]; omega, fun hn => ?_⟩
  obtain ⟨b, off, rfl, hcell⟩ := h.2 (by omega)
  rw [if_neg (by omega)]
  refine ⟨b, off + i * 6, by simp [add_plain], fun k hk q u hu => ?_⟩
  simp only [List.getElem_take, List.getElem_drop] at hu
  rw [List.length_take, List.length_drop] at hk
  have := hcell (i + k) (by omega) q u hu
  rw [show off + i * 6 + k * 6 + q = off + (i + k) * 6 + q by omega]
  exact this
theorem cutE (A : Option Addr) (n c : Nat) (hc : n ≤ c) (i j : Nat) (hij : i ≤ j) (hj : j ≤ n) :
    ∃ A', (∀ W, (Instr.slice 35 (.slice A n c) (some (.int .i64 (i : Int))) (some (.int .i64 (j : Int))) none).run Tryz.prog W = .ok (.slice A' (j - i) (c - i)) W) ∧ ∀ W l, RdE W A n l → RdE W A' (j - i) ((l.drop i).take (j - i)) := by
  refine ⟨_, fun W => ?_, fun W l h => h.cut hij hj hc⟩
  rw [run_slice_lh W 35 A n c elemUndE .i64 .i64 _ _ (by omega) (by omega) (by omega), elemSizeE]
  simp [Result.andThen, sliced]
theorem rdE_lt {w : World} {A : Option Addr} {n : Nat} {l : List Ev} (h : RdE w A n l) (hn : 0 < n) : ∀ ad, A = some ad → ad.block < w.heap.size := fun ad e => by
  have hl := h.1
  obtain ⟨b, off, rfl, hc⟩ := h.2 hn
  injection e with e
  subst e
  exact World.block_lt_of_cell? w _ (hc 0 (by omega) 0 _ rfl)
theorem rdE_keep {w w' : World} {A : Option Addr} {n : Nat} {l : List Ev} (h : RdE w A n l) (hk : 0 < n → ∀ ad, A = some ad → w'.heap[ad.block]? = w.heap[ad.block]?) : RdE w' A n l :=
  ⟨h.1, fun hn => by
    obtain ⟨b, off, e, hc⟩ := h.2 hn
    exact ⟨b, off, e, fun j hj q u hu => by
      have := hk hn _ e
      have h2 := hc j hj q u hu
      unfold World.cell? at *
      simpa [this] using h2⟩⟩
/-- The blocks of an engine. -/
def EBlk (ge gm : Nat) (v : Value) (A : Option Addr) (n k : Nat) : Prop := k = ge ∨ k = gm ∨ v.ownBlock = some k ∨ 0 < n ∧ ∃ ad, A = some ad ∧ ad.block = k
section
variable {w w' : World} {ge gm n c : Nat} {p : Prod} {A : Option Addr} {v : Value} {l : List Ev} {M : List ((Int × Int) × Ln)}
theorem EngAt.lt (h : EngAt w ge gm p A n c v l M) {k : Nat} (hk : EBlk ge gm v A n k) : k < w.heap.size := by
  rcases hk with rfl | rfl | hk | ⟨hn, ad, e, rfl⟩
  · exact (Array.getElem?_eq_some_iff.1 h.cells).1
  · exact (Array.getElem?_eq_some_iff.1 h.map).1
  · exact (ownE_block h.row hk).1
  · exact rdI_lt h.bnds hn ad e
theorem EngAt.on (h : EngAt w ge gm p A n c v l M) (hk : ∀ k, EBlk ge gm v A n k → w'.heap[k]? = w.heap[k]?) : EngAt w' ge gm p A n c v l M where
  cells := (hk _ (.inl rfl)).trans h.cells
  map := (hk _ (.inr (.inl rfl))).trans h.map
  row := ownE_keep h.row fun g hg => hk g (.inr (.inr (.inl hg)))
  bnds := rdI_keep h.bnds fun hn ad e => hk _ (.inr (.inr (.inr ⟨hn, ad, e, rfl⟩)))
  far := h.far
end
/-- What AsOf answers and leaves. -/
def AsOfSays (w : World) (ge gm : Nat) (p : Prod) (A : Option Addr) (n c : Nat) (v : Value) (l : List Ev) (r : St × Int) (x : Ending) (w' : World) : Prop :=
  x = .returned (.tuple #[r.1.val, .int .i64 r.2]) ∧ KeptBut gm w w' ∧ ∃ M', EngAt w' ge gm p A n c v l M' ∧ PtsOk p l M' ∧ PtsIn l.length M'
/-- A box for a loan. -/
structure LnBox (g : Nat) (cs : Array Value) (W : World) : Prop where
  row : W.heap[g]? = some (.cells cs 69 (0, 0))
  info : (Tryz.prog.info? 69).map (·.size) = some cs.size
/-- What a look at a place finds. -/
theorem look_at {w : World} {gm : Nat} {p : Prod} {A : Option Addr} {n c : Nat} {M : List ((Int × Int) × Ln)} (hm : w.heap[gm]? = some (.map (mapG keP (veL p (.slice A n c)) M 0).toArray M.length)) (q m : Nat) :
    ∃ cs f, (Instr.lookup 58 (.map (some gm)) (.agg #[.int .i64 (q : Int), .int .i64 (m : Int)]) true).run Tryz.prog w = .ok (.tuple #[.agg cs, .bool f]) w ∧
      (Tryz.prog.info? 69).map (·.size) = some cs.size ∧ cs.all (·.oneCell') = true ∧ cs.size = 24 ∧ (f = true → ∃ L, cs = lnCells p (.slice A n c) L ∧ getG M ((q : Int), (m : Int)) = some L) := by
  have h := look_place hm q m
  cases hg : getG M ((q : Int), (m : Int)) with
  | none =>
    rw [hg] at h
    exact ⟨lnZero, false, h, info_lz, by decide +kernel, rfl, fun h => by cases h⟩
  | some L =>
    rw [hg] at h
    exact ⟨_, true, h, info_ln _ _ _, by simp [lnCells, Value.oneCell'], rfl, fun _ => ⟨L, rfl, rfl⟩⟩
set_option maxRecDepth 100000 in
set_option maxHeartbeats 4000000 in
theorem AsOf_any (ge gm : Nat) (p : Prod) (A : Option Addr) (n c : Nat) (v : Value) (l : List Ev) (M : List ((Int × Int) × Ln)) (d b : Int) (w : World) (h : EngAt w ge gm p A n c v l M) (hE : EvsIn p l) (hP : PtsOk p l M) (hI : PtsIn l.length M) :
    Calls Tryz.prog 13 #[.pointer (some ⟨ge, 0, none⟩), .int .i64 d, .int .i64 b] w (AsOfSays w ge gm p A n c v l (replayAns p (knownOf l b) d)) := by
  have HEN := Lib.hid h
  have HEV := Lib.hid hE
  have HPT := Lib.hid hP
  have HPI := Lib.hid hI
  generalize hans : replayAns p (knownOf l b) d = ans
  have HANS := Lib.hid hans
  have hLT : Hid (∀ k, EBlk ge gm v A n k → k < w.heap.size) := Lib.hid fun k hk => h.lt hk
  obtain ⟨P, hPd⟩ : ∃ P, P = AsOfSays w ge gm p A n c v l ans := ⟨_, rfl⟩
  have FIN : Hid (∀ (s : St) (e : Int) (W : World) (M' : List ((Int × Int) × Ln)) (cs : Array Value), ans = (s, e) → KeptBut gm w W → EngAt W ge gm p A n c v l M' → PtsOk p l M' → PtsIn l.length M' → P (.returned (.tuple #[.agg (stCells s), .int .i64 e])) (W.setRow w.heap.size cs)) := Lib.hid fun s e W M' cs ha hk hen hpt hpi => by
    rw [hPd]
    refine ⟨by rw [ha]; rfl, ⟨hk.os, hk.tape, hk.output, by rw [setRow_size]; exact hk.size, fun k h1 h2 => by rw [setRow_other _ _ _ _ (by omega)]; exact hk.block k h1 h2⟩, M', hen.on fun k hk => setRow_other _ _ _ _ (by have := hLT.out k hk; omega), hpt, hpi⟩
  have hge : ge < w.heap.size := h.lt (.inl rfl)
  have hgm : gm < w.heap.size := h.lt (.inr (.inl rfl))
  rw [← hPd]
  clear hPd hans h hE hP hI
  obtain ⟨w1, hw1⟩ : ∃ w1, w1 = w.alloc (.cells #[.int .i64 0, .int .i64 0, .int .i64 0, .int .i64 0, .int .i64 0, .int .i64 0, .int .i64 0, .int .i64 0, .int .i64 0, .int .i64 0, .int .i64 0, .int .i64 0] 45) := ⟨_, rfl⟩
  have hb1 : Below w.heap.size w w1 := by rw [hw1]; exact (Below.refl _ _).alloc (Nat.le_refl _) _
  have hT1 : w1.heap[w.heap.size]? = some (.cells (stCells St.zero) 45 (0, 0)) := by rw [hw1]; exact heap_alloc_new _ _
  have hz1 : w1.heap.size = w.heap.size + 1 := by rw [hw1]; simp
  have HE1 := Lib.hid (HEN.out.below hb1)
  go_enter Tryz.func13, Tryz.ntmps13
  go_upto_region 1 with (fail)
  rw [← hw1]
  clear hw1
  by_cases hv : -719162 ≤ d ∧ d ≤ 2932896
  case neg =>
    have ha := FIN.out St.zero 6 w1 M (stCells St.zero) (by rw [← HANS.out]; exact replay_date HEV.out.prod hv) (KeptBut.of_below hb1) HE1.out HPT.out HPI.out
    rcases (show d < -719162 ∨ -719162 ≤ d ∧ 2932896 < d by omega) with hv2 | ⟨hv2, hv3⟩
    all_goals
      clear hv
      go_wp2_with (first
        | (refine wpList_buildTo rfl 45 _ rfl _ rfl _ built_z ?_)
        | (refine wpList_store_rowTo rfl 45 _ _ rfl rfl _ _ rfl rfl _ _ hT1 (info_st St.zero) rfl (st_one _) ?_))
      exact bodyPost_ret (results_cell2E (fn := Tryz.f13) rfl _ _ w.heap.size 45 (stCells St.zero) (0, 0) _ rfl (setRow_heap _ _ _ _ _ _ hT1) Tryz.underlying45 rfl (info_st St.zero)) rfl ha
  obtain ⟨v0, v1⟩ := hv
  obtain ⟨E, m, rfl, hRd⟩ := own_rdE HEN.out.row
  obtain ⟨k, hk⟩ : ∃ k, k = l.length := ⟨_, rfl⟩
  have HK := Lib.hid hk
  have hRd1 : RdE w1 E k l := by rw [hk]; exact hRd.below hb1
  have hk4 : k ≤ 4096 := by rw [hk]; exact HEV.out.len
  have c9 : w1.cell? ⟨ge, 9, none⟩ = some (.slice E k m) := by rw [cell_of_row _ _ _ _ _ _ HE1.out.cells, hk]; rfl
  have HBK := Lib.hid (booked_any E k m b l w1 hRd1 (by omega) HEV.out.rise)
  have HKN := Lib.hid fun W hW => Known_any E k m l b W hW (by omega) HEV.out.rise
  have hqk := cntP_le (upB b) l
  have hkq := known_kn HEV.out.rise HEV.out.ok b
  have hans2 := asof_ans HEV.out (b := b) ⟨v0, v1⟩
  have hkok := known_ok HEV.out.rise HEV.out.ok b
  have hksort := (known_sorted HEV.out.rise b).1
  have hklen := known_len l b HEV.out.rise
  generalize cntP (upB b) l = q at *
  generalize knownOf l b = Kn at *
  have HKK := Lib.hid hkq
  have hql : q ≤ l.length := hqk
  have HAN2 := Lib.hid (HANS.out.symm.trans hans2)
  have HOK := Lib.hid hkok
  have HSO := Lib.hid hksort
  clear HANS hkq hans2 hkok hksort hqk hk hRd
  rw [← HK.out] at hql hklen
  go_upto_region 7 with (first | (go_at_call 25; refine HBK.out.mono ?_; rintro x w2 ⟨rfl, hb2⟩))
  have hb02 := hb1.trans (hb2.mono hb1.size)
  have hT2 := (hb2.block w.heap.size (by omega)).trans hT1
  have HE2 := Lib.hid (HE1.out.below hb2)
  have hRd2 := hRd1.below hb2
  have c9 : w2.cell? ⟨ge, 9, none⟩ = some (.slice E k m) := by rw [cell_of_row _ _ _ _ _ _ HE2.out.cells, HK.out]; rfl
  have hz2 := hb2.size
  clear HBK hb1 hT1 HE1 hRd1
  go_upto_region 8 with (first | (go_at_call 27; refine (HKN.out _ hRd2).mono ?_; rintro x w3 ⟨E', kn, c', rfl, hrd3, hkc, hb3, _⟩))
  have hb03 := hb02.trans (hb3.mono hb02.size)
  have hT3 := (hb3.block w.heap.size (by omega)).trans hT2
  have HE3 := Lib.hid (HE2.out.below hb3)
  have hz3 := hb3.size
  have hknl := hrd3.1
  have hkn4 : kn ≤ 4096 := by omega
  have HUP := Lib.hid (upto_any E' kn c' d Kn w3 hrd3 (by omega) HSO.out)
  have hmk := cntP_le (upD d) Kn
  generalize cntP (upD d) Kn = mny at *
  have hmk' : mny ≤ kn := by omega
  clear HKN hT2 HE2 hRd2 hb02 hb2 c9 hmk HSO
  go_upto_region 9 with (first | (go_at_call 25; refine HUP.out.mono ?_; rintro x w4 ⟨rfl, hb4⟩))
  have hb04 := hb03.trans (hb4.mono hb03.size)
  have hT4 := (hb4.block w.heap.size (by omega)).trans hT3
  have HE4 := Lib.hid (HE3.out.below hb4)
  have HRK4 := Lib.hid (hrd3.below hb4)
  have hz4 := hb4.size
  have c10 : w4.cell? ⟨ge, 10, none⟩ = some (.map (some gm)) := by rw [cell_of_row _ _ _ _ _ _ HE4.out.cells]; rfl
  obtain ⟨cs0, f0, hlk0, hi0, ho0, hz0, hL0⟩ := look_at HE4.out.map q mny
  have HL0 := Lib.hid hL0
  have hz61 : ((Tryz.prog.info? 69).bind (·.zero)).map (·.cells.size) = some cs0.size := by rw [hz0]; kernel_rfl
  clear HUP hT3 HE3 hrd3 hb03 hb3 hb4 hL0 hz0
  go_upto_block 0 with (first | (refine alloc_store rfl rfl 69 _ _ rfl rfl rfl rfl cs0 rfl rfl hz61 hi0 ho0 ?_))
  obtain ⟨g14, hg14⟩ : ∃ g14, g14 = w4.heap.size := ⟨_, rfl⟩
  rw [← hg14]
  have hgg : w.heap.size < g14 := by omega
  refine wp_at (fun wx => wx.heap[g14]? = some (.cells cs0 69 (0, 0)) ∧ Below w4.heap.size w4 wx) (by rw [hg14]; exact ⟨heap_alloc_new _ _, (Below.refl _ _).alloc (Nat.le_refl _) _⟩) ?_
  rintro w5 ⟨hr5, hb5⟩
  have HR5 := Lib.hid hr5
  have hb05 := hb04.trans (hb5.mono hb04.size)
  have HE5 := Lib.hid (HE4.out.below hb5)
  have HRK5 := Lib.hid (HRK4.out.below hb5)
  have hT5 := (hb5.block w.heap.size (by omega)).trans hT4
  have hz5 := hb5.size
  have hgms : gm < g14 := by omega
  have hges : ge < g14 := by omega
  have hl5 : g14 < w5.heap.size := (Array.getElem?_eq_some_iff.1 hr5).1
  have h45 := Lib.hid hg14
  have HLK : Hid (∀ W, KeptBut g14 w5 W → RdE W E' kn Kn) := Lib.hid fun W hW => rdE_keep HRK5.out fun hn ad e => hW.block _ (rdE_lt HRK5.out hn ad e) (by have := rdE_lt HRK4.out hn ad e; omega)
  clear hr5 hb5 hT4 HE4 HRK4 hb04 c10 hlk0 hz61 ho0 hg14
  go_cut [13, 15] from 63 to 81 (fun t f wx => ∃ (i : Nat) (fb : Bool) (cs : Array Value), i ≤ mny ∧ t = .int .i64 (i : Int) ∧ f = .bool fb ∧ (fb = false → i = 0) ∧ Hid (fb = true → ∃ L, cs = lnCells p (.slice A n c) L ∧ getG M ((q : Int), (i : Int)) = some L) ∧ Hid (LnBox g14 cs wx) ∧ Hid (KeptBut g14 w5 wx))
  case first =>
    go_wp2
    go_loopw [13, 15] (fun t f wr => ∃ (i : Nat) (fb : Bool) (cs : Array Value), i ≤ mny ∧ t = .int .i64 (i : Int) ∧ f = .bool fb ∧ Hid (fb = true → ∃ L, cs = lnCells p (.slice A n c) L ∧ getG M ((q : Int), (i : Int)) = some L) ∧ Hid (LnBox g14 cs wr) ∧ Hid (KeptBut g14 w5 wr)) (fun t _ _ => (intOf t).toNat)
    case atStart => exact ⟨mny, f0, cs0, Nat.le_refl _, rfl, rfl, HL0, Lib.hid ⟨HR5.out, hi0⟩, Lib.hid (KeptBut.refl _ _)⟩
    case round =>
      obtain ⟨i, fb, cs, him, rfl, rfl, HL, HBX, HKB⟩ := hrel
      obtain ⟨wz, rfl⟩ : ∃ x, x = wr := ⟨_, rfl⟩
      cases fb
      · rcases Nat.eq_zero_or_pos i with hi0 | hi0
        · subst hi0
          go_wp2
          go_meet
          exact ⟨0, false, cs, by omega, rfl, rfl, fun _ => rfl, HL, HBX, HKB⟩
        · obtain ⟨i', hi'⟩ : ∃ i' : Nat, i = i' + 1 := ⟨i - 1, by omega⟩
          subst hi'
          have hpos : (0 : Int) < ((i' + 1 : Nat) : Int) := by omega
          have hsub : IntKind.i64.wrap (((i' + 1 : Nat) : Int) - 1) = (i' : Int) := by rw [IntKind.wrap_i64]; omega
          have HE6 := Lib.hid (HE5.out.on (w' := wz) fun k hk => HKB.out.block k (HE5.out.lt hk) (by have := HE5.out.lt hk; have := hLT.out k hk; omega))
          have c10 : wz.cell? ⟨ge, 10, none⟩ = some (.map (some gm)) := by rw [cell_of_row _ _ _ _ _ _ HE6.out.cells]; rfl
          obtain ⟨cs1, f1, hlk1, hi1, ho1, hz1', hL1⟩ := look_at HE6.out.map q i'
          have HL1 := Lib.hid hL1
          have hrow := HBX.out.row
          have hss : cs.size = cs1.size := Option.some.inj (HBX.out.info.symm.trans hi1)
          clear hL1 HL HE6 hz1'
          go_wp2_with (first
            | (refine wpList_store_rowTo rfl 69 _ _ rfl rfl _ _ rfl rfl _ _ hrow hi1 hss ho1 ?_))
          go_roundw
          case rel => exact ⟨i', f1, cs1, by omega, by go_num, rfl, HL1, Lib.hid ⟨setRow_heap _ _ _ _ _ _ hrow, hi1⟩, Lib.hid (HKB.out.setRow cs1)⟩
          case measure => simp [intOf]
      · go_wp2
        go_meet
        exact ⟨i, true, cs, him, rfl, rfl, (fun h => by cases h), Lib.hid fun _ => by first | exact HL.out rfl | exact HL.out trivial, HBX, HKB⟩
  case rest =>
    obtain ⟨i, fb, cs, him, rfl, rfl, hfi, HL, HBX, HKB⟩ := hcut
    obtain ⟨w6, rfl⟩ : ∃ x, x = wc := ⟨_, rfl⟩
    have hb06 := hb05.trans (HKB.out.below (B := w.heap.size) (by omega) (by omega))
    have HE6 := Lib.hid (HE5.out.on (w' := w6) fun k hk => HKB.out.block k (HE5.out.lt hk) (by have := HE5.out.lt hk; have := hLT.out k hk; omega))
    go_upto_if 83 with (fail)
    go_cut [83] from 84 to 88 (fun _ wx => ∃ L, Hid (EvRow g14 p (.slice A n c) L wx) ∧ Hid (L.Fine) ∧ Hid (evAll p (Ln.start p) (Kn.take i) = some L) ∧ Hid (KeptBut g14 w5 wx))
    case first =>
      cases fb
      · obtain rfl := hfi rfl
        have hm9 : w6.rangeAt ge 0 (pCells p (.slice A n c)).toList := fun j u hu => by
          rw [cell_of_row _ _ _ _ _ _ HE6.out.cells]
          have hj : j < 9 := by
            have := (List.getElem?_eq_some_iff.1 hu).1
            simpa [pCells] using this
          rw [← hu]
          rcases j with _ | _ | _ | _ | _ | _ | _ | _ | _ | j <;> first | rfl | omega
        have hi9 : (Tryz.prog.info? 25).map (·.size) = some (pCells p (.slice A n c)).toList.length := by
          rw [show (pCells p (.slice A n c)).toList.length = 9 from rfl]; kernel_rfl
        have HBG := Lib.hid fun W => Begin_any p (.slice A n c) rfl W
        have hiL : (Tryz.prog.info? 69).map (·.size) = some (lnCells p (.slice A n c) (Ln.start p)).size := info_ln _ _ _
        have hoL : (lnCells p (.slice A n c) (Ln.start p)).all (·.oneCell') = true := by simp [lnCells, Value.oneCell']
        have hrow := HBX.out.row
        have hss : cs.size = (lnCells p (.slice A n c) (Ln.start p)).size := Option.some.inj (HBX.out.info.symm.trans hiL)
        unfold Prod.val at HBG
        generalize hLC : lnCells p (.slice A n c) (Ln.start p) = LC at *
        have HLC := Lib.hid hLC
        generalize hPC : pCells p (.slice A n c) = PC at *
        clear HL hLC hPC
        go_wp2_with (first
          | (refine wpList_load_mid rfl 25 _ rfl ge 0 rfl PC.toList _ hm9 Tryz.underlying25 rfl hi9 ?_)
          | (go_at_call 29; refine (HBG.out _).mono ?_; rintro x wb ⟨rfl, hbb⟩; have hrowb := (hbb.block g14 (Array.getElem?_eq_some_iff.1 hrow).1).trans hrow)
          | (refine wpList_store_rowTo rfl 69 _ _ rfl rfl _ _ rfl rfl _ _ hrowb hiL hss hoL ?_))
        go_meet
        refine ⟨Ln.start p, Lib.hid ?_, Lib.hid (start_fine HEV.out.prod), Lib.hid rfl, Lib.hid ((HKB.out.trans (KeptBut.of_below hbb)).setRow _)⟩
        · unfold EvRow
          rw [HLC.out]
          exact setRow_heap _ _ _ _ _ _ hrowb
      · obtain ⟨L, hcs, hget⟩ := HL.out rfl
        have hall := HPT.out q i L (by rw [← HK.out]; exact hql) hget
        rw [← HKK.out] at hall
        have HALL := Lib.hid hall
        have HFN := Lib.hid (evAll_fine HEV.out.prod (Kn.take i) (start_fine HEV.out.prod) (fun e he => evsOk_all HOK.out e (List.mem_of_mem_take he)) hall)
        have HCS := Lib.hid hcs
        clear hall hget hcs
        go_wp2
        go_meet
        exact ⟨L, Lib.hid (by unfold EvRow; rw [← HCS.out]; exact HBX.out.row), HFN, HALL, HKB⟩
    case rest =>
      obtain ⟨L0, HR7, HF7, HA7, HK7⟩ := hcut
      obtain ⟨w7, rfl⟩ : ∃ x, x = wc := ⟨_, rfl⟩
      obtain ⟨A7, HSL, hcut7⟩ := cutE E' kn c' hkc i mny him hmk'
      have HC7 := Lib.hid hcut7
      obtain ⟨r, hr⟩ : ∃ r, mny - i = r := ⟨_, rfl⟩
      have hir : i + r = mny := by omega
      rw [hr] at HSL HC7
      have HEK : Hid (∀ W, KeptBut g14 w5 W → EngAt W ge gm p A n c (.slice E l.length m) l M ∧ KeptBut gm w W ∧ W.heap[w.heap.size]? = some (.cells (stCells St.zero) 45 (0, 0)) ∧ w.heap.size < W.heap.size) := Lib.hid fun W hW =>
        ⟨HE5.out.on fun k hk => hW.block k (HE5.out.lt hk) (by have := hLT.out k hk; omega), KeptBut.of_below (hb05.trans (hW.below (B := w.heap.size) (by omega) (by omega))), (hW.block _ (by omega) (by omega)).trans hT5, by have := hW.size; omega⟩
      clear hr hcut7 HL HBX HKB HE6 hb06
      go_wp2
      go_loopw [94] (fun t wq => ∃ (j : Nat) (L : Ln), j ≤ r ∧ t = .int .i64 (j : Int) ∧ Hid (L.Fine) ∧ Hid (evAll p (Ln.start p) (Kn.take (i + j)) = some L) ∧ Hid (EvRow g14 p (.slice A n c) L wq) ∧ Hid (KeptBut g14 w5 wq)) (fun t _ => r - (intOf t).toNat)
      case atStart => exact ⟨0, L0, Nat.zero_le _, rfl, HF7, HA7, HR7, HK7⟩
      case round =>
        obtain ⟨j, L, hj, rfl, HF8, HA8, HR8, HK8⟩ := hrel
        obtain ⟨w8, rfl⟩ : ∃ x, x = wr := ⟨_, rfl⟩
        by_cases hlt : j < r
        · have hrd8 := HC7.out w8 Kn (HLK.out w8 HK8.out)
          obtain ⟨b0, off, rfl, hcs⟩ := hrd8.2 (by omega)
          have hjl : j < ((Kn.drop i).take r).length := by rw [hrd8.1]; exact hlt
          have hkl : i + j < Kn.length := by omega
          have hrow := hcs j hjl
          simp only [List.getElem_take, List.getElem_drop] at hrow
          obtain ⟨he, h5⟩ := evsOk_all HOK.out _ (List.getElem_mem hkl)
          have HST := Lib.hid (take_step hkl HA8.out)
          generalize Kn[i + j] = e at *
          clear hrd8 hcs hjl
          have hmid : w8.rangeAt b0 (off + j * 6) (evCells e).toList := fun q u hu => hrow q u (by simpa using hu)
          have hi6 : (Tryz.prog.info? 39).map (·.size) = some (evCells e).toList.length := by rw [show (evCells e).toList.length = 6 from rfl]; kernel_rfl
          go_upto_region 19 with (first
            | (refine wpList_load_mid rfl 39 _ rfl b0 (off + j * 6) rfl (evCells e).toList _ hmid Tryz.underlying39 rfl hi6 ?_)
            | (refine wpList_store_rowTo rfl 39 _ _ rfl rfl _ _ rfl rfl _ _ (heap_alloc_new _ _) (info_ev e) rfl (ev_one e) ?_))
          refine wp_at (fun wx => wx.heap[w8.heap.size]? = some (.cells (evCells e) 39 (0, 0)) ∧ Below w8.heap.size w8 wx) (by first | (rw [World.setRow_alloc_new]; exact ⟨heap_alloc_new _ _, (Below.refl _ _).alloc (Nat.le_refl _) _⟩) | exact ⟨heap_alloc_new _ _, (Below.refl _ _).alloc (Nat.le_refl _) _⟩) ?_
          rintro w9 ⟨hev9, hb9⟩
          have hr9 : EvRow g14 p (.slice A n c) L w9 := (hb9.block _ (Array.getElem?_eq_some_iff.1 HR8.out).1).trans HR8.out
          have HK9 := Lib.hid (HK8.out.trans (KeptBut.of_below hb9))
          have HEVT := Lib.hid (Event_any g14 p (.slice A n c) L e w9 HEV.out.prod HF8.out he h5 hr9)
          have HE9 := Lib.hid hev9
          clear hmid hi6 hrow hb9 hev9 HR8 HK8
          go_wp2_with (first
            | (refine wpList_load_row rfl 39 _ rfl _ rfl _ _ _ _ HE9.out Tryz.underlying39 rfl (info_ev e) ?_)
            | fail)
          refine HEVT.out.mono ?_
          rintro x w10 ⟨hk10, (⟨hn, rfl⟩ | ⟨L2, hs, rfl, hr10⟩)⟩
          · obtain ⟨hen, hkm, hTx, hsx⟩ := HEK.out w10 (HK9.out.trans hk10)
            have hn2 : evAll p (Ln.start p) (Kn.take mny) = none := take_none (i := i + j + 1) (by omega) (by rw [HST.out, hn])
            have hfin := FIN.out St.zero 4 w10 M (stCells St.zero) (by rw [HAN2.out, hn2]) hkm hen HPT.out HPI.out
            clear HEVT HST hn hn2 hk10 hen hkm
            go_wp2_with (first
              | (refine wpList_buildTo rfl 45 _ rfl _ rfl _ built_z ?_)
              | (refine wpList_store_rowTo rfl 45 _ _ rfl rfl _ _ rfl rfl _ _ hTx (info_st St.zero) rfl (st_one _) ?_))
            exact bodyPost_ret (results_cell2E (fn := Tryz.f13) rfl _ _ w.heap.size 45 (stCells St.zero) (0, 0) _ rfl (setRow_heap _ _ _ _ _ _ hTx) Tryz.underlying45 rfl (info_st St.zero)) rfl hfin
          · have HA10 : Hid (evAll p (Ln.start p) (Kn.take (i + (j + 1))) = some L2) := Lib.hid (by rw [show i + (j + 1) = i + j + 1 by omega, HST.out, hs])
            have HF10 := Lib.hid (evStep_fine HEV.out.prod HF8.out he h5 hs).1
            have HR10 := Lib.hid hr10
            have HK10 := Lib.hid (HK9.out.trans hk10)
            clear HEVT HST hk10 hr10 hs
            go_wp2
            go_roundw
            case rel => exact ⟨j + 1, L2, by omega, by go_num, HF10, HA10, HR10, HK10⟩
            case measure => simp [intOf]; omega
        · obtain rfl : j = r := by omega
          rw [hir] at HA8
          obtain ⟨hen, hkm, hTx, hsx⟩ := HEK.out w8 HK8.out
          obtain ⟨wu, hupd, hMG⟩ := upd_place (w := w8.drew) hen.map q mny L
          have HENU := Lib.hid (EngAt.set (w := w8.drew) (hen.on fun _ _ => rfl) hMG)
          have c10 : w8.cell? ⟨ge, 10, none⟩ = some (.map (some gm)) := by rw [cell_of_row _ _ _ _ _ _ hen.cells]; rfl
          have hiL : (Tryz.prog.info? 69).map (·.size) = some (lnCells p (.slice A n c) L).size := info_ln _ _ _
          have hrq : w8.heap[g14]? = some (.cells (lnCells p (.slice A n c) L) 69 (0, 0)) := HR8.out
          obtain ⟨hp1, hp2⟩ := HPT.out.set HPI.out (q := q) (m := mny) (L := L) (by rw [← HK.out]; exact hql) (by rw [← HKK.out]; exact HA8.out)
          have HMG := Lib.hid hMG
          have HP12 := Lib.hid (⟨hp1, hp2⟩ : _ ∧ _)
          have HKM := Lib.hid hkm
          have hgmw : gm ≠ w.heap.size := by omega
          have hTu := (hMG.block w.heap.size (by omega)).trans hTx
          have hru := (hMG.block g14 (by omega)).trans hrq
          clear hMG hp1 hp2 hkm hen
          generalize hLL : lnCells p (.slice A n c) L = LL at *
          go_upto_region 23 with (fail)
          go_still_tail 8, (by kernel_rfl)
          refine still_mid rfl 69 (.tmp 14) rfl g14 0 rfl LL _ (fun j u h => by show w8.cell? _ = _; rw [cell_of_row _ _ _ _ _ _ hrq, Nat.zero_add]; simpa using h) Tryz.underlying69 rfl hiL ?_
          try refine wpStill_nil ?_
          change wpList _ _ _ _ _ w8.drew
          have HEND := Lib.hid (End_any p A n c L d wu HEV.out.prod HF8.out v0 v1 HENU.out.bnds)
          rw [hLL] at HEND
          clear hLL
          go_wp2_with (first
            | (refine wpList_load_row rfl 69 _ rfl _ rfl _ _ _ _ hru Tryz.underlying69 rfl hiL ?_)
            | fail)
          refine HEND.out.mono ?_
          have HKU : Hid (KeptBut gm w wu) := Lib.hid ⟨HMG.out.os.trans HKM.out.os, HMG.out.tape.trans HKM.out.tape, HMG.out.output.trans HKM.out.output, by rw [HMG.out.size]; exact HKM.out.size, fun k h1 h2 => (HMG.out.block k h2).trans (HKM.out.block k h1 h2)⟩
          have hsu : w.heap.size < wu.heap.size := (Array.getElem?_eq_some_iff.1 hTu).1
          rintro x w12 ⟨hb12, (⟨hn, rfl⟩ | ⟨s, hs, rfl⟩)⟩
          · have hT12 := (hb12.block w.heap.size hsu).trans hTu
            have hfin := FIN.out St.zero 4 w12 (setG M ((q : Int), (mny : Int)) L) (stCells St.zero) (by rw [HAN2.out, HA8.out]; simp only [hn]) (HKU.out.trans (KeptBut.of_below hb12)) (HENU.out.below hb12) HP12.out.1 HP12.out.2
            clear HEND hn HKU HMG
            go_wp2_with (first | (refine wpList_store_rowTo rfl 45 _ _ rfl rfl _ _ rfl rfl _ _ hT12 (info_st St.zero) rfl (st_one _) ?_))
            exact bodyPost_ret (results_cell2E (fn := Tryz.f13) rfl _ _ w.heap.size 45 (stCells St.zero) (0, 0) _ rfl (setRow_heap _ _ _ _ _ _ hT12) Tryz.underlying45 rfl (info_st St.zero)) rfl hfin
          · have hT12 := (hb12.block w.heap.size hsu).trans hTu
            have hfin := FIN.out s 0 w12 (setG M ((q : Int), (mny : Int)) L) (stCells s) (by rw [HAN2.out, HA8.out]; simp only [hs]) (HKU.out.trans (KeptBut.of_below hb12)) (HENU.out.below hb12) HP12.out.1 HP12.out.2
            clear HEND hs HKU HMG
            go_wp2_with (first | (refine wpList_store_rowTo rfl 45 _ _ rfl rfl _ _ rfl rfl _ _ hT12 (info_st s) rfl (st_one _) ?_))
            exact bodyPost_ret (results_cell2E (fn := Tryz.f13) rfl _ _ w.heap.size 45 (stCells s) (0, 0) _ rfl (setRow_heap _ _ _ _ _ _ hT12) Tryz.underlying45 rfl (info_st s)) rfl hfin
end Go.Proofs.YtcbopgopegphlaaGreat
