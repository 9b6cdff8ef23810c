/-
  The walk of the reference's Replay. No statement is proved here.
-/
import Derived.Test.YtcbopgopegphlaaGreatAcYY
import Derived.Test.YtcbopgopegphlaaGreatAcX
import Derived.Test.YtcbopgopegphlaaGreatAcU2
namespace Go.Proofs.YtcbopgopegphlaaGreat
open Go.RowKit
set_option linter.unusedVariables false

theorem spend1_day (s : St) (k d : Int) : spend1 { s with day := d } k = { spend1 s k with day := d } := by
  unfold spend1
  split
  · rfl
  · split
    · rfl
    · split <;> rfl
theorem spendAll_day (p : Prod) (s : St) (d : Int) : spendAll p { s with day := d } = { spendAll p s with day := d } := by
  unfold spendAll
  have h1 := spend1_day s p.o1 d
  have h2 := spend1_day (spend1 s p.o1) p.o2 d
  have h3 := spend1_day (spend1 (spend1 s p.o1) p.o2) p.o3 d
  exact (congrArg (fun x => spend1 (spend1 x p.o2) p.o3) h1).trans ((congrArg (fun x => spend1 x p.o3) h2).trans h3)
theorem addEv_day (s : St) (e : Ev) (d : Int) : addEv { s with day := d } e = { addEv s e with day := d } := by
  unfold addEv
  split
  · rfl
  · split
    · rfl
    · split
      · rfl
      · split <;> rfl
theorem accr_day {c : Int} {s : St} {e : Int} {T : St} (h : accr c s e = some T) : T.day = e := by
  unfold accr at h
  split at h
  · cases h
  · injection h with h
    rw [← h]
theorem count_top (c : Int) {d v : Int} (d0 : -719162 ≤ d) (h : d ≤ v) (v1 : v ≤ 2932896) : (countOf c d v).1 ≤ 4000000 := by
  obtain ⟨va, _⟩ := parts_valid d d0 (by omega)
  obtain ⟨vb, _⟩ := parts_valid v (by omega) v1
  obtain ⟨x1, x2, x3, x4, x5, x6⟩ := va.sizes
  obtain ⟨y1, y2, y3, y4, y5, y6⟩ := vb.sizes
  unfold countOf
  split
  · unfold thirtyOf
    simp only
    split <;> omega
  · split <;> (simp only; omega)
theorem lateAns_fine {p : Prod} (hp : p.Ok) {first out repaid v : Int} (f0 : -719162 ≤ first) (f1 : first ≤ 2932896) (v0 : -719162 ≤ v) (v1 : v ≤ 2932896) (o0 : 0 ≤ out) (o1 : out ≤ 1000000000000000) (r0 : 0 ≤ repaid) (r1 : repaid ≤ 1000000000000000) :
    lateAns p first out repaid v = (lateOf p first out repaid v, ((bucketOf p (lateOf p first out repaid v) : Nat) : Int), 0) := by
  unfold lateAns
  rw [if_neg (by simpa using hp), if_neg (by omega), if_neg (by omega)]
theorem zero_st (s : St) : ((Tryz.prog.info? 45).bind (·.zero)).map (·.cells.size) = some (stCells s).size := by rw [show (stCells s).size = 12 from rfl]; kernel_rfl
/-- Where the reference stands behind some events. -/
structure At (p : Prod) (v : Int) (L : Ln) (k : Nat) (day : Int) : Prop where
  fine : L.Fine
  began : L.began = true ↔ 0 < k
  day : day = if L.began then L.s.day else v
set_option maxRecDepth 100000 in
set_option maxHeartbeats 4000000 in
theorem refReplay_any (p : Prod) (A : Option Addr) (n c : Nat) (E : Option Addr) (m ce : Nat) (l : List Ev) (v : Int) (w : World) (hA : RdI w A n p.bounds) (hs : p.name.size ≤ 9223372036854775806) (hn : n ≤ 9223372036854775806) (hE : RdE w E m l) (hm : m ≤ 1000000000000000000) (hl : ∀ e ∈ l, e.loan.size ≤ 9223372036854775806) :
    Calls Tryz.prog 23 #[p.val (.slice A n c), .slice E m ce, .int .i64 v] w fun e w' => e = .returned (.tuple #[(replayAns p l v).1.val, .int .i64 (replayAns p l v).2]) ∧ Below w.heap.size w w' := by
  generalize hans : replayAns p l v = ans
  have HANS := Lib.hid hans
  clear hans
  have HC := Lib.hid fun W hW => refCheck_any p A n c W hW hs hn
  have DV := Lib.hid fun W => refGood_any v W
  have HLT := Lib.hid fun first out rep W (h : RdI W A n p.bounds) h1 h2 => refLate_any p A n c first out rep v W h hs hn h1 h2
  obtain ⟨S, hS⟩ : ∃ S, S = pCells p (.slice A n c) := ⟨_, rfl⟩
  have hval : p.val (.slice A n c) = .agg S := by rw [hS]; rfl
  have hi : (Tryz.prog.info? 25).map (·.size) = some S.size := by rw [hS]; exact info_prod _ _
  rw [hval] at HC HLT ⊢
  have HSS := Lib.hid hS
  clear hS hval
  obtain ⟨w1, hw1⟩ : ∃ w1, w1 = (w.alloc (.cells S 25)).alloc (.cells #[.int .i64 0, .int .i64 0, .int .i64 0, .int .i64 0, .int .i64 0, .int .i64 0, .int .i64 0, .int .i64 0, .int .i64 0, .int .i64 0, .int .i64 0, .int .i64 0] 45) := ⟨_, rfl⟩
  have hb1 : Below w.heap.size w w1 := by rw [hw1]; exact ((Below.refl _ _).alloc (Nat.le_refl _) _).alloc (by simp) _
  have hS1 : w1.heap[w.heap.size]? = some (.cells S 25 (0, 0)) := by rw [hw1]; exact heap_old (heap_alloc_new _ _)
  have hT1 : w1.heap[w.heap.size + 1]? = some (.cells (stCells St.zero) 45 (0, 0)) := by rw [hw1, ← World.size_alloc w]; exact heap_alloc_new _ _
  have hz1 : w1.heap.size = w.heap.size + 2 := by rw [hw1]; simp
  have hA1 := Lib.hid (hA.below hb1)
  have hE1 := Lib.hid (hE.below hb1)
  have HSZ := Lib.hid hl
  clear hA hl
  go_enter Tryz.func23, Tryz.ntmps23
  go_upto_region 1 with (fail)
  rw [← hw1]
  clear hw1
  go_step
  refine wpList_load_row rfl 25 _ rfl _ rfl _ _ _ _ hS1 Tryz.underlying25 rfl hi ?_
  go_wp2_with fail
  refine (HC.out _ hA1.out).mono ?_
  rintro e w2 ⟨rfl, hb2⟩
  have hbb := hb1.trans (hb2.mono hb1.size)
  have hS2 := (hb2.block w.heap.size (by omega)).trans hS1
  have hT2 := (hb2.block (w.heap.size + 1) (by omega)).trans hT1
  have hA2 := Lib.hid (hA1.out.below hb2)
  have hE2 := Lib.hid (hE1.out.below hb2)
  have hz2 := hb2.size
  clear hS1 hT1 hb1 hb2 hA1 hE1 HC
  have ERR : Hid (∀ (e : Int) (W : World) (cs : Array Value) (hans : ans = (St.zero, e)), Below w.heap.size w W → Ending.returned (.tuple #[.agg (stCells St.zero), .int .i64 e]) = Ending.returned (.tuple #[ans.1.val, .int .i64 ans.2]) ∧ Below w.heap.size w (W.setRow (w.heap.size + 1) cs)) := Lib.hid fun e W cs hans hW => ⟨by rw [hans]; rfl, below_row hW (by omega) _⟩
  by_cases hp : p.Ok
  case neg =>
    have ha := ERR.out 50 w2 (stCells St.zero) (by rw [← HANS.out, replay_prod hp]) hbb
    rw [if_neg hp]
    clear HANS hE
    go_wp2_with (first
      | (refine wpList_buildTo rfl 45 _ rfl _ rfl _ built_z ?_)
      | (refine wpList_store_rowTo rfl 45 _ _ rfl rfl _ _ rfl rfl _ _ hT2 (info_st St.zero) rfl (st_one _) ?_))
    exact bodyPost_ret (results_cell2E (fn := Tryz.f23) rfl _ _ (w.heap.size + 1) 45 (stCells St.zero) (0, 0) _ rfl (setRow_heap _ _ _ _ _ _ hT2) Tryz.underlying45 rfl (info_st St.zero)) rfl ha
  rw [if_pos hp]
  have i2 := Lib.hid (good_iff v)
  generalize decide (-719162 ≤ v ∧ v ≤ 2932896) = b2 at *
  cases b2
  · have j1 := i2.out
    simp only [Bool.false_eq_true, false_iff] at j1
    have ha := ERR.out 6 w2 (stCells St.zero) (by rw [← HANS.out, replay_date hp j1]) hbb
    clear HANS hE
    go_wp2_with fail
    refine (DV.out _).mono ?_
    rintro e w3 ⟨rfl, rfl⟩
    go_wp2_with (first
      | (refine wpList_buildTo rfl 45 _ rfl _ rfl _ built_z ?_)
      | (refine wpList_store_rowTo rfl 45 _ _ rfl rfl _ _ rfl rfl _ _ hT2 (info_st St.zero) rfl (st_one _) ?_))
    exact bodyPost_ret (results_cell2E (fn := Tryz.f23) rfl _ _ (w.heap.size + 1) 45 (stCells St.zero) (0, 0) _ rfl (setRow_heap _ _ _ _ _ _ hT2) Tryz.underlying45 rfl (info_st St.zero)) rfl ha
  obtain ⟨v0, v1⟩ := i2.out.1 rfl
  clear i2
  have hlm := hE.1
  clear hE
  go_wp2_with fail
  refine (DV.out _).mono ?_
  rintro e w3 ⟨rfl, rfl⟩
  by_cases hl : 4096 < m
  · have ha := ERR.out 3 w2 (stCells St.zero) (by rw [← HANS.out, replay_long hp ⟨v0, v1⟩ (by omega)]) hbb
    clear HANS
    go_wp2_with (first
      | (refine wpList_buildTo rfl 45 _ rfl _ rfl _ built_z ?_)
      | (refine wpList_store_rowTo rfl 45 _ _ rfl rfl _ _ rfl rfl _ _ hT2 (info_st St.zero) rfl (st_one _) ?_))
    exact bodyPost_ret (results_cell2E (fn := Tryz.f23) rfl _ _ (w.heap.size + 1) 45 (stCells St.zero) (0, 0) _ rfl (setRow_heap _ _ _ _ _ _ hT2) Tryz.underlying45 rfl (info_st St.zero)) rfl ha
  go_wp2
  go_loopw [34] (fun i wr => ∃ j : Nat, j ≤ m ∧ i = .int .i64 j ∧ Hid (∀ k (h : k < l.length), k < j → l[k].Ok ∧ l[k].kind ≠ 5 ∧ ∀ (h0 : 0 < k), before l[k - 1] l[k]) ∧ Below w2.heap.size w2 wr) (fun i _ => m - (intOf i).toNat)
  case atStart => exact ⟨0, by omega, rfl, Lib.hid (fun k h hk => by omega), Below.refl _ _⟩
  case round =>
    obtain ⟨j, hj, rfl, hok, hbr⟩ := hrel
    have hbR := hbb.trans (hbr.mono hbb.size)
    have hTR := (hbr.block (w.heap.size + 1) (by omega)).trans hT2
    have hzr := hbr.size
    by_cases hlt : j < m
    · obtain ⟨b, off, rfl, hcs⟩ := (hE2.out.below hbr).2 (by omega)
      have hjl : j < l.length := by omega
      have hrow := hcs j hjl
      have hj1 : j - 1 < l.length := by omega
      have hprev : 0 < j → ∀ k u, (evCells (l[j - 1]'hj1))[k]? = some u → wr.cell? ⟨b, off + (j - 1) * 6 + k, none⟩ = some u := fun h0 k u hu => hcs (j - 1) hj1 k u hu
      have hbad : Hid (¬ (l[j].Ok ∧ l[j].kind ≠ 5 ∧ (0 < j → before (l[j - 1]'hj1) l[j])) → ¬ EvsOk l) := Lib.hid fun h hall => h ⟨(hall j hjl).1, (hall j hjl).2.1, (hall j hjl).2.2⟩
      have hgood : Hid ((l[j].Ok ∧ l[j].kind ≠ 5 ∧ (0 < j → before (l[j - 1]'hj1) l[j])) → ∀ k (h : k < l.length), k < j + 1 → l[k].Ok ∧ l[k].kind ≠ 5 ∧ ∀ (h0 : 0 < k), before l[k - 1] l[k]) := Lib.hid fun h k hk hk1 => by
        by_cases ek : k = j
        · subst ek; exact ⟨h.1, h.2.1, h.2.2⟩
        · exact hok.out k hk (by omega)
      have hsz := HSZ.out _ (List.getElem_mem hjl)
      generalize l[j - 1]'hj1 = pe at *
      generalize l[j] = e at *
      have HCK : Hid (∀ W, Calls Tryz.prog 22 #[.agg #[.int .i64 e.seq, .string e.loan, .int .i64 e.day, .int .i64 e.kind, .int .i64 e.amount, .int .i64 e.ref]] W fun x w' => (∃ r, x = .returned (.int .i64 r) ∧ (r = 0 ↔ e.Ok)) ∧ Below W.heap.size W w') := Lib.hid fun W => rCheck_any e W hsz
      clear hok hcs
      have hmid : wr.rangeAt b (off + j * 6) (evCells e).toList := fun k u hu => hrow k u (by simpa using hu)
      have hi6 : (Tryz.prog.info? 39).map (·.size) = some (evCells e).toList.length := by rw [show (evCells e).toList.length = 6 from rfl]; kernel_rfl
      go_upto_region 11 with (first
        | (refine wpList_load_mid rfl 39 _ rfl b (off + j * 6) rfl (evCells e).toList _ hmid Tryz.underlying39 rfl hi6 ?_)
        | (refine wpList_store_rowTo rfl 39 _ _ rfl rfl _ _ rfl rfl _ _ (heap_alloc_new _ _) (info_ev e) rfl (ev_one e) ?_))
      refine wp_at (fun wx => wx.heap[wr.heap.size]? = some (.cells (evCells e) 39 (0, 0)) ∧ Below wr.heap.size wr wx) (by first | (rw [World.setRow_alloc_new]; exact ⟨heap_alloc_new _ _, (Below.refl _ _).alloc (Nat.le_refl _) _⟩) | exact ⟨heap_alloc_new _ _, (Below.refl _ _).alloc (Nat.le_refl _) _⟩) ?_
      rintro w5 ⟨hev5, hb5⟩
      have hbR5 := hbr.trans (hb5.mono hbr.size)
      have x0 : w5.cell? ⟨wr.heap.size, 0, none⟩ = some (.int .i64 e.seq) := by rw [cell_of_row _ _ _ _ _ _ hev5]; rfl
      have x1 : w5.cell? ⟨wr.heap.size, 1, none⟩ = some (.string e.loan) := by rw [cell_of_row _ _ _ _ _ _ hev5]; rfl
      have x2 : w5.cell? ⟨wr.heap.size, 2, none⟩ = some (.int .i64 e.day) := by rw [cell_of_row _ _ _ _ _ _ hev5]; rfl
      have x3 : w5.cell? ⟨wr.heap.size, 3, none⟩ = some (.int .i64 e.kind) := by rw [cell_of_row _ _ _ _ _ _ hev5]; rfl
      have x4 : w5.cell? ⟨wr.heap.size, 4, none⟩ = some (.int .i64 e.amount) := by rw [cell_of_row _ _ _ _ _ _ hev5]; rfl
      have x5 : w5.cell? ⟨wr.heap.size, 5, none⟩ = some (.int .i64 e.ref) := by rw [cell_of_row _ _ _ _ _ _ hev5]; rfl
      have hprev5 : 0 < j → ∀ k u, (evCells pe)[k]? = some u → w5.cell? ⟨b, off + (j - 1) * 6 + k, none⟩ = some u := fun h0 k u hu => cell_later hb5 (hprev h0 k u hu)
      have hbR6 := Lib.hid fun W (hW : Below w5.heap.size w5 W) => hbR5.trans (hW.mono hbR5.size)
      clear hmid hi6 hrow hprev hev5 hbr hbR hTR
      have HERR : Hid (∀ W, Below w5.heap.size w5 W → ¬ EvsOk l → W.heap[w.heap.size + 1]? = some (.cells (stCells St.zero) 45 (0, 0)) ∧ Ending.returned (.tuple #[.agg (stCells St.zero), .int .i64 52]) = Ending.returned (.tuple #[ans.1.val, .int .i64 ans.2]) ∧ Below w.heap.size w (W.setRow (w.heap.size + 1) (stCells St.zero))) := Lib.hid fun W hW hbad =>
        ⟨((hbR5.trans (hW.mono hbR5.size)).block (w.heap.size + 1) (by omega)).trans hT2, ERR.out 52 W (stCells St.zero) (by rw [← HANS.out, replay_bad hp ⟨v0, v1⟩ (by omega) hbad]) (hbb.trans ((hbR5.trans (hW.mono hbR5.size)).mono hbb.size))⟩
      go_wp2_with fail
      refine (HCK.out _).mono ?_
      rintro x w6 ⟨⟨r, rfl, hr⟩, hb6⟩
      have hr0 : (r != 0) = !decide (e.Ok) := by
        by_cases h : e.Ok
        · simp [h, hr.2 h]
        · have h0 : r ≠ 0 := fun h' => h (hr.1 h')
          simp [h, h0]
      have hp6 : 0 < j → ∀ k u, (evCells pe)[k]? = some u → w6.cell? ⟨b, off + (j - 1) * 6 + k, none⟩ = some u := fun h0 k u hu => cell_later hb6 (hprev5 h0 k u hu)
      have y0 := cell_later hb6 x0
      have y2 := cell_later hb6 x2
      have y3 := cell_later hb6 x3
      clear x0 x1 x2 x3 x4 x5 hprev5 HCK
      by_cases hok1 : e.Ok
      case neg =>
        obtain ⟨HTX, hfin⟩ := HERR.out _ hb6 (hbad.out fun h => hok1 h.1)
        have hr1 : (r != 0) = true := by rw [hr0]; simpa using hok1
        have hr2 : (r == 0) = false := by simpa using hr1
        clear hbad hgood hok1 hr hr0 HERR hb5 hbR5 hb6 hp6 y0 y2
        go_wp2_with (first
          | (refine wpList_buildTo rfl 45 _ rfl _ rfl _ built_z ?_)
          | (refine wpList_store_rowTo rfl 45 _ _ rfl rfl _ _ rfl rfl _ _ HTX (info_st St.zero) rfl (st_one _) ?_))
        exact bodyPost_ret (results_cell2E (fn := Tryz.f23) rfl _ _ (w.heap.size + 1) 45 (stCells St.zero) (0, 0) _ rfl (setRow_heap _ _ _ _ _ _ HTX) Tryz.underlying45 rfl (info_st St.zero)) rfl hfin
      have hr1 : (r != 0) = false := by rw [hr0]; simpa using hok1
      have hr2 : (r == 0) = true := by simpa using hr1
      by_cases h5 : e.kind = 5
      · obtain ⟨HTX, hfin⟩ := HERR.out _ hb6 (hbad.out fun h => h.2.1 h5)
        have h51 : (e.kind == 5) = true := by simpa using h5
        clear hbad hgood hok1 hr hr0 HERR hb5 hbR5 hb6 hp6 h5 y0 y2
        go_wp2_with (first
          | (refine wpList_buildTo rfl 45 _ rfl _ rfl _ built_z ?_)
          | (refine wpList_store_rowTo rfl 45 _ _ rfl rfl _ _ rfl rfl _ _ HTX (info_st St.zero) rfl (st_one _) ?_))
        exact bodyPost_ret (results_cell2E (fn := Tryz.f23) rfl _ _ (w.heap.size + 1) 45 (stCells St.zero) (0, 0) _ rfl (setRow_heap _ _ _ _ _ _ HTX) Tryz.underlying45 rfl (info_st St.zero)) rfl hfin
      have h51 : (e.kind == 5) = false := by simpa using h5
      by_cases hj0 : j = 0
      · subst hj0
        have hok2 := Lib.hid (hgood.out ⟨hok1, h5, fun h => by omega⟩)
        have hB6 := Lib.hid (hbR6.out _ hb6)
        clear hbad hgood hok1 hr hr0 HERR hb5 hbR5 hb6 hp6 h5
        go_upto_region 13 with (fail)
        go_quiet (fail)
        have hb7 := below_drewN hB6.out nq
        go_wp2
        go_roundw
        case rel => exact ⟨1, by omega, by go_num, hok2, hb7⟩
        case measure => simp [intOf]; omega
      obtain ⟨i, rfl⟩ : ∃ i, j = i + 1 := ⟨j - 1, by omega⟩
      have z0 := hp6 (by omega) 0 (.int .i64 pe.seq) rfl
      have z2 := hp6 (by omega) 2 (.int .i64 pe.day) rfl
      simp only [Nat.add_sub_cancel, Nat.add_zero] at z0 z2
      clear hp6
      by_cases hd : e.day < pe.day
      · have hbe := Lib.hid (hbad.out fun h => by rcases h.2.2 (by omega) with h1 | h1 <;> omega)
        have t1 : decide (e.day < pe.day) = true := decide_eq_true hd
        clear hbad hgood hok1 hr hr0 hb5 hbR5 h5
        go_upto_region 13 with (fail)
        go_quiet (fail)
        have hb7 := below_drewN hb6 nq
        obtain ⟨HTX, hfin⟩ := HERR.out _ hb7 hbe.out
        clear HERR
        go_wp2_with (first
          | (refine wpList_buildTo rfl 45 _ rfl _ rfl _ built_z ?_)
          | (refine wpList_store_rowTo rfl 45 _ _ rfl rfl _ _ rfl rfl _ _ HTX (info_st St.zero) rfl (st_one _) ?_))
        exact bodyPost_ret (results_cell2E (fn := Tryz.f23) rfl _ _ (w.heap.size + 1) 45 (stCells St.zero) (0, 0) _ rfl (setRow_heap _ _ _ _ _ _ HTX) Tryz.underlying45 rfl (info_st St.zero)) rfl hfin
      by_cases hde : e.day = pe.day
      · by_cases hsq : e.seq ≤ pe.seq
        · have hbe := Lib.hid (hbad.out fun h => by rcases h.2.2 (by omega) with h1 | h1 <;> omega)
          have b1 : (e.day == pe.day) = true := by simpa using hde
          have t1 : decide (e.day < pe.day) = false := decide_eq_false hd
          have t2 : decide (e.seq ≤ pe.seq) = true := decide_eq_true hsq
          clear hbad hgood hok1 hr hr0 hb5 hbR5 h5 hde
          go_upto_region 13 with (fail)
          go_quiet (fail)
          have hb7 := below_drewN hb6 nq
          obtain ⟨HTX, hfin⟩ := HERR.out _ hb7 hbe.out
          clear HERR
          go_wp2_with (first
            | (refine wpList_buildTo rfl 45 _ rfl _ rfl _ built_z ?_)
            | (refine wpList_store_rowTo rfl 45 _ _ rfl rfl _ _ rfl rfl _ _ HTX (info_st St.zero) rfl (st_one _) ?_))
          exact bodyPost_ret (results_cell2E (fn := Tryz.f23) rfl _ _ (w.heap.size + 1) 45 (stCells St.zero) (0, 0) _ rfl (setRow_heap _ _ _ _ _ _ HTX) Tryz.underlying45 rfl (info_st St.zero)) rfl hfin
        · have hok2 := Lib.hid (hgood.out ⟨hok1, h5, fun h => .inr ⟨by omega, by omega⟩⟩)
          have hB6 := Lib.hid (hbR6.out _ hb6)
          have b1 : (e.day == pe.day) = true := by simpa using hde
          have t1 : decide (e.day < pe.day) = false := decide_eq_false hd
          have t2 : decide (e.seq ≤ pe.seq) = false := decide_eq_false hsq
          clear hbad hgood hok1 hr hr0 HERR hb5 hbR5 hb6 h5 hde
          go_upto_region 13 with (fail)
          go_quiet (fail)
          have hb7 := below_drewN hB6.out nq
          go_wp2
          go_roundw
          case rel => exact ⟨i + 1 + 1, by omega, by go_num, hok2, hb7⟩
          case measure => simp [intOf]; omega
      · have hok2 := Lib.hid (hgood.out ⟨hok1, h5, fun h => .inl (by omega)⟩)
        have hB6 := Lib.hid (hbR6.out _ hb6)
        have b1 : (e.day == pe.day) = false := by simpa using hde
        have t1 : decide (e.day < pe.day) = false := decide_eq_false hd
        clear hbad hgood hok1 hr hr0 HERR hb5 hbR5 hb6 h5
        go_upto_region 13 with (fail)
        go_quiet (fail)
        have hb7 := below_drewN hB6.out nq
        go_wp2
        go_roundw
        case rel => exact ⟨i + 1 + 1, by omega, by go_num, hok2, hb7⟩
        case measure => simp [intOf]; omega
    · have hev : EvsOk l := fun k hk => hok.out k hk (by omega)
      have hans : ans = (match evRun p v (Ln.start p) l with
        | none => (.zero, 4)
        | some L => match endOf p L v with | none => (.zero, 4) | some s => (s, 0)) := by rw [← HANS.out]; exact replay_run hp ⟨v0, v1⟩ (by omega) hev
      have HAN2 := Lib.hid hans
      have HEV := Lib.hid hev
      have hSR := (hbr.block w.heap.size (by omega)).trans hS2
      have hjm : j = m := by omega
      subst hjm
      clear hok hans hev HANS hlt
      have hbR2 := hbb.trans (hbr.mono hbb.size)
      obtain ⟨w3, rfl⟩ : ∃ x, x = wr := ⟨_, rfl⟩
      have hb23 : Below w2.heap.size w2 w3 := hbr
      have cr : w3.cell? ⟨w.heap.size, 1, none⟩ = some (.int .i64 p.rate) := by rw [cell_of_row _ _ _ _ _ _ hSR, HSS.out]; rfl
      have h29 : Tryz.prog.built 45 [(1, .int .i64 p.rate)] = some (stCells (Ln.start p).s) := by kernel_rfl
      have hone29 : (stCells (Ln.start p).s).all (·.oneCell') = true := st_one _
      have hi29 : (Tryz.prog.info? 45).map (·.size) = some (stCells (Ln.start p).s).size := info_st _
      have hz29 : ((Tryz.prog.info? 45).bind (·.zero)).map (·.cells.size) = some (stCells (Ln.start p).s).size := by rw [show (stCells (Ln.start p).s).size = 12 from rfl]; kernel_rfl
      obtain ⟨SC, hSC⟩ : ∃ SC, SC = stCells (Ln.start p).s := ⟨_, rfl⟩
      rw [← hSC] at h29 hone29 hi29 hz29
      clear hbr hTR hbR hSR
      go_upto_block 2 with (first
        | (refine wpList_buildTo rfl 45 _ rfl _ rfl _ (built_1 h29 _ _ rfl) ?_)
        | (refine alloc_store rfl rfl 45 _ _ rfl rfl rfl rfl SC rfl rfl hz29 hi29 hone29 ?_))
      have hz3 := hb23.size
      refine wp_at (fun wx => StRow w3.heap.size { (Ln.start p).s with day := 0 } wx ∧ Below w3.heap.size w3 wx) ⟨by unfold StRow; exact heap_alloc_new _ _, (Below.refl _ _).alloc (Nat.le_refl _) _⟩ ?_
      rintro w4 ⟨hr4, hb4⟩
      have hb24 : Below w2.heap.size w2 w4 := hb23.trans (hb4.mono hb23.size)
      have hz4 : w3.heap.size < w4.heap.size := (Array.getElem?_eq_some_iff.1 hr4).1
      have HR4 := Lib.hid hr4
      clear hr4 hb4 h29 hone29 hi29 hz29 hSC cr hb23
      have HB5 : Hid (∀ W, KeptBut w3.heap.size w4 W → W.heap[w.heap.size]? = some (.cells S 25 (0, 0)) ∧ W.heap[w.heap.size + 1]? = some (.cells (stCells St.zero) 45 (0, 0)) ∧ Below w.heap.size w W ∧ Below w2.heap.size w2 W) := Lib.hid fun W hW => by
        have h1 : Below w2.heap.size w2 W := hb24.trans (hW.below (by omega) (by omega))
        exact ⟨(h1.block w.heap.size (by omega)).trans hS2, (h1.block (w.heap.size + 1) (by omega)).trans hT2, hbb.trans (h1.mono hbb.size), h1⟩
      go_cut [11, 12, 13] from 14 to 200 (fun y11 y12 y13 wx => ∃ (L : Ln) (day : Int) (k : Nat), y11 = .int .i64 L.first ∧ y12 = .bool L.lent ∧ y13 = .int .i64 day ∧ Hid (At p v L k day) ∧ Hid (evRun p v (Ln.start p) l = some L) ∧ Hid (StRow w3.heap.size { L.s with day := 0 } wx) ∧ KeptBut w3.heap.size w4 wx)
      case first =>
        go_wp2
        go_loopw [93, 11, 12, 13] (fun i y11 y12 y13 wq => ∃ (k : Nat) (L : Ln) (day : Int), k ≤ j ∧ i = .int .i64 k ∧ y11 = .int .i64 L.first ∧ y12 = .bool L.lent ∧ y13 = .int .i64 day ∧ Hid (At p v L k day) ∧ Hid (evRun p v (Ln.start p) l = evRun p v L (l.drop k)) ∧ Hid (StRow w3.heap.size { L.s with day := 0 } wq) ∧ KeptBut w3.heap.size w4 wq) (fun i _ _ _ _ => j - (intOf i).toNat)
        case atStart => exact ⟨0, Ln.start p, v, by omega, rfl, rfl, rfl, rfl, Lib.hid ⟨start_fine hp, by simp [Ln.start], by simp [Ln.start]⟩, Lib.hid rfl, HR4, KeptBut.refl _ _⟩
        case round =>
          obtain ⟨k, L, day, hk, rfl, rfl, rfl, rfl, hAt, HRUN, HRQ, hkq⟩ := hrel
          obtain ⟨wZ, rfl⟩ : ∃ x, x = wr := ⟨_, rfl⟩
          have hbq : Below w2.heap.size w2 wZ := hb24.trans (hkq.below (by omega) (by omega))
          by_cases hlt : k < j
          case neg =>
            have hrun : evRun p v (Ln.start p) l = some L := by rw [HRUN.out, List.drop_eq_nil_of_le (by omega)]; rfl
            have HRUN2 := Lib.hid hrun
            clear hrun HRUN hbq
            go_wp2
            go_meet
            case rel => exact ⟨L, day, k, rfl, rfl, rfl, hAt, HRUN2, HRQ, hkq⟩
          obtain ⟨b, off, rfl, hcs⟩ := (hE2.out.below hbq).2 (by omega)
          have hkl : k < l.length := by omega
          have hrow := hcs k hkl
          have hdrop : l.drop k = l[k] :: l.drop (k + 1) := List.drop_eq_getElem_cons hkl
          obtain ⟨he, h5, _⟩ := HEV.out k hkl
          rw [hdrop] at HRUN
          generalize l[k] = e at *
          clear hcs hdrop
          have hmid : wZ.rangeAt b (off + k * 6) (evCells e).toList := fun q u hu => hrow q u (by simpa using hu)
          have hi6 : (Tryz.prog.info? 39).map (·.size) = some (evCells e).toList.length := by rw [show (evCells e).toList.length = 6 from rfl]; kernel_rfl
          go_upto_region 23 with (first
            | (refine wpList_load_mid rfl 39 _ rfl b (off + k * 6) rfl (evCells e).toList _ hmid Tryz.underlying39 rfl hi6 ?_)
            | (refine wpList_store_rowTo rfl 39 _ _ rfl rfl _ _ rfl rfl _ _ (heap_alloc_new _ _) (info_ev e) rfl (ev_one e) ?_))
          refine wp_at (fun wx => wx.heap[wZ.heap.size]? = some (.cells (evCells e) 39 (0, 0)) ∧ Below wZ.heap.size wZ wx) (by first | (rw [World.setRow_alloc_new]; exact ⟨heap_alloc_new _ _, (Below.refl _ _).alloc (Nat.le_refl _) _⟩) | exact ⟨heap_alloc_new _ _, (Below.refl _ _).alloc (Nat.le_refl _) _⟩) ?_
          rintro w5 ⟨hev5, hb5⟩
          have hgz : w3.heap.size < wZ.heap.size := (Array.getElem?_eq_some_iff.1 HRQ.out).1
          have hr5 : StRow w3.heap.size { L.s with day := 0 } w5 := (hb5.block _ hgz).trans HRQ.out
          have hk5 := hkq.trans (KeptBut.of_below hb5)
          obtain ⟨ge, hge⟩ : ∃ ge, ge = wZ.heap.size := ⟨_, rfl⟩
          rw [← hge] at hev5 ⊢
          have hgne : ge ≠ w3.heap.size := by omega
          have x2 : w5.cell? ⟨ge, 2, none⟩ = some (.int .i64 e.day) := by rw [cell_of_row _ _ _ _ _ _ hev5]; rfl
          clear hmid hi6 hrow hb5 hge hkq HRQ hgz
          by_cases hvd : v < e.day
          · have HRUN2 : Hid (evRun p v (Ln.start p) l = some L) := Lib.hid (by rw [HRUN.out, evRun, if_pos hvd])
            have HR5 := Lib.hid hr5
            have HK5 := Lib.hid hk5
            clear HRUN hr5 hk5 hev5 hbq
            go_wp2
            go_meet
            case rel => exact ⟨L, day, k, rfl, rfl, rfl, hAt, HRUN2, HR5, HK5.out⟩
          have HSTEP : Hid (∀ M, toDay p.conv L e.day = some M → ¬ over (M.added e) → evRun p v (Ln.start p) l = evRun p v ⟨spendAll p (M.added e), if e.kind = 1 ∧ M.lent = false then e.day else M.first, true, if e.kind = 1 then true else M.lent⟩ (l.drop (k + 1)) ∧ At p v ⟨spendAll p (M.added e), if e.kind = 1 ∧ M.lent = false then e.day else M.first, true, if e.kind = 1 then true else M.lent⟩ (k + 1) e.day) := Lib.hid fun M hM hov => by
            have hs : evStep p L e = some ⟨spendAll p (M.added e), if e.kind = 1 ∧ M.lent = false then e.day else M.first, true, if e.kind = 1 then true else M.lent⟩ := by
              unfold evStep
              rw [hM]
              simp only
              unfold Ln.added at hov
              rw [if_neg hov]
              rfl
            have hf := evStep_fine hp hAt.out.fine he h5 hs
            refine ⟨by rw [HRUN.out, evRun, if_neg (by omega), hs], ⟨hf.1, by simp, ?_⟩⟩
            simp only [if_true]
            exact hf.2.2.symm
          have HOVER : Hid (∀ M, toDay p.conv L e.day = some M → over (M.added e) → ans = (St.zero, 4)) := Lib.hid fun M hM hov => by
            have hs : evStep p L e = none := by
              unfold evStep
              rw [hM]
              simp only
              unfold Ln.added at hov
              rw [if_pos hov]
            rw [HAN2.out, HRUN.out, evRun, if_neg (by omega), hs]
          have HNONE : Hid (toDay p.conv L e.day = none → ans = (St.zero, 4)) := Lib.hid fun hM => by
            have hs : evStep p L e = none := by
              unfold evStep
              rw [hM]
            rw [HAN2.out, HRUN.out, evRun, if_neg (by omega), hs]
          have hF := Lib.hid hAt.out.fine
          have HBG := Lib.hid hAt.out.began
          have HDY := Lib.hid hAt.out.day
          clear HRUN hAt
          have hacc : (0 < k ∧ day < e.day) ∨ k = 0 ∨ (0 < k ∧ ¬ day < e.day) := by omega
          go_upto_if 103 with (fail)
          go_step
          go_step
          go_step
          go_step
          go_step
          go_cut [] from 104 to 126 (fun wx => ∃ M, Hid (toDay p.conv L e.day = some M) ∧ Hid (StRow w3.heap.size { M.s with day := 0 } wx) ∧ Hid (wx.heap[ge]? = some (.cells (evCells e) 39 (0, 0))) ∧ KeptBut w3.heap.size w4 wx)
          case first =>
            have hbg := HBG.out
            have hdy := HDY.out
            rcases hacc with ⟨hk0, hdl⟩ | hk0 | ⟨hk0, hdl⟩
            · have hb1 := hbg.2 hk0
              rw [if_pos hb1] at hdy
              subst hdy
              have hto : toDay p.conv L e.day = (accr p.conv L.s e.day).map fun s => { L with s := s } := by
                unfold toDay
                rw [if_neg (by rw [not_or]; exact ⟨by simp [hb1], by omega⟩)]
              have hF0 := hF.out
              have hcm := count_mono (c := p.conv) (hF0.d0 hb1) (Int.le_refl L.s.day) (show L.s.day ≤ e.day by omega) he.day1
              rw [count_same] at hcm
              have hct := count_top p.conv (hF0.d0 hb1) (show L.s.day ≤ e.day by omega) he.day1
              have RA := Lib.hid fun W => refAccrue_any { L.s with day := 0 } p.conv L.s.day e.day W hp.conv0 hp.conv1 (hF0.d0 hb1) (hF0.d1 hb1) he.day0 he.day1 (by omega) hF0.p0 (by have := hF0.p1; have := hF0.o1; simp only; omega) hF0.r0 hF0.r1 hF0.i0 hF0.i1 hF0.a1 hcm.1 (by omega)
              have hS5 := (HB5.out _ hk5).1
              have c2 : w5.cell? ⟨w.heap.size, 2, none⟩ = some (.int .i64 p.conv) := by rw [cell_of_row _ _ _ _ _ _ hS5, HSS.out]; rfl
              have hr5' : w5.heap[w3.heap.size]? = some (.cells (stCells { L.s with day := 0 }) 45 (0, 0)) := hr5
              have HTO := Lib.hid hto
              have hkz : (k : Int) ≠ 0 := by omega
              clear hto hcm hct hF0 hb1 hbg hS5
              go_upto_region 25 with (fail)
              go_step
              refine wpList_load_row rfl 45 _ rfl _ rfl _ _ _ _ hr5' Tryz.underlying45 rfl (info_st _) ?_
              go_wp2_with fail
              refine (RA.out _).mono ?_
              rintro x w6 ⟨hb6, (⟨hn, rfl⟩ | ⟨T, hT, hx⟩)⟩
              · have hans := HNONE.out (by rw [HTO.out, show accr p.conv L.s e.day = none from hn]; rfl)
                have hk6 := hk5.trans (KeptBut.of_below hb6)
                have HK6 := Lib.hid hk6
                clear hn HTO HNONE HOVER HSTEP RA hr5 hr5' hev5 x2 c2 hk5 hb6 hbq hk6
                unfold St.val
                go_upto_region 26 with (first | (refine alloc_store rfl rfl 45 _ _ rfl rfl rfl rfl (stCells St.zero) rfl rfl (zero_st _) (info_st _) (st_one _) ?_))
                refine wp_at (fun wx => KeptBut w3.heap.size w4 wx) (HK6.out.trans (KeptBut.of_below ((Below.refl _ _).alloc (Nat.le_refl _) _))) ?_
                rintro w7 hk7
                obtain ⟨_, HT, hbW, _⟩ := HB5.out _ hk7
                have hfin := ERR.out 4 w7 (stCells St.zero) hans hbW
                go_wp2_with (first
                  | (refine wpList_buildTo rfl 45 _ rfl _ rfl _ built_z ?_)
                  | (refine wpList_store_rowTo rfl 45 _ _ rfl rfl _ _ rfl rfl _ _ HT (info_st St.zero) rfl (st_one _) ?_))
                exact bodyPost_ret (results_cell2E (fn := Tryz.f23) rfl _ _ (w.heap.size + 1) 45 (stCells St.zero) (0, 0) _ rfl (setRow_heap _ _ _ _ _ _ HT) Tryz.underlying45 rfl (info_st St.zero)) rfl hfin
              · have hM : toDay p.conv L e.day = some { L with s := T } := by rw [HTO.out, show accr p.conv L.s e.day = some T from hT]; rfl
                have HM := Lib.hid hM
                obtain ⟨T0, hT0'⟩ : ∃ T0 : St, T0 = ({ T with day := ({ L.s with day := 0 } : St).day } : St) := ⟨_, rfl⟩
                rw [← hT0'] at hx
                have hT0 : T0 = { T with day := 0 } := hT0'
                clear hT0'
                unfold St.val at hx
                subst hx
                have HR6 : Hid (StRow w3.heap.size { L.s with day := 0 } w6) := Lib.hid ((hb6.block _ (Array.getElem?_eq_some_iff.1 hr5).1).trans hr5)
                have HE6 := Lib.hid ((hb6.block _ (Array.getElem?_eq_some_iff.1 hev5).1).trans hev5)
                have HK6 := Lib.hid (hk5.trans (KeptBut.of_below hb6))
                have hg6 : w3.heap.size < w6.heap.size := (Array.getElem?_eq_some_iff.1 HR6.out).1
                have HT0 : Hid (∀ W, W.heap[w3.heap.size]? = some (.cells (stCells T0) 45 (0, 0)) → Hid (StRow w3.heap.size { ({ L with s := T } : Ln).s with day := 0 } W)) := Lib.hid fun W h => Lib.hid (by rw [hT0] at h; exact h)
                clear hT0 hT hM HTO HNONE RA hr5 hr5' hev5 x2 c2 hk5 hb6 hbq
                go_upto_region 26 with (first | (refine alloc_store rfl rfl 45 _ _ rfl rfl rfl rfl (stCells T0) rfl rfl (zero_st _) (info_st _) (st_one _) ?_))
                refine wp_at (fun wx => wx.heap[w6.heap.size]? = some (.cells (stCells T0) 45 (0, 0)) ∧ wx.heap[w3.heap.size]? = some (.cells (stCells { L.s with day := 0 }) 45 (0, 0)) ∧ wx.heap[ge]? = some (.cells (evCells e) 39 (0, 0)) ∧ KeptBut w3.heap.size w4 wx) ⟨heap_alloc_new _ _, heap_old HR6.out, heap_old HE6.out, HK6.out.trans (KeptBut.of_below ((Below.refl _ _).alloc (Nat.le_refl _) _))⟩ ?_
                rintro w7 ⟨hn7, hr7, hev7, hk7⟩
                go_wp2_with (first
                  | (refine wpList_load_row rfl 45 _ rfl _ rfl _ _ _ _ hn7 Tryz.underlying45 rfl (info_st _) ?_)
                  | (refine wpList_store_rowTo rfl 45 _ _ rfl rfl _ _ rfl rfl _ _ hr7 (info_st _) rfl (st_one _) ?_))
                go_meet
                case rel => exact ⟨_, HM, HT0.out _ (setRow_heap _ _ _ _ _ _ hr7), Lib.hid (by rw [setRow_other _ _ _ _ (by omega)]; exact hev7), hk7.setRow _⟩
            · have hM : Hid (toDay p.conv L e.day = some L) := Lib.hid (by
                unfold toDay
                rw [if_pos (.inl (by
                  cases hb : L.began with
                  | false => rfl
                  | true => have := hbg.1 hb; omega))])
              have hr := Lib.hid hr5
              have hev := Lib.hid hev5
              have HK5 := Lib.hid hk5
              subst hk0
              clear hr5 hev5 hk5 hbg hdy HSTEP HOVER HNONE
              go_wp2
              all_goals go_meet
              all_goals (case rel => exact ⟨L, hM, hr, hev, HK5.out⟩)
            · have hb1 := hbg.2 hk0
              rw [if_pos hb1] at hdy
              have hM : Hid (toDay p.conv L e.day = some L) := Lib.hid (by
                unfold toDay
                rw [if_pos (.inr (by omega))])
              have hr := Lib.hid hr5
              have hev := Lib.hid hev5
              have HK5 := Lib.hid hk5
              have hkz : (k : Int) ≠ 0 := by omega
              clear hr5 hev5 hk5 hbg hdy hb1 HSTEP HOVER HNONE
              go_wp2
              all_goals go_meet
              all_goals (case rel => exact ⟨L, hM, hr, hev, HK5.out⟩)
          case rest =>
            obtain ⟨M, HM, HR, HEVR, hk6⟩ := hcut
            obtain ⟨w6, rfl⟩ : ∃ x, x = wc := ⟨_, rfl⟩
            clear hr5 hev5 hk5 HBG HDY hbq x2 hacc HNONE
            have hFM := toDay_fine hF.out he.day0 he.day1 HM.out
            have m1 := hFM.1
            have m2 := hFM.2.1
            have m4 := hFM.2.2.2.1
            clear hFM
            have HFM := Lib.hid m1
            have HM12 := Lib.hid (⟨m2, m4⟩ : M.first = L.first ∧ M.lent = L.lent)
            clear m1 m2 m4 hF
            have hev6 := HEVR.out
            have x2 : w6.cell? ⟨ge, 2, none⟩ = some (.int .i64 e.day) := by rw [cell_of_row _ _ _ _ _ _ hev6]; rfl
            have x3 : w6.cell? ⟨ge, 3, none⟩ = some (.int .i64 e.kind) := by rw [cell_of_row _ _ _ _ _ _ hev6]; rfl
            have x4 : w6.cell? ⟨ge, 4, none⟩ = some (.int .i64 e.amount) := by rw [cell_of_row _ _ _ _ _ _ hev6]; rfl
            clear hev6 HEVR
            rw [← HM12.out.1, ← HM12.out.2]
            go_upto_block 4 with (fail)
            go_cut [11, 12] from 131 to 181 (fun y11 y12 wx => ∃ (F1 : Int) (F2 : Bool), y11 = .int .i64 F1 ∧ y12 = .bool F2 ∧ Hid (F1 = if e.kind = 1 ∧ M.lent = false then e.day else M.first) ∧ Hid (F2 = if e.kind = 1 then true else M.lent) ∧ Hid (StRow w3.heap.size { M.added e with day := 0 } wx) ∧ KeptBut w3.heap.size w4 wx)
            case first =>
              clear HSTEP HOVER
              have hb := HFM.out
              obtain ⟨_, _, _, _, b5, b6, b7, b8, b9, b10, b11, b12, b13, b14, b15, b16, _, _, _, _, _⟩ := hb
              rcases kinds he h5 with ⟨hk | hk | hk, k1, k2⟩ | ⟨hk, k1, k2⟩
              · have HK := Lib.hid hk
                have t1 : (e.kind == 1) = true := by rw [hk]; rfl
                have hr6 := HR.out
                have c2 : w6.cell? ⟨w3.heap.size, 2, none⟩ = some (.int .i64 M.s.p) := by rw [cell_of_row _ _ _ _ _ _ hr6]; rfl
                have f2 : w6.frozen? ⟨w3.heap.size, 2, none⟩ = false := by simp [World.frozen?, hr6]
                obtain ⟨r0, q0⟩ := row_set (i := 2) (.int .i64 (M.s.p + e.amount)) hr6
                have c6 : w6.cell? ⟨w3.heap.size, 6, none⟩ = some (.int .i64 M.s.o) := by rw [cell_of_row _ _ _ _ _ _ hr6]; rfl
                have f6 : w6.frozen? ⟨w3.heap.size, 6, none⟩ = false := by simp [World.frozen?, hr6]
                obtain ⟨r1, q1⟩ := row_set (i := 6) (.int .i64 (M.s.o + e.amount)) r0
                have HT : Hid (StRow w3.heap.size { M.added e with day := 0 } ((w6.setCell ⟨w3.heap.size, 2, none⟩ (.int .i64 (M.s.p + e.amount))).setCell ⟨w3.heap.size, 6, none⟩ (.int .i64 (M.s.o + e.amount)))) := Lib.hid (by rw [added1 hk]; exact r1)
                have HQ := Lib.hid ((hk6.trans q0).trans q1)
                clear hr6 hk6 hk HR r0 q0 r1 q1
                cases hl : M.lent
                · go_wp2
                  go_meet
                  case rel => exact ⟨_, _, rfl, rfl, Lib.hid (by simp [HK.out, hl]), Lib.hid (by simp [HK.out]), HT, HQ.out⟩
                · go_wp2
                  go_meet
                  case rel => exact ⟨_, _, rfl, rfl, Lib.hid (by simp [HK.out, hl]), Lib.hid (by simp [HK.out]), HT, HQ.out⟩
              · have HK := Lib.hid hk
                have t1 : (e.kind == 1) = false := by rw [hk]; rfl
                have t2 : (e.kind == 2) = true := by rw [hk]; rfl
                have hr6 := HR.out
                have c5 : w6.cell? ⟨w3.heap.size, 5, none⟩ = some (.int .i64 M.s.c) := by rw [cell_of_row _ _ _ _ _ _ hr6]; rfl
                have f5 : w6.frozen? ⟨w3.heap.size, 5, none⟩ = false := by simp [World.frozen?, hr6]
                obtain ⟨r0, q0⟩ := row_set (i := 5) (.int .i64 (M.s.c + e.amount)) hr6
                have c7 : w6.cell? ⟨w3.heap.size, 7, none⟩ = some (.int .i64 M.s.n) := by rw [cell_of_row _ _ _ _ _ _ hr6]; rfl
                have f7 : w6.frozen? ⟨w3.heap.size, 7, none⟩ = false := by simp [World.frozen?, hr6]
                obtain ⟨r1, q1⟩ := row_set (i := 7) (.int .i64 (M.s.n + e.amount)) r0
                have HT : Hid (StRow w3.heap.size { M.added e with day := 0 } ((w6.setCell ⟨w3.heap.size, 5, none⟩ (.int .i64 (M.s.c + e.amount))).setCell ⟨w3.heap.size, 7, none⟩ (.int .i64 (M.s.n + e.amount)))) := Lib.hid (by rw [added2 hk]; exact r1)
                have HQ := Lib.hid ((hk6.trans q0).trans q1)
                clear hr6 hk6 hk HR r0 q0 r1 q1
                go_wp2
                go_meet
                case rel => exact ⟨_, _, rfl, rfl, Lib.hid (by simp [HK.out]), Lib.hid (by simp [HK.out]), HT, HQ.out⟩
              · have HK := Lib.hid hk
                have t1 : (e.kind == 1) = false := by rw [hk]; rfl
                have t2 : (e.kind == 2) = false := by rw [hk]; rfl
                have t4 : (e.kind == 4) = true := by rw [hk]; rfl
                have hr6 := HR.out
                have c4 : w6.cell? ⟨w3.heap.size, 4, none⟩ = some (.int .i64 M.s.f) := by rw [cell_of_row _ _ _ _ _ _ hr6]; rfl
                have f4 : w6.frozen? ⟨w3.heap.size, 4, none⟩ = false := by simp [World.frozen?, hr6]
                obtain ⟨r0, q0⟩ := row_set (i := 4) (.int .i64 (M.s.f + e.amount)) hr6
                have c9 : w6.cell? ⟨w3.heap.size, 9, none⟩ = some (.int .i64 M.s.ch) := by rw [cell_of_row _ _ _ _ _ _ hr6]; rfl
                have f9 : w6.frozen? ⟨w3.heap.size, 9, none⟩ = false := by simp [World.frozen?, hr6]
                obtain ⟨r1, q1⟩ := row_set (i := 9) (.int .i64 (M.s.ch + e.amount)) r0
                have HT : Hid (StRow w3.heap.size { M.added e with day := 0 } ((w6.setCell ⟨w3.heap.size, 4, none⟩ (.int .i64 (M.s.f + e.amount))).setCell ⟨w3.heap.size, 9, none⟩ (.int .i64 (M.s.ch + e.amount)))) := Lib.hid (by rw [added4 hk]; exact r1)
                have HQ := Lib.hid ((hk6.trans q0).trans q1)
                clear hr6 hk6 hk HR r0 q0 r1 q1
                go_wp2
                go_meet
                case rel => exact ⟨_, _, rfl, rfl, Lib.hid (by simp [HK.out]), Lib.hid (by simp [HK.out]), HT, HQ.out⟩
              · have HK := Lib.hid hk
                have t1 : (e.kind == 1) = false := by rw [hk]; rfl
                have t2 : (e.kind == 2) = false := by rw [hk]; rfl
                have t4 : (e.kind == 4) = false := by rw [hk]; rfl
                have t3 : (e.kind == 3) = true := by rw [hk]; rfl
                have hr6 := HR.out
                have c1 : w6.cell? ⟨w3.heap.size, 1, none⟩ = some (.int .i64 M.s.rate) := by rw [cell_of_row _ _ _ _ _ _ hr6]; rfl
                have f1 : w6.frozen? ⟨w3.heap.size, 1, none⟩ = false := by simp [World.frozen?, hr6]
                obtain ⟨r0, q0⟩ := row_set (i := 1) (.int .i64 (e.amount)) hr6
                have HT : Hid (StRow w3.heap.size { M.added e with day := 0 } (w6.setCell ⟨w3.heap.size, 1, none⟩ (.int .i64 (e.amount)))) := Lib.hid (by rw [added3 hk]; exact r0)
                have HQ := Lib.hid (hk6.trans q0)
                clear hr6 hk6 hk HR r0 q0
                go_wp2
                go_meet
                case rel => exact ⟨_, _, rfl, rfl, Lib.hid (by simp [HK.out]), Lib.hid (by simp [HK.out]), HT, HQ.out⟩
            case rest =>
              obtain ⟨F1, F2, rfl, rfl, HF1, HF2, HA, hk8⟩ := hcut
              obtain ⟨w8, rfl⟩ : ∃ x, x = wc := ⟨_, rfl⟩
              clear hk6 HR x2 x3 x4
              have hra := HA.out
              have c6 : w8.cell? ⟨w3.heap.size, 6, none⟩ = some (.int .i64 (M.added e).o) := by rw [cell_of_row _ _ _ _ _ _ hra]; rfl
              have c7 : w8.cell? ⟨w3.heap.size, 7, none⟩ = some (.int .i64 (M.added e).n) := by rw [cell_of_row _ _ _ _ _ _ hra]; rfl
              have c9 : w8.cell? ⟨w3.heap.size, 9, none⟩ = some (.int .i64 (M.added e).ch) := by rw [cell_of_row _ _ _ _ _ _ hra]; rfl
              obtain ⟨HS8, HT, hbW, hb28⟩ := HB5.out _ hk8
              by_cases hov : over (M.added e)
              · have hans := HOVER.out M HM.out hov
                have hfin := ERR.out 4 w8 (stCells St.zero) hans hbW
                unfold over at hov
                generalize (M.added e).o = ao at *
                generalize (M.added e).n = an at *
                generalize (M.added e).ch = ac at *
                have h3 : 1000000000000000 < ao ∨ ¬ 1000000000000000 < ao ∧ 1000000000000000 < an ∨ ¬ 1000000000000000 < ao ∧ ¬ 1000000000000000 < an ∧ 1000000000000000 < ac := by omega
                clear hov HSTEP HOVER hra HA hans HS8
                rcases h3 with h1 | ⟨h1, h2⟩ | ⟨h1, h2, h3⟩
                · have t1 : decide (1000000000000000 < ao) = true := decide_eq_true h1
                  go_wp2_with (first
                    | (refine wpList_buildTo rfl 45 _ rfl _ rfl _ built_z ?_)
                    | (refine wpList_store_rowTo rfl 45 _ _ rfl rfl _ _ rfl rfl _ _ HT (info_st St.zero) rfl (st_one _) ?_))
                  exact bodyPost_ret (results_cell2E (fn := Tryz.f23) rfl _ _ (w.heap.size + 1) 45 (stCells St.zero) (0, 0) _ rfl (setRow_heap _ _ _ _ _ _ HT) Tryz.underlying45 rfl (info_st St.zero)) rfl hfin
                · have t1 : decide (1000000000000000 < ao) = false := decide_eq_false h1
                  have t2 : decide (1000000000000000 < an) = true := decide_eq_true h2
                  go_wp2_with (first
                    | (refine wpList_buildTo rfl 45 _ rfl _ rfl _ built_z ?_)
                    | (refine wpList_store_rowTo rfl 45 _ _ rfl rfl _ _ rfl rfl _ _ HT (info_st St.zero) rfl (st_one _) ?_))
                  exact bodyPost_ret (results_cell2E (fn := Tryz.f23) rfl _ _ (w.heap.size + 1) 45 (stCells St.zero) (0, 0) _ rfl (setRow_heap _ _ _ _ _ _ HT) Tryz.underlying45 rfl (info_st St.zero)) rfl hfin
                · have t1 : decide (1000000000000000 < ao) = false := decide_eq_false h1
                  have t2 : decide (1000000000000000 < an) = false := decide_eq_false h2
                  have t3 : decide (1000000000000000 < ac) = true := decide_eq_true h3
                  go_wp2_with (first
                    | (refine wpList_buildTo rfl 45 _ rfl _ rfl _ built_z ?_)
                    | (refine wpList_store_rowTo rfl 45 _ _ rfl rfl _ _ rfl rfl _ _ HT (info_st St.zero) rfl (st_one _) ?_))
                  exact bodyPost_ret (results_cell2E (fn := Tryz.f23) rfl _ _ (w.heap.size + 1) 45 (stCells St.zero) (0, 0) _ rfl (setRow_heap _ _ _ _ _ _ HT) Tryz.underlying45 rfl (info_st St.zero)) rfl hfin
              · obtain ⟨hs1, hs2⟩ := HSTEP.out M HM.out hov
                rw [← HF1.out, ← HF2.out] at hs1 hs2
                have HS1 := Lib.hid hs1
                have HS2 := Lib.hid hs2
                have hlow := added_low HFM.out he h5
                have SPD := Lib.hid fun W => refSpend_any p { M.added e with day := 0 } W hp ⟨hlow.p0, hlow.p1, hlow.i0, hlow.i1, hlow.f0, hlow.f1, hlow.c0, hlow.c1⟩
                rw [spendAll_day] at SPD
                unfold over at hov
                rw [not_or, not_or] at hov
                obtain ⟨o1, o2, o3⟩ := hov
                have t1 : decide (1000000000000000 < (M.added e).o) = false := decide_eq_false o1
                have t2 : decide (1000000000000000 < (M.added e).n) = false := decide_eq_false o2
                have t3 : decide (1000000000000000 < (M.added e).ch) = false := decide_eq_false o3
                have d5 : w8.cell? ⟨w.heap.size, 5, none⟩ = some (.int .i64 p.o1) := by rw [cell_of_row _ _ _ _ _ _ HS8, HSS.out]; rfl
                have d6 : w8.cell? ⟨w.heap.size, 6, none⟩ = some (.int .i64 p.o2) := by rw [cell_of_row _ _ _ _ _ _ HS8, HSS.out]; rfl
                have d7 : w8.cell? ⟨w.heap.size, 7, none⟩ = some (.int .i64 p.o3) := by rw [cell_of_row _ _ _ _ _ _ HS8, HSS.out]; rfl
                clear hs1 hs2 hlow o1 o2 o3 HSTEP HOVER HT hbW hb28 HS8 HM HM12 HFM
                have hra' : w8.heap[w3.heap.size]? = some (.cells (stCells { M.added e with day := 0 }) 45 (0, 0)) := hra
                go_upto_region 46 with (fail)
                clear c6 c7 c9 t1 t2 t3
                go_step
                refine wpList_load_row rfl 45 _ rfl _ rfl _ _ _ _ hra' Tryz.underlying45 rfl (info_st _) ?_
                go_wp2_with fail
                refine (SPD.out _).mono ?_
                rintro x w9 ⟨rfl, hb9⟩
                have hr9 := (hb9.block _ (Array.getElem?_eq_some_iff.1 hra').1).trans hra'
                have HR9 := Lib.hid (setRow_heap w9 w3.heap.size (stCells { M.added e with day := 0 }) (stCells { spendAll p (M.added e) with day := 0 }) 45 (0, 0) hr9)
                have HK9 := Lib.hid ((hk8.trans (KeptBut.of_below hb9)).setRow (stCells { spendAll p (M.added e) with day := 0 }))
                clear d5 d6 d7 hb9 hk8 hra hra' HA SPD
                unfold St.val
                go_wp2_with (first
                  | (refine wpList_store_rowTo rfl 45 _ _ rfl rfl _ _ rfl rfl _ _ hr9 (info_st _) rfl (st_one _) ?_))
                go_roundw
                case rel => exact ⟨k + 1, _, e.day, by omega, by go_num, rfl, rfl, rfl, HS2, HS1, HR9, HK9.out⟩
                case measure => simp [intOf]; omega
      case rest =>
        obtain ⟨L, day, k, rfl, rfl, rfl, hAt, HRUN, HRQ, hkq⟩ := hcut
        obtain ⟨w5, rfl⟩ : ∃ x, x = wc := ⟨_, rfl⟩
        have HF := Lib.hid hAt.out.fine
        have HDY := Lib.hid hAt.out.day
        clear hAt
        have HANS2 : Hid (ans = match endOf p L v with | none => (.zero, 4) | some s => (s, 0)) := Lib.hid (by rw [HAN2.out, HRUN.out])
        clear HRUN HAN2 HEV
        have hr5 := HRQ.out
        go_upto_if 203 with (fail)
        go_cut [] from 203 to 217 (fun wx => ∃ M, Hid (toDay p.conv L v = some M) ∧ Hid (StRow w3.heap.size { M.s with day := 0 } wx) ∧ KeptBut w3.heap.size w4 wx)
        case first =>
          have hdy := HDY.out
          by_cases hdl : day < v
          · have hb1 : L.began = true := by
              cases hb : L.began with
              | true => rfl
              | false =>
                rw [hb] at hdy
                simp only [Bool.false_eq_true, if_false] at hdy
                omega
            rw [if_pos hb1] at hdy
            subst hdy
            have hto : toDay p.conv L v = (accr p.conv L.s v).map fun s => { L with s := s } := by
              unfold toDay
              rw [if_neg (by rw [not_or]; exact ⟨by simp [hb1], by omega⟩)]
            have hF0 := HF.out
            have hcm := count_mono (c := p.conv) (hF0.d0 hb1) (Int.le_refl L.s.day) (show L.s.day ≤ v by omega) v1
            rw [count_same] at hcm
            have hct := count_top p.conv (hF0.d0 hb1) (show L.s.day ≤ v by omega) v1
            have RA := Lib.hid fun W => refAccrue_any { L.s with day := 0 } p.conv L.s.day v W hp.conv0 hp.conv1 (hF0.d0 hb1) (hF0.d1 hb1) v0 v1 (by omega) hF0.p0 (by have := hF0.p1; have := hF0.o1; simp only; omega) hF0.r0 hF0.r1 hF0.i0 hF0.i1 hF0.a1 hcm.1 (by omega)
            have hS5 := (HB5.out _ hkq).1
            have c2 : w5.cell? ⟨w.heap.size, 2, none⟩ = some (.int .i64 p.conv) := by rw [cell_of_row _ _ _ _ _ _ hS5, HSS.out]; rfl
            have hr5' : w5.heap[w3.heap.size]? = some (.cells (stCells { L.s with day := 0 }) 45 (0, 0)) := hr5
            have HTO := Lib.hid hto
            have td : decide (L.s.day < v) = true := decide_eq_true hdl
            clear hto hcm hct hF0 hb1 hS5
            go_upto_region 49 with (fail)
            go_step
            refine wpList_load_row rfl 45 _ rfl _ rfl _ _ _ _ hr5' Tryz.underlying45 rfl (info_st _) ?_
            go_wp2_with fail
            refine (RA.out _).mono ?_
            rintro x w6 ⟨hb6, (⟨hn, rfl⟩ | ⟨T, hT, hx⟩)⟩
            · have hans : ans = (St.zero, 4) := by
                rw [HANS2.out]
                unfold endOf
                rw [HTO.out, show accr p.conv L.s v = none from hn]
                rfl
              have HK6 := Lib.hid (hkq.trans (KeptBut.of_below hb6))
              clear hn HTO RA hr5 hr5' c2 hkq hb6 HRQ td
              unfold St.val
              go_upto_region 50 with (first | (refine alloc_store rfl rfl 45 _ _ rfl rfl rfl rfl (stCells St.zero) rfl rfl (zero_st _) (info_st _) (st_one _) ?_))
              refine wp_at (fun wx => KeptBut w3.heap.size w4 wx) (HK6.out.trans (KeptBut.of_below ((Below.refl _ _).alloc (Nat.le_refl _) _))) ?_
              rintro w7 hk7
              obtain ⟨_, HT, hbW, _⟩ := HB5.out _ hk7
              have hfin := ERR.out 4 w7 (stCells St.zero) hans hbW
              go_wp2_with (first
                | (refine wpList_buildTo rfl 45 _ rfl _ rfl _ built_z ?_)
                | (refine wpList_store_rowTo rfl 45 _ _ rfl rfl _ _ rfl rfl _ _ HT (info_st St.zero) rfl (st_one _) ?_))
              exact bodyPost_ret (results_cell2E (fn := Tryz.f23) rfl _ _ (w.heap.size + 1) 45 (stCells St.zero) (0, 0) _ rfl (setRow_heap _ _ _ _ _ _ HT) Tryz.underlying45 rfl (info_st St.zero)) rfl hfin
            · have hM : toDay p.conv L v = some { L with s := T } := by rw [HTO.out, show accr p.conv L.s v = some T from hT]; rfl
              have HM := Lib.hid hM
              obtain ⟨T0, hT0'⟩ : ∃ T0 : St, T0 = ({ T with day := ({ L.s with day := 0 } : St).day } : St) := ⟨_, rfl⟩
              rw [← hT0'] at hx
              have hT0 : T0 = { T with day := 0 } := hT0'
              clear hT0'
              unfold St.val at hx
              subst hx
              have HR6 : Hid (StRow w3.heap.size { L.s with day := 0 } w6) := Lib.hid ((hb6.block _ (Array.getElem?_eq_some_iff.1 hr5).1).trans hr5)
              have HK6 := Lib.hid (hkq.trans (KeptBut.of_below hb6))
              have HT0 : Hid (∀ W, W.heap[w3.heap.size]? = some (.cells (stCells T0) 45 (0, 0)) → Hid (StRow w3.heap.size { ({ L with s := T } : Ln).s with day := 0 } W)) := Lib.hid fun W h => Lib.hid (by rw [hT0] at h; exact h)
              clear hT0 hT hM HTO RA hr5 hr5' c2 hkq hb6 HRQ td
              go_upto_region 50 with (first | (refine alloc_store rfl rfl 45 _ _ rfl rfl rfl rfl (stCells T0) rfl rfl (zero_st _) (info_st _) (st_one _) ?_))
              refine wp_at (fun wx => wx.heap[w6.heap.size]? = some (.cells (stCells T0) 45 (0, 0)) ∧ wx.heap[w3.heap.size]? = some (.cells (stCells { L.s with day := 0 }) 45 (0, 0)) ∧ KeptBut w3.heap.size w4 wx) ⟨heap_alloc_new _ _, heap_old HR6.out, HK6.out.trans (KeptBut.of_below ((Below.refl _ _).alloc (Nat.le_refl _) _))⟩ ?_
              rintro w7 ⟨hn7, hr7, hk7⟩
              go_wp2_with (first
                | (refine wpList_load_row rfl 45 _ rfl _ rfl _ _ _ _ hn7 Tryz.underlying45 rfl (info_st _) ?_)
                | (refine wpList_store_rowTo rfl 45 _ _ rfl rfl _ _ rfl rfl _ _ hr7 (info_st _) rfl (st_one _) ?_))
              go_meet
              case rel => exact ⟨_, HM, HT0.out _ (setRow_heap _ _ _ _ _ _ hr7), hk7.setRow _⟩
          · have hM : Hid (toDay p.conv L v = some L) := Lib.hid (by
              unfold toDay
              cases hb : L.began with
              | false => rw [if_pos (.inl rfl)]
              | true =>
                rw [hb] at hdy
                simp only [if_true] at hdy
                rw [if_pos (.inr (by omega))])
            have td : decide (day < v) = false := decide_eq_false hdl
            clear hr5 hdy
            go_wp2
            go_meet
            case rel => exact ⟨L, hM, HRQ, hkq⟩
        case rest =>
          obtain ⟨M, HM, HR, hk6⟩ := hcut
          obtain ⟨w6, rfl⟩ : ∃ x, x = wc := ⟨_, rfl⟩
          clear hr5 hkq HRQ HDY
          have hFM := toDay_fine HF.out v0 v1 HM.out
          have m1 := hFM.1
          have m2 := hFM.2.1
          have m4 := hFM.2.2.2.1
          clear hFM
          have HFM := Lib.hid m1
          rw [← m2, ← m4]
          have HE : Hid (endOf p L v = some (if M.lent then { M.s with day := v, late := lateOf p M.first M.s.o (M.s.o - M.s.p) v, bk := (bucketOf p (lateOf p M.first M.s.o (M.s.o - M.s.p) v) : Nat) } else { M.s with day := v })) := Lib.hid (by unfold endOf; rw [HM.out])
          clear m1 m2 m4 HF HM
          have hr6 := HR.out
          have c0 : w6.cell? ⟨w3.heap.size, 0, none⟩ = some (.int .i64 0) := by rw [cell_of_row _ _ _ _ _ _ hr6]; rfl
          have f0 : w6.frozen? ⟨w3.heap.size, 0, none⟩ = false := by simp [World.frozen?, hr6]
          obtain ⟨r1, q1⟩ := row_set (i := 0) (.int .i64 v) hr6
          have HR1 : Hid (StRow w3.heap.size { M.s with day := v } (w6.setCell ⟨w3.heap.size, 0, none⟩ (.int .i64 v))) := Lib.hid r1
          have HQ1 := Lib.hid (hk6.trans q1)
          clear hr6 r1 q1 hk6 HR
          go_upto_region 54 with (fail)
          refine wp_at (fun wx => StRow w3.heap.size { M.s with day := v } wx ∧ KeptBut w3.heap.size w4 wx) ⟨HR1.out, HQ1.out⟩ ?_
          rintro w7 ⟨hr7, hk7⟩
          clear HR1 HQ1 c0 f0
          cases hl : M.lent
          · have HANSF : Hid (ans = ({ M.s with day := v }, 0)) := Lib.hid (by rw [HANS2.out, HE.out, hl]; rfl)
            obtain ⟨_, HT, hbW, _⟩ := HB5.out _ hk7
            have hr7' : w7.heap[w3.heap.size]? = some (.cells (stCells { M.s with day := v }) 45 (0, 0)) := hr7
            clear HE HANS2 hr7
            generalize ({ M.s with day := v } : St) = TT at *
            go_wp2_with (first
              | (refine wpList_load_row rfl 45 _ rfl _ rfl _ _ _ _ hr7' Tryz.underlying45 rfl (info_st _) ?_)
              | (refine wpList_store_rowTo rfl 45 _ _ rfl rfl _ _ rfl rfl _ _ HT (info_st _) rfl (st_one _) ?_))
            exact bodyPost_ret (results_cell2E (fn := Tryz.f23) rfl _ _ (w.heap.size + 1) 45 (stCells TT) (0, 0) _ rfl (setRow_heap _ _ _ _ _ _ HT) Tryz.underlying45 rfl (info_st _)) rfl ⟨by rw [HANSF.out]; rfl, below_row hbW (by omega) _⟩
          · have hF := HFM.out
            obtain ⟨g1, g2⟩ := hF.first hl
            have p0 := hF.p0
            have p1 := hF.p1
            have o1 := hF.o1
            have hla := lateAns_fine hp g1 g2 v0 v1 (out := M.s.o) (repaid := M.s.o - M.s.p) (by omega) o1 (by omega) (by omega)
            obtain ⟨hS7, HT7, hbW7, hb27⟩ := HB5.out _ hk7
            have LT := HLT.out M.first M.s.o (M.s.o - M.s.p) w7 (hA2.out.below hb27) (by omega) (by omega)
            rw [hla] at LT
            simp only at LT
            have HLA := Lib.hid LT
            have HANSF : Hid (ans = ({ M.s with day := v, late := lateOf p M.first M.s.o (M.s.o - M.s.p) v, bk := (bucketOf p (lateOf p M.first M.s.o (M.s.o - M.s.p) v) : Nat) }, 0)) := Lib.hid (by rw [HANS2.out, HE.out, hl]; rfl)
            generalize lateOf p M.first M.s.o (M.s.o - M.s.p) v = lt at *
            generalize ((bucketOf p lt : Nat) : Int) = bt at *
            have c6 : w7.cell? ⟨w3.heap.size, 6, none⟩ = some (.int .i64 M.s.o) := by rw [cell_of_row _ _ _ _ _ _ hr7]; rfl
            have c2 : w7.cell? ⟨w3.heap.size, 2, none⟩ = some (.int .i64 M.s.p) := by rw [cell_of_row _ _ _ _ _ _ hr7]; rfl
            clear LT HE HANS2 hla HT7 hbW7 hb27
            go_upto_region 55 with (fail)
            go_step
            refine wpList_load_row rfl 25 _ rfl _ rfl _ _ _ _ hS7 Tryz.underlying25 rfl hi ?_
            go_wp2_with fail
            with_reducible refine HLA.out.mono ?_
            rintro x w8 ⟨rfl, hb8⟩
            have hr8 := (hb8.block _ (Array.getElem?_eq_some_iff.1 hr7).1).trans hr7
            have hk8 := hk7.trans (KeptBut.of_below hb8)
            have f10 : w8.frozen? ⟨w3.heap.size, 10, none⟩ = false := by simp [World.frozen?, hr8]
            have f11 : w8.frozen? ⟨w3.heap.size, 11, none⟩ = false := by simp [World.frozen?, hr8]
            have c10 : w8.cell? ⟨w3.heap.size, 10, none⟩ = some (.int .i64 M.s.late) := by rw [cell_of_row _ _ _ _ _ _ hr8]; rfl
            have c11 : w8.cell? ⟨w3.heap.size, 11, none⟩ = some (.int .i64 M.s.bk) := by rw [cell_of_row _ _ _ _ _ _ hr8]; rfl
            obtain ⟨r1, q1⟩ := row_set (i := 10) (.int .i64 lt) hr8
            obtain ⟨r2, q2⟩ := row_set (i := 11) (.int .i64 bt) r1
            have HR2 : Hid (StRow w3.heap.size { M.s with day := v, late := lt, bk := bt } ((w8.setCell ⟨w3.heap.size, 10, none⟩ (.int .i64 lt)).setCell ⟨w3.heap.size, 11, none⟩ (.int .i64 bt))) := Lib.hid r2
            have HQ2 := Lib.hid ((hk8.trans q1).trans q2)
            clear c6 c2 hS7 hr7 hk7 hb8 hr8 hk8 r1 r2 q1 q2 HLA hF g1 g2
            go_upto_region 56 with (fail)
            refine wp_at (fun wx => StRow w3.heap.size { M.s with day := v, late := lt, bk := bt } wx ∧ KeptBut w3.heap.size w4 wx) ⟨HR2.out, HQ2.out⟩ ?_
            rintro w9 ⟨hr9, hk9⟩
            obtain ⟨_, HT, hbW, _⟩ := HB5.out _ hk9
            have hr9' : w9.heap[w3.heap.size]? = some (.cells (stCells { M.s with day := v, late := lt, bk := bt }) 45 (0, 0)) := hr9
            clear hr9 HR2 HQ2 f10 f11 c10 c11
            generalize ({ M.s with day := v, late := lt, bk := bt } : St) = TT at *
            go_wp2_with (first
              | (refine wpList_load_row rfl 45 _ rfl _ rfl _ _ _ _ hr9' Tryz.underlying45 rfl (info_st _) ?_)
              | (refine wpList_store_rowTo rfl 45 _ _ rfl rfl _ _ rfl rfl _ _ HT (info_st _) rfl (st_one _) ?_))
            exact bodyPost_ret (results_cell2E (fn := Tryz.f23) rfl _ _ (w.heap.size + 1) 45 (stCells TT) (0, 0) _ rfl (setRow_heap _ _ _ _ _ _ HT) Tryz.underlying45 rfl (info_st _)) rfl ⟨by rw [HANSF.out]; rfl, below_row hbW (by omega) _⟩
end Go.Proofs.YtcbopgopegphlaaGreat
