/-
  The walk of Replay. No statement is proved here.
-/
import Derived.Test.YtcbopgopegphlaaAcLL
import Derived.Test.YtcbopgopegphlaaAcEE
import Derived.Lib.QuietBelow
import Derived.BigQuiet
namespace Go.Proofs.Ytcbopgopegphlaa
open Go.RowKit
set_option linter.unusedVariables false

/-- A slice of events. -/
def RdE (w : World) (A : Option Addr) (n : Nat) (l : List Ev) : Prop :=
  l.length = n ∧ (0 < n → ∃ b off, A = some ⟨b, off, none⟩ ∧ ∀ j (h : j < l.length) k u, (evCells l[j])[k]? = some u → w.cell? ⟨b, off + j * 6 + k, none⟩ = some u)
theorem RdE.below {w w' : World} {A : Option Addr} {n : Nat} {l : List Ev} (h : RdE w A n l) (hb : Below w.heap.size w w') : RdE w' A n l :=
  ⟨h.1, fun hn => by
    obtain ⟨b, off, e, hc⟩ := h.2 hn
    exact ⟨b, off, e, fun j hj k u hu => cell_later hb (hc j hj k u hu)⟩⟩
theorem info_ev (e : Ev) : (Try.prog.info? 38).map (·.size) = some (evCells e).size := by rw [show (evCells e).size = 6 from rfl]; kernel_rfl
theorem evsOk_take {l : List Ev} {j : Nat} (h : EvsOk l) (hj : j < l.length) : l[j].Ok ∧ l[j].kind ≠ 5 ∧ ∀ (h0 : 0 < j), before l[j - 1] l[j] := h j hj
theorem replay_prod {p : Prod} {l : List Ev} {v : Int} (h : ¬ p.Ok) : replayAns p l v = (.zero, 50) := by unfold replayAns; rw [if_pos h]
theorem replay_date {p : Prod} {l : List Ev} {v : Int} (h : p.Ok) (hv : ¬ (-719162 ≤ v ∧ v ≤ 2932896)) : replayAns p l v = (.zero, 6) := by unfold replayAns; rw [if_neg (by simpa using h), if_pos hv]
theorem replay_long {p : Prod} {l : List Ev} {v : Int} (h : p.Ok) (hv : -719162 ≤ v ∧ v ≤ 2932896) (hl : 4096 < l.length) : replayAns p l v = (.zero, 3) := by unfold replayAns; rw [if_neg (by simpa using h), if_neg (by simpa using hv), if_pos hl]
theorem replay_bad {p : Prod} {l : List Ev} {v : Int} (h : p.Ok) (hv : -719162 ≤ v ∧ v ≤ 2932896) (hl : ¬ 4096 < l.length) (he : ¬ EvsOk l) : replayAns p l v = (.zero, 52) := by unfold replayAns; rw [if_neg (by simpa using h), if_neg (by simpa using hv), if_neg hl, if_pos he]
theorem replay_run {p : Prod} {l : List Ev} {v : Int} (h : p.Ok) (hv : -719162 ≤ v ∧ v ≤ 2932896) (hl : ¬ 4096 < l.length) (he : EvsOk l) : replayAns p l v = match evRun p v (Ln.start p) l with
    | none => (.zero, 4)
    | some L => match endOf p L v with | none => (.zero, 4) | some s => (s, 0) := by unfold replayAns; rw [if_neg (by simpa using h), if_neg (by simpa using hv), if_neg hl, if_neg (by simpa using he)]; cases evRun p v (Ln.start p) l with | none => rfl | some L => cases endOf p L v <;> rfl
theorem ev_one (e : Ev) : (evCells e).all (·.oneCell') = true := by simp [evCells, Value.oneCell']
theorem start_fine {p : Prod} (hp : p.Ok) : (Ln.start p).Fine :=
  ⟨fun h => (by cases h), fun h => (by cases h), hp.rate0, hp.rate1, by simp [Ln.start], by simp [Ln.start], by simp [Ln.start], by simp [Ln.start], by simp [Ln.start], by simp [Ln.start], by simp [Ln.start], by simp [Ln.start], by simp [Ln.start], by simp [Ln.start], by simp [Ln.start], by simp [Ln.start], by simp [Ln.start], rfl, rfl, .inl rfl, fun h => (by cases h)⟩
set_option maxRecDepth 100000 in
set_option maxHeartbeats 4000000 in
theorem Replay_any (p : Prod) (A : Option Addr) (n c : Nat) (E : Option Addr) (m ce : Nat) (l : List Ev) (v : Int) (w : World) (hA : RdI w A n p.bounds) (hE : RdE w E m l) (hm : m ≤ 1000000000000000000) :
    Calls Try.prog 13 #[p.val (.slice A n c), .slice E m ce, .int .i64 v] w fun e w' => e = .returned (.tuple #[(replayAns p l v).1.val, .int .i64 (replayAns p l v).2]) ∧ Below w.heap.size w w' := by
  generalize hans : replayAns p l v = ans
  have HANS := Lib.hid hans
  clear hans
  have HC := Lib.hid fun W hW => Check_any p A n c W hW
  have HBG := Lib.hid fun W => Begin_any p (.slice A n c) rfl W
  obtain ⟨S, hS⟩ : ∃ S, S = pCells p (.slice A n c) := ⟨_, rfl⟩
  have hval : p.val (.slice A n c) = .agg S := by rw [hS]; rfl
  have hi : (Try.prog.info? 25).map (·.size) = some S.size := by rw [hS]; exact info_prod _ _
  rw [hval] at HC HBG ⊢
  clear hS hval
  obtain ⟨w1, hw1⟩ : ∃ w1, w1 = (w.alloc (.cells S 25)).alloc (.cells #[.int .i64 0, .int .i64 0, .int .i64 0, .int .i64 0, .int .i64 0, .int .i64 0, .int .i64 0, .int .i64 0, .int .i64 0, .int .i64 0, .int .i64 0, .int .i64 0] 40) := ⟨_, rfl⟩
  have hb1 : Below w.heap.size w w1 := by rw [hw1]; exact ((Below.refl _ _).alloc (Nat.le_refl _) _).alloc (by simp) _
  have hS1 : w1.heap[w.heap.size]? = some (.cells S 25 (0, 0)) := by rw [hw1]; exact heap_old (heap_alloc_new _ _)
  have hT1 : w1.heap[w.heap.size + 1]? = some (.cells (stCells St.zero) 40 (0, 0)) := by rw [hw1, ← World.size_alloc w]; exact heap_alloc_new _ _
  have hz1 : w1.heap.size = w.heap.size + 2 := by rw [hw1]; simp
  have hA1 := Lib.hid (hA.below hb1)
  have hE1 := Lib.hid (hE.below hb1)
  clear hA
  have mixed : Try.prog.follows .mixedOrders = true := by kernel_rfl
  go_enter Try.func13, Try.ntmps13
  go_upto_region 1 with (fail)
  rw [← hw1]
  clear hw1
  go_step
  refine wpList_load_row rfl 25 _ rfl _ rfl _ _ _ _ hS1 Try.underlying25 rfl hi ?_
  go_wp2_with fail
  refine (HC.out _ hA1.out).mono ?_
  rintro e w2 ⟨rfl, hb2⟩
  have hbb := hb1.trans (hb2.mono hb1.size)
  have hS2 := (hb2.block w.heap.size (by omega)).trans hS1
  have hT2 := (hb2.block (w.heap.size + 1) (by omega)).trans hT1
  have hA2 := Lib.hid (hA1.out.below hb2)
  have hE2 := Lib.hid (hE1.out.below hb2)
  have hz2 := hb2.size
  clear hS1 hT1 hb1 hb2 hA1 hE1 HC
  have ERR : Hid (∀ (e : Int) (W : World) (cs : Array Value) (hans : ans = (St.zero, e)), Below w.heap.size w W → Ending.returned (.tuple #[.agg (stCells St.zero), .int .i64 e]) = Ending.returned (.tuple #[ans.1.val, .int .i64 ans.2]) ∧ Below w.heap.size w (W.setRow (w.heap.size + 1) cs)) := Lib.hid fun e W cs hans hW => ⟨by rw [hans]; rfl, below_row hW (by omega) _⟩
  by_cases hp : p.Ok
  case neg =>
    have ha := ERR.out 50 w2 (stCells St.zero) (by rw [← HANS.out, replay_prod hp]) hbb
    rw [if_neg hp]
    clear HANS HBG hE
    go_wp2_with (first
      | (refine wpList_buildTo rfl 40 _ rfl _ rfl _ built_z ?_)
      | (refine wpList_store_rowTo rfl 40 _ _ rfl rfl _ _ rfl rfl _ _ hT2 (info_st St.zero) rfl (st_one _) ?_))
    exact bodyPost_ret (results_cell2E (fn := Try.f13) rfl _ _ (w.heap.size + 1) 40 (stCells St.zero) (0, 0) _ rfl (setRow_heap _ _ _ _ _ _ hT2) Try.underlying40 rfl (info_st St.zero)) rfl ha
  rw [if_pos hp]
  by_cases hv : -719162 ≤ v ∧ v ≤ 2932896
  case neg =>
    have ha := ERR.out 6 w2 (stCells St.zero) (by rw [← HANS.out, replay_date hp hv]) hbb
    clear HANS HBG hE
    rcases (show v < -719162 ∨ -719162 ≤ v ∧ 2932896 < v by omega) with hv2 | ⟨hv2, hv3⟩
    all_goals
      clear hv
      go_wp2_with (first
        | (refine wpList_buildTo rfl 40 _ rfl _ rfl _ built_z ?_)
        | (refine wpList_store_rowTo rfl 40 _ _ rfl rfl _ _ rfl rfl _ _ hT2 (info_st St.zero) rfl (st_one _) ?_))
      exact bodyPost_ret (results_cell2E (fn := Try.f13) rfl _ _ (w.heap.size + 1) 40 (stCells St.zero) (0, 0) _ rfl (setRow_heap _ _ _ _ _ _ hT2) Try.underlying40 rfl (info_st St.zero)) rfl ha
  obtain ⟨v0, v1⟩ := hv
  have hlm := hE.1
  clear hE
  by_cases hl : 4096 < m
  · have ha := ERR.out 3 w2 (stCells St.zero) (by rw [← HANS.out, replay_long hp ⟨v0, v1⟩ (by omega)]) hbb
    clear HANS HBG
    go_wp2_with (first
      | (refine wpList_buildTo rfl 40 _ rfl _ rfl _ built_z ?_)
      | (refine wpList_store_rowTo rfl 40 _ _ rfl rfl _ _ rfl rfl _ _ hT2 (info_st St.zero) rfl (st_one _) ?_))
    exact bodyPost_ret (results_cell2E (fn := Try.f13) rfl _ _ (w.heap.size + 1) 40 (stCells St.zero) (0, 0) _ rfl (setRow_heap _ _ _ _ _ _ hT2) Try.underlying40 rfl (info_st St.zero)) rfl ha
  go_wp2
  go_loopw [34] (fun i wr => ∃ j : Nat, j ≤ m ∧ i = .int .i64 j ∧ Hid (∀ k (h : k < l.length), k < j → l[k].Ok ∧ l[k].kind ≠ 5 ∧ ∀ (h0 : 0 < k), before l[k - 1] l[k]) ∧ Below w2.heap.size w2 wr) (fun i _ => m - (intOf i).toNat)
  case atStart => exact ⟨0, by omega, rfl, Lib.hid (fun k h hk => by omega), Below.refl _ _⟩
  case round =>
    obtain ⟨j, hj, rfl, hok, hbr⟩ := hrel
    have hbR := hbb.trans (hbr.mono hbb.size)
    have hTR := (hbr.block (w.heap.size + 1) (by omega)).trans hT2
    have hzr := hbr.size
    by_cases hlt : j < m
    · obtain ⟨b, off, rfl, hcs⟩ := (hE2.out.below hbr).2 (by omega)
      have hjl : j < l.length := by omega
      have hrow := hcs j hjl
      have hj1 : j - 1 < l.length := by omega
      have hprev : 0 < j → ∀ k u, (evCells (l[j - 1]'hj1))[k]? = some u → wr.cell? ⟨b, off + (j - 1) * 6 + k, none⟩ = some u := fun h0 k u hu => hcs (j - 1) hj1 k u hu
      have hbad : Hid (¬ (l[j].Ok ∧ l[j].kind ≠ 5 ∧ (0 < j → before (l[j - 1]'hj1) l[j])) → ¬ EvsOk l) := Lib.hid fun h hall => h ⟨(hall j hjl).1, (hall j hjl).2.1, (hall j hjl).2.2⟩
      have hgood : Hid ((l[j].Ok ∧ l[j].kind ≠ 5 ∧ (0 < j → before (l[j - 1]'hj1) l[j])) → ∀ k (h : k < l.length), k < j + 1 → l[k].Ok ∧ l[k].kind ≠ 5 ∧ ∀ (h0 : 0 < k), before l[k - 1] l[k]) := Lib.hid fun h k hk hk1 => by
        by_cases ek : k = j
        · subst ek; exact ⟨h.1, h.2.1, h.2.2⟩
        · exact hok.out k hk (by omega)
      generalize l[j - 1]'hj1 = pe at *
      generalize l[j] = e at *
      clear hok hcs
      have hmid : wr.rangeAt b (off + j * 6) (evCells e).toList := fun k u hu => hrow k u (by simpa using hu)
      have hi6 : (Try.prog.info? 38).map (·.size) = some (evCells e).toList.length := by rw [show (evCells e).toList.length = 6 from rfl]; kernel_rfl
      go_upto_region 11 with (first
        | (refine wpList_load_mid rfl 38 _ rfl b (off + j * 6) rfl (evCells e).toList _ hmid Try.underlying38 rfl hi6 ?_)
        | (refine wpList_store_rowTo rfl 38 _ _ rfl rfl _ _ rfl rfl _ _ (heap_alloc_new _ _) (info_ev e) rfl (ev_one e) ?_))
      refine wp_at (fun wx => wx.heap[wr.heap.size]? = some (.cells (evCells e) 38 (0, 0)) ∧ Below wr.heap.size wr wx) (by rw [World.setRow_alloc_new]; exact ⟨heap_alloc_new _ _, (Below.refl _ _).alloc (Nat.le_refl _) _⟩) ?_
      rintro w5 ⟨hev5, hb5⟩
      have hbR5 := hbr.trans (hb5.mono hbr.size)
      have x0 : w5.cell? ⟨wr.heap.size, 0, none⟩ = some (.int .i64 e.seq) := by rw [cell_of_row _ _ _ _ _ _ hev5]; rfl
      have x1 : w5.cell? ⟨wr.heap.size, 1, none⟩ = some (.string e.loan) := by rw [cell_of_row _ _ _ _ _ _ hev5]; rfl
      have x2 : w5.cell? ⟨wr.heap.size, 2, none⟩ = some (.int .i64 e.day) := by rw [cell_of_row _ _ _ _ _ _ hev5]; rfl
      have x3 : w5.cell? ⟨wr.heap.size, 3, none⟩ = some (.int .i64 e.kind) := by rw [cell_of_row _ _ _ _ _ _ hev5]; rfl
      have x4 : w5.cell? ⟨wr.heap.size, 4, none⟩ = some (.int .i64 e.amount) := by rw [cell_of_row _ _ _ _ _ _ hev5]; rfl
      have x5 : w5.cell? ⟨wr.heap.size, 5, none⟩ = some (.int .i64 e.ref) := by rw [cell_of_row _ _ _ _ _ _ hev5]; rfl
      have HCB : Hid (∀ W, Calls Try.prog 17 #[.agg #[.int .i64 e.seq, .string e.loan, .int .i64 e.day, .int .i64 e.kind, .int .i64 e.amount, .int .i64 e.ref]] W fun x w' => (∃ r, x = .returned (.int .i64 r) ∧ (r = 0 ↔ e.Ok)) ∧ Below W.heap.size W w') := Lib.hid fun W => bCheck_any e W
      have HCC : Hid (∀ W, Calls Try.prog 17 #[.agg #[.int .i64 e.seq, .string e.loan, .int .i64 e.day, .int .i64 e.kind, .int .i64 e.amount, .int .i64 e.ref]] W fun x w' => x = .returned (.int .i64 (bcode e)) ∧ Below W.heap.size W w') := Lib.hid fun W => bCheck_code e W
      have hprev5 : 0 < j → ∀ k u, (evCells pe)[k]? = some u → w5.cell? ⟨b, off + (j - 1) * 6 + k, none⟩ = some u := fun h0 k u hu => cell_later hb5 (hprev h0 k u hu)
      clear hmid hi6 hrow hprev hev5
      have HERR : Hid (∀ W, Below w5.heap.size w5 W → ¬ EvsOk l → W.heap[w.heap.size + 1]? = some (.cells (stCells St.zero) 40 (0, 0)) ∧ Ending.returned (.tuple #[.agg (stCells St.zero), .int .i64 52]) = Ending.returned (.tuple #[ans.1.val, .int .i64 ans.2]) ∧ Below w.heap.size w (W.setRow (w.heap.size + 1) (stCells St.zero))) := Lib.hid fun W hW hbad =>
        ⟨((hbR5.trans (hW.mono hbR5.size)).block (w.heap.size + 1) (by omega)).trans hT2, ERR.out 52 W (stCells St.zero) (by rw [← HANS.out, replay_bad hp ⟨v0, v1⟩ (by omega) hbad]) (hbb.trans ((hbR5.trans (hW.mono hbR5.size)).mono hbb.size))⟩
      have HBR := Lib.hid hbR5
      clear hbR5 hbr hbR hTR
      by_cases hok1 : e.Ok
      case neg =>
        have hbe : Hid (¬ EvsOk l) := Lib.hid (hbad.out fun h => hok1 h.1)
        have hcode : bcode e = 51 ∨ bcode e = 6 ∨ bcode e = 52 := by
          unfold bcode
          split
          · exact .inl rfl
          · split
            · exact .inr (.inl rfl)
            · exact .inr (.inr (by first | rfl | rw [if_neg hok1]))
        rcases hcode with hcode | hcode | hcode
        · have HCK := Lib.hid fun W => (HCC.out W).mono fun x w' ⟨h1, h3⟩ => (⟨by rw [h1, hcode], h3⟩ : x = Ending.returned (Value.int .i64 51) ∧ Below W.heap.size W w')
          clear HCB HCC hbad hgood hok1 hprev5 hcode
          have X0 : ∀ d os, (Go.Sort.grow (redrawn w5 d) os).cell? ⟨wr.heap.size, 0, none⟩ = some (.int .i64 e.seq) := fun d os => cell_regrown x0 d os
          have X1 : ∀ d os, (Go.Sort.grow (redrawn w5 d) os).cell? ⟨wr.heap.size, 1, none⟩ = some (.string e.loan) := fun d os => cell_regrown x1 d os
          have X2 : ∀ d os, (Go.Sort.grow (redrawn w5 d) os).cell? ⟨wr.heap.size, 2, none⟩ = some (.int .i64 e.day) := fun d os => cell_regrown x2 d os
          have X3 : ∀ d os, (Go.Sort.grow (redrawn w5 d) os).cell? ⟨wr.heap.size, 3, none⟩ = some (.int .i64 e.kind) := fun d os => cell_regrown x3 d os
          have X4 : ∀ d os, (Go.Sort.grow (redrawn w5 d) os).cell? ⟨wr.heap.size, 4, none⟩ = some (.int .i64 e.amount) := fun d os => cell_regrown x4 d os
          have X5 : ∀ d os, (Go.Sort.grow (redrawn w5 d) os).cell? ⟨wr.heap.size, 5, none⟩ = some (.int .i64 e.ref) := fun d os => cell_regrown x5 d os
          have CQ := fun d os => Calls.regrown_of (HCK.out (Go.Sort.grow (redrawn w5 d) os))
          clear HCK
          refine wp_region_quiet_below mixed (by kernel_rfl) ?_
          repeat (go_big_quiet_step (exact CQ _ _))
          refine wpQuiet_nil ?_
          intro _ hw9
          obtain ⟨⟨dq, osq⟩, hw8⟩ := hw9
          subst hw8
          have hb6 := below_regrown w5 dq osq
          obtain ⟨w6, hw6⟩ : ∃ w6, w6 = Go.Sort.grow (redrawn w5 dq) osq := ⟨_, rfl⟩
          rw [← hw6] at hb6 ⊢
          clear hw6 CQ X0 X1 X2 X3 X4 X5
          all_goals
            obtain ⟨HTX, hfin⟩ := HERR.out _ hb6 hbe.out
            clear HERR HBR
            go_wp2_with (first
              | (refine wpList_buildTo rfl 40 _ rfl _ rfl _ built_z ?_)
              | (refine wpList_store_rowTo rfl 40 _ _ rfl rfl _ _ rfl rfl _ _ HTX (info_st St.zero) rfl (st_one _) ?_))
            exact bodyPost_ret (results_cell2E (fn := Try.f13) rfl _ _ (w.heap.size + 1) 40 (stCells St.zero) (0, 0) _ rfl (setRow_heap _ _ _ _ _ _ HTX) Try.underlying40 rfl (info_st St.zero)) rfl hfin
        · have HCK := Lib.hid fun W => (HCC.out W).mono fun x w' ⟨h1, h3⟩ => (⟨by rw [h1, hcode], h3⟩ : x = Ending.returned (Value.int .i64 6) ∧ Below W.heap.size W w')
          clear HCB HCC hbad hgood hok1 hprev5 hcode
          have X0 : ∀ d os, (Go.Sort.grow (redrawn w5 d) os).cell? ⟨wr.heap.size, 0, none⟩ = some (.int .i64 e.seq) := fun d os => cell_regrown x0 d os
          have X1 : ∀ d os, (Go.Sort.grow (redrawn w5 d) os).cell? ⟨wr.heap.size, 1, none⟩ = some (.string e.loan) := fun d os => cell_regrown x1 d os
          have X2 : ∀ d os, (Go.Sort.grow (redrawn w5 d) os).cell? ⟨wr.heap.size, 2, none⟩ = some (.int .i64 e.day) := fun d os => cell_regrown x2 d os
          have X3 : ∀ d os, (Go.Sort.grow (redrawn w5 d) os).cell? ⟨wr.heap.size, 3, none⟩ = some (.int .i64 e.kind) := fun d os => cell_regrown x3 d os
          have X4 : ∀ d os, (Go.Sort.grow (redrawn w5 d) os).cell? ⟨wr.heap.size, 4, none⟩ = some (.int .i64 e.amount) := fun d os => cell_regrown x4 d os
          have X5 : ∀ d os, (Go.Sort.grow (redrawn w5 d) os).cell? ⟨wr.heap.size, 5, none⟩ = some (.int .i64 e.ref) := fun d os => cell_regrown x5 d os
          have CQ := fun d os => Calls.regrown_of (HCK.out (Go.Sort.grow (redrawn w5 d) os))
          clear HCK
          refine wp_region_quiet_below mixed (by kernel_rfl) ?_
          repeat (go_big_quiet_step (exact CQ _ _))
          refine wpQuiet_nil ?_
          intro _ hw9
          obtain ⟨⟨dq, osq⟩, hw8⟩ := hw9
          subst hw8
          have hb6 := below_regrown w5 dq osq
          obtain ⟨w6, hw6⟩ : ∃ w6, w6 = Go.Sort.grow (redrawn w5 dq) osq := ⟨_, rfl⟩
          rw [← hw6] at hb6 ⊢
          clear hw6 CQ X0 X1 X2 X3 X4 X5
          all_goals
            obtain ⟨HTX, hfin⟩ := HERR.out _ hb6 hbe.out
            clear HERR HBR
            go_wp2_with (first
              | (refine wpList_buildTo rfl 40 _ rfl _ rfl _ built_z ?_)
              | (refine wpList_store_rowTo rfl 40 _ _ rfl rfl _ _ rfl rfl _ _ HTX (info_st St.zero) rfl (st_one _) ?_))
            exact bodyPost_ret (results_cell2E (fn := Try.f13) rfl _ _ (w.heap.size + 1) 40 (stCells St.zero) (0, 0) _ rfl (setRow_heap _ _ _ _ _ _ HTX) Try.underlying40 rfl (info_st St.zero)) rfl hfin
        · have HCK := Lib.hid fun W => (HCC.out W).mono fun x w' ⟨h1, h3⟩ => (⟨by rw [h1, hcode], h3⟩ : x = Ending.returned (Value.int .i64 52) ∧ Below W.heap.size W w')
          clear HCB HCC hbad hgood hok1 hprev5 hcode
          have X0 : ∀ d os, (Go.Sort.grow (redrawn w5 d) os).cell? ⟨wr.heap.size, 0, none⟩ = some (.int .i64 e.seq) := fun d os => cell_regrown x0 d os
          have X1 : ∀ d os, (Go.Sort.grow (redrawn w5 d) os).cell? ⟨wr.heap.size, 1, none⟩ = some (.string e.loan) := fun d os => cell_regrown x1 d os
          have X2 : ∀ d os, (Go.Sort.grow (redrawn w5 d) os).cell? ⟨wr.heap.size, 2, none⟩ = some (.int .i64 e.day) := fun d os => cell_regrown x2 d os
          have X3 : ∀ d os, (Go.Sort.grow (redrawn w5 d) os).cell? ⟨wr.heap.size, 3, none⟩ = some (.int .i64 e.kind) := fun d os => cell_regrown x3 d os
          have X4 : ∀ d os, (Go.Sort.grow (redrawn w5 d) os).cell? ⟨wr.heap.size, 4, none⟩ = some (.int .i64 e.amount) := fun d os => cell_regrown x4 d os
          have X5 : ∀ d os, (Go.Sort.grow (redrawn w5 d) os).cell? ⟨wr.heap.size, 5, none⟩ = some (.int .i64 e.ref) := fun d os => cell_regrown x5 d os
          have CQ := fun d os => Calls.regrown_of (HCK.out (Go.Sort.grow (redrawn w5 d) os))
          clear HCK
          refine wp_region_quiet_below mixed (by kernel_rfl) ?_
          repeat (go_big_quiet_step (exact CQ _ _))
          refine wpQuiet_nil ?_
          intro _ hw9
          obtain ⟨⟨dq, osq⟩, hw8⟩ := hw9
          subst hw8
          have hb6 := below_regrown w5 dq osq
          obtain ⟨w6, hw6⟩ : ∃ w6, w6 = Go.Sort.grow (redrawn w5 dq) osq := ⟨_, rfl⟩
          rw [← hw6] at hb6 ⊢
          clear hw6 CQ X0 X1 X2 X3 X4 X5
          all_goals
            obtain ⟨HTX, hfin⟩ := HERR.out _ hb6 hbe.out
            clear HERR HBR
            go_wp2_with (first
              | (refine wpList_buildTo rfl 40 _ rfl _ rfl _ built_z ?_)
              | (refine wpList_store_rowTo rfl 40 _ _ rfl rfl _ _ rfl rfl _ _ HTX (info_st St.zero) rfl (st_one _) ?_))
            exact bodyPost_ret (results_cell2E (fn := Try.f13) rfl _ _ (w.heap.size + 1) 40 (stCells St.zero) (0, 0) _ rfl (setRow_heap _ _ _ _ _ _ HTX) Try.underlying40 rfl (info_st St.zero)) rfl hfin
      have HCK := Lib.hid fun W => (HCB.out W).mono fun x w' ⟨⟨r, h1, h2⟩, h3⟩ => (⟨by rw [h1, h2.2 hok1], h3⟩ : x = Ending.returned (Value.int .i64 0) ∧ Below W.heap.size W w')
      clear HCB HCC
      by_cases h5 : e.kind = 5
      · have hbe : Hid (¬ EvsOk l) := Lib.hid (hbad.out fun h => h.2.1 h5)
        have b5 : (e.kind == 5) = true := by simp [h5]
        clear hbad hgood hok1 h5 hprev5
        have X0 : ∀ d os, (Go.Sort.grow (redrawn w5 d) os).cell? ⟨wr.heap.size, 0, none⟩ = some (.int .i64 e.seq) := fun d os => cell_regrown x0 d os
        have X1 : ∀ d os, (Go.Sort.grow (redrawn w5 d) os).cell? ⟨wr.heap.size, 1, none⟩ = some (.string e.loan) := fun d os => cell_regrown x1 d os
        have X2 : ∀ d os, (Go.Sort.grow (redrawn w5 d) os).cell? ⟨wr.heap.size, 2, none⟩ = some (.int .i64 e.day) := fun d os => cell_regrown x2 d os
        have X3 : ∀ d os, (Go.Sort.grow (redrawn w5 d) os).cell? ⟨wr.heap.size, 3, none⟩ = some (.int .i64 e.kind) := fun d os => cell_regrown x3 d os
        have X4 : ∀ d os, (Go.Sort.grow (redrawn w5 d) os).cell? ⟨wr.heap.size, 4, none⟩ = some (.int .i64 e.amount) := fun d os => cell_regrown x4 d os
        have X5 : ∀ d os, (Go.Sort.grow (redrawn w5 d) os).cell? ⟨wr.heap.size, 5, none⟩ = some (.int .i64 e.ref) := fun d os => cell_regrown x5 d os
        have CQ := fun d os => Calls.regrown_of (HCK.out (Go.Sort.grow (redrawn w5 d) os))
        clear HCK
        refine wp_region_quiet_below mixed (by kernel_rfl) ?_
        repeat (go_big_quiet_step (exact CQ _ _))
        refine wpQuiet_nil ?_
        intro _ hw9
        obtain ⟨⟨dq, osq⟩, hw8⟩ := hw9
        subst hw8
        have hb6 := below_regrown w5 dq osq
        obtain ⟨w6, hw6⟩ : ∃ w6, w6 = Go.Sort.grow (redrawn w5 dq) osq := ⟨_, rfl⟩
        rw [← hw6] at hb6 ⊢
        clear hw6 CQ X0 X1 X2 X3 X4 X5
        all_goals
          obtain ⟨HTX, hfin⟩ := HERR.out _ hb6 hbe.out
          clear HERR HBR
          go_wp2_with (first
            | (refine wpList_buildTo rfl 40 _ rfl _ rfl _ built_z ?_)
            | (refine wpList_store_rowTo rfl 40 _ _ rfl rfl _ _ rfl rfl _ _ HTX (info_st St.zero) rfl (st_one _) ?_))
          exact bodyPost_ret (results_cell2E (fn := Try.f13) rfl _ _ (w.heap.size + 1) 40 (stCells St.zero) (0, 0) _ rfl (setRow_heap _ _ _ _ _ _ HTX) Try.underlying40 rfl (info_st St.zero)) rfl hfin
      have b5 : (e.kind == 5) = false := by simp [h5]
      by_cases hj0 : j = 0
      · have hg1 := Lib.hid (hgood.out ⟨hok1, h5, fun h => by omega⟩)
        have hjb : decide ((0 : Int) < (j : Int)) = false := decide_eq_false (by omega)
        clear hbad hgood hok1 h5 hprev5
        subst hj0
        have X0 : ∀ d os, (Go.Sort.grow (redrawn w5 d) os).cell? ⟨wr.heap.size, 0, none⟩ = some (.int .i64 e.seq) := fun d os => cell_regrown x0 d os
        have X1 : ∀ d os, (Go.Sort.grow (redrawn w5 d) os).cell? ⟨wr.heap.size, 1, none⟩ = some (.string e.loan) := fun d os => cell_regrown x1 d os
        have X2 : ∀ d os, (Go.Sort.grow (redrawn w5 d) os).cell? ⟨wr.heap.size, 2, none⟩ = some (.int .i64 e.day) := fun d os => cell_regrown x2 d os
        have X3 : ∀ d os, (Go.Sort.grow (redrawn w5 d) os).cell? ⟨wr.heap.size, 3, none⟩ = some (.int .i64 e.kind) := fun d os => cell_regrown x3 d os
        have X4 : ∀ d os, (Go.Sort.grow (redrawn w5 d) os).cell? ⟨wr.heap.size, 4, none⟩ = some (.int .i64 e.amount) := fun d os => cell_regrown x4 d os
        have X5 : ∀ d os, (Go.Sort.grow (redrawn w5 d) os).cell? ⟨wr.heap.size, 5, none⟩ = some (.int .i64 e.ref) := fun d os => cell_regrown x5 d os
        have CQ := fun d os => Calls.regrown_of (HCK.out (Go.Sort.grow (redrawn w5 d) os))
        clear HCK
        refine wp_region_quiet_below mixed (by kernel_rfl) ?_
        repeat (go_big_quiet_step (exact CQ _ _))
        refine wpQuiet_nil ?_
        intro _ hw9
        obtain ⟨⟨dq, osq⟩, hw8⟩ := hw9
        subst hw8
        have hb6 := below_regrown w5 dq osq
        obtain ⟨w6, hw6⟩ : ∃ w6, w6 = Go.Sort.grow (redrawn w5 dq) osq := ⟨_, rfl⟩
        rw [← hw6] at hb6 ⊢
        clear hw6 CQ X0 X1 X2 X3 X4 X5
        all_goals
          have hbE := HBR.out.trans (hb6.mono HBR.out.size)
          clear HERR HBR
          go_wp2
          go_roundw
          case rel => exact ⟨_, by omega, by go_num, hg1, by first | exact hbE | exact ⟨hbE.os, hbE.tape, hbE.output, hbE.size, hbE.block⟩⟩
          case measure => simp [intOf]; omega
      obtain ⟨i, rfl⟩ : ∃ i, j = i + 1 := ⟨j - 1, by omega⟩
      have y0 : w5.cell? ⟨b, off + i * 6, none⟩ = some (.int .i64 pe.seq) := hprev5 (by omega) 0 _ rfl
      have y2 : w5.cell? ⟨b, off + i * 6 + 2, none⟩ = some (.int .i64 pe.day) := hprev5 (by omega) 2 _ rfl
      clear hprev5
      by_cases hd : pe.day < e.day
      · have hg1 := Lib.hid (hgood.out ⟨hok1, h5, fun _ => .inl hd⟩)
        have b1 : decide (pe.day < e.day) = true := decide_eq_true hd
        clear hbad hgood hok1 h5 hd
        have X0 : ∀ d os, (Go.Sort.grow (redrawn w5 d) os).cell? ⟨wr.heap.size, 0, none⟩ = some (.int .i64 e.seq) := fun d os => cell_regrown x0 d os
        have X1 : ∀ d os, (Go.Sort.grow (redrawn w5 d) os).cell? ⟨wr.heap.size, 1, none⟩ = some (.string e.loan) := fun d os => cell_regrown x1 d os
        have X2 : ∀ d os, (Go.Sort.grow (redrawn w5 d) os).cell? ⟨wr.heap.size, 2, none⟩ = some (.int .i64 e.day) := fun d os => cell_regrown x2 d os
        have X3 : ∀ d os, (Go.Sort.grow (redrawn w5 d) os).cell? ⟨wr.heap.size, 3, none⟩ = some (.int .i64 e.kind) := fun d os => cell_regrown x3 d os
        have X4 : ∀ d os, (Go.Sort.grow (redrawn w5 d) os).cell? ⟨wr.heap.size, 4, none⟩ = some (.int .i64 e.amount) := fun d os => cell_regrown x4 d os
        have X5 : ∀ d os, (Go.Sort.grow (redrawn w5 d) os).cell? ⟨wr.heap.size, 5, none⟩ = some (.int .i64 e.ref) := fun d os => cell_regrown x5 d os
        have Y0 : ∀ d os, (Go.Sort.grow (redrawn w5 d) os).cell? ⟨b, off + i * 6, none⟩ = some (.int .i64 pe.seq) := fun d os => cell_regrown y0 d os
        have Y2 : ∀ d os, (Go.Sort.grow (redrawn w5 d) os).cell? ⟨b, off + i * 6 + 2, none⟩ = some (.int .i64 pe.day) := fun d os => cell_regrown y2 d os
        have CQ := fun d os => Calls.regrown_of (HCK.out (Go.Sort.grow (redrawn w5 d) os))
        clear HCK
        refine wp_region_quiet_below mixed (by kernel_rfl) ?_
        repeat (go_big_quiet_step (exact CQ _ _))
        refine wpQuiet_nil ?_
        intro _ hw9
        obtain ⟨⟨dq, osq⟩, hw8⟩ := hw9
        subst hw8
        have hb6 := below_regrown w5 dq osq
        obtain ⟨w6, hw6⟩ : ∃ w6, w6 = Go.Sort.grow (redrawn w5 dq) osq := ⟨_, rfl⟩
        rw [← hw6] at hb6 ⊢
        clear hw6 CQ X0 X1 X2 X3 X4 X5 Y0 Y2
        all_goals
          have hbE := HBR.out.trans (hb6.mono HBR.out.size)
          clear HERR HBR
          go_wp2
          go_roundw
          case rel => exact ⟨_, by omega, by go_num, hg1, by first | exact hbE | exact ⟨hbE.os, hbE.tape, hbE.output, hbE.size, hbE.block⟩⟩
          case measure => simp [intOf]; omega
      have b1 : decide (pe.day < e.day) = false := decide_eq_false hd
      by_cases hde : pe.day = e.day
      · have b2 : (pe.day == e.day) = true := by simp [hde]
        by_cases hsq : pe.seq < e.seq
        · have hg1 := Lib.hid (hgood.out ⟨hok1, h5, fun _ => .inr ⟨hde, hsq⟩⟩)
          have b3 : decide (pe.seq < e.seq) = true := decide_eq_true hsq
          clear hbad hgood hok1 h5 hd hde hsq
          have X0 : ∀ d os, (Go.Sort.grow (redrawn w5 d) os).cell? ⟨wr.heap.size, 0, none⟩ = some (.int .i64 e.seq) := fun d os => cell_regrown x0 d os
          have X1 : ∀ d os, (Go.Sort.grow (redrawn w5 d) os).cell? ⟨wr.heap.size, 1, none⟩ = some (.string e.loan) := fun d os => cell_regrown x1 d os
          have X2 : ∀ d os, (Go.Sort.grow (redrawn w5 d) os).cell? ⟨wr.heap.size, 2, none⟩ = some (.int .i64 e.day) := fun d os => cell_regrown x2 d os
          have X3 : ∀ d os, (Go.Sort.grow (redrawn w5 d) os).cell? ⟨wr.heap.size, 3, none⟩ = some (.int .i64 e.kind) := fun d os => cell_regrown x3 d os
          have X4 : ∀ d os, (Go.Sort.grow (redrawn w5 d) os).cell? ⟨wr.heap.size, 4, none⟩ = some (.int .i64 e.amount) := fun d os => cell_regrown x4 d os
          have X5 : ∀ d os, (Go.Sort.grow (redrawn w5 d) os).cell? ⟨wr.heap.size, 5, none⟩ = some (.int .i64 e.ref) := fun d os => cell_regrown x5 d os
          have Y0 : ∀ d os, (Go.Sort.grow (redrawn w5 d) os).cell? ⟨b, off + i * 6, none⟩ = some (.int .i64 pe.seq) := fun d os => cell_regrown y0 d os
          have Y2 : ∀ d os, (Go.Sort.grow (redrawn w5 d) os).cell? ⟨b, off + i * 6 + 2, none⟩ = some (.int .i64 pe.day) := fun d os => cell_regrown y2 d os
          have CQ := fun d os => Calls.regrown_of (HCK.out (Go.Sort.grow (redrawn w5 d) os))
          clear HCK
          refine wp_region_quiet_below mixed (by kernel_rfl) ?_
          repeat (go_big_quiet_step (exact CQ _ _))
          refine wpQuiet_nil ?_
          intro _ hw9
          obtain ⟨⟨dq, osq⟩, hw8⟩ := hw9
          subst hw8
          have hb6 := below_regrown w5 dq osq
          obtain ⟨w6, hw6⟩ : ∃ w6, w6 = Go.Sort.grow (redrawn w5 dq) osq := ⟨_, rfl⟩
          rw [← hw6] at hb6 ⊢
          clear hw6 CQ X0 X1 X2 X3 X4 X5 Y0 Y2
          all_goals
            have hbE := HBR.out.trans (hb6.mono HBR.out.size)
            clear HERR HBR
            go_wp2
            go_roundw
            case rel => exact ⟨_, by omega, by go_num, hg1, by first | exact hbE | exact ⟨hbE.os, hbE.tape, hbE.output, hbE.size, hbE.block⟩⟩
            case measure => simp [intOf]; omega
        · have hbe : Hid (¬ EvsOk l) := Lib.hid (hbad.out fun h => by
            rcases h.2.2 (by omega) with h1 | h1
            · exact hd h1
            · exact hsq h1.2)
          have b3 : decide (pe.seq < e.seq) = false := decide_eq_false hsq
          clear hbad hgood hok1 h5 hd hde hsq
          have X0 : ∀ d os, (Go.Sort.grow (redrawn w5 d) os).cell? ⟨wr.heap.size, 0, none⟩ = some (.int .i64 e.seq) := fun d os => cell_regrown x0 d os
          have X1 : ∀ d os, (Go.Sort.grow (redrawn w5 d) os).cell? ⟨wr.heap.size, 1, none⟩ = some (.string e.loan) := fun d os => cell_regrown x1 d os
          have X2 : ∀ d os, (Go.Sort.grow (redrawn w5 d) os).cell? ⟨wr.heap.size, 2, none⟩ = some (.int .i64 e.day) := fun d os => cell_regrown x2 d os
          have X3 : ∀ d os, (Go.Sort.grow (redrawn w5 d) os).cell? ⟨wr.heap.size, 3, none⟩ = some (.int .i64 e.kind) := fun d os => cell_regrown x3 d os
          have X4 : ∀ d os, (Go.Sort.grow (redrawn w5 d) os).cell? ⟨wr.heap.size, 4, none⟩ = some (.int .i64 e.amount) := fun d os => cell_regrown x4 d os
          have X5 : ∀ d os, (Go.Sort.grow (redrawn w5 d) os).cell? ⟨wr.heap.size, 5, none⟩ = some (.int .i64 e.ref) := fun d os => cell_regrown x5 d os
          have Y0 : ∀ d os, (Go.Sort.grow (redrawn w5 d) os).cell? ⟨b, off + i * 6, none⟩ = some (.int .i64 pe.seq) := fun d os => cell_regrown y0 d os
          have Y2 : ∀ d os, (Go.Sort.grow (redrawn w5 d) os).cell? ⟨b, off + i * 6 + 2, none⟩ = some (.int .i64 pe.day) := fun d os => cell_regrown y2 d os
          have CQ := fun d os => Calls.regrown_of (HCK.out (Go.Sort.grow (redrawn w5 d) os))
          clear HCK
          refine wp_region_quiet_below mixed (by kernel_rfl) ?_
          repeat (go_big_quiet_step (exact CQ _ _))
          refine wpQuiet_nil ?_
          intro _ hw9
          obtain ⟨⟨dq, osq⟩, hw8⟩ := hw9
          subst hw8
          have hb6 := below_regrown w5 dq osq
          obtain ⟨w6, hw6⟩ : ∃ w6, w6 = Go.Sort.grow (redrawn w5 dq) osq := ⟨_, rfl⟩
          rw [← hw6] at hb6 ⊢
          clear hw6 CQ X0 X1 X2 X3 X4 X5 Y0 Y2
          all_goals
            obtain ⟨HTX, hfin⟩ := HERR.out _ hb6 hbe.out
            clear HERR HBR
            go_wp2_with (first
              | (refine wpList_buildTo rfl 40 _ rfl _ rfl _ built_z ?_)
              | (refine wpList_store_rowTo rfl 40 _ _ rfl rfl _ _ rfl rfl _ _ HTX (info_st St.zero) rfl (st_one _) ?_))
            exact bodyPost_ret (results_cell2E (fn := Try.f13) rfl _ _ (w.heap.size + 1) 40 (stCells St.zero) (0, 0) _ rfl (setRow_heap _ _ _ _ _ _ HTX) Try.underlying40 rfl (info_st St.zero)) rfl hfin
      · have hbe : Hid (¬ EvsOk l) := Lib.hid (hbad.out fun h => by
          rcases h.2.2 (by omega) with h1 | h1
          · exact hd h1
          · exact hde h1.1)
        have b2 : (pe.day == e.day) = false := by simp [hde]
        clear hbad hgood hok1 h5 hd hde
        have X0 : ∀ d os, (Go.Sort.grow (redrawn w5 d) os).cell? ⟨wr.heap.size, 0, none⟩ = some (.int .i64 e.seq) := fun d os => cell_regrown x0 d os
        have X1 : ∀ d os, (Go.Sort.grow (redrawn w5 d) os).cell? ⟨wr.heap.size, 1, none⟩ = some (.string e.loan) := fun d os => cell_regrown x1 d os
        have X2 : ∀ d os, (Go.Sort.grow (redrawn w5 d) os).cell? ⟨wr.heap.size, 2, none⟩ = some (.int .i64 e.day) := fun d os => cell_regrown x2 d os
        have X3 : ∀ d os, (Go.Sort.grow (redrawn w5 d) os).cell? ⟨wr.heap.size, 3, none⟩ = some (.int .i64 e.kind) := fun d os => cell_regrown x3 d os
        have X4 : ∀ d os, (Go.Sort.grow (redrawn w5 d) os).cell? ⟨wr.heap.size, 4, none⟩ = some (.int .i64 e.amount) := fun d os => cell_regrown x4 d os
        have X5 : ∀ d os, (Go.Sort.grow (redrawn w5 d) os).cell? ⟨wr.heap.size, 5, none⟩ = some (.int .i64 e.ref) := fun d os => cell_regrown x5 d os
        have Y0 : ∀ d os, (Go.Sort.grow (redrawn w5 d) os).cell? ⟨b, off + i * 6, none⟩ = some (.int .i64 pe.seq) := fun d os => cell_regrown y0 d os
        have Y2 : ∀ d os, (Go.Sort.grow (redrawn w5 d) os).cell? ⟨b, off + i * 6 + 2, none⟩ = some (.int .i64 pe.day) := fun d os => cell_regrown y2 d os
        have CQ := fun d os => Calls.regrown_of (HCK.out (Go.Sort.grow (redrawn w5 d) os))
        clear HCK
        refine wp_region_quiet_below mixed (by kernel_rfl) ?_
        repeat (go_big_quiet_step (exact CQ _ _))
        refine wpQuiet_nil ?_
        intro _ hw9
        obtain ⟨⟨dq, osq⟩, hw8⟩ := hw9
        subst hw8
        have hb6 := below_regrown w5 dq osq
        obtain ⟨w6, hw6⟩ : ∃ w6, w6 = Go.Sort.grow (redrawn w5 dq) osq := ⟨_, rfl⟩
        rw [← hw6] at hb6 ⊢
        clear hw6 CQ X0 X1 X2 X3 X4 X5 Y0 Y2
        all_goals
          obtain ⟨HTX, hfin⟩ := HERR.out _ hb6 hbe.out
          clear HERR HBR
          go_wp2_with (first
            | (refine wpList_buildTo rfl 40 _ rfl _ rfl _ built_z ?_)
            | (refine wpList_store_rowTo rfl 40 _ _ rfl rfl _ _ rfl rfl _ _ HTX (info_st St.zero) rfl (st_one _) ?_))
          exact bodyPost_ret (results_cell2E (fn := Try.f13) rfl _ _ (w.heap.size + 1) 40 (stCells St.zero) (0, 0) _ rfl (setRow_heap _ _ _ _ _ _ HTX) Try.underlying40 rfl (info_st St.zero)) rfl hfin
    · have hev : EvsOk l := fun k hk => hok.out k hk (by omega)
      have hans : ans = (match evRun p v (Ln.start p) l with
        | none => (.zero, 4)
        | some L => match endOf p L v with | none => (.zero, 4) | some s => (s, 0)) := by rw [← HANS.out]; exact replay_run hp ⟨v0, v1⟩ (by omega) hev
      have HAN2 := Lib.hid hans
      have HEV := Lib.hid hev
      have hSR := (hbr.block w.heap.size (by omega)).trans hS2
      have hjm : j = m := by omega
      subst hjm
      clear hok hans hev HANS hlt
      have hi61 : (Try.prog.info? 61).map (·.size) = some (lnCells p (.slice A n c) (Ln.start p)).size := info_ln _ _ _
      have hone61 : (lnCells p (.slice A n c) (Ln.start p)).all (·.oneCell') = true := by simp [lnCells, Value.oneCell']
      have hz61 : ((Try.prog.info? 61).bind (·.zero)).map (·.cells.size) = some (lnCells p (.slice A n c) (Ln.start p)).size := by rw [show (lnCells p (.slice A n c) (Ln.start p)).size = 24 from rfl]; kernel_rfl
      generalize hLC : lnCells p (.slice A n c) (Ln.start p) = LC at *
      go_wp2_with (first
        | (refine wpList_load_row rfl 25 _ rfl _ rfl _ _ _ _ hSR Try.underlying25 rfl hi ?_)
        | fail)
      refine (HBG.out _).mono ?_
      rintro e w3 ⟨rfl, hb3⟩
      go_upto_region 15 with (first | (refine alloc_store rfl rfl 61 _ _ rfl rfl rfl rfl LC rfl rfl hz61 hi61 hone61 ?_))
      have hz3 := hb3.size
      have hb23 : Below w2.heap.size w2 w3 := hbr.trans (hb3.mono hbr.size)
      refine wp_at (fun wx => EvRow w3.heap.size p (.slice A n c) (Ln.start p) wx ∧ Below w3.heap.size w3 wx) ⟨by unfold EvRow; rw [hLC]; exact heap_alloc_new _ _, (Below.refl _ _).alloc (Nat.le_refl _) _⟩ ?_
      rintro w4 ⟨hr4, hb4⟩
      have hb24 : Below w2.heap.size w2 w4 := hb23.trans (hb4.mono hb23.size)
      have HR4 := Lib.hid hr4
      have hz4 := hb4.size
      clear hr4 hLC hi61 hone61 hz61 hSR HBG hb3 hb4 hb23 hbr hbR hTR
      go_wp2
      go_loopw [91] (fun i wq => ∃ k : Nat, k ≤ j ∧ i = .int .i64 k ∧ ∃ L : Ln, Hid (L.Fine) ∧ Hid (evRun p v (Ln.start p) l = evRun p v L (l.drop k)) ∧ Hid (EvRow w3.heap.size p (.slice A n c) L wq) ∧ KeptBut w3.heap.size w4 wq) (fun i _ => j - (intOf i).toNat)
      case atStart => exact ⟨0, by omega, rfl, Ln.start p, Lib.hid (start_fine hp), Lib.hid rfl, HR4, KeptBut.refl _ _⟩
      case round =>
        obtain ⟨k, hk, rfl, L, hLF', HRUN', HRQ, hkq⟩ := hrel
        obtain ⟨wZ, rfl⟩ : ∃ x, x = wr := ⟨_, rfl⟩
        have hLF := hLF'.out
        have hrq := HRQ.out
        have hbq : Below w2.heap.size w2 wZ := hb24.trans (hkq.below (by omega) (by omega))
        by_cases hlt : k < j
        · obtain ⟨b, off, rfl, hcs⟩ := (hE2.out.below hbq).2 (by omega)
          have hkl : k < l.length := by omega
          have hrow := hcs k hkl
          have hdrop : l.drop k = l[k] :: l.drop (k + 1) := List.drop_eq_getElem_cons hkl
          obtain ⟨he, h5, _⟩ := HEV.out k hkl
          rw [hdrop] at HRUN'
          generalize l[k] = e at *
          clear hcs hdrop
          have hmid : wZ.rangeAt b (off + k * 6) (evCells e).toList := fun q u hu => hrow q u (by simpa using hu)
          have hi6 : (Try.prog.info? 38).map (·.size) = some (evCells e).toList.length := by rw [show (evCells e).toList.length = 6 from rfl]; kernel_rfl
          go_upto_region 18 with (first
            | (refine wpList_load_mid rfl 38 _ rfl b (off + k * 6) rfl (evCells e).toList _ hmid Try.underlying38 rfl hi6 ?_)
            | (refine wpList_store_rowTo rfl 38 _ _ rfl rfl _ _ rfl rfl _ _ (heap_alloc_new _ _) (info_ev e) rfl (ev_one e) ?_))
          refine wp_at (fun wx => wx.heap[wZ.heap.size]? = some (.cells (evCells e) 38 (0, 0)) ∧ Below wZ.heap.size wZ wx) (by first | (rw [World.setRow_alloc_new]; exact ⟨heap_alloc_new _ _, (Below.refl _ _).alloc (Nat.le_refl _) _⟩) | exact ⟨heap_alloc_new _ _, (Below.refl _ _).alloc (Nat.le_refl _) _⟩) ?_
          rintro w5 ⟨hev5, hb5⟩
          have hr5 : EvRow w3.heap.size p (.slice A n c) L w5 := (hb5.block _ (Array.getElem?_eq_some_iff.1 hrq).1).trans hrq
          have hk5 := hkq.trans (KeptBut.of_below hb5)
          have x2 : w5.cell? ⟨wZ.heap.size, 2, none⟩ = some (.int .i64 e.day) := by rw [cell_of_row _ _ _ _ _ _ hev5]; rfl
          clear hmid hi6 hrow
          by_cases hvd : v < e.day
          · have HRUN : evRun p v (Ln.start p) l = some L := by rw [HRUN'.out, evRun, if_pos hvd]
            have hbq : Below w2.heap.size w2 w5 := hbq.trans (hb5.mono hbq.size)
            have hrq := hr5
            obtain ⟨wZ5, rfl⟩ : ∃ x, x = w5 := ⟨_, rfl⟩
            clear HRUN' hr5 hk5 hkq HRQ hev5 hb5
            have hA7 := RdI.below hA2.out hbq
            have HEN := Lib.hid (End_any p A n c L v wZ5 hp hLF v0 v1 hA7)
            have hiL : (Try.prog.info? 61).map (·.size) = some (lnCells p (.slice A n c) L).size := info_ln _ _ _
            have hTq := (hbq.block (w.heap.size + 1) (by omega)).trans hT2
            have hbW := hbb.trans (hbq.mono hbb.size)
            have hrq' : wZ5.heap[w3.heap.size]? = some (.cells (lnCells p (.slice A n c) L) 61 (0, 0)) := hrq
            generalize lnCells p (.slice A n c) L = LL at *
            go_wp2_with (first
              | (refine wpList_load_row rfl 61 _ rfl _ rfl _ _ _ _ hrq' Try.underlying61 rfl hiL ?_)
              | fail)
            refine HEN.out.mono ?_
            rintro x w8 ⟨hb8, (⟨hn, rfl⟩ | ⟨s, hs, rfl⟩)⟩
            · have hT8 := (hb8.block (w.heap.size + 1) (by have := hbW.size; have := hbq.size; omega)).trans hTq
              have hfin := ERR.out 4 w8 (stCells St.zero) (by rw [HAN2.out, HRUN]; simp only [hn]) (hbW.trans (hb8.mono hbW.size))
              go_wp2_with (first | (refine wpList_store_rowTo rfl 40 _ _ rfl rfl _ _ rfl rfl _ _ hT8 (info_st St.zero) rfl (st_one _) ?_))
              exact bodyPost_ret (results_cell2E (fn := Try.f13) rfl _ _ (w.heap.size + 1) 40 (stCells St.zero) (0, 0) _ rfl (setRow_heap _ _ _ _ _ _ hT8) Try.underlying40 rfl (info_st St.zero)) rfl hfin
            · have hT8 := (hb8.block (w.heap.size + 1) (by have := hbW.size; have := hbq.size; omega)).trans hTq
              have hans : ans = (s, 0) := by rw [HAN2.out, HRUN]; simp only [hs]
              have hb9 := hbW.trans (hb8.mono hbW.size)
              go_wp2_with (first | (refine wpList_store_rowTo rfl 40 _ _ rfl rfl _ _ rfl rfl _ _ hT8 (info_st s) rfl (st_one _) ?_))
              exact bodyPost_ret (results_cell2E (fn := Try.f13) rfl _ _ (w.heap.size + 1) 40 (stCells s) (0, 0) _ rfl (setRow_heap _ _ _ _ _ _ hT8) Try.underlying40 rfl (info_st s)) rfl ⟨by rw [hans]; rfl, below_row hb9 (by omega) _⟩
          · have HEVT := Lib.hid (Event_any w3.heap.size p (.slice A n c) L e w5 hp hLF he h5 hr5)
            have HE5 := Lib.hid hev5
            have hz5 := hk5.size
            clear hrq hr5 hb5 hbq hkq HRQ
            go_wp2_with (first
              | (refine wpList_load_row rfl 38 _ rfl _ rfl _ _ _ _ HE5.out Try.underlying38 rfl (info_ev e) ?_)
              | fail)
            refine HEVT.out.mono ?_
            rintro x w6 ⟨hk6, (⟨hn, rfl⟩ | ⟨M, hs, rfl, hr6⟩)⟩
            · have hbq : Below w2.heap.size w2 w6 := hb24.trans ((hk5.trans hk6).below (by omega) (by omega))
              have hT6 := (hbq.block (w.heap.size + 1) (by omega)).trans hT2
              have HRUN : evRun p v (Ln.start p) l = none := by rw [HRUN'.out, evRun, if_neg (by omega), hn]
              have hfin := ERR.out 4 w6 (stCells St.zero) (by rw [HAN2.out, HRUN]) (hbb.trans (hbq.mono hbb.size))
              clear HEVT hev5 x2 hk5 hk6 hbq HRUN' HRUN
              go_wp2_with (first
                | (refine wpList_buildTo rfl 40 _ rfl _ rfl _ built_z ?_)
                | (refine wpList_store_rowTo rfl 40 _ _ rfl rfl _ _ rfl rfl _ _ hT6 (info_st St.zero) rfl (st_one _) ?_))
              exact bodyPost_ret (results_cell2E (fn := Try.f13) rfl _ _ (w.heap.size + 1) 40 (stCells St.zero) (0, 0) _ rfl (setRow_heap _ _ _ _ _ _ hT6) Try.underlying40 rfl (info_st St.zero)) rfl hfin
            · have HN2 : Hid (evRun p v (Ln.start p) l = evRun p v M (l.drop (k + 1))) := Lib.hid (by rw [HRUN'.out, evRun, if_neg (by omega), hs])
              have HM := Lib.hid (evStep_fine hp hLF he h5 hs).1
              have HR6 := Lib.hid hr6
              have HK6 := Lib.hid (hk5.trans hk6)
              clear HEVT hev5 x2 hk5 hk6 HRUN' hr6 hs
              go_wp2
              go_roundw
              case rel => exact ⟨k + 1, by omega, by go_num, M, HM, HN2, HR6, HK6.out⟩
              case measure => simp [intOf]; omega
        have hkj : l.drop k = [] := List.drop_eq_nil_of_le (by omega)
        have HRUN : evRun p v (Ln.start p) l = some L := by rw [HRUN'.out, hkj]; rfl
        obtain rfl : k = j := by omega
        have hA7 := RdI.below hA2.out hbq
        have HEN := Lib.hid (End_any p A n c L v wZ hp hLF v0 v1 hA7)
        have hiL : (Try.prog.info? 61).map (·.size) = some (lnCells p (.slice A n c) L).size := info_ln _ _ _
        have hTq := (hbq.block (w.heap.size + 1) (by omega)).trans hT2
        have hbW := hbb.trans (hbq.mono hbb.size)
        have hrq' : wZ.heap[w3.heap.size]? = some (.cells (lnCells p (.slice A n c) L) 61 (0, 0)) := hrq
        generalize lnCells p (.slice A n c) L = LL at *
        go_wp2_with (first
          | (refine wpList_load_row rfl 61 _ rfl _ rfl _ _ _ _ hrq' Try.underlying61 rfl hiL ?_)
          | fail)
        refine HEN.out.mono ?_
        rintro x w8 ⟨hb8, (⟨hn, rfl⟩ | ⟨s, hs, rfl⟩)⟩
        · have hT8 := (hb8.block (w.heap.size + 1) (by have := hbW.size; have := hbq.size; omega)).trans hTq
          have hfin := ERR.out 4 w8 (stCells St.zero) (by rw [HAN2.out, HRUN]; simp only [hn]) (hbW.trans (hb8.mono hbW.size))
          go_wp2_with (first | (refine wpList_store_rowTo rfl 40 _ _ rfl rfl _ _ rfl rfl _ _ hT8 (info_st St.zero) rfl (st_one _) ?_))
          exact bodyPost_ret (results_cell2E (fn := Try.f13) rfl _ _ (w.heap.size + 1) 40 (stCells St.zero) (0, 0) _ rfl (setRow_heap _ _ _ _ _ _ hT8) Try.underlying40 rfl (info_st St.zero)) rfl hfin
        · have hT8 := (hb8.block (w.heap.size + 1) (by have := hbW.size; have := hbq.size; omega)).trans hTq
          have hans : ans = (s, 0) := by rw [HAN2.out, HRUN]; simp only [hs]
          have hb9 := hbW.trans (hb8.mono hbW.size)
          go_wp2_with (first | (refine wpList_store_rowTo rfl 40 _ _ rfl rfl _ _ rfl rfl _ _ hT8 (info_st s) rfl (st_one _) ?_))
          exact bodyPost_ret (results_cell2E (fn := Try.f13) rfl _ _ (w.heap.size + 1) 40 (stCells s) (0, 0) _ rfl (setRow_heap _ _ _ _ _ _ hT8) Try.underlying40 rfl (info_st s)) rfl ⟨by rw [hans]; rfl, below_row hb9 (by omega) _⟩
end Go.Proofs.Ytcbopgopegphlaa
