/-
  The engine's wakes. No statement is proved here.
-/
import Derived.Test.YtcbopgopegphlaaGreatEnU
import Derived.Test.YtcbopgopegphlaaGreatAcWW
import Derived.Test.YtcbopgopegphlaaGreatAcS
namespace Go.Proofs.YtcbopgopegphlaaGreat
open Go.RowKit
set_option linter.unusedVariables false
def pw : Prod := ⟨⟨#[112]⟩, 360000000, 1, 1, 12, 1, 2, 3, []⟩
def ew2 : Ev := ⟨2, ⟨#[97]⟩, 19723, 2, 50000, 0⟩
theorem pw_ok : pw.Ok where
  name := by decide +kernel
  rate0 := by simp [pw]
  rate1 := by simp [pw]
  conv0 := by simp [pw]
  conv1 := by simp [pw]
  step0 := by simp [pw]
  step1 := by simp [pw]
  count0 := by simp [pw]
  count1 := by simp [pw]
  order := fun k h1 h2 => by simp only [pw]; omega
  len := by simp [pw]
  rises := trivial
theorem ew2_ok : ew2.Ok := ⟨by decide +kernel, by simp [ew2], by simp [ew2], .inl ⟨.inr (.inl rfl), by simp [ew2], by simp [ew2]⟩, by simp [ew2], by simp [ew2], .inr ⟨by simp [ew2], rfl⟩⟩
theorem ew_add1 : addAns [] ev1 = 0 := by
  unfold addAns
  rw [if_neg (by simpa using (bcode_ok ev1).2 ev1_ok), if_neg (by simp), if_neg (by decide +kernel)]
theorem ew_add2 : addAns [ev1] ew2 = 0 := by
  unfold addAns
  rw [if_neg (by simpa using (bcode_ok ew2).2 ew2_ok), if_neg (by simp), if_neg (by decide +kernel)]
theorem ew_kn1 : knownOf [ev1] (lastSeq [ev1]) = [ev1] := by rfl
theorem ew_kn2 : knownOf [ev1, ew2] (lastSeq [ev1, ew2]) = [ev1, ew2] := by rfl
theorem ew_kn3 : knownOf [ev1, ew2] 1 = [ev1] := by rfl
theorem ews1_ok : EvsOk [ev1] := evs1_ok
theorem ews2_ok : EvsOk [ev1, ew2] := fun i h => by
  rcases (show i = 0 ∨ i = 1 by simp at h; omega) with rfl | rfl
  · exact ⟨ev1_ok, by simp [ev1], fun h0 => by omega⟩
  · exact ⟨ew2_ok, by simp [ew2], fun h0 => .inr (by simp [ev1, ew2])⟩
def lw2 : Ln := ⟨⟨19723, 360000000, 50000, 0, 0, 0, 100000, 50000, 0, 0, 0, 0⟩, 19723, true, true⟩
theorem ew_step1 : evStep pw (Ln.start pw) ev1 = some ln1 := by
  have h : toDay pw.conv (Ln.start pw) ev1.day = some (Ln.start pw) := by unfold toDay; rw [if_pos (.inl rfl)]
  unfold evStep
  rw [h]
  rfl
theorem ew_step2 : evStep pw ln1 ew2 = some lw2 := by
  have h : toDay pw.conv ln1 ew2.day = some ln1 := by unfold toDay; rw [if_pos (.inr (by simp [ln1, st1, ew2]))]
  unfold evStep
  rw [h]
  rfl
theorem ew_int : interestOf 50000 360000000 30 360 = (1500, 0) := by decide +kernel
theorem ew_accr : accr 1 lw2.s 19754 = some { lw2.s with i := 1500, a := 1500, day := 19754 } := by
  unfold accr
  rw [show lw2.s.day = 19723 from rfl, show lw2.s.p = 50000 from rfl, show lw2.s.rate = 360000000 from rfl, wk_count, ew_int]
  rw [if_neg (by simp [lw2])]
  rfl
theorem ew_ans1 : ∃ s, replayAns pw [ev1] 19754 = (s, 0) ∧ s.i = 3000 := by
  rw [replay_run pw_ok (by decide) (by simp) ews1_ok]
  have hr : evRun pw 19754 (Ln.start pw) [ev1] = some ln1 := by
    rw [evRun, if_neg (by simp [ev1]), ew_step1]
    rfl
  rw [hr]
  have h : toDay pw.conv ln1 19754 = some ⟨st2, 19723, true, true⟩ := wk_to
  simp only [endOf, h]
  exact ⟨_, rfl, rfl⟩
theorem ew_ans2 : ∃ s, replayAns pw [ev1, ew2] 19754 = (s, 0) ∧ s.i = 1500 := by
  rw [replay_run pw_ok (by decide) (by simp) ews2_ok]
  have hr : evRun pw 19754 (Ln.start pw) [ev1, ew2] = some lw2 := by
    rw [evRun, if_neg (by simp [ev1]), ew_step1]
    simp only
    rw [evRun, if_neg (by simp [ew2]), ew_step2]
    rfl
  rw [hr]
  have h : toDay pw.conv lw2 19754 = some ⟨{ lw2.s with i := 1500, a := 1500, day := 19754 }, 19723, true, true⟩ := by
    unfold toDay
    rw [if_neg (by simp [lw2]), show pw.conv = 1 from rfl, ew_accr]
    rfl
  simp only [endOf, h]
  exact ⟨_, rfl, rfl⟩
theorem wpList_load_row_if {P : Program} {ops : Array Oper} {rest : List Oper} {o : Oper} {a : Act} {w : World} {Q : Exit → Act → World → Prop} (hw : Region.wanted o (yielded ops a.tmps) = true) (ty : TypeId) (x : Operand) (ho : o.op = .load ty x)
    (g : Nat) (hx : a.eval x = .pointer (some ⟨g, 0, none⟩)) (t : TypeId) (cs : Array Value) (fr : Nat × Nat) (d : TypeDesc) (hg : w.heap[g]? = some (.cells cs t fr))
    (hu : P.underlying ty = some d) (hd : (match d with | .struct _ | .array _ _ => true | _ => false) = true) (hi : (P.info? ty).map (·.size) = some cs.size)
    (h : wpList P ops Q rest (a.put o.dst (.agg cs)) w) : wpList P ops Q (o :: rest) a w :=
  wpList_step fun K hK => by rw [if_pos hw]; exact wp_load_row ty x ho g hx t cs fr d hg hu hd hi (hK _ _ h)
theorem built_pw : Tryz.prog.built 25 [(0, .string ⟨#[112]⟩), (1, .int .i64 360000000), (2, .int .i64 1), (3, .int .i64 1), (4, .int .i64 12), (5, .agg #[.int .i64 1, .int .i64 2, .int .i64 3])] = some (pCells pw (.slice none 0 0)) := by kernel_rfl
theorem ew_a1 {w : World} {base top ge : Nat} (h : EnB w base top ge pw []) (hs : base ≤ w.heap.size) : Calls Tryz.prog 9 #[.pointer (some ⟨ge, 0, none⟩), .agg #[.int .i64 1, .string ⟨#[97]⟩, .int .i64 19723, .int .i64 1, .int .i64 100000, .int .i64 0]] w fun x w' => x = .returned (.int .i64 0) ∧ EK base w w' ∧ EnB w' base top ge pw [ev1] := by
  have := Add_b h ev1 hs
  rw [ew_add1, show addTo [] ev1 = [ev1] by unfold addTo; rw [if_pos ew_add1]; rfl] at this
  exact this
theorem ew_a2 {w : World} {base top ge : Nat} (h : EnB w base top ge pw [ev1]) (hs : base ≤ w.heap.size) : Calls Tryz.prog 9 #[.pointer (some ⟨ge, 0, none⟩), .agg #[.int .i64 2, .string ⟨#[97]⟩, .int .i64 19723, .int .i64 2, .int .i64 50000, .int .i64 0]] w fun x w' => x = .returned (.int .i64 0) ∧ EK base w w' ∧ EnB w' base top ge pw [ev1, ew2] := by
  have := Add_b h ew2 hs
  rw [ew_add2, show addTo [ev1] ew2 = [ev1, ew2] by unfold addTo; rw [if_pos ew_add2]; rfl] at this
  exact this
theorem ew_at1 {w : World} {base top ge : Nat} (h : EnB w base top ge pw [ev1]) : ∃ s : St, s.i = 3000 ∧ replayAns pw [ev1] 19754 = (s, 0) ∧ Calls Tryz.prog 11 #[.pointer (some ⟨ge, 0, none⟩), .int .i64 19754] w fun x w' => x = .returned (.tuple #[.agg (stCells s), .int .i64 0]) ∧ EK base w w' ∧ EnB w' base top ge pw [ev1] := by
  obtain ⟨s, hs, hi⟩ := ew_ans1
  have := At_b h 19754
  rw [ew_kn1, hs] at this
  exact ⟨s, hi, hs, this⟩
theorem ew_at2 {w : World} {base top ge : Nat} (h : EnB w base top ge pw [ev1, ew2]) : ∃ s : St, s.i = 1500 ∧ Calls Tryz.prog 11 #[.pointer (some ⟨ge, 0, none⟩), .int .i64 19754] w fun x w' => x = .returned (.tuple #[.agg (stCells s), .int .i64 0]) ∧ EK base w w' ∧ EnB w' base top ge pw [ev1, ew2] := by
  obtain ⟨s, hs, hi⟩ := ew_ans2
  have := At_b h 19754
  rw [ew_kn2, hs] at this
  exact ⟨s, hi, this⟩
theorem ew_at3 {w : World} {base top ge : Nat} (h : EnB w base top ge pw [ev1, ew2]) {s : St} (hs : replayAns pw [ev1] 19754 = (s, 0)) : Calls Tryz.prog 13 #[.pointer (some ⟨ge, 0, none⟩), .int .i64 19754, .int .i64 1] w fun x w' => x = .returned (.tuple #[.agg (stCells s), .int .i64 0]) ∧ EK base w w' ∧ EnB w' base top ge pw [ev1, ew2] := by
  have := AsOf_b h 19754 1
  rw [ew_kn3, hs] at this
  exact this
theorem st_four {w : World} {g : Nat} {s : St} (h : w.heap[g]? = some (.cells (stCells s) 45 (0, 0))) : w.cell? ⟨g, 3, none⟩ = some (.int .i64 s.i) := by rw [cell_of_row _ _ _ _ _ _ h]; rfl
set_option maxRecDepth 100000 in
set_option maxHeartbeats 2000000 in
theorem wakes_any (w : World) :
    Calls Tryz.prog 5 #[] w fun x w' => x = .returned (.bool true) ∧ Below w.heap.size w w' := by
  have hi25 : (Tryz.prog.info? 25).map (·.size) = some (pCells pw (.slice none 0 0)).size := info_prod _ _
  have ho25 : (pCells pw (.slice none 0 0)).all (·.oneCell') = true := by decide +kernel
  have hz25 : ((Tryz.prog.info? 25).bind (·.zero)).map (·.cells.size) = some (pCells pw (.slice none 0 0)).size := by rw [show (pCells pw (.slice none 0 0)).size = 9 from rfl]; kernel_rfl
  have HN := Lib.hid fun W => New_b pw none 0 0 W ⟨rfl, fun h => absurd h (by simp [pw])⟩ (by omega)
  unfold Prod.val at HN
  have hbp := built_pw
  generalize hPW : pCells pw (.slice none 0 0) = PW at *
  have HPW := Lib.hid hPW
  clear hPW
  go_enter Tryz.func5, Tryz.ntmps5
  go_upto_region 2 with (first
    | (refine wpList_buildTo rfl 25 _ rfl _ rfl _ hbp ?_)
    | (refine alloc_store rfl rfl 25 _ _ rfl rfl rfl rfl PW rfl rfl hz25 hi25 ho25 ?_))
  refine wp_at (fun wx => wx.heap[w.heap.size]? = some (.cells PW 25 (0, 0)) ∧ Below w.heap.size w wx) ⟨by rw [← HPW.out]; exact heap_alloc_new _ _, (Below.refl _ _).alloc (Nat.le_refl _) _⟩ ?_
  rintro w1 ⟨hr1, hb1⟩
  go_upto_region 3 with (first
    | (refine wpList_load_row rfl 25 _ rfl _ rfl _ _ _ _ hr1 Tryz.underlying25 rfl hi25 ?_)
    | (go_at_call 6; refine (HN.out w1).mono ?_; rintro x w2 ⟨hb2, (⟨hno, _⟩ | ⟨_, ge, rfl, hE2⟩)⟩; exact absurd pw_ok hno))
  have hB2 := Lib.hid (hb1.trans (hb2.mono hb1.size))
  have hs1 := hb1.size
  have HE2 := Lib.hid hE2
  clear hr1 hE2 HN hi25 ho25 hz25 hbp hb1
  have hb2' := hb2.size
  generalize w1.heap.size = base at *
  have hs2 : base ≤ w2.heap.size := hb2'
  generalize w2.heap.size = top at HE2
  have hbt : base ≤ w2.heap.size := hs2
  have A1 := Lib.hid (ew_a1 HE2.out hbt)
  have g40 : Tryz.prog.eqGuardType Tryz.prog.depth 45 = false := by kernel_rfl
  have hz40 : ∀ s : St, ((Tryz.prog.info? 45).bind (·.zero)).map (·.cells.size) = some (stCells s).size := fun s => by rw [show (stCells s).size = 12 from rfl]; kernel_rfl
  go_upto_region 5 with (first
    | (go_at_call 9; refine A1.out.mono ?_; rintro x w3 ⟨rfl, hk3, hE3⟩))
  obtain ⟨s1, hi1, hs1', hAt1⟩ := ew_at1 hE3
  have HAt1 := Lib.hid hAt1
  have HS1 := Lib.hid hs1'
  have hsi1 := info_st s1
  have hso1 := st_one s1
  have hsz1 := hz40 s1
  have heq : ∀ W, (Op.equalIn 10000 45 (.agg (stCells s1)) (.agg (stCells s1))).run Tryz.prog W = .ok true W := fun W => st_equal s1 W
  have HF1 : Hid (∀ (W : World) (g : Nat), W.heap[g]? = some (.cells (stCells s1) 45 (0, 0)) → W.cell? ⟨g, 3, none⟩ = some (.int .i64 3000)) := Lib.hid fun W g h => by rw [st_four h, hi1]
  have HAS : Hid (∀ W, EnB W base top ge pw [ev1, ew2] → Calls Tryz.prog 13 #[.pointer (some ⟨ge, 0, none⟩), .int .i64 19754, .int .i64 1] W fun x w' => x = .returned (.tuple #[.agg (stCells s1), .int .i64 0]) ∧ EK base W w' ∧ EnB w' base top ge pw [ev1, ew2]) := Lib.hid fun W hW => ew_at3 hW hs1'
  clear hAt1 hs1' hE3 A1 HE2
  generalize stCells s1 = S1 at *
  go_upto_region 6 with (first
    | (go_at_call 11; refine HAt1.out.mono ?_; rintro x w4 ⟨rfl, hk4, hE4⟩)
    | (refine alloc_store rfl rfl 45 _ _ rfl rfl rfl rfl S1 rfl rfl hsz1 hsi1 hso1 ?_))
  obtain ⟨g4, hg4⟩ : ∃ g4, g4 = w4.heap.size := ⟨_, rfl⟩
  rw [← hg4]
  refine wp_at (fun wx => wx.heap[g4]? = some (.cells S1 45 (0, 0)) ∧ Below w4.heap.size w4 wx) (by rw [hg4]; exact ⟨heap_alloc_new _ _, (Below.refl _ _).alloc (Nat.le_refl _) _⟩) ?_
  rintro w5 ⟨hr5, hb5⟩
  clear hg4
  have hE5 := hE4.below hb5
  have hk5 := (hk3.trans hk4).trans (EK.of_below hb5)
  have hs5 := hk5.size
  have A2 := Lib.hid (ew_a2 hE5 (by omega))
  have x3 := HF1.out w5 g4 hr5
  clear hE4 hb5 hE5 HAt1 hk3 hk4
  go_upto_region 8 with (first
    | (go_at_call 9; refine A2.out.mono ?_; rintro x w6 ⟨rfl, hk6, hE6⟩))
  have hr6 := (hk6.rows _ _ _ _ hr5 (by decide) (by decide)).trans hr5
  obtain ⟨s2, hi2, hAt2⟩ := ew_at2 hE6
  have HAt2 := Lib.hid hAt2
  have hsi2 := info_st s2
  have hso2 := st_one s2
  have hsz2 := hz40 s2
  have HF2 : Hid (∀ (W : World) (g : Nat), W.heap[g]? = some (.cells (stCells s2) 45 (0, 0)) → W.cell? ⟨g, 3, none⟩ = some (.int .i64 1500)) := Lib.hid fun W g h => by rw [st_four h, hi2]
  have hk06 := hk5.trans hk6
  clear hAt2 A2 x3 hr5 hk5 hE6
  generalize stCells s2 = S2 at *
  go_upto_region 9 with (first
    | (go_at_call 11; refine HAt2.out.mono ?_; rintro x w7 ⟨rfl, hk7, hE7⟩)
    | (refine alloc_store rfl rfl 45 _ _ rfl rfl rfl rfl S2 rfl rfl hsz2 hsi2 hso2 ?_))
  have hr7 := (hk7.rows _ _ _ _ hr6 (by decide) (by decide)).trans hr6
  obtain ⟨g6, hg6⟩ : ∃ g6, g6 = w7.heap.size := ⟨_, rfl⟩
  rw [← hg6]
  refine wp_at (fun wx => wx.heap[g6]? = some (.cells S2 45 (0, 0)) ∧ Below w7.heap.size w7 wx) (by rw [hg6]; exact ⟨heap_alloc_new _ _, (Below.refl _ _).alloc (Nat.le_refl _) _⟩) ?_
  rintro w8 ⟨hr8, hb8⟩
  clear hg6
  have hE8 := Lib.hid (hE7.below hb8)
  have hq8 := (hb8.block g4 (Array.getElem?_eq_some_iff.1 hr7).1).trans hr7
  have hk08 := (hk06.trans hk7).trans (EK.of_below hb8)
  have HAS8 := Lib.hid (HAS.out w8 hE8.out)
  clear HAt2 hr6 hr7 hk7 hE7 hb8 hk06 hk6
  go_upto_region 10 with (first
    | (go_at_call 13; refine HAS8.out.mono ?_; rintro x w9 ⟨rfl, hk9, hE9⟩)
    | (refine alloc_store rfl rfl 45 _ _ rfl rfl rfl rfl S1 rfl rfl hsz1 hsi1 hso1 ?_))
  have hr9 := (hk9.rows _ _ _ _ hr8 (by decide) (by decide)).trans hr8
  have hq9 := (hk9.rows _ _ _ _ hq8 (by decide) (by decide)).trans hq8
  obtain ⟨g8, hg8⟩ : ∃ g8, g8 = w9.heap.size := ⟨_, rfl⟩
  rw [← hg8]
  refine wp_at (fun wx => wx.heap[g8]? = some (.cells S1 45 (0, 0)) ∧ Below w9.heap.size w9 wx) (by rw [hg8]; exact ⟨heap_alloc_new _ _, (Below.refl _ _).alloc (Nat.le_refl _) _⟩) ?_
  rintro w10 ⟨hr10, hb10⟩
  clear hg8
  have hE10 := hE9.below hb10
  have ht10 := (hb10.block g6 (Array.getElem?_eq_some_iff.1 hr9).1).trans hr9
  have hq10 := (hb10.block g4 (Array.getElem?_eq_some_iff.1 hq9).1).trans hq9
  have hk10 := (hk08.trans hk9).trans (EK.of_below hb10)
  have HEV := Lib.hid (Events_b hE10)
  have y3 := HF2.out w10 g6 ht10
  clear hr8 hq8 hr9 hq9 hk9 hE9 hb10 hE10 hk08 HAS8 hE8 HAS
  go_wp2_with (first
    | (refine wpList_load_row_if (by rfl) 45 _ rfl _ rfl _ _ _ _ hr10 Tryz.underlying45 rfl hsi1 ?_)
    | (refine wpList_load_row_if (by rfl) 45 _ rfl _ rfl _ _ _ _ hq10 Tryz.underlying45 rfl hsi1 ?_)
    | (go_at_call 15; refine HEV.out.mono ?_; rintro x w11 ⟨E, c, rfl, hown, hb11⟩))
  go_ret
  exact ⟨rfl, hB2.out.trans ((hk10.below (B := w.heap.size) hs1 (by have := hB2.out.size; omega)).trans (hb11.mono (by have := hB2.out.size; have := hk10.size; omega)))⟩
end Go.Proofs.YtcbopgopegphlaaGreat
