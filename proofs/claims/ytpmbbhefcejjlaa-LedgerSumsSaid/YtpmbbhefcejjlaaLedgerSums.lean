/-
  The walk of LedgerSums.
-/
import Derived.Test.YtpmbbhefcejjlaaLedY
namespace Go.Proofs.Ytpmbbhefcejjlaa
open Go.RowKit
set_option linter.unusedVariables false

/-- States in a row. -/
structure RdSt (w : World) (A : Option Addr) (n : Nat) (ss : List St) : Prop where
  len : ss.length = n
  ex : 0 < n → ∃ b off, A = some ⟨b, off, none⟩ ∧ ∀ j (hj : j < ss.length), ∀ i u, (stCells ss[j])[i]? = some u → w.cell? ⟨b, off + j * 12 + i, none⟩ = some u
theorem JW.new (w : World) (base : Nat) (hb : base ≤ w.heap.size) : JW (w.alloc (.cells #[.slice none 0 0, .int .i64 (-719163)] 70)) w.heap.size base 0 0 [] (-719163) :=
  ⟨⟨.slice none 0 0, [], ⟨heap_alloc_new _ _, OwnJ.nil _ _, hb⟩, rfl, fun k _ h => by omega⟩, by simp, by simp, by omega⟩
/-- A row written that is none of the journal's. -/
theorem JW.row {w : World} {g base lo hi k : Nat} {ps : List PV} {cl : Int} (h : JW w g base lo hi ps cl) (hk : lo ≤ k ∧ k < hi) (cs : Array Value) : JW (w.setRow k cs) g base lo hi ps cl := by
  obtain ⟨v, qs, hJ, hp, ha⟩ := h.ex
  exact ⟨⟨v, qs, hJ.same fun i hi => setRow_other _ _ _ _ (fun e => ha i hi (by rw [e]; exact hk)), hp, ha⟩, h.len, h.lines, h.cls⟩
/-- Behind Post. -/
structure Out (B g g8 : Nat) (w : World) (s : St) (ps : List PV) (wx : World) : Prop where
  jw : JW wx g B g8 (g8 + 1) ps (-719163)
  at_ : wx.heap[g8]? = some (.cells (stCells s) 23 (0, 0))
  below : Below B w wx
  size : g8 + 1 ≤ wx.heap.size
theorem Out.to {B g g8 : Nat} {w : World} {s : St} {ps : List PV} {wx wy : World} (h : Out B g g8 w s ps wx) (hb : Below wx.heap.size wx wy) (hB : B ≤ wx.heap.size) : Out B g g8 w s ps wy :=
  ⟨h.jw.below hb, (hb.block g8 (heap_lt' h.at_)).trans h.at_, h.below.trans (hb.mono hB), Nat.le_trans h.size hb.size⟩
theorem out_b {B g g8 q zz : Nat} {w : World} {s : St} {ps : List PV} {wx : World} (hj : JQ wx g B g8 (g8 + 1) q zz ps (-719163)) (hq : q < zz) (ha : wx.heap[g8]? = some (.cells (stCells s) 23 (0, 0))) (hb : Below B w wx) (hz : g8 + 1 ≤ wx.heap.size) (hB : B ≤ q) (hg : g8 < q) (u0 u1 u2 u3 : Value) :
    Out B g g8 w s ps ((((wx.setCell ⟨q, 0, none⟩ u0).setCell ⟨q, 1, none⟩ u1).setCell ⟨q, 2, none⟩ u2).setCell ⟨q, 3, none⟩ u3) := by
  have hne : g8 ≠ q := by omega
  refine ⟨((((hj.set ⟨Nat.le_refl _, hq⟩ 0 u0).set ⟨Nat.le_refl _, hq⟩ 1 u1).set ⟨Nat.le_refl _, hq⟩ 2 u2).set ⟨Nat.le_refl _, hq⟩ 3 u3).jw, ?_, (((hb.setCell hB u0).setCell hB u1).setCell hB u2).setCell hB u3, by simp [World.setCell]; exact hz⟩
  rw [heap_setCell_other _ _ _ _ (by simpa using hne), heap_setCell_other _ _ _ _ (by simpa using hne), heap_setCell_other _ _ _ _ (by simpa using hne), heap_setCell_other _ _ _ _ (by simpa using hne)]
  exact ha
set_option maxRecDepth 100000 in
set_option maxHeartbeats 2000000 in
theorem LedgerSums_walk (A : Option Addr) (n c : Nat) (day : Int) (loan : ByteArray) (w : World) (ss : List St) (h : RdSt w A n ss) (hn : n ≤ c) (hc : c ≤ 140737488351232) (hd1 : -9223372036854775808 ≤ day) (hd2 : day ≤ 9223372036854775807) (hs : loan.size ≤ 140737488351232) :
    Calls Try.prog 6 #[.slice A n c, .int .i64 day, .string loan] w fun e w' => e = .returned (.bool true) ∧ Below w.heap.size w w' := by
  have HX := Lib.hid h
  have HN : Hid (ss.length = n) := Lib.hid h.len
  have WK := Lib.hid (wakes_any w)
  have HB0 := Lib.hid build_S0
  clear h
  go_enter Try.func6, Try.ntmps6
  go_wp2_with fail
  refine WK.out.mono ?_
  rintro e w1 ⟨rfl, hb1⟩
  have HB1 := Lib.hid hb1
  clear hb1 WK
  go_wp2_with fail
  refine (New_any w1).mono ?_
  rintro e w2 ⟨rfl, hw2⟩
  have HJ2 : Hid (JW w2 w1.heap.size w.heap.size 0 0 [] (-719163)) := Lib.hid (by rw [hw2]; exact JW.new w1 w.heap.size HB1.out.size)
  have HB2 : Hid (Below w.heap.size w w2) := Lib.hid (by rw [hw2]; exact HB1.out.alloc HB1.out.size _)
  clear hw2
  generalize w1.heap.size = g at *
  clear HB1
  go_upto_region 5 with (fail)
  change Code.wp _ _ _ _ (w2.alloc (.cells (stCells S0) 23))
  obtain ⟨w3, hw3⟩ : ∃ w3, w3 = w2.alloc (.cells (stCells S0) 23) := ⟨_, rfl⟩
  have hb3 : Below w2.heap.size w2 w3 := by rw [hw3]; exact (Below.refl _ _).alloc (Nat.le_refl _) _
  have HA3 : Hid (w3.heap[w2.heap.size]? = some (.cells (stCells S0) 23 (0, 0))) := Lib.hid (by rw [hw3]; exact heap_alloc_new _ _)
  have HZ3 : Hid (w2.heap.size + 1 ≤ w3.heap.size) := Lib.hid (by rw [hw3]; simp)
  have HG8 : Hid (w.heap.size ≤ w2.heap.size) := Lib.hid HB2.out.size
  have HJ3 : Hid (JW w3 g w.heap.size w2.heap.size (w2.heap.size + 1) [] (-719163)) := Lib.hid ((HJ2.out.window (Nat.le_refl _)).below hb3)
  have HB3 := Lib.hid (HB2.out.trans (hb3.mono HB2.out.size))
  rw [← hw3]
  clear hw3 hb3 HJ2 HB2
  generalize w2.heap.size = g8 at *
  go_wp2_with fail
  go_loopw [20] (fun t wr => ∃ (k : Nat) (ps : List PV) (s : St), k ≤ n ∧ t = .int .i64 k ∧ Hid (SumInv ps s day loan) ∧ Hid (JW wr g w.heap.size g8 (g8 + 1) ps (-719163)) ∧ Hid (wr.heap[g8]? = some (.cells (stCells s) 23 (0, 0))) ∧ Hid (Below w.heap.size w wr) ∧ Hid (g8 + 1 ≤ wr.heap.size)) (fun t _ => n - (intOf t).toNat)
  case atStart => exact ⟨0, [], S0, Nat.zero_le _, rfl, Lib.hid (SumInv.start day loan), HJ3, HA3, HB3, HZ3⟩
  case round =>
    clear HJ3 HA3 HB3 HZ3
    obtain ⟨k, ps, s, hk, rfl, HI, HJ, HA, HB, HZ⟩ := hrel
    obtain ⟨wa, rfl⟩ : ∃ x, x = wr := ⟨_, rfl⟩
    by_cases hlt : k < n
    · have hkl : k < ss.length := by rw [HN.out]; exact hlt
      obtain ⟨b, off, rfl, hcx⟩ := HX.out.ex (by omega)
      have HT : Hid (∀ W, Below w.heap.size w W → ∀ j u, (stCells ss[k]).toList[j]? = some u → W.cell? ⟨b, off + k * 12 + j, none⟩ = some u) := Lib.hid fun W hW j u hu => by
        have h1 := hcx k hkl j u (by simpa using hu)
        exact (hW.cell (p := ⟨b, off + k * 12 + j, none⟩) (World.block_lt_of_cell? w _ h1)).trans h1
      clear hcx
      generalize ss[k] = t at *
      have HSC : Hid (∀ W, Below wa.heap.size wa W → ∀ j u, (stCells s)[j]? = some u → W.cell? ⟨g8, j, none⟩ = some u) := Lib.hid fun W hW j u hu => by
        rw [cell_of_row _ _ _ _ _ _ ((hW.block g8 (heap_lt' HA.out)).trans HA.out)]
        exact hu
      have HTC : Hid (∀ W, Below wa.heap.size wa W → ∀ j u, (stCells t)[j]? = some u → W.cell? ⟨b, off + k * 12 + j, none⟩ = some u) := Lib.hid fun W hW j u hu => HT.out W (HB.out.trans (hW.mono HB.out.size)) j u (by simpa using hu)
      have hbd : Below wa.heap.size wa wa.drew := (Below.refl _ _).drew
      have hba : Below wa.heap.size wa (wa.alloc (.cells Z4 49)).drew := ((Below.refl _ _).alloc (Nat.le_refl _) _).drew
      have s0 := HSC.out wa.drew hbd 0 _ (show (stCells s)[0]? = some (.int .i64 s.day) from rfl)
      have s1 := HSC.out wa.drew hbd 1 _ (show (stCells s)[1]? = some (.int .i64 s.rate) from rfl)
      have s2 := HSC.out wa.drew hbd 2 _ (show (stCells s)[2]? = some (.int .i64 s.p) from rfl)
      have s3 := HSC.out wa.drew hbd 3 _ (show (stCells s)[3]? = some (.int .i64 s.i) from rfl)
      have s4 := HSC.out wa.drew hbd 4 _ (show (stCells s)[4]? = some (.int .i64 s.f) from rfl)
      have s5 := HSC.out wa.drew hbd 5 _ (show (stCells s)[5]? = some (.int .i64 s.c) from rfl)
      have s6 := HSC.out wa.drew hbd 6 _ (show (stCells s)[6]? = some (.int .i64 s.o) from rfl)
      have s7 := HSC.out wa.drew hbd 7 _ (show (stCells s)[7]? = some (.int .i64 s.n) from rfl)
      have s8 := HSC.out wa.drew hbd 8 _ (show (stCells s)[8]? = some (.int .i64 s.a) from rfl)
      have s9 := HSC.out wa.drew hbd 9 _ (show (stCells s)[9]? = some (.int .i64 s.ch) from rfl)
      have s10 := HSC.out wa.drew hbd 10 _ (show (stCells s)[10]? = some (.int .i64 s.late) from rfl)
      have s11 := HSC.out wa.drew hbd 11 _ (show (stCells s)[11]? = some (.int .i64 s.bk) from rfl)
      have t0 := HTC.out wa.drew hbd 0 _ (show (stCells t)[0]? = some (.int .i64 t.day) from rfl)
      have t1 := HTC.out wa.drew hbd 1 _ (show (stCells t)[1]? = some (.int .i64 t.rate) from rfl)
      have t2 := HTC.out wa.drew hbd 2 _ (show (stCells t)[2]? = some (.int .i64 t.p) from rfl)
      have t3 := HTC.out wa.drew hbd 3 _ (show (stCells t)[3]? = some (.int .i64 t.i) from rfl)
      have t4 := HTC.out wa.drew hbd 4 _ (show (stCells t)[4]? = some (.int .i64 t.f) from rfl)
      have t5 := HTC.out wa.drew hbd 5 _ (show (stCells t)[5]? = some (.int .i64 t.c) from rfl)
      have t6 := HTC.out wa.drew hbd 6 _ (show (stCells t)[6]? = some (.int .i64 t.o) from rfl)
      have t7 := HTC.out wa.drew hbd 7 _ (show (stCells t)[7]? = some (.int .i64 t.n) from rfl)
      have t8 := HTC.out wa.drew hbd 8 _ (show (stCells t)[8]? = some (.int .i64 t.a) from rfl)
      have t9 := HTC.out wa.drew hbd 9 _ (show (stCells t)[9]? = some (.int .i64 t.ch) from rfl)
      have t10 := HTC.out wa.drew hbd 10 _ (show (stCells t)[10]? = some (.int .i64 t.late) from rfl)
      have t11 := HTC.out wa.drew hbd 11 _ (show (stCells t)[11]? = some (.int .i64 t.bk) from rfl)
      have s'0 := HSC.out _ hba 0 _ (show (stCells s)[0]? = some (.int .i64 s.day) from rfl)
      have s'1 := HSC.out _ hba 1 _ (show (stCells s)[1]? = some (.int .i64 s.rate) from rfl)
      have s'2 := HSC.out _ hba 2 _ (show (stCells s)[2]? = some (.int .i64 s.p) from rfl)
      have s'3 := HSC.out _ hba 3 _ (show (stCells s)[3]? = some (.int .i64 s.i) from rfl)
      have s'4 := HSC.out _ hba 4 _ (show (stCells s)[4]? = some (.int .i64 s.f) from rfl)
      have s'5 := HSC.out _ hba 5 _ (show (stCells s)[5]? = some (.int .i64 s.c) from rfl)
      have s'6 := HSC.out _ hba 6 _ (show (stCells s)[6]? = some (.int .i64 s.o) from rfl)
      have s'7 := HSC.out _ hba 7 _ (show (stCells s)[7]? = some (.int .i64 s.n) from rfl)
      have s'8 := HSC.out _ hba 8 _ (show (stCells s)[8]? = some (.int .i64 s.a) from rfl)
      have s'9 := HSC.out _ hba 9 _ (show (stCells s)[9]? = some (.int .i64 s.ch) from rfl)
      have s'10 := HSC.out _ hba 10 _ (show (stCells s)[10]? = some (.int .i64 s.late) from rfl)
      have s'11 := HSC.out _ hba 11 _ (show (stCells s)[11]? = some (.int .i64 s.bk) from rfl)
      have t'0 := HTC.out _ hba 0 _ (show (stCells t)[0]? = some (.int .i64 t.day) from rfl)
      have t'1 := HTC.out _ hba 1 _ (show (stCells t)[1]? = some (.int .i64 t.rate) from rfl)
      have t'2 := HTC.out _ hba 2 _ (show (stCells t)[2]? = some (.int .i64 t.p) from rfl)
      have t'3 := HTC.out _ hba 3 _ (show (stCells t)[3]? = some (.int .i64 t.i) from rfl)
      have t'4 := HTC.out _ hba 4 _ (show (stCells t)[4]? = some (.int .i64 t.f) from rfl)
      have t'5 := HTC.out _ hba 5 _ (show (stCells t)[5]? = some (.int .i64 t.c) from rfl)
      have t'6 := HTC.out _ hba 6 _ (show (stCells t)[6]? = some (.int .i64 t.o) from rfl)
      have t'7 := HTC.out _ hba 7 _ (show (stCells t)[7]? = some (.int .i64 t.n) from rfl)
      have t'8 := HTC.out _ hba 8 _ (show (stCells t)[8]? = some (.int .i64 t.a) from rfl)
      have t'9 := HTC.out _ hba 9 _ (show (stCells t)[9]? = some (.int .i64 t.ch) from rfl)
      have t'10 := HTC.out _ hba 10 _ (show (stCells t)[10]? = some (.int .i64 t.late) from rfl)
      have t'11 := HTC.out _ hba 11 _ (show (stCells t)[11]? = some (.int .i64 t.bk) from rfl)
      rw [Nat.add_zero] at t0 t'0
      have PC : Hid (∀ W, Below wa.heap.size wa W → Calls Try.prog 19 #[.pointer (some ⟨g, 0, none⟩), .int .i64 day, .string loan, .agg (stCells s), .agg (stCells t)] W fun e w' =>
          (∃ pn pd pl A m c ok, e = .returned (.tuple #[.agg #[.int .i64 pn, .int .i64 pd, .string pl, .slice A m c], .bool ok, .int .i64 (postR ps.length (-719163) day loan s t).1])) ∧
          JQ w' g w.heap.size g8 (g8 + 1) wa.heap.size W.heap.size (match (postR ps.length (-719163) day loan s t).2 with | none => ps | some p => ps ++ [p]) (-719163) ∧ Win w.heap.size g8 (g8 + 1) W w' ∧ (∀ k, wa.heap.size ≤ k → k < W.heap.size → w'.heap[k]? = W.heap[k]?)) := Lib.hid fun W hW => by
        obtain ⟨v, qs, hJ, hp, ha⟩ := HJ.out.ex
        exact Post_jw3 s t W g w.heap.size g8 (g8 + 1) wa.heap.size v qs ps (-719163) day loan (HJ.out.below hW) (hJ.same fun k hk => hW.block k (hJ.lt hk).2) hp ha (fun k hk => (hJ.lt hk).2) (Nat.le_trans HZ.out hW.size)
      unfold stCells at PC
      have HIN : Hid (SumInv (match (postR ps.length (-719163) day loan s t).2 with | none => ps | some p => ps ++ [p]) (if (postR ps.length (-719163) day loan s t).1 = 0 then t else s) day loan) := Lib.hid (HI.out.step t)
      generalize postR ps.length (-719163) day loan s t = RR at *
      obtain ⟨er, pp⟩ := RR
      dsimp only at PC HIN
      generalize (match pp with | none => ps | some p => ps ++ [p]) = ps2 at *
      have HOA : Hid (∀ W w5 : World, Below wa.heap.size wa W → JQ w5 g w.heap.size g8 (g8 + 1) wa.heap.size W.heap.size ps2 (-719163) → Win w.heap.size g8 (g8 + 1) W w5 → Out w.heap.size g g8 w s ps2 w5) := Lib.hid fun W w5 hW hj hw =>
        ⟨hj.jw, (hw.block g8 (.inr ⟨Nat.le_refl _, by omega⟩) (Nat.lt_of_lt_of_le (heap_lt' HA.out) hW.size)).trans ((hW.block g8 (heap_lt' HA.out)).trans HA.out), (HB.out.trans (hW.mono HB.out.size)).trans (hw.below (Nat.le_trans HB.out.size hW.size)), Nat.le_trans HZ.out (Nat.le_trans hW.size hw.size)⟩
      have HOB : Hid (∀ W w5 : World, Below wa.heap.size wa W → wa.heap.size < W.heap.size → JQ w5 g w.heap.size g8 (g8 + 1) wa.heap.size W.heap.size ps2 (-719163) → Win w.heap.size g8 (g8 + 1) W w5 → ∀ u0 u1 u2 u3, Out w.heap.size g g8 w s ps2 ((((w5.setCell ⟨wa.heap.size, 0, none⟩ u0).setCell ⟨wa.heap.size, 1, none⟩ u1).setCell ⟨wa.heap.size, 2, none⟩ u2).setCell ⟨wa.heap.size, 3, none⟩ u3)) := Lib.hid fun W w5 hW hlt hj hw u0 u1 u2 u3 => by
        obtain ⟨_, h2, h3, h4⟩ := HOA.out W w5 hW hj hw
        exact out_b hj hlt h2 h3 h4 HB.out.size (heap_lt' HA.out) u0 u1 u2 u3
      clear HSC HTC
      go_upto_region 8 with (fail)
      go_cut [12] (fun e wx => e = .int .i64 er ∧ Out w.heap.size g g8 w s ps2 wx)
      case first =>
        go_region_with (first
        | (go_at_call 19; with_reducible refine (PC.out _ hbd).mono ?_; rintro e w5 ⟨⟨pn, pd, pl, A5, m5, c5, ok, rfl⟩, hj5, hw5, hk5⟩; go_loud (have HO : Out w.heap.size g g8 w s ps2 w5 := HOA.out _ w5 hbd hj5 hw5))
        | (go_at_call 19; go_loud (with_reducible refine (PC.out _ hba).mono ?_); rintro e w5 ⟨⟨pn, pd, pl, A5, m5, c5, ok, rfl⟩, hj5, hw5, hk5⟩; go_loud (have HO := HOB.out _ w5 hba (by simp [World.drew]) hj5 hw5); have hz5 : w5.heap[wa.heap.size]? = some (.cells Z4 49 (0, 0)) := (hk5 wa.heap.size (Nat.le_refl _) (by simp [World.drew])).trans (heap_alloc_new wa _); have z0 : w5.cell? ⟨wa.heap.size, 0, none⟩ = some (.int .i64 0) := (by rw [cell_of_row _ _ _ _ _ _ hz5]; rfl); have z1 : w5.cell? ⟨wa.heap.size, 1, none⟩ = some (.int .i64 0) := (by rw [cell_of_row _ _ _ _ _ _ hz5]; rfl); have z2 : w5.cell? ⟨wa.heap.size, 2, none⟩ = some (.string ⟨#[]⟩) := (by rw [cell_of_row _ _ _ _ _ _ hz5]; rfl); have z3 : w5.cell? ⟨wa.heap.size, 3, none⟩ = some (.slice none 0 0) := (by rw [cell_of_row _ _ _ _ _ _ hz5]; rfl); have zf : ∀ j, w5.frozen? ⟨wa.heap.size, j, none⟩ = false := fun j => (by simp [World.frozen?, hz5])))
        all_goals go_wp2_with fail
        all_goals go_meet
        all_goals first
          | exact ⟨rfl, HO _ _ _ _⟩
          | exact ⟨rfl, HO.to ((Below.refl _ _).alloc (Nat.le_refl _) _) HO.below.size⟩
      case rest =>
        obtain ⟨rfl, hO⟩ := hcut
        obtain ⟨wx, rfl, _⟩ : ∃ x, x = _ ∧ Out w.heap.size g g8 w s ps2 x := ⟨_, rfl, hO⟩
        have hTX := HT.out wx hO.below
        have hAX := hO.at_
        have hiT := st_info t
        have hoT := st_one t
        have HOX := Lib.hid hO
        clear hO PC HOA HOB HI HJ HA HB HZ hbd hba s0 s1 s2 s3 s4 s5 s6 s7 s8 s9 s10 s11 t0 t1 t2 t3 t4 t5 t6 t7 t8 t9 t10 t11 s'0 s'1 s'2 s'3 s'4 s'5 s'6 s'7 s'8 s'9 s'10 s'11 t'0 t'1 t'2 t'3 t'4 t'5 t'6 t'7 t'8 t'9 t'10 t'11
        by_cases he : er = 0
        · subst he
          rw [if_pos rfl] at HIN
          go_wp2_with (first
            | (refine load_mid rfl 23 _ rfl b (off + k * 12) rfl (stCells t) _ hTX Try.underlying23 rfl hiT ?_)
            | (refine wpList_store_rowTo rfl 23 _ _ rfl rfl g8 (stCells t) rfl rfl _ _ hAX hiT rfl hoT ?_))
          go_roundw
          case rel =>
            exact ⟨k + 1, ps2, t, by omega, by go_num, HIN, Lib.hid (HOX.out.jw.row ⟨Nat.le_refl _, by omega⟩ _), Lib.hid (setRow_heap _ _ _ _ _ _ HOX.out.at_), Lib.hid (below_setRow HOX.out.below HG8.out _), Lib.hid (by rw [setRow_size]; exact HOX.out.size)⟩
          case measure => (try simp [intOf]) <;> (try omega)
        · rw [if_neg he] at HIN
          have heb : (er == 0) = false := by rw [beq_eq_false_iff_ne]; exact he
          go_wp2
          go_roundw
          case rel =>
            exact ⟨k + 1, ps2, s, by omega, by go_num, HIN, Lib.hid HOX.out.jw, Lib.hid HOX.out.at_, Lib.hid HOX.out.below, Lib.hid HOX.out.size⟩
          case measure => (try simp [intOf]) <;> (try omega)
    · have HL := Lib.hid (Lines_any S0 s wa)
      rw [show S0.val = .agg (stCells S0) from rfl, show s.val = .agg (stCells s) from rfl, HI.out.want] at HL
      have HD : Hid (ps.filter (inDays day day) = ps) := Lib.hid HI.out.days
      have HAL : Hid (∀ p ∈ ps, p.loan = loan) := Lib.hid fun p hp => (HI.out.all p hp).1
      have hAX := HA.out
      have hiS := st_info s
      clear hk HI HA HZ
      generalize stCells s = S at *
      generalize stCells S0 = C0 at *
      go_wp2_with (first
        | (refine wpList_buildTo rfl 23 _ rfl _ rfl _ (HB0.out _) ?_)
        | (refine wpList_load_row rfl 23 _ rfl _ rfl _ _ _ _ hAX Try.underlying23 rfl hiS ?_))
      refine HL.out.mono ?_
      rintro e y1 ⟨v1, rfl, hv1, hb1⟩
      have HV1 := Lib.hid hv1
      have HJ1 := Lib.hid (HJ.out.below hb1)
      have HB1 := Lib.hid (HB.out.trans (hb1.mono HB.out.size))
      clear hv1 hb1 hAX hiS HL HJ HB
      go_wp2_with fail
      refine (Balance_all y1 g w.heap.size _ _ ps (-719163) loan HJ1.out HAL.out HB1.out.size).mono ?_
      rintro e y2 ⟨v2, rfl, hv2, hb2⟩
      have hv12 := OwnL.below HV1.out hb2
      obtain ⟨A1, m1, c1, rfl, hm1, _, _, hr1, _⟩ := OwnL.form hv12
      obtain ⟨A2, m2, c2, rfl, hm2, _, _, hr2, _⟩ := OwnL.form hv2
      obtain rfl : m1 = m2 := by rw [← hm1.out, ← hm2.out]
      have hm7 : m1 ≤ 7 := by rw [← hm1.out]; exact rowsT_len (totF (flatL ps)) 7
      have S1 := Lib.hid (Same_eq A2 A1 m1 c2 c1 _ y2 hr2 hr1 (by omega))
      have HR1 := Lib.hid hr1
      have HJ2 := Lib.hid (HJ1.out.below hb2)
      have HB2 := Lib.hid (HB1.out.trans (hb2.mono HB1.out.size))
      have HM1 := Lib.hid hm1.out
      clear hv2 hb2 hv12 hm1 hm2 hr1 hr2 HV1 HJ1
      go_wp2_with fail
      refine S1.out.mono ?_
      rintro e y3 ⟨rfl, hd3⟩
      have HJ3 := Lib.hid (HJ2.out.below hd3.below)
      have HB3 := Lib.hid (HB2.out.trans (hd3.below.mono HB2.out.size))
      have HR3 := Lib.hid (HR1.out.below hd3.below)
      clear hd3 S1 HJ2 HR1
      go_wp2_with fail
      refine (Trial_jw y3 g w.heap.size _ _ ps (-719163) day day HJ3.out).mono ?_
      rintro e y4 ⟨v4, rfl, hv4, hb4⟩
      rw [HD.out] at hv4
      obtain ⟨A4, m4, c4, rfl, hm4, _, _, hr4, _⟩ := OwnL.form hv4
      obtain rfl : m1 = m4 := by rw [← HM1.out, ← hm4.out]
      have S2 := Lib.hid (Same_eq A4 A1 m1 c4 c1 _ y4 hr4 (HR3.out.below hb4) (by omega))
      have HB4 := Lib.hid (HB3.out.trans (hb4.mono HB3.out.size))
      clear hv4 hb4 hm4 hr4
      go_wp2_with fail
      refine S2.out.mono ?_
      rintro e y5 ⟨rfl, hd5⟩
      go_wp2
      go_ret
      exact ⟨rfl, HB4.out.trans (hd5.below.mono HB4.out.size)⟩
end Go.Proofs.Ytpmbbhefcejjlaa
