/-
  The walk of Post at any journal. No statement is proved here.
-/
import Derived.Deep.RegionWith
import Derived.Deep.RegionLaw
import Derived.Deep.CutRange
import Derived.Test.YtpmbbhefcejjlaaLedQ
import Derived.Test.YtpmbbhefcejjlaaLedW8
namespace Go.Proofs.Ytpmbbhefcejjlaa
open Go.RowKit
set_option linter.unusedVariables false

/-- A journal: its postings, its last closed day. -/
structure Jn (w : World) (g base : Nat) (v : Value) (qs : List PR) (cl : Int) : Prop where
  cell : w.heap[g]? = some (.cells #[v, .int .i64 cl] 70 (0, 0))
  own : OwnJ w base v qs
  low : base ≤ g
/-- All but some blocks are as they were. -/
structure Kept (B : Nat → Prop) (w w' : World) : Prop where
  os : w'.os = w.os
  tape : w'.tape = w.tape
  output : w'.output = w.output
  size : w.heap.size ≤ w'.heap.size
  block : ∀ k, k < w.heap.size → ¬ B k → w'.heap[k]? = w.heap[k]?
theorem Kept.trans {B : Nat → Prop} {a b c : World} (h : Kept B a b) (k : Kept B b c) : Kept B a c := ⟨k.os.trans h.os, k.tape.trans h.tape, k.output.trans h.output, Nat.le_trans h.size k.size, fun i hi hb => (k.block i (Nat.lt_of_lt_of_le hi h.size) hb).trans (h.block i hi hb)⟩
theorem keptB {w w' : World} (h : Below w.heap.size w w') (B : Nat → Prop) : Kept B w w' := ⟨h.os, h.tape, h.output, h.size, fun k hk _ => h.block k hk⟩
def postR (n : Nat) (cl day : Int) (loan : ByteArray) (s t : St) : Int × Option PV :=
  if day < -719162 ∨ 2932896 < day then (6, none)
  else if nameOk loan = false then (51, none)
  else if (linesAt s t).2 ≠ 0 then ((linesAt s t).2, none)
  else if n = 65536 then (3, none)
  else if 2932896 < max day (cl + 1) then (6, none)
  else if (linesAt s t).1 = [] then (0, none)
  else (0, some ⟨(n : Int) + 1, max day (cl + 1), loan, (linesAt s t).1⟩)
def PostEnds (w : World) (g base : Nat) (v : Value) (qs : List PR) (cl : Int) (r : Int × Option PV) (e : Ending) (w' : World) : Prop :=
  ∃ pn pd ps vl, e = .returned (.tuple #[pval pn pd ps vl, .bool r.2.isSome, .int .i64 r.1]) ∧ (r.2 = none → Below w.heap.size w w' ∧ pn = 0 ∧ pd = 0 ∧ ps = ⟨#[]⟩ ∧ vl = .slice none 0 0) ∧
    ∀ p, r.2 = some p → pn = p.num ∧ pd = p.day ∧ ps = p.loan ∧ ∃ m v' q, q.p = p ∧ w.heap.size ≤ m ∧ OwnL w' w.heap.size vl p.lines ∧ (∀ k, vl.ownBlock = some k → k < m) ∧ Jn w' g base v' (qs ++ [q]) cl ∧
      (∀ k, Blk v' (qs ++ [q]) k → Blk v qs k ∨ m ≤ k) ∧ Kept (fun k => k = g ∨ v.ownBlock = some k) w w'
theorem PostEnds.bad {w w' : World} {g base : Nat} {v : Value} {qs : List PR} {cl er : Int} (h : Below w.heap.size w w') : PostEnds w g base v qs cl (er, none) (.returned (.tuple #[.agg #[.int .i64 0, .int .i64 0, .string ⟨#[]⟩, .slice none 0 0], .bool false, .int .i64 er])) w' :=
  ⟨0, 0, ⟨#[]⟩, .slice none 0 0, rfl, fun _ => ⟨h, rfl, rfl, rfl, rfl⟩, fun p hp => by cases hp⟩
/-- append, of one posting, at a step of a region that draws its order. -/
theorem step_j {ops : Array Oper} {o : Oper} {a : Act} {w : World} {K : Act → World → Prop} {Q : Exit → Act → World → Prop} {E : Prop} (hgd : o.guard = none) (s x : Operand)
    (ho : o.op = .call { callee := .builtin .append, args := #[s, x], argTypes := #[42, 42] })
    (base : Nat) (v : Value) (qs : List PR) (hs : a.eval s = v) (hown : OwnJ w base v qs) (q : PR) (hl : OwnL w base q.lv q.p.lines)
    (hx : a.eval x = .slice (some ⟨w.heap.size, 0, none⟩) 1 1) (hlen : qs.length ≤ 900000) (hbase : base ≤ w.heap.size)
    (h : ∀ g2 cap w', OwnJ w' base (.slice (some ⟨g2, 0, none⟩) (qs.length + 1) cap) (qs ++ [q]) → (v.ownBlock = some g2 ∨ w.heap.size ≤ g2) → Kept (fun k => v.ownBlock = some k) w w' → K (a.put o.dst (.slice (some ⟨g2, 0, none⟩) (qs.length + 1) cap)) w') :
    if Region.wanted o (yielded ops a.tmps) = true then Oper.wp Try.prog o a (w.alloc (.cells #[.int .i64 q.p.num, .int .i64 q.p.day, .string q.p.loan, q.lv] 49)) K Q else E := by
  have hw : Region.wanted o (yielded ops a.tmps) = true := by simp [Region.wanted, hgd]
  rw [if_pos hw]
  have hba : Below w.heap.size w (w.alloc (.cells #[.int .i64 q.p.num, .int .i64 q.p.day, .string q.p.loan, q.lv] 49)) := (Below.refl _ _).alloc (Nat.le_refl _) _
  have hrow := (hown.below hba).row
  have hown2 := hown.below hba
  have hl2 : OwnL _ base q.lv q.p.lines := hl.below hba
  obtain ⟨i0, hi, hz0, hz1, hz2⟩ := info_parts infoPost
  refine wp_append_rd _ s x 42 ho base 49 i0 (.agg #[.int .i64 0, .int .i64 0, .string ⟨#[]⟩, .slice none 0 0]) 4 56 Try.underlying42 hi hz0 hz1 hz2 rfl (by decide) v qs.length (prows qs) hs hrow _ 1 1 (prow q) hx (rd_lit w 4 1 _ rfl _) (prow_one hl) (by unfold maxLen; omega) (by omega) (by simp; omega) fun v' w' hown' hg hb => ?_
  obtain ⟨g2, cap, rfl⟩ := own_slice hown' (by omega)
  refine h g2 cap w' ⟨?_, fun r hr => ?_⟩ ?_ ?_
  · rw [List.length_append, prows_snoc]; exact hown'
  · rcases List.mem_append.1 hr with h1 | h1
    · exact (hown2.each r h1).grown hrow hg
    · obtain rfl : r = q := by simpa using h1
      exact hl2.grown hrow hg
  · rcases hb with h1 | h1
    · exact .inl h1.symm
    · simp [Value.ownBlock] at h1
      exact .inr (by omega)
  · have hk := (Below.refl w.heap.size (w.alloc (.cells #[.int .i64 q.p.num, .int .i64 q.p.day, .string q.p.loan, q.lv] 49)))
    have hg2 := Below.grown (B := 0) (Below.refl 0 _) hg (Nat.zero_le _) (fun _ _ => Nat.zero_le _)
    refine ⟨hg2.os.trans hba.os, hg2.tape.trans hba.tape, hg2.output.trans hba.output, Nat.le_trans hba.size hg2.size, fun k hk hne => ?_⟩
    exact (hg.block k (Nat.lt_of_lt_of_le hk hba.size) (fun e => hne e.symm)).trans (hba.block k hk)
theorem OwnJ.other {w : World} {base g : Nat} {v : Value} {qs : List PR} {cs : Array Value} (h : OwnJ w base v qs) (hg : w.heap[g]? = some (.cells cs 70 (0, 0))) : ¬ Blk v qs g := by
  rintro (hk | ⟨q, hq, hk⟩)
  · obtain ⟨_, _, cs', h2⟩ := row_block h.row hk
    rw [hg] at h2
    injection h2 with h2
    injection h2 with _ h2
    exact absurd h2 (by decide)
  · obtain ⟨_, _, cs', h2⟩ := row_block (h.each q hq) hk
    rw [hg] at h2
    injection h2 with h2
    injection h2 with _ h2
    exact absurd h2 (by decide)
/-- The journal behind a store of its postings. -/
theorem Jn.store {w w' : World} {g base : Nat} {v v' : Value} {qs : List PR} {cl : Int} {B : Nat → Prop} (hg : w'.heap[g]? = some (.cells #[v, .int .i64 cl] 70 (0, 0))) (ho : OwnJ w' base v' qs) (hb : base ≤ g) (hk : Kept B w w') :
    Jn (w'.setCell ⟨g, 0, none⟩ v') g base v' qs cl ∧ Kept (fun k => k = g ∨ B k) w (w'.setCell ⟨g, 0, none⟩ v') := by
  have hs := heap_setCell_same w' g 0 _ _ v' hg
  refine ⟨⟨?_, ho.same fun k hk2 => heap_setCell_other _ _ _ _ (fun e => ?_), hb⟩, ⟨hk.os, hk.tape, hk.output, by simp [World.setCell]; exact hk.size, fun k h1 h2 => ?_⟩⟩
  · rw [hs]; rfl
  · subst e
    exact ho.other hg hk2
  · exact (heap_setCell_other _ _ _ _ (fun e => h2 (.inl e))).trans (hk.block k h1 (fun e => h2 (.inr e)))
/-- Behind the append: the journal has one posting more. -/
def PMid (w4 : World) (g base : Nat) (v : Value) (qs : List PR) (cl : Int) (p : PV) (wx : World) : Prop :=
  ∃ v' lv, Jn wx g base v' (qs ++ [⟨lv, p⟩]) cl ∧ (∀ k, v'.ownBlock = some k → v.ownBlock = some k ∨ w4.heap.size ≤ k) ∧ (∀ k, lv.ownBlock = some k → w4.heap.size ≤ k) ∧ Kept (fun k => k = g ∨ v.ownBlock = some k) w4 wx
abbrev Z4 : Array Value := #[.int .i64 0, .int .i64 0, .string ⟨#[]⟩, .slice none 0 0]
theorem z4_info : (Try.prog.info? 49).map (·.size) = some Z4.size := by
  rw [show Z4.size = 4 from rfl]; kernel_rfl
theorem z4_one : Z4.all (·.oneCell') = true := by simp [Value.oneCell']
theorem lines_len (s t : St) : (linesAt s t).1.length ≤ 7 := by
  unfold linesAt
  split
  · simp
  · split
    · simp
    · exact Nat.le_trans (List.length_filter_le _ _) (by simp [all7])
set_option maxRecDepth 100000 in
set_option maxHeartbeats 8000000 in
theorem Post_any (s t : St) (g base : Nat) (w : World) (v : Value) (qs : List PR) (cl day : Int) (loan : ByteArray) (hJ : Jn w g base v qs cl) (hcl : -719163 ≤ cl ∧ cl ≤ 2932896) (hq : qs.length ≤ 65536) :
    Calls Try.prog 19 #[.pointer (some ⟨g, 0, none⟩), .int .i64 day, .string loan, s.val, t.val] w (PostEnds w g base v qs cl (postR qs.length cl day loan s t)) := by
  have HL := Lib.hid (fun W => Lines_any s t W)
  have HN := Lib.hid (fun W => Name_any loan W)
  have HLL := Lib.hid (lines_len s t)
  obtain ⟨R, HR⟩ : ∃ R, Hid (R = postR qs.length cl day loan s t) := ⟨_, Lib.hid rfl⟩
  rw [← HR.out]
  unfold postR at HR
  rw [show s.val = .agg (stCells s) from rfl, show t.val = .agg (stCells t) from rfl] at HL
  have hiS := st_info s
  have hiT := st_info t
  rw [show s.val = .agg (stCells s) from rfl, show t.val = .agg (stCells t) from rfl]
  generalize linesAt s t = LT at *
  obtain ⟨l, er⟩ := LT
  dsimp only at HR HLL
  generalize nameOk loan = nk at *
  generalize stCells s = S at *
  generalize stCells t = T at *
  have HJ0 := Lib.hid hJ
  have hg : g < w.heap.size := heap_lt' hJ.cell
  obtain ⟨w1, hw1⟩ : ∃ w1, w1 = ((w.alloc (.cells S 23)).alloc (.cells T 23)).alloc (.cells Z4 49) := ⟨_, rfl⟩
  have hz1 : w1.heap.size = w.heap.size + 3 := by rw [hw1]; simp
  have hb1 : Below w.heap.size w w1 := by rw [hw1]; exact (((Below.refl _ _).alloc (Nat.le_refl _) _).alloc (by simp) _).alloc (by simp; omega) _
  have hS1 : w1.heap[w.heap.size]? = some (.cells S 23 (0, 0)) := by rw [hw1]; exact heap_alloc_old (heap_alloc_old (heap_alloc_new _ _))
  have hT1 : w1.heap[w.heap.size + 1]? = some (.cells T 23 (0, 0)) := by rw [hw1, ← World.size_alloc w]; exact heap_alloc_old (heap_alloc_new _ _)
  have hR1 : w1.heap[w.heap.size + 2]? = some (.cells Z4 49 (0, 0)) := by
    rw [hw1, show w.heap.size + 2 = ((w.alloc (.cells S 23)).alloc (.cells T 23)).heap.size by simp]; exact heap_alloc_new _ _
  clear hJ
  go_enter Try.func19, Try.ntmps19
  go_upto_region 1 with (fail)
  rw [← hw1]
  clear hw1
  have hiZ := z4_info
  have hoZ := z4_one
  have e2 : w.heap.size + 1 + 1 = w.heap.size + 2 := by omega
  rw [e2]
  clear e2
  generalize hrr : w.heap.size + 2 = rr at *
  by_cases hd : day < -719162 ∨ 2932896 < day
  · have HF : Hid (R = (6, none)) := Lib.hid (by rw [HR.out, if_pos hd])
    by_cases hd1 : day < -719162
    · go_wp2_with (refine wpList_store_rowTo rfl 49 _ _ rfl rfl _ Z4 rfl rfl _ _ hR1 hiZ rfl hoZ ?_)
      refine bodyPost_ret (results_cell3 (fn := Try.f19) rfl _ _ rr 49 _ (0, 0) _ rfl (setRow_heap _ _ _ _ _ _ hR1) Try.underlying49 rfl hiZ) rfl ?_
      rw [HF.out]
      exact PostEnds.bad (below_setRow hb1 (by omega) _)
    · have hd2 : 2932896 < day := by omega
      go_wp2_with (refine wpList_store_rowTo rfl 49 _ _ rfl rfl _ Z4 rfl rfl _ _ hR1 hiZ rfl hoZ ?_)
      refine bodyPost_ret (results_cell3 (fn := Try.f19) rfl _ _ rr 49 _ (0, 0) _ rfl (setRow_heap _ _ _ _ _ _ hR1) Try.underlying49 rfl hiZ) rfl ?_
      rw [HF.out]
      exact PostEnds.bad (below_setRow hb1 (by omega) _)
  · have hd1 : ¬ day < -719162 := by omega
    have hd2 : ¬ 2932896 < day := by omega
    rw [if_neg hd] at HR
    clear hd
    go_wp2_with fail
    refine (HN.out _).mono ?_
    rintro e w2 ⟨rfl, hb2⟩
    have hz2 := hb2.size
    have hS2 := (hb2.block w.heap.size (by omega)).trans hS1
    have hT2 := (hb2.block (w.heap.size + 1) (by omega)).trans hT1
    have hR2 := (hb2.block rr (by omega)).trans hR1
    have hb02 := hb1.trans (hb2.mono hb1.size)
    clear hS1 hT1 hR1 hb1 hb2 HN
    by_cases hnk : nk = false
    · subst hnk
      have HF : Hid (R = (51, none)) := Lib.hid (by rw [HR.out, if_pos rfl])
      go_wp2_with (refine wpList_store_rowTo rfl 49 _ _ rfl rfl _ Z4 rfl rfl _ _ hR2 hiZ rfl hoZ ?_)
      refine bodyPost_ret (results_cell3 (fn := Try.f19) rfl _ _ rr 49 _ (0, 0) _ rfl (setRow_heap _ _ _ _ _ _ hR2) Try.underlying49 rfl hiZ) rfl ?_
      rw [HF.out]
      exact PostEnds.bad (below_setRow hb02 (by omega) _)
    · obtain rfl : nk = true := by simpa using hnk
      rw [if_neg (by simp)] at HR
      clear hnk
      go_wp2_with (first
        | (refine wpList_load_row rfl 23 _ rfl _ rfl _ _ _ _ hS2 Try.underlying23 rfl hiS ?_)
        | (refine wpList_load_row rfl 23 _ rfl _ rfl _ _ _ _ hT2 Try.underlying23 rfl hiT ?_))
      refine (HL.out _).mono ?_
      rintro e w3 ⟨vl, rfl, hv, hb3⟩
      have hz3 := hb3.size
      have hR3 := (hb3.block rr (by omega)).trans hR2
      have hb03 := hb02.trans (hb3.mono hb02.size)
      have HJ3 := Lib.hid ((hb03.block g hg).trans HJ0.out.cell)
      have j0 : w3.cell? ⟨g, 0, none⟩ = some v := by rw [cell_of_row _ _ _ _ _ _ HJ3.out]; rfl
      have j1 : w3.cell? ⟨g, 1, none⟩ = some (.int .i64 cl) := by rw [cell_of_row _ _ _ _ _ _ HJ3.out]; rfl
      obtain ⟨A, m, c, rfl, hm, hmc, hcm, hrd, hlo⟩ := hv.form
      have HV : Hid (OwnL w3 w2.heap.size (.slice A m c) l) := Lib.hid hv
      have HM : Hid (l.length = m) := Lib.hid hm.out
      obtain ⟨Aj, cj, rfl, hcj, _, hloj⟩ := HJ0.out.own.form
      have HLJ := Lib.hid hloj
      have hmx1 : -719162 ≤ max day (cl + 1) ∧ max day (cl + 1) ≤ 9223372036854775807 := by omega
      clear hv hm hS2 hT2 hR2 hiS hiT HL hb3 hloj
      obtain ⟨nq, HNQ⟩ : ∃ nq, Hid (qs.length = nq) := ⟨_, Lib.hid rfl⟩
      rw [HNQ.out] at HR hcj hq
      rw [HNQ.out] at j0
      go_upto_region 9 with (fail)
      generalize max day (cl + 1) = d at *
      by_cases her : er = 0
      · subst her
        rw [if_neg (by simp)] at HR
        by_cases hn : nq = 65536
        · subst hn
          have HF : Hid (R = (3, none)) := Lib.hid (by rw [HR.out, if_pos rfl])
          go_wp2_with (refine wpList_store_rowTo rfl 49 _ _ rfl rfl _ Z4 rfl rfl _ _ hR3 hiZ rfl hoZ ?_)
          refine bodyPost_ret (results_cell3 (fn := Try.f19) rfl _ _ rr 49 _ (0, 0) _ rfl (setRow_heap _ _ _ _ _ _ hR3) Try.underlying49 rfl hiZ) rfl ?_
          rw [HF.out]
          exact PostEnds.bad (below_setRow hb03 (by omega) _)
        · rw [if_neg hn] at HR
          have hnb : ((nq : Int) == 65536) = false := by rw [beq_eq_false_iff_ne]; omega
          by_cases hdl : 2932896 < d
          · have HF : Hid (R = (6, none)) := Lib.hid (by rw [HR.out, if_pos hdl])
            go_wp2_with (refine wpList_store_rowTo rfl 49 _ _ rfl rfl _ Z4 rfl rfl _ _ hR3 hiZ rfl hoZ ?_)
            refine bodyPost_ret (results_cell3 (fn := Try.f19) rfl _ _ rr 49 _ (0, 0) _ rfl (setRow_heap _ _ _ _ _ _ hR3) Try.underlying49 rfl hiZ) rfl ?_
            rw [HF.out]
            exact PostEnds.bad (below_setRow hb03 (by omega) _)
          · rw [if_neg hdl] at HR
            by_cases hl0 : m = 0
            · subst hl0
              have HF : Hid (R = (0, none)) := Lib.hid (by rw [HR.out, if_pos (List.eq_nil_of_length_eq_zero HM.out)])
              go_wp2_with (refine wpList_store_rowTo rfl 49 _ _ rfl rfl _ Z4 rfl rfl _ _ hR3 hiZ rfl hoZ ?_)
              refine bodyPost_ret (results_cell3 (fn := Try.f19) rfl _ _ rr 49 _ (0, 0) _ rfl (setRow_heap _ _ _ _ _ _ hR3) Try.underlying49 rfl hiZ) rfl ?_
              rw [HF.out]
              exact PostEnds.bad (below_setRow hb03 (by omega) _)
            · have hlb : ((m : Int) == 0) = false := by rw [beq_eq_false_iff_ne]; omega
              have HF : Hid (R = (0, some ⟨(nq : Int) + 1, d, loan, l⟩)) := Lib.hid (by rw [HR.out, if_neg (fun e => hl0 (by rw [← HM.out, e]; rfl))])
              have hm7 : m ≤ 7 := by have h1 := HM.out; have h2 := HLL.out; omega
              go_upto_region 18 with (fail)
              obtain ⟨w4, hw4⟩ : ∃ w4, w4 = w3.alloc (.cells #[.int .i64 ((nq : Int) + 1), .int .i64 d, .string loan, .slice A m c] 49) := ⟨_, rfl⟩
              have hz4 : w4.heap.size = w3.heap.size + 1 := by rw [hw4]; simp
              have hb4 : Below w3.heap.size w3 w4 := by rw [hw4]; exact (Below.refl _ _).alloc (Nat.le_refl _) _
              have hP4 : w4.heap[w3.heap.size]? = some (.cells #[.int .i64 ((nq : Int) + 1), .int .i64 d, .string loan, .slice A m c] 49 (0, 0)) := by rw [hw4]; exact heap_alloc_new _ _
              have hR4 := (hb4.block rr (by omega)).trans hR3
              have HJ4 := Lib.hid ((hb4.block g (by omega)).trans HJ3.out)
              have HV4 : Hid (OwnL w4 w2.heap.size (.slice A m c) l) := Lib.hid (HV.out.below hb4)
              have hrd4 := hrd.below hb4
              have hb04 := hb03.trans (hb4.mono hb03.size)
              have HO4 : Hid (OwnJ w4 base (.slice Aj nq cj) qs) := Lib.hid (by have := HJ0.out.own.below hb04; rw [HNQ.out] at this; exact this)
              have hbg : base ≤ g := HJ0.out.low
              clear j0 j1 hR3 hrd HV
              have j0 : w4.cell? ⟨g, 0, none⟩ = some (.slice Aj nq cj) := by rw [cell_of_row _ _ _ _ _ _ HJ4.out, HNQ.out]; rfl
              have jf : w4.frozen? ⟨g, 0, none⟩ = false := by simp [World.frozen?, HJ4.out]
              have p0 : w4.cell? ⟨w3.heap.size, 0, none⟩ = some (.int .i64 ((nq : Int) + 1)) := by rw [cell_of_row _ _ _ _ _ _ hP4]; rfl
              have p1 : w4.cell? ⟨w3.heap.size, 1, none⟩ = some (.int .i64 d) := by rw [cell_of_row _ _ _ _ _ _ hP4]; rfl
              have p2 : w4.cell? ⟨w3.heap.size, 2, none⟩ = some (.string loan) := by rw [cell_of_row _ _ _ _ _ _ hP4]; rfl
              have p3 : w4.cell? ⟨w3.heap.size, 3, none⟩ = some (.slice A m c) := by rw [cell_of_row _ _ _ _ _ _ hP4]; rfl
              rw [← hw4]
              clear hw4
              have hbD : Below w4.heap.size w4 w4.drew := (Below.refl _ _).drew
              have hc5 := clone_any ((nq : Int) + 1) d loan A m c l w4.drew (hrd4.below hbD) (by omega)
              unfold pval at hc5
              have HC5 := Lib.hid hc5
              clear hc5
              have HM0 : Hid (∀ W, Kept (fun k => (Value.slice Aj nq cj).ownBlock = some k) w4 W → W.heap[g]? = some (.cells #[.slice Aj nq cj, .int .i64 cl] 70 (0, 0))) := Lib.hid fun W hW => by
                have h1 := HJ4.out
                rw [HNQ.out] at h1
                refine (hW.block g (by omega) fun e => ?_).trans h1
                obtain ⟨_, _, cs, h2⟩ := row_block HO4.out.row e
                rw [h1] at h2
                injection h2 with h2
                injection h2 with _ h2
                exact absurd h2 (by decide)
              have HM1 : Hid (∀ W, Kept (fun k => (Value.slice Aj nq cj).ownBlock = some k) w4 W → W.cell? ⟨g, 0, none⟩ = some (.slice Aj nq cj) ∧ W.frozen? ⟨g, 0, none⟩ = false) := Lib.hid fun W hW => by
                have hr := HM0.out W hW
                exact ⟨by rw [cell_of_row _ _ _ _ _ _ hr]; rfl, by simp [World.frozen?, hr]⟩
              go_cut [43, 48, 56, 60] (fun _ _ _ _ wx => PMid w4 g base (.slice Aj nq cj) qs cl ⟨(nq : Int) + 1, d, loan, l⟩ wx)
              case first =>
                go_region_law (first
                  | (go_simp; go_at_call 31; refine HC5.out.mono ?_; rintro e w5 ⟨vv, rfl, hvv, hb5⟩; obtain ⟨A5, m5, c5, rfl, _, _, _, _, _⟩ := hvv.form; have hbb5 : Below w4.heap.size w4 w5 := hbD.trans hb5; obtain ⟨k0, k1⟩ := HM1.out w5 (keptB hbb5 _); have k2 : ∀ o, (w5.alloc o).cell? ⟨g, 0, none⟩ = some (.slice Aj nq cj) := fun o => (HM1.out _ (keptB (hbb5.alloc hbb5.size o) _)).1)
                  | (apply step_j (w := w5) (hgd := rfl) (ho := rfl) (base := base) (v := .slice Aj nq cj) (qs := qs) (q := ⟨.slice A5 m5 c5, ⟨(nq : Int) + 1, d, loan, l⟩⟩) (hs := rfl) (hown := HO4.out.below hbb5) (hl := OwnL.lower hvv (by have := hbb5.size; have := hbD.size; omega)) (hx := rfl) (hlen := by have := HNQ.out; omega) (hbase := by have := hbb5.size; omega); intro g2 cap w6 hv6 hg2 hk6; have hbb6 : Kept (fun k => (Value.slice Aj nq cj).ownBlock = some k) w4 w6 := (keptB hbb5 _).trans hk6; obtain ⟨m0, mf⟩ := HM1.out w6 hbb6))
                all_goals
                  go_wp2_with fail
                  go_meet
                  obtain ⟨hJ7, hK7⟩ := Jn.store (HM0.out w6 hbb6) hv6 hbg hbb6
                  refine ⟨_, _, hJ7, fun k hk => ?_, fun k hk => ?_, hK7⟩
                  · rcases hg2 with h1 | h1
                    · simp [Value.ownBlock] at hk
                      subst hk
                      exact .inl h1
                    · simp [Value.ownBlock] at hk
                      subst hk
                      exact .inr (Nat.le_trans hbb5.size h1)
                  · obtain ⟨h1, _⟩ := row_block hvv hk
                    exact Nat.le_trans hbD.size h1
              case rest =>
                obtain ⟨v', lv, hJ7, hb7, hl7, hK7⟩ := hcut
                have hPc := (hK7.block w3.heap.size (by omega) (fun e => by
                  rcases e with e | e
                  · omega
                  · have := (HO4.out.blk (.inl e)).2
                    have h2 := (HJ0.out.own.blk (.inl (by rw [HNQ.out]; exact e))).2
                    omega)).trans hP4
                have hRc := (hK7.block rr (by omega) (fun e => by
                  rcases e with e | e
                  · omega
                  · have h2 := (HJ0.out.own.blk (.inl (by rw [HNQ.out]; exact e))).2
                    omega)).trans hR4
                have hV7 : OwnL wc w2.heap.size (.slice A m c) l := ownsRow_same HV4.out fun k cs fr h1 h2 h3 => by
                  refine hK7.block k (heap_lt' h3) (fun e => ?_)
                  rcases e with e | e
                  · omega
                  · have h4 := (HJ0.out.own.blk (.inl (by rw [HNQ.out]; exact e))).2
                    have := hb02.size
                    omega
                have hK0 : Kept (fun k => k = g ∨ (Value.slice Aj nq cj).ownBlock = some k) w wc := (keptB hb04 _).trans hK7
                have hi : (Try.prog.info? 49).map (·.size) = some (#[.int .i64 ((nq : Int) + 1), .int .i64 d, .string loan, .slice A m c] : Array Value).size := p_info ((nq : Int) + 1) d loan (.slice A m c)
                have hone : (#[.int .i64 ((nq : Int) + 1), .int .i64 d, .string loan, .slice A m c] : Array Value).all (·.oneCell') = true := by simp [Value.oneCell']
                have hvb : ∀ k, (Value.slice A m c).ownBlock = some k → k < w4.heap.size := fun k hk => (row_block HV4.out hk).2.1
                clear hP4 hR4 HJ4 HM0 HM1 HC5 hrd4 j0 jf p0 p1 p2 p3 hbD
                go_wp2_with (first
                  | (refine wpList_load_row rfl 49 _ rfl _ rfl _ _ _ _ hPc Try.underlying49 rfl hi ?_)
                  | (refine wpList_store_rowTo rfl 49 _ _ rfl rfl _ _ rfl rfl _ _ hRc hi rfl hone ?_))
                refine bodyPost_ret (results_cell3 (fn := Try.f19) rfl _ _ rr 49 _ (0, 0) _ rfl (setRow_heap _ _ _ _ _ _ hRc) Try.underlying49 rfl hi) rfl ?_
                rw [HF.out]
                have hnq := HNQ.out
                subst hnq
                have hold : ∀ k, Blk (.slice Aj qs.length cj) qs k → k < w.heap.size := fun k hk => (HJ0.out.own.blk hk).2
                have hsub : ∀ k, Blk v' (qs ++ [(⟨lv, ⟨(qs.length : Int) + 1, d, loan, l⟩⟩ : PR)]) k → Blk (.slice Aj qs.length cj) qs k ∨ w4.heap.size ≤ k := by
                  rintro k (hk | ⟨q, hq, hk⟩)
                  · rcases hb7 k hk with h1 | h1
                    · exact .inl (.inl h1)
                    · exact .inr h1
                  · rcases List.mem_append.1 hq with h1 | h1
                    · exact .inl (.inr ⟨q, h1, hk⟩)
                    · obtain rfl := List.mem_singleton.1 h1
                      exact .inr (hl7 k hk)
                have hne : ∀ k, Blk v' (qs ++ [(⟨lv, ⟨(qs.length : Int) + 1, d, loan, l⟩⟩ : PR)]) k → k ≠ rr := fun k hk => by
                  rcases hsub k hk with h1 | h1
                  · have := hold k h1; omega
                  · omega
                refine ⟨_, _, _, _, rfl, (fun h => by cases h), fun p hp => ?_⟩
                obtain rfl := Option.some.inj hp
                refine ⟨rfl, rfl, rfl, w4.heap.size, v', ⟨lv, _⟩, rfl, by omega, ?_, hvb, ⟨?_, ?_, hJ7.low⟩, hsub, ?_⟩
                · refine ownsRow_same (row_lower hV7 (by omega)) fun k cs fr h1 h2 h3 => setRow_other _ _ _ _ ?_
                  have := (row_block hV7 h2).1
                  omega
                · rw [setRow_other _ _ _ _ (by omega)]
                  exact hJ7.cell
                · exact hJ7.own.same fun k hk => setRow_other _ _ _ _ (hne k hk)
                · exact ⟨hK0.os, hK0.tape, hK0.output, by rw [setRow_size]; exact hK0.size, fun k h1 h2 => by rw [setRow_other _ _ _ _ (by omega)]; exact hK0.block k h1 h2⟩
      · have heb : (er != 0) = true := by rw [bne_iff_ne]; exact her
        have HF : Hid (R = (er, none)) := Lib.hid (by rw [HR.out, if_pos her])
        go_wp2_with (refine wpList_store_rowTo rfl 49 _ _ rfl rfl _ Z4 rfl rfl _ _ hR3 hiZ rfl hoZ ?_)
        refine bodyPost_ret (results_cell3 (fn := Try.f19) rfl _ _ rr 49 _ (0, 0) _ rfl (setRow_heap _ _ _ _ _ _ hR3) Try.underlying49 rfl hiZ) rfl ?_
        rw [HF.out]
        exact PostEnds.bad (below_setRow hb03 (by omega) _)
end Go.Proofs.Ytpmbbhefcejjlaa
