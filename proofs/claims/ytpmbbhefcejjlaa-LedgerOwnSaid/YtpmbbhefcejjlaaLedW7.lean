/-
  The walk of Post at a journal without postings.
-/
import Derived.Test.YtpmbbhefcejjlaaLedW4
import Derived.Test.YtpmbbhefcejjlaaLedW6
import Derived.Test.YtpmbbhefcejjlaaNameW
import Derived.Deep.RegionWith
import Derived.Deep.RegionLaw
import Derived.Deep.CutRange
namespace Go.Proofs.Ytpmbbhefcejjlaa
open Go.RowKit
set_option linter.unusedVariables false

theorem infoPost : (Try.prog.info? 49).map (fun i => (i.zero, i.size, i.bytes)) = some (some (.agg #[.int .i64 0, .int .i64 0, .string ⟨#[]⟩, .slice none 0 0]), 4, 56) := by kernel_rfl
/-- append, of postings, onto postings of the call's own. -/
theorem app_post {ops : Array Oper} {rest : List Oper} {o : Oper} {a : Act} {Q : Exit → Act → World → Prop} {w : World} (hgd : o.guard = none) (s x : Operand)
    (ho : o.op = .call { callee := .builtin .append, args := #[s, x], argTypes := #[42, 42] })
    (base : Nat) (v : Value) (n : Nat) (xs : List Value) (hs : a.eval s = v) (hown : w.ownsRow base 49 4 v n xs)
    (A : Option Addr) (m c : Nat) (ys : List Value) (hx : a.eval x = .slice A m c) (hr : Rd w 4 A m ys) (hone : ∀ u ∈ ys, u.oneCell' = true)
    (hlen : n + m ≤ 1000000) (hbase : base ≤ w.heap.size)
    (h : ∀ v' w', w'.ownsRow base 49 4 v' (n + m) (xs ++ ys) → Below base w w' → w.grownBy w' v.ownBlock → wpList Try.prog ops Q rest (a.put o.dst v') w') : wpList Try.prog ops Q (o :: rest) a w := by
  obtain ⟨i0, hi, hz0, hz1, hz2⟩ := info_parts infoPost
  refine wpList_append_rd w hgd s x 42 ho base 49 i0 (.agg #[.int .i64 0, .int .i64 0, .string ⟨#[]⟩, .slice none 0 0]) 4 56 Try.underlying42 hi hz0 hz1 hz2 rfl (by decide) v n xs hs hown A m c ys hx hr hone (by unfold maxLen; omega) (by omega) hbase fun v' w' hown' hg _ => ?_
  exact h v' w' hown' ((Below.refl base w).grown hg hbase fun k hk => (hown.lt k hk).1) hg
theorem results_cell3 {P : Program} {fn : Func} {p u x : Tmp} {ty : TypeId} (h : fn.results = #[.cell p ty, .tmp u, .tmp x]) (tmps : Array Value) (w : World) (g : Nat) (t : TypeId) (cs : Array Value) (fr : Nat × Nat) (d : TypeDesc)
    (hp : tmps.getD p undef = .pointer (some ⟨g, 0, none⟩)) (hg : w.heap[g]? = some (.cells cs t fr))
    (hu : P.underlying ty = some d) (hd : (match d with | .struct _ | .array _ _ => true | _ => false) = true) (hi : (P.info? ty).map (·.size) = some cs.size) :
    (results fn tmps).run P w = .ok (.tuple #[.agg cs, tmps.getD u undef, tmps.getD x undef]) w := by
  have hp' : tmps[p]?.getD undef = .pointer (some ⟨g, 0, none⟩) := by simpa using hp
  simp [results, h, hp', asAddr, run_loadVar_row w g t ty cs fr d hg hu hd hi]
def pCells (n d : Int) (s : ByteArray) (v : Value) : Array Value := #[.int .i64 n, .int .i64 d, .string s, v]
theorem p_info (n d : Int) (s : ByteArray) (v : Value) : (Try.prog.info? 49).map (·.size) = some (pCells n d s v).size := by
  rw [show (pCells n d s v).size = 4 from rfl]; kernel_rfl
/-- All but one block is as it was. -/
structure KeptBut (g : Nat) (w w' : World) : Prop where
  os : w'.os = w.os
  tape : w'.tape = w.tape
  output : w'.output = w.output
  size : w.heap.size ≤ w'.heap.size
  block : ∀ k, k < w.heap.size → k ≠ g → w'.heap[k]? = w.heap[k]?
theorem keptBut_set {g i : Nat} {w w' : World} {cs : Array Value} {t : TypeId} {fr : Nat × Nat} (h : Below w.heap.size w w') (hg : g < w.heap.size) (hr : w.heap[g]? = some (.cells cs t fr)) (v : Value) : KeptBut g w (w'.setCell ⟨g, i, none⟩ v) := by
  have hr' := (h.block g hg).trans hr
  rw [setCell_eq_setRow w' g i _ _ _ v hr']
  exact ⟨h.os, h.tape, h.output, by rw [setRow_size]; exact h.size, fun k hk hkg => by rw [setRow_other _ _ _ _ hkg]; exact h.block k hk⟩
theorem own_slice {w : World} {base n : Nat} {e : TypeId} {sz : Nat} {v : Value} {xs : List Value} (h : w.ownsRow base e sz v n xs) (hn : 0 < n) : ∃ g cap, v = .slice (some ⟨g, 0, none⟩) n cap := by
  rcases h.2 with ⟨_, h0⟩ | ⟨g, cap, _, hv, _⟩
  · omega
  · exact ⟨g, cap, hv⟩
theorem step_post {ops : Array Oper} {o : Oper} {a : Act} {w : World} {K : Act → World → Prop} {Q : Exit → Act → World → Prop} {E : Prop} (hgd : o.guard = none) (s x : Operand)
    (ho : o.op = .call { callee := .builtin .append, args := #[s, x], argTypes := #[42, 42] })
    (base : Nat) (v : Value) (n : Nat) (xs : List Value) (hs : a.eval s = v) (hown : w.ownsRow base 49 4 v n xs)
    (A : Option Addr) (m c : Nat) (ys : List Value) (hx : a.eval x = .slice A m c) (hr : Rd w 4 A m ys) (hone : ∀ u ∈ ys, u.oneCell' = true)
    (hm : 0 < m) (hlen : n + m ≤ 1000000) (hbase : base ≤ w.heap.size)
    (h : ∀ g cap w', w'.ownsRow base 49 4 (.slice (some ⟨g, 0, none⟩) (n + m) cap) (n + m) (xs ++ ys) → Below base w w' → K (a.put o.dst (.slice (some ⟨g, 0, none⟩) (n + m) cap)) w') :
    if Region.wanted o (yielded ops a.tmps) = true then Oper.wp Try.prog o a w K Q else E := by
  have hw : Region.wanted o (yielded ops a.tmps) = true := by simp [Region.wanted, hgd]
  rw [if_pos hw]
  obtain ⟨i0, hi, hz0, hz1, hz2⟩ := info_parts infoPost
  refine wp_append_rd w s x 42 ho base 49 i0 (.agg #[.int .i64 0, .int .i64 0, .string ⟨#[]⟩, .slice none 0 0]) 4 56 Try.underlying42 hi hz0 hz1 hz2 rfl (by decide) v n xs hs hown A m c ys hx hr hone (by unfold maxLen; omega) (by omega) hbase fun v' w' hown' hg _ => ?_
  obtain ⟨g2, cap, rfl⟩ := own_slice hown' (by omega)
  exact h g2 cap w' hown' ((Below.refl base w).grown hg hbase fun k hk => (hown.lt k hk).1)
theorem post_one (n d : Int) (s : ByteArray) (A : Option Addr) (m c : Nat) : ∀ u ∈ (#[.int .i64 n, .int .i64 d, .string s, .slice A m c] : Array Value).toList, u.oneCell' = true := by
  intro u hu
  simp only [List.mem_cons, List.not_mem_nil, or_false] at hu
  rcases hu with rfl | rfl | rfl | rfl <;> rfl
theorem below_room {w w' : World} (h : Below w.heap.size w w') (o : Obj) : w.heap.size ≤ (w'.alloc o).heap.size := by
  have := h.size
  simp; omega
theorem rd_lit (w : World) (sz n : Nat) (cs : Array Value) (h : cs.size = n * sz) (t : TypeId) : Rd (w.alloc (.cells cs t)) sz (some ⟨w.heap.size, 0, none⟩) n cs.toList :=
  ⟨by simpa using h, fun _ => ⟨w.heap.size, 0, rfl, fun j u hu => by
    rw [cell_of_row _ _ _ _ _ _ (heap_alloc_new w _), Nat.zero_add]
    simpa using hu⟩⟩
set_option maxRecDepth 100000 in
set_option maxHeartbeats 8000000 in
theorem Post_first (s t : St) (g : Nat) (w : World) (l : List (Int × Int)) (hl : linesAt s t = (l, 0)) (hne : 0 < l.length) (hlen : l.length ≤ 7) (hg : g < w.heap.size)
    (hJ : w.heap[g]? = some (.cells #[.slice none 0 0, .int .i64 5] 70 (0, 0))) :
    Calls Try.prog 19 #[.pointer (some ⟨g, 0, none⟩), .int .i64 3, .string ⟨#[97]⟩, s.val, t.val] w fun e w' => ∃ v, e = .returned (.tuple #[pval 1 6 ⟨#[97]⟩ v, .bool true, .int .i64 0]) ∧ OwnL w' w.heap.size v l ∧ Below g w w' := by
  have HL := Lib.hid (fun W => Lines_any s t W)
  rw [hl, show s.val = .agg (stCells s) from rfl, show t.val = .agg (stCells t) from rfl] at HL
  have HN := Lib.hid (fun W => Name_any ⟨#[97]⟩ W)
  rw [name_a] at HN
  have hiS := st_info s
  have hiT := st_info t
  rw [show s.val = .agg (stCells s) from rfl, show t.val = .agg (stCells t) from rfl]
  generalize stCells s = S at *
  generalize stCells t = T at *
  obtain ⟨w1, hw1⟩ : ∃ w1, w1 = ((w.alloc (.cells S 23)).alloc (.cells T 23)).alloc (.cells #[.int .i64 0, .int .i64 0, .string ⟨#[]⟩, .slice none 0 0] 49) := ⟨_, rfl⟩
  have hz1 : w1.heap.size = w.heap.size + 3 := by rw [hw1]; simp
  have hb1 : Below w.heap.size w w1 := by rw [hw1]; exact (((Below.refl _ _).alloc (Nat.le_refl _) _).alloc (by simp) _).alloc (by simp; omega) _
  have hS1 : w1.heap[w.heap.size]? = some (.cells S 23 (0, 0)) := by rw [hw1]; exact heap_alloc_old (heap_alloc_old (heap_alloc_new _ _))
  have hT1 : w1.heap[w.heap.size + 1]? = some (.cells T 23 (0, 0)) := by rw [hw1, ← World.size_alloc w]; exact heap_alloc_old (heap_alloc_new _ _)
  have hR1 : w1.heap[w.heap.size + 2]? = some (.cells #[.int .i64 0, .int .i64 0, .string ⟨#[]⟩, .slice none 0 0] 49 (0, 0)) := by
    rw [hw1, show w.heap.size + 2 = ((w.alloc (.cells S 23)).alloc (.cells T 23)).heap.size by simp]; exact heap_alloc_new _ _
  have hJ1 := (hb1.block g hg).trans hJ
  go_enter Try.func19, Try.ntmps19
  go_upto_region 1 with (fail)
  rw [← hw1]
  clear hw1
  go_wp2_with fail
  refine (HN.out _).mono ?_
  rintro e w2 ⟨rfl, hb2⟩
  have hz2 := hb2.size
  have hS2 := (hb2.block w.heap.size (by omega)).trans hS1
  have hT2 := (hb2.block (w.heap.size + 1) (by omega)).trans hT1
  have hR2 := (hb2.block (w.heap.size + 2) (by omega)).trans hR1
  have hJ2 := (hb2.block g (by omega)).trans hJ1
  have hb02 := hb1.trans (hb2.mono hb1.size)
  clear hS1 hT1 hR1 hJ1
  go_wp2_with (first
    | (refine wpList_load_row rfl 23 _ rfl _ rfl _ _ _ _ hS2 Try.underlying23 rfl hiS ?_)
    | (refine wpList_load_row rfl 23 _ rfl _ rfl _ _ _ _ hT2 Try.underlying23 rfl hiT ?_))
  refine (HL.out _).mono ?_
  rintro e w3 ⟨v, rfl, hv, hb3⟩
  have hz3 := hb3.size
  have hR3 := (hb3.block (w.heap.size + 2) (by omega)).trans hR2
  have hJ3 := (hb3.block g (by omega)).trans hJ2
  have hb03 := hb02.trans (hb3.mono hb02.size)
  clear hS2 hT2 hR2 hJ2 hiS hiT HL HN
  have j0 : w3.cell? ⟨g, 0, none⟩ = some (.slice none 0 0) := by rw [cell_of_row _ _ _ _ _ _ hJ3]; rfl
  have j1 : w3.cell? ⟨g, 1, none⟩ = some (.int .i64 5) := by rw [cell_of_row _ _ _ _ _ _ hJ3]; rfl
  obtain ⟨A, m, c, he, hm, hmc, hcm, hrd, hlo⟩ := hv.form
  have HV : Hid (OwnL w3 w2.heap.size v l) := Lib.hid hv
  have HM : Hid (l.length = m) := Lib.hid hm.out
  have hm0 : 0 < m := by have := HM.out; omega
  have hm7 : m ≤ 7 := by have := HM.out; omega
  clear hv hm
  subst he
  go_upto_region 18 with (fail)
  rw [show (max 3 6 : Int) = 6 from rfl]
  obtain ⟨w4, hw4⟩ : ∃ w4, w4 = w3.alloc (.cells #[.int .i64 1, .int .i64 6, .string ⟨#[97]⟩, .slice A m c] 49) := ⟨_, rfl⟩
  have hz4 : w4.heap.size = w3.heap.size + 1 := by rw [hw4]; simp
  have hb4 : Below w3.heap.size w3 w4 := by rw [hw4]; exact (Below.refl _ _).alloc (Nat.le_refl _) _
  have hP4 : w4.heap[w3.heap.size]? = some (.cells #[.int .i64 1, .int .i64 6, .string ⟨#[97]⟩, .slice A m c] 49 (0, 0)) := by rw [hw4]; exact heap_alloc_new _ _
  have hR4 := (hb4.block (w.heap.size + 2) (by omega)).trans hR3
  have hJ4 := (hb4.block g (by omega)).trans hJ3
  have HV4 : Hid (OwnL w4 w2.heap.size (.slice A m c) l) := Lib.hid (HV.out.below hb4)
  have hrd4 := hrd.below hb4
  have hb04 := hb03.trans (hb4.mono hb03.size)
  clear j0 j1 hR3 hJ3 hrd HV
  have j0 : w4.cell? ⟨g, 0, none⟩ = some (.slice none 0 0) := by rw [cell_of_row _ _ _ _ _ _ hJ4]; rfl
  have jf : w4.frozen? ⟨g, 0, none⟩ = false := by simp [World.frozen?, hJ4]
  have p0 : w4.cell? ⟨w3.heap.size, 0, none⟩ = some (.int .i64 1) := by rw [cell_of_row _ _ _ _ _ _ hP4]; rfl
  have p1 : w4.cell? ⟨w3.heap.size, 1, none⟩ = some (.int .i64 6) := by rw [cell_of_row _ _ _ _ _ _ hP4]; rfl
  have p2 : w4.cell? ⟨w3.heap.size, 2, none⟩ = some (.string ⟨#[97]⟩) := by rw [cell_of_row _ _ _ _ _ _ hP4]; rfl
  have p3 : w4.cell? ⟨w3.heap.size, 3, none⟩ = some (.slice A m c) := by rw [cell_of_row _ _ _ _ _ _ hP4]; rfl
  rw [← hw4]
  clear hw4
  have hbD : Below w4.heap.size w4 w4.drew := (Below.refl _ _).drew
  have hc5 := clone_any 1 6 ⟨#[97]⟩ A m c l w4.drew (hrd4.below hbD) (by omega)
  unfold pval at hc5
  have HC5 := Lib.hid hc5
  clear hc5
  have HJ4 := Lib.hid hJ4
  have HM0 : Hid (∀ W, Below w4.heap.size w4 W → W.cell? ⟨g, 0, none⟩ = some (.slice none 0 0) ∧ W.frozen? ⟨g, 0, none⟩ = false) := Lib.hid fun W hW => by
    have hr := (hW.block g (by omega)).trans HJ4.out
    exact ⟨by rw [cell_of_row _ _ _ _ _ _ hr]; rfl, by simp [World.frozen?, hr]⟩
  go_cut [43, 48, 56, 60] (fun _ _ _ _ wx => KeptBut g w4 wx)
  case first =>
    go_region_law (first
      | (go_simp; go_at_call 31; refine HC5.out.mono ?_; rintro e w5 ⟨vv, rfl, hvv, hb5⟩; obtain ⟨A5, m5, c5, rfl, _, _, _, _, _⟩ := hvv.form; have hbb5 : Below w4.heap.size w4 w5 := hbD.trans hb5; obtain ⟨k0, k1⟩ := HM0.out w5 hbb5; have k2 : ∀ o, (w5.alloc o).cell? ⟨g, 0, none⟩ = some (.slice none 0 0) := fun o => (HM0.out _ (hbb5.alloc hbb5.size o)).1)
      | (apply step_post (hgd := rfl) (ho := rfl) (base := w4.heap.size) (n := 0) (xs := []) (hs := rfl) (hown := World.ownsRow_nil _ _ _ _) (hx := rfl) (hr := rd_lit _ _ _ _ rfl _) (hone := post_one _ _ _ _ _ _) (hm := by decide) (hlen := by decide) (hbase := below_room hbb5 _); intro g2 cap w6 hv2 hb6; have hbb6 : Below w4.heap.size w4 w6 := (hbb5.alloc hbb5.size _).trans hb6; obtain ⟨m0, mf⟩ := HM0.out w6 hbb6))
    all_goals
      go_wp2_with fail
      go_meet
      exact keptBut_set hbb6 (by omega) HJ4.out _
  case rest =>
    have hK := hcut
    have hPc := (hK.block w3.heap.size (by omega) (by omega)).trans hP4
    have hRc := (hK.block (w.heap.size + 2) (by omega) (by omega)).trans hR4
    have hV5 : OwnL wc w2.heap.size (.slice A m c) l := by
      refine ⟨HV4.out.1, ?_⟩
      rcases HV4.out.2 with h2 | ⟨b, cap, cur, hg1, hg2, hg3, r⟩
      · exact .inl h2
      · exact .inr ⟨b, cap, cur, hg1, hg2, by rw [hK.block b (Array.getElem?_eq_some_iff.1 hg3).1 (by omega)]; exact hg3, r⟩
    have hb5 : Below g w wc := ⟨hK.os.trans hb04.os, hK.tape.trans hb04.tape, hK.output.trans hb04.output, Nat.le_trans hb04.size hK.size, fun k hk => by rw [hK.block k (by omega) (by omega)]; exact hb04.block k (by omega)⟩
    have hi : (Try.prog.info? 49).map (·.size) = some (#[.int .i64 1, .int .i64 6, .string ⟨#[97]⟩, .slice A m c] : Array Value).size := p_info 1 6 ⟨#[97]⟩ (.slice A m c)
    have hone : (#[.int .i64 1, .int .i64 6, .string ⟨#[97]⟩, .slice A m c] : Array Value).all (·.oneCell') = true := by simp [Value.oneCell']
    clear hcut hP4 hR4 HJ4 HM0 HC5 hrd4 j0 jf p0 p1 p2 p3 hbD
    rw [show w.heap.size + 1 + 1 = w.heap.size + 2 by omega]
    go_wp2_with (first
      | (refine wpList_load_row rfl 49 _ rfl _ rfl _ _ _ _ hPc Try.underlying49 rfl hi ?_)
      | (refine wpList_store_rowTo rfl 49 _ _ rfl rfl _ _ rfl rfl _ _ hRc hi rfl hone ?_))
    refine bodyPost_ret (results_cell3 (fn := Try.f19) rfl _ _ (w.heap.size + 2) 49 _ (0, 0) _ rfl (setRow_heap _ _ _ _ _ _ hRc) Try.underlying49 rfl hi) rfl ⟨.slice A m c, rfl, ?_, below_setRow hb5 (by omega) _⟩
    refine OwnL.lower (base := w2.heap.size) ⟨hV5.1, ?_⟩ (by omega)
    rcases hV5.2 with h2 | ⟨b, cap, cur, hg1, hg2, hg3, r⟩
    · exact .inl h2
    · exact .inr ⟨b, cap, cur, hg1, hg2, by rw [setRow_other _ _ _ _ (by omega)]; exact hg3, r⟩
end Go.Proofs.Ytpmbbhefcejjlaa
