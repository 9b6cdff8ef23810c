/-
  The walk of the reference's Post. No statement is proved here.
-/
import Derived.Test.YtpmbbhefcejjlaaLedZ
import Derived.Test.YtpmbbhefcejjlaaNameR
import Derived.Test.YtpmbbhefcejjlaaRegX
namespace Go.Proofs.Ytpmbbhefcejjlaa
open Go.RowKit
set_option linter.unusedVariables false

/-- The reference's journal. -/
structure RJ (w : World) (h base : Nat) (v : Value) (qs : List PR) (cl : Int) : Prop where
  cell : w.heap[h]? = some (.cells #[v, .int .i64 cl] 79 (0, 0))
  own : OwnJ w base v qs
  low : base ≤ h
theorem RJ.lt {w : World} {h base : Nat} {v : Value} {qs : List PR} {cl : Int} (hJ : RJ w h base v qs cl) {k : Nat} (hk : k = h ∨ Blk v qs k) : base ≤ k ∧ k < w.heap.size := by
  rcases hk with rfl | hk
  · exact ⟨hJ.low, heap_lt' hJ.cell⟩
  · exact hJ.own.blk hk
theorem RJ.same {w w' : World} {h base : Nat} {v : Value} {qs : List PR} {cl : Int} (hJ : RJ w h base v qs cl) (hs : ∀ k, (k = h ∨ Blk v qs k) → w'.heap[k]? = w.heap[k]?) : RJ w' h base v qs cl :=
  ⟨(hs h (.inl rfl)).trans hJ.cell, hJ.own.same fun k hk => hs k (.inr hk), hJ.low⟩
/-- What the reference's Post leaves. -/
def RPost (w : World) (h base : Nat) (v : Value) (qs : List PR) (cl : Int) (r : Option PV) (w' : World) : Prop :=
  match r with
  | none => RJ w' h base v qs cl ∧ Below w.heap.size w w'
  | some p => ∃ v' q, q.p = p ∧ RJ w' h base v' (qs ++ [q]) cl ∧ Kept (fun k => k = h) w w' ∧ (∀ k, Blk v' (qs ++ [q]) k → Blk v qs k ∨ w.heap.size ≤ k)
theorem RJ.bad {w w' : World} {h base : Nat} {v : Value} {qs : List PR} {cl : Int} (hb : Below w.heap.size w w') (hJ : RJ w h base v qs cl) : RPost w h base v qs cl none w' := ⟨hJ.same fun k hk => hb.block k (hJ.lt hk).2, hb⟩
/-- append, of postings, at a step of a region that draws its order. -/
theorem step_pp {ops : Array Oper} {o : Oper} {a : Act} {w : World} {K : Act → World → Prop} {Q : Exit → Act → World → Prop} {E : Prop} (hgd : o.guard = none) (s x : Operand)
    (ho : o.op = .call { callee := .builtin .append, args := #[s, x], argTypes := #[42, 42] })
    (base : Nat) (v : Value) (n : Nat) (xs : List Value) (hs : a.eval s = v) (hown : w.ownsRow base 49 4 v n xs)
    (A : Option Addr) (m c : Nat) (ys : List Value) (hx : a.eval x = .slice A m c) (hr : Rd w 4 A m ys) (hone : ∀ u ∈ ys, u.oneCell' = true)
    (hlen : n + m ≤ 1000000) (hbase : base ≤ w.heap.size)
    (h : ∀ A' c' w', w'.ownsRow base 49 4 (.slice A' (n + m) c') (n + m) (xs ++ ys) → Kept (fun k => v.ownBlock = some k) w w' → K (a.put o.dst (.slice A' (n + m) c')) w') :
    if Region.wanted o (yielded ops a.tmps) = true then Oper.wp Try.prog o a w K Q else E := by
  have hw : Region.wanted o (yielded ops a.tmps) = true := by simp [Region.wanted, hgd]
  rw [if_pos hw]
  obtain ⟨i0, hi, hz0, hz1, hz2⟩ := info_parts infoPost
  refine wp_append_rd w s x 42 ho base 49 i0 (.agg #[.int .i64 0, .int .i64 0, .string ⟨#[]⟩, .slice none 0 0]) 4 56 Try.underlying42 hi hz0 hz1 hz2 rfl (by decide) v n xs hs hown A m c ys hx hr hone (by unfold maxLen; omega) (by omega) hbase fun v' w' hown' hg hb => ?_
  have hg2 := Below.grown (B := 0) (Below.refl 0 _) hg (Nat.zero_le _) (fun _ _ => Nat.zero_le _)
  have hK : Kept (fun k => v.ownBlock = some k) w w' := ⟨hg2.os, hg2.tape, hg2.output, hg2.size, fun k hk hne => hg.block k hk (fun e => hne e.symm)⟩
  obtain ⟨A', c', rfl⟩ : ∃ A' c', v' = .slice A' (n + m) c' := by
    rcases hown'.2 with ⟨e, h0⟩ | ⟨g, cap, _, e, _⟩
    · exact ⟨none, 0, by rw [e, h0]⟩
    · exact ⟨_, cap, e⟩
  exact h A' c' w' hown' hK
abbrev eP : Obj := .cells #[] 49
theorem oe1 (W : World) : ((W.alloc eP).drew).ownsRow W.heap.size 49 4 (.slice (some ⟨W.heap.size, 0, none⟩) 0 0) 0 [] := World.ownsRow_lit (base := W.heap.size) (e := 49) (size := 4) W #[] 0 (Nat.le_refl _) (by simp [maxLen]) rfl
theorem oe2 (W : World) (o : Obj) : (((W.alloc eP).alloc o).drew).ownsRow W.heap.size 49 4 (.slice (some ⟨W.heap.size, 0, none⟩) 0 0) 0 [] := World.ownsRow.alloc (World.ownsRow_lit (base := W.heap.size) (e := 49) (size := 4) W #[] 0 (Nat.le_refl _) (by simp [maxLen]) rfl) o
theorem oe3 (W : World) (o : Obj) : (((W.alloc o).alloc eP).drew).ownsRow W.heap.size 49 4 (.slice (some ⟨W.heap.size + 1, 0, none⟩) 0 0) 0 [] := by
  have := World.ownsRow_lit (base := W.heap.size) (e := 49) (size := 4) (W.alloc o) #[] 0 (by simp) (by simp [maxLen]) rfl
  rw [World.size_alloc] at this
  exact this
theorem own_lit0 {w : World} {g base : Nat} (h : w.heap[g]? = some (.cells #[] 49 (0, 0))) (hb : base ≤ g) : w.ownsRow base 49 4 (.slice (some ⟨g, 0, none⟩) 0 0) 0 [] :=
  ⟨rfl, .inr ⟨g, 0, #[], rfl, hb, h, Nat.le_refl _, by unfold maxLen; omega, rfl, rfl⟩⟩
theorem app_po {w : World} {base k n c : Nat} {v : Value} {xs ys : List Value} {E : Option Addr} (ho : w.ownsRow base 49 4 v k xs) (hE : Rd w 4 E n ys) (h1 : ∀ u ∈ ys, u.oneCell' = true) (hk : k + n ≤ 1000000) (hb : base ≤ w.heap.size) :
    ∃ v' w', (Builtin.append_ #[42, 42] 42 #[v, .slice E n c]).run Try.prog w = .ok v' w' ∧ w'.ownsRow base 49 4 v' (k + n) (xs ++ ys) ∧ w.grownBy w' v.ownBlock := by
  obtain ⟨i0, hi, hz0, hz1, hz2⟩ := info_parts infoPost
  obtain ⟨v', w', h2, h3, h4, _⟩ := run_append_rd w base 42 42 49 i0 (.agg #[.int .i64 0, .int .i64 0, .string ⟨#[]⟩, .slice none 0 0]) 4 56 Try.underlying42 hi hz0 hz1 hz2 rfl (by decide) v k xs ho E n c ys hE h1 (by unfold maxLen; omega) (by omega) hb
  exact ⟨v', w', h2, h3, h4⟩
theorem lit0 (w : World) : (Instr.buildSlice 42 0 #[]).run Try.prog w = .ok (.slice (some ⟨w.heap.size, 0, none⟩) 0 0) (w.alloc (.cells #[] 49)) := by go_simp
theorem lit_po (a b : Int) (s : ByteArray) (A : Option Addr) (m c : Nat) (w : World) : (Instr.buildSlice 42 1 #[(0, .agg #[.int .i64 a, .int .i64 b, .string s, .slice A m c])]).run Try.prog w = .ok (.slice (some ⟨w.heap.size, 0, none⟩) 1 1) (w.alloc (.cells #[.int .i64 a, .int .i64 b, .string s, .slice A m c] 49)) := by go_simp
theorem own_base {w : World} {base base' sz n : Nat} {t : TypeId} {v : Value} {xs : List Value} (h : w.ownsRow base t sz v n xs) (hb : base' ≤ base) : w.ownsRow base' t sz v n xs := by
  refine ⟨h.1, ?_⟩
  rcases h.2 with h | ⟨g, cap, cur, hv, h1, h2⟩
  · exact .inl h
  · exact .inr ⟨g, cap, cur, hv, Nat.le_trans hb h1, h2⟩
structure G16 (w4 : World) (g : Nat) (cl : Int) (n : Nat) (xs : List Value) (L : Nat → Bool) (v : World) : Prop where
  low : L 12 = false → Below w4.heap.size w4 v
  fin : L 12 = true → ∃ E c, v.heap[g]? = some (.cells #[.slice E (n + 1) c, .int .i64 cl] 79 (0, 0)) ∧ v.ownsRow w4.heap.size 49 4 (.slice E (n + 1) c) (n + 1) xs ∧ Kept (fun k => k = g) w4 v
theorem G16.to {w4 v' : World} {g n : Nat} {cl : Int} {xs : List Value} {L : Nat → Bool} {i : Nat} (hi : i ≠ 12) (h12 : L 12 = false) (h : Below w4.heap.size w4 v') : G16 w4 g cl n xs (upd L i) v' :=
  ⟨fun _ => h, fun h0 => by rw [upd_other (fun e => hi e.symm), h12] at h0; cases h0⟩
def T16 (w4 : World) (g : Nat) (E : Option Addr) (n c : Nat) (xs : List Value) (PC : Array Value) (L : Nat → Bool) (i : Nat) (u : Value) (v : World) : Prop :=
  match i with
  | 0 => u = .pointer (some ⟨g, 0, none⟩)
  | 1 => L 6 = false → LitW 49 #[] 0 w4.heap.size u v
  | 2 => u = .pointer (some ⟨g, 0, none⟩)
  | 3 => u = .pointer (some ⟨g, 0, none⟩)
  | 4 => u = .pointer (some ⟨g, 0, none⟩)
  | 5 => u = .slice E n c
  | 6 => L 9 = false → v.ownsRow w4.heap.size 49 4 u n xs
  | 7 => u = .agg PC
  | 8 => L 9 = false → LitW 49 PC 1 w4.heap.size u v
  | 9 => L 12 = false → v.ownsRow w4.heap.size 49 4 u (n + 1) (xs ++ PC.toList)
  | 10 => u = .pointer (some ⟨g, 0, none⟩)
  | 11 => u = .pointer (some ⟨g, 0, none⟩)
  | _ => True
theorem T16_keep {w4 : World} {g : Nat} {E : Option Addr} {n c : Nat} {xs : List Value} {PC : Array Value} {L : Nat → Bool} {i jj : Nat} {u : Value} {v w2 : World} (hb : Below v.heap.size v w2) (h : T16 w4 g E n c xs PC L jj u v) : T16 w4 g E n c xs PC (upd L i) jj u w2 := by
  unfold T16 at h ⊢
  split at h <;> first
    | exact h
    | exact fun h0 => own_below' (h (upd_false h0)) hb
    | exact fun h0 => (h (upd_false h0)).below hb
theorem rd_one {w : World} {g sz : Nat} {cs : Array Value} {t : TypeId} (h : w.heap[g]? = some (.cells cs t (0, 0))) (hs : cs.size = sz) : Rd w sz (some ⟨g, 0, none⟩) 1 cs.toList :=
  ⟨by simp [hs], fun _ => ⟨g, 0, rfl, fun j u hu => by
    rw [cell_of_row _ _ _ _ _ _ h, Nat.zero_add]
    simpa using hu⟩⟩
set_option maxRecDepth 100000 in
set_option maxHeartbeats 8000000 in
theorem rPost_any (s t : St) (g base : Nat) (w : World) (v : Value) (qs : List PR) (cl day : Int) (loan : ByteArray) (hJ : RJ w g base v qs cl) (hcl : -719163 ≤ cl ∧ cl ≤ 2932896) (hq : qs.length ≤ 65536) (hls : loan.size ≤ 9223372036854775806) :
    Calls Try.prog 23 #[.pointer (some ⟨g, 0, none⟩), .int .i64 day, .string loan, .agg (stCells s), .agg (stCells t)] w fun e w' => (∃ x, e = .returned x) ∧ RPost w g base v qs cl (postR qs.length cl day loan s t).2 w' := by
  have HL := Lib.hid (fun W => refLines_any s t W)
  have HN := Lib.hid (fun W => refLoan_any loan W hls)
  have HGD := Lib.hid (fun W => refGood_any day W)
  have HLL := Lib.hid (lines_len s t)
  obtain ⟨R, HR⟩ : ∃ R, Hid (R = postR qs.length cl day loan s t) := ⟨_, Lib.hid rfl⟩
  rw [← HR.out]
  unfold postR at HR
  rw [show s.val = .agg (stCells s) from rfl, show t.val = .agg (stCells t) from rfl] at HL
  have hiS := st_info s
  have hiT := st_info t
  generalize linesAt s t = LT at *
  obtain ⟨l, er⟩ := LT
  dsimp only at HR HLL
  generalize nameOk loan = nk at *
  generalize stCells s = S at *
  generalize stCells t = T at *
  have HJ0 := Lib.hid hJ
  have hg : g < w.heap.size := heap_lt' hJ.cell
  obtain ⟨w1, hw1⟩ : ∃ w1, w1 = ((w.alloc (.cells S 23)).alloc (.cells T 23)).alloc (.cells Z4 49) := ⟨_, rfl⟩
  have hz1 : w1.heap.size = w.heap.size + 3 := by rw [hw1]; simp
  have hb1 : Below w.heap.size w w1 := by rw [hw1]; exact (((Below.refl _ _).alloc (Nat.le_refl _) _).alloc (by simp) _).alloc (by simp; omega) _
  have hS1 : w1.heap[w.heap.size]? = some (.cells S 23 (0, 0)) := by rw [hw1]; exact heap_alloc_old (heap_alloc_old (heap_alloc_new _ _))
  have hT1 : w1.heap[w.heap.size + 1]? = some (.cells T 23 (0, 0)) := by rw [hw1, ← World.size_alloc w]; exact heap_alloc_old (heap_alloc_new _ _)
  have hR1 : w1.heap[w.heap.size + 2]? = some (.cells Z4 49 (0, 0)) := by
    rw [hw1, show w.heap.size + 2 = ((w.alloc (.cells S 23)).alloc (.cells T 23)).heap.size by simp]; exact heap_alloc_new _ _
  clear hJ
  go_enter Try.func23, Try.ntmps23
  go_upto_region 1 with (fail)
  rw [← hw1]
  clear hw1
  have hiZ := z4_info
  have hoZ := z4_one
  have e2 : w.heap.size + 1 + 1 = w.heap.size + 2 := by omega
  rw [e2]
  clear e2
  generalize hrr : w.heap.size + 2 = rr at *
  go_wp2_with fail
  refine (HGD.out _).mono ?_
  rintro e w' ⟨rfl, hww⟩
  obtain rfl := hww
  by_cases hd : day < -719162 ∨ 2932896 < day
  · have HF : Hid (R = (6, none)) := Lib.hid (by rw [HR.out, if_pos hd])
    have hdb : decide (-719162 ≤ day ∧ day ≤ 2932896) = false := decide_eq_false (by omega)
    rw [hdb]
    go_wp2_with (first | (go_at_call 35; refine (refGood_any _ _).mono ?_; rintro e w' ⟨rfl, rfl⟩) | (refine wpList_store_rowTo rfl 49 _ _ rfl rfl _ Z4 rfl rfl _ _ hR1 hiZ rfl hoZ ?_))
    refine bodyPost_ret (results_cell3 (fn := Try.f23) rfl _ _ rr 49 _ (0, 0) _ rfl (setRow_heap _ _ _ _ _ _ hR1) Try.underlying49 rfl hiZ) rfl ?_
    rw [HF.out]
    exact ⟨⟨_, rfl⟩, RJ.bad (below_setRow hb1 (by omega) _) HJ0.out⟩
  · have hdb : decide (-719162 ≤ day ∧ day ≤ 2932896) = true := decide_eq_true (by omega)
    rw [hdb]
    have hd1 : ¬ day < -719162 := by omega
    have hd2 : ¬ 2932896 < day := by omega
    rw [if_neg hd] at HR
    clear hd hdb
    go_wp2_with fail
    refine (HN.out _).mono ?_
    rintro e w' ⟨rfl, hww⟩
    obtain rfl := hww
    by_cases hnk : nk = false
    · subst hnk
      have HF : Hid (R = (51, none)) := Lib.hid (by rw [HR.out, if_pos rfl])
      go_wp2_with (first | (go_at_call 35; refine (refGood_any _ _).mono ?_; rintro e w' ⟨rfl, rfl⟩) | (refine wpList_store_rowTo rfl 49 _ _ rfl rfl _ Z4 rfl rfl _ _ hR1 hiZ rfl hoZ ?_))
      refine bodyPost_ret (results_cell3 (fn := Try.f23) rfl _ _ rr 49 _ (0, 0) _ rfl (setRow_heap _ _ _ _ _ _ hR1) Try.underlying49 rfl hiZ) rfl ?_
      rw [HF.out]
      exact ⟨⟨_, rfl⟩, RJ.bad (below_setRow hb1 (by omega) _) HJ0.out⟩
    · obtain rfl : nk = true := by simpa using hnk
      rw [if_neg (by simp)] at HR
      clear hnk
      go_wp2_with (first
        | (refine wpList_load_row rfl 23 _ rfl _ rfl _ _ _ _ hS1 Try.underlying23 rfl hiS ?_)
        | (refine wpList_load_row rfl 23 _ rfl _ rfl _ _ _ _ hT1 Try.underlying23 rfl hiT ?_))
      refine (HL.out _).mono ?_
      rintro e w3 ⟨vl, rfl, hv, hb3⟩
      have hz3 := hb3.size
      have hR3 := (hb3.block rr (by omega)).trans hR1
      have hb03 := hb1.trans (hb3.mono hb1.size)
      have HJ3 := Lib.hid ((hb03.block g hg).trans HJ0.out.cell)
      have j0 : w3.cell? ⟨g, 0, none⟩ = some v := by rw [cell_of_row _ _ _ _ _ _ HJ3.out]; rfl
      have j1 : w3.cell? ⟨g, 1, none⟩ = some (.int .i64 cl) := by rw [cell_of_row _ _ _ _ _ _ HJ3.out]; rfl
      obtain ⟨A, m, c, rfl, hm, hmc, hcm, hrd, hlo⟩ := hv.form
      have HV : Hid (OwnL w3 w1.heap.size (.slice A m c) l) := Lib.hid hv
      have HM : Hid (l.length = m) := Lib.hid hm.out
      obtain ⟨Aj, cj, rfl, hcj, _, hloj⟩ := HJ0.out.own.form
      have hmx1 : -719162 ≤ max day (cl + 1) ∧ max day (cl + 1) ≤ 9223372036854775807 := by omega
      clear hv hm hS1 hT1 hR1 hiS hiT HL hb3 hloj
      obtain ⟨nq, HNQ⟩ : ∃ nq, Hid (qs.length = nq) := ⟨_, Lib.hid rfl⟩
      rw [HNQ.out] at HR hcj hq
      rw [HNQ.out] at j0
      by_cases her : er = 0
      · subst her
        rw [if_neg (by simp)] at HR
        by_cases hn : nq = 65536
        · have HF : Hid (R = (3, none)) := Lib.hid (by rw [HR.out, if_pos hn])
          have hn1 : (65536 : Int) ≤ (nq : Int) := by omega
          clear hn
          go_wp2_with (first | (go_at_call 35; refine (refGood_any _ _).mono ?_; rintro e w' ⟨rfl, rfl⟩) | (refine wpList_store_rowTo rfl 49 _ _ rfl rfl _ Z4 rfl rfl _ _ hR3 hiZ rfl hoZ ?_))
          refine bodyPost_ret (results_cell3 (fn := Try.f23) rfl _ _ rr 49 _ (0, 0) _ rfl (setRow_heap _ _ _ _ _ _ hR3) Try.underlying49 rfl hiZ) rfl ?_
          rw [HF.out]
          exact ⟨⟨_, rfl⟩, RJ.bad (below_setRow hb03 (by omega) _) HJ0.out⟩
        · rw [if_neg hn] at HR
          have hn1 : nq < 65536 := by omega
          have HNL := Lib.hid hn1
          have hnb : decide ((65536 : Int) ≤ (nq : Int)) = false := decide_eq_false (by omega)
          have hnb2 : ((65536 : Int) ≤ (nq : Int)) = False := eq_false (by omega)
          clear hn hn1 hq
          go_upto_region 11 with (fail)
          generalize max day (cl + 1) = d at HR hmx1 ⊢
          go_wp2_with fail
          refine (refGood_any d _).mono ?_
          rintro e w' ⟨rfl, hww⟩
          obtain rfl := hww
          by_cases hdl : 2932896 < d
          · have HF : Hid (R = (6, none)) := Lib.hid (by rw [HR.out, if_pos hdl])
            have hdb : decide (-719162 ≤ d ∧ d ≤ 2932896) = false := decide_eq_false (by omega)
            rw [hdb]
            go_wp2_with (first | (go_at_call 35; refine (refGood_any _ _).mono ?_; rintro e w' ⟨rfl, rfl⟩) | (refine wpList_store_rowTo rfl 49 _ _ rfl rfl _ Z4 rfl rfl _ _ hR3 hiZ rfl hoZ ?_))
            refine bodyPost_ret (results_cell3 (fn := Try.f23) rfl _ _ rr 49 _ (0, 0) _ rfl (setRow_heap _ _ _ _ _ _ hR3) Try.underlying49 rfl hiZ) rfl ?_
            rw [HF.out]
            exact ⟨⟨_, rfl⟩, RJ.bad (below_setRow hb03 (by omega) _) HJ0.out⟩
          · rw [if_neg hdl] at HR
            have hdb : decide (-719162 ≤ d ∧ d ≤ 2932896) = true := decide_eq_true (by omega)
            rw [hdb]
            clear hdb
            by_cases hl0 : m = 0
            · subst hl0
              have HF : Hid (R = (0, none)) := Lib.hid (by rw [HR.out, if_pos (List.eq_nil_of_length_eq_zero HM.out)])
              go_wp2_with (first | (go_at_call 35; refine (refGood_any _ _).mono ?_; rintro e w' ⟨rfl, rfl⟩) | (refine wpList_store_rowTo rfl 49 _ _ rfl rfl _ Z4 rfl rfl _ _ hR3 hiZ rfl hoZ ?_))
              refine bodyPost_ret (results_cell3 (fn := Try.f23) rfl _ _ rr 49 _ (0, 0) _ rfl (setRow_heap _ _ _ _ _ _ hR3) Try.underlying49 rfl hiZ) rfl ?_
              rw [HF.out]
              exact ⟨⟨_, rfl⟩, RJ.bad (below_setRow hb03 (by omega) _) HJ0.out⟩
            · have hlb : ((m : Int) == 0) = false := by rw [beq_eq_false_iff_ne]; omega
              have HF : Hid (R = (0, some ⟨(nq : Int) + 1, d, loan, l⟩)) := Lib.hid (by rw [HR.out, if_neg (fun e => hl0 (by rw [← HM.out, e]; rfl))])
              have hm7 : m ≤ 7 := by have h1 := HM.out; have h2 := HLL.out; omega
              have hnq := HNL.out
              go_upto_region 16 with (fail)
              obtain ⟨w4, hw4⟩ : ∃ w4, w4 = w3.alloc (.cells #[.int .i64 ((nq : Int) + 1), .int .i64 d, .string loan, .slice A m c] 49) := ⟨_, rfl⟩
              have hz4 : w4.heap.size = w3.heap.size + 1 := by rw [hw4]; simp
              have hb4 : Below w3.heap.size w3 w4 := by rw [hw4]; exact (Below.refl _ _).alloc (Nat.le_refl _) _
              have hP4 : w4.heap[w3.heap.size]? = some (.cells #[.int .i64 ((nq : Int) + 1), .int .i64 d, .string loan, .slice A m c] 49 (0, 0)) := by rw [hw4]; exact heap_alloc_new _ _
              have hb04 := hb03.trans (hb4.mono hb03.size)
              have HO4 : Hid (OwnJ w4 base (.slice Aj nq cj) qs) := Lib.hid (by have := HJ0.out.own.below hb04; rw [HNQ.out] at this; exact this)
              have HJ4 : Hid (w4.heap[g]? = some (.cells #[.slice Aj nq cj, .int .i64 cl] 79 (0, 0))) := Lib.hid (by have := (hb4.block g (by omega)).trans HJ3.out; rw [HNQ.out] at this; exact this)
              have HRA : Hid (∀ W, Below w4.heap.size w4 W → Rd W 4 Aj nq (prows qs)) := Lib.hid fun W hW => by
                have h1 := HO4.out.row
                rw [HNQ.out] at h1
                exact Rd.below (Rd.of_own (c := cj) h1) hW
              have HONE : Hid (∀ u ∈ prows qs, u.oneCell' = true) := Lib.hid fun u hu => by
                unfold prows at hu
                obtain ⟨q, hq, hu⟩ := List.mem_flatMap.1 hu
                exact prow_one (HO4.out.each q hq) u hu
              clear j0 j1
              rw [← hw4]
              clear hw4
              have KS : Hid (∀ W, Below w4.heap.size w4 W → Below w4.heap.size w4 W ∧ W.cell? ⟨g, 0, none⟩ = some (.slice Aj nq cj) ∧ W.frozen? ⟨g, 0, none⟩ = false ∧ W.cell? ⟨w3.heap.size, 0, none⟩ = some (.int .i64 ((nq : Int) + 1)) ∧ W.cell? ⟨w3.heap.size, 1, none⟩ = some (.int .i64 d) ∧ W.cell? ⟨w3.heap.size, 2, none⟩ = some (.string loan) ∧ W.cell? ⟨w3.heap.size, 3, none⟩ = some (.slice A m c)) := Lib.hid fun W hW => by
                have hgW := (hW.block g (by omega)).trans HJ4.out
                have hpW := (hW.block w3.heap.size (by omega)).trans hP4
                exact ⟨hW, by rw [cell_of_row _ _ _ _ _ _ hgW]; rfl, by simp [World.frozen?, hgW], by rw [cell_of_row _ _ _ _ _ _ hpW]; rfl, by rw [cell_of_row _ _ _ _ _ _ hpW]; rfl, by rw [cell_of_row _ _ _ _ _ _ hpW]; rfl, by rw [cell_of_row _ _ _ _ _ _ hpW]; rfl⟩
              obtain ⟨PC, hPC⟩ : ∃ PC : Array Value, PC = #[.int .i64 ((nq : Int) + 1), .int .i64 d, .string loan, .slice A m c] := ⟨_, rfl⟩
              have HLIT : Hid (∀ v, (Instr.buildSlice 42 1 #[(0, .agg PC)]).run Try.prog v = .ok (.slice (some ⟨v.heap.size, 0, none⟩) 1 1) (v.alloc (.cells PC 49))) := Lib.hid fun v => by rw [hPC]; exact lit_po _ _ _ _ _ _ v
              have HSZ : Hid (PC.size = 4) := Lib.hid (by rw [hPC]; rfl)
              have HRP : Hid (∀ (v : World) (g : Nat), v.heap[g]? = some (.cells PC 49 (0, 0)) → Rd v 4 (some ⟨g, 0, none⟩) 1 PC.toList) := Lib.hid fun v g h => rd_one h HSZ.out
              have HOP : Hid (∀ u ∈ PC.toList, u.oneCell' = true) := Lib.hid (by rw [hPC]; intro u hu; simp at hu; rcases hu with rfl | rfl | rfl | rfl <;> rfl)
              have hip : (Try.prog.info? 49).map (·.size) = some PC.size := by rw [HSZ.out]; kernel_rfl
              obtain ⟨gp, hgp⟩ : ∃ gp, gp = w3.heap.size := ⟨_, rfl⟩
              have HP4 : Hid (w4.heap[gp]? = some (.cells PC 49 (0, 0))) := Lib.hid (by rw [hgp, hPC]; exact hP4)
              have hg4 : g < w4.heap.size := by omega
              have hgp4 : gp < w4.heap.size := by omega
              have HPC := Lib.hid hPC
              rw [← hgp]
              clear hPC KS hP4
              refine region_letters fun a Q ha hQ => ?_
              have HA' := Lib.hid ha
              have HQ := Lib.hid hQ
              have e0 : a.eval (.tmp 0) = .pointer (some ⟨g, 0, none⟩) := by rw [ha]; rfl
              have e15 : a.eval (.tmp 15) = .pointer (some ⟨gp, 0, none⟩) := by rw [ha]; rfl
              have hszA : a.tmps.size = 79 := by rw [ha]; rfl
              clear ha hQ
              refine region_opsN (by kernel_rfl) [66, 67, 68, 69, 70, 71, 72, 73, 74, 75, 76, 77] (G16 w4 g cl nq (prows qs ++ PC.toList)) (T16 w4 g Aj nq cj (prows qs) PC) (by kernel_rfl) (fun t h => by rw [hszA] at h; simp; omega) ⟨fun _ => (Below.refl _ _).drew, fun h => by cases h⟩ ⟨?_, ?_, ?_, ?_, ?_, ?_, ?_, ?_, ?_, ?_, ?_, ?_, ?_, trivial⟩ ?_
              · intro L b v hi hdep hcl hf hn hg ht
                have hg : G16 w4 g cl nq (prows qs ++ PC.toList) L v := hg
                have h12 : L 12 = false := by
                  cases h0 : L 12 with
                  | false => rfl
                  | true => exact absurd (hcl 10 _ 0 rfl (hcl 11 _ 10 rfl (hcl 12 _ 11 rfl (h0) (by decide)) (by decide)) (by decide)) (by rw [hi]; decide)
                have x0 : b.eval (.tmp 0) = .pointer (some ⟨g, 0, none⟩) := by rw [hf.eval (by decide)]; exact e0
                exact still_ok (.pointer (some ⟨g, 0, none⟩)) (by rw [exec_move (.tmp 0) rfl, x0]) (G16.to (by decide) h12 (hg.low h12)) (rfl) (fun j oj d hoj hd hji hlj h => T16_keep (Below.refl _ _) h)
              · intro L b v hi hdep hcl hf hn hg ht
                have hg : G16 w4 g cl nq (prows qs ++ PC.toList) L v := hg
                have h12 : L 12 = false := by
                  cases h0 : L 12 with
                  | false => rfl
                  | true => exact absurd (hcl 6 _ 1 rfl (hcl 9 _ 6 rfl (hcl 12 _ 9 rfl (h0) (by decide)) (by decide)) (by decide)) (by rw [hi]; decide)
                have hb2 : Below v.heap.size v (v.alloc (.cells #[] 49)) := (Below.refl _ _).alloc (Nat.le_refl _) _
                have hlow := hg.low h12
                exact makes_ok _ (exec_lit0 42 rfl _ (lit0 v)) (G16.to (by decide) h12 (hlow.trans (hb2.mono hlow.size))) (fun _ => ⟨v.heap.size, rfl, hlow.size, heap_alloc_new _ _⟩) (fun j oj d hoj hd hji hlj h => T16_keep hb2 h)
              · intro L b v hi hdep hcl hf hn hg ht
                have hg : G16 w4 g cl nq (prows qs ++ PC.toList) L v := hg
                have h12 : L 12 = false := by
                  cases h0 : L 12 with
                  | false => rfl
                  | true => exact absurd (hcl 3 _ 2 rfl (hcl 4 _ 3 rfl (hcl 5 _ 4 rfl (hcl 6 _ 5 rfl (hcl 9 _ 6 rfl (hcl 12 _ 9 rfl (h0) (by decide)) (by decide)) (by decide)) (by decide)) (by decide)) (by decide)) (by rw [hi]; decide)
                have x0 : b.eval (.tmp 0) = .pointer (some ⟨g, 0, none⟩) := by rw [hf.eval (by decide)]; exact e0
                exact still_ok (.pointer (some ⟨g, 0, none⟩)) (by rw [exec_move (.tmp 0) rfl, x0]) (G16.to (by decide) h12 (hg.low h12)) (rfl) (fun j oj d hoj hd hji hlj h => T16_keep (Below.refl _ _) h)
              · intro L b v hi hdep hcl hf hn hg ht
                have hg : G16 w4 g cl nq (prows qs ++ PC.toList) L v := hg
                have h12 : L 12 = false := by
                  cases h0 : L 12 with
                  | false => rfl
                  | true => exact absurd (hcl 4 _ 3 rfl (hcl 5 _ 4 rfl (hcl 6 _ 5 rfl (hcl 9 _ 6 rfl (hcl 12 _ 9 rfl (h0) (by decide)) (by decide)) (by decide)) (by decide)) (by decide)) (by rw [hi]; decide)
                have x0 : b.eval (.tmp 68) = .pointer (some ⟨g, 0, none⟩) := ht 2 _ 68 rfl rfl (hdep 2 (by decide))
                exact still_ok (.pointer (some ⟨g, 0, none⟩)) (by unfold execOp; simp only [x0]; go_simp) (G16.to (by decide) h12 (hg.low h12)) (rfl) (fun j oj d hoj hd hji hlj h => T16_keep (Below.refl _ _) h)
              · intro L b v hi hdep hcl hf hn hg ht
                have hg : G16 w4 g cl nq (prows qs ++ PC.toList) L v := hg
                have h12 : L 12 = false := by
                  cases h0 : L 12 with
                  | false => rfl
                  | true => exact absurd (hcl 5 _ 4 rfl (hcl 6 _ 5 rfl (hcl 9 _ 6 rfl (hcl 12 _ 9 rfl (h0) (by decide)) (by decide)) (by decide)) (by decide)) (by rw [hi]; decide)
                have x0 : b.eval (.tmp 69) = .pointer (some ⟨g, 0, none⟩) := ht 3 _ 69 rfl rfl (hdep 3 (by decide))
                exact still_ok (.pointer (some ⟨g, 0, none⟩)) (by unfold execOp; simp only [x0]; go_simp) (G16.to (by decide) h12 (hg.low h12)) (rfl) (fun j oj d hoj hd hji hlj h => T16_keep (Below.refl _ _) h)
              · intro L b v hi hdep hcl hf hn hg ht
                have hg : G16 w4 g cl nq (prows qs ++ PC.toList) L v := hg
                have h12 : L 12 = false := by
                  cases h0 : L 12 with
                  | false => rfl
                  | true => exact absurd (hcl 6 _ 5 rfl (hcl 9 _ 6 rfl (hcl 12 _ 9 rfl (h0) (by decide)) (by decide)) (by decide)) (by rw [hi]; decide)
                have x0 : b.eval (.tmp 70) = .pointer (some ⟨g, 0, none⟩) := ht 4 _ 70 rfl rfl (hdep 4 (by decide))
                have hc : v.cell? ⟨g, 0, none⟩ = some (.slice Aj nq cj) := by rw [cell_of_row _ _ _ _ _ _ (((hg.low h12).block g hg4).trans HJ4.out)]; rfl
                exact still_ok (.slice Aj nq cj) (by unfold execOp; simp only [x0]; go_simp) (G16.to (by decide) h12 (hg.low h12)) (rfl) (fun j oj d hoj hd hji hlj h => T16_keep (Below.refl _ _) h)
              · intro L b v hi hdep hcl hf hn hg ht
                have hg : G16 w4 g cl nq (prows qs ++ PC.toList) L v := hg
                have h12 : L 12 = false := by
                  cases h0 : L 12 with
                  | false => rfl
                  | true => exact absurd (hcl 9 _ 6 rfl (hcl 12 _ 9 rfl (h0) (by decide)) (by decide)) (by rw [hi]; decide)
                have x1 : b.eval (.tmp 71) = .slice Aj nq cj := ht 5 _ 71 rfl rfl (hdep 5 (by decide))
                have x0 : L 6 = false → LitW 49 #[] 0 w4.heap.size (b.eval (.tmp 67)) v := ht 1 _ 67 rfl rfl (hdep 1 (by decide))
                obtain ⟨g1, x0, hg1, hr1⟩ := x0 hi
                have hlow := hg.low h12
                have ho := own_lit0 hr1 hg1
                obtain ⟨u, w2, hrun, hown, hgr2⟩ := app_po (E := Aj) (n := nq) (c := cj) ho (HRA.out v hlow) HONE.out (by omega) hlow.size
                have hb2 : Below w4.heap.size w4 w2 := below_grown hlow ho (Nat.le_refl _) hgr2 hlow.size
                refine makes_ok u (exec_append (.tmp 67) (.tmp 71) 42 rfl _ _ u x0 x1 hrun) (G16.to (by decide) h12 hb2) (fun _ => by rw [Nat.zero_add, List.nil_append] at hown; exact hown) (fun jj oj d hoj hd hji hlj h => ?_)
                unfold T16 at h ⊢
                split at h <;> first
                  | exact h
                  | exact absurd rfl hji
                  | (intro h0; rw [upd_self] at h0; cases h0)
                  | exact absurd (hcl 9 _ 6 rfl hlj (by decide)) (by rw [hi]; decide)
                  | (intro h0; obtain ⟨g8, k1, k2, k3⟩ := h (upd_false h0); refine ⟨g8, k1, k2, (hgr2.block g8 (Array.getElem?_eq_some_iff.1 k3).1 (fun e => ?_)).trans k3⟩; have e2 : g8 = g1 := (by injection e); rw [e2, hr1] at k3; injection k3 with k3; injection k3 with k3; have := HSZ.out; rw [← k3] at this; cases this)
              · intro L b v hi hdep hcl hf hn hg ht
                have hg : G16 w4 g cl nq (prows qs ++ PC.toList) L v := hg
                have h12 : L 12 = false := by
                  cases h0 : L 12 with
                  | false => rfl
                  | true => exact absurd (hcl 8 _ 7 rfl (hcl 9 _ 8 rfl (hcl 12 _ 9 rfl (h0) (by decide)) (by decide)) (by decide)) (by rw [hi]; decide)
                have x0 : b.eval (.tmp 15) = .pointer (some ⟨gp, 0, none⟩) := by rw [hf.eval (by decide)]; exact e15
                exact still_ok (.agg PC) (exec_row 49 (.tmp 15) rfl gp x0 _ _ _ _ (((hg.low h12).block _ hgp4).trans HP4.out) Try.underlying49 rfl hip) (G16.to (by decide) h12 (hg.low h12)) rfl (fun j oj d hoj hd hji hlj h => T16_keep (Below.refl _ _) h)
              · intro L b v hi hdep hcl hf hn hg ht
                have hg : G16 w4 g cl nq (prows qs ++ PC.toList) L v := hg
                have h12 : L 12 = false := by
                  cases h0 : L 12 with
                  | false => rfl
                  | true => exact absurd (hcl 9 _ 8 rfl (hcl 12 _ 9 rfl (h0) (by decide)) (by decide)) (by rw [hi]; decide)
                have x0 : b.eval (.tmp 73) = .agg PC := ht 7 _ 73 rfl rfl (hdep 7 (by decide))
                have hb2 : Below v.heap.size v (v.alloc (.cells PC 49)) := (Below.refl _ _).alloc (Nat.le_refl _) _
                have hlow := hg.low h12
                exact makes_ok _ (exec_lit1 42 (.tmp 73) rfl _ _ x0 (HLIT.out v)) (G16.to (by decide) h12 (hlow.trans (hb2.mono hlow.size))) (fun _ => ⟨v.heap.size, rfl, hlow.size, heap_alloc_new _ _⟩) (fun j oj d hoj hd hji hlj h => T16_keep hb2 h)
              · intro L b v hi hdep hcl hf hn hg ht
                have hg : G16 w4 g cl nq (prows qs ++ PC.toList) L v := hg
                have h12 : L 12 = false := by
                  cases h0 : L 12 with
                  | false => rfl
                  | true => exact absurd (hcl 12 _ 9 rfl (h0) (by decide)) (by rw [hi]; decide)
                have x0 : L 9 = false → v.ownsRow w4.heap.size 49 4 (b.eval (.tmp 72)) nq (prows qs) := ht 6 _ 72 rfl rfl (hdep 6 (by decide))
                have x1 : L 9 = false → LitW 49 PC 1 w4.heap.size (b.eval (.tmp 74)) v := ht 8 _ 74 rfl rfl (hdep 8 (by decide))
                have ho := x0 hi
                obtain ⟨g1, x1, hg1, hr1⟩ := x1 hi
                have hlow := hg.low h12
                have h6 := hdep 6 (by decide)
                obtain ⟨u, w2, hrun, hown, hgr2⟩ := app_po (E := some ⟨g1, 0, none⟩) (n := 1) (c := 1) ho (HRP.out v g1 hr1) HOP.out (by omega) hlow.size
                have hb2 : Below w4.heap.size w4 w2 := below_grown hlow ho (Nat.le_refl _) hgr2 hlow.size
                refine makes_ok u (exec_append (.tmp 72) (.tmp 74) 42 rfl _ _ u rfl x1 hrun) (G16.to (by decide) h12 hb2) (fun _ => hown) (fun jj oj d hoj hd hji hlj h => ?_)
                unfold T16 at h ⊢
                split at h <;> first
                  | exact h
                  | exact absurd rfl hji
                  | (intro h0; rw [upd_self] at h0; cases h0)
                  | (intro h0; have := upd_false h0; rw [h6] at this; cases this)
              · intro L b v hi hdep hcl hf hn hg ht
                have hg : G16 w4 g cl nq (prows qs ++ PC.toList) L v := hg
                have h12 : L 12 = false := by
                  cases h0 : L 12 with
                  | false => rfl
                  | true => exact absurd (hcl 11 _ 10 rfl (hcl 12 _ 11 rfl (h0) (by decide)) (by decide)) (by rw [hi]; decide)
                have x0 : b.eval (.tmp 66) = .pointer (some ⟨g, 0, none⟩) := ht 0 _ 66 rfl rfl (hdep 0 (by decide))
                exact still_ok (.pointer (some ⟨g, 0, none⟩)) (by unfold execOp; simp only [x0]; go_simp) (G16.to (by decide) h12 (hg.low h12)) (rfl) (fun j oj d hoj hd hji hlj h => T16_keep (Below.refl _ _) h)
              · intro L b v hi hdep hcl hf hn hg ht
                have hg : G16 w4 g cl nq (prows qs ++ PC.toList) L v := hg
                have h12 : L 12 = false := by
                  cases h0 : L 12 with
                  | false => rfl
                  | true => exact absurd (hcl 12 _ 11 rfl (h0) (by decide)) (by rw [hi]; decide)
                have x0 : b.eval (.tmp 76) = .pointer (some ⟨g, 0, none⟩) := ht 10 _ 76 rfl rfl (hdep 10 (by decide))
                exact still_ok (.pointer (some ⟨g, 0, none⟩)) (by unfold execOp; simp only [x0]; go_simp) (G16.to (by decide) h12 (hg.low h12)) (rfl) (fun j oj d hoj hd hji hlj h => T16_keep (Below.refl _ _) h)
              · intro L b v hi hdep hcl hf hn hg ht
                have hg : G16 w4 g cl nq (prows qs ++ PC.toList) L v := hg
                have h12 := hi
                have x0 : b.eval (.tmp 77) = .pointer (some ⟨g, 0, none⟩) := ht 11 _ 77 rfl rfl (hdep 11 (by decide))
                have x1 : L 12 = false → v.ownsRow w4.heap.size 49 4 (b.eval (.tmp 75)) (nq + 1) (prows qs ++ PC.toList) := ht 9 _ 75 rfl rfl (hdep 9 (by decide))
                have ho := x1 hi
                have hlow := hg.low h12
                obtain ⟨g3, c3, hu⟩ := own_slice ho (by omega)
                rw [hu] at ho
                have hr := (hlow.block g hg4).trans HJ4.out
                have cc : v.cell? ⟨g, 0, none⟩ = some (.slice Aj nq cj) := by rw [cell_of_row _ _ _ _ _ _ hr]; rfl
                have cf : v.frozen? ⟨g, 0, none⟩ = false := by simp [World.frozen?, hr]
                have h9 := hdep 9 (by decide)
                have h6 := hcl 9 _ 6 rfl h9 (by decide)
                have hb3 : w4.heap.size ≤ g3 := (row_block ho rfl).1
                have hlo := hlow.size
                have hrun : (execOp b.eval { dst := none, op := .store 42 (.tmp 77) (.tmp 75), type := 0, pos := "", after := #[], guard := none }).run Try.prog v = .ok .skip (v.setCell ⟨g, 0, none⟩ (.slice (some ⟨g3, 0, none⟩) (nq + 1) c3)) := by
                  unfold execOp
                  simp only [x0, hu]
                  go_simp
                have ho2 : (v.setCell ⟨g, 0, none⟩ (.slice (some ⟨g3, 0, none⟩) (nq + 1) c3)).ownsRow w4.heap.size 49 4 (.slice (some ⟨g3, 0, none⟩) (nq + 1) c3) (nq + 1) (prows qs ++ PC.toList) := ownE_keep ho fun k hk => heap_setCell_other _ _ _ _ (by intro e; have e2 : k = g := (by first | exact e | exact e.symm); have e3 : g3 = k := (by injection hk); omega)
                have hkp : Kept (fun k => k = g) w4 (v.setCell ⟨g, 0, none⟩ (.slice (some ⟨g3, 0, none⟩) (nq + 1) c3)) := ⟨hlow.os, hlow.tape, hlow.output, by simpa [World.setCell] using hlo, fun k k1 k2 => (heap_setCell_other _ _ _ _ (by intro e; exact k2 (by first | exact e | exact e.symm))).trans (hlow.block k k1)⟩
                refine skip_ok hrun ⟨(fun h => by rw [upd_self] at h; cases h), fun _ => ⟨some ⟨g3, 0, none⟩, c3, by rw [heap_setCell_same v g 0 _ _ _ hr]; rfl, ho2, hkp⟩⟩ trivial (fun jj oj d hoj hd hji hlj h => ?_)
                unfold T16 at h ⊢
                split at h <;> first
                  | exact h
                  | (intro h0; rw [upd_self] at h0; cases h0)
                  | (intro h0; have := upd_false h0; rw [h9] at this; cases this)
                  | (intro h0; have := upd_false h0; rw [h6] at this; cases this)
              · intro b v hf hg ht
                obtain ⟨E', c', hcell, hown, hkp⟩ := hg.fin rfl
                have hsv := hkp.size
                have hR5 := (hkp.block rr (by omega) (by omega)).trans ((hb4.block rr (by omega)).trans hR3)
                have hP5 := (hkp.block gp hgp4 (by omega)).trans HP4.out
                have hsz4 : Z4.size = PC.size := by rw [HSZ.out]; rfl
                have hoP : PC.all (·.oneCell') = true := by rw [HPC.out]; simp [Value.oneCell']
                have HEND : Hid (RPost w g base (.slice Aj qs.length cj) qs cl R.2 (v.setRow rr PC)) := Lib.hid (by
                  rw [HF.out]
                  have hkr : ∀ k, k ≠ rr → (v.setRow rr PC).heap[k]? = v.heap[k]? := fun k hk => setRow_other _ _ _ _ (by omega)
                  have hK2 : Kept (fun k => k = g) w (v.setRow rr PC) := ⟨hkp.os.trans hb04.os, hkp.tape.trans hb04.tape, hkp.output.trans hb04.output, by rw [setRow_size]; exact Nat.le_trans hb04.size hsv, fun k k1 k2 => (hkr k (by omega)).trans ((hkp.block k (by have := hb04.size; omega) k2).trans (hb04.block k k1))⟩
                  refine ⟨.slice E' (nq + 1) c', ⟨.slice A m c, ⟨(nq : Int) + 1, d, loan, l⟩⟩, rfl, ⟨?_, ⟨?_, ?_⟩, HJ0.out.low⟩, hK2, ?_⟩
                  · exact (hkr g (by omega)).trans hcell
                  · have hr1 : (v.setRow rr PC).ownsRow w4.heap.size 49 4 (.slice E' (nq + 1) c') (nq + 1) (prows qs ++ PC.toList) := ownE_keep hown fun k hk => hkr k (by have := (row_block hown hk).1; omega)
                    have e1 : (qs ++ [(⟨.slice A m c, ⟨(nq : Int) + 1, d, loan, l⟩⟩ : PR)]).length = nq + 1 := by simp [HNQ.out]
                    have e2 : prows (qs ++ [(⟨.slice A m c, ⟨(nq : Int) + 1, d, loan, l⟩⟩ : PR)]) = prows qs ++ PC.toList := by rw [HPC.out]; simp [prows, prow]
                    rw [e1, e2]
                    exact own_base hr1 (by have := HJ0.out.low; omega)
                  · intro q hq
                    rcases List.mem_append.1 hq with hq | hq
                    · refine ownsRow_same (HO4.out.each q hq) fun g' cs fr hg' hv hc => (hkr g' ?_).trans (hkp.block g' (Array.getElem?_eq_some_iff.1 hc).1 ?_)
                      · intro e
                        rw [e, (hb4.block rr (by omega)).trans hR3] at hc
                        injection hc with hc; injection hc with _ hc; exact absurd hc (by decide)
                      · intro e
                        have e : g' = g := e
                        rw [e, HJ4.out] at hc
                        injection hc with hc; injection hc with _ hc; exact absurd hc (by decide)
                    · obtain rfl : q = ⟨.slice A m c, ⟨(nq : Int) + 1, d, loan, l⟩⟩ := by simpa using hq
                      exact own_base (ownE_keep HV.out fun k hk => by
                        obtain ⟨k1, k2, _⟩ := row_block HV.out hk
                        exact (hkr k (by omega)).trans ((hkp.block k (by omega) (by omega)).trans (hb4.block k k2))) (by have := HJ0.out.low; omega)
                  · intro k hk
                    rcases hk with hk | ⟨q, hq, hk⟩
                    · exact .inr (by have := (row_block hown hk).1; have := hb04.size; omega)
                    · rcases List.mem_append.1 hq with hq | hq
                      · exact .inl (.inr ⟨q, hq, hk⟩)
                      · obtain rfl : q = ⟨.slice A m c, ⟨(nq : Int) + 1, d, loan, l⟩⟩ := by simpa using hq
                        exact .inr (by have := (row_block HV.out hk).1; omega))
                refine HQ.out b v ?_
                rw [hf.out]
                simp only [List.foldl_cons, List.foldl_nil]
                rw [HA'.out]
                generalize b.eval (.tmp 66) = u66
                generalize b.eval (.tmp 67) = u67
                generalize b.eval (.tmp 68) = u68
                generalize b.eval (.tmp 69) = u69
                generalize b.eval (.tmp 70) = u70
                generalize b.eval (.tmp 71) = u71
                generalize b.eval (.tmp 72) = u72
                generalize b.eval (.tmp 73) = u73
                generalize b.eval (.tmp 74) = u74
                generalize b.eval (.tmp 75) = u75
                generalize b.eval (.tmp 76) = u76
                generalize b.eval (.tmp 77) = u77
                simp only [Act.put, List.setIfInBounds_toArray, List.set_cons_succ, List.set_cons_zero]
                clear hcell hown hkp
                go_wp2_with (first
                  | (refine wpList_load_row rfl 49 _ rfl gp rfl _ _ _ _ hP5 Try.underlying49 rfl hip ?_)
                  | (refine wpList_store_rowTo rfl 49 _ _ rfl rfl _ PC rfl rfl _ _ hR5 hip hsz4 hoP ?_))
                refine bodyPost_ret (results_cell3 (fn := Try.f23) rfl _ _ rr 49 _ (0, 0) _ rfl (setRow_heap _ _ _ _ _ _ hR5) Try.underlying49 rfl hip) rfl ?_
                exact ⟨⟨_, rfl⟩, HEND.out⟩
      · have heb : (er != 0) = true := by rw [bne_iff_ne]; exact her
        have HF : Hid (R = (er, none)) := Lib.hid (by rw [HR.out, if_pos her])
        go_wp2_with (first | (go_at_call 35; refine (refGood_any _ _).mono ?_; rintro e w' ⟨rfl, rfl⟩) | (refine wpList_store_rowTo rfl 49 _ _ rfl rfl _ Z4 rfl rfl _ _ hR3 hiZ rfl hoZ ?_))
        refine bodyPost_ret (results_cell3 (fn := Try.f23) rfl _ _ rr 49 _ (0, 0) _ rfl (setRow_heap _ _ _ _ _ _ hR3) Try.underlying49 rfl hiZ) rfl ?_
        rw [HF.out]
        exact ⟨⟨_, rfl⟩, RJ.bad (below_setRow hb03 (by omega) _) HJ0.out⟩
end Go.Proofs.Ytpmbbhefcejjlaa
