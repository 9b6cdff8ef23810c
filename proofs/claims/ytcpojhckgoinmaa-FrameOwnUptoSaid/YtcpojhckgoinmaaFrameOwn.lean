/-
  The walk of FrameOwn.
-/
import Derived.Test.YtcpojhckgoinmaaFrameI
import Derived.Test.YtcpojhckgoinmaaFrameReads
import Derived.Test.YtcpojhckgoinmaaOnlyA
namespace Go.Proofs.Ytcpojhckgoinmaa
open Go.RowKit
set_option linter.unusedVariables false

/-- What stays: the blocks below lo, and those from h1 to h2. -/
structure Mid3 (lo h1 h2 : Nat) (w w' : World) : Prop where
  os : w'.os = w.os
  tape : w'.tape = w.tape
  output : w'.output = w.output
  size : w'.heap.size = w.heap.size
  block : ∀ k, (k < lo ∨ (h1 ≤ k ∧ k < h2)) → w'.heap[k]? = w.heap[k]?
theorem Mid3.refl (lo h1 h2 : Nat) (w : World) : Mid3 lo h1 h2 w w := ⟨rfl, rfl, rfl, rfl, fun _ _ => rfl⟩
theorem Mid3.set {lo h1 h2 g : Nat} {w w' : World} (h : Mid3 lo h1 h2 w w') (hg : ¬(g < lo ∨ (h1 ≤ g ∧ g < h2))) (j : Nat) (u : Value) : Mid3 lo h1 h2 w (w'.setCell ⟨g, j, none⟩ u) :=
  ⟨h.os, h.tape, h.output, by rw [← h.size]; simp [World.setCell], fun k hk => (heap_setCell_other _ ⟨g, j, none⟩ k u (fun e => hg (by subst e; exact hk))).trans (h.block k hk)⟩
theorem Mid3.below {lo h1 h2 B : Nat} {a w w' : World} (ho : Mid3 lo h1 h2 w w') (h : Below B a w) (hB : B ≤ lo) : Below B a w' :=
  ⟨ho.os.trans h.os, ho.tape.trans h.tape, ho.output.trans h.output, by rw [ho.size]; exact h.size, fun k hk => (ho.block k (.inl (by omega))).trans (h.block k hk)⟩
theorem Mid3.drew {lo h1 h2 : Nat} {w w' : World} (h : Mid3 lo h1 h2 w w') : Mid3 lo h1 h2 w w'.drew := ⟨h.os, h.tape, h.output, h.size, h.block⟩
theorem Mid3.narrow {lo h1 h2 h3 : Nat} {w w' : World} (h : Mid3 lo h1 h2 w w') (hh : h3 ≤ h2) : Mid3 lo h1 h3 w w' := ⟨h.os, h.tape, h.output, h.size, fun k hk => h.block k (by omega)⟩
theorem OwnP.keep {w w' : World} {base : Nat} {v : Value} {ps : List (List UInt8)} (h : OwnP w base v ps) (hb : ∀ k, base ≤ k → k < w.heap.size → w'.heap[k]? = w.heap[k]?) : OwnP w' base v ps := by
  obtain ⟨vs, hr, hl, hi⟩ := h
  refine ⟨vs, ?_, hl, fun j hj => ?_⟩
  · refine ⟨hr.1, ?_⟩
    rcases hr.2 with h2 | ⟨g, cap, cur, hv, hg, hh, r⟩
    · exact .inl h2
    · exact .inr ⟨g, cap, cur, hv, hg, by rw [hb g hg (Array.getElem?_eq_some_iff.1 hh).1]; exact hh, r⟩
  · obtain ⟨u, h1, h2, h3⟩ := hi j hj
    exact ⟨u, h1, h2.same (fun g hg => hb g (h2.block g hg).1 (h2.block g hg).2), h3⟩
/-- The payloads, whatever they hold: each can be written. -/
def LW (W : World) (lo hi : Nat) (A : Option Addr) (n : Nat) : Prop :=
  ∀ j, j < n → ∃ gl Au mu cu zs, A = some ⟨gl, 0, none⟩ ∧ W.cell? ⟨gl, j, none⟩ = some (.slice Au mu cu) ∧ Hid (zs.length = mu) ∧ OwnB W lo (.slice Au mu cu) zs ∧ (∀ a, Au = some a → a.block ≠ gl ∧ a.block < hi) ∧ mu ≤ 9223372036854775807
theorem LW.of {W : World} {lo m c : Nat} {A : Option Addr} {ps : List (List UInt8)} (h : OwnP W lo (.slice A m c) ps) : LW W lo W.heap.size A ps.length := by
  intro j hj
  obtain ⟨vs, hr, hl, hi⟩ := h
  obtain ⟨u, h1, h2, h3⟩ := hi j hj
  obtain ⟨Au, mu, cu, rfl, hm, hc, hx, hrd, hg⟩ := h2.form
  rcases hr.2 with ⟨_, h0⟩ | ⟨g, cap, cur, hv, _, hh, _, _, hs, ht⟩
  · omega
  · injection hv with e1 _ _
    refine ⟨g, Au, mu, cu, ps[j], e1, ?_, hm, h2, fun a ha => ?_, by unfold maxLen at hx; omega⟩
    · rw [cell_of_row _ _ _ _ _ _ hh]
      rw [← ht, List.getElem?_take_of_lt (by omega)] at h1
      simpa using h1
    · subst ha
      refine ⟨fun e => h3 (by simp [Value.ownBlock]) ?_, ?_⟩
      · subst e1
        simp [Value.ownBlock, e]
      · obtain ⟨g', rfl, _, h5⟩ := hg a rfl
        exact h5
theorem OwnB.poke {w : World} {base mu cu : Nat} {Au : Option Addr} {zs : List UInt8} (h : OwnB w base (.slice Au mu cu) zs) (hl : zs.length = mu) (g k : Nat) (y : UInt8) :
    ∃ zt : List UInt8, zt.length = mu ∧ OwnB (w.setCell ⟨g, k, none⟩ (.int .u8 (y.toNat : Int))) base (.slice Au mu cu) zt := by
  by_cases hg : Au = some ⟨g, 0, none⟩
  · subst hg
    exact ⟨zs.set k y, by rw [List.length_set]; exact hl, h.set hl k y⟩
  · refine ⟨zs, hl, h.same fun g' hg' => heap_setCell_other _ _ _ _ fun e => hg ?_⟩
    obtain ⟨A0, m0, c0, he, _, _, _, _, hf⟩ := h.form
    injection he with e1 e2 e3
    subst e1 e2 e3
    cases Au with
    | none => simp [Value.ownBlock] at hg'
    | some a =>
      obtain ⟨g2, rfl, _⟩ := hf a rfl
      simp [Value.ownBlock] at hg'
      subst hg'
      simp at e
      rw [e]
theorem LW.poke {W : World} {lo hi n : Nat} {A : Option Addr} (h : LW W lo hi A n) (g k : Nat) (y : UInt8) (hg : ∀ gl, A = some ⟨gl, 0, none⟩ → g ≠ gl) : LW (W.setCell ⟨g, k, none⟩ (.int .u8 (y.toNat : Int))) lo hi A n := by
  intro j hj
  obtain ⟨gl, Au, mu, cu, zs, h1, h2, h3, h4, h5, h6⟩ := h j hj
  obtain ⟨zt, h7, h8⟩ := h4.poke h3.out g k y
  exact ⟨gl, Au, mu, cu, zt, h1, (World.cell?_of_block (heap_setCell_other _ _ _ _ (by have := hg gl h1; simpa using this.symm))).trans h2, Lib.hid h7, h8, h5, h6⟩
theorem LW.keep {W W' : World} {lo hi n : Nat} {A : Option Addr} (h : LW W lo hi A n) (hb : ∀ k, k < hi → W'.heap[k]? = W.heap[k]?) (hA : ∀ a, A = some a → a.block < hi) : LW W' lo hi A n := by
  intro j hj
  obtain ⟨gl, Au, mu, cu, zs, h1, h2, h3, h4, h5, h6⟩ := h j hj
  refine ⟨gl, Au, mu, cu, zs, h1, (World.cell?_of_block (hb gl (by have := hA _ h1; simpa using this))).trans h2, h3, h4.same fun g hg => hb g ?_, h5, h6⟩
  cases Au with
  | none => simp [Value.ownBlock] at hg
  | some a =>
    simp [Value.ownBlock] at hg
    have := (h5 a rfl).2
    omega
theorem OwnP.addr {W : World} {lo m c : Nat} {A : Option Addr} {ps : List (List UInt8)} (h : OwnP W lo (.slice A m c) ps) : ∀ a, A = some a → a.block < W.heap.size := by
  obtain ⟨vs, hr, hl, hi⟩ := h
  intro a ha
  rcases hr.2 with ⟨h0, _⟩ | ⟨g, cap, cur, hv, _, hh, _⟩
  · injection h0 with e1 _ _
    rw [e1] at ha
    cases ha
  · injection hv with e1 _ _
    rw [ha] at e1
    injection e1 with e1
    subst e1
    exact (Array.getElem?_eq_some_iff.1 hh).1
set_option maxRecDepth 100000 in
set_option maxHeartbeats 8000000 in
theorem FrameOwn_walk (A : Option Addr) (n c : Nat) (A' : Option Addr) (n' c' : Nat) (w : World) (xs : List UInt8) (h : RdB w A n xs) (hn : n ≤ c) (hc : c ≤ 1048576) (ys : List UInt8) (h' : RdB w A' n' ys) (hn' : n' ≤ c') (hc' : c' ≤ 1048576) :
    Calls Try.prog 8 #[.slice A n c, .slice A' n' c'] w fun e w' => e = .returned (.bool true) ∧ Below w.heap.size w w' := by
  have HL := Lib.hid h.len
  have HL' := Lib.hid h'.len
  have HG : Hid ((allOf xs).1.length ≤ 1000000000) := Lib.hid (by
    have h1 := goFrom_len xs (xs.length + 1) 0
    have h2 := HL.out
    unfold allOf
    simp only
    omega)
  have HW := Lib.hid wakes_any
  go_enter Try.func8, Try.ntmps8
  go_wp2_with fail
  refine (HW.out w).mono ?_
  rintro e w1 ⟨rfl, hb1⟩
  go_wp2_with fail
  refine (own_any A n c w1 _ (h.below hb1) (by omega)).mono ?_
  rintro e w2 ⟨v2, rfl, hv2, hb2⟩
  have hb02 := hb1.trans (hb2.mono hb1.size)
  have hl2 : xs.length + 1 ≤ 140737488355328 := by have := HL.out; omega
  go_wp2_with (at_builtin; refine app_u8 rfl _ _ rfl w.heap.size _ xs rfl ((hv2.mono hb1.size).alloc _) _ 1 1 [7] rfl (RdB.lit w2 _ _ rfl 1 rfl) ?c1 ?c2 ?_)
  case c1 => exact hl2
  case c2 => exact Nat.le_trans hb02.size (by simp)
  intro v3 w3 hv3 hb3 _
  have hb03 : Below w.heap.size w w3 := (hb02.alloc hb02.size _).trans hb3
  go_wp2_with fail
  refine (own_any A' n' c' w3 _ (h'.below hb03) (by omega)).mono ?_
  rintro e w4 ⟨v4, rfl, hv4, hb4⟩
  have hl4 : ys.length + 1 ≤ 140737488355328 := by have := HL'.out; omega
  go_wp2_with (at_builtin; refine app_u8 rfl _ _ rfl w3.heap.size _ ys rfl (hv4.alloc _) _ 1 1 [8] rfl (RdB.lit w4 _ _ rfl 1 rfl) ?c3 ?c4 ?_)
  case c3 => exact hl4
  case c4 => exact Nat.le_trans hb4.size (by simp)
  intro v5 w5 hv5 hb5 _
  have hb35 : Below w3.heap.size w3 w5 := (hb4.alloc hb4.size _).trans hb5
  have hb05 := hb03.trans (hb35.mono hb03.size)
  obtain ⟨A3, m3, c3, rfl, hm3, hmc3, hx3, hr3, _⟩ := hv3.form
  obtain ⟨A5, m5, c5, rfl, hm5, hmc5, hx5, hr5, _⟩ := hv5.form
  have hm3a : m3 = n + 1 := by have := hm3.out; have := HL.out; simp at *; omega
  have hm5a : m5 = n' + 1 := by have := hm5.out; have := HL'.out; simp at *; omega
  subst hm3a hm5a
  have hr3' := hr3.below hb35
  obtain ⟨A6, s6, r6⟩ := cut_h hr3' c3 hmc3 n (by omega) (n : Int) rfl
  obtain ⟨A7, s7, r7⟩ := cut_h hr5 c5 hmc5 n' (by omega) (n' : Int) rfl
  rw [← h.len, List.take_left, h.len] at r6
  rw [← h'.len, List.take_left, h'.len] at r7
  have hnc3 : n ≤ c3 := by omega
  have hn9 : n ≤ 1000000000 := by omega
  have hnp : n' ≤ 1048576 := by omega
  go_wp2_with fail
  refine (All_any A6 n c3 w5 _ r6 hn9 hnc3).mono ?_
  rintro e w6 ⟨v6, rfl, hv6, hb6⟩
  go_wp2_with fail
  refine (All_any A6 n c3 w6 _ (r6.below hb6) hn9 hnc3).mono ?_
  rintro e w7 ⟨v7, rfl, hv7, hb7⟩
  have hb57 := hb6.trans (hb7.mono hb6.size)
  by_cases hlong : 2097152 < n'
  · omega
  go_wp2_with fail
  refine (Put_ok A7 n' c5 w7 _ (r7.below hb57) (by omega)).mono ?_
  rintro e w8 ⟨v8, rfl, hv8, hb8⟩
  have hb68 := hb7.trans (hb8.mono hb7.size)
  have hb58 := hb6.trans (hb68.mono hb6.size)
  have hv68 := hv6.below hb68
  have HR := Lib.hid (fun W (hW : Below w5.heap.size w5 W) => refAll_any A n c W _ (h.below (hb05.trans (hW.mono hb05.size))) hn9 hn)
  generalize allOf xs = q at *
  obtain ⟨q1, q2, q3⟩ := q
  dsimp only at *
  obtain ⟨Al, cl, rfl, hlc⟩ := hv6.len
  have hA6 := hv6.addr
  have LW6 := LW.of hv6
  have LW8 : LW w8 w5.heap.size w6.heap.size Al q1.length := LW6.keep (fun k hk => hb68.block k hk) hA6
  generalize hql : q1.length = ql at *
  have HQL := Lib.hid hql
  have hq9 : ql ≤ 1000000000 := HG.out
  obtain ⟨Am, cm, rfl, hmc⟩ := hv7.len
  try rw [hql] at hmc
  try rw [hql] at hv7
  try rw [hql]
  obtain ⟨Ax, mx, cx, rfl, hmx, hmcx, hxx, _, hgx⟩ := hv8.form
  have hmxu : mx ≤ 9223372036854775807 := by unfold maxLen at hxx; omega
  clear LW6 hv6 hv68
  go_wp2_with fail
  go_loopw [59] (fun i wr => ∃ j : Nat, j ≤ ql ∧ i = .int .i64 j ∧ LW wr w5.heap.size w6.heap.size Al ql ∧ Mid3 w5.heap.size w6.heap.size w8.heap.size w8 wr) (fun i _ => ql - (intOf i).toNat)
  case atStart => exact ⟨0, Nat.zero_le _, rfl, LW8, Mid3.refl _ _ _ _⟩
  case round =>
    obtain ⟨wa, rfl⟩ : ∃ x, x = wr := ⟨_, rfl⟩
    obtain ⟨j, hj, rfl, hlw, hmid⟩ := hrel
    by_cases hlt : j < ql
    · obtain ⟨gl, Au, mu, cu, zs, rfl, hcl, hzl, hzo, hza, hmu⟩ := hlw j hlt
      have HLW := Lib.hid hlw
      clear hlw
      go_wp2
      go_loopw [67] (fun i wr => ∃ (k : Nat) (zt : List UInt8), k ≤ mu ∧ i = .int .i64 k ∧ Hid (zt.length = mu) ∧ OwnB wr w5.heap.size (.slice Au mu cu) zt ∧ Hid (LW wr w5.heap.size w6.heap.size (some ⟨gl, 0, none⟩) ql) ∧ wr.cell? ⟨gl, j, none⟩ = some (.slice Au mu cu) ∧ Mid3 w5.heap.size w6.heap.size w8.heap.size w8 wr) (fun i _ => mu - (intOf i).toNat)
      case atStart => exact ⟨0, zs, Nat.zero_le _, rfl, hzl, hzo, HLW, hcl, hmid⟩
      case round =>
        obtain ⟨wb, rfl⟩ : ∃ x, x = wr := ⟨_, rfl⟩
        clear hmid hzl hzo HLW hcl
        obtain ⟨k, zt, hk, rfl, hzl, hown, hlwb, hclb, hmidb⟩ := hrel
        by_cases hltk : k < mu
        · obtain ⟨g, rfl, hgb, ⟨x, hcell⟩, hfr, hset⟩ := hown.bump hzl.out k hltk
          obtain ⟨hg1, hg2⟩ := hza _ rfl
          obtain ⟨y, hy⟩ := u8_of_intA (((x.toNat : Int) + 1) % 256) (by omega) (by omega)
          have hy8 := y.toNat_lt
          have hx8 := x.toNat_lt
          have hlwc : Hid (LW (wb.setCell ⟨g, k, none⟩ (.int .u8 (y.toNat : Int))) w5.heap.size w6.heap.size (some ⟨gl, 0, none⟩) ql) := Lib.hid (hlwb.out.poke g k y (fun gl' e => by injection e with e; injection e with e1 e2; subst e1; exact hg1))
          have hclc : Hid ((wb.setCell ⟨g, k, none⟩ (.int .u8 (y.toNat : Int))).cell? ⟨gl, j, none⟩ = some (.slice (some ⟨g, 0, none⟩) mu cu)) := Lib.hid ((World.cell?_of_block (heap_setCell_other _ _ _ _ (by simpa using hg1.symm))).trans hclb)
          have hmidc := hmidb.set (g := g) (by simp only at hg2; omega) k (.int .u8 (y.toNat : Int))
          have hownc := hset y
          clear hset
          go_upto_region 13 with (fail)
          go_region
          rw [hy]
          go_wp2
          go_roundw
          case rel => exact ⟨k + 1, zt.set k y, by omega, by go_num, Lib.hid (by rw [List.length_set]; exact hzl.out), hownc, hlwc, hclc.out, hmidc.drew⟩
          case measure => simp [intOf]; omega
        · clear hk
          have hlwb' := hlwb.out
          clear hown hzl hclb hlwb
          go_wp2
          go_roundw
          case rel => exact ⟨j + 1, by omega, by go_num, hlwb', hmidb⟩
          case measure => simp [intOf]; omega
    · have hv8A : OwnB wa w7.heap.size (.slice Ax mx cx) (frameOf ys) := hv8.same (fun g hg => hmid.block g (.inr ⟨Nat.le_trans hb7.size (hv8.block g hg).1, (hv8.block g hg).2⟩))
      have hmid := hmid.narrow (show w7.heap.size ≤ w8.heap.size from hb8.size)
      clear hlw hj
      go_wp2
      go_loopw [88] (fun i wr => ∃ (k : Nat) (zt : List UInt8), k ≤ mx ∧ i = .int .i64 k ∧ Hid (zt.length = mx) ∧ OwnB wr w7.heap.size (.slice Ax mx cx) zt ∧ Mid3 w5.heap.size w6.heap.size w7.heap.size w8 wr) (fun i _ => mx - (intOf i).toNat)
      case atStart => exact ⟨0, _, Nat.zero_le _, rfl, hmx, hv8A, hmid⟩
      case round =>
        obtain ⟨wb, rfl⟩ : ∃ x, x = wr := ⟨_, rfl⟩
        clear hmid hv8A
        obtain ⟨k, zt, hk, rfl, hzl, hown, hmid⟩ := hrel
        by_cases hltk : k < mx
        · obtain ⟨g, rfl, hgb, ⟨x, hcell⟩, hfr, hset⟩ := hown.bump hzl.out k hltk
          obtain ⟨y, hy⟩ := u8_of_intA (((x.toNat : Int) + 1) % 256) (by omega) (by omega)
          have hmidc := hmid.set (g := g) (by have := hb6.size; have := hb7.size; omega) k (.int .u8 (y.toNat : Int))
          go_wp2
          go_roundw
          case rel =>
            exact ⟨k + 1, zt.set k y, by omega, by go_num, Lib.hid (by rw [List.length_set]; exact hzl.out), hset y, hmidc⟩
          case measure => simp [intOf]; omega
        · clear hk hzl hown
          obtain ⟨wc, rfl⟩ : ∃ x, x = wb := ⟨_, rfl⟩
          have hb5C := hmid.below hb58 (Nat.le_refl _)
          have hb0C := hb05.trans (hb5C.mono hb05.size)
          have hv7C := hv7.keep (w' := wc) (fun k h1 h2 => (hmid.block k (.inr ⟨h1, h2⟩)).trans (hb8.block k h2))
          have HRC := Lib.hid (HR.out wc hb5C)
          clear hmid HR
          go_wp2_with fail
          refine HRC.out.mono ?_
          rintro e w9 ⟨v9, rfl, hv9, hb9⟩
          have hb59 := hb5C.trans (hb9.mono hb5C.size)
          have hb09 := hb05.trans (hb59.mono hb05.size)
          obtain ⟨A9, c9, rfl, h9⟩ := hv9.len
          dsimp only at hv9 ⊢
          try rw [HQL.out] at hv9
          try rw [HQL.out]
          have hv79 := hv7C.below hb9
          have hr3C := hr3'.below hb59
          have hr5C := hr5.below hb59
          have r6C := r6.below hb59
          have r7C := r7.below hb59
          have hC := h.below hb09
          have hC' := h'.below hb09
          obtain ⟨b3, o3, rfl⟩ := hr3C.addr (by omega)
          obtain ⟨b5, o5, rfl⟩ := hr5C.addr (by omega)
          have hin : w9.cell? ⟨b3, o3 + n, none⟩ = some (.int .u8 7) := by
            rw [hr3C.cells n (by have := hm3.out; omega)]
            have e : (xs ++ [7])[n]'(by have := hm3.out; omega) = (7 : UInt8) := by
              rw [List.getElem_append_right (by have := HL.out; omega)]
              simp
            rw [e]
            rfl
          have hby : w9.cell? ⟨b5, o5 + n', none⟩ = some (.int .u8 8) := by
            rw [hr5C.cells n' (by have := hm5.out; omega)]
            have e : (ys ++ [8])[n']'(by have := hm5.out; omega) = (8 : UInt8) := by
              rw [List.getElem_append_right (by have := HL'.out; omega)]
              simp
            rw [e]
            rfl
          clear hm3 hm5
          go_wp2_with fail
          refine (same_any A6 n c3 xs A n c xs w9 r6C hC).mono ?_
          rintro e w' ⟨rfl, rfl⟩
          rw [show decide (xs = xs) = true from decide_eq_true rfl]
          go_wp2_with fail
          refine (same_any A7 n' c5 ys A' n' c' ys w9 r7C hC').mono ?_
          rintro e w' ⟨rfl, rfl⟩
          rw [show decide (ys = ys) = true from decide_eq_true rfl]
          go_wp2_with fail
          refine (SameP_any _ _ _ _ q1 q1 w9 hv79 hv9 (by rw [HQL.out]; exact hq9) (by rw [HQL.out]; exact hq9)).mono ?_
          rintro e w10 ⟨rfl, hb10⟩
          rw [show decide (q1 = q1) = true from decide_eq_true rfl]
          go_wp2
          go_ret
          exact ⟨rfl, hb09.trans (hb10.mono hb09.size)⟩
end Go.Proofs.Ytcpojhckgoinmaa
