/-
  The walk of frame.All.
-/
import Derived.Test.YtcpojhckgoinmaaFrameE
import Derived.Maps.OwnIn
import Derived.Maps.AppendAt
namespace Go.Proofs.Ytcpojhckgoinmaa
open Go.RowKit Go.Shelf
set_option linter.unusedVariables false
attribute [local go_sem] Oper.semAt_some

theorem OwnP.lower {W : World} {base base' : Nat} {v : Value} {ps : List (List UInt8)} (h : OwnP W base v ps) (hb : base' ≤ base) : OwnP W base' v ps := by
  obtain ⟨vs, hr, hl, hi⟩ := h
  refine ⟨vs, ⟨hr.1, ?_⟩, hl, fun j hj => ?_⟩
  · rcases hr.2 with h2 | ⟨g, cap, cur, hv, hg, r⟩
    · exact .inl h2
    · exact .inr ⟨g, cap, cur, hv, Nat.le_trans hb hg, r⟩
  · obtain ⟨u, h1, h2, h3⟩ := hi j hj
    exact ⟨u, h1, h2.mono hb, h3⟩
theorem JJ.drewN {w0 : World} {A : Option Addr} {n c : Nat} {v : Value} {ps : List (List UInt8)} {k : Nat} {e : Int} {W : World} (h : JJ w0 A n c v ps k e W) (m : Nat) : JJ w0 A n c v ps k e (W.drewN m) :=
  ⟨h.out, h.pl, h.why, h.box, h.ptr, h.own, below_drewN h.bel m⟩
theorem frames_any (A : Option Addr) (n c : Nat) (q : Addr) (w : World) :
    Calls Try.prog 27 #[.slice A n c, .pointer (some q)] w fun e w' => e = .returned (.func (.func 29) #[] #[.pointer (some ⟨w.heap.size, 0, none⟩), .pointer (some ⟨w.heap.size + 1, 0, none⟩)]) ∧ w' = (w.alloc (.cells #[.slice A n c] 22)).alloc (.cells #[.pointer (some q)] 53) := by
  go_enter Try.func27, Try.ntmps27
  go_wp2
  go_ret
  exact ⟨rfl, rfl⟩
theorem Fn.last {w0 : World} {A : Option Addr} {n c : Nat} {xs : List UInt8} {W : World} (h : Fn w0 A n c xs W) : ∃ v er, JJ w0 A n c v (allOf xs).1 (allOf xs).2.1 er W ∧ (allOf xs).2.2 = (if er = 12 then 0 else er) ∧ er ≠ 0 := by
  obtain ⟨v, ps, k, hs, hj, he⟩ := h
  have hf := hs.fin he
  rw [hf]
  exact ⟨v, _, hj, rfl, he⟩
theorem OwnB.put {W : World} {base : Nat} {v : Value} {p : List UInt8} (h : OwnB W base v p) {l : Nat} {o o' : Obj} (hh : W.heap[l]? = some o) (ho : o.isCells = false) : OwnB (W.putObj l o') base v p := by
  refine ⟨h.1, ?_⟩
  rcases h.2 with h4 | ⟨b, cap, cur, hv, hb, hc, r⟩
  · exact .inl h4
  · exact .inr ⟨b, cap, cur, hv, hb, by rw [put_cells hh ho b _ _ _ hc]; exact hc, r⟩
theorem keeps_grown {B base n : Nat} {e : TypeId} {W W' : World} {v : Value} {vs : List Value} {o : Obj} (hr : W.ownsRow base e 1 v n vs) (hg : (W.alloc o).grownBy W' v.ownBlock) : KeepsFrom B W W' := by
  refine ⟨Nat.le_trans (by simp) hg.size, fun k ob _ hk ho => ?_⟩
  have hlt := (Array.getElem?_eq_some_iff.1 hk).1
  rw [hg.block k (by simp; omega) ?_]
  · exact heap_alloc_old _ _ _ hlt |>.trans hk
  · intro e
    rcases hr.2 with ⟨rfl, _⟩ | ⟨g, cap, cur, rfl, _, hh, _⟩
    · simp [Value.ownBlock] at e
    · simp [Value.ownBlock] at e
      subst e
      rw [hk] at hh
      cases hh
      cases ho
theorem app_pIn {F : Fence} {nF : Nat} {ops : Array Oper} {rest : List Oper} {o : Oper} {a : Act} {Q : Exit → Act → World → Prop} {w : World} (hgd : o.guard = none) (s x : Operand)
    (ho : o.op = .call { callee := .builtin .append, args := #[s, x], argTypes := #[39, 39] })
    (base : Nat) (v : Value) (ps : List (List UInt8)) (hs : a.eval s = v) (hown : OwnP w base v ps) (u : Value) (p : List UInt8) (hu : OwnB w base u p) (hun : u.ownBlock ≠ none → u.ownBlock ≠ v.ownBlock)
    (hx : a.eval x = .slice (some ⟨w.heap.size, 0, none⟩) 1 1) (hlen : ps.length ≤ 1000000000) (hbase : base ≤ w.heap.size)
    (h : ∀ g cap w', OwnP w' base (.slice (some ⟨g, 0, none⟩) (ps.length + 1) cap) (ps ++ [p]) → Below base w w' → KeepsFrom base w w' → wpListIn F nF Try.prog ops Q rest (a.put o.dst (.slice (some ⟨g, 0, none⟩) (ps.length + 1) cap)) w') : wpListIn F nF Try.prog ops Q (o :: rest) a (w.alloc (.cells #[u] 22)) := by
  obtain ⟨i0, hi, hz0, hz1, hz2⟩ := info_parts infoBS
  obtain ⟨vs, hr, hl, hin⟩ := hown
  have hr2 : (w.alloc (.cells #[u] 22)).ownsRow base 22 1 v ps.length vs := World.ownsRow.alloc hr _
  have hone : ∀ z ∈ [u], z.oneCell' = true := by
    intro z hz
    obtain rfl : z = u := by simpa using hz
    obtain ⟨A, m, c, rfl, _⟩ := hu.form
    rfl
  refine wpListIn_append_own_at (w := w.alloc (.cells #[u] 22)) hgd s x 39 ho base 22 i0 (.slice none 0 0) 1 24 Try.underlying39 hi hz0 hz1 hz2 rfl (by decide) v ps.length vs hs hr2 ⟨w.heap.size, 0, none⟩ 1 1 [u] hx rfl (cell_one_new _ _ _) hone (by unfold maxLen; omega) (by omega) (by simp; omega) fun v' w' hown' hg _ hb => ?_
  have hin2 : ∀ (j : Nat) (hj : j < ps.length), ∃ z, vs[j]? = some z ∧ OwnB (w.alloc (.cells #[u] 22)) base z ps[j] ∧ (z.ownBlock ≠ none → z.ownBlock ≠ v.ownBlock) := fun j hj => by
    obtain ⟨z, h1, h2, h3⟩ := hin j hj
    exact ⟨z, h1, h2.alloc _, h3⟩
  have hk := keeps_grown (B := base) hr hg
  have hp := OwnP.snoc hl hin2 (hu.alloc _) hun hown' hg hb
  obtain ⟨g, cap, rfl⟩ := ownsRow_succ hown'
  exact h g cap w' hp (((Below.refl base w).alloc hbase _).grown hg (by simp; omega) fun k hk => (hr2.lt k hk).1) hk
set_option maxRecDepth 100000 in
set_option maxHeartbeats 4000000 in
theorem All_any (A : Option Addr) (n c : Nat) (w : World) (xs : List UInt8) (h : RdB w A n xs) (hm : n ≤ 1000000000) (hc : n ≤ c) :
    Calls Try.prog 18 #[.slice A n c] w (Alls w (allOf xs)) := by
  have HIT := Lib.hid (fun m => frames_it m w A n c xs h hm hc)
  have HST := Lib.hid (Stands.start xs)
  have HF := Lib.hid frames_any
  refine (callsIn_wide (n := 3)).1 ?_
  refine callsIn_of_wp_marks Try.func18 rfl trivial ?_
  simp only [Try.ntmps18, List.size_toArray, List.length_cons, List.length_nil, Nat.reduceAdd, Nat.reduceSub, Array.replicate_succ, Array.replicate_zero, List.push_toArray, List.append_toArray, List.nil_append, List.cons_append]
  gi_wp2_with fail
  refine ⟨trivial, (callsIn_wide.2 (HF.out _ _ _ _ _)).mono ?_⟩
  rintro e w5 ⟨rfl, hw5⟩
  have hz5 : w5.heap.size = w.heap.size + 5 := by rw [hw5]; simp
  gi_wp2_with fail
  simp only [show w.heap.size + 1 + 1 + 1 + 1 = w.heap.size + 4 by omega, show w.heap.size + 1 + 1 + 1 = w.heap.size + 3 by omega, show w.heap.size + 1 + 1 = w.heap.size + 2 by omega] at hw5 ⊢
  rw [← hw5]
  have hJ0 : JJ w A n c (.slice none 0 0) [] 0 0 w5 := by
    have b0 : Below w.heap.size w w5 := by
      rw [hw5]
      exact (((((Below.refl _ _).alloc (Nat.le_refl _) _).alloc (by simp) _).alloc (by simp; omega) _).alloc (by simp; omega) _).alloc (by simp; omega) _
    have q : ∀ (X : World) (o p : Obj) (g : Nat), X.heap[g]? = some o → (X.alloc p).heap[g]? = some o := fun X o p g hg => (heap_alloc_old X p g (Array.getElem?_eq_some_iff.1 hg).1).trans hg
    refine ⟨?_, ?_, ?_, ?_, ?_, OwnP.nil _ _, b0⟩
    · rw [hw5]; exact q _ _ _ _ (q _ _ _ _ (q _ _ _ _ (q _ _ _ _ (heap_alloc_new w _))))
    · rw [hw5, ← World.size_alloc w]; exact q _ _ _ _ (q _ _ _ _ (q _ _ _ _ (heap_alloc_new _ _)))
    · rw [hw5, show w.heap.size + 2 = ((w.alloc (.cells #[.slice none 0 0] 39)).alloc (.cells #[.int .i64 0] 3)).heap.size by simp]; exact q _ _ _ _ (q _ _ _ _ (heap_alloc_new _ _))
    · rw [hw5, show w.heap.size + 3 = (((w.alloc (.cells #[.slice none 0 0] 39)).alloc (.cells #[.int .i64 0] 3)).alloc (.cells #[.int .i64 0] 29)).heap.size by simp]; exact q _ _ _ _ (heap_alloc_new _ _)
    · rw [hw5, show w.heap.size + 4 = ((((w.alloc (.cells #[.slice none 0 0] 39)).alloc (.cells #[.int .i64 0] 3)).alloc (.cells #[.int .i64 0] 29)).alloc (.cells #[.slice A n c] 22)).heap.size by simp]; exact heap_alloc_new _ _
  clear hw5
  refine range_runs (gf := 29) (lb := #[.pointer (some ⟨w.heap.size + 3, 0, none⟩), .pointer (some ⟨w.heap.size + 4, 0, none⟩)]) rfl (enters_of Try.func29 (by kernel_rfl) rfl) (encs := encR) (fun x => rfl) (Jn w A n c xs) (Nn w A n c xs) (Fn w A n c xs) (by rw [hz5]; exact HIT.out _) ?stJ ?stN ?stF ?start
    (fun x => { tmps := #[.slice A n c, undef, .slice none 0 0, .int .i64 0, .int .i64 0, .pointer (some ⟨w.heap.size, 0, none⟩), .pointer (some ⟨w.heap.size + 1, 0, none⟩), .pointer (some ⟨w.heap.size + 2, 0, none⟩), .int .i64 (x.1 : Int), x.2.1, .slice A n c, .func (.func 29) #[] #[.pointer (some ⟨w.heap.size + 3, 0, none⟩), .pointer (some ⟨w.heap.size + 4, 0, none⟩)], .int .i64 (x.1 : Int), x.2.1, undef, undef, undef, undef, undef, undef, undef, undef, undef, undef], defers := [] }) ?assign ?body ?done
  case stJ =>
    rintro pre W k o o' hk hh ho ⟨v, e, hs, hj⟩
    exact ⟨v, e, hs, hj.put (by rw [hz5] at hk; exact hk) hh ho⟩
  case stN =>
    rintro pre x W k o o' hk hh ho ⟨v, hs, hj, hu, hap⟩
    exact ⟨v, hs, hj.put (by rw [hz5] at hk; exact hk) hh ho, hu.put hh ho, hap⟩
  case stF =>
    rintro W k o o' hk hh ho ⟨v, ps, q, hs, hj, he⟩
    exact ⟨v, ps, q, hs, hj.put (by rw [hz5] at hk; exact hk) hh ho, he⟩
  case start =>
    intro o o'
    exact ⟨.slice none 0 0, 0, HST.out, hJ0.below (((Below.refl _ _).alloc (Nat.le_refl _) _).alloc (by simp) _)⟩
  case assign =>
    intro l x W K hK
    unfold encR
    gi_wp2
    exact hK
  case body =>
    rintro l pre ⟨k', u, p⟩ W ⟨v, hs, hj, hu, hap⟩
    dsimp only at hs hu hap ⊢
    obtain ⟨Av, cv, rfl, _⟩ := hj.own.len
    obtain ⟨Au, mu, cu, rfl, _⟩ := hu.form
    have hc0 : W.cell? ⟨w.heap.size, 0, none⟩ = some (.slice Av (psOf pre).length cv) := by rw [cell_of_row _ _ _ _ _ _ hj.out]; rfl
    have hlen : (psOf pre).length ≤ 1000000000 := by
      have h1 := hs.2.1
      have h2 := hs.1
      have h3 := h.len
      simp at h1
      omega
    have hsz : w.heap.size + 5 ≤ W.heap.size := (Array.getElem?_eq_some_iff.1 hj.ptr).1
    have HJ := Lib.hid hj
    have HS := Lib.hid hs
    have HU := Lib.hid hu
    have HAP := Lib.hid hap
    have HLN := Lib.hid hlen
    clear hj hs hu hap hlen
    gi_wp2_with (gi_at_builtin; refine app_pIn rfl _ _ rfl (w.heap.size + 5) (.slice Av (psOf pre).length cv) (psOf pre) rfl HJ.out.own _ p HU.out HAP.out rfl HLN.out hsz ?_)
    intro g cap w1 hown1 hbel hkf
    have hr0 := (hbel.block w.heap.size (by omega)).trans HJ.out.out
    have hd0 : w1.cell? ⟨w.heap.size, 0, none⟩ = some (.slice Av (psOf pre).length cv) := by rw [cell_of_row _ _ _ _ _ _ hr0]; rfl
    have hf0 : w1.frozen? ⟨w.heap.size, 0, none⟩ = false := by simp [World.frozen?, hr0]
    have hj2 := HJ.out.setOut hbel hown1
    have hd1 : (w1.setCell ⟨w.heap.size, 0, none⟩ (.slice (some ⟨g, 0, none⟩) ((psOf pre).length + 1) cap)).cell? ⟨w.heap.size + 1, 0, none⟩ = some (.int .i64 (kOf pre : Int)) := by rw [cell_of_row _ _ _ _ _ _ hj2.pl]; rfl
    have hf1 : (w1.setCell ⟨w.heap.size, 0, none⟩ (.slice (some ⟨g, 0, none⟩) ((psOf pre).length + 1) cap)).frozen? ⟨w.heap.size + 1, 0, none⟩ = false := by simp [World.frozen?, hj2.pl]
    have hj3 := hj2.setPlace k'
    have HK := Lib.hid (show KeepsFrom (w.heap.size + 5) W ((w1.setCell ⟨w.heap.size, 0, none⟩ (.slice (some ⟨g, 0, none⟩) ((psOf pre).length + 1) cap)).setCell ⟨w.heap.size + 1, 0, none⟩ (.int .i64 (k' : Int))) from hkf.trans (((KeepsOthers.setCell _ _ _).from _).trans ((KeepsOthers.setCell _ _ _).from _)))
    have HN : Hid (Jn w A n c xs (pre ++ [(k', .slice Au mu cu, p)]) ((w1.setCell ⟨w.heap.size, 0, none⟩ (.slice (some ⟨g, 0, none⟩) ((psOf pre).length + 1) cap)).setCell ⟨w.heap.size + 1, 0, none⟩ (.int .i64 (k' : Int)))) :=
      Lib.hid (by unfold Jn; rw [psOf_snoc, kOf_snoc]; exact ⟨_, 0, HS.out, hj3⟩)
    clear hown1 hbel hkf hr0 hj2 hj3 hc0
    gi_wp2
    exact ⟨HK.out, HN.out⟩
  case done =>
    intro W hf hK
    obtain ⟨v, er, hj, hr, he⟩ := hf.last
    obtain ⟨Av, cv, rfl, _⟩ := hj.own.len
    have hc0 : W.cell? ⟨w.heap.size, 0, none⟩ = some (.slice Av (allOf xs).1.length cv) := by rw [cell_of_row _ _ _ _ _ _ hj.out]; rfl
    have hc1 : W.cell? ⟨w.heap.size + 1, 0, none⟩ = some (.int .i64 ((allOf xs).2.1 : Int)) := by rw [cell_of_row _ _ _ _ _ _ hj.pl]; rfl
    have hc2 : W.cell? ⟨w.heap.size + 2, 0, none⟩ = some (.int .i64 er) := by rw [cell_of_row _ _ _ _ _ _ hj.why]; rfl
    have hf2 : W.frozen? ⟨w.heap.size + 2, 0, none⟩ = false := by simp [World.frozen?, hj.why]
    have HJ := Lib.hid hj
    have HR := Lib.hid hr
    have HK := Lib.hid hK
    clear hj hr hK hf
    by_cases h12 : er = 12
    · subst h12
      have hj2 := HJ.out.setWhy 0
      have HJ2 := Lib.hid hj2
      have HK2 : Hid ((W.setCell ⟨w.heap.size + 2, 0, none⟩ (.int .i64 0)).heap[w5.heap.size]? = some (.deferred (some []))) := Lib.hid ((set_other _ _ _ _ HJ.out.why (by omega)).trans HK.out)
      have hd0 : (W.setCell ⟨w.heap.size + 2, 0, none⟩ (.int .i64 0)).cell? ⟨w.heap.size, 0, none⟩ = some (.slice Av (allOf xs).1.length cv) := by rw [cell_of_row _ _ _ _ _ _ hj2.out]; rfl
      have hd1 : (W.setCell ⟨w.heap.size + 2, 0, none⟩ (.int .i64 0)).cell? ⟨w.heap.size + 1, 0, none⟩ = some (.int .i64 ((allOf xs).2.1 : Int)) := by rw [cell_of_row _ _ _ _ _ _ hj2.pl]; rfl
      have hd2 : (W.setCell ⟨w.heap.size + 2, 0, none⟩ (.int .i64 0)).cell? ⟨w.heap.size + 2, 0, none⟩ = some (.int .i64 0) := by rw [cell_of_row _ _ _ _ _ _ hj2.why]; rfl
      clear hj2
      gi_wp2
      clear hc0 hc1 hc2 hf2
      generalize W.setCell ⟨w.heap.size + 2, 0, none⟩ (.int .i64 0) = W2 at *
      refine wpIn_wide.2 ?_
      go_quiet (fail)
      go_wp2
      have hk5 : (W2.drewN nq).heap[w.heap.size + 5]? = some (.deferred (some [])) := by rw [← hz5]; exact HK2.out
      have hj5 := (HJ2.out.drewN nq).put (o' := .deferred none) (Nat.le_refl _) hk5 rfl
      gi_wp2
      refine ⟨by simp, .inl ⟨_, _, rfl, run_takeDeferred hk5, ?_⟩⟩
      exact ⟨_, results_tmp3 rfl _ _ _, _, by first | (rw [HR.out, if_pos rfl]; rfl) | (rw [HR.out]; rfl), hj5.own.lower (by omega), hj5.bel⟩
    · gi_wp2
      refine wpIn_wide.2 ?_
      go_quiet (fail)
      go_wp2
      have hk5 : (W.drewN nq).heap[w5.heap.size]? = some (.deferred (some [])) := HK.out
      have hj5 := (HJ.out.drewN nq).put (o' := .deferred none) (by omega) hk5 rfl
      gi_wp2
      refine ⟨by simp, .inl ⟨_, _, rfl, run_takeDeferred hk5, ?_⟩⟩
      exact ⟨_, results_tmp3 rfl _ _ _, _, by first | (rw [HR.out, if_neg h12]; rfl) | (rw [HR.out]; rfl), hj5.own.lower (by omega), hj5.bel⟩
end Go.Proofs.Ytcpojhckgoinmaa
