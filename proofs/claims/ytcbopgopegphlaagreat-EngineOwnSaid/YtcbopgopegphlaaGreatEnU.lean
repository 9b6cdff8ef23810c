/-
  An engine as its callers see it. No statement is proved here.
-/
import Derived.Test.YtcbopgopegphlaaGreatEnT
namespace Go.Proofs.YtcbopgopegphlaaGreat
open Go.RowKit
set_option linter.unusedVariables false
/-- What an engine's work leaves as it was: all below base, and each row of cells but those of engines and events. -/
structure EK (base : Nat) (w w' : World) : Prop where
  os : w'.os = w.os
  tape : w'.tape = w.tape
  output : w'.output = w.output
  size : w.heap.size ≤ w'.heap.size
  low : ∀ k, k < base → k < w.heap.size → w'.heap[k]? = w.heap[k]?
  rows : ∀ (k : Nat) (cs : Array Value) (t : TypeId) (fr : Nat × Nat), w.heap[k]? = some (Obj.cells cs t fr) → t ≠ 60 → t ≠ 39 → w'.heap[k]? = w.heap[k]?
theorem EK.refl (base : Nat) (w : World) : EK base w w := ⟨rfl, rfl, rfl, Nat.le_refl _, fun _ _ _ => rfl, fun _ _ _ _ _ _ _ => rfl⟩
theorem EK.trans {base : Nat} {a b c : World} (h : EK base a b) (k : EK base b c) : EK base a c :=
  ⟨k.os.trans h.os, k.tape.trans h.tape, k.output.trans h.output, Nat.le_trans h.size k.size, fun i h1 h2 => (k.low i h1 (Nat.lt_of_lt_of_le h2 h.size)).trans (h.low i h1 h2),
    fun i cs t fr h1 h2 h3 => (k.rows i cs t fr ((h.rows i cs t fr h1 h2 h3).trans h1) h2 h3).trans (h.rows i cs t fr h1 h2 h3)⟩
theorem EK.of_below {base : Nat} {a b : World} (h : Below a.heap.size a b) : EK base a b :=
  ⟨h.os, h.tape, h.output, h.size, fun i _ h2 => h.block i h2, fun i cs t fr h1 _ _ => h.block i (Array.getElem?_eq_some_iff.1 h1).1⟩
theorem EK.below {base B : Nat} {a b : World} (h : EK base a b) (hB : B ≤ base) (hs : B ≤ a.heap.size) : Below B a b :=
  ⟨h.os, h.tape, h.output, h.size, fun i hi => h.low i (by omega) (by omega)⟩
theorem EK.kept {base gm ge : Nat} {p : Prod} {A : Option Addr} {n c : Nat} {v : Value} {l : List Ev} {M : List ((Int × Int) × Ln)} {a b : World} (hE : EngAt a ge gm p A n c v l M) (hg : base ≤ gm) (h : KeptBut gm a b) : EK base a b :=
  ⟨h.os, h.tape, h.output, h.size, fun i h1 h2 => h.block i h2 (by omega), fun i cs t fr h1 _ _ => h.block i (Array.getElem?_eq_some_iff.1 h1).1 fun e => by
    rw [e, hE.map] at h1
    injection h1 with h1
    cases h1⟩
theorem EK.keeps {base gm ge : Nat} {p : Prod} {A : Option Addr} {n c : Nat} {v : Value} {l : List Ev} {M : List ((Int × Int) × Ln)} {a b : World} (hE : EngAt a ge gm p A n c v l M) (hg : base ≤ ge) (hr : ∀ k, v.ownBlock = some k → base ≤ k) (h : EnKeeps ge v.ownBlock a b) : EK base a b :=
  ⟨h.os, h.tape, h.output, h.size, fun i h1 h2 => h.block i h2 (by omega) (fun e => by have := hr i e; omega), fun i cs t fr h1 h2 h3 => h.block i (Array.getElem?_eq_some_iff.1 h1).1 (fun e => by
    rw [e, hE.cells] at h1
    injection h1 with h1
    injection h1 with _ h1
    exact h2 h1.symm) (fun e => by
    obtain ⟨_, cs', h4⟩ := ownE_block hE.row e
    rw [h4] at h1
    injection h1 with h1
    injection h1 with _ h1
    exact h3 h1.symm)⟩
theorem EK.own {base b2 sz n : Nat} {t : TypeId} {v : Value} {xs : List Value} {w w' : World} (h : EK base w w') (h1 : t ≠ 60) (h2 : t ≠ 39) (ho : w.ownsRow b2 t sz v n xs) : w'.ownsRow b2 t sz v n xs :=
  ownE_keep ho fun g hg => by
    obtain ⟨_, cs, h4⟩ := ownE_block ho hg
    exact h.rows g cs t _ h4 h1 h2
/-- An engine lies at ge, all of it from base on; its bounds below top. -/
structure EnB (w : World) (base top ge : Nat) (p : Prod) (l : List Ev) : Prop where
  evs : EvsIn p l
  ex : ∃ gm A n c v M, EngAt w ge gm p A n c v l M ∧ PtsOk p l M ∧ PtsIn l.length M ∧ base ≤ ge ∧ base ≤ gm ∧ (∀ k, v.ownBlock = some k → base ≤ k) ∧ (0 < n → ∀ ad, A = some ad → base ≤ ad.block ∧ ad.block < top)
theorem EnB.below {w w' : World} {base top ge : Nat} {p : Prod} {l : List Ev} (h : EnB w base top ge p l) (hb : Below w.heap.size w w') : EnB w' base top ge p l := by
  obtain ⟨gm, A, n, c, v, M, h1, h2⟩ := h.ex
  exact ⟨h.evs, gm, A, n, c, v, M, h1.below hb, h2⟩
/-- A change that leaves engines, maps, events and all below top as they were. -/
theorem EnB.rows {w w' : World} {base top ge : Nat} {p : Prod} {l : List Ev} (h : EnB w base top ge p l)
    (hk : ∀ k, k < w.heap.size → (k < top ∨ (∃ cs fr, w.heap[k]? = some (.cells cs 60 fr)) ∨ (∃ cs fr, w.heap[k]? = some (.cells cs 39 fr)) ∨ ∃ es n, w.heap[k]? = some (.map es n)) → w'.heap[k]? = w.heap[k]?) : EnB w' base top ge p l := by
  obtain ⟨gm, A, n, c, v, M, h1, h2, h3, h4, h5, h6, h7⟩ := h.ex
  refine ⟨h.evs, gm, A, n, c, v, M, h1.on fun k hb => hk k (h1.lt hb) ?_, h2, h3, h4, h5, h6, h7⟩
  rcases hb with rfl | rfl | hb | ⟨hn, ad, e, rfl⟩
  · exact .inr (.inl ⟨_, _, h1.cells⟩)
  · exact .inr (.inr (.inr ⟨_, _, h1.map⟩))
  · obtain ⟨_, cs, h8⟩ := ownE_block h1.row hb
    exact .inr (.inr (.inl ⟨_, _, h8⟩))
  · exact .inl (h7 hn ad e).2
/-- A row of other things that grows leaves an engine as it was. -/
theorem EnB.grown {w w' : World} {base top ge : Nat} {p : Prod} {l : List Ev} {b2 sz n : Nat} {t : TypeId} {v : Value} {xs : List Value} (h : EnB w base top ge p l) (ho : w.ownsRow b2 t sz v n xs) (hb : top ≤ b2)
    (h1 : t ≠ 60) (h2 : t ≠ 39) (hg : w.grownBy w' v.ownBlock) : EnB w' base top ge p l :=
  h.rows fun k hk hc => hg.block k hk fun e => by
    obtain ⟨hlt, cs', h4⟩ := ownE_block ho e.symm
    have hbk : b2 ≤ k := by
      rcases ho.2 with ⟨rfl, _⟩ | ⟨g', cap, cur, rfl, hb', hc', _⟩
      · cases e
      · injection e with e
        subst e
        exact hb'
    rcases hc with h5 | ⟨cs, fr, h5⟩ | ⟨cs, fr, h5⟩ | ⟨es, m, h5⟩
    · omega
    · rw [h4] at h5; injection h5 with h5; injection h5 with _ h5; exact h1 h5
    · rw [h4] at h5; injection h5 with h5; injection h5 with _ h5; exact h2 h5
    · rw [h4] at h5; injection h5 with h5; cases h5
theorem bcode_ok (e : Ev) : bcode e = 0 ↔ e.Ok := by
  unfold bcode
  refine ⟨fun h => ?_, fun h => ?_⟩
  · split at h
    · cases h
    · split at h
      · cases h
      · split at h
        · assumption
        · cases h
  · rw [if_neg (by rw [h.loan]; simp), if_neg (by have := h.day0; have := h.day1; omega), if_pos h]
theorem addAns_ok {l : List Ev} {e : Ev} (h : addAns l e = 0) : e.Ok ∧ l.length < 4096 ∧ addBad l e = false := by
  unfold addAns at h
  split at h
  · rename_i h1; exact absurd h h1
  · rename_i h1
    split at h
    · cases h
    · split at h
      · cases h
      · rename_i h2 h3
        exact ⟨(bcode_ok e).1 (by simpa using h1), by omega, by simpa using h3⟩
/-- The events behind an Add. -/
noncomputable def addTo (l : List Ev) (e : Ev) : List Ev := if addAns l e = 0 then l ++ [e] else l
theorem rising_snoc {l : List Ev} (hr : Rising l) {e : Ev} (h : ∀ x, l.getLast? = some x → x.seq < e.seq) : Rising (l ++ [e]) := by
  unfold Rising at *
  rw [List.pairwise_append]
  refine ⟨hr, List.pairwise_singleton _ _, fun a ha b hb => ?_⟩
  obtain rfl : b = e := by simpa using hb
  have hne : l ≠ [] := fun h => by rw [h] at ha; cases ha
  have hl := h (l.getLast hne) (List.getLast?_eq_some_getLast hne)
  obtain ⟨i, hi, rfl⟩ := List.getElem_of_mem ha
  rw [List.getLast_eq_getElem] at hl
  rcases Nat.lt_or_ge i (l.length - 1) with h1 | h1
  · have := (List.pairwise_iff_getElem.1 hr) i (l.length - 1) hi (by omega) h1
    omega
  · obtain rfl : i = l.length - 1 := by omega
    exact hl
theorem addBad_last {l : List Ev} {e : Ev} (h : addBad l e = false) : ∀ x, l.getLast? = some x → x.seq < e.seq := fun x hx => by
  unfold addBad lastOf at h
  rw [hx] at h
  simp only [Option.getD_some, Bool.or_eq_false_iff, decide_eq_false_iff_not] at h
  omega
theorem EvsIn.add {p : Prod} {l : List Ev} (h : EvsIn p l) (e : Ev) : EvsIn p (addTo l e) := by
  unfold addTo
  by_cases ha : addAns l e = 0
  · rw [if_pos ha]
    obtain ⟨h1, h2, h3⟩ := addAns_ok ha
    refine ⟨h.prod, rising_snoc h.rise (addBad_last h3), fun x hx => ?_, by rw [List.length_append, List.length_singleton]; omega⟩
    rcases List.mem_append.1 hx with hx | hx
    · exact h.ok x hx
    · obtain rfl : x = e := by simpa using hx
      exact h1
  · rw [if_neg ha]
    exact h
theorem Add_b {w : World} {base top ge : Nat} {p : Prod} {l : List Ev} (h : EnB w base top ge p l) (e : Ev) (hs : base ≤ w.heap.size) :
    Calls Tryz.prog 9 #[.pointer (some ⟨ge, 0, none⟩), e.val] w fun x w' => x = .returned (.int .i64 (addAns l e)) ∧ EK base w w' ∧ EnB w' base top ge p (addTo l e) := by
  obtain ⟨gm, A, n, c, v, M, h1, h2, h3, h4, h5, h6, h7⟩ := h.ex
  refine (Add_any ge gm p A n c v l M e w h1 (by have := h.evs.len; omega)).mono fun x w' ⟨hx, hbad, hok⟩ => ⟨hx, ?_⟩
  have hev := h.evs.add e
  by_cases ha : addAns l e = 0
  · obtain ⟨v', hen, hk, hv⟩ := hok ha
    rw [show addTo l e = l ++ [e] by unfold addTo; rw [if_pos ha]] at hev ⊢
    obtain ⟨p1, p2⟩ := h2.snoc h3 e
    exact ⟨EK.keeps h1 h4 h6 hk, hev, gm, A, n, c, v', M, hen, p1, p2, h4, h5, (fun k hk2 => (hv k hk2).elim (h6 k) (fun h => by omega)), h7⟩
  · have hb := hbad ha
    rw [show addTo l e = l by unfold addTo; rw [if_neg ha]]
    exact ⟨EK.of_below hb, h.below hb⟩
theorem AsOf_b {w : World} {base top ge : Nat} {p : Prod} {l : List Ev} (h : EnB w base top ge p l) (d b : Int) :
    Calls Tryz.prog 13 #[.pointer (some ⟨ge, 0, none⟩), .int .i64 d, .int .i64 b] w fun x w' => x = .returned (.tuple #[(replayAns p (knownOf l b) d).1.val, .int .i64 (replayAns p (knownOf l b) d).2]) ∧ EK base w w' ∧ EnB w' base top ge p l := by
  obtain ⟨gm, A, n, c, v, M, h1, h2, h3, h4, h5, h6, h7⟩ := h.ex
  exact (AsOf_any ge gm p A n c v l M d b w h1 h.evs h2 h3).mono fun x w' ⟨hx, hk, M', m1, m2, m3⟩ => ⟨hx, EK.kept h1 h5 hk, h.evs, gm, A, n, c, v, M', m1, m2, m3, h4, h5, h6, h7⟩
theorem At_b {w : World} {base top ge : Nat} {p : Prod} {l : List Ev} (h : EnB w base top ge p l) (d : Int) :
    Calls Tryz.prog 11 #[.pointer (some ⟨ge, 0, none⟩), .int .i64 d] w fun x w' => x = .returned (.tuple #[(replayAns p (knownOf l (lastSeq l)) d).1.val, .int .i64 (replayAns p (knownOf l (lastSeq l)) d).2]) ∧ EK base w w' ∧ EnB w' base top ge p l := by
  obtain ⟨gm, A, n, c, v, M, h1, h2, h3, h4, h5, h6, h7⟩ := h.ex
  exact (At_any ge gm p A n c v l M d w h1 h.evs h2 h3).mono fun x w' ⟨hx, hk, M', m1, m2, m3⟩ => ⟨hx, EK.kept h1 h5 hk, h.evs, gm, A, n, c, v, M', m1, m2, m3, h4, h5, h6, h7⟩
theorem Events_b {w : World} {base top ge : Nat} {p : Prod} {l : List Ev} (h : EnB w base top ge p l) :
    Calls Tryz.prog 15 #[.pointer (some ⟨ge, 0, none⟩)] w fun x w' => ∃ E c, x = .returned (.slice E l.length c) ∧ w'.ownsRow w.heap.size 39 6 (.slice E l.length c) l.length (flatE l) ∧ Below w.heap.size w w' := by
  obtain ⟨gm, A, n, c, v, M, h1, h2, h3, h4, h5, h6, h7⟩ := h.ex
  refine (Events_any ge gm p A n c v l M w h1 (by have := h.evs.len; omega)).mono fun x w' ⟨u, hx, ho, hb⟩ => ?_
  obtain ⟨E, c2, rfl⟩ := own_slice ho
  exact ⟨E, c2, hx, ho, hb⟩
theorem New_b (p : Prod) (A : Option Addr) (n c : Nat) (w : World) (hA : RdI w A n p.bounds) (hn : n ≤ 17592186044416) :
    Calls Tryz.prog 6 #[p.val (.slice A n c)] w fun x w' => Below w.heap.size w w' ∧ (¬ p.Ok ∧ x = .returned (.tuple #[.pointer none, .int .i64 50]) ∨
      p.Ok ∧ ∃ ge, x = .returned (.tuple #[.pointer (some ⟨ge, 0, none⟩), .int .i64 0]) ∧ EnB w' w.heap.size w'.heap.size ge p []) := by
  refine (New_any p A n c w hA hn).mono fun x w' ⟨hb, h⟩ => ⟨hb, h.imp id ?_⟩
  rintro ⟨ok, ge, gm, A', c', hx, hen, h1, h2, h3⟩
  exact ⟨ok, ge, hx, EvsIn.nil ok, gm, A', n, c', _, [], hen, PtsOk.nil _ _, PtsIn.nil _, h1, h2, (fun k hk => by cases hk), fun h0 ad hA' => ⟨h3 ad hA', rdI_lt hen.bnds h0 ad hA'⟩⟩
end Go.Proofs.YtcbopgopegphlaaGreat
