/-
  An engine and the reference's beside it. No statement is proved here.
-/
import Derived.Test.YtcbopgopegphlaaGreatEnZB
import Derived.Test.YtcbopgopegphlaaGreatAcM
namespace Go.Proofs.YtcbopgopegphlaaGreat
open Go.RowKit
set_option linter.unusedVariables false
theorem RefAt.on {w w' : World} {gr : Nat} {p : Prod} {B : Value} {E : Option Addr} {n c : Nat} {l : List Ev} (h : RefAt w gr p B E n c l) (hk : ∀ k, (k = gr ∨ ∃ a, E = some a ∧ a.block = k) → w'.heap[k]? = w.heap[k]?) : RefAt w' gr p B E n c l :=
  ⟨(hk gr (.inl rfl)).trans h.cells, rdE_keep h.row fun _ ad e => hk _ (.inr ⟨ad, e, rfl⟩)⟩
theorem SameLoan.nil : SameLoan [] := fun x hx => by cases hx
theorem SameLoan.add {l : List Ev} (h : SameLoan l) (e : Ev) : SameLoan (addTo l e) := by
  unfold addTo
  by_cases ha : addAns l e = 0
  · rw [if_pos ha]
    have hb := (addAns_ok ha).2.2
    unfold addBad lastOf at hb
    simp only [Bool.or_eq_false_iff, decide_eq_false_iff_not, Decidable.not_not] at hb
    have hl := hb.2.1
    have hx : ∀ x ∈ l, x.loan = e.loan := fun x hx => by
      cases hg : l.getLast? with
      | none => have : l = [] := by simpa using hg
                rw [this] at hx; cases hx
      | some z =>
        rw [hg] at hl
        simp only [Option.getD_some] at hl
        rw [hl]
        exact h x hx z (List.mem_of_getLast? hg)
    intro x hx1 y hy1
    rcases List.mem_append.1 hx1 with h1 | h1
    · rcases List.mem_append.1 hy1 with h2 | h2
      · exact h x h1 y h2
      · obtain rfl : y = e := by simpa using h2
        exact hx x h1
    · obtain rfl : x = e := by simpa using h1
      rcases List.mem_append.1 hy1 with h2 | h2
      · exact (hx y h2).symm
      · obtain rfl : y = x := by simpa using h2
        rfl
  · rw [if_neg ha]
    exact h
theorem EvsIn.seqs {p : Prod} {l : List Ev} (h : EvsIn p l) : ∀ e ∈ l, e.seq ≤ lastSeq l := fun e he => by
  have hne : l ≠ [] := fun h0 => by rw [h0] at he; cases he
  have hl : lastSeq l = (l.getLast hne).seq := by unfold lastSeq; rw [List.getLast?_eq_some_getLast hne]; rfl
  rw [hl]
  obtain ⟨i, hi, rfl⟩ := List.getElem_of_mem he
  rw [List.getLast_eq_getElem]
  rcases Nat.lt_or_ge i (l.length - 1) with h1 | h1
  · have := (List.pairwise_iff_getElem.1 h.rise) i (l.length - 1) hi (by omega) h1
    omega
  · have : i = l.length - 1 := by omega
    subst this
    exact Int.le_refl _
theorem known_at {p : Prod} {l : List Ev} (h : EvsIn p l) : knownOf l 4611686018427387904 = knownOf l (lastSeq l) :=
  known_all (fun e he => by have := (h.ok e he).seq1; omega) h.seqs
theorem EvsIn.sizes {p : Prod} {l : List Ev} (h : EvsIn p l) : ∀ e ∈ l, e.loan.size ≤ 9223372036854775806 := fun e he => by
  have h1 := (h.ok e he).loan
  unfold nameOk at h1
  simp at h1
  omega
/-- All but engines and events is as it was. -/
def KeepT (W W' : World) : Prop := ∀ (g : Nat) (cs : Array Value) (t : TypeId) (fr : Nat × Nat), W.heap[g]? = some (.cells cs t fr) → t ≠ 60 → t ≠ 39 → t ≠ 37 → W'.heap[g]? = W.heap[g]?
theorem KeepT.below {W W' : World} (h : Below W.heap.size W W') : KeepT W W' := fun g cs t fr h1 _ _ _ => h.block g (Array.getElem?_eq_some_iff.1 h1).1
theorem KeepT.ek {W W' : World} {base : Nat} (h : EK base W W') : KeepT W W' := fun g cs t fr h1 h2 h3 _ => h.rows g cs t fr h1 h2 h3
theorem KeepT.but {W W' : World} {gr : Nat} {cs0 : Array Value} {fr0 : Nat × Nat} (hr : W.heap[gr]? = some (.cells cs0 37 fr0)) (h : KeptBut gr W W') : KeepT W W' := fun g cs t fr h1 _ _ h4 => h.block g (Array.getElem?_eq_some_iff.1 h1).1 (fun e => by
  rw [e, hr] at h1
  injection h1 with h1
  injection h1 with _ h1
  exact h4 h1.symm)
/-- The two of them. -/
structure Two (w0 : World) (B base top ge gr : Nat) (p : Prod) (A : Option Addr) (n c : Nat) (l1 l2 : List Ev) (W : World) : Prop where
  e1 : EvsIn p l1
  e2 : EvsIn p l2
  s2 : SameLoan l2
  low : Below B w0 W
  hB : B ≤ base
  bt : base ≤ top
  tg : top ≤ gr
  rd : RdI w0 A n p.bounds
  lt : 0 < n → ∀ ad, A = some ad → ad.block < B
  ex : ∃ gm A' c' v M E m ce, EngAt W ge gm p A' n c' v l1 M ∧ PtsOk p l1 M ∧ PtsIn l1.length M ∧ RefAt W gr p (.slice A n c) E m ce l2 ∧ (gr ≠ ge ∧ gr ≠ gm ∧ v.ownBlock ≠ some gr) ∧
    (∀ a, E = some a → a.block ≠ ge ∧ a.block ≠ gm ∧ v.ownBlock ≠ some a.block ∧ a.block ≠ gr ∧ a.block < W.heap.size) ∧ base ≤ ge ∧ base ≤ gm ∧ (∀ k, v.ownBlock = some k → base ≤ k) ∧ (0 < n → ∀ ad, A' = some ad → base ≤ ad.block ∧ ad.block < top) ∧ base ≤ W.heap.size
section
variable {w0 W W' : World} {B base top ge gr : Nat} {p : Prod} {A : Option Addr} {n c : Nat} {l1 l2 : List Ev}
theorem Two.size (h : Two w0 B base top ge gr p A n c l1 l2 W) : base ≤ W.heap.size := by
  obtain ⟨gm, A', c', v, M, E, m, ce, _, _, _, _, _, _, _, _, _, _, hs⟩ := h.ex
  exact hs
theorem Two.bnds (h : Two w0 B base top ge gr p A n c l1 l2 W) : RdI W A n p.bounds := rdI_keep h.rd fun hn ad e => h.low.block _ (h.lt hn ad e)
theorem Two.keep (h : Two w0 B base top ge gr p A n c l1 l2 W) (hb : ∀ k, k < W.heap.size → W'.heap[k]? = W.heap[k]?) (hl : Below B w0 W') (hsz : W.heap.size ≤ W'.heap.size) : Two w0 B base top ge gr p A n c l1 l2 W' := by
  obtain ⟨gm, A', c', v, M, E, m, ce, h1, h2, h3, h4, h5, h6, h7, h8, h9, h10, h11⟩ := h.ex
  have hgr : gr < W.heap.size := (Array.getElem?_eq_some_iff.1 h4.cells).1
  exact ⟨h.e1, h.e2, h.s2, hl, h.hB, h.bt, h.tg, h.rd, h.lt, gm, A', c', v, M, E, m, ce, h1.keep hb, h2, h3, h4.on (fun k hk => hb k (by
    rcases hk with rfl | ⟨a, ha, rfl⟩
    · exact hgr
    · exact (h6 a ha).2.2.2.2)), h5, (fun a ha => by obtain ⟨k1, k2, k3, k4, k5⟩ := h6 a ha; exact ⟨k1, k2, k3, k4, by omega⟩), h7, h8, h9, h10, by omega⟩
theorem Two.below (h : Two w0 B base top ge gr p A n c l1 l2 W) (hb : Below W.heap.size W W') : Two w0 B base top ge gr p A n c l1 l2 W' :=
  h.keep hb.block (h.low.trans (hb.mono (by have := h.hB; have := h.size; omega))) hb.size
theorem Two.add (h : Two w0 B base top ge gr p A n c l1 l2 W) (e : Ev) :
    Calls Tryz.prog 9 #[.pointer (some ⟨ge, 0, none⟩), e.val] W fun x W' => x = .returned (.int .i64 (addAns l1 e)) ∧ Two w0 B base top ge gr p A n c (addTo l1 e) l2 W' ∧ KeepT W W' := by
  obtain ⟨gm, A', c', v, M, E, m, ce, h1, h2, h3, h4, h5, h6, h7, h8, h9, h10, h11⟩ := h.ex
  have hgr : gr < W.heap.size := (Array.getElem?_eq_some_iff.1 h4.cells).1
  refine (Add_any ge gm p A' n c' v l1 M e W h1 (by have := h.e1.len; omega)).mono fun x W' ⟨hx, hbad, hok⟩ => ⟨hx, (?_ : Two w0 B base top ge gr p A n c (addTo l1 e) l2 W' ∧ KeepT W W')⟩
  have hev := h.e1.add e
  by_cases ha : addAns l1 e = 0
  · obtain ⟨v', hen, hk, hv⟩ := hok ha
    have hsz := hk.size
    rw [show addTo l1 e = l1 ++ [e] by unfold addTo; rw [if_pos ha]] at hev ⊢
    obtain ⟨p1, p2⟩ := h2.snoc h3 e
    have hsep : ∀ k, k < W.heap.size → v.ownBlock ≠ some k → v'.ownBlock ≠ some k := fun k k1 k2 k3 => (hv k k3).elim k2 (fun h => by omega)
    refine ⟨?_, KeepT.ek (EK.keeps h1 h7 h9 hk)⟩
    refine ⟨hev, h.e2, h.s2, ⟨hk.os.trans h.low.os, hk.tape.trans h.low.tape, hk.output.trans h.low.output, Nat.le_trans h.low.size hsz, fun k k1 => (hk.block k (by have := h.hB; omega) (by have := h.hB; omega) (fun e => by have := h9 k e; have := h.hB; omega)).trans (h.low.block k k1)⟩, h.hB, h.bt, h.tg, h.rd, h.lt, gm, A', c', v', M, E, m, ce, hen, p1, p2, h4.on (fun k hk2 => ?_), ⟨h5.1, h5.2.1, hsep gr hgr h5.2.2⟩, (fun a ha => ?_), h7, h8, (fun k hk2 => (hv k hk2).elim (h9 k) (fun h => by omega)), h10, by omega⟩
    · rcases hk2 with rfl | ⟨a, ha, rfl⟩
      · exact hk.block k hgr h5.1 h5.2.2
      · obtain ⟨k1, k2, k3, k4, k5⟩ := h6 a ha
        exact hk.block _ k5 k1 k3
    · obtain ⟨k1, k2, k3, k4, k5⟩ := h6 a ha
      exact ⟨k1, k2, hsep _ k5 k3, k4, by omega⟩
  · have hb := hbad ha
    rw [show addTo l1 e = l1 by unfold addTo; rw [if_neg ha]]
    exact ⟨h.below hb, KeepT.below hb⟩
theorem Two.rAdd (h : Two w0 B base top ge gr p A n c l1 l2 W) (e : Ev) (hs : e.loan.size ≤ 9223372036854775806) :
    Calls Tryz.prog 10 #[.pointer (some ⟨gr, 0, none⟩), e.val] W fun x W' => x = .returned (.int .i64 (addAns l2 e)) ∧ Two w0 B base top ge gr p A n c l1 (addTo l2 e) W' ∧ KeepT W W' := by
  obtain ⟨gm, A', c', v, M, E, m, ce, h1, h2, h3, h4, h5, h6, h7, h8, h9, h10, h11⟩ := h.ex
  have hgr : gr < W.heap.size := (Array.getElem?_eq_some_iff.1 h4.cells).1
  have hm : m ≤ 4096 := by have := h4.row.1; have := h.e2.len; omega
  refine (rAdd_any gr p (.slice A n c) E m ce l2 e W h4 hm h.s2 hs).mono fun x W' ⟨hx, hbad, hok⟩ => ⟨hx, (?_ : Two w0 B base top ge gr p A n c l1 (addTo l2 e) W' ∧ KeepT W W')⟩
  have hev := h.e2.add e
  have hsl := h.s2.add e
  by_cases ha : addAns l2 e = 0
  · obtain ⟨E', m', ce', hR, hle, hk, hE'⟩ := hok ha
    have hsz := hk.size
    rw [show addTo l2 e = l2 ++ [e] by unfold addTo; rw [if_pos ha]] at hev hsl ⊢
    have hm' : 0 < m' := by have := hR.row.1; simp at this; omega
    have htg := h.tg
    have hbt := h.bt
    have hBb := h.hB
    refine ⟨?_, KeepT.but h4.cells hk⟩
    refine ⟨h.e1, hev, hsl, ⟨hk.os.trans h.low.os, hk.tape.trans h.low.tape, hk.output.trans h.low.output, Nat.le_trans h.low.size hsz, fun k k1 => (hk.block k (by omega) (by omega)).trans (h.low.block k k1)⟩, h.hB, h.bt, h.tg, h.rd, h.lt, gm, A', c', v, M, E', m', ce', h1.on (fun k hk2 => hk.block k (h1.lt hk2) (fun e => ?_)), h2, h3, hR, h5, (fun a ha => ?_), h7, h8, h9, h10, by omega⟩
    · subst e
      rcases hk2 with e | e | e | ⟨hn, ad, e, e2⟩
      · exact h5.1 e
      · exact h5.2.1 e
      · exact h5.2.2 e
      · have := (h10 hn ad e).2; omega
    · have k1 := hE' a ha
      have hge := h1.lt (.inl rfl)
      have hgm := h1.lt (.inr (.inl rfl))
      exact ⟨by omega, by omega, fun e => by have := h1.lt (.inr (.inr (.inl e))); omega, by omega, rdE_lt hR.row hm' a ha⟩
  · have hb := hbad ha
    rw [show addTo l2 e = l2 by unfold addTo; rw [if_neg ha]]
    exact ⟨h.below hb, KeepT.below hb⟩
theorem Two.kept (h : Two w0 B base top ge gr p A n c l1 l2 W) {gm : Nat} {A' : Option Addr} {c' : Nat} {v : Value} {M M' : List ((Int × Int) × Ln)} {E : Option Addr} {m ce : Nat}
    (h4 : RefAt W gr p (.slice A n c) E m ce l2) (h5 : gr ≠ ge ∧ gr ≠ gm ∧ v.ownBlock ≠ some gr) (h6 : ∀ a, E = some a → a.block ≠ ge ∧ a.block ≠ gm ∧ v.ownBlock ≠ some a.block ∧ a.block ≠ gr ∧ a.block < W.heap.size) (h7 : base ≤ ge) (h8 : base ≤ gm) (h9 : ∀ k, v.ownBlock = some k → base ≤ k) (h10 : 0 < n → ∀ ad, A' = some ad → base ≤ ad.block ∧ ad.block < top) (h11 : base ≤ W.heap.size)
    (hk : KeptBut gm W W') (m1 : EngAt W' ge gm p A' n c' v l1 M') (m2 : PtsOk p l1 M') (m3 : PtsIn l1.length M') : Two w0 B base top ge gr p A n c l1 l2 W' := by
  have hgr : gr < W.heap.size := (Array.getElem?_eq_some_iff.1 h4.cells).1
  have hsz := hk.size
  have hBb := h.hB
  refine ⟨h.e1, h.e2, h.s2, ⟨hk.os.trans h.low.os, hk.tape.trans h.low.tape, hk.output.trans h.low.output, Nat.le_trans h.low.size hsz, fun k k1 => (hk.block k (by omega) (by omega)).trans (h.low.block k k1)⟩, h.hB, h.bt, h.tg, h.rd, h.lt, gm, A', c', v, M', E, m, ce, m1, m2, m3, h4.on (fun k hk2 => ?_), h5, (fun a ha => ?_), h7, h8, h9, h10, by omega⟩
  · rcases hk2 with rfl | ⟨a, ha, rfl⟩
    · exact hk.block k hgr h5.2.1
    · obtain ⟨k1, k2, k3, k4, k5⟩ := h6 a ha
      exact hk.block _ k5 k2
  · obtain ⟨k1, k2, k3, k4, k5⟩ := h6 a ha
    exact ⟨k1, k2, k3, k4, by omega⟩
theorem Two.at_ (h : Two w0 B base top ge gr p A n c l1 l2 W) (d : Int) :
    Calls Tryz.prog 11 #[.pointer (some ⟨ge, 0, none⟩), .int .i64 d] W fun x W' => x = .returned (.tuple #[(replayAns p (knownOf l1 (lastSeq l1)) d).1.val, .int .i64 (replayAns p (knownOf l1 (lastSeq l1)) d).2]) ∧ Two w0 B base top ge gr p A n c l1 l2 W' ∧ KeepT W W' := by
  obtain ⟨gm, A', c', v, M, E, m, ce, h1, h2, h3, h4, h5, h6, h7, h8, h9, h10, h11⟩ := h.ex
  exact (At_any ge gm p A' n c' v l1 M d W h1 h.e1 h2 h3).mono fun x W' ⟨hx, hk, M', m1, m2, m3⟩ => ⟨hx, h.kept (M := M) h4 h5 h6 h7 h8 h9 h10 h11 hk m1 m2 m3, KeepT.ek (EK.kept h1 h8 hk)⟩
theorem Two.asof (h : Two w0 B base top ge gr p A n c l1 l2 W) (d b : Int) :
    Calls Tryz.prog 13 #[.pointer (some ⟨ge, 0, none⟩), .int .i64 d, .int .i64 b] W fun x W' => x = .returned (.tuple #[(replayAns p (knownOf l1 b) d).1.val, .int .i64 (replayAns p (knownOf l1 b) d).2]) ∧ Two w0 B base top ge gr p A n c l1 l2 W' ∧ KeepT W W' := by
  obtain ⟨gm, A', c', v, M, E, m, ce, h1, h2, h3, h4, h5, h6, h7, h8, h9, h10, h11⟩ := h.ex
  exact (AsOf_any ge gm p A' n c' v l1 M d b W h1 h.e1 h2 h3).mono fun x W' ⟨hx, hk, M', m1, m2, m3⟩ => ⟨hx, h.kept (M := M) h4 h5 h6 h7 h8 h9 h10 h11 hk m1 m2 m3, KeepT.ek (EK.kept h1 h8 hk)⟩
theorem Two.rAsof (h : Two w0 B base top ge gr p A n c l1 l2 W) (hs : p.name.size ≤ 9223372036854775806) (hn : n ≤ 9223372036854775806) (d b : Int) :
    Calls Tryz.prog 12 #[.pointer (some ⟨gr, 0, none⟩), .int .i64 d, .int .i64 b] W fun x W' => x = .returned (.tuple #[(replayAns p (knownOf l2 b) d).1.val, .int .i64 (replayAns p (knownOf l2 b) d).2]) ∧ Below W.heap.size W W' := by
  obtain ⟨gm, A', c', v, M, E, m, ce, h1, h2, h3, h4, h5, h6, h7, h8, h9, h10, h11⟩ := h.ex
  have hm : m ≤ 4096 := by have := h4.row.1; have := h.e2.len; omega
  exact rAsOf_any gr p A n c E m ce l2 d b W h4 h.bnds hs hn hm h.e2.sizes h.e2.rise
theorem Two.events (h : Two w0 B base top ge gr p A n c l1 l2 W) :
    Calls Tryz.prog 15 #[.pointer (some ⟨ge, 0, none⟩)] W fun x w' => ∃ E c, x = .returned (.slice E l1.length c) ∧ w'.ownsRow W.heap.size 39 6 (.slice E l1.length c) l1.length (flatE l1) ∧ Below W.heap.size W w' := by
  obtain ⟨gm, A', c', v, M, E, m, ce, h1, h2, h3, h4, h5, h6, h7, h8, h9, h10, h11⟩ := h.ex
  refine (Events_any ge gm p A' n c' v l1 M W h1 (by have := h.e1.len; omega)).mono fun x w' ⟨u, hx, ho, hb⟩ => ?_
  obtain ⟨E, c2, rfl⟩ := own_slice ho
  exact ⟨E, c2, hx, ho, hb⟩
theorem Two.rRow (h : Two w0 B base top ge gr p A n c l1 l2 W) : ∃ E m ce, W.cell? ⟨gr, 9, none⟩ = some (.slice E m ce) ∧ RdE W E m l2 := by
  obtain ⟨gm, A', c', v, M, E, m, ce, h1, h2, h3, h4, _⟩ := h.ex
  exact ⟨E, m, ce, cell_r9 h4.cells, h4.row⟩
/-- The two begin. -/
theorem Two.start {W W2 : World} {ge : Nat} (h : EnB W base top ge p []) (hA : RdI w0 A n p.bounds) (hlt : 0 < n → ∀ ad, A = some ad → ad.block < B) (hlow : Below B w0 W2) (hB : B ≤ base) (hbt : base ≤ top) (htg : top ≤ gr) (hb : Below W.heap.size W W2) (hr : W2.heap[gr]? = some (.cells (rCells p (.slice A n c) (.slice none 0 0)) 37 (0, 0))) (hgr : W.heap.size ≤ gr) (hbs : base ≤ W.heap.size) : Two w0 B base top ge gr p A n c [] [] W2 := by
  obtain ⟨gm, A', n', c', v, M, h1, h2, h3, h4, h5, h6, h7⟩ : ∃ gm A' n' c' v M, EngAt W ge gm p A' n' c' v [] M ∧ PtsOk p [] M ∧ PtsIn 0 M ∧ base ≤ ge ∧ base ≤ gm ∧ (∀ k, v.ownBlock = some k → base ≤ k) ∧ (0 < n' → ∀ ad, A' = some ad → base ≤ ad.block ∧ ad.block < top) := h.ex
  have hn : n' = n := by have := h1.bnds.len; have := hA.len; omega
  subst hn
  have hge := h1.lt (.inl rfl)
  have hgm := h1.lt (.inr (.inl rfl))
  exact ⟨h.evs, h.evs, SameLoan.nil, hlow, hB, hbt, htg, hA, hlt, gm, A', c', v, M, none, 0, 0, h1.below hb, h2, h3, ⟨hr, rfl, fun h => absurd h (by omega)⟩, ⟨by omega, by omega, fun e => by have := h1.lt (.inr (.inr (.inl e))); omega⟩, (fun a ha => by cases ha), h4, h5, h6, h7, by have := hb.size; omega⟩
end
theorem built_re (p : Prod) (B : Value) : Tryz.prog.built 37 [(0, .agg (pCells p B))] = some (rCells p B (.slice none 0 0)) := by kernel_rfl
end Go.Proofs.YtcbopgopegphlaaGreat
