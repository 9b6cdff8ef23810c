/-
  The two journals beside each other. No statement is proved here.
-/
import Derived.Test.YtpmbbhefcejjlaaLedO
import Derived.Test.YtpmbbhefcejjlaaLedVB
namespace Go.Proofs.Ytpmbbhefcejjlaa
open Go.RowKit
set_option linter.unusedVariables false

/-- The two journals; F: blocks that are neither's. -/
structure Tw (w : World) (g h base : Nat) (F : Nat → Prop) (ps ps' : List PV) (cl : Int) : Prop where
  ex : ∃ v qs v' qs', Jn w g base v qs cl ∧ pvs qs = ps ∧ RJ w h base v' qs' cl ∧ pvs qs' = ps' ∧ (∀ k, (k = g ∨ Blk v qs k) → ¬ (k = h ∨ Blk v' qs' k) ∧ ¬ F k) ∧ ∀ k, (k = h ∨ Blk v' qs' k) → ¬ F k
  len : ps.length ≤ 65536
  len' : ps'.length ≤ 65536
  lines : ∀ p ∈ ps, p.lines.length ≤ 7
  lines' : ∀ p ∈ ps', p.lines.length ≤ 7
  cls : -719163 ≤ cl ∧ cl ≤ 2932896
  bs : base ≤ w.heap.size
section
variable {w w' : World} {g h base : Nat} {F F' : Nat → Prop} {ps ps' : List PV} {cl : Int}
theorem Tw.keep (hT : Tw w g h base F ps ps' cl) (hk : ∀ k, k < w.heap.size → base ≤ k → ¬ F k → w'.heap[k]? = w.heap[k]?) (hs : w.heap.size ≤ w'.heap.size) : Tw w' g h base F ps ps' cl := by
  obtain ⟨v, qs, v', qs', h1, h2, h3, h4, h5, h6⟩ := hT.ex
  exact ⟨⟨v, qs, v', qs', h1.same fun k hb => hk k (h1.lt hb).2 (h1.lt hb).1 (h5 k hb).2, h2, h3.same fun k hb => hk k (h3.lt hb).2 (h3.lt hb).1 (h6 k hb), h4, h5, h6⟩, hT.len, hT.len', hT.lines, hT.lines', hT.cls, Nat.le_trans hT.bs hs⟩
theorem Tw.below (hT : Tw w g h base F ps ps' cl) (hb : Below w.heap.size w w') : Tw w' g h base F ps ps' cl := hT.keep (fun k hk _ _ => hb.block k hk) hb.size
theorem Tw.free (hT : Tw w g h base F ps ps' cl) (hF : ∀ k, F' k → F k ∨ w.heap.size ≤ k) : Tw w g h base F' ps ps' cl := by
  obtain ⟨v, qs, v', qs', h1, h2, h3, h4, h5, h6⟩ := hT.ex
  refine ⟨⟨v, qs, v', qs', h1, h2, h3, h4, fun k hk => ⟨(h5 k hk).1, fun hf => ?_⟩, fun k hk hf => ?_⟩, hT.len, hT.len', hT.lines, hT.lines', hT.cls, hT.bs⟩
  · rcases hF k hf with h7 | h7
    · exact (h5 k hk).2 h7
    · have := (h1.lt hk).2; omega
  · rcases hF k hf with h7 | h7
    · exact h6 k hk h7
    · have := (h3.lt hk).2; omega
/-- What lies behind the one's Post. -/
structure TwP (w w' : World) (g h base : Nat) (F : Nat → Prop) (ps ps' : List PV) (cl : Int) (A : Option Addr) (m : Nat) : Prop where
  ex : ∃ F', (∀ k, F k → F' k) ∧ (∀ k, F' k → k < w'.heap.size) ∧ Tw w' g h base F' ps ps' cl ∧ (0 < m → ∃ b, A = some ⟨b, 0, none⟩ ∧ w.heap.size ≤ b ∧ F' b ∧ RowT w' 35 b (m * 2))
  keep : ∀ k, k < w.heap.size → F k → w'.heap[k]? = w.heap[k]?
  below : Below base w w'
def addP (ps : List PV) (r : Option PV) : List PV := match r with | none => ps | some p => ps ++ [p]
theorem addP_lines {ps : List PV} {cl day : Int} {loan : ByteArray} {s t : St} (h : ∀ p ∈ ps, p.lines.length ≤ 7) (hl : ps.length ≤ 65536) : (∀ p ∈ addP ps (postR ps.length cl day loan s t).2, p.lines.length ≤ 7) ∧ (addP ps (postR ps.length cl day loan s t).2).length ≤ 65536 := by
  cases hr : (postR ps.length cl day loan s t).2 with
  | none => exact ⟨h, hl⟩
  | some p =>
    obtain ⟨h3, _, h4⟩ := postR_lines hr
    refine ⟨fun q hq => ?_, by simp [addP]; omega⟩
    rcases List.mem_append.1 hq with h5 | h5
    · exact h q h5
    · obtain rfl := List.mem_singleton.1 h5
      exact h4
theorem Tw.post (hT : Tw w g h base F ps ps' cl) (hF : ∀ k, F k → k < w.heap.size) (s t : St) (day : Int) (loan : ByteArray) :
    Calls Try.prog 19 #[.pointer (some ⟨g, 0, none⟩), .int .i64 day, .string loan, .agg (stCells s), .agg (stCells t)] w fun e w' => ∃ pn pd pl A m c ok er, e = .returned (.tuple #[.agg #[.int .i64 pn, .int .i64 pd, .string pl, .slice A m c], .bool ok, .int .i64 er]) ∧ m ≤ 7 ∧
      TwP w w' g h base F (addP ps (postR ps.length cl day loan s t).2) ps' cl A m := by
  obtain ⟨v, qs, v', qs', h1, h2, h3, h4, h5, h6⟩ := hT.ex
  have e : qs.length = ps.length := by rw [← h2, pvs_len]
  have hP := Post_any s t g base w v qs cl day loan h1 hT.cls (by rw [e]; exact hT.len)
  rw [e] at hP
  obtain ⟨hl1, hl2⟩ := addP_lines (s := s) (t := t) (cl := cl) (day := day) (loan := loan) hT.lines hT.len
  refine hP.mono ?_
  rintro e w' ⟨pn, pd, pl, vl, rfl, k1, k2⟩
  cases hr : (postR ps.length cl day loan s t).2 with
  | none =>
    obtain ⟨hb, rfl, rfl, rfl, rfl⟩ := k1 hr
    rw [hr] at hl1 hl2
    exact ⟨_, _, _, none, 0, 0, _, _, rfl, by omega, ⟨F, fun _ h => h, fun k hk => Nat.lt_of_lt_of_le (hF k hk) hb.size, hT.below hb, fun h => by omega⟩, fun k hk _ => hb.block k hk, hb.mono hT.bs⟩
  | some p =>
    obtain ⟨rfl, rfl, rfl, m, v2, q, rfl, hm, hol, hlt, hJ', hB, hK⟩ := k2 p hr
    rw [hr] at hl1 hl2
    obtain ⟨_, _, hp7⟩ := postR_lines hr
    obtain ⟨A, m2, c, rfl, hm2, _⟩ := hol.form
    have hm2 := hm2.out
    have hlb : ∀ k, (Value.slice A m2 c).ownBlock = some k → w.heap.size ≤ k ∧ k < w'.heap.size := fun k hk => by
      obtain ⟨a1, a2, _⟩ := row_block hol hk
      exact ⟨a1, a2⟩
    have hkeep : ∀ k, k < w.heap.size → ¬ (k = g ∨ Blk v qs k) → w'.heap[k]? = w.heap[k]? := fun k hk hne => hK.block k hk (fun e => hne (e.imp id .inl))
    refine ⟨_, _, _, A, m2, c, _, _, rfl, by omega, ⟨⟨fun k => F k ∨ (Value.slice A m2 c).ownBlock = some k, fun _ h => .inl h, fun k hk => ?_, ?_, fun h0 => ?_⟩, fun k hk hf => hkeep k hk (fun e => (h5 k e).2 hf), ?_⟩⟩
    · rcases hk with hk | hk
      · exact Nat.lt_of_lt_of_le (hF k hk) hK.size
      · exact (hlb k hk).2
    · refine ⟨⟨v2, qs ++ [q], v', qs', hJ', by rw [pvs_snoc, h2]; rfl, h3.same fun k hk => hkeep k (h3.lt hk).2 (fun e => (h5 k e).1 hk), h4, fun k hk => ?_, fun k hk hf => ?_⟩, hl2, hT.len', hl1, hT.lines', hT.cls, Nat.le_trans hT.bs hK.size⟩
      · have hold : (k = g ∨ Blk v qs k) ∨ m ≤ k := by
          rcases hk with hk | hk
          · exact .inl (.inl hk)
          · exact (hB k hk).imp .inr id
        rcases hold with ho | ho
        · refine ⟨(h5 k ho).1, fun hf => ?_⟩
          rcases hf with hf | hf
          · exact (h5 k ho).2 hf
          · have := (h1.lt ho).2
            have := (hlb k hf).1
            omega
        · refine ⟨fun hk3 => by have := (h3.lt hk3).2; omega, fun hf => ?_⟩
          rcases hf with hf | hf
          · have := hF k hf; omega
          · have := hlt k hf; omega
      · rcases hf with hf | hf
        · exact h6 k hk hf
        · have := (h3.lt hk).2
          have := (hlb k hf).1
          omega
    · subst hm2
      obtain ⟨b, e1, e2, _, e4⟩ := own_rowT hol h0
      exact ⟨b, e1, e2, .inr (by rw [e1]; rfl), e4⟩
    · exact ⟨hK.os, hK.tape, hK.output, hK.size, fun k hk => hkeep k (by have := hT.bs; omega) (fun e => by have := (h1.lt e).1; omega)⟩
theorem Tw.rpost (hT : Tw w g h base F ps ps' cl) (hF : ∀ k, F k → k < w.heap.size) (s t : St) (day : Int) (loan : ByteArray) (hls : loan.size ≤ 9223372036854775806) :
    Calls Try.prog 23 #[.pointer (some ⟨h, 0, none⟩), .int .i64 day, .string loan, .agg (stCells s), .agg (stCells t)] w fun e w' => (∃ x, e = .returned x) ∧
      Tw w' g h base F ps (addP ps' (postR ps'.length cl day loan s t).2) cl ∧ (∀ k, k < w.heap.size → F k → w'.heap[k]? = w.heap[k]?) ∧ Below base w w' := by
  obtain ⟨v, qs, v', qs', h1, h2, h3, h4, h5, h6⟩ := hT.ex
  have e : qs'.length = ps'.length := by rw [← h4, pvs_len]
  have hP := rPost_any s t h base w v' qs' cl day loan h3 hT.cls (by rw [e]; exact hT.len') hls
  rw [e] at hP
  obtain ⟨hl1, hl2⟩ := addP_lines (s := s) (t := t) (cl := cl) (day := day) (loan := loan) hT.lines' hT.len'
  refine hP.mono ?_
  rintro e w' ⟨hx, hR⟩
  refine ⟨hx, ?_⟩
  cases hr : (postR ps'.length cl day loan s t).2 with
  | none =>
    rw [hr] at hR
    obtain ⟨_, hb⟩ := hR
    exact ⟨hT.below hb, fun k hk _ => hb.block k hk, hb.mono hT.bs⟩
  | some p =>
    rw [hr] at hR hl1 hl2
    obtain ⟨v2, q, rfl, hJ', hK, hB⟩ := hR
    refine ⟨⟨⟨v, qs, v2, qs' ++ [q], h1.same fun k hk => hK.block k (h1.lt hk).2 (fun e => (h5 k hk).1 (.inl e)), h2, hJ', by rw [pvs_snoc, h4]; rfl, fun k hk => ⟨fun hk2 => ?_, (h5 k hk).2⟩, fun k hk hf => ?_⟩, hT.len, hl2, hT.lines, hl1, hT.cls, Nat.le_trans hT.bs hK.size⟩, fun k hk hf => hK.block k hk (fun e => h6 k (.inl e) hf), ⟨hK.os, hK.tape, hK.output, hK.size, fun k hk => hK.block k (by have := hT.bs; omega) (fun e => by have := h3.low; omega)⟩⟩
    · rcases hk2 with hk2 | hk2
      · exact (h5 k hk).1 (.inl hk2)
      · rcases hB k hk2 with h7 | h7
        · exact (h5 k hk).1 (.inr h7)
        · have := (h1.lt hk).2; omega
    · rcases hk with hk | hk
      · exact h6 k (.inl hk) hf
      · rcases hB k hk with h7 | h7
        · exact h6 k (.inr h7) hf
        · have := hF k hf; omega
theorem Tw.jw (hT : Tw w g h base F ps ps' cl) : JW w g base 0 0 ps cl := by
  obtain ⟨v, qs, v', qs', h1, h2, h3, h4, h5, h6⟩ := hT.ex
  exact ⟨⟨v, qs, h1, h2, fun k _ => by omega⟩, hT.len, hT.lines, hT.cls⟩
/-- Postings of one's own, as a slice that reads. -/
def LJ (w : World) (base : Nat) (ps : List PV) (u : Value) : Prop := ∃ A c qs, u = .slice A qs.length c ∧ OwnJ w base (.slice A qs.length c) qs ∧ pvs qs = ps
theorem LJ.below {u : Value} (hl : LJ w base ps u) (hb : Below w.heap.size w w') : LJ w' base ps u := by
  obtain ⟨A, c, qs, h1, h2, h3⟩ := hl
  exact ⟨A, c, qs, h1, h2.below hb, h3⟩
theorem LJ.of {v : Value} {qs : List PR} (ho : OwnJ w base v qs) : LJ w base (pvs qs) v := by
  obtain ⟨A, c, rfl, _⟩ := ho.form
  exact ⟨A, c, qs, rfl, ho, rfl⟩
theorem LJ.rd {u : Value} (hl : LJ w base ps u) : ∃ A c, u = .slice A ps.length c ∧ RdP w A ps.length ps := by
  obtain ⟨A, c, qs, h1, h2, h3⟩ := hl
  obtain ⟨A', c', h4, _, h5, _⟩ := h2.form
  injection h4 with h4 _ h6
  subst h4 h6
  have e : qs.length = ps.length := by rw [← h3, pvs_len]
  rw [h3, e] at h5
  rw [e] at h1
  exact ⟨A, c, h1, h5⟩
/-- Lines that read. -/
def LL (w : World) (ls : List (Int × Int)) (u : Value) : Prop := ∃ A c, u = .slice A ls.length c ∧ RdL w A ls.length ls
theorem LL.below {u : Value} {ls : List (Int × Int)} (hl : LL w ls u) (hb : Below w.heap.size w w') : LL w' ls u := by
  obtain ⟨A, c, h1, h2⟩ := hl
  exact ⟨A, c, h1, h2.below hb⟩
theorem LL.of {v : Value} {ls : List (Int × Int)} (ho : OwnL w base v ls) : LL w ls v := by
  obtain ⟨A, m, c, rfl, hm, _, _, hr, _⟩ := ho.form
  have hm := hm.out
  subst hm
  exact ⟨A, c, rfl, hr⟩
theorem Tw.rcell (hT : Tw w g h base F ps ps' cl) : (∃ u, w.cell? ⟨h, 0, none⟩ = some u ∧ LJ w base ps' u) ∧ w.cell? ⟨h, 1, none⟩ = some (.int .i64 cl) := by
  obtain ⟨v, qs, v', qs', h1, h2, h3, h4, h5, h6⟩ := hT.ex
  refine ⟨⟨v', by rw [cell_of_row _ _ _ _ _ _ h3.cell]; rfl, ?_⟩, by rw [cell_of_row _ _ _ _ _ _ h3.cell]; rfl⟩
  rw [← h4]
  exact LJ.of h3.own
end
end Go.Proofs.Ytpmbbhefcejjlaa
