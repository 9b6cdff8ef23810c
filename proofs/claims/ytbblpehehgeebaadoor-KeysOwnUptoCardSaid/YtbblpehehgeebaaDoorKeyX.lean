/-
  keys.Decode. No statement is proved here.
-/
import Derived.Deep.RegionHeld3
import Derived.Deep.MidRow
import Derived.Deep.DeepCutAuto
import Derived.Deep.CutBlock
import Derived.Test.YtbblpehehgeebaaDoorKeyC
namespace Go.Proofs.YtbblpehehgeebaaDoor
open Go.RowKit
set_option linter.unusedVariables false

theorem textRd_len : ∀ l : List UInt8, (textRd l).2.1.length ≤ l.length
  | [] => by simp [textRd]
  | [x] => by simp [textRd]
  | x :: y :: l => by
    have h1 := textRd_len l
    have h2 := textRd_len (y :: l)
    unfold textRd
    split
    · split
      · simp; omega
      · split
        · simp
        · simp
    · simp at h2 ⊢; omega
theorem partRd_text (l : List UInt8) : (partRd l).2.1.text.length ≤ l.length := by
  rcases l with _ | ⟨c, l⟩
  · simp [partRd]
  · rw [partRd_cons]
    have := textRd_len l
    split
    · split <;> simp
    · split <;> simp <;> omega
structure DecAt (b : List UInt8) (acc : List PartV) (rest : List UInt8) : Prop where
  ex : ∃ f, rest.length < f ∧ partsRd (b.length + 1) b = ((partsRd f rest).1, acc ++ (partsRd f rest).2)
  tx : ∀ p ∈ acc, p.text.length ≤ b.length
  len : acc.length + rest.length ≤ b.length
theorem DecAt.start (b : List UInt8) : DecAt b [] b := ⟨⟨b.length + 1, by omega, by simp⟩, by simp, by simp⟩
theorem DecAt.step {b : List UInt8} {acc : List PartV} {c : UInt8} {l : List UInt8} (h : DecAt b acc (c :: l)) (h0 : (partRd (c :: l)).1 = 0) : DecAt b (acc ++ [(partRd (c :: l)).2.1]) (partRd (c :: l)).2.2 := by
  obtain ⟨f, hf, he⟩ := h.ex
  have hr := partRd_rest c l
  have hl := h.len
  rcases f with _ | f
  · omega
  · have e : partsRd (f + 1) (c :: l) = ((partsRd f (partRd (c :: l)).2.2).1, (partRd (c :: l)).2.1 :: (partsRd f (partRd (c :: l)).2.2).2) := by
      rw [partsRd, if_pos h0]
    rw [e] at he
    refine ⟨⟨f, by simp at hf; omega, by rw [he]; simp⟩, fun p hp => ?_, by simp at hl ⊢; omega⟩
    rcases List.mem_append.1 hp with h1 | h1
    · exact h.tx p h1
    · simp at h1
      rw [h1]
      have := partRd_text (c :: l)
      omega
theorem DecAt.bad {b : List UInt8} {acc : List PartV} {c : UInt8} {l : List UInt8} (h : DecAt b acc (c :: l)) (h0 : (partRd (c :: l)).1 ≠ 0) : decOf b = ([], (partRd (c :: l)).1) := by
  obtain ⟨f, hf, he⟩ := h.ex
  rcases f with _ | f
  · omega
  · rw [partsRd, if_neg h0] at he
    have e1 : (partsRd (b.length + 1) b).1 = (partRd (c :: l)).1 := by rw [he]
    unfold decOf
    rw [e1, if_pos h0]
theorem DecAt.done {b : List UInt8} {acc : List PartV} (h : DecAt b acc []) : decOf b = if 8 < acc.length ∨ acc.any PartV.long = true then ([], 3) else if b.length = 0 ∨ 200 < b.length then ([], 30) else (acc, 0) := by
  obtain ⟨f, hf, he⟩ := h.ex
  rcases f with _ | f
  · omega
  · rw [partsRd] at he
    simp only [List.append_nil] at he
    unfold decOf
    rw [he]
    simp only [ne_eq, not_true_eq_false, if_false]
theorem OwnPt.nil (w : World) (base : Nat) : OwnPt w base (.slice none 0 0) [] := World.ownsRow_nil w base _ 3
theorem OwnPt.block {w : World} {base : Nat} {v : Value} {ps : List PartV} (h : OwnPt w base v ps) (g : Nat) (hg : v.ownBlock = some g) : base ≤ g ∧ g < w.heap.size := by
  rcases h.2 with ⟨rfl, _⟩ | ⟨b, cap, cur, rfl, hb, hh, _⟩
  · simp [Value.ownBlock] at hg
  · simp [Value.ownBlock] at hg
    subst hg
    exact ⟨hb, (Array.getElem?_eq_some_iff.1 hh).1⟩
theorem OwnPt.same {w w' : World} {base : Nat} {v : Value} {ps : List PartV} (h : OwnPt w base v ps) (hs : ∀ g, v.ownBlock = some g → w'.heap[g]? = w.heap[g]?) : OwnPt w' base v ps := by
  refine ⟨h.1, ?_⟩
  rcases h.2 with h2 | ⟨b, cap, cur, rfl, hb, hh, r⟩
  · exact .inl h2
  · exact .inr ⟨b, cap, cur, rfl, hb, by rw [hs b rfl]; exact hh, r⟩
theorem OwnPt.lower {w : World} {base base' : Nat} {v : Value} {ps : List PartV} (h : OwnPt w base v ps) (hb : base' ≤ base) : OwnPt w base' v ps := by
  refine ⟨h.1, ?_⟩
  rcases h.2 with h2 | ⟨b, cap, cur, rfl, hb2, hh, r⟩
  · exact .inl h2
  · exact .inr ⟨b, cap, cur, rfl, by omega, hh, r⟩
theorem flatP_at (ps : List PartV) (j : Nat) (hj : j < ps.length) : (flatP ps)[j * 3]? = some (.bool ps[j].isText) ∧ (flatP ps)[j * 3 + 1]? = some (.int .i64 ps[j].num) ∧ (flatP ps)[j * 3 + 2]? = some (.string ⟨ps[j].text.toArray⟩) := by
  induction ps generalizing j with
  | nil => simp at hj
  | cons p ps ih =>
    rcases j with _ | j
    · exact ⟨rfl, rfl, rfl⟩
    · have h := ih j (by simpa using hj)
      have e : flatP (p :: ps) = .bool p.isText :: .int .i64 p.num :: .string ⟨p.text.toArray⟩ :: flatP ps := rfl
      rw [e, show (j + 1) * 3 = j * 3 + 1 + 1 + 1 by omega]
      exact h
theorem OwnPt.form {w : World} {base : Nat} {v : Value} {ps : List PartV} (h : OwnPt w base v ps) : ∃ A c, v = .slice A ps.length c ∧ ps.length ≤ c ∧ RdPt w A ps.length ps := by
  have hf : ∃ A c, v = .slice A ps.length c ∧ ps.length ≤ c := by
    rcases h.2 with ⟨rfl, h0⟩ | ⟨b, cap, cur, rfl, _, _, h4, _⟩
    · exact ⟨none, 0, by rw [h0], by omega⟩
    · exact ⟨_, cap, rfl, by first | omega | exact h4 | exact h4.1⟩
  obtain ⟨A, c, rfl, hc⟩ := hf
  refine ⟨A, c, rfl, hc, rfl, fun hn => ?_⟩
  have hr := Rd.of_own h
  obtain ⟨b, off, e, hcell⟩ := hr.2 (by rw [flatP_len]; omega)
  exact ⟨b, off, e, fun j hj => ⟨by have := hcell _ _ (flatP_at ps j hj).1; exact this, by have := hcell _ _ (flatP_at ps j hj).2.1; rw [Nat.add_assoc]; exact this, by have := hcell _ _ (flatP_at ps j hj).2.2; rw [Nat.add_assoc]; exact this⟩⟩
def DecEnds (base : Nat) (w : World) (r : List PartV × Int) (e : Ending) (w' : World) : Prop :=
  ∃ v, e = .returned (.tuple #[v, .int .i64 r.2]) ∧ OwnPt w' base v r.1 ∧ Below base w w'
/-- Decode's state. -/
structure DecMid (w : World) (p : Nat) (acc : List PartV) (rest : List UInt8) (pv rv : Value) (W : World) : Prop where
  h0 : W.heap[w.heap.size]? = some (.cells #[pv] 22 (0, 0))
  h1 : W.heap[w.heap.size + 1]? = some (.cells #[.int .i64 0] 25 (0, 0))
  hp : W.heap[p]? = some (.cells #[rv] 46 (0, 0))
  own : OwnPt W (w.heap.size + 2) pv acc
  dat : DatB w.heap.size W rv rest
  bel : Below w.heap.size w W
  le : w.heap.size + 2 ≤ p
structure DecSt (w : World) (p : Nat) (acc : List PartV) (rest : List UInt8) (pv rv : Value) (W : World) : Prop extends DecMid w p acc rest pv rv W where
  new : ∀ g, pv.ownBlock = some g → g < p
theorem DecMid.below {w W W' : World} {p : Nat} {acc : List PartV} {rest : List UInt8} {pv rv : Value} (S : DecMid w p acc rest pv rv W) (hb : Below W.heap.size W W') : DecMid w p acc rest pv rv W' :=
  ⟨(hb.block _ (heap_lt' S.h0)).trans S.h0, (hb.block _ (heap_lt' S.h1)).trans S.h1, (hb.block _ (heap_lt' S.hp)).trans S.hp, S.own.same fun g hg => hb.block _ (S.own.block g hg).2, S.dat.below S.bel.size hb, S.bel.trans (hb.mono S.bel.size), S.le⟩
theorem DecSt.below {w W W' : World} {p : Nat} {acc : List PartV} {rest : List UInt8} {pv rv : Value} (S : DecSt w p acc rest pv rv W) (hb : Below W.heap.size W W') : DecSt w p acc rest pv rv W' :=
  ⟨S.toDecMid.below hb, S.new⟩
theorem DecSt.part {w W W' : World} {p : Nat} {acc : List PartV} {rest rest' : List UInt8} {pv rv rv' : Value} (S : DecSt w p acc rest pv rv W) (hb : Below p W W') (hp : W'.heap[p]? = some (.cells #[rv'] 46 (0, 0))) (hd : DatB w.heap.size W' rv' rest') : DecSt w p acc rest' pv rv' W' := by
  have hle := S.le
  exact ⟨⟨(hb.block _ (by omega)).trans S.h0, (hb.block _ (by omega)).trans S.h1, hp, S.own.same fun g hg => hb.block _ (S.new g hg), hd, S.bel.trans (hb.mono (by omega)), hle⟩, S.new⟩
theorem DecSt.app {w W W' : World} {p : Nat} {acc acc' : List PartV} {rest : List UInt8} {pv rv pv' : Value} (S : DecSt w p acc rest pv rv W) {o : Obj} (ho : OwnPt W' (w.heap.size + 2) pv' acc') (hbl : Below (w.heap.size + 2) (W.alloc o) W') (hg : (W.alloc o).grownBy W' pv.ownBlock) :
    DecMid w p acc' rest pv' rv (W'.setCell ⟨w.heap.size, 0, none⟩ pv') ∧ W'.cell? ⟨w.heap.size, 0, none⟩ = some pv ∧ W'.frozen? ⟨w.heap.size, 0, none⟩ = false := by
  have hle := S.le
  have hpl := heap_lt' S.hp
  have k : ∀ g ob, W.heap[g]? = some ob → (W.alloc o).heap[g]? = some ob := fun g ob h => (Below.heap_alloc W o g (heap_lt' h)).trans h
  have h0 := (hbl.block _ (by omega)).trans (k _ _ S.h0)
  have h1 := (hbl.block _ (by omega)).trans (k _ _ S.h1)
  have hp := (hg.block p (heap_lt' (k _ _ S.hp)) (fun e => by have := S.new p e.symm; omega)).trans (k _ _ S.hp)
  have hbw : Below w.heap.size w W' := (S.bel.alloc S.bel.size o).trans (hbl.mono (by omega))
  have hbs : Below w.heap.size W' (W'.setCell ⟨w.heap.size, 0, none⟩ pv') := (Below.refl _ _).setCell (p := ⟨w.heap.size, 0, none⟩) (Nat.le_refl _) _
  refine ⟨⟨?_, (heap_setCell_other _ _ _ _ (by simp)).trans h1, (heap_setCell_other _ _ _ _ (by simp; omega)).trans hp, ho.same fun g hg2 => heap_setCell_other _ _ _ _ (by have := (ho.block g hg2).1; simp; omega), ?_, hbw.trans hbs, hle⟩, ?_, ?_⟩
  · rw [heap_setCell_same _ _ _ _ _ _ h0]; rfl
  · exact (S.dat.below (p := w.heap.size) (Nat.le_refl _) (((Below.refl _ _).alloc S.bel.size o).trans (hbl.mono (by omega)))).below (Nat.le_refl _) hbs
  · rw [cell_of_row _ _ _ _ _ _ h0]; rfl
  · simp [World.frozen?, h0]
theorem DecMid.next {w W : World} {p : Nat} {acc : List PartV} {rest : List UInt8} {pv rv : Value} (S : DecMid w p acc rest pv rv W) : DecSt w W.heap.size acc rest pv rv (W.alloc (.cells #[rv] 46)) := by
  have hb := (Below.refl W.heap.size W).alloc (Nat.le_refl _) (.cells #[rv] 46)
  have S2 := S.below hb
  have := heap_lt' S.hp
  exact ⟨⟨S2.h0, S2.h1, heap_alloc_new W _, S2.own, S2.dat, S2.bel, by have := S.le; omega⟩, fun g hg => (S.own.block g hg).2⟩
def lenV (t : Value) (w : World) : Nat := match t with
  | .pointer (some a) => lenAt a.block w
  | _ => 0
theorem part_lit (W : World) (x y z : Value) : Rd (W.alloc (.cells #[x, y, z] 40)) 3 (some ⟨W.heap.size, 0, none⟩) 1 [x, y, z] :=
  ⟨rfl, fun _ => ⟨W.heap.size, 0, rfl, fun j u hu => by
    rw [cell_of_row _ _ _ _ _ _ (heap_alloc_new W _), Nat.zero_add]
    simpa using hu⟩⟩
theorem two_set (w v : World) (pv x : Value) (er : Int) (k0 : v.heap[w.heap.size]? = some (.cells #[pv] 22 (0, 0))) (k1 : v.heap[w.heap.size + 1]? = some (.cells #[.int .i64 0] 25 (0, 0))) (hb : Below w.heap.size w v) (hx : (match x with | .agg cs => cs | v => #[v]) = #[x]) :
    ((v.setCell ⟨w.heap.size, 0, none⟩ x).setCell ⟨w.heap.size + 1, 0, none⟩ (.int .i64 er)).cell? ⟨w.heap.size, 0, none⟩ = some x ∧
    ((v.setCell ⟨w.heap.size, 0, none⟩ x).setCell ⟨w.heap.size + 1, 0, none⟩ (.int .i64 er)).cell? ⟨w.heap.size + 1, 0, none⟩ = some (.int .i64 er) ∧
    Below w.heap.size w ((v.setCell ⟨w.heap.size, 0, none⟩ x).setCell ⟨w.heap.size + 1, 0, none⟩ (.int .i64 er)) := by
  have h0 : (v.setCell ⟨w.heap.size, 0, none⟩ x).heap[w.heap.size]? = some (.cells #[x] 22 (0, 0)) := by rw [heap_setCell_same _ _ _ _ _ _ k0]; rfl
  have h1 : (v.setCell ⟨w.heap.size, 0, none⟩ x).heap[w.heap.size + 1]? = some (.cells #[.int .i64 0] 25 (0, 0)) := (heap_setCell_other _ _ _ _ (by simp)).trans k1
  have g0 := (heap_setCell_other (v.setCell ⟨w.heap.size, 0, none⟩ x) ⟨w.heap.size + 1, 0, none⟩ w.heap.size (.int .i64 er) (by simp)).trans h0
  have g1 : ((v.setCell ⟨w.heap.size, 0, none⟩ x).setCell ⟨w.heap.size + 1, 0, none⟩ (.int .i64 er)).heap[w.heap.size + 1]? = some (.cells #[.int .i64 er] 25 (0, 0)) := by rw [heap_setCell_same _ _ _ _ _ _ h1]; rfl
  refine ⟨by rw [cell_of_row _ _ _ _ _ _ g0]; rfl, by rw [cell_of_row _ _ _ _ _ _ g1]; rfl, ?_⟩
  exact (hb.setCell (p := ⟨w.heap.size, 0, none⟩) (Nat.le_refl _) _).setCell (p := ⟨w.heap.size + 1, 0, none⟩) (show w.heap.size ≤ w.heap.size + 1 by omega) _
set_option maxRecDepth 100000 in
set_option maxHeartbeats 4000000 in
theorem Decode_any (A : Option Addr) (n c : Nat) (bs : List UInt8) (w : World) (h : RdB w A n bs) (hn : n ≤ 1048576) (hc : n ≤ c) (hAb : ∀ a, A = some a → a.block < w.heap.size) :
    Calls Tryd.prog 13 #[.slice A n c] w (DecEnds w.heap.size w (decOf bs)) := by
  have hlen := h.len
  have hmf : ∀ (fn : Fn) (first cap : Array Value) (w : World), (Instr.makeFunc fn first cap).run Tryd.prog w = .ok (.func fn first cap) w := fun _ _ _ _ => rfl
  have HD0 : Hid (DatB w.heap.size w (.slice A n c) bs) := Lib.hid ⟨A, n, c, rfl, hc, h, hAb⟩
  have PT := Lib.hid (fun p v l W hp hd hbp hm => part_any w.heap.size p v l W hp hd hbp hm)
  have HL := Lib.hid hlen
  generalize hR : decOf bs = R at *
  have HR := Lib.hid hR
  clear hR hlen h
  unfold DecEnds
  go_enter_defers Tryd.func13, Tryd.ntmps13
  go_wp2_with fail
  have S0 : DecSt w (w.heap.size + 2) [] bs (.slice none 0 0) (.slice A n c) (((w.alloc (.cells #[.slice none 0 0] 22)).alloc (.cells #[.int .i64 0] 25)).alloc (.cells #[.slice A n c] 46)) := by
    obtain ⟨W0, hW0⟩ : ∃ W0, W0 = ((w.alloc (.cells #[.slice none 0 0] 22)).alloc (.cells #[.int .i64 0] 25)).alloc (.cells #[.slice A n c] 46) := ⟨_, rfl⟩
    rw [← hW0]
    have q0 : W0.heap[w.heap.size]? = some (.cells #[.slice none 0 0] 22 (0, 0)) := by
      rw [hW0]; exact ((Below.heap_alloc _ _ _ (by simp; omega)).trans (Below.heap_alloc _ _ _ (by simp))).trans (World.alloc_heap_new w _)
    have q1 : W0.heap[w.heap.size + 1]? = some (.cells #[.int .i64 0] 25 (0, 0)) := by
      rw [hW0]; refine (Below.heap_alloc _ _ _ (by simp)).trans ?_
      have := World.alloc_heap_new (w.alloc (.cells #[.slice none 0 0] 22)) (.cells #[.int .i64 0] 25); rwa [World.size_alloc] at this
    have q2 : W0.heap[w.heap.size + 2]? = some (.cells #[.slice A n c] 46 (0, 0)) := by
      rw [hW0]
      have := World.alloc_heap_new ((w.alloc (.cells #[.slice none 0 0] 22)).alloc (.cells #[.int .i64 0] 25)) (.cells #[.slice A n c] 46)
      rwa [World.size_alloc, World.size_alloc] at this
    have hb : Below w.heap.size w W0 := by
      rw [hW0]
      exact (((Below.refl _ _).alloc (Nat.le_refl _) _).alloc (by simp) _).alloc (by simp; omega) _
    exact ⟨⟨q0, q1, q2, OwnPt.nil _ _, HD0.out.below (Nat.le_refl _) hb, hb, Nat.le_refl _⟩, fun g hg => by simp [Value.ownBlock] at hg⟩
  have HS0 := Lib.hid S0
  clear S0
  go_loopw [4] (fun t wr => ∃ p acc rest pv rv, t = .pointer (some ⟨p, 0, none⟩) ∧ DecSt w p acc rest pv rv wr ∧ DecAt bs acc rest) (fun t wr => lenV t wr)
  case atStart => exact ⟨_, [], bs, _, _, rfl, HS0.out, DecAt.start bs⟩
  case round =>
    clear HS0 HD0
    obtain ⟨p, acc, rest, pv, rv, rfl, hS, hT⟩ := hrel
    obtain ⟨A2, m2, c2, rfl, hc2, hr2, _⟩ := hS.dat.ex
    have hl2 := hr2.len
    have cp : wr.cell? ⟨p, 0, none⟩ = some (.slice A2 m2 c2) := by rw [cell_of_row _ _ _ _ _ _ hS.hp]; rfl
    have HS := Lib.hid hS
    have HT := Lib.hid hT
    clear hS hT hr2
    rcases rest with _ | ⟨ch, l⟩
    · obtain rfl : m2 = 0 := by simpa using hl2.symm
      have hR2 := HT.out.done
      rw [HR.out] at hR2
      obtain ⟨Ap, cp2, rfl, hcp, hrp⟩ := HS.out.own.form
      have hal : acc.length ≤ bs.length := by have := HT.out.len; omega
      have FT := Lib.hid (fits_any Ap acc.length cp2 acc wr hrp (by have := HL.out; omega) (fun p hp => by have := HT.out.tx p hp; have := HL.out; omega))
      have c0 : wr.cell? ⟨w.heap.size, 0, none⟩ = some (.slice Ap acc.length cp2) := by rw [cell_of_row _ _ _ _ _ _ HS.out.h0]; rfl
      have HR2 := Lib.hid hR2
      clear hR2 hrp
      go_wp2_with fail
      refine FT.out.mono ?_
      rintro e w2 ⟨rfl, hb⟩
      have S2 := HS.out.toDecMid.below hb
      have HS2 := Lib.hid S2
      have d0 : w2.cell? ⟨w.heap.size, 0, none⟩ = some (.slice Ap acc.length cp2) := by rw [cell_of_row _ _ _ _ _ _ S2.h0]; rfl
      have d1 : w2.cell? ⟨w.heap.size + 1, 0, none⟩ = some (.int .i64 0) := by rw [cell_of_row _ _ _ _ _ _ S2.h1]; rfl
      have f0 : w2.frozen? ⟨w.heap.size, 0, none⟩ = false := by simp [World.frozen?, S2.h0]
      have f1 : w2.frozen? ⟨w.heap.size + 1, 0, none⟩ = false := by simp [World.frozen?, S2.h1]
      clear S2 hb c0 cp FT HS HT
      by_cases h3 : 8 < acc.length ∨ acc.any PartV.long = true
      · obtain rfl : R = ([], 3) := by rw [HR2.out, if_pos h3]
        rw [if_pos h3]
        clear h3 HR2
        go_wp2
        refine leaves_cons (f := 25) (args := #[.pointer (some ⟨w.heap.size, 0, none⟩), .pointer (some ⟨w.heap.size + 1, 0, none⟩)]) (by simp) (by simp [go_sem]) ?_
        refine (catch_idle w.heap.size (w.heap.size + 1) _).mono ?_
        rintro e u' w'' ⟨rfl, rfl, rfl⟩
        obtain ⟨m0, m1, mb⟩ := two_set w w2 (.slice Ap acc.length cp2) (.slice none 0 0) 3 HS2.out.h0 HS2.out.h1 HS2.out.bel rfl
        simp [Leaves, settle, results, Tryd.f13, go_sem, m0, m1]
        exact ⟨OwnPt.nil _ _, mb⟩
      · rw [if_neg h3]
        have HR3 : Hid (R = if bs.length = 0 ∨ 200 < bs.length then ([], 30) else (acc, 0)) := Lib.hid (by rw [HR2.out, if_neg h3])
        rw [HL.out] at HR3
        clear h3 HR2
        by_cases hbad : n = 0 ∨ 200 < n
        · obtain rfl : R = ([], 30) := by rw [HR3.out, if_pos hbad]
          clear HR3
          rcases hbad with rfl | hbad
          · go_wp2
            refine leaves_cons (f := 25) (args := #[.pointer (some ⟨w.heap.size, 0, none⟩), .pointer (some ⟨w.heap.size + 1, 0, none⟩)]) (by simp) (by simp [go_sem]) ?_
            refine (catch_idle w.heap.size (w.heap.size + 1) _).mono ?_
            rintro e u' w'' ⟨rfl, rfl, rfl⟩
            obtain ⟨m0, m1, mb⟩ := two_set w w2 (.slice Ap acc.length cp2) (.slice none 0 0) 30 HS2.out.h0 HS2.out.h1 HS2.out.bel rfl
            simp [Leaves, settle, results, Tryd.f13, go_sem, m0, m1]
            exact ⟨OwnPt.nil _ _, mb⟩
          · have hz : ¬ (n : Int) = 0 := by omega
            have hz2 : (200 : Int) < (n : Int) := by omega
            go_wp2
            refine leaves_cons (f := 25) (args := #[.pointer (some ⟨w.heap.size, 0, none⟩), .pointer (some ⟨w.heap.size + 1, 0, none⟩)]) (by simp) (by simp [go_sem]) ?_
            refine (catch_idle w.heap.size (w.heap.size + 1) _).mono ?_
            rintro e u' w'' ⟨rfl, rfl, rfl⟩
            obtain ⟨m0, m1, mb⟩ := two_set w w2 (.slice Ap acc.length cp2) (.slice none 0 0) 30 HS2.out.h0 HS2.out.h1 HS2.out.bel rfl
            simp [Leaves, settle, results, Tryd.f13, go_sem, m0, m1]
            exact ⟨OwnPt.nil _ _, mb⟩
        · obtain rfl : R = (acc, 0) := by rw [HR3.out, if_neg hbad]
          clear HR3
          have hz : ¬ (n : Int) = 0 := by omega
          have hz2 : ¬ (200 : Int) < (n : Int) := by omega
          have hz3 : decide ((200 : Int) < (n : Int)) = false := by simpa using hz2
          go_wp2
          refine leaves_cons (f := 25) (args := #[.pointer (some ⟨w.heap.size, 0, none⟩), .pointer (some ⟨w.heap.size + 1, 0, none⟩)]) (by simp) (by simp [go_sem]) ?_
          refine (catch_idle w.heap.size (w.heap.size + 1) _).mono ?_
          rintro e u' w'' ⟨rfl, rfl, rfl⟩
          obtain ⟨m0, m1, mb⟩ := two_set w w2 (.slice Ap acc.length cp2) (.slice Ap acc.length cp2) 0 HS2.out.h0 HS2.out.h1 HS2.out.bel rfl
          simp [Leaves, settle, results, Tryd.f13, go_sem, m0, m1]
          refine ⟨(HS2.out.own.same fun g hg => ?_).lower (by omega), mb⟩
          have := (HS2.out.own.block g hg).1
          rw [heap_setCell_other _ _ _ _ (by simp; omega), heap_setCell_other _ _ _ _ (by simp; omega)]
    · rw [List.length_cons] at hl2
      have hm2 : 0 < m2 := by omega
      obtain ⟨er, qq, rs, hprd⟩ : ∃ er qq rs, partRd (ch :: l) = (er, qq, rs) := ⟨_, _, _, rfl⟩
      have hbsl := HT.out.len
      rw [List.length_cons] at hbsl
      have PC : Hid (∀ W, DecSt w p acc (ch :: l) pv (.slice A2 m2 c2) W → Calls Tryd.prog 26 #[.pointer (some ⟨p, 0, none⟩)] W (PartEnds w.heap.size p (er, qq, rs) W)) := Lib.hid fun W S => by
        have := PT.out p _ _ W S.hp S.dat (by have := S.le; omega) (by simp; have := HL.out; omega)
        rw [hprd] at this
        exact this
      unfold PartEnds at PC
      dsimp only at PC
      have HRL : Hid (rs.length ≤ l.length) := Lib.hid (by have := partRd_rest ch l; rw [hprd] at this; exact this)
      by_cases he0 : er = 0
      · have HT2 : Hid (DecAt bs (acc ++ [qq]) rs) := Lib.hid (by have := HT.out.step (by rw [hprd]; exact he0); rw [hprd] at this; exact this)
        clear hprd hbsl
        go_upto_block 1 with (fail)
        go_cut [] from 8 to 15 (fun wx => ∃ acc' rest' pv' rv', DecMid w p acc' rest' pv' rv' wx ∧ DecAt bs acc' rest' ∧ rest'.length ≤ l.length)
        case first =>
          go_upto_region 4 with (fail)
          -- GOOD BEGIN
          refine wp_region_any (by kernel_rfl) ?_
          change wpAny _ _ _ _ _ _ _ (World.drew _)
          have D : DecSt w p acc (ch :: l) pv (.slice A2 m2 c2) wr.drew := HS.out.below ((Below.refl _ _).drew)
          clear HS cp
          generalize wr.drew = v0 at *
          refine wpAny_ready (rs := [0, 1]) (by kernel_rfl) (by simp) ?_
          refine AllReady.cons rfl (fun K hK => ?_) (AllReady.cons rfl (fun K hK => ?_) AllReady.nil)
          · have c0 : v0.cell? ⟨w.heap.size, 0, none⟩ = some pv := by rw [cell_of_row _ _ _ _ _ _ D.h0]; rfl
            have HKK : Shut (∀ a w, _ → K a w) := hK
            clear hK
            go_simp
            refine HKK.out _ _ ?_
            clear HKK K c0
            refine wpAny_ready (rs := [1]) (by kernel_rfl) (by simp) ?_
            refine AllReady.cons rfl (fun K hK => ?_) AllReady.nil
            have HKK : Shut (∀ a w, _ → K a w) := hK
            clear hK
            go_simp
            refine (PC.out _ D).mono ?_
            rintro e v1 ⟨hb, hcase⟩
            obtain ⟨rfl, rv', hp', hd'⟩ : e = .returned (.agg #[.bool qq.isText, .int .i64 qq.num, .string ⟨qq.text.toArray⟩]) ∧ ∃ v', v1.heap[p]? = some (.cells #[v'] 46 (0, 0)) ∧ DatB w.heap.size v1 v' rs := by
              rcases hcase with ⟨_, h1, h2⟩ | ⟨hne, _⟩
              · exact ⟨h1, h2⟩
              · exact absurd he0 hne
            have D' := D.part hb hp' hd'
            clear D hb hcase hp' hd'
            have D := D'
            clear D'
            refine HKK.out _ _ ?_
            clear HKK K
            refine wpAny_ready (rs := [2]) (by kernel_rfl) (by simp) ?_
            refine AllReady.cons rfl (fun K hK => ?_) AllReady.nil
            have HKK : Shut (∀ a w, _ → K a w) := hK
            clear hK
            go_simp
            have D' := D.below ((Below.refl _ _).alloc (Nat.le_refl _) (.cells #[.bool qq.isText, .int .i64 qq.num, .string ⟨qq.text.toArray⟩] 40))
            refine HKK.out _ _ ?_
            clear HKK K D'
            refine wpAny_ready (rs := [3]) (by kernel_rfl) (by simp) ?_
            refine AllReady.cons rfl (fun K hK => ?_) AllReady.nil
            have hal : acc.length ≤ 2000000 := by have h1 := HT.out.len; have h2 := HL.out; omega
            refine step_part rfl _ _ rfl (w.heap.size + 2) pv acc qq rfl (D.below ((Below.refl _ _).alloc (Nat.le_refl _) _)).own (some ⟨v1.heap.size, 0, none⟩) rfl (part_lit v1 _ _ _) hal (by have h1 := D.le; have h2 := heap_lt' D.hp; simp; omega) ?_
            intro pv' W3 ho3 hb3 hg3
            obtain ⟨A5, c5, hv5, _⟩ := ho3.form
            rw [List.length_append, List.length_singleton] at hv5
            subst hv5
            refine hK _ _ ?_
            clear hK K hal
            obtain ⟨DM, c0, f0⟩ := D.app ho3 hb3 hg3
            clear D ho3 hb3 hg3
            refine wpAny_ready (rs := [4]) (by kernel_rfl) (by simp) ?_
            refine AllReady.cons rfl (fun K hK => ?_) AllReady.nil
            have HKK : Shut (∀ a w, _ → K a w) := hK
            clear hK
            go_simp
            refine HKK.out _ _ ?_
            clear HKK K
            refine wpAny_done (by kernel_rfl) ?_ _
            go_wp2_with fail
            go_meet
            exact ⟨_, _, _, _, DM, HT2.out, HRL.out⟩
          · have HKK : Shut (∀ a w, _ → K a w) := hK
            clear hK
            go_simp
            refine (PC.out _ D).mono ?_
            rintro e v1 ⟨hb, hcase⟩
            obtain ⟨rfl, rv', hp', hd'⟩ : e = .returned (.agg #[.bool qq.isText, .int .i64 qq.num, .string ⟨qq.text.toArray⟩]) ∧ ∃ v', v1.heap[p]? = some (.cells #[v'] 46 (0, 0)) ∧ DatB w.heap.size v1 v' rs := by
              rcases hcase with ⟨_, h1, h2⟩ | ⟨hne, _⟩
              · exact ⟨h1, h2⟩
              · exact absurd he0 hne
            have D' := D.part hb hp' hd'
            clear D hb hcase hp' hd'
            have D := D'
            clear D'
            refine HKK.out _ _ ?_
            clear HKK K
            refine wpAny_ready (rs := [0, 2]) (by kernel_rfl) (by simp) ?_
            refine AllReady.cons rfl (fun K hK => ?_) (AllReady.cons rfl (fun K hK => ?_) AllReady.nil)
            · have c0 : v1.cell? ⟨w.heap.size, 0, none⟩ = some pv := by rw [cell_of_row _ _ _ _ _ _ D.h0]; rfl
              have HKK : Shut (∀ a w, _ → K a w) := hK
              clear hK
              go_simp
              refine HKK.out _ _ ?_
              clear HKK K c0
              refine wpAny_ready (rs := [2]) (by kernel_rfl) (by simp) ?_
              refine AllReady.cons rfl (fun K hK => ?_) AllReady.nil
              have HKK : Shut (∀ a w, _ → K a w) := hK
              clear hK
              go_simp
              have D' := D.below ((Below.refl _ _).alloc (Nat.le_refl _) (.cells #[.bool qq.isText, .int .i64 qq.num, .string ⟨qq.text.toArray⟩] 40))
              refine HKK.out _ _ ?_
              clear HKK K D'
              refine wpAny_ready (rs := [3]) (by kernel_rfl) (by simp) ?_
              refine AllReady.cons rfl (fun K hK => ?_) AllReady.nil
              have hal : acc.length ≤ 2000000 := by have h1 := HT.out.len; have h2 := HL.out; omega
              refine step_part rfl _ _ rfl (w.heap.size + 2) pv acc qq rfl (D.below ((Below.refl _ _).alloc (Nat.le_refl _) _)).own (some ⟨v1.heap.size, 0, none⟩) rfl (part_lit v1 _ _ _) hal (by have h1 := D.le; have h2 := heap_lt' D.hp; simp; omega) ?_
              intro pv' W3 ho3 hb3 hg3
              obtain ⟨A5, c5, hv5, _⟩ := ho3.form
              rw [List.length_append, List.length_singleton] at hv5
              subst hv5
              refine hK _ _ ?_
              clear hK K hal
              obtain ⟨DM, c0, f0⟩ := D.app ho3 hb3 hg3
              clear D ho3 hb3 hg3
              refine wpAny_ready (rs := [4]) (by kernel_rfl) (by simp) ?_
              refine AllReady.cons rfl (fun K hK => ?_) AllReady.nil
              have HKK : Shut (∀ a w, _ → K a w) := hK
              clear hK
              go_simp
              refine HKK.out _ _ ?_
              clear HKK K
              refine wpAny_done (by kernel_rfl) ?_ _
              go_wp2_with fail
              go_meet
              exact ⟨_, _, _, _, DM, HT2.out, HRL.out⟩
            · have c0 : (v1.alloc (.cells #[.bool qq.isText, .int .i64 qq.num, .string ⟨qq.text.toArray⟩] 40)).cell? ⟨w.heap.size, 0, none⟩ = some pv := by rw [cell_of_row _ _ _ _ _ _ (D.below ((Below.refl _ _).alloc (Nat.le_refl _) _)).h0]; rfl
              have HKK : Shut (∀ a w, _ → K a w) := hK
              clear hK
              go_simp
              have D' := D.below ((Below.refl _ _).alloc (Nat.le_refl _) (.cells #[.bool qq.isText, .int .i64 qq.num, .string ⟨qq.text.toArray⟩] 40))
              refine HKK.out _ _ ?_
              clear HKK K D'
              refine wpAny_ready (rs := [0]) (by kernel_rfl) (by simp) ?_
              refine AllReady.cons rfl (fun K hK => ?_) AllReady.nil
              have HKK : Shut (∀ a w, _ → K a w) := hK
              clear hK
              go_simp
              refine HKK.out _ _ ?_
              clear HKK K c0
              refine wpAny_ready (rs := [3]) (by kernel_rfl) (by simp) ?_
              refine AllReady.cons rfl (fun K hK => ?_) AllReady.nil
              have hal : acc.length ≤ 2000000 := by have h1 := HT.out.len; have h2 := HL.out; omega
              refine step_part rfl _ _ rfl (w.heap.size + 2) pv acc qq rfl (D.below ((Below.refl _ _).alloc (Nat.le_refl _) _)).own (some ⟨v1.heap.size, 0, none⟩) rfl (part_lit v1 _ _ _) hal (by have h1 := D.le; have h2 := heap_lt' D.hp; simp; omega) ?_
              intro pv' W3 ho3 hb3 hg3
              obtain ⟨A5, c5, hv5, _⟩ := ho3.form
              rw [List.length_append, List.length_singleton] at hv5
              subst hv5
              refine hK _ _ ?_
              clear hK K hal
              obtain ⟨DM, c0, f0⟩ := D.app ho3 hb3 hg3
              clear D ho3 hb3 hg3
              refine wpAny_ready (rs := [4]) (by kernel_rfl) (by simp) ?_
              refine AllReady.cons rfl (fun K hK => ?_) AllReady.nil
              have HKK : Shut (∀ a w, _ → K a w) := hK
              clear hK
              go_simp
              refine HKK.out _ _ ?_
              clear HKK K
              refine wpAny_done (by kernel_rfl) ?_ _
              go_wp2_with fail
              go_meet
              exact ⟨_, _, _, _, DM, HT2.out, HRL.out⟩
          -- GOOD END
        case rest =>
          obtain ⟨acc', rest', pv', rv', hM, hT', hle'⟩ := hcut
          obtain ⟨A6, m6, c6, rfl, _⟩ := hM.dat.ex
          have cr : wc.cell? ⟨p, 0, none⟩ = some (.slice A6 m6 c6) := by rw [cell_of_row _ _ _ _ _ _ hM.hp]; rfl
          have hN := hM.next
          have hla := lenAt_of HS.out.hp HS.out.dat
          have hlb := lenAt_of hN.hp hN.dat
          have HN := Lib.hid hN
          have HLA := Lib.hid hla
          have HLB := Lib.hid hlb
          clear hM hN hla hlb HS HT HT2 PC
          go_wp2_with fail
          refine ⟨?_, ?_⟩
          · exact ⟨_, _, _, _, _, rfl, HN.out, hT'⟩
          · simp only [lenV]
            have h1 := HLA.out
            have h2 := HLB.out
            simp at h1 h2 ⊢
            omega
      · have hRe : R = ([], er) := by have := HT.out.bad (by rw [hprd]; exact he0); rw [HR.out, hprd] at this; exact this
        subst hRe
        clear hprd hbsl
        go_upto_region 4 with (fail)
        -- PANIC refine leaves_cons (f := 25) (args := #[.pointer (some ⟨w.heap.size, 0, none⟩), .pointer (some ⟨w.heap.size + 1, 0, none⟩)]) (by simp) (by simp [go_sem]) ?_ ;; refine (catch_panicking w.heap.size (w.heap.size + 1) pv 0 er [] v1 k0 k1 (by omega)).mono ?_ ;; rintro e u' w'' ⟨rfl, rfl, rfl⟩ ;; obtain ⟨m0, m1, mb⟩ := two_set w v1 pv (.slice none 0 0) er k0 k1 hbw rfl ;; simp [Leaves, settle, results, Tryd.f13, go_sem, m0, m1] ;; exact ⟨OwnPt.nil _ _, mb⟩
        -- BAD BEGIN
        refine wp_region_any (by kernel_rfl) ?_
        change wpAny _ _ _ _ _ _ _ (World.drew _)
        have D : DecSt w p acc (ch :: l) pv (.slice A2 m2 c2) wr.drew := HS.out.below ((Below.refl _ _).drew)
        clear HS cp
        generalize wr.drew = v0 at *
        refine wpAny_ready (rs := [0, 1]) (by kernel_rfl) (by simp) ?_
        refine AllReady.cons rfl (fun K hK => ?_) (AllReady.cons rfl (fun K hK => ?_) AllReady.nil)
        · have c0 : v0.cell? ⟨w.heap.size, 0, none⟩ = some pv := by rw [cell_of_row _ _ _ _ _ _ D.h0]; rfl
          have HKK : Shut (∀ a w, _ → K a w) := hK
          clear hK
          go_simp
          refine HKK.out _ _ ?_
          clear HKK K c0
          refine wpAny_ready (rs := [1]) (by kernel_rfl) (by simp) ?_
          refine AllReady.cons rfl (fun K hK => ?_) AllReady.nil
          have HKK : Shut (∀ a w, _ → K a w) := hK
          clear hK
          go_simp
          refine (PC.out _ D).mono ?_
          rintro e v1 ⟨hb, hcase⟩
          obtain rfl : e = errE er := by
            rcases hcase with ⟨h0, _⟩ | ⟨_, h1⟩
            · exact absurd h0 he0
            · exact h1
          unfold errE
          dsimp only
          clear HKK hcase
          have k0 := (hb.block _ (by have := D.le; omega)).trans D.h0
          have k1 := (hb.block _ (by have := D.le; omega)).trans D.h1
          have hbw := D.bel.trans (hb.mono (by have := D.le; omega))
          clear D hb PC
          go_wp2
          refine leaves_cons (f := 25) (args := #[.pointer (some ⟨w.heap.size, 0, none⟩), .pointer (some ⟨w.heap.size + 1, 0, none⟩)]) (by simp) (by simp [go_sem]) ?_
          refine (catch_panicking w.heap.size (w.heap.size + 1) pv 0 er [] v1 k0 k1 (by omega)).mono ?_
          rintro e u' w'' ⟨rfl, rfl, rfl⟩
          obtain ⟨m0, m1, mb⟩ := two_set w v1 pv (.slice none 0 0) er k0 k1 hbw rfl
          simp [Leaves, settle, results, Tryd.f13, go_sem, m0, m1]
          exact ⟨OwnPt.nil _ _, mb⟩
        · have HKK : Shut (∀ a w, _ → K a w) := hK
          clear hK
          go_simp
          refine (PC.out _ D).mono ?_
          rintro e v1 ⟨hb, hcase⟩
          obtain rfl : e = errE er := by
            rcases hcase with ⟨h0, _⟩ | ⟨_, h1⟩
            · exact absurd h0 he0
            · exact h1
          unfold errE
          dsimp only
          clear HKK hcase
          have k0 := (hb.block _ (by have := D.le; omega)).trans D.h0
          have k1 := (hb.block _ (by have := D.le; omega)).trans D.h1
          have hbw := D.bel.trans (hb.mono (by have := D.le; omega))
          clear D hb PC
          go_wp2
          refine leaves_cons (f := 25) (args := #[.pointer (some ⟨w.heap.size, 0, none⟩), .pointer (some ⟨w.heap.size + 1, 0, none⟩)]) (by simp) (by simp [go_sem]) ?_
          refine (catch_panicking w.heap.size (w.heap.size + 1) pv 0 er [] v1 k0 k1 (by omega)).mono ?_
          rintro e u' w'' ⟨rfl, rfl, rfl⟩
          obtain ⟨m0, m1, mb⟩ := two_set w v1 pv (.slice none 0 0) er k0 k1 hbw rfl
          simp [Leaves, settle, results, Tryd.f13, go_sem, m0, m1]
          exact ⟨OwnPt.nil _ _, mb⟩
        -- BAD END
end Go.Proofs.YtbblpehehgeebaaDoor
