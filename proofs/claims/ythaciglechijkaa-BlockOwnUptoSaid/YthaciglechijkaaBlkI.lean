/-
  The iterator of block.pairs. No statement is proved here.
-/
import Derived.RangeFuncNested
import Derived.RangeFuncBound
import Derived.RangeFuncCalls
import Derived.RangeFuncLeaves
import Derived.Shelf.Abstract
import Derived.Shelf.RegionOpen
import Derived.WalkKit
import Derived.OwnWalkIn
import Derived.TacticsInMore
import Derived.LoopNIn
import Derived.LoopIn
import Derived.Deep.RegionHeld3
import Derived.Deep.RegionWith
import Derived.Deep.DeepCutAuto
import Derived.BigQuiet
import Derived.Test.YthaciglechijkaaBlkD
import Derived.Test.YthaciglechijkaaRange
namespace Go.Proofs.Ythaciglechijkaa
open Go.RowKit Go.Shelf
set_option linter.unusedVariables false
attribute [local go_sem] Oper.semAt_some

theorem keeps_below {B : Nat} {W W' : World} (h : Below W.heap.size W W') : KeepsFrom B W W' := ⟨h.size, fun k o _ hk _ => (h.block k (Array.getElem?_eq_some_iff.1 hk).1).trans hk⟩
theorem set_other {W : World} {b i g : Nat} (x : Value) (cs : Array Value) (t : TypeId) (fr : Nat × Nat) (hb : W.heap[b]? = some (.cells cs t fr)) (hne : g ≠ b) : (W.setCell ⟨b, i, none⟩ x).heap[g]? = W.heap[g]? := by
  rw [setCell_eq_setRow W b i _ _ _ _ hb]; exact setRow_other _ _ _ _ hne
/-- What the iterator asks of its caller's book J (the pairs so far, the error's cell). -/
structure Client (w0 : World) (bx pt wy B : Nat) (A : Option Addr) (n c : Nat) (J : List PairR → Int → World → Prop) : Prop where
  box : ∀ rs e W, J rs e W → W.heap[bx]? = some (.cells #[.slice A n c] 24 (0, 0))
  ptr : ∀ rs e W, J rs e W → W.heap[pt]? = some (.cells #[.pointer (some ⟨wy, 0, none⟩)] 56 (0, 0))
  why : ∀ rs e W, J rs e W → W.heap[wy]? = some (.cells #[.int .i64 e] 25 (0, 0))
  bel : ∀ rs e W, J rs e W → Below w0.heap.size w0 W ∧ B ≤ W.heap.size
  low : ∀ rs e W W', J rs e W → Below W.heap.size W W' → J rs e W'
  set : ∀ rs e e' W, J rs e W → J rs e' (W.setCell ⟨wy, 0, none⟩ (.int .i64 e'))
  key : ∀ rs r e W, J (rs ++ [r]) e W → ∃ Ak mk ck, r.kv = .slice Ak mk ck ∧ mk ≤ ck ∧ RdB W Ak mk r.p.key
/-- In the midst of a round: a world in which the book holds lies below, but for new memory. -/
structure Mid (J : List PairR → Int → World → Prop) (rs : List PairR) (s : Nat) (e : Int) (W : World) : Prop where
  ex : ∃ Z : World, Z.heap.size = s ∧ J rs e Z ∧ Below s Z W
theorem Mid.start {J : List PairR → Int → World → Prop} {rs : List PairR} {e : Int} {W : World} (h : J rs e W) : Mid J rs W.heap.size e W := ⟨W, rfl, h, Below.refl _ _⟩
theorem Mid.to {J : List PairR → Int → World → Prop} {rs : List PairR} {e : Int} {s : Nat} {W W' : World} (h : Mid J rs s e W) (hb : Below s W W') : Mid J rs s e W' := by
  obtain ⟨Z, h1, h2, h3⟩ := h.ex
  exact ⟨Z, h1, h2, h3.trans hb⟩
theorem Mid.size {J : List PairR → Int → World → Prop} {rs : List PairR} {e : Int} {s : Nat} {W : World} (h : Mid J rs s e W) : s ≤ W.heap.size := by
  obtain ⟨Z, h1, h2, h3⟩ := h.ex
  rw [← h1]
  exact h3.size
section
variable {w0 : World} {bx pt wy B : Nat} {A : Option Addr} {n c : Nat} {J : List PairR → Int → World → Prop} (C : Client w0 bx pt wy B A n c J)
include C
theorem Mid.out {rs : List PairR} {e : Int} {s : Nat} {W : World} (h : Mid J rs s e W) : J rs e W := by
  obtain ⟨Z, h1, h2, h3⟩ := h.ex
  subst h1
  exact C.low _ _ _ _ h2 h3
theorem Mid.lt {rs : List PairR} {e : Int} {s : Nat} {W : World} (h : Mid J rs s e W) : wy < s ∧ pt < s ∧ bx < s := by
  obtain ⟨Z, h1, h2, h3⟩ := h.ex
  subst h1
  exact ⟨heap_lt' (C.why _ _ _ h2), heap_lt' (C.ptr _ _ _ h2), heap_lt' (C.box _ _ _ h2)⟩
theorem Mid.set {rs : List PairR} {e : Int} {s : Nat} {W : World} (h : Mid J rs s e W) (e' : Int) : Mid J rs s e' (W.setCell ⟨wy, 0, none⟩ (.int .i64 e')) := by
  obtain ⟨Z, h1, h2, h3⟩ := h.ex
  subst h1
  refine ⟨Z.setCell ⟨wy, 0, none⟩ (.int .i64 e'), by simp [World.setCell], C.set _ _ e' _ h2, ?_⟩
  have hz := C.why _ _ _ h2
  have hw := (h3.block wy (heap_lt' hz)).trans hz
  refine ⟨h3.os, h3.tape, h3.output, by simpa [World.setCell] using h3.size, fun k hk => ?_⟩
  by_cases hkw : k = wy
  · subst hkw
    rw [setCell_eq_setRow W _ 0 _ _ _ _ hw, setCell_eq_setRow Z _ 0 _ _ _ _ hz, setRow_heap _ _ _ _ _ _ hw, setRow_heap _ _ _ _ _ _ hz]
  · rw [set_other _ _ _ _ hw hkw, set_other _ _ _ _ hz hkw]
    exact h3.block k hk
end
/-- What a round is told: the pair, in new memory; the walk stands behind it. -/
def Nn (xs : List UInt8) (B : Nat) (J : List PairR → Int → World → Prop) (rs : List PairR) (r : PairR) (W : World) : Prop :=
  (∃ k, StandsB xs (psOf rs ++ [r.p]) k) ∧ J rs 0 W ∧ OwnB W B r.kv r.p.key ∧ OwnB W B r.vv r.p.val
def Fn (xs : List UInt8) (J : List PairR → Int → World → Prop) (W : World) : Prop := ∃ rs e, readAll xs = (psOf rs, e) ∧ J rs e W
def encQ (r : PairR) : Array Value := #[.agg #[r.kv, r.vv]]
def posU (xs : List UInt8) (k : Int) : Nat → Int
  | 0 => k
  | j + 1 => (uintAt xs (posU xs k j)).2.1
def valU (xs : List UInt8) (k : Int) (j : Nat) : Nat := (uintAt xs (posU xs k j)).1
def errU (xs : List UInt8) (k : Int) (j : Nat) : Int := (uintAt xs (posU xs k j)).2.2
def arrU (xs : List UInt8) (k : Int) (j : Nat) : Array Value := #[.int .u64 ((if 0 < j then valU xs k 0 else 0 : Nat) : Int), .int .u64 ((if 1 < j then valU xs k 1 else 0 : Nat) : Int), .int .u64 ((if 2 < j then valU xs k 2 else 0 : Nat) : Int)]
theorem ent_err {xs a : List UInt8} {k j : Nat} (hj : j < 3) (h : ∀ i, i < j → errU xs k i = 0) (he : errU xs k j ≠ 0) : (entRd xs a k).1 = errU xs k j := by
  unfold entRd
  rcases (show j = 0 ∨ j = 1 ∨ j = 2 by omega) with rfl | rfl | rfl
  · have e0 : (uintAt xs k).2.2 ≠ 0 := he
    rw [if_pos e0]; rfl
  · have h0 : (uintAt xs k).2.2 = 0 := h 0 (by omega)
    have e0 : (uintAt xs (uintAt xs k).2.1).2.2 ≠ 0 := he
    rw [if_neg (fun hh => hh h0), if_pos e0]; rfl
  · have h0 : (uintAt xs k).2.2 = 0 := h 0 (by omega)
    have h1 : (uintAt xs (uintAt xs k).2.1).2.2 = 0 := h 1 (by omega)
    have e0 : (uintAt xs (uintAt xs (uintAt xs k).2.1).2.1).2.2 ≠ 0 := he
    rw [if_neg (fun hh => hh h0), if_neg (fun hh => hh h1), if_pos e0]; rfl
theorem ent_go {xs a : List UInt8} {k : Nat} (h : ∀ i, i < 3 → errU xs k i = 0) : entRd xs a k = entKey xs a (valU xs k 0) (valU xs k 1) (valU xs k 2) (posU xs k 3).toNat := by
  unfold entRd
  have h0 : (uintAt xs k).2.2 = 0 := h 0 (by omega)
  have h1 : (uintAt xs (uintAt xs k).2.1).2.2 = 0 := h 1 (by omega)
  have h2 : (uintAt xs (uintAt xs (uintAt xs k).2.1).2.1).2.2 = 0 := h 2 (by omega)
  rw [if_neg (fun hh => hh h0), if_neg (fun hh => hh h1), if_neg (fun hh => hh h2)]
  rfl
theorem arr_set {W : World} {g j : Nat} {xs : List UInt8} {k : Int} (hj : j < 3) (h : W.heap[g]? = some (.cells (arrU xs k j) 58 (0, 0))) : (W.setCell ⟨g, j, none⟩ (.int .u64 (valU xs k j : Nat))).heap[g]? = some (.cells (arrU xs k (j + 1)) 58 (0, 0)) := by
  rw [heap_setCell_same W g j _ _ _ h]
  congr 2
  rcases (show j = 0 ∨ j = 1 ∨ j = 2 by omega) with rfl | rfl | rfl <;> simp [arrU]
theorem arr_cell {W : World} {g j i : Nat} {xs : List UInt8} {k : Int} (hi : i < 3) (h : W.heap[g]? = some (.cells (arrU xs k j) 58 (0, 0))) : W.cell? ⟨g, i, none⟩ = some (.int .u64 ((if i < j then valU xs k i else 0 : Nat) : Int)) ∧ W.frozen? ⟨g, i, none⟩ = false := by
  refine ⟨?_, by simp [World.frozen?, h]⟩
  rw [cell_of_row _ _ _ _ _ _ h]
  rcases (show i = 0 ∨ i = 1 ∨ i = 2 by omega) with rfl | rfl | rfl <;> simp [arrU]
theorem pos_nat {xs : List UInt8} {k : Nat} (h : ∀ i, i < 3 → errU xs k i = 0) : ∃ q : Nat, posU xs k 3 = (q : Int) ∧ k + 3 ≤ q ∧ q ≤ xs.length ∧ valU xs k 0 < 18446744073709551616 ∧ valU xs k 1 < 18446744073709551616 ∧ valU xs k 2 < 18446744073709551616 := by
  have h0 : (uintAt xs k).2.2 = 0 := h 0 (by omega)
  have h1 : (uintAt xs (uintAt xs k).2.1).2.2 = 0 := h 1 (by omega)
  have h2 : (uintAt xs (uintAt xs (uintAt xs k).2.1).2.1).2.2 = 0 := h 2 (by omega)
  obtain ⟨n0, e0, z0, l0, _, b0⟩ := uint_ok h0
  rw [e0] at h1 h2
  obtain ⟨n1, e1, z1, l1, _, b1⟩ := uint_ok h1
  rw [e1] at h2
  obtain ⟨n2, e2, z2, l2, _, b2⟩ := uint_ok h2
  refine ⟨k + n0 + n1 + n2, ?_, by omega, by omega, b0, ?_, ?_⟩
  · show (uintAt xs (uintAt xs (uintAt xs k).2.1).2.1).2.1 = _
    rw [e0, e1, e2]
  · show (uintAt xs (uintAt xs k).2.1).1 < _
    rw [e0]; exact b1
  · show (uintAt xs (uintAt xs (uintAt xs k).2.1).2.1).1 < _
    rw [e0, e1]; exact b2
theorem cut_hu {w : World} {A : Option Addr} {n : Nat} {xs : List UInt8} (h : RdB w A n xs) (c : Nat) (hc : n ≤ c) (j : Nat) (hj : j ≤ n) :
    ∃ A', (∀ W, (Instr.slice 24 (.slice A n c) none (some (.int .u64 (j : Int))) none).run Try.prog W = .ok (.slice A' j c) W) ∧ RdB w A' j (xs.take j) := by
  have hr := h.cut (Nat.zero_le j) hj hc
  simp only [List.drop_zero, Nat.sub_zero] at hr
  refine ⟨_, fun W => ?_, hr⟩
  rw [run_slice_h W 24 A n c elemUnd .u64 _ (by omega) (by omega), elemSize]
  simp [Result.andThen, sliced]
theorem concat_two (W : World) (b : Nat) (A : Option Addr) (n c : Nat) (xs : List UInt8) (A' : Option Addr) (n' c' : Nat) (ys : List UInt8) (hb : W.heap[b]? = some (.cells #[.slice A n c, .slice A' n' c'] 24 (0, 0)))
    (h : RdB W A n xs) (h' : RdB W A' n' ys) (hl : xs.length + ys.length ≤ 140737488355328) :
    Calls Try.prog 38 #[.slice (some ⟨b, 0, none⟩) 2 2] W fun e w' => ∃ v, e = .returned v ∧ OwnB w' W.heap.size v (xs ++ ys) ∧ Below W.heap.size W w' := by
  have C := concat_any W b 2 2 [⟨A, n, c, xs⟩, ⟨A', n', c', ys⟩] rfl (by omega) (fun k hk => by
    rw [cell_of_row _ _ _ _ _ _ hb]
    match k, hk with
    | 0, _ => rfl
    | 1, _ => rfl) (fun k hk => by
    match k, hk with
    | 0, _ => exact h
    | 1, _ => exact h') (by simpa using hl)
  refine C.mono ?_
  rintro e w' ⟨v, rfl, hv, hbl⟩
  exact ⟨v, rfl, by simpa using hv, hbl⟩
set_option maxRecDepth 100000 in
set_option maxHeartbeats 8000000 in
theorem pairs_it (m : Nat) (w0 : World) (bx pt wy B : Nat) (A : Option Addr) (n c : Nat) (xs : List UInt8) (J : List PairR → Int → World → Prop) (C : Client w0 bx pt wy B A n c J) (hA : RdB w0 A n xs) (hm : n ≤ 140737488351232) (hc : n ≤ c) :
    Iterates m Try.prog 36 #[.pointer (some ⟨bx, 0, none⟩), .pointer (some ⟨pt, 0, none⟩)] encQ B (fun rs W => J rs 0 W) (Nn xs B J) (Fn xs J) := by
  intro l BK W hBK hY hJ0 hB0
  have HR := Lib.hid (fun p W hW => Uint_any A n c p W xs hW hc (by omega))
  have HL : Hid (xs.length = n) := Lib.hid hA.len
  have HX := Lib.hid hA
  have HY := Lib.hid hY
  have HB := Lib.hid hBK
  have HC := Lib.hid C
  clear hA hY hBK C
  refine callsIn_wide.2 ?_
  go_enter Try.func36, Try.ntmps36
  go_wp2
  go_loopw [4, 5, 6] (fun ah at_ many wr => ∃ (rs : List PairR) (k : Nat) (Aa : Option Addr) (ma ca : Nat), ah = .slice Aa ma ca ∧ ma ≤ ca ∧ ma ≤ 200 ∧ at_ = .int .i64 k ∧ k ≤ n ∧ many = .int .i64 rs.length ∧ rs.length ≤ 4096 ∧ Hid (StandsB xs (psOf rs) k) ∧ Hid (∀ W e, J rs e W → RdB W Aa ma (lastK (psOf rs))) ∧ Hid (J rs 0 wr) ∧ Hid (BK wr)) (fun _ at_ _ _ => n - (intOf at_).toNat)
  case atStart => exact ⟨[], 0, none, 0, 0, rfl, Nat.le_refl _, Nat.zero_le _, rfl, Nat.zero_le _, rfl, Nat.zero_le _, Lib.hid (StandsB.start xs), Lib.hid (fun _ _ _ => RdB.nil _ _), Lib.hid hJ0, Lib.hid hB0⟩
  case round =>
    obtain ⟨rs, k, Aa, ma, ca, rfl, hma, hma2, rfl, hk, rfl, hrl, HST, HA, HJ, HBK⟩ := hrel
    have HBX := Lib.hid (HC.out.box _ _ _ HJ.out)
    have b0 : wr.cell? ⟨bx, 0, none⟩ = some (.slice A n c) := by rw [cell_of_row _ _ _ _ _ _ HBX.out]; rfl
    by_cases hlt : k < n
    · go_wp2
      have HG0 := Lib.hid (show (wr.alloc (.cells (arrU xs k 0) 58)).heap[wr.heap.size]? = some (.cells (arrU xs k 0) 58 (0, 0)) from heap_alloc_new wr _)
      have HM0 := Lib.hid ((Mid.start HJ.out).to ((Below.refl _ wr).alloc (Nat.le_refl _) (.cells (arrU xs k 0) 58)))
      have HK0 := Lib.hid (HB.out _ _ HBK.out (keeps_below ((Below.refl _ wr).alloc (Nat.le_refl _) (.cells (arrU xs k 0) 58))))
      have HLT := Lib.hid (Mid.lt HC.out HM0.out)
      clear HBK HBX b0
      change Code.wp _ _ _ _ (wr.alloc (.cells (arrU xs k 0) 58))
      generalize wr.alloc (.cells (arrU xs k 0) 58) = wz at *
      generalize wr.heap.size = g at *
      go_loopw [5, 19] (fun at_ t wr2 => ∃ j : Nat, j ≤ 3 ∧ t = .int .i64 j ∧ at_ = .int .i64 (posU xs k j) ∧ Hid (∀ i, i < j → errU xs k i = 0) ∧ Hid (wr2.heap[g]? = some (.cells (arrU xs k j) 58 (0, 0))) ∧ Hid (Mid J rs g 0 wr2) ∧ Hid (BK wr2)) (fun _ t _ => 3 - (intOf t).toNat)
      case atStart => exact ⟨0, by omega, rfl, rfl, Lib.hid (fun i hi => by omega), HG0, HM0, HK0⟩
      case round =>
        obtain ⟨j, hj, rfl, rfl, HE, HG, HM, HBJ⟩ := hrel
        obtain ⟨wj, rfl⟩ : ∃ x, x = wr := ⟨_, rfl⟩
        have HJJ := Lib.hid (Mid.out HC.out HM.out)
        have hbx := HC.out.box _ _ _ HJJ.out
        have hpt := HC.out.ptr _ _ _ HJJ.out
        have hwy := HC.out.why _ _ _ HJJ.out
        have b0 : wj.cell? ⟨bx, 0, none⟩ = some (.slice A n c) := by rw [cell_of_row _ _ _ _ _ _ hbx]; rfl
        have p0 : wj.cell? ⟨pt, 0, none⟩ = some (.pointer (some ⟨wy, 0, none⟩)) := by rw [cell_of_row _ _ _ _ _ _ hpt]; rfl
        have y0 : wj.cell? ⟨wy, 0, none⟩ = some (.int .i64 0) := by rw [cell_of_row _ _ _ _ _ _ hwy]; rfl
        have yf : wj.frozen? ⟨wy, 0, none⟩ = false := by simp [World.frozen?, hwy]
        have HWY := Lib.hid hwy
        have HPT := Lib.hid hpt
        have hxr := HX.out.below (HC.out.bel _ _ _ HJJ.out).1
        clear hbx hpt hwy
        by_cases hj3 : j < 3
        · obtain ⟨g0, gf⟩ := arr_cell (i := j) hj3 HG.out
          rw [if_neg (Nat.lt_irrefl j)] at g0
          have CU := Lib.hid (fun (W : World) (h : RdB W A n xs) => HR.out (posU xs k j) W h)
          have CU' : Hid (∀ (W : World), RdB W A n xs → Calls Try.prog 37 #[.slice A n c, .int .i64 (posU xs k j)] W fun e w' => e = .returned (.tuple #[.int .u64 (valU xs k j : Nat), .int .i64 (posU xs k (j + 1)), .int .i64 (errU xs k j)]) ∧ W = w') := CU
          have HG2 := Lib.hid (fun (W : World) (h : W.heap[g]? = some (.cells (arrU xs k j) 58 (0, 0))) => arr_set hj3 h)
          have HED := Lib.hid (fun a => ent_err (xs := xs) (a := a) (k := k) hj3 HE.out)
          have HE2 : Hid (errU xs k j = 0 → ∀ i, i < j + 1 → errU xs k i = 0) := Lib.hid fun h i hi => by
            rcases Nat.lt_or_ge i j with h1 | h1
            · exact HE.out i h1
            · obtain rfl : i = j := by omega
              exact h
          have hgy : g ≠ wy := by have := HLT.out.1; omega
          have hgp : g ≠ pt := by have := HLT.out.2.1; omega
          clear CU HE
          generalize valU xs k j = v at *
          generalize hnx : posU xs k (j + 1) = nx at *
          generalize errU xs k j = er at *
          go_upto_region 8 with (fail)
          have hxd : RdB wj.drew A n xs := hxr
          go_region_with (go_at_call 37; refine (CU'.out _ hxd).mono ?_; rintro e w' ⟨rfl, rfl⟩)
          all_goals
            have HG3 := Lib.hid (show ((wj.setCell ⟨g, j, none⟩ (.int .u64 (v : Int))).setCell ⟨wy, 0, none⟩ (.int .i64 er)).drew.heap[g]? = some (.cells (arrU xs k (j + 1)) 58 (0, 0)) from
              (heap_setCell_other _ ⟨wy, 0, none⟩ _ _ hgy).trans (HG2.out wj HG.out))
            have HM1 := HM.out.to (W' := wj.setCell ⟨g, j, none⟩ (.int .u64 (v : Int))) ((Below.refl g wj).setCell (p := ⟨g, j, none⟩) (Nat.le_refl _) _)
            have HM3 := Lib.hid ((HM1.set HC.out er).to (W' := ((wj.setCell ⟨g, j, none⟩ (.int .u64 (v : Int))).setCell ⟨wy, 0, none⟩ (.int .i64 er)).drew) (Below.refl g _).drew)
            have HK1 := HB.out _ _ HBJ.out ((KeepsOthers.setCell wj ⟨g, j, none⟩ (.int .u64 (v : Int))).from _)
            have HK2 := HB.out _ _ HK1 ((KeepsOthers.setCell _ ⟨wy, 0, none⟩ (.int .i64 er)).from _)
            have HK3 := Lib.hid (HB.out _ ((wj.setCell ⟨g, j, none⟩ (.int .u64 (v : Int))).setCell ⟨wy, 0, none⟩ (.int .i64 er)).drew HK2 ⟨Nat.le_refl _, fun _ _ _ hk _ => hk⟩)
            clear HM1 HK1 HK2 b0 p0 y0 yf g0 gf HWY HPT hxr hxd HBJ HM HG HJJ
            generalize ((wj.setCell ⟨g, j, none⟩ (.int .u64 (v : Int))).setCell ⟨wy, 0, none⟩ (.int .i64 er)).drew = wk at *
            have HJ3 := Lib.hid (Mid.out HC.out HM3.out)
            have p0 : wk.cell? ⟨pt, 0, none⟩ = some (.pointer (some ⟨wy, 0, none⟩)) := by rw [cell_of_row _ _ _ _ _ _ (HC.out.ptr _ _ _ HJ3.out)]; rfl
            have y0 : wk.cell? ⟨wy, 0, none⟩ = some (.int .i64 er) := by rw [cell_of_row _ _ _ _ _ _ (HC.out.why _ _ _ HJ3.out)]; rfl
            by_cases he : er = 0
            · subst he
              have HE3 := Lib.hid (HE2.out rfl)
              clear HE2 HED HG2
              go_wp2
              go_roundw
              case rel => exact ⟨j + 1, by omega, by go_num, by rw [hnx], HE3, HG3, HM3, HK3⟩
              case measure => (try simp [intOf]) <;> (try omega)
            · have hfin := HST.out.bad (by rw [HL.out]; exact hlt) (by rw [HED.out _ he]; exact he)
              rw [HED.out _ he] at hfin
              have HFIN := Lib.hid hfin
              clear HE2 HED HG2 hfin
              go_wp2
              (try simp only [Exit.inBlock, Exit.then])
              refine bodyPost_ret (results_none rfl _ _ _) rfl ?_
              exact ⟨⟨_, rfl⟩, ⟨rs, er, HFIN.out, HJ3.out⟩, HK3.out⟩
        · obtain rfl : j = 3 := by omega
          obtain ⟨q, hq, hq1, hq2, hb0, hb1, hb2⟩ := pos_nat HE.out
          have HEN := Lib.hid (show entRd xs (lastK (psOf rs)) k = _ from ent_go HE.out)
          obtain ⟨g0, _⟩ := arr_cell (i := 0) (by omega) HG.out
          obtain ⟨g1, _⟩ := arr_cell (i := 1) (by omega) HG.out
          obtain ⟨g2, _⟩ := arr_cell (i := 2) (by omega) HG.out
          rw [if_pos (by omega)] at g0 g1 g2
          rw [hq] at HEN ⊢
          have HEN2 := HEN
          rw [Int.toNat_natCast] at HEN2
          clear HE HEN hq
          generalize valU xs k 0 = v0 at *
          generalize valU xs k 1 = v1 at *
          generalize valU xs k 2 = v2 at *
          rw [HL.out] at hq2
          have hlast : Hid ((lastK (psOf rs)).length = ma) := Lib.hid (HA.out _ _ HJ.out).len
          go_wp2_with fail
          go_quiet (fail)
          have HMQ := Lib.hid (HM.out.to (W' := wj.drewN nq) (below_drewN (Below.refl g wj) nq))
          have HKQ := Lib.hid (HB.out _ (wj.drewN nq) HBJ.out ⟨Nat.le_refl _, fun _ _ _ hk _ => hk⟩)
          clear HM HBJ HJJ b0 p0 y0 yf HWY HPT hxr HG g0 g1 g2 HG0 HM0 HK0
          generalize wj.drewN nq = wq at *
          have HJQ := Lib.hid (Mid.out HC.out HMQ.out)
          have HAQ := Lib.hid (HA.out _ _ HJQ.out)
          have HXQ := Lib.hid (HX.out.below (HC.out.bel _ _ _ HJQ.out).1)
          have b0 : wq.cell? ⟨bx, 0, none⟩ = some (.slice A n c) := by rw [cell_of_row _ _ _ _ _ _ (HC.out.box _ _ _ HJQ.out)]; rfl
          have p0 : wq.cell? ⟨pt, 0, none⟩ = some (.pointer (some ⟨wy, 0, none⟩)) := by rw [cell_of_row _ _ _ _ _ _ (HC.out.ptr _ _ _ HJQ.out)]; rfl
          have y0 : wq.cell? ⟨wy, 0, none⟩ = some (.int .i64 0) := by rw [cell_of_row _ _ _ _ _ _ (HC.out.why _ _ _ HJQ.out)]; rfl
          have yf : wq.frozen? ⟨wy, 0, none⟩ = false := by simp [World.frozen?, HC.out.why _ _ _ HJQ.out]
          have PE : Hid (∀ (W : World) (e : Int), J rs 0 W → (W.setCell ⟨wy, 0, none⟩ (.int .i64 e)).cell? ⟨pt, 0, none⟩ = some (.pointer (some ⟨wy, 0, none⟩)) ∧ (W.setCell ⟨wy, 0, none⟩ (.int .i64 e)).cell? ⟨wy, 0, none⟩ = some (.int .i64 e)) := Lib.hid fun W e hJ => by
            have hJ := HC.out.set _ _ e _ hJ
            exact ⟨by rw [cell_of_row _ _ _ _ _ _ (HC.out.ptr _ _ _ hJ)]; rfl, by rw [cell_of_row _ _ _ _ _ _ (HC.out.why _ _ _ hJ)]; rfl⟩
          have FIN : Hid (∀ (W : World) (e : Int), J rs 0 W → BK W → readAll xs = (psOf rs, e) → Fn xs J (W.setCell ⟨wy, 0, none⟩ (.int .i64 e)) ∧ BK (W.setCell ⟨wy, 0, none⟩ (.int .i64 e))) := Lib.hid fun W e hJ hb he =>
            ⟨⟨rs, e, he, HC.out.set _ _ _ _ hJ⟩, HB.out _ _ hb ((KeepsOthers.setCell _ _ _).from _)⟩
          have BAD : Hid (∀ e : Int, (entRd xs (lastK (psOf rs)) k).1 = e → e ≠ 0 → readAll xs = (psOf rs, e)) := Lib.hid fun e he h0 => by
            rw [← he]
            exact HST.out.bad (by rw [HL.out]; exact hlt) (by rw [he]; exact h0)
          rw [HEN2.out] at BAD
          clear HA
          generalize hX : lastK (psOf rs) = X at *
          by_cases c0 : ma < v0
          · have hr := FIN.out wq 11 HJQ.out HKQ.out (BAD.out 11 (by unfold entKey; rw [if_pos (by rw [hlast.out]; exact c0)]) (by omega))
            have HR2 := Lib.hid hr
            obtain ⟨pe, ye⟩ := PE.out wq 11 HJQ.out
            clear hr BAD PE FIN
            go_wp2
            (try simp only [Exit.inBlock, Exit.then])
            refine bodyPost_ret (results_none rfl _ _ _) rfl ?_
            exact ⟨⟨_, rfl⟩, HR2.out.1, HR2.out.2⟩
          · by_cases c1 : 200 < v1 ∨ 200 < v0 + v1 ∨ 4096 < v2
            · have hr := FIN.out wq 3 HJQ.out HKQ.out (BAD.out 3 (by unfold entKey; rw [if_neg (by rw [hlast.out]; exact c0), if_pos c1]) (by omega))
              have HR2 := Lib.hid hr
              obtain ⟨pe, ye⟩ := PE.out wq 3 HJQ.out
              clear hr BAD PE FIN
              by_cases d1 : 200 < v1
              · go_wp2
                (try simp only [Exit.inBlock, Exit.then])
                refine bodyPost_ret (results_none rfl _ _ _) rfl ?_
                exact ⟨⟨_, rfl⟩, HR2.out.1, HR2.out.2⟩
              · by_cases d2 : 200 < v0 + v1
                · go_wp2
                  (try simp only [Exit.inBlock, Exit.then])
                  refine bodyPost_ret (results_none rfl _ _ _) rfl ?_
                  exact ⟨⟨_, rfl⟩, HR2.out.1, HR2.out.2⟩
                · have d3 : 4096 < v2 := by omega
                  go_wp2
                  (try simp only [Exit.inBlock, Exit.then])
                  refine bodyPost_ret (results_none rfl _ _ _) rfl ?_
                  exact ⟨⟨_, rfl⟩, HR2.out.1, HR2.out.2⟩
            · have e1 : ¬ 200 < v1 := by omega
              have e2 : ¬ 200 < v0 + v1 := by omega
              have e3 : ¬ 4096 < v2 := by omega
              by_cases c2 : n - q < v1 + v2
              · have hr := FIN.out wq 10 HJQ.out HKQ.out (BAD.out 10 (by unfold entKey; rw [if_neg (by rw [hlast.out]; exact c0), if_neg c1, if_pos (by rw [HL.out]; exact c2)]) (by omega))
                have HR2 := Lib.hid hr
                obtain ⟨pe, ye⟩ := PE.out wq 10 HJQ.out
                have hsub : ((n : Int) - (q : Int)) = ((n - q : Nat) : Int) := by omega
                clear hr BAD PE FIN c1
                go_wp2
                (try simp only [Exit.inBlock, Exit.then])
                refine bodyPost_ret (results_none rfl _ _ _) rfl ?_
                exact ⟨⟨_, rfl⟩, HR2.out.1, HR2.out.2⟩
              · have hsub : ((n : Int) - (q : Int)) = ((n - q : Nat) : Int) := by omega
                obtain ⟨A1, s1, r1⟩ := cut_hu HAQ.out ca hma v0 (by omega)
                obtain ⟨A2, s2, r2⟩ := cut_lh HXQ.out c hc q (q + v1) (by omega) (by omega) (q : Int) ((q : Int) + (v1 : Int)) rfl (by omega)
                rw [Nat.add_sub_cancel_left] at s2 r2
                have HKL : Hid ((X.take v0 ++ (xs.drop q).take v1).length = v0 + v1) := Lib.hid (by
                  rw [List.length_append, r1.len, r2.len])
                have HC2 := Lib.hid (concat_two (wq.alloc (.cells #[.slice A1 v0 ca, .slice A2 v1 (c - q)] 24)).drew wq.heap.size A1 v0 ca (X.take v0) A2 v1 (c - q) ((xs.drop q).take v1) (heap_alloc_new wq _) (r1.alloc _) (r2.alloc _) (by have := HKL.out; rw [List.length_append] at this; omega))
                have HVR := Lib.hid (show entKey xs X v0 v1 v2 q = if lessL X (X.take v0 ++ (xs.drop q).take v1) ≠ -1 ∨ com X (X.take v0 ++ (xs.drop q).take v1) ≠ v0 then (11, ⟨[], []⟩, 0) else (0, ⟨X.take v0 ++ (xs.drop q).take v1, (xs.drop (q + v1)).take v2⟩, q + v1 + v2) by
                  unfold entKey
                  rw [if_neg (by rw [hlast.out]; exact c0), if_neg c1, if_neg (by rw [HL.out]; exact c2)])
                generalize X.take v0 ++ (xs.drop q).take v1 = K at *
                clear r1 r2
                have hw1 : IntKind.i64.wrap (v1 : Int) = (v1 : Int) := by rw [IntKind.wrap_i64]; omega
                have hw2 : IntKind.i64.wrap ((q : Int) + (v1 : Int)) = (q : Int) + (v1 : Int) := by rw [IntKind.wrap_i64]; omega
                go_upto_region 19 with (fail)
                go_region_with (go_at_call 38; refine HC2.out.mono ?_; rintro e w1 ⟨kv, rfl, hkv, hbk⟩)
                have hq1b : Below wq.heap.size wq w1 := (((Below.refl _ wq).alloc (Nat.le_refl _) (.cells #[.slice A1 v0 ca, .slice A2 v1 (c - q)] 24)).drew).trans (hbk.mono (by simp [World.drew]))
                have HKV := Lib.hid (hkv.mono (base' := wq.heap.size) (by simp [World.drew]))
                obtain ⟨Ak, mk, ck, rfl, hmk, hmkc, _, hrk, _⟩ := HKV.out.form
                have HBQ := Lib.hid (HC.out.bel _ _ _ HJQ.out).2
                have HMN := Lib.hid (HMQ.out.to (hq1b.mono HMQ.out.size))
                have HKN := Lib.hid (HB.out _ _ HKQ.out (keeps_below hq1b))
                have HA1 := Lib.hid (HAQ.out.below hq1b)
                have HX1 := Lib.hid (HXQ.out.below hq1b)
                have HRK := Lib.hid hrk
                have hmk2 : mk ≤ 200 := by have h1 := hmk.out; have h2 := HKL.out; omega
                clear hkv hbk hrk hq1b b0 p0 y0 yf s1 s2 HC2 HMQ HKQ HAQ HXQ HJQ hmk
                have HJN := Lib.hid (Mid.out HC.out HMN.out)
                have b0 : w1.cell? ⟨bx, 0, none⟩ = some (.slice A n c) := by rw [cell_of_row _ _ _ _ _ _ (HC.out.box _ _ _ HJN.out)]; rfl
                have p0 : w1.cell? ⟨pt, 0, none⟩ = some (.pointer (some ⟨wy, 0, none⟩)) := by rw [cell_of_row _ _ _ _ _ _ (HC.out.ptr _ _ _ HJN.out)]; rfl
                have y0 : w1.cell? ⟨wy, 0, none⟩ = some (.int .i64 0) := by rw [cell_of_row _ _ _ _ _ _ (HC.out.why _ _ _ HJN.out)]; rfl
                have yf : w1.frozen? ⟨wy, 0, none⟩ = false := by simp [World.frozen?, HC.out.why _ _ _ HJN.out]
                have CP := Lib.hid (Compare_any Aa ma ca X Ak mk ck K w1 HA1.out HRK.out)
                go_wp2_with fail
                refine CP.out.mono ?_
                rintro e w2 ⟨rfl, rfl⟩
                by_cases hless : lessL X K = -1
                · rw [hless]
                  have SC := Lib.hid (shared_any Aa ma ca X Ak mk ck K w2 HA1.out HRK.out (by omega) (by omega))
                  clear CP
                  go_wp2_with fail
                  refine SC.out.mono ?_
                  rintro e w3 ⟨rfl, m3, rfl⟩
                  have HMN2 := Lib.hid (HMN.out.to (W' := w2.drewN m3) (below_drewN (Below.refl g w2) m3))
                  have HKN2 := Lib.hid (HB.out _ (w2.drewN m3) HKN.out ⟨Nat.le_refl _, fun _ _ _ hk _ => hk⟩)
                  have HKV2 := Lib.hid (HKV.out.drewN m3)
                  have HX2 := Lib.hid (HX1.out.drewN m3)
                  have HRK2 := Lib.hid (HRK.out.drewN m3)
                  clear HMN HKN HKV HX1 HRK HA1 HJN b0 p0 y0 yf SC
                  generalize w2.drewN m3 = w4 at *
                  have HMN := HMN2
                  have HKN := HKN2
                  clear HMN2 HKN2
                  have HJN := Lib.hid (Mid.out HC.out HMN.out)
                  have b0 : w4.cell? ⟨bx, 0, none⟩ = some (.slice A n c) := by rw [cell_of_row _ _ _ _ _ _ (HC.out.box _ _ _ HJN.out)]; rfl
                  have p0 : w4.cell? ⟨pt, 0, none⟩ = some (.pointer (some ⟨wy, 0, none⟩)) := by rw [cell_of_row _ _ _ _ _ _ (HC.out.ptr _ _ _ HJN.out)]; rfl
                  have y0 : w4.cell? ⟨wy, 0, none⟩ = some (.int .i64 0) := by rw [cell_of_row _ _ _ _ _ _ (HC.out.why _ _ _ HJN.out)]; rfl
                  have yf : w4.frozen? ⟨wy, 0, none⟩ = false := by simp [World.frozen?, HC.out.why _ _ _ HJN.out]
                  have hcl := (com_le X K).1
                  have hclm := hlast.out
                  by_cases hcm : com X K = v0
                  · have hent : entRd xs X k = (0, ⟨K, (xs.drop (q + v1)).take v2⟩, q + v1 + v2) := by rw [HEN2.out, HVR.out, if_neg (by rw [hcm]; simp [hless])]
                    rw [hcm]
                    have hw0 : IntKind.i64.wrap (v0 : Int) = (v0 : Int) := by rw [IntKind.wrap_i64]; omega
                    by_cases hmany : rs.length = 4096
                    · have hr := FIN.out w4 3 HJN.out HKN.out (HST.out.many (by rw [HL.out]; exact hlt) (by rw [hX, hent]) (by rw [psOf_len]; exact hmany))
                      have HR2 := Lib.hid hr
                      obtain ⟨pe, ye⟩ := PE.out w4 3 HJN.out
                      clear hr BAD PE FIN hent
                      go_wp2
                      (try simp only [Exit.inBlock, Exit.then])
                      refine bodyPost_ret (results_none rfl _ _ _) rfl ?_
                      exact ⟨⟨_, rfl⟩, HR2.out.1, HR2.out.2⟩
                    · have HST2 := Lib.hid (HST.out.step (by rw [HL.out]; exact hlt) (by rw [hX, hent]) (by rw [psOf_len]; exact hmany))
                      rw [hX, hent] at HST2
                      dsimp only at HST2
                      clear BAD PE FIN hent HVR HEN2
                      have hw3 : IntKind.i64.wrap (v2 : Int) = (v2 : Int) := by rw [IntKind.wrap_i64]; omega
                      have hw4 : IntKind.i64.wrap ((q : Int) + (v1 : Int) + (v2 : Int)) = (q : Int) + (v1 : Int) + (v2 : Int) := by rw [IntKind.wrap_i64]; omega
                      obtain ⟨A3, s3, r3⟩ := cut_lh HX2.out c hc (q + v1) (q + v1 + v2) (by omega) (by omega) ((q : Int) + (v1 : Int)) ((q : Int) + (v1 : Int) + (v2 : Int)) (by omega) (by omega)
                      rw [Nat.add_sub_cancel_left] at s3 r3
                      have CL := Lib.hid (clone_any A3 v2 (c - (q + v1)) w4 _ r3 (by omega))
                      clear r3
                      go_upto_region 25 with (fail)
                      refine (wpIn_wide (n := m)).1 ?_
                      gi_wp2_with fail
                      refine ⟨trivial, fun h => by simp [Fence.wide] at h, (callsIn_wide.2 CL.out).mono ?_⟩
                      rintro e w5 ⟨vv, rfl, hvv, hb5⟩
                      have HB5 := Lib.hid hb5
                      obtain ⟨Ave, mve, cve, rfl, _⟩ := hvv.form
                      have HBS := Lib.hid (HC.out.bel _ _ _ HJN.out).2
                      have HRV : Hid (Nn xs B J rs ⟨.slice Ak mk ck, .slice Ave mve cve, ⟨K, (xs.drop (q + v1)).take v2⟩⟩ w5) := Lib.hid
                        ⟨⟨_, HST2.out⟩, HC.out.low _ _ _ _ HJN.out hb5, (HKV2.out.mono HBQ.out).below hb5, hvv.mono HBS.out⟩
                      have HK5 := Lib.hid (HB.out _ _ HKN.out (keeps_below hb5))
                      obtain ⟨fn, tmps, assign, body, hy, hR⟩ := HY.out rs ⟨.slice Ak mk ck, .slice Ave mve cve, ⟨K, (xs.drop (q + v1)).take v2⟩⟩ w5 HRV.out HK5.out
                      have HRR := Lib.hid hR
                      dsimp only [encQ] at hy
                      clear hvv hb5 hR CL s3
                      gi_wp2
                      refine ⟨fun h => by simp [Fence.wide] at h, HRR.out.mono ?_⟩
                      rintro e2 w6 ⟨rfl, hJ6, hbk6⟩
                      have HJ6 := Lib.hid hJ6
                      have HBK6 := Lib.hid hbk6
                      have HA6 : Hid (∀ W e, J (rs ++ [⟨.slice Ak mk ck, .slice Ave mve cve, ⟨K, (xs.drop (q + v1)).take v2⟩⟩]) e W → RdB W Ak mk (lastK (psOf (rs ++ [⟨.slice Ak mk ck, .slice Ave mve cve, ⟨K, (xs.drop (q + v1)).take v2⟩⟩])))) := Lib.hid fun W e hJ => by
                        obtain ⟨Ak2, mk2, ck2, e1, _, hr⟩ := HC.out.key _ _ _ _ hJ
                        injection e1 with e3 e4 e5
                        subst e3 e4 e5
                        rw [psOf_snoc, lastK_snoc]
                        exact hr
                      clear hJ6 hbk6 HRR hy b0 p0 y0 yf
                      gi_wp2
                      have HST3 : Hid (StandsB xs (psOf (rs ++ [⟨.slice Ak mk ck, .slice Ave mve cve, ⟨K, (xs.drop (q + v1)).take v2⟩⟩])) (q + v1 + v2)) := Lib.hid (by rw [psOf_snoc]; exact HST2.out)
                      have hlen6 : (rs ++ [(⟨.slice Ak mk ck, .slice Ave mve cve, ⟨K, (xs.drop (q + v1)).take v2⟩⟩ : PairR)]).length = rs.length + 1 := by simp
                      generalize rs ++ [(⟨.slice Ak mk ck, .slice Ave mve cve, ⟨K, (xs.drop (q + v1)).take v2⟩⟩ : PairR)] = rs2 at *
                      have hlI : ((rs2.length : Nat) : Int) = (rs.length : Int) + 1 := by omega
                      clear HRV HST2 HK5 HB5
                      go_wp2
                      go_roundw
                      case rel => exact ⟨rs2, q + v1 + v2, Ak, mk, ck, rfl, hmkc, hmk2, by go_num, by omega, by rw [hlI], by omega, HST3, HA6, HJ6, HBK6⟩
                      case measure => (try simp [intOf]) <;> (try omega)
                  · have hr := FIN.out w4 11 HJN.out HKN.out (BAD.out 11 (by rw [HVR.out, if_pos (.inr hcm)]) (by omega))
                    have HR2 := Lib.hid hr
                    obtain ⟨pe, ye⟩ := PE.out w4 11 HJN.out
                    clear hr BAD PE FIN
                    have hw0 : IntKind.i64.wrap (v0 : Int) = (v0 : Int) := by rw [IntKind.wrap_i64]; omega
                    have hcm2 : ¬ ((com X K : Nat) : Int) = (v0 : Int) := by omega
                    generalize com X K = cm at *
                    go_wp2
                    (try simp only [Exit.inBlock, Exit.then])
                    refine bodyPost_ret (results_none rfl _ _ _) rfl ?_
                    exact ⟨⟨_, rfl⟩, HR2.out.1, HR2.out.2⟩
                · have h0 : 0 ≤ lessL X K := by rcases lessL_vals X K with h | h | h <;> omega
                  have hr := FIN.out w2 11 HJN.out HKN.out (BAD.out 11 (by rw [HVR.out, if_pos (.inl hless)]) (by omega))
                  have HR2 := Lib.hid hr
                  obtain ⟨pe, ye⟩ := PE.out w2 11 HJN.out
                  clear hr BAD PE FIN
                  clear HVR
                  generalize lessL X K = C at *
                  go_wp2
                  (try simp only [Exit.inBlock, Exit.then])
                  refine bodyPost_ret (results_none rfl _ _ _) rfl ?_
                  exact ⟨⟨_, rfl⟩, HR2.out.1, HR2.out.2⟩
    · obtain rfl : k = n := by omega
      go_wp2
      refine bodyPost_end (results_none rfl _ _ _) rfl ?_
      exact ⟨⟨_, rfl⟩, ⟨rs, 0, HST.out.done HL.out.symm, HJ.out⟩, HBK.out⟩
end Go.Proofs.Ythaciglechijkaa
