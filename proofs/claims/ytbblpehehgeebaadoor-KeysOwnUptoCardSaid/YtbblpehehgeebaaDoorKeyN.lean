/-
  keys.Next: a range over slices.Backward whose body returns. No statement is proved here.
-/
import Derived.RangeFuncNested
import Derived.RangeFuncBound
import Derived.RangeFuncCalls
import Derived.RangeFuncLeaves
import Derived.RangeFuncBox
import Derived.Shelf.Abstract
import Derived.Shelf.RegionOpen
import Derived.WalkKit
import Derived.OwnWalkIn
import Derived.TacticsInMore
import Derived.LoopNIn
import Derived.LoopIn
import Derived.Test.YtbblpehehgeebaaDoorKeyW
namespace Go.Proofs.YtbblpehehgeebaaDoor
open Go.RowKit Go.Shelf
set_option linter.unusedVariables false
attribute [local go_sem] Oper.semAt_some

theorem keeps_below {B : Nat} {W W' : World} (h : Below W.heap.size W W') : KeepsFrom B W W' := ⟨h.size, fun k o _ hk _ => (h.block k (Array.getElem?_eq_some_iff.1 hk).1).trans hk⟩
/-- The byte of round k, from behind. -/
def bk (xs : List UInt8) (k : Nat) : UInt8 := xs[xs.length - 1 - k]?.getD 0
def encK (xs : List UInt8) (k : Nat) : Array Value := #[.int .i64 ((xs.length - 1 - k : Nat) : Int), .int .u8 (((bk xs k).toNat : Nat) : Int)]
theorem backward_any (A : Option Addr) (n c : Nat) (w : World) :
    Calls Tryd.prog 27 #[.slice A n c] w fun e w' => e = .returned (.func (.func 37) #[] #[.pointer (some ⟨w.heap.size, 0, none⟩)]) ∧ w' = w.alloc (.cells #[.slice A n c] 24) := by
  go_enter Tryd.func27, Tryd.ntmps27
  go_wp2
  go_ret
  exact ⟨rfl, rfl⟩
set_option maxRecDepth 100000 in
set_option maxHeartbeats 2000000 in
theorem back_in (m : Nat) (hn : 1 ≤ m) (l Bs n₀ : Nat) (A : Option Addr) (n c : Nat) (xs : List UInt8) (hm : n ≤ 140737488351232) (J Jx : List Nat → World → Prop)
    (hY : ∀ pre x W, J pre W → pre.length < n → YieldAt Fence.wide (m - 1) Tryd.prog l (encK xs x) W fun e W' =>
      (e = .returned (.bool true) ∧ J (pre ++ [x]) W' ∧ Below n₀ W W') ∨ (e = .returned (.bool false) ∧ Jx (pre ++ [x]) W'))
    (W : World) (hBs : W.cell? ⟨Bs, 0, none⟩ = some (.slice A n c)) (hb : Bs < n₀) (hA : RdB W A n xs) (hAb : ∀ a, A = some a → a.block < n₀) (h0 : J [] W) :
    CallsIn Fence.wide m Tryd.prog 37 #[.func (.yield l) #[] #[], .pointer (some ⟨Bs, 0, none⟩)] W fun e W' => (∃ v, e = .returned v) ∧
      ((∃ ys, ys = List.range n ∧ J ys W') ∨ (∃ pre, (∃ k, k ≤ n ∧ pre = List.range k) ∧ Jx pre W')) := by
  have hl := hA.len
  have HA := Lib.hid hA
  have HY := Lib.hid hY
  have HAB := Lib.hid hAb
  have HL := Lib.hid hl
  have HBS := Lib.hid hBs
  clear hY hA hAb hl
  refine callsIn_of_wp Tryd.func37 rfl trivial ?_
  simp only [Tryd.ntmps37, List.size_toArray, List.length_cons, List.length_nil, Nat.reduceAdd, Nat.reduceSub, Array.replicate_succ, Array.replicate_zero, List.push_toArray, List.append_toArray, List.nil_append, List.cons_append]
  gi_wp2
  gi_loopw [3] (fun i wr => ∃ k : Nat, k ≤ n ∧ i = .int .i64 ((n : Int) - 1 - (k : Int)) ∧ J (List.range k) wr ∧ Below n₀ W wr) (fun i _ => (intOf i + 1).toNat)
  case atStart => exact ⟨0, Nat.zero_le _, by simp, h0, Below.refl _ _⟩
  case round =>
    obtain ⟨k, hk, rfl, hJs, hnx⟩ := hrel
    have hcb : wr.cell? ⟨Bs, 0, none⟩ = some (.slice A n c) := (hnx.cell (p := ⟨Bs, 0, none⟩) hb).trans HBS.out
    clear hBs
    by_cases hlt : k < n
    · obtain ⟨b, off, rfl⟩ := HA.out.addr (by omega)
      have hi : xs.length - 1 - k < xs.length := by have := HL.out; omega
      have hcx := (hnx.cell (p := ⟨b, off + (xs.length - 1 - k), none⟩) (show b < n₀ from HAB.out ⟨b, off, none⟩ rfl)).trans (HA.out.cells _ hi)
      have hbk : xs[xs.length - 1 - k] = bk xs k := by unfold bk; rw [List.getElem?_eq_getElem hi]; rfl
      rw [hbk] at hcx
      have hii : (n : Int) - 1 - (k : Int) = ((xs.length - 1 - k : Nat) : Int) := by have := HL.out; omega
      obtain ⟨fn, tmps, assign, body, hy, hR⟩ := HY.out _ k wr hJs (by rw [List.length_range]; exact hlt)
      have HRR := Lib.hid hR
      unfold encK at hy
      have hin : xs.length - 1 - k < n := by have := HL.out; omega
      have hpp : (n : Int) - 1 - ((k + 1 : Nat) : Int) = ((xs.length - 1 - k : Nat) : Int) - 1 := by omega
      rw [hii]
      clear hR hbk hi hii
      generalize xs.length - 1 - k = i at *
      generalize bk xs k = x at *
      gi_wp2
      refine HRR.out.mono ?_
      rintro e W3 (⟨rfl, hJ3, hk3⟩ | ⟨rfl, hJx3⟩)
      · gi_wp2
        go_roundw
        case rel => exact ⟨k + 1, by omega, by rw [hpp], by rw [List.range_succ]; exact hJ3, hnx.trans hk3⟩
        case measure => (try simp [intOf]) <;> (try omega)
      · gi_wp2
        refine bodyPost_ret (results_none rfl _ _ _) rfl ?_
        exact ⟨⟨_, rfl⟩, .inr ⟨_, ⟨k + 1, by omega, (List.range_succ).symm⟩, hJx3⟩⟩
    · obtain rfl : k = n := by omega
      gi_wp2
      go_end0
      exact ⟨⟨_, rfl⟩, .inl ⟨_, rfl, hJs⟩⟩
theorem back_stops (m : Nat) (hn : 1 ≤ m) (Bs n₀ : Nat) (A : Option Addr) (n c : Nat) (xs : List UInt8) (hm : n ≤ 140737488351232) (w : World) (hn₀ : n₀ ≤ w.heap.size)
    (hBs : w.cell? ⟨Bs, 0, none⟩ = some (.slice A n c)) (hb : Bs < n₀) (hA : RdB w A n xs) (hAb : ∀ a, A = some a → a.block < n₀) :
    SeqStopsK Fence.wide m Tryd.prog 37 #[.pointer (some ⟨Bs, 0, none⟩)] (encK xs) (Below n₀) (fun ys => ys = List.range n) (fun pre => ∃ k, k ≤ n ∧ pre = List.range k) n w := fun l J Jx W hW _ _ hY h0 =>
  back_in m hn l Bs n₀ A n c xs hm J Jx hY W ((hW.cell (p := ⟨Bs, 0, none⟩) (show Bs < w.heap.size by omega)).trans hBs) hb (hA.below hW) hAb h0
theorem OwnB.block {w : World} {base : Nat} {v : Value} {xs : List UInt8} (h : OwnB w base v xs) (g : Nat) (hg : v.ownBlock = some g) : base ≤ g ∧ g < w.heap.size := by
  rcases h.2 with ⟨rfl, _⟩ | ⟨b, cap, cur, rfl, hb, hh, _⟩
  · simp [Value.ownBlock] at hg
  · simp [Value.ownBlock] at hg
    subst hg
    exact ⟨hb, (Array.getElem?_eq_some_iff.1 hh).1⟩
/-- What turns no block of its own leaves it. -/
theorem OwnB.same {w w' : World} {base : Nat} {v : Value} {xs : List UInt8} (h : OwnB w base v xs) (hs : ∀ g, v.ownBlock = some g → w'.heap[g]? = w.heap[g]?) : OwnB w' base v xs := by
  refine ⟨h.1, ?_⟩
  rcases h.2 with h2 | ⟨b, cap, cur, rfl, hb, hh, r⟩
  · exact .inl h2
  · exact .inr ⟨b, cap, cur, rfl, hb, by rw [hs b rfl]; exact hh, r⟩
theorem heap_lt' {w : World} {g : Nat} {o : Obj} (h : w.heap[g]? = some o) : g < w.heap.size := by
  rcases Nat.lt_or_ge g w.heap.size with h2 | h2
  · exact h2
  · rw [Array.getElem?_eq_none h2] at h; cases h
def resK (xs : List UInt8) (pre : List Nat) : List UInt8 := xs.take (xs.length - 1 - pre.getLast?.getD 0) ++ [bk xs (pre.getLast?.getD 0) + 1]
def CondK (xs : List UInt8) (pre : List Nat) : Prop := ∃ p k, pre = p ++ [k] ∧ (∀ j ∈ p, bk xs j = 255) ∧ bk xs k ≠ 255
def IxK (b0 : Nat) (w : World) (xs : List UInt8) (c : Code) (pre : List Nat) (W : World) : Prop :=
  ((∃ v, Boxed W (b0 + 1) 24 v ∧ W.ownsRow b0 5 1 v (resK xs pre).length ((resK xs pre).map bv) ∧ True) ∧ Below b0 w W) ∧ (c = .ret ∧ CondK xs pre)
theorem ixK_own (b0 B : Nat) (w : World) (xs : List UInt8) (hb : b0 ≤ w.heap.size) (hB : b0 ≤ B) (c : Code) : OwnFrom B (IxK b0 w xs c) :=
  OwnFrom.and (OwnFrom.and (Own.from (holdsRow_own b0 (b0 + 1) 24 5 1 (fun pre => (resK xs pre).length) (fun pre => (resK xs pre).map bv) (fun _ _ => True)) B) (ownFrom_below hb hB)) (ownFrom_pure B (fun pre => c = .ret ∧ CondK xs pre))
theorem condK_next (xs : List UInt8) (k : Nat) (hk : k ≤ xs.length) (h : CondK xs (List.range k)) : resK xs (List.range k) = nextL xs := by
  obtain ⟨p, j, hp, h1, h2⟩ := h
  rcases k with _ | k
  · simp at hp
  · rw [List.range_succ] at hp
    obtain ⟨rfl, h4⟩ := List.append_inj' hp rfl
    injection h4 with h4
    subst h4
    unfold resK
    rw [List.range_succ, List.getLast?_concat]
    show xs.take (xs.length - 1 - k) ++ [bk xs k + 1] = _
    have hi : xs.length - 1 - k < xs.length := by omega
    have hbk : bk xs k = xs[xs.length - 1 - k] := by unfold bk; rw [List.getElem?_eq_getElem hi]; rfl
    have hs := split_at xs (xs.length - 1 - k) hi
    have hn := nextL_at (xs.take (xs.length - 1 - k)) (xs.drop (xs.length - 1 - k + 1)) xs[xs.length - 1 - k] (by rw [← hbk]; exact h2) (by
      intro d hd
      obtain ⟨q, hq, rfl⟩ := List.mem_iff_getElem.1 hd
      rw [List.length_drop] at hq
      rw [List.getElem_drop]
      have h5 := h1 (xs.length - 1 - (xs.length - 1 - k + 1 + q)) (by rw [List.mem_range]; omega)
      unfold bk at h5
      rw [show xs.length - 1 - (xs.length - 1 - (xs.length - 1 - k + 1 + q)) = xs.length - 1 - k + 1 + q by omega, List.getElem?_eq_getElem (by omega)] at h5
      exact h5)
    rw [← hs] at hn
    rw [hn, hbk]
theorem all_next (xs : List UInt8) (h : ∀ k ∈ List.range xs.length, bk xs k = 255) : nextL xs = [] := by
  refine (nextL_full xs).2 fun d hd => ?_
  obtain ⟨q, hq, rfl⟩ := List.mem_iff_getElem.1 hd
  have h5 := h (xs.length - 1 - q) (by rw [List.mem_range]; omega)
  unfold bk at h5
  rw [show xs.length - 1 - (xs.length - 1 - q) = q by omega, List.getElem?_eq_getElem hq] at h5
  exact h5
set_option maxRecDepth 100000 in
set_option maxHeartbeats 4000000 in
theorem Next_any (A : Option Addr) (n c : Nat) (w : World) (xs : List UInt8) (h : RdB w A n xs) (hn : n ≤ 140737488351232) (hc : n ≤ c) (hAb : ∀ a, A = some a → a.block < w.heap.size) :
    Calls Tryd.prog 16 #[.slice A n c] w fun e w' => ∃ v, e = .returned v ∧ OwnB w' w.heap.size v (nextL xs) ∧ Below w.heap.size w w' := by
  have HF := Lib.hid backward_any
  obtain ⟨NX, hnx0⟩ : ∃ y, y = nextL xs := ⟨_, rfl⟩
  rw [← hnx0]
  have HNX := Lib.hid hnx0
  clear hnx0
  refine (callsIn_wide (n := 3)).1 ?_
  refine callsIn_of_wp_marks Tryd.func16 rfl trivial ?_
  simp only [Tryd.ntmps16, List.size_toArray, List.length_cons, List.length_nil, Nat.reduceAdd, Nat.reduceSub, Array.replicate_succ, Array.replicate_zero, List.push_toArray, List.append_toArray, List.nil_append, List.cons_append]
  gi_wp2_with fail
  refine ⟨trivial, (callsIn_wide.2 (HF.out _ _ _ _)).mono ?_⟩
  rintro e w3 ⟨rfl, hw3⟩
  gi_wp2_with fail
  have hz3 : w3.heap.size = w.heap.size + 3 := by rw [hw3]; simp
  have q0 : w3.heap[w.heap.size]? = some (.cells #[.slice A n c] 24 (0, 0)) := by
    rw [hw3]; exact ((Below.heap_alloc _ _ _ (by simp; omega)).trans (Below.heap_alloc _ _ _ (by simp))).trans (World.alloc_heap_new w _)
  have q1 : w3.heap[w.heap.size + 1]? = some (.cells #[.slice none 0 0] 24 (0, 0)) := by
    rw [hw3]; refine (Below.heap_alloc _ _ _ (by simp)).trans ?_
    have := World.alloc_heap_new (w.alloc (.cells #[.slice A n c] 24)) (.cells #[.slice none 0 0] 24); rwa [World.size_alloc] at this
  have q2 : w3.heap[w.heap.size + 2]? = some (.cells #[.slice A n c] 24 (0, 0)) := by
    rw [hw3]
    have := World.alloc_heap_new ((w.alloc (.cells #[.slice A n c] 24)).alloc (.cells #[.slice none 0 0] 24)) (.cells #[.slice A n c] 24)
    rwa [World.size_alloc, World.size_alloc] at this
  have hb03 : Below w.heap.size w w3 := by
    rw [hw3]
    exact (((Below.refl _ _).alloc (Nat.le_refl _) _).alloc (by simp) _).alloc (by simp; omega) _
  have HL := Lib.hid h.len
  have HX := Lib.hid (h.below hb03)
  rw [show w.heap.size + 1 + 1 = w.heap.size + 2 by omega]
  rw [← hw3]
  clear hw3 h HF
  refine wpIn_rangeFunc_ownG rfl (by omega) (gf := 37) (lb := #[.pointer (some ⟨w.heap.size + 2, 0, none⟩)]) rfl trivial (enters_of Tryd.func37 (by kernel_rfl) rfl)
    (back_stops 2 (by omega) (w.heap.size + 2) (w.heap.size + 3) A n c xs hn w3 (by omega) (by rw [cell_of_row _ _ _ _ _ _ q2]; rfl) (by omega) HX.out (fun a ha => by have := hAb a ha; omega))
    belowK_t (belowK_b (by omega)) (Below.refl _ _) (fun _ => rfl)
    (fun pre W => (∀ j ∈ pre, bk xs j = 255) ∧ Below (w.heap.size + 3) w3 W)
    (IxK w.heap.size w xs)
    (OwnFrom.and (ownFrom_pure _ (fun pre => ∀ j ∈ pre, bk xs j = 255)) (ownFrom_below (by omega) (by omega)))
    (ixK_own _ _ _ _ (Nat.le_refl _) (by omega))
    ⟨by simp, Below.refl _ _⟩
    (fun k => { tmps := #[.slice A n c, .pointer (some ⟨w.heap.size, 0, none⟩), .pointer (some ⟨w.heap.size + 1, 0, none⟩), .int .i64 ((xs.length - 1 - k : Nat) : Int), .int .u8 (((bk xs k).toNat : Nat) : Int), undef, .slice A n c, .func (.func 37) #[] #[.pointer (some ⟨w.heap.size + 2, 0, none⟩)], .int .i64 ((xs.length - 1 - k : Nat) : Int), .int .u8 (((bk xs k).toNat : Nat) : Int), undef, undef, undef, undef, undef, undef, undef, undef, undef, undef, undef, undef, undef, undef], defers := [] }) ?assign ?body ?done ?stop
  case assign =>
    intro l x W K hK
    unfold encK
    gi_wp2
    exact hK
  case body =>
    rintro l pre k W ⟨hp, hb⟩ hpl
    have c0 : W.cell? ⟨w.heap.size, 0, none⟩ = some (.slice A n c) := by rw [cell_of_row _ _ _ _ _ _ ((hb.block _ (by omega)).trans q0)]; rfl
    by_cases hx : bk xs k = 255
    · have hx' : (((bk xs k).toNat : Nat) : Int) = 255 := by rw [hx]; rfl
      have HP : Hid (∀ j ∈ pre ++ [k], bk xs j = 255) := Lib.hid fun j hj => by
        rcases List.mem_append.1 hj with h1 | h1
        · exact hp j h1
        · simp at h1; subst h1; exact hx
      clear hp hx
      gi_wp2
      exact ⟨KeepsFrom.refl _ _, Below.refl _ _, HP.out, hb⟩
    · have hx' : (((bk xs k).toNat : Nat) : Int) < 255 := by
        have h1 : (bk xs k).toNat ≠ 255 := fun h2 => hx (UInt8.toNat_inj.1 h2)
        have h2 := (bk xs k).toNat_lt
        omega
      have hne : 0 < n := by omega
      have hi : xs.length - 1 - k < xs.length := by have := HL.out; omega
      have hbk : xs[xs.length - 1 - k] = bk xs k := by unfold bk; rw [List.getElem?_eq_getElem hi]; rfl
      obtain ⟨b, off, rfl⟩ := HX.out.addr hne
      have hbn : b < w.heap.size := hAb _ rfl
      have hrd : RdB W (some ⟨b, off, none⟩) n xs := RdB.mk HX.out.len fun j hj => (hb.cell (p := ⟨b, off + j, none⟩) (show b < w.heap.size + 3 by omega)).trans (HX.out.cells j hj)
      have HCL := Lib.hid (clone_any (some ⟨b, off, none⟩) (xs.length - 1 - k + 1) c W (xs.take (xs.length - 1 - k + 1)) (hrd.pre _ (by have := HL.out; omega)) (by have := HL.out; omega))
      have hsc := succ_nat _ hx
      have HXK : Hid (xs[xs.length - 1 - k]? = some (bk xs k)) := Lib.hid (by rw [List.getElem?_eq_getElem hi, hbk])
      have H5 := Lib.hid hx
      have HC : Hid (resK xs (pre ++ [k]) = xs.take (xs.length - 1 - k) ++ [bk xs k + 1] ∧ CondK xs (pre ++ [k])) := Lib.hid ⟨by unfold resK; rw [List.getLast?_concat]; rfl, pre, k, rfl, hp, hx⟩
      have hic : xs.length - 1 - k + 1 ≤ c := by have := HL.out; omega
      have hin2 : xs.length - 1 - k + 1 ≤ n := by have := HL.out; omega
      clear hbk hi hrd hp hx
      obtain ⟨y, hy⟩ : ∃ y, y = bk xs k + 1 := ⟨_, rfl⟩
      rw [← hy] at hsc HC
      have HY := Lib.hid hy
      clear hy
      have hsi : (((bk xs k).toNat : Nat) : Int) + 1 = ((y.toNat : Nat) : Int) := by omega
      have hy256 : y.toNat < 256 := y.toNat_lt
      clear hsc
      have HBX : Hid (W.heap[w.heap.size + 1]? = some (.cells #[.slice none 0 0] 24 (0, 0))) := Lib.hid ((hb.block _ (by omega)).trans q1)
      generalize xs.length - 1 - k = i at *
      gi_wp2_with (refine ⟨trivial, ?_⟩; gi_at_call 28; refine (CallsIn.inRound l (callsIn_wide.2 HCL.out)).mono ?_; rintro e w5 ⟨v, rfl, hv, hb5⟩; obtain ⟨g, c5, rfl, hg, p1, p2, p3⟩ := own_last' HXK.out hv H5.out; rw [← HY.out] at p3; have hbx := (hb5.block (w.heap.size + 1) (by have := hb.size; omega)).trans HBX.out; have f1 : w5.frozen? ⟨w.heap.size + 1, 0, none⟩ = false := by simp [World.frozen?, hbx]
                   have P3 := Lib.hid p3; have HBX5 := Lib.hid hbx; have e1 : (w5.setCell ⟨g, i, none⟩ (.int .u8 ((y.toNat : Nat) : Int))).cell? ⟨w.heap.size + 1, 0, none⟩ = some (.slice none 0 0) := by rw [cell_of_row _ _ _ _ _ _ ((heap_setCell_other _ _ _ _ (by have := hb.size; simp; omega)).trans hbx)]; rfl
                   clear p3 hbx hv)
      have hB0 : W.heap.size ≤ w5.heap.size := hb5.size
      have hWs : w.heap.size + 3 ≤ W.heap.size := by have := hb.size; omega
      have B1 := hb5.setCell (p := ⟨g, i, none⟩) hg (.int .u8 ((y.toNat : Nat) : Int))
      have B2 : Below w.heap.size w (w5.setCell ⟨g, i, none⟩ (.int .u8 ((y.toNat : Nat) : Int))) := (hb03.trans (hb.mono (by omega))).trans (B1.mono (by omega))
      have B3 := B2.setCell (p := ⟨w.heap.size + 1, 0, none⟩) (show w.heap.size ≤ w.heap.size + 1 by omega) (.slice (some ⟨g, 0, none⟩) (i + 1) c5)
      refine ⟨(keeps_below B1).trans ((KeepsOthers.setCell _ _ _).from _), ⟨⟨.slice (some ⟨g, 0, none⟩) (i + 1) c5, ?_, ?_, trivial⟩, B3⟩, rfl, HC.out.2⟩
      · exact Boxed.set _ (show Boxed _ _ _ (.slice none 0 0) from (heap_setCell_other _ _ _ _ (by simp; omega)).trans HBX5.out)
      · rw [HC.out.1]
        have h6 : OwnB ((w5.setCell ⟨g, i, none⟩ (.int .u8 ((y.toNat : Nat) : Int))).setCell ⟨w.heap.size + 1, 0, none⟩ (.slice (some ⟨g, 0, none⟩) (i + 1) c5)) W.heap.size (.slice (some ⟨g, 0, none⟩) (i + 1) c5) (xs.take i ++ [y]) := P3.out.same fun g' hg' => heap_setCell_other _ _ _ _ (by
          have := (P3.out.block g' hg').1
          simp
          omega)
        exact OwnB.mono h6 (by omega)
  case done =>
    rintro D ys W hD rfl ⟨hp, hb⟩ hK
    rw [← HL.out] at hp
    obtain rfl : NX = [] := HNX.out.trans (all_next xs hp)
    have c1 : W.cell? ⟨w.heap.size + 1, 0, none⟩ = some (.slice none 0 0) := by rw [cell_of_row _ _ _ _ _ _ ((hb.block _ (by omega)).trans q1)]; rfl
    have f1 : W.frozen? ⟨w.heap.size + 1, 0, none⟩ = false := by simp [World.frozen?, (hb.block _ (show w.heap.size + 1 < w.heap.size + 3 by omega)).trans q1]
    have HBW := Lib.hid (hb03.trans (hb.mono (by omega)))
    clear hb hb03 hp HX
    gi_wp2
    have hK' := (KeepsOthers.setCell W ⟨w.heap.size + 1, 0, none⟩ (.slice none 0 0)).same D _ hK rfl
    refine ⟨by simp, .inl ⟨_, _, rfl, run_takeDeferred hK', ?_⟩⟩
    have hc5 := cell_kept (World.cell?_setCell_same' W ⟨w.heap.size + 1, 0, none⟩ (.slice none 0 0) (by rw [c1]; rfl)) (grownBy_putObj' _ D (.deferred none)) (fun r e => by cases e; exact ⟨_, hK', rfl⟩)
    have hbb := (HBW.out.setCell (p := ⟨w.heap.size + 1, 0, none⟩) (show w.heap.size ≤ w.heap.size + 1 by omega) (.slice none 0 0)).trans (belowK_b (w := w) (Nat.le_refl _) _ D _ (.deferred none) (by omega) hK' rfl rfl)
    refine ⟨.slice none 0 0, ?_, _, rfl, OwnB.nil _ _, hbb⟩
    simp [results, Tryd.f16, go_sem, hc5]
  case stop =>
    rintro D c' pre W hD ⟨k, hk, rfl⟩ ⟨⟨⟨v, hv, hr, _⟩, hb⟩, rfl, hc'⟩ hK
    obtain rfl : NX = resK xs (List.range k) := HNX.out.trans (condK_next xs k (by have := HL.out; omega) hc').symm
    have hc0 := hv.cell
    clear hb03 HX
    gi_wp2
    refine ⟨by simp, .inl ⟨_, _, rfl, run_takeDeferred hK, ?_⟩⟩
    have hc5 := cell_kept hc0 (grownBy_putObj' _ D (.deferred none)) (fun r e => by cases e; exact ⟨_, hK, rfl⟩)
    have hr2 := ownsRow_putObj hr (.deferred none) hK rfl
    have hbb := hb.trans (belowK_b (w := w) (Nat.le_refl _) _ D _ (.deferred none) (by omega) hK rfl rfl)
    refine ⟨v, ?_, _, rfl, hr2, hbb⟩
    simp [results, Tryd.f16, go_sem, hc5]
end Go.Proofs.YtbblpehehgeebaaDoor
