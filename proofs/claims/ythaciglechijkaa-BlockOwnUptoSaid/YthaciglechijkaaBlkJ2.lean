/-
  block.Read. No statement is proved here.
-/
import Derived.Test.YthaciglechijkaaBlkJ
namespace Go.Proofs.Ythaciglechijkaa
open Go.RowKit Go.Shelf
set_option linter.unusedVariables false

theorem Coll_any (w0 w : World) (bx pt wy : Nat) (A : Option Addr) (n c : Nat) (xs : List UInt8) (hA : RdB w0 A n xs) (hm : n ≤ 140737488351232) (hc : n ≤ c)
    (hbox : w.heap[bx]? = some (.cells #[.slice A n c] 24 (0, 0))) (hptr : w.heap[pt]? = some (.cells #[.pointer (some ⟨wy, 0, none⟩)] 56 (0, 0))) (hwhy : w.heap[wy]? = some (.cells #[.int .i64 0] 25 (0, 0))) (hwy : w0.heap.size ≤ wy) (hb : Below w0.heap.size w0 w) :
    Calls Try.prog 29 #[.func (.func 36) #[] #[.pointer (some ⟨bx, 0, none⟩), .pointer (some ⟨pt, 0, none⟩)]] w (SeqEnds w0 w wy xs) := by
  refine Collect_any _ _ _ ((AppendSeq_any w0 w bx pt wy A n c xs hA hm hc hbox hptr hwhy hwy hb).mono ?_)
  rintro e w' ⟨v, rs, er, rfl, h⟩
  exact ⟨⟨v, rfl⟩, v, rs, er, rfl, h⟩
set_option maxHeartbeats 4000000 in
theorem Read_any (A : Option Addr) (n c : Nat) (w : World) (xs : List UInt8) (h : RdB w A n xs) (hm : n ≤ 140737488351232) (hc : n ≤ c) :
    Calls Try.prog 15 #[.slice A n c] w (ReadEnds w (readOf xs)) := by
  have HX := Lib.hid h
  clear h
  have hz0 : Hid ((w.alloc (.cells #[.int .i64 0] 25)).heap[w.heap.size]? = some (.cells #[.int .i64 0] 25 (0, 0))) := Lib.hid (heap_alloc_new w _)
  have HB1 := Lib.hid ((Below.refl w.heap.size w).alloc (Nat.le_refl _) (.cells #[.int .i64 0] 25))
  go_enter Try.func15, Try.ntmps15
  go_wp2_with fail
  refine (pairs_any A n c ⟨w.heap.size, 0, none⟩ _).mono ?_
  rintro e w2 ⟨rfl, hw2⟩
  have hs1 : (w.alloc (.cells #[.int .i64 0] 25)).heap.size = w.heap.size + 1 := World.size_alloc _ _
  generalize w.alloc (.cells #[.int .i64 0] 25) = w1 at *
  have hbox : w2.heap[w1.heap.size]? = some (.cells #[.slice A n c] 24 (0, 0)) := by
    rw [hw2]
    exact (heap_alloc_old _ _ (heap_lt' (heap_alloc_new w1 _))).trans (heap_alloc_new w1 _)
  have hptr : w2.heap[w1.heap.size + 1]? = some (.cells #[.pointer (some ⟨w.heap.size, 0, none⟩)] 56 (0, 0)) := by
    rw [hw2, ← World.size_alloc w1 (.cells #[.slice A n c] 24)]
    exact heap_alloc_new _ _
  have hb2 : Below w1.heap.size w1 w2 := by
    rw [hw2]
    exact ((Below.refl _ _).alloc (Nat.le_refl _) _).alloc (by simp) _
  have hwhy := (hb2.block _ (heap_lt' hz0.out)).trans hz0.out
  have AS := Lib.hid (Coll_any w w2 w1.heap.size (w1.heap.size + 1) w.heap.size A n c xs HX.out hm hc hbox hptr hwhy (Nat.le_refl _) (HB1.out.trans (hb2.mono HB1.out.size)))
  have HB2 := Lib.hid (HB1.out.trans (hb2.mono HB1.out.size))
  clear hw2 hbox hptr hb2 hwhy hz0
  rw [hs1] at AS
  go_wp2_with fail
  refine AS.out.mono ?_
  rintro e w3 ⟨v, rs, er, rfl, hr, ho, hw, hb⟩
  have HO := Lib.hid (ho.lower (base' := w.heap.size) HB2.out.size)
  have HR := Lib.hid hr
  have hy : w3.cell? ⟨w.heap.size, 0, none⟩ = some (.int .i64 er) := by rw [cell_of_row _ _ _ _ _ _ hw]; rfl
  have HBW := Lib.hid hb
  obtain ⟨Av, cv, rfl, _⟩ := HO.out.form
  clear ho hw hb hr AS
  have E1 : Hid (er = 0 → readOf xs = (psOf rs, 0)) := Lib.hid fun h => by unfold readOf; rw [HR.out, h]; rfl
  have E2 : Hid (er ≠ 0 → readOf xs = ([], er)) := Lib.hid fun h => by unfold readOf; rw [HR.out, if_neg h]
  by_cases he : er = 0
  · have E3 := Lib.hid (E1.out he)
    subst he
    clear E1 E2
    go_wp2
    go_ret2
    rw [E3.out]
    exact ⟨_, rs, rfl, rfl, HO.out, HBW.out⟩
  · go_wp2_with fail
    go_quiet (fail)
    go_wp2
    go_ret2
    rw [E2.out he]
    exact ⟨_, [], rfl, rfl, OwnQ.nil _ _, below_drewN HBW.out _⟩
end Go.Proofs.Ythaciglechijkaa
