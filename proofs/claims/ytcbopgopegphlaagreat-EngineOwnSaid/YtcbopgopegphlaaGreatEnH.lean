/-
  An engine in the heap; New. No statement is proved here.
-/
import Derived.Test.YtcbopgopegphlaaGreatEnG
namespace Go.Proofs.YtcbopgopegphlaaGreat
open Go.RowKit
set_option linter.unusedVariables false
/-- An engine's cells. -/
def enCells (p : Prod) (B v : Value) (gm : Nat) : Array Value := #[.string p.name, .int .i64 p.rate, .int .i64 p.conv, .int .i64 p.step, .int .i64 p.count, .int .i64 p.o1, .int .i64 p.o2, .int .i64 p.o3, B, v, .map (some gm)]
/-- The places of what was reckoned: as of how many bookings, behind how many events. -/
def keP (k : Int × Int) : Value := .agg #[.int .i64 k.1, .int .i64 k.2]
def veL (p : Prod) (B : Value) (L : Ln) : Value := .agg (lnCells p B L)
/-- An engine lies so. -/
structure EngAt (w : World) (ge gm : Nat) (p : Prod) (A : Option Addr) (n c : Nat) (v : Value) (l : List Ev) (M : List ((Int × Int) × Ln)) : Prop where
  cells : w.heap[ge]? = some (.cells (enCells p (.slice A n c) v gm) 60 (0, 0))
  map : w.heap[gm]? = some (.map (mapG keP (veL p (.slice A n c)) M 0).toArray M.length)
  row : w.ownsRow 0 39 6 v l.length (flatE l)
  bnds : RdI w A n p.bounds
  far : 0 < n → ∀ ad, A = some ad → ad.block ≠ ge ∧ ad.block ≠ gm ∧ v.ownBlock ≠ some ad.block
theorem rdI_lt {w : World} {A : Option Addr} {n : Nat} {zs : List Int} (h : RdI w A n zs) (hn : 0 < n) : ∀ ad, A = some ad → ad.block < w.heap.size := fun ad e => by
  obtain ⟨hl, h⟩ := h
  obtain ⟨b, off, e', hc⟩ := h (by rw [hl]; omega)
  rw [e] at e'
  injection e' with e'
  subst e'
  have h0 : 0 < (zs.map (Value.int .i64)).length := by rw [hl]; omega
  have := hc 0 _ (List.getElem?_eq_getElem h0)
  exact World.block_lt_of_cell? w _ this
theorem info_en (p : Prod) (B v : Value) (gm : Nat) : (Tryz.prog.info? 60).map (·.size) = some (enCells p B v gm).size := by rw [show (enCells p B v gm).size = 11 from rfl]; kernel_rfl
theorem built_en (p : Prod) (B : Value) (gm : Nat) : Tryz.prog.built 60 [(0, .agg (pCells p B)), (2, .map (some gm))] = some (enCells p B (.slice none 0 0) gm) := by kernel_rfl
/-- What New answers. -/
def NewSays (w : World) (p : Prod) (n : Nat) (e : Ending) (w' : World) : Prop := Below w.heap.size w w' ∧ (¬ p.Ok ∧ e = .returned (.tuple #[.pointer none, .int .i64 50]) ∨
      p.Ok ∧ ∃ ge gm A' c', e = .returned (.tuple #[.pointer (some ⟨ge, 0, none⟩), .int .i64 0]) ∧ EngAt w' ge gm p A' n c' (.slice none 0 0) [] [] ∧ w.heap.size ≤ ge ∧ w.heap.size ≤ gm ∧ (∀ ad, A' = some ad → w.heap.size ≤ ad.block))
set_option maxRecDepth 100000 in
set_option maxHeartbeats 2000000 in
theorem New_any (p : Prod) (A : Option Addr) (n c : Nat) (w : World) (hA : RdI w A n p.bounds) (hn : n ≤ 17592186044416) :
    Calls Tryz.prog 6 #[p.val (.slice A n c)] w (NewSays w p n) := by
  have HC := Lib.hid fun W hW => Check_any p A n c W hW
  have HCL := Lib.hid fun W hW => CloneI_any A n c p.bounds W hW hn
  have hMK : ∀ w : World, (Instr.makeMap 58 none).run Tryz.prog w = .ok (.map (some w.heap.size)) (w.alloc (.map #[] 0)) := fun w => rfl
  have HA := Lib.hid hA
  obtain ⟨S, hS⟩ : ∃ S, S = pCells p (.slice A n c) := ⟨_, rfl⟩
  have hval : p.val (.slice A n c) = .agg S := by rw [hS]; rfl
  have hi : (Tryz.prog.info? 25).map (·.size) = some S.size := by rw [hS]; exact info_prod _ _
  rw [hval] at HC ⊢
  have HSS := Lib.hid hS
  clear hS hval hA
  obtain ⟨w1, hw1⟩ : ∃ w1, w1 = w.alloc (.cells S 25) := ⟨_, rfl⟩
  have hz1 : w1.heap.size = w.heap.size + 1 := by rw [hw1]; simp
  have hb1 : Below w.heap.size w w1 := by rw [hw1]; exact (Below.refl _ _).alloc (Nat.le_refl _) _
  have hS1 : w1.heap[w.heap.size]? = some (.cells S 25 (0, 0)) := by rw [hw1]; exact heap_alloc_new _ _
  have HCW := HC.out w1 (HA.out.below hb1)
  by_cases ok : p.Ok
  · rw [if_pos ok] at HCW
    have OK := Lib.hid ok
    clear ok
    go_enter Tryz.func6, Tryz.ntmps6
    go_upto_region 1 with (fail)
    rw [← hw1]
    clear hw1 HC
    go_wp2_with (first
      | (refine wpList_load_row rfl 25 _ rfl _ rfl _ _ _ _ hS1 Tryz.underlying25 rfl hi ?_)
      | (refine HCW.mono ?_; rintro e w2 ⟨rfl, hb2⟩
         have hS2 := (hb2.block w.heap.size (by omega)).trans hS1
         have c8 : w2.cell? ⟨w.heap.size, 8, none⟩ = some (.slice A n c) := by rw [cell_of_row _ _ _ _ _ _ hS2, HSS.out]; rfl
         have hb02 := hb1.trans (hb2.mono hb1.size)
         have HCLW := Lib.hid (HCL.out w2 (HA.out.below hb02)))
      | (refine HCLW.out.mono ?_; rintro e w3 ⟨A', c', rfl, hA3, hbk3, hb3⟩
         have hz2 := hb02.size
         have hz2' := hb2.size
         have hS3 := (hb3.block w.heap.size (by omega)).trans hS2
         have hb03 := hb02.trans (hb3.mono hb02.size)
         have hz3 := hb03.size
         obtain ⟨hS4, hk4⟩ := row_set (i := 8) (.slice A' n c') hS3
         have hA4 := hA3.kept hk4 fun ad h => by have := hbk3 ad h; omega
         have f8 : w3.frozen? ⟨w.heap.size, 8, none⟩ = false := by simp [World.frozen?, hS3]
         have d8 : w3.cell? ⟨w.heap.size, 8, none⟩ = some (.slice A n c) := by rw [cell_of_row _ _ _ _ _ _ hS3, HSS.out]; rfl
         have hb4 := hb03.trans (hk4.below (Nat.le_refl _) hz3)
         have HS' : Hid (S.setIfInBounds 8 (.slice A' n c') = pCells p (.slice A' n c')) := Lib.hid (by rw [HSS.out]; rfl)
         have hi4 : (Tryz.prog.info? 25).map (·.size) = some (S.setIfInBounds 8 (.slice A' n c')).size := by rw [HS'.out]; exact info_prod _ _
         obtain ⟨w4, hw4⟩ : ∃ w4, w4 = w3.setCell ⟨w.heap.size, 8, none⟩ (.slice A' n c') := ⟨_, rfl⟩
         rw [← hw4] at hS4 hk4 hA4 hb4
         generalize S.setIfInBounds 8 (.slice A' n c') = S' at *
         obtain ⟨cs, hcs⟩ : ∃ cs, cs = enCells p (.slice A' n c') (.slice none 0 0) w4.heap.size := ⟨_, rfl⟩
         have h55 : Tryz.prog.built 60 [(0, .agg S'), (2, .map (some w4.heap.size))] = some cs := by rw [HS'.out, hcs]; exact built_en p _ _
         have hics : (Tryz.prog.info? 60).map (·.size) = some cs.size := by rw [hcs]; exact info_en _ _ _ _
         have HCS := Lib.hid hcs
         have HFIN := Lib.hid (⟨hA4, hbk3, hb4⟩ : RdI w4 A' n p.bounds ∧ (∀ ad, A' = some ad → w2.heap.size ≤ ad.block) ∧ Below w.heap.size w w4)
         clear hS3 hk4 hA4 hb4 hcs hbk3 hA3)
      | (rw [← hw4]; clear hw4; refine wpList_load_row rfl 25 _ rfl _ rfl _ _ _ _ hS4 Tryz.underlying25 rfl hi4 ?_)
      | (refine wpList_buildTo rfl 60 _ rfl _ rfl _ (built_2 h55 _ _ _ rfl rfl) ?_))
    go_ret2
    obtain ⟨hA4, hbk3, hb4⟩ := HFIN.out
    have hz4 := hb4.size
    have hm : (w4.alloc (.map #[] 0)).heap[w4.heap.size]? = some (.map (mapG keP (veL p (.slice A' n c')) [] 0).toArray ([] : List ((Int × Int) × Ln)).length) := heap_alloc_new _ _
    have hbb : Below w4.heap.size w4 ((w4.alloc (.map #[] 0)).alloc (.cells cs 60)) := ((Below.refl _ _).alloc (Nat.le_refl _) _).alloc (by simp) _
    refine ⟨hb4.trans (hbb.mono hz4), .inr ⟨OK.out, w4.heap.size + 1, w4.heap.size, A', c', rfl, ⟨?_, mapAfter _ hm, World.ownsRow_nil _ _ _ _, hA4.below hbb, fun hn ad h => ?_⟩, by omega, by omega, fun ad h => by have := hbk3 ad h; omega⟩⟩
    · rw [← HCS.out, ← World.size_alloc w4 (.map #[] 0)]
      exact heap_alloc_new _ _
    · have := rdI_lt hA4 hn ad h
      exact ⟨by omega, by omega, fun h => by cases h⟩
  · rw [if_neg ok] at HCW
    have OK := Lib.hid ok
    clear ok
    go_enter Tryz.func6, Tryz.ntmps6
    go_upto_region 1 with (fail)
    rw [← hw1]
    clear hw1 HC
    go_wp2_with (first
      | (refine wpList_load_row rfl 25 _ rfl _ rfl _ _ _ _ hS1 Tryz.underlying25 rfl hi ?_)
      | (refine HCW.mono ?_; rintro e w2 ⟨rfl, hb2⟩))
    go_ret2
    exact ⟨hb1.trans (hb2.mono hb1.size), .inl ⟨OK.out, rfl⟩⟩
end Go.Proofs.YtcbopgopegphlaaGreat
