/-
  Joined texts: AcSo AcC AcC2 AcC3. No statement is proved here.
-/
import Derived.Shelf.Small.Bits
import Derived.Shelf.Sort.Plain
import Derived.Shelf.SlSorted.Search
import Derived.Test.YtcbopgopegphlaaGreatLib
import Derived.Test.YtcbopgopegphlaaGreatProg
import Derived.Test.YtcbopgopegphlaaGreatAcA
import Derived.Defers
import Derived.Recover
import Derived.Laws.StructEq
namespace Go.Proofs.YtcbopgopegphlaaGreat
open Go.Shelf
set_option linter.unusedVariables false
def lays189_ren : Go.Shelf.Ren := ⟨fun | 189 => 36 | 125 => 52 | 257 => 51 | 128 => 79 | 129 => 80 | 294 => 70 | 295 => 71 | 296 => 72 | 297 => 73 | 298 => 74 | 299 => 75 | 216 => 76 | 300 => 77 | 301 => 78 | 328 => 103 | 329 => 104 | 330 => 105 | 331 => 106 | 332 => 107 | 215 => 59 | 343 => 117 | n => n, fun | 28 => 23 | 3 => 3 | 46 => 85 | 0 => 0 | 51 => 130 | 53 => 132 | 4 => 4 | 183 => 123 | 182 => 122 | 131 => 65 | 5 => 5 | 9 => 9 | 218 => 160 | 222 => 164 | 228 => 172 | 229 => 97 | n => n, fun | n => n⟩
theorem lays189 : Go.Proofs.Lays.n189 Tryz.prog lays189_ren := {
  mixed := by kernel_rfl
  f125 := Tryz.func52.trans (congrArg some (by kernel_rfl))
  f128 := Tryz.func79.trans (congrArg some (by kernel_rfl))
  f129 := Tryz.func80.trans (congrArg some (by kernel_rfl))
  f189 := Tryz.func36.trans (congrArg some (by kernel_rfl))
  f215 := Tryz.func59.trans (congrArg some (by kernel_rfl))
  f216 := Tryz.func76.trans (congrArg some (by kernel_rfl))
  f257 := Tryz.func51.trans (congrArg some (by kernel_rfl))
  f294 := Tryz.func70.trans (congrArg some (by kernel_rfl))
  f295 := Tryz.func71.trans (congrArg some (by kernel_rfl))
  f296 := Tryz.func72.trans (congrArg some (by kernel_rfl))
  f297 := Tryz.func73.trans (congrArg some (by kernel_rfl))
  f298 := Tryz.func74.trans (congrArg some (by kernel_rfl))
  f299 := Tryz.func75.trans (congrArg some (by kernel_rfl))
  f300 := Tryz.func77.trans (congrArg some (by kernel_rfl))
  f301 := Tryz.func78.trans (congrArg some (by kernel_rfl))
  f328 := Tryz.func103.trans (congrArg some (by kernel_rfl))
  f329 := Tryz.func104.trans (congrArg some (by kernel_rfl))
  f330 := Tryz.func105.trans (congrArg some (by kernel_rfl))
  f331 := Tryz.func106.trans (congrArg some (by kernel_rfl))
  f332 := Tryz.func107.trans (congrArg some (by kernel_rfl))
  f343 := Tryz.func117.trans (congrArg some (by kernel_rfl))
  t0 := Tryz.underlying0
  a0 := Tryz.isAgg0
  z0 := Tryz.sizeOf0
  v0 := Tryz.zeroValue0
  t3 := Tryz.underlying3
  a3 := Tryz.isAgg3
  z3 := Tryz.sizeOf3
  v3 := Tryz.zeroValue3
  t4 := Tryz.underlying4
  a4 := Tryz.isAgg4
  z4 := Tryz.sizeOf4
  v4 := Tryz.zeroValue4
  t5 := Tryz.underlying5
  a5 := Tryz.isAgg5
  z5 := Tryz.sizeOf5
  v5 := Tryz.zeroValue5
  t9 := Tryz.underlying9
  a9 := Tryz.isAgg9
  z9 := Tryz.sizeOf9
  v9 := Tryz.zeroValue9
  t28 := Tryz.underlying23
  a28 := Tryz.isAgg23
  z28 := Tryz.sizeOf23
  v28 := Tryz.zeroValue23
  t46 := Tryz.underlying85
  a46 := Tryz.isAgg85
  z46 := Tryz.sizeOf85
  v46 := Tryz.zeroValue85
  t51 := Tryz.underlying130
  a51 := Tryz.isAgg130
  z51 := Tryz.sizeOf130
  v51 := Tryz.zeroValue130
  t53 := Tryz.underlying132
  a53 := Tryz.isAgg132
  z53 := Tryz.sizeOf132
  v53 := Tryz.zeroValue132
  t131 := Tryz.underlying65
  a131 := Tryz.isAgg65
  z131 := Tryz.sizeOf65
  v131 := Tryz.zeroValue65
  t182 := Tryz.underlying122
  a182 := Tryz.isAgg122
  z182 := Tryz.sizeOf122
  v182 := Tryz.zeroValue122
  t183 := Tryz.underlying123
  a183 := Tryz.isAgg123
  z183 := Tryz.sizeOf123
  v183 := Tryz.zeroValue123
  t218 := Tryz.underlying160
  a218 := Tryz.isAgg160
  z218 := Tryz.sizeOf160
  v218 := Tryz.zeroValue160
  t222 := Tryz.underlying164
  a222 := Tryz.isAgg164
  z222 := Tryz.sizeOf164
  v222 := Tryz.zeroValue164
  t228 := Tryz.underlying172
  a228 := Tryz.isAgg172
  z228 := Tryz.sizeOf172
  v228 := Tryz.zeroValue172
  t229 := Tryz.underlying97
  a229 := Tryz.isAgg97
  z229 := Tryz.sizeOf97
  v229 := Tryz.zeroValue97 }
open Go.Sort Go.RowKit in
theorem slices_Sort_int (blk off cap : Nat) (zs : List Int) (w : World) (hH : Holds (Value.int .i64) w blk off zs.toArray) (hblk : blk < w.heap.size) (hsz : zs.length < 4611686018427387904) :
    Calls Tryz.prog 36 #[.slice (some ⟨blk, off, none⟩) zs.length cap] w fun e w' =>
      e = .returned (.tuple #[]) ∧ ∃ n os, w' = grow (putRow (Value.int .i64) (Sort.ahead w n) blk off (zs.mergeSort fun x y => decide (x ≤ y)).toArray) os := Any.slices_Sort_int lays189 blk off cap zs w hH hblk hsz
def search_ren : Go.Shelf.Ren := ⟨fun | 16 => 64 | 14 => 68 | 22 => 101 | n => n, fun | 0 => 0 | 3 => 3 | 4 => 4 | 28 => 23 | 35 => 62 | 38 => 85 | n => n, fun | n => n⟩
theorem search16 : Go.Proofs.SlLaysO.n16 Tryz.prog search_ren := {
  mixed := by kernel_rfl
  f16 := Tryz.func64.trans (congrArg some (by kernel_rfl))
  t3 := Tryz.underlying3
  a3 := Tryz.isAgg3
  z3 := Tryz.sizeOf3
  v3 := Tryz.zeroValue3
  t4 := Tryz.underlying4
  a4 := Tryz.isAgg4
  z4 := Tryz.sizeOf4
  v4 := Tryz.zeroValue4
  t35 := Tryz.underlying62
  a35 := Tryz.isAgg62
  z35 := Tryz.sizeOf62
  v35 := Tryz.zeroValue62
  t38 := Tryz.underlying85
  a38 := Tryz.isAgg85
  z38 := Tryz.sizeOf85
  v38 := Tryz.zeroValue85 }
theorem search14 : Go.Proofs.SlLaysO.n14 Tryz.prog search_ren := {
  mixed := by kernel_rfl
  f14 := Tryz.func68.trans (congrArg some (by kernel_rfl))
  f16 := Tryz.func64.trans (congrArg some (by kernel_rfl))
  f22 := Tryz.func101.trans (congrArg some (by kernel_rfl))
  t0 := Tryz.underlying0
  a0 := Tryz.isAgg0
  z0 := Tryz.sizeOf0
  v0 := Tryz.zeroValue0
  t3 := Tryz.underlying3
  a3 := Tryz.isAgg3
  z3 := Tryz.sizeOf3
  v3 := Tryz.zeroValue3
  t4 := Tryz.underlying4
  a4 := Tryz.isAgg4
  z4 := Tryz.sizeOf4
  v4 := Tryz.zeroValue4
  t28 := Tryz.underlying23
  a28 := Tryz.isAgg23
  z28 := Tryz.sizeOf23
  v28 := Tryz.zeroValue23
  t35 := Tryz.underlying62
  a35 := Tryz.isAgg62
  z35 := Tryz.sizeOf62
  v35 := Tryz.zeroValue62
  t38 := Tryz.underlying85
  a38 := Tryz.isAgg85
  z38 := Tryz.sizeOf85
  v38 := Tryz.zeroValue85 }
open Go.RowKit Go.Sort Go.Lib in
theorem sort_Search (g : Nat) (cb : Array Value) (n : Nat) (p : Nat → Bool) (w : World) (eg : ∀ args w, (callFunc g args).run Tryz.prog w = .ok (.enter g args) w) (hsz : n < 4611686018427387904)
    (hf : ∀ (m : Nat) (os : Array Obj) (i : Nat), i < n → Calls Tryz.prog g (#[.int .i64 i] ++ cb) (grow (w.drewN m) os) fun e w' => e = .returned (.bool (p i)) ∧ ∃ q os', w' = grow ((grow (w.drewN m) os).drewN q) os')
    (hmono : ∀ a b, a ≤ b → b < n → p a = true → p b = true) :
    Calls Tryz.prog 64 #[.int .i64 n, .func (.func g) #[] cb] w fun e w' => e = .returned (.int .i64 ((List.range n).countP (fun i => !p i) : Nat)) ∧ ∃ q os, w' = grow (w.drewN q) os := Any.sort_Search search16 g cb n p w eg hsz hf hmono
open Go.RowKit Go.Sort Go.Lib in
theorem sort_SearchInts (blk off cap : Nat) (d : Array Int) (x : Int) (w : World) (hc : ∀ i, i < d.size → w.cell? ⟨blk, off + i, none⟩ = some ((Value.int .i64) d[i]!)) (hblk : blk < w.heap.size) (hsz : d.size < 4611686018427387904)
    (hs : ∀ a b, a ≤ b → b < d.size → decide (x ≤ d[a]!) = true → decide (x ≤ d[b]!) = true) :
    Calls Tryz.prog 68 #[.slice (some ⟨blk, off, none⟩) d.size cap, .int .i64 x] w fun e w' => e = .returned (.int .i64 (d.toList.countP (fun y => !decide (x ≤ y)) : Nat)) ∧ Below w.heap.size w w' := Any.sort_SearchInts search14 blk off cap d x w hc hblk hsz hs
open Go.RowKit Go.Sort Go.Lib in
theorem sort_SearchInts_none (p : Option Addr) (cap : Nat) (x : Int) (w : World) :
    Calls Tryz.prog 68 #[.slice p 0 cap, .int .i64 x] w fun e w' => e = .returned (.int .i64 0) ∧ Below w.heap.size w w' := (Any.sort_SearchInts_none search14 p cap x w)
end Go.Proofs.YtcbopgopegphlaaGreat

namespace Go.Proofs.YtcbopgopegphlaaGreat
open Go.RowKit
set_option linter.unusedVariables false

theorem odd_false (w : World) : Calls Tryz.prog 34 #[.bool false] w fun e w' => e = .returned (.tuple #[]) ∧ w' = w := by
  go_enter Tryz.func34, Tryz.ntmps34
  go_wp2
  go_end0
  exact ⟨rfl, rfl⟩
def oddOne (r : Bool) : PanicEntry := { v := .iface 29 (.int .i64 50), recovered := r }
theorem odd_true (w : World) : Calls Tryz.prog 34 #[.bool true] w fun e w' => e = .panicked [oddOne false] ∧ w' = w := by
  go_enter Tryz.func34, Tryz.ntmps34
  go_wp2
  simp [bodyPost, oddOne]
theorem caught_idle (p : Addr) (w : World) :
    CallsD Tryz.prog 33 #[.pointer (some p)] .returning w fun e u' w' => e = .returned (.tuple #[]) ∧ u' = .returning ∧ w' = w := by
  refine callsD_of_wpS Tryz.func33 rfl fun c₀ cs hu => ?_
  apply wpS_seq
  apply wpS_region
  simp [wpOpsS, go_sem, recoverD, hu, Tryz.ntmps33, Exit.thenS]
  refine wpS_of_wp ?_
  go_wp2
  cases c₀
  simp_all [bodyPostS, results, Tryz.results33]
set_option maxRecDepth 100000 in
set_option maxHeartbeats 1000000 in
theorem caught_panic (p : Addr) (x : Int) (older : List PanicEntry) (w : World) (hc : w.cell? p = some (.int .i64 x)) (hz : w.frozen? p = false) :
    CallsD Tryz.prog 33 #[.pointer (some p)] (.panicking (oddOne false :: older)) w fun e u' w' => e = .returned (.tuple #[]) ∧ u' = .panicking (oddOne true :: older) ∧ w' = w.setCell p (.int .i64 50) := by
  have ht : ∀ W, (Instr.typeAssert (.iface 29 (.int .i64 50)) 20 29 true).run Tryz.prog W = .ok (.tuple #[.int .i64 50, .bool true]) W := fun _ => by kernel_rfl
  refine callsD_of_wpS Tryz.func33 rfl fun c₀ cs hu => ?_
  apply wpS_seq
  apply wpS_region
  simp [wpOpsS, go_sem, recoverD, hu, Tryz.ntmps33, Exit.thenS, oddOne]
  refine wpS_of_wp ?_
  go_wp2
  cases c₀
  simp_all [bodyPostS, results, Tryz.results33, oddOne]
end Go.Proofs.YtcbopgopegphlaaGreat

namespace Go.Proofs.YtcbopgopegphlaaGreat
open Go.RowKit
set_option linter.unusedVariables false
set_option linter.unusedSimpArgs false

theorem equal3 (a b c x y z : Int) (w : World) : (Op.equalIn 10000 22 (.agg #[.int .i64 a, .int .i64 b, .int .i64 c]) (.agg #[.int .i64 x, .int .i64 y, .int .i64 z])).run Tryz.prog w = .ok (a == x && b == y && c == z) w := by
  have h1 := Tryz.underlying22
  have h2 := Tryz.underlying3
  have hs : ∀ W, (sizeOf 3).run Tryz.prog W = .ok 1 W := Tryz.sizeOf3
  have p0 : ∀ a b c : Int, ∀ W, (part 3 #[.int .i64 a, .int .i64 b, .int .i64 c] 0).run Tryz.prog W = .ok (.int .i64 a) W := fun a b c W => by kernel_rfl
  have p1 : ∀ a b c : Int, ∀ W, (part 3 #[.int .i64 a, .int .i64 b, .int .i64 c] 1).run Tryz.prog W = .ok (.int .i64 b) W := fun a b c W => by kernel_rfl
  have p2 : ∀ a b c : Int, ∀ W, (part 3 #[.int .i64 a, .int .i64 b, .int .i64 c] 2).run Tryz.prog W = .ok (.int .i64 c) W := fun a b c W => by kernel_rfl
  have e1 := fun a b W => run_equalIn_int (P := Tryz.prog) W 9998 3 .i64 .i64 a b h2
  rw [show (10000 : Nat) = 9999 + 1 from rfl, Op.equalIn]
  simp only [Sem.run_bind, run_underlying h1, Result.andThen_ok]
  by_cases ha : a = x <;> by_cases hb : b = y <;> by_cases hc : c = z <;> simp [ha, hb, hc, hs, p0, p1, p2, e1, List.range', Std.Legacy.Range.forIn_eq_forIn_range']
/-- Three numbers are sorted. -/
def Sorted3 (x y z a b c : Int) : Prop := (orderOk x y z ↔ a = 1 ∧ b = 2 ∧ c = 3)
theorem sorted3 (x y z a b c : Int) (h : [x, y, z].mergeSort (fun x y => decide (x ≤ y)) = [a, b, c]) : Sorted3 x y z a b c := by
  have hp := List.mergeSort_perm [x, y, z] (fun x y : Int => decide (x ≤ y))
  have hs := List.pairwise_mergeSort (le := fun x y : Int => decide (x ≤ y)) (fun a b c h1 h2 => by simp at h1 h2 ⊢; omega) (fun a b => by simp; omega) [x, y, z]
  rw [h] at hp hs
  have hm : ∀ k : Int, (k = a ∨ k = b ∨ k = c) ↔ (k = x ∨ k = y ∨ k = z) := fun k => by
    have := hp.mem_iff (a := k)
    simpa using this
  simp at hs
  constructor
  · intro ho
    have h1 := (hm 1).2 (by have := ho 1 (by omega) (by omega); omega)
    have h2 := (hm 2).2 (by have := ho 2 (by omega) (by omega); omega)
    have h3 := (hm 3).2 (by have := ho 3 (by omega) (by omega); omega)
    omega
  · rintro ⟨rfl, rfl, rfl⟩ k k0 k1
    have := (hm k).1 (by omega)
    omega
open Go.Sort in
theorem below_putRow {B : Nat} {w : World} {g : Nat} (hg : B ≤ g) (hB : B ≤ w.heap.size) (d : Array Int) (n : Nat) (os : Array Obj) : Below B w (grow (putRow (Value.int .i64) (Sort.ahead w n) g 0 d) os) := by
  refine ⟨rfl, rfl, rfl, ?_, fun i hi => ?_⟩
  · simp [grow, putRow, mapBlock, Sort.ahead]
  · have hlt : i < (putRow (Value.int .i64) (Sort.ahead w n) g 0 d).heap.size := by simp [Sort.ahead]; omega
    show ((putRow (Value.int .i64) (Sort.ahead w n) g 0 d).heap ++ os)[i]? = _
    rw [Array.getElem?_append_left hlt]
    simp only [putRow, mapBlock, Sort.ahead, Array.getElem?_modify]
    rw [if_neg (by omega)]
open Go.Sort in
theorem sort3 (g : Nat) (x y z : Int) (t : TypeId) (w : World) (h : w.heap[g]? = some (.cells #[.int .i64 x, .int .i64 y, .int .i64 z] t (0, 0))) :
    Calls Tryz.prog 36 #[.slice (some ⟨g, 0, none⟩) 3 3] w fun e w' => e = .returned (.tuple #[]) ∧ Below g w w' ∧ ∃ a b c, Sorted3 x y z a b c ∧ w'.cell? ⟨g, 0, none⟩ = some (.int .i64 a) ∧ w'.cell? ⟨g, 1, none⟩ = some (.int .i64 b) ∧ w'.cell? ⟨g, 2, none⟩ = some (.int .i64 c) := by
  have hlt := (Array.getElem?_eq_some_iff.1 h).1
  have hH : Holds (Value.int .i64) w g 0 [x, y, z].toArray := by
    intro j hj
    have hj3 : j < 3 := hj
    refine ⟨?_, by simp [World.frozen?, h]⟩
    rw [cell_of_row _ _ _ _ _ _ h]
    rcases (show j = 0 ∨ j = 1 ∨ j = 2 by omega) with rfl | rfl | rfl <;> rfl
  refine (slices_Sort_int g 0 3 [x, y, z] w hH hlt (by simp)).mono ?_
  rintro e w' ⟨rfl, n, os, rfl⟩
  have hl : ([x, y, z].mergeSort fun x y => decide (x ≤ y)).length = 3 := by simp
  match hm : ([x, y, z].mergeSort fun x y => decide (x ≤ y)), hl with
  | [a, b, c], _ =>
    have hA : Holds (Value.int .i64) (Sort.ahead w n) g 0 [x, y, z].toArray := holds_ahead _ _ _ _ _ _ hH
    have hz : g < (putRow (Value.int .i64) (Sort.ahead w n) g 0 #[a, b, c]).heap.size := by simpa [Sort.ahead] using hlt
    refine ⟨rfl, below_putRow (Nat.le_refl _) (by omega) _ _ _, a, b, c, sorted3 x y z a b c hm, ?_, ?_, ?_⟩
    · rw [cell?_grow _ _ _ hz]
      exact cell?_putRow (Value.int .i64) (Sort.ahead w n) g 0 [x, y, z].toArray #[a, b, c] hA rfl 0 (by simp)
    · rw [cell?_grow _ _ _ hz]
      exact cell?_putRow (Value.int .i64) (Sort.ahead w n) g 0 [x, y, z].toArray #[a, b, c] hA rfl 1 (by simp)
    · rw [cell?_grow _ _ _ hz]
      exact cell?_putRow (Value.int .i64) (Sort.ahead w n) g 0 [x, y, z].toArray #[a, b, c] hA rfl 2 (by simp)
/-- A product as it lies in memory. -/
def pCells (p : Prod) (B : Value) : Array Value := #[.string p.name, .int .i64 p.rate, .int .i64 p.conv, .int .i64 p.step, .int .i64 p.count, .int .i64 p.o1, .int .i64 p.o2, .int .i64 p.o3, B]
def Prod.val (p : Prod) (B : Value) : Value := .agg (pCells p B)
/-- A slice of numbers. -/
def RdI (w : World) (A : Option Addr) (n : Nat) (zs : List Int) : Prop := Rd w 1 A n (zs.map (Value.int .i64))
section
variable {w w' : World} {A : Option Addr} {n : Nat} {zs : List Int}
theorem RdI.len (h : RdI w A n zs) : zs.length = n := by have := h.1; simp at this; omega
theorem RdI.below (h : RdI w A n zs) (hb : Below w.heap.size w w') : RdI w' A n zs := Rd.below h hb
theorem RdI.addr (h : RdI w A n zs) (hn : 0 < n) : ∃ b off, A = some ⟨b, off, none⟩ := by
  obtain ⟨b, off, e, _⟩ := h.2 (by rw [List.length_map, h.len]; omega)
  exact ⟨b, off, e⟩
theorem RdI.cell {b off : Nat} (h : RdI w (some ⟨b, off, none⟩) n zs) (j : Nat) (hj : j < zs.length) : w.cell? ⟨b, off + j, none⟩ = some (.int .i64 zs[j]) := by
  obtain ⟨b', off', e, hc⟩ := h.2 (by rw [List.length_map]; omega)
  injection e with e
  injection e with e1 e2
  subst e1 e2
  exact hc j _ (by simp [List.getElem?_eq_getElem hj])
end
end Go.Proofs.YtcbopgopegphlaaGreat

namespace Go.Proofs.YtcbopgopegphlaaGreat
open Go.RowKit
set_option linter.unusedVariables false
set_option linter.unusedSimpArgs false

set_option maxRecDepth 100000 in
theorem leave_panic (g : Nat) (tmps : Array Value) (hres : tmps[2]? = some (.pointer (some ⟨g, 0, none⟩))) (W : World) (x : Int) (h : W.heap[g]? = some (.cells #[.int .i64 x] 29 (0, 0))) (R : Ending → World → Prop)
    (hR : R (.returned (.int .i64 50)) (W.setCell ⟨g, 0, none⟩ (.int .i64 50))) :
    bodyPostD Tryz.prog Tryz.f17 R (Exit.panic [oddOne false]) { tmps := tmps, defers := [{ target := Target.fn (Fn.func 33) #[], args := #[Value.pointer (some ⟨g, 0, none⟩)] }] } W := by
  have hc : W.cell? ⟨g, 0, none⟩ = some (.int .i64 x) := by rw [cell_of_row _ _ _ _ _ _ h]; rfl
  have hf : W.frozen? ⟨g, 0, none⟩ = false := by simp [World.frozen?, h]
  refine leaves_cons (f := 33) (args := #[.pointer (some ⟨g, 0, none⟩)]) (by simp) (by simp [go_sem]) ?_
  refine (caught_panic ⟨g, 0, none⟩ x [] W hc hf).mono ?_
  rintro e u' w'' ⟨rfl, rfl, rfl⟩
  have hc2 : (W.setCell ⟨g, 0, none⟩ (.int .i64 50)).cell? ⟨g, 0, none⟩ = some (.int .i64 50) := by simp [go_sem, hc]
  simp [Leaves, settle, results, Tryz.results17, go_sem, oddOne, hres, hc2, hR]
set_option maxRecDepth 100000 in
theorem leave_ok (g : Nat) (tmps : Array Value) (hres : tmps[2]? = some (.pointer (some ⟨g, 0, none⟩))) (W : World) (x : Int) (h : W.cell? ⟨g, 0, none⟩ = some (.int .i64 x)) (R : Ending → World → Prop) (hR : R (.returned (.int .i64 x)) W) :
    bodyPostD Tryz.prog Tryz.f17 R Exit.ret { tmps := tmps, defers := [{ target := Target.fn (Fn.func 33) #[], args := #[Value.pointer (some ⟨g, 0, none⟩)] }] } W := by
  refine leaves_cons (f := 33) (args := #[.pointer (some ⟨g, 0, none⟩)]) (by simp) (by simp [go_sem]) ?_
  refine (caught_idle ⟨g, 0, none⟩ W).mono ?_
  rintro e u' w'' ⟨rfl, rfl, rfl⟩
  simp [Leaves, settle, results, Tryz.results17, go_sem, hres, h, hR]
theorem odd_any (b : Bool) (w : World) : Calls Tryz.prog 34 #[.bool b] w fun e w' => (b = true ∧ e = .panicked [oddOne false] ∨ b = false ∧ e = .returned (.tuple #[])) ∧ w' = w := by
  cases b
  · exact (odd_false w).mono fun e w' ⟨h1, h2⟩ => ⟨.inr ⟨rfl, h1⟩, h2⟩
  · exact (odd_true w).mono fun e w' ⟨h1, h2⟩ => ⟨.inl ⟨rfl, h1⟩, h2⟩
theorem heap_old {w : World} {k : Nat} {o p : Obj} (h : w.heap[k]? = some o) : (w.alloc p).heap[k]? = some o := by
  rw [← h]
  have hk := (Array.getElem?_eq_some_iff.1 h).1
  simp only [World.alloc, Array.getElem?_push]
  rw [if_neg (by omega)]
theorem rises_snoc (a b : Int) (l : List Int) : risesFrom a (l ++ [b]) ↔ risesFrom a l ∧ l.getLastD a < b ∧ b ≤ 100000 := by
  induction l generalizing a with
  | nil => simp [risesFrom]
  | cons x l ih =>
    simp only [List.cons_append, risesFrom, ih x, List.getLastD_cons]
    constructor
    · rintro ⟨h1, h2, h3, h4, h5⟩; exact ⟨⟨h1, h2, h3⟩, h4, h5⟩
    · rintro ⟨⟨h1, h2, h3⟩, h4, h5⟩; exact ⟨h1, h2, h3, h4, h5⟩
theorem rises_pre (a : Int) (l m : List Int) (h : risesFrom a (l ++ m)) : risesFrom a l := by
  induction l generalizing a with
  | nil => trivial
  | cons x l ih => exact ⟨h.1, h.2.1, ih x h.2.2⟩
theorem rises_take (l : List Int) (j : Nat) (h : risesFrom 0 l) : risesFrom 0 (l.take j) := by
  rw [← List.take_append_drop j l] at h
  exact rises_pre _ _ _ h
theorem rises_step (l : List Int) (j : Nat) (h : j < l.length) : (risesFrom 0 (l.take (j + 1)) ↔ risesFrom 0 (l.take j) ∧ (l.take j).getLastD 0 < l[j] ∧ l[j] ≤ 100000) ∧ (l.take (j + 1)).getLastD 0 = l[j] := by
  rw [take_snoc' l j h]
  exact ⟨rises_snoc _ _ _, by rw [List.getLastD_eq_getLast?, List.getLast?_concat]; rfl⟩
set_option maxRecDepth 100000 in
set_option maxHeartbeats 4000000 in
theorem Check_any (p : Prod) (A : Option Addr) (n c : Nat) (w : World) (hA : RdI w A n p.bounds) :
    Calls Tryz.prog 17 #[p.val (.slice A n c)] w fun e w' => e = .returned (.int .i64 (if p.Ok then 0 else 50)) ∧ Below w.heap.size w w' := by
  have HN := Lib.hid fun W => Name_any p.name W
  generalize hR : (if p.Ok then (0 : Int) else 50) = R
  have BAD : Hid (¬ p.Ok → R = 50) := Lib.hid fun h => by rw [← hR, if_neg h]
  have GOOD : Hid (p.Ok → R = 0) := Lib.hid fun h => by rw [← hR, if_pos h]
  clear hR
  obtain ⟨name, rate, conv, step, count, o1, o2, o3, bounds⟩ := p
  unfold Prod.val pCells
  simp only at HN hA ⊢
  go_enter_defers Tryz.func17, Tryz.ntmps17
  go_wp2_with fail
  obtain ⟨w1, hw1⟩ : ∃ w1, w1 = (w.alloc (.cells #[.string name, .int .i64 rate, .int .i64 conv, .int .i64 step, .int .i64 count, .int .i64 o1, .int .i64 o2, .int .i64 o3, .slice A n c] 25)).alloc (.cells #[.int .i64 0] 29) := ⟨_, rfl⟩
  have hz1 : w1.heap.size = w.heap.size + 2 := by rw [hw1]; simp
  have hb1 : Below w.heap.size w w1 := by rw [hw1]; exact ((Below.refl _ _).alloc (Nat.le_refl _) _).alloc (by simp) _
  have h0 : w1.heap[w.heap.size]? = some (.cells #[.string name, .int .i64 rate, .int .i64 conv, .int .i64 step, .int .i64 count, .int .i64 o1, .int .i64 o2, .int .i64 o3, .slice A n c] 25 (0, 0)) := by rw [hw1]; exact heap_old (heap_alloc_new _ _)
  have h1 : w1.heap[w.heap.size + 1]? = some (.cells #[.int .i64 0] 29 (0, 0)) := by rw [hw1, ← World.size_alloc w]; exact heap_alloc_new _ _
  have hA1 := hA.below hb1
  rw [← hw1]
  clear hw1 hA
  refine (HN.out _).mono ?_
  rintro e w2 ⟨rfl, hb2⟩
  have H0 := (hb2.block w.heap.size (by omega)).trans h0
  have H1 := (hb2.block (w.heap.size + 1) (by omega)).trans h1
  have HA := Lib.hid (hA1.below hb2)
  have hbb : Below w.heap.size w w2 := hb1.trans (hb2.mono hb1.size)
  have hz2 := hb2.size
  clear hb1 hb2 h0 h1 hA1 HN
  have c1 : w2.cell? ⟨w.heap.size, 1, none⟩ = some (.int .i64 rate) := by rw [cell_of_row _ _ _ _ _ _ H0]; rfl
  have c2 : w2.cell? ⟨w.heap.size, 2, none⟩ = some (.int .i64 conv) := by rw [cell_of_row _ _ _ _ _ _ H0]; rfl
  have c3 : w2.cell? ⟨w.heap.size, 3, none⟩ = some (.int .i64 step) := by rw [cell_of_row _ _ _ _ _ _ H0]; rfl
  have c4 : w2.cell? ⟨w.heap.size, 4, none⟩ = some (.int .i64 count) := by rw [cell_of_row _ _ _ _ _ _ H0]; rfl
  have c5 : w2.cell? ⟨w.heap.size, 5, none⟩ = some (.int .i64 o1) := by rw [cell_of_row _ _ _ _ _ _ H0]; rfl
  have c6 : w2.cell? ⟨w.heap.size, 6, none⟩ = some (.int .i64 o2) := by rw [cell_of_row _ _ _ _ _ _ H0]; rfl
  have c7 : w2.cell? ⟨w.heap.size, 7, none⟩ = some (.int .i64 o3) := by rw [cell_of_row _ _ _ _ _ _ H0]; rfl
  have c8 : w2.cell? ⟨w.heap.size, 8, none⟩ = some (.slice A n c) := by rw [cell_of_row _ _ _ _ _ _ H0]; rfl
  have FAILG : Hid (∀ W, Below w.heap.size w W → ¬ Prod.Ok ⟨name, rate, conv, step, count, o1, o2, o3, bounds⟩ → (Ending.returned (.int .i64 50) = Ending.returned (.int .i64 R)) ∧ Below w.heap.size w (W.setCell ⟨w.heap.size + 1, 0, none⟩ (.int .i64 50))) := Lib.hid fun W hW h => ⟨by rw [BAD.out h], hW.setCell (by simp) _⟩
  have FAIL := Lib.hid (FAILG.out w2 hbb)
  have HH0 := Lib.hid H0
  have HH1 := Lib.hid H1
  clear H0 H1
  go_wp2_with fail
  refine (odd_any _ _).mono ?_
  rintro e w3 ⟨(⟨hd, rfl⟩ | ⟨hd, rfl⟩), rfl⟩
  · go_wp2_with fail
    refine leave_panic _ _ rfl _ 0 HH1.out _ (FAIL.out ?_)
    intro h
    have g1 := h.name
    have g2 := h.name
    simp at hd g1 g2
    simp [g1] at hd
  have Hname := Lib.hid hd
  clear hd
  by_cases hrate0 : rate < 0
  · go_wp2_with fail
    refine (odd_any _ _).mono ?_
    rintro e w3 ⟨(⟨hd, rfl⟩ | ⟨hd, rfl⟩), rfl⟩
    · go_wp2_with fail
      refine leave_panic _ _ rfl _ 0 HH1.out _ (FAIL.out ?_)
      intro h
      have g1 := h.rate0
      simp at g1
      omega
    · exfalso; simp at hd <;> omega
  by_cases hrate1 : 1000000000 < rate
  · go_wp2_with fail
    refine (odd_any _ _).mono ?_
    rintro e w3 ⟨(⟨hd, rfl⟩ | ⟨hd, rfl⟩), rfl⟩
    · go_wp2_with fail
      refine leave_panic _ _ rfl _ 0 HH1.out _ (FAIL.out ?_)
      intro h
      have g1 := h.rate1
      simp at g1
      omega
    · exfalso; simp at hd <;> omega
  go_wp2_with fail
  refine (odd_any _ _).mono ?_
  rintro e w3 ⟨(⟨hd, rfl⟩ | ⟨hd, rfl⟩), rfl⟩
  · exfalso; simp at hd <;> omega
  clear hd
  by_cases hconv0 : conv < 1
  · go_wp2_with fail
    refine (odd_any _ _).mono ?_
    rintro e w3 ⟨(⟨hd, rfl⟩ | ⟨hd, rfl⟩), rfl⟩
    · go_wp2_with fail
      refine leave_panic _ _ rfl _ 0 HH1.out _ (FAIL.out ?_)
      intro h
      have g1 := h.conv0
      simp at g1
      omega
    · exfalso; simp at hd <;> omega
  by_cases hconv1 : 3 < conv
  · go_wp2_with fail
    refine (odd_any _ _).mono ?_
    rintro e w3 ⟨(⟨hd, rfl⟩ | ⟨hd, rfl⟩), rfl⟩
    · go_wp2_with fail
      refine leave_panic _ _ rfl _ 0 HH1.out _ (FAIL.out ?_)
      intro h
      have g1 := h.conv1
      simp at g1
      omega
    · exfalso; simp at hd <;> omega
  go_wp2_with fail
  refine (odd_any _ _).mono ?_
  rintro e w3 ⟨(⟨hd, rfl⟩ | ⟨hd, rfl⟩), rfl⟩
  · exfalso; simp at hd <;> omega
  clear hd
  by_cases hstep0 : step < 1
  · go_wp2_with fail
    refine (odd_any _ _).mono ?_
    rintro e w3 ⟨(⟨hd, rfl⟩ | ⟨hd, rfl⟩), rfl⟩
    · go_wp2_with fail
      refine leave_panic _ _ rfl _ 0 HH1.out _ (FAIL.out ?_)
      intro h
      have g1 := h.step0
      simp at g1
      omega
    · exfalso; simp at hd <;> omega
  by_cases hstep1 : 120 < step
  · go_wp2_with fail
    refine (odd_any _ _).mono ?_
    rintro e w3 ⟨(⟨hd, rfl⟩ | ⟨hd, rfl⟩), rfl⟩
    · go_wp2_with fail
      refine leave_panic _ _ rfl _ 0 HH1.out _ (FAIL.out ?_)
      intro h
      have g1 := h.step1
      simp at g1
      omega
    · exfalso; simp at hd <;> omega
  go_wp2_with fail
  refine (odd_any _ _).mono ?_
  rintro e w3 ⟨(⟨hd, rfl⟩ | ⟨hd, rfl⟩), rfl⟩
  · exfalso; simp at hd <;> omega
  clear hd
  by_cases hcount0 : count < 1
  · go_wp2_with fail
    refine (odd_any _ _).mono ?_
    rintro e w3 ⟨(⟨hd, rfl⟩ | ⟨hd, rfl⟩), rfl⟩
    · go_wp2_with fail
      refine leave_panic _ _ rfl _ 0 HH1.out _ (FAIL.out ?_)
      intro h
      have g1 := h.count0
      simp at g1
      omega
    · exfalso; simp at hd <;> omega
  by_cases hcount1 : 480 < count
  · go_wp2_with fail
    refine (odd_any _ _).mono ?_
    rintro e w3 ⟨(⟨hd, rfl⟩ | ⟨hd, rfl⟩), rfl⟩
    · go_wp2_with fail
      refine leave_panic _ _ rfl _ 0 HH1.out _ (FAIL.out ?_)
      intro h
      have g1 := h.count1
      simp at g1
      omega
    · exfalso; simp at hd <;> omega
  go_wp2_with fail
  refine (odd_any _ _).mono ?_
  rintro e w3 ⟨(⟨hd, rfl⟩ | ⟨hd, rfl⟩), rfl⟩
  · exfalso; simp at hd <;> omega
  clear hd
  have hz3 : w.heap.size + 2 ≤ w3.heap.size := by omega
  go_wp2_with fail
  obtain ⟨w4, hw4⟩ : ∃ w4, w4 = w3.alloc (.cells #[.int .i64 o1, .int .i64 o2, .int .i64 o3] 22) := ⟨_, rfl⟩
  have h4 : w4.heap[w3.heap.size]? = some (.cells #[.int .i64 o1, .int .i64 o2, .int .i64 o3] 22 (0, 0)) := by rw [hw4]; exact heap_alloc_new _ _
  have hz4 : w4.heap.size = w3.heap.size + 1 := by rw [hw4]; simp
  have hb4 : Below w3.heap.size w3 w4 := by rw [hw4]; exact (Below.refl _ _).alloc (Nat.le_refl _) _
  rw [← hw4]
  clear hw4
  refine (sort3 w3.heap.size o1 o2 o3 _ _ h4).mono ?_
  rintro e w5 ⟨rfl, hb5, a, b, d, hs3, s0, s1, s2⟩
  have hb35 : Below w3.heap.size w3 w5 := hb4.trans hb5
  have hz5 := hb5.size
  have G1 := Lib.hid ((hb35.block _ (by omega)).trans HH1.out)
  have hbb5 : Below w.heap.size w w5 := hbb.trans (hb35.mono hbb.size)
  have d8 : w5.cell? ⟨w.heap.size, 8, none⟩ = some (.slice A n c) := cell_later hb35 c8
  have HA5 := Lib.hid (HA.out.below hb35)
  have FAIL5 := Lib.hid (FAILG.out w5 hbb5)
  have HS3 := Lib.hid hs3
  clear c1 c2 c3 c4 c5 c6 c7 c8 FAIL HH0 HH1 hb5 hb4 hb35 h4 HA hs3
  have heq := fun W => equal3 a b d 1 2 3 W
  have hgd : Tryz.prog.eqGuardType Tryz.prog.depth 22 = false := by kernel_rfl
  generalize hq : (a == 1 && b == 2 && d == 3) = q at heq
  have HQ := Lib.hid hq
  clear hq
  go_wp2_with fail
  refine (odd_any _ _).mono ?_
  rintro e w6 ⟨(⟨hd, rfl⟩ | ⟨hd, rfl⟩), rfl⟩
  · go_wp2_with fail
    refine leave_panic _ _ rfl _ 0 G1.out _ (FAIL5.out ?_)
    intro h
    obtain ⟨rfl, rfl, rfl⟩ := HS3.out.1 h.order
    have h1 := HQ.out
    simp at h1
    rw [← h1] at hd
    simp at hd
  have hO : Hid (orderOk o1 o2 o3) := Lib.hid (HS3.out.2 (by
    have h1 := HQ.out
    simp at hd
    rw [hd] at h1
    simp at h1
    exact ⟨h1.1.1, h1.1.2, h1.2⟩))
  clear hd HS3 HQ heq hgd s0 s1 s2
  have HLEN := Lib.hid HA5.out.len
  go_wp2_with fail
  refine (odd_any _ _).mono ?_
  rintro e w6 ⟨(⟨hd, rfl⟩ | ⟨hd, rfl⟩), rfl⟩
  · go_wp2_with fail
    refine leave_panic _ _ rfl _ 0 G1.out _ (FAIL5.out ?_)
    intro h
    have h1 := h.len
    have h2 := HLEN.out
    simp at hd h1
    omega
  have hn8 : n ≤ 8 := by simp at hd; omega
  clear hd
  have HSTEP := Lib.hid (rises_step bounds)
  have HTAKE := Lib.hid (rises_take bounds)
  go_wp2_with fail
  go_loopw [4, 64] (fun s i wr => ∃ j : Nat, j ≤ n ∧ i = .int .i64 j ∧ s = .int .i64 ((bounds.take j).getLastD 0) ∧ Hid (risesFrom 0 (bounds.take j)) ∧ wr = w6) (fun _ i _ => n - (intOf i).toNat)
  case atStart => exact ⟨0, by omega, rfl, rfl, Lib.hid trivial, rfl⟩
  case round =>
    obtain ⟨j, hj, rfl, rfl, hri, rfl⟩ := hrel
    by_cases hlt : j < n
    · obtain ⟨bk, off, rfl⟩ := HA5.out.addr (by omega)
      have hlen := HLEN.out
      have hjl : j < bounds.length := by omega
      have hc := HA5.out.cell j hjl
      have HS := Lib.hid (HSTEP.out j hjl)
      have HT := Lib.hid (HTAKE.out (j + 1))
      have HE := Lib.hid (HSTEP.out j hjl).2
      clear hlen
      generalize bounds[j] = x at hc HS HE
      generalize (bounds.take j).getLastD 0 = y at HS
      have hx : Hid (y < x ∧ x ≤ 100000 → risesFrom 0 (bounds.take (j + 1))) := Lib.hid fun h => HS.out.1.2 ⟨hri.out, h⟩
      have hnx : Hid (risesFrom 0 bounds → y < x ∧ x ≤ 100000) := Lib.hid fun h => (HS.out.1.1 (HT.out h)).2
      clear HS HT hri
      rcases (show (x ≤ y ∨ y < x ∧ 100000 < x) ∨ y < x ∧ x ≤ 100000 by omega) with hbad | ⟨hg1, hg2⟩
      · have hk := FAIL5.out (fun h => by have h1 := hnx.out h.rises; omega)
        clear hnx hx
        rcases hbad with hbad | ⟨hbad, hbad2⟩
        all_goals
          go_wp2_with fail
          refine (odd_any _ _).mono ?_
          rintro e w7 ⟨(⟨hd, rfl⟩ | ⟨hd, rfl⟩), rfl⟩
          · go_wp2_with fail
            exact leave_panic _ _ rfl _ 0 G1.out _ hk
          · exfalso; simp at hd <;> omega
      · have h1 : Hid (risesFrom 0 (bounds.take (j + 1))) := Lib.hid (hx.out ⟨hg1, hg2⟩)
        clear hnx hx
        go_wp2_with fail
        refine (odd_any _ _).mono ?_
        rintro e w7 ⟨(⟨hd, rfl⟩ | ⟨hd, rfl⟩), rfl⟩
        · exfalso; simp at hd <;> omega
        clear hd
        go_wp2_with fail
        go_roundw
        case rel => exact ⟨j + 1, by omega, by go_num, by rw [HE.out], h1, trivial⟩
        case measure => simp [intOf]; omega
    · have hjn : j = n := by omega
      have hall : Hid (R = 0) := Lib.hid (GOOD.out ⟨by have := Hname.out; simpa using this, by omega, by omega, by omega, by omega, by omega, by omega, by omega, by omega, hO.out, by have := HLEN.out; simp only; omega, by
        have h1 := hri.out
        rw [List.take_of_length_le (by rw [HLEN.out]; omega)] at h1
        exact h1⟩)
      have e0 : wr.cell? ⟨w.heap.size + 1, 0, none⟩ = some (.int .i64 0) := by rw [cell_of_row _ _ _ _ _ _ G1.out]; rfl
      have e1 : wr.frozen? ⟨w.heap.size + 1, 0, none⟩ = false := by simp [World.frozen?, G1.out]
      go_wp2_with fail
      exact leave_ok _ _ rfl _ 0 (by simp [go_sem, e0]) _ ⟨by rw [hall.out], hbb5.setCell (by simp) _⟩
end Go.Proofs.YtcbopgopegphlaaGreat
