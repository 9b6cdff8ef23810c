/-
  An engine through changes of memory; the zero loan. No statement is proved here.
-/
import Derived.Test.YtcbopgopegphlaaGreatEnO
import Derived.Test.YtcbopgopegphlaaGreatEnM
import Derived.Deep.RegionLaw
import Derived.StillTailTactics
namespace Go.Proofs.YtcbopgopegphlaaGreat
open Go.RowKit
set_option linter.unusedVariables false
theorem ownE_block {w : World} {base e sz n : Nat} {v : Value} {xs : List Value} (h : w.ownsRow base e sz v n xs) {g : Nat} (hg : v.ownBlock = some g) : g < w.heap.size ∧ ∃ cs, w.heap[g]? = some (.cells cs e (0, 0)) := by
  rcases h.2 with ⟨rfl, _⟩ | ⟨g', cap, cur, rfl, hb, hc, _⟩
  · cases hg
  · injection hg with hg
    subst hg
    exact ⟨(Array.getElem?_eq_some_iff.1 hc).1, cur, hc⟩
theorem ownE_keep {w w' : World} {base e sz n : Nat} {v : Value} {xs : List Value} (h : w.ownsRow base e sz v n xs) (hk : ∀ g, v.ownBlock = some g → w'.heap[g]? = w.heap[g]?) : w'.ownsRow base e sz v n xs := by
  refine ⟨h.1, ?_⟩
  rcases h.2 with hn | ⟨g', cap, cur, rfl, hb, hc, hr⟩
  · exact .inl hn
  · exact .inr ⟨g', cap, cur, rfl, hb, (hk g' rfl).trans hc, hr⟩
theorem rdI_keep {w w' : World} {A : Option Addr} {n : Nat} {zs : List Int} (h : RdI w A n zs) (hk : 0 < n → ∀ ad, A = some ad → w'.heap[ad.block]? = w.heap[ad.block]?) : RdI w' A n zs := by
  have hl := h.1
  refine ⟨h.1, fun h0 => ?_⟩
  obtain ⟨b, off, e, hc⟩ := h.2 h0
  have hn : 0 < n := by rw [hl] at h0; omega
  exact ⟨b, off, e, fun j u hu => by
    have := hk hn _ e
    have h2 := hc j u hu
    unfold World.cell? at *
    simpa [this] using h2⟩
theorem EngAt.keep {w w' : World} {ge gm : Nat} {p : Prod} {A : Option Addr} {n c : Nat} {v : Value} {l : List Ev} {M : List ((Int × Int) × Ln)} (h : EngAt w ge gm p A n c v l M)
    (hk : ∀ k, k < w.heap.size → w'.heap[k]? = w.heap[k]?) : EngAt w' ge gm p A n c v l M where
  cells := (hk _ (Array.getElem?_eq_some_iff.1 h.cells).1).trans h.cells
  map := (hk _ (Array.getElem?_eq_some_iff.1 h.map).1).trans h.map
  row := ownE_keep h.row fun g hg => hk g (ownE_block h.row hg).1
  bnds := rdI_keep h.bnds fun hn ad e => hk _ (rdI_lt h.bnds hn ad e)
  far := h.far
theorem EngAt.below {w w' : World} {ge gm : Nat} {p : Prod} {A : Option Addr} {n c : Nat} {v : Value} {l : List Ev} {M : List ((Int × Int) × Ln)} (h : EngAt w ge gm p A n c v l M) (hb : Below w.heap.size w w') : EngAt w' ge gm p A n c v l M := h.keep hb.block
theorem EngAt.apart {w : World} {ge gm : Nat} {p : Prod} {A : Option Addr} {n c : Nat} {v : Value} {l : List Ev} {M : List ((Int × Int) × Ln)} (h : EngAt w ge gm p A n c v l M) : ge ≠ gm ∧ v.ownBlock ≠ some gm ∧ v.ownBlock ≠ some ge := by
  refine ⟨fun e => ?_, fun e => ?_, fun e => ?_⟩
  · have h1 := h.cells
    rw [e, h.map] at h1
    injection h1 with h1
    cases h1
  · obtain ⟨_, cs, h1⟩ := ownE_block h.row e
    rw [h.map] at h1
    injection h1 with h1
    cases h1
  · obtain ⟨_, cs, h1⟩ := ownE_block h.row e
    rw [h.cells] at h1
    injection h1 with h1
    injection h1 with _ h1
    exact absurd h1 (by decide)
theorem EngAt.set {w w' : World} {ge gm : Nat} {p : Prod} {A : Option Addr} {n c : Nat} {v : Value} {l : List Ev} {M M' : List ((Int × Int) × Ln)} (h : EngAt w ge gm p A n c v l M) (hm : MapG keP (veL p (.slice A n c)) gm w w' M') : EngAt w' ge gm p A n c v l M' where
  cells := (hm.block _ h.apart.1).trans h.cells
  map := hm.here
  row := ownE_keep h.row fun g hg => hm.block g fun e => h.apart.2.1 (by rw [hg, e])
  bnds := rdI_keep h.bnds fun hn ad e => hm.block _ (h.far hn ad e).2.1
  far := h.far
/-- The zero loan. -/
def lnZero : Array Value := #[.string ⟨#[]⟩, .int .i64 0, .int .i64 0, .int .i64 0, .int .i64 0, .int .i64 0, .int .i64 0, .int .i64 0, .slice none 0 0, .int .i64 0, .int .i64 0, .int .i64 0, .int .i64 0, .int .i64 0, .int .i64 0, .int .i64 0, .int .i64 0, .int .i64 0, .int .i64 0, .int .i64 0, .int .i64 0, .int .i64 0, .bool false, .bool false]
theorem zero_ln (w : World) : (zeroValue 69).run Tryz.prog w = .ok (.agg lnZero) w := by kernel_rfl
theorem place_map : Tryz.prog.underlying 58 = some (.map 72 69) := Tryz.underlying58
theorem look_place {w : World} {gm : Nat} {p : Prod} {B : Value} {M : List ((Int × Int) × Ln)} (hm : w.heap[gm]? = some (.map (mapG keP (veL p B) M 0).toArray M.length)) (q m : Nat) :
    (Instr.lookup 58 (.map (some gm)) (.agg #[.int .i64 (q : Int), .int .i64 (m : Int)]) true).run Tryz.prog w = .ok (.tuple #[((getG M ((q : Int), (m : Int))).map (veL p B)).getD (.agg lnZero), .bool (getG M ((q : Int), (m : Int))).isSome]) w :=
  look_two keP (veL p B) (keyOk_place _) place_map _ zero_ln w gm M M.length ((q : Int), (m : Int)) hm
theorem upd_place {w : World} {gm : Nat} {p : Prod} {B : Value} {M : List ((Int × Int) × Ln)} (hm : w.heap[gm]? = some (.map (mapG keP (veL p B) M 0).toArray M.length)) (q m : Nat) (L : Ln) :
    ∃ w', (Instr.mapUpdate 58 (.map (some gm)) (.agg #[.int .i64 (q : Int), .int .i64 (m : Int)]) (.agg (lnCells p B L))).run Tryz.prog w = .ok () w' ∧ MapG keP (veL p B) gm w w' (setG M ((q : Int), (m : Int)) L) :=
  upd_one keP (veL p B) (keyOk_place _) place_map w gm M ((q : Int), (m : Int)) L hm
theorem info_lz : (Tryz.prog.info? 69).map (·.size) = some lnZero.size := by rw [show lnZero.size = 24 from rfl]; kernel_rfl
/-- A load of a whole row at a step of a region that draws its order. -/
theorem step_row {P : Program} {ops : Array Oper} {o : Oper} {a : Act} {w : World} {K : Act → World → Prop} {Q : Exit → Act → World → Prop} {E : Prop} (hgd : o.guard = none) (ty : TypeId) (x : Operand) (ho : o.op = .load ty x)
    (g : Nat) (hx : a.eval x = .pointer (some ⟨g, 0, none⟩)) (t : TypeId) (cs : Array Value) (fr : Nat × Nat) (d : TypeDesc) (hg : w.heap[g]? = some (.cells cs t fr))
    (hu : P.underlying ty = some d) (hd : (match d with | .struct _ | .array _ _ => true | _ => false) = true) (hi : (P.info? ty).map (·.size) = some cs.size)
    (h : K (a.put o.dst (.agg cs)) w) : if Region.wanted o (yielded ops a.tmps) = true then Oper.wp P o a w K Q else E := by
  have hw : Region.wanted o (yielded ops a.tmps) = true := by simp [Region.wanted, hgd]
  rw [if_pos hw]
  exact wp_load_row ty x ho g hx t cs fr d hg hu hd hi h
/-- A store into a map at a step of a region that draws its order. -/
theorem step_upd {P : Program} {ops : Array Oper} {o : Oper} {a : Act} {w : World} {K : Act → World → Prop} {Q : Exit → Act → World → Prop} {E : Prop} (hgd : o.guard = none) (T : TypeId) (m k x : Operand) (ho : o.op = .mapUpdate T m k x)
    (vm vk vx : Value) (hm : a.eval m = vm) (hk : a.eval k = vk) (hx : a.eval x = vx) (w' : World) (hrun : (Instr.mapUpdate T vm vk vx).run P w = .ok () w')
    (h : K (a.put o.dst undef) w') : if Region.wanted o (yielded ops a.tmps) = true then Oper.wp P o a w K Q else E := by
  have hw : Region.wanted o (yielded ops a.tmps) = true := by simp [Region.wanted, hgd]
  rw [if_pos hw]
  subst hm hk hx
  unfold Oper.wp execOp
  simp only [ho, Sem.run_bind, Sem.run_pure, hrun, Result.andThen_ok]
  exact h
section
variable {P : Program}
/-- A whole value out of the midst of a row, where a region stays. -/
theorem still_mid {ops : Array Oper} {rest : List Oper} {o : Oper} {a : Act} {w : World} {Q : Act → Prop} (hgd : o.guard = none) (ty : TypeId) (x : Operand) (ho : o.op = .load ty x)
    (g off : Nat) (hx : a.eval x = .pointer (some ⟨g, off, none⟩)) (cs : Array Value) (d : TypeDesc) (hc : ∀ j u, cs.toList[j]? = some u → w.cell? ⟨g, off + j, none⟩ = some u)
    (hu : P.underlying ty = some d) (hd : (match d with | .struct _ | .array _ _ => true | _ => false) = true) (hi : (P.info? ty).map (·.size) = some cs.size)
    (h : wpStill P ops w Q rest (a.put o.dst (.agg cs))) : wpStill P ops w Q (o :: rest) a := by
  refine wpStill_step fun K hK => ?_
  have hw : Region.wanted o (yielded ops a.tmps) = true := by simp [Region.wanted, hgd]
  rw [if_pos hw]
  have hl : (loadCells ⟨g, off, none⟩ cs.toList.length).run P w = .ok cs.toList.toArray w :=
    run_loadCells_list (P := P) w ⟨g, off, none⟩ cs.toList (fun j v hv => by
      have hadd : (⟨g, off, none⟩ : Addr).add j = ⟨g, off + j, none⟩ := by unfold Addr.add; split <;> simp_all
      rw [hadd]
      exact hc j v hv)
  have hrun : (execOp a.eval o).run P w = .ok (.value (.agg cs)) w := by
    cases hq : P.info? ty with
    | none => simp [hq] at hi
    | some i =>
      have hs : i.size = cs.size := by simpa [hq] using hi
      have hagg : (isAgg ty).run P w = .ok true w := by
        unfold isAgg
        rw [Sem.run_bind, run_underlying hu w]
        cases d <;> simp_all
      simp only [Array.length_toList, Array.toArray_toList] at hl
      simp [execOp, ho, hx, Instr.loadAt, Instr.sureAddr, loadVar, Sem.run_bind, hagg, sizeOf, typeInfo, hq, hs, hl]
  unfold Oper.still
  rw [hrun]
  exact ⟨rfl, hK _ h⟩
end
end Go.Proofs.YtcbopgopegphlaaGreat
