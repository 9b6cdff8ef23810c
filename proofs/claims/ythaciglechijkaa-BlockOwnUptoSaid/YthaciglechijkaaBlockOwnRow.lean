/-
  THE ROW OF BlockOwn (second form): the statement 'Rows.BlockOwnUptoSaid' is proved: for every input the law returns true and its arguments read as before (where the arguments hold at most 1048576 values and letters).
-/
import Derived.Test.YthaciglechijkaaRows
import Derived.Test.YthaciglechijkaaOpen
import Derived.Test.YthaciglechijkaaBlockOwn
import Derived.Test.YthaciglechijkaaBulk
import Derived.Test.YthaciglechijkaaBulkQ
namespace Go.Proofs.Ythaciglechijkaa
open Go.ChangeShapes Go.WideShapes Go.ChangeAt Go.RowKit
open Go.ChangeMaps (open_string shut_string)
set_option linter.unusedVariables false

set_option maxRecDepth 100000 in
theorem BlockOwn_lifted (os : Os) (started : os.Started) (H : Type) (enc : TypeId × Value → H) (F : Stop.Interp) :
    ReturnsInHanded {} Try.checked os 6 .any ((Rows.OpenSpec.upto Rows.blockOwnSpec).pre6 enc Try.prog Try.f6 Rows.blockOwnUptoRow.domain false) (((Rows.OpenSpec.upto Rows.blockOwnSpec).at F).post enc Try.prog Try.f6 false true false false) := by
  refine returnsInHanded_of_cond_sized (C := Try.checked) (s := Rows.OpenSpec.upto Rows.blockOwnSpec) (k := Rows.uptoSmall) rfl own started (by kernel_rfl) Try.func6
    (OpenSpec.witness (enc := enc) (C := Try.checked) (s := Rows.OpenSpec.upto Rows.blockOwnSpec) (k := Rows.uptoSmall) rfl false ⟨#[], #[.slice none 0 0, .slice none 0 0], []⟩ 8 (by kernel_rfl) (by kernel_rfl) (by kernel_rfl)
      (x := ([.nil, .nil], [], [])) (by kernel_rfl) rfl (by kernel_rfl)) ?_
  intro W base args ds gs before hval0 hW hcnd hk hsz _
  have hbk := bulks.bound hk
  have hval : ∀ (j : Nat) t v, Try.f6.params[j]? = some t → args[j]? = some v → Value.okWide Try.prog W .any base t v := hval0
  have hW' := hW
  obtain ⟨p, q, hA0, hV, rfl, hfz, hnd⟩ := hW
  have hA : DataW.TrodAll enc Try.prog W 0 (fun _ => true) true Try.f6.params.toList args.toList ds p := hA0
  rw [Try.params6] at hA hval hsz
  obtain ⟨v0, vs0, d0, ds0, p0, q0, hargs, rfl, rfl, h0, r0⟩ := trodAll_cons hA
  obtain ⟨v1, vs1, d1, ds1, p1, q1, rfl, rfl, rfl, h1, r1⟩ := trodAll_cons r0
  obtain ⟨rfl, rfl, rfl⟩ := trodAll_nil r1
  obtain rfl : args = #[v0, v1] := by cases args; simp_all
  obtain ⟨rfl, rfl⟩ := trodVars_none hV
  simp only [List.cons_append, List.nil_append, Rows.uptoBulkAll] at hbk
  obtain ⟨a0, n0, c0, rfl⟩ := okWide_slice Try.underlying22 (hval 0 22 v0 rfl rfl)
  have k0 := h0
  have lt0 : ∀ x ∈ p0, x.block < W.heap.size := by obtain ⟨m, hm⟩ := k0; exact DataW.trod_lt m _ _ _ hm
  obtain ⟨xs0, hr0, hn0, hm0, hd0⟩ := open_pairs h0
  have hs0 := bulks.pairs_le hd0
  have hl0 : n0 ≤ 1048576 := by have := hr0.len; omega
  have ht0 : ∀ p ∈ xs0, p.key.length ≤ 1048576 ∧ p.val.length ≤ 1048576 := fun p hp => by have := hs0.2 p hp; omega
  obtain ⟨a1, n1, c1, rfl⟩ := okWide_slice Try.underlying24 (hval 1 24 v1 rfl rfl)
  have k1 := h1
  have lt1 : ∀ x ∈ p1, x.block < W.heap.size := by obtain ⟨m, hm⟩ := k1; exact DataW.trod_lt m _ _ _ hm
  obtain ⟨xs1, hr1, hn1, hm1, hd1⟩ := open_bytes h1
  have hc1 : c1 ≤ 1048576 := by
    rcases hd1 with ⟨_, h⟩ | ⟨elems, spare, rfl, h⟩
    · omega
    · have := bulks.slice_le elems spare
      omega
  clear hA0 hval0
  refine (BlockOwn_walk a0 n0 c0 a1 n1 c1 W xs0 hr0 hn0 hl0 ht0 xs1 hr1 hn1 hc1).mono fun e W' ⟨he, bel⟩ => ?_
  subst he
  exact ⟨_, rfl, _, _, _, [], _, [], hW', trodAll_mk1 (shut_bool Try.underlying4 _), (trodAll_cons_mk (Below.trod laidOut (by kernel_rfl) (of_decide_eq_true (by kernel_rfl)) k0 bel lt0) (trodAll_cons_mk (Below.trod laidOut (by kernel_rfl) (of_decide_eq_true (by kernel_rfl)) k1 bel lt1) trodAll_mk0)), rfl, bel.frame _, fun h => by cases h⟩

theorem BlockOwn_over : Rows.blockOwnUptoRow.holds Try.pinned (Rows.OpenSpec.upto Rows.blockOwnSpec) :=
  OpenClaim.holds_of_cond 6 Try.f6 rfl rfl rfl rfl rfl rfl rfl ⟨rfl, rfl, rfl, rfl, rfl⟩ rfl rfl rfl rfl rfl (by kernel_rfl) Try.func6 (by kernel_rfl)
    (of_decide_eq_true (by kernel_rfl)) (by unfold Func.isWrapper; first | (rw [if_pos (by decide +kernel)]; kernel_rfl) | (rw [if_neg (by decide +kernel)]; exact ⟨rfl, rfl⟩))
    (fun os started H enc _ F => BlockOwn_lifted os started H enc F)

theorem BlockOwn_proved : Rows.BlockOwnUptoSaid := BlockOwn_over
#print axioms BlockOwn_proved
end Go.Proofs.Ythaciglechijkaa
