/-
  THE ROW OF FrameOwn (second form): the statement 'Rows.FrameOwnUptoSaid' is proved: for every input the law returns true and its arguments read as before (where the arguments hold at most 1048576 values and letters).
-/
import Derived.Test.YtcpojhckgoinmaaRows
import Derived.Test.YtcpojhckgoinmaaOpen
import Derived.Test.YtcpojhckgoinmaaFrameOwn
import Derived.Test.YtcpojhckgoinmaaBulk
namespace Go.Proofs.Ytcpojhckgoinmaa
open Go.ChangeShapes Go.WideShapes Go.ChangeAt Go.RowKit
open Go.ChangeMaps (open_string shut_string)
set_option linter.unusedVariables false

set_option maxRecDepth 100000 in
theorem FrameOwn_lifted (os : Os) (started : os.Started) (H : Type) (enc : TypeId × Value → H) (F : Stop.Interp) :
    ReturnsInHanded {} Try.checked os 8 .any ((Rows.OpenSpec.upto Rows.frameOwnSpec).pre6 enc Try.prog Try.f8 Rows.frameOwnUptoRow.domain false) (((Rows.OpenSpec.upto Rows.frameOwnSpec).at F).post enc Try.prog Try.f8 false true false false) := by
  refine returnsInHanded_of_cond_sized (C := Try.checked) (s := Rows.OpenSpec.upto Rows.frameOwnSpec) (k := Rows.uptoSmall) rfl own started (by kernel_rfl) Try.func8
    (OpenSpec.witness (enc := enc) (C := Try.checked) (s := Rows.OpenSpec.upto Rows.frameOwnSpec) (k := Rows.uptoSmall) rfl false ⟨#[], #[.slice none 0 0, .slice none 0 0], []⟩ 8 (by kernel_rfl) (by kernel_rfl) (by kernel_rfl)
      (x := ([.nil, .nil], [], [])) (by kernel_rfl) rfl (by kernel_rfl)) ?_
  intro W base args ds gs before hval0 hW hcnd hk hsz _
  have hbk := bulks.bound hk
  have hval : ∀ (j : Nat) t v, Try.f8.params[j]? = some t → args[j]? = some v → Value.okWide Try.prog W .any base t v := hval0
  have hW' := hW
  obtain ⟨p, q, hA0, hV, rfl, hfz, hnd⟩ := hW
  have hA : DataW.TrodAll enc Try.prog W 0 (fun _ => true) true Try.f8.params.toList args.toList ds p := hA0
  rw [Try.params8] at hA hval hsz
  obtain ⟨v0, vs0, d0, ds0, p0, q0, hargs, rfl, rfl, h0, r0⟩ := trodAll_cons hA
  obtain ⟨v1, vs1, d1, ds1, p1, q1, rfl, rfl, rfl, h1, r1⟩ := trodAll_cons r0
  obtain ⟨rfl, rfl, rfl⟩ := trodAll_nil r1
  obtain rfl : args = #[v0, v1] := by cases args; simp_all
  obtain ⟨rfl, rfl⟩ := trodVars_none hV
  simp only [List.cons_append, List.nil_append, Rows.uptoBulkAll] at hbk
  obtain ⟨a0, n0, c0, rfl⟩ := okWide_slice Try.underlying22 (hval 0 22 v0 rfl rfl)
  have k0 := h0
  have lt0 : ∀ x ∈ p0, x.block < W.heap.size := by obtain ⟨m, hm⟩ := k0; exact DataW.trod_lt m _ _ _ hm
  obtain ⟨xs0, hr0, hn0, hm0, hd0⟩ := open_bytes h0
  have hc0 : c0 ≤ 1048576 := by
    rcases hd0 with ⟨_, h⟩ | ⟨elems, spare, rfl, h⟩
    · omega
    · have := bulks.slice_le elems spare
      omega
  obtain ⟨a1, n1, c1, rfl⟩ := okWide_slice Try.underlying22 (hval 1 22 v1 rfl rfl)
  have k1 := h1
  have lt1 : ∀ x ∈ p1, x.block < W.heap.size := by obtain ⟨m, hm⟩ := k1; exact DataW.trod_lt m _ _ _ hm
  obtain ⟨xs1, hr1, hn1, hm1, hd1⟩ := open_bytes h1
  have hc1 : c1 ≤ 1048576 := by
    rcases hd1 with ⟨_, h⟩ | ⟨elems, spare, rfl, h⟩
    · omega
    · have := bulks.slice_le elems spare
      omega
  clear hA0 hval0
  refine (FrameOwn_walk a0 n0 c0 a1 n1 c1 W xs0 hr0 hn0 hc0 xs1 hr1 hn1 hc1).mono fun e W' ⟨he, bel⟩ => ?_
  subst he
  exact ⟨_, rfl, _, _, _, [], _, [], hW', trodAll_mk1 (shut_bool Try.underlying4 _), (trodAll_cons_mk (Below.trod laidOut (by kernel_rfl) (of_decide_eq_true (by kernel_rfl)) k0 bel lt0) (trodAll_cons_mk (Below.trod laidOut (by kernel_rfl) (of_decide_eq_true (by kernel_rfl)) k1 bel lt1) trodAll_mk0)), rfl, bel.frame _, fun h => by cases h⟩

theorem FrameOwn_over : Rows.frameOwnUptoRow.holds Try.pinned (Rows.OpenSpec.upto Rows.frameOwnSpec) :=
  OpenClaim.holds_of_cond 8 Try.f8 rfl rfl rfl rfl rfl rfl rfl ⟨rfl, rfl, rfl, rfl, rfl⟩ rfl rfl rfl rfl rfl (by kernel_rfl) Try.func8 (by kernel_rfl)
    (of_decide_eq_true (by kernel_rfl)) (by unfold Func.isWrapper; first | (rw [if_pos (by decide +kernel)]; kernel_rfl) | (rw [if_neg (by decide +kernel)]; exact ⟨rfl, rfl⟩))
    (fun os started H enc _ F => FrameOwn_lifted os started H enc F)

theorem FrameOwn_proved : Rows.FrameOwnUptoSaid := FrameOwn_over
#print axioms FrameOwn_proved
end Go.Proofs.Ytcpojhckgoinmaa
