/-
  THE ROW OF CommandWrites (second form): the statement 'Rows.CommandWritesUptoSaid' is proved: for every input the law returns true and its arguments read as before (where the arguments hold at most 1048576 values and letters).
-/
import Derived.Test.YthlgjbmkealjjaaGreatDoorRows
import Derived.Test.YthlgjbmkealjjaaGreatDoorCommandWrites
import Derived.Test.YthlgjbmkealjjaaGreatDoorCards
import Derived.Test.YthlgjbmkealjjaaGreatDoorTie
import Derived.Test.YthlgjbmkealjjaaGreatDoorCmDoorU
import Derived.Test.YthlgjbmkealjjaaGreatDoorOpC
import Derived.SevenTiedAt
import Derived.Test.YthlgjbmkealjjaaGreatDoorBulk
namespace Go.Proofs.YthlgjbmkealjjaaGreatDoor
open Go.ChangeShapes Go.WideShapes Go.ChangeAt Go.RowKit
open Go.ChangeMaps (open_string shut_string)
set_option linter.unusedVariables false

set_option maxRecDepth 100000 in
theorem CommandWrites_lifted (os : Os) (started : os.Started) (H : Type) (enc : TypeId × Value → H) (F : Stop.Interp) :
    ReturnsInHanded {} Tryz.checked os 4 .any (fun w args => ((Rows.OpenSpec.upto Rows.commandWritesSpec).pre enc Tryz.prog Tryz.f4 [] false w args ∧ laidMetH Tryz.prog laid5 w) ∧ sizedMet enc Tryz.prog Tryz.f4 (Rows.OpenSpec.upto Rows.commandWritesSpec) false w args) (((Rows.OpenSpec.upto Rows.commandWritesSpec).at F).post enc Tryz.prog Tryz.f4 false true false false) := by
  refine handed_cond_shape (C := Tryz.checked) (s := Rows.OpenSpec.upto Rows.commandWritesSpec) (k := Rows.uptoSmall) rfl (X := fun w _ => laidMetH Tryz.prog laid5 w) (fun _ _ _ hh h => h.of_heap hh) own started (by kernel_rfl) Tryz.func4
    (witness_cond (enc := enc) (C := Tryz.checked) (os := os) (s := Rows.OpenSpec.upto Rows.commandWritesSpec) (k := Rows.uptoSmall) rfl (X := fun w _ => laidMetH Tryz.prog laid5 w) false (World.laidAll Tryz.prog os laid5) #[.agg #[.string ⟨#[]⟩, .string ⟨#[]⟩, .slice none 0 0, .string ⟨#[]⟩]] 8 (start_os os) (start_shaped os) (by kernel_rfl)
      (x := ([.agg [.lit (.string []), .lit (.string []), .nil, .lit (.string [])]], [], [])) (by kernel_rfl) rfl (by kernel_rfl) (by kernel_rfl) (door_met os _)) ?_
  intro W base args ds gs before hval0 hW hcnd hk hsz hL hsh _
  have hbk := bulks.bound hk
  have hval : ∀ (j : Nat) t v, Tryz.f4.params[j]? = some t → args[j]? = some v → Value.okWide Tryz.prog W .any base t v := hval0
  have hW' := hW
  obtain ⟨p, q, hA0, hV, rfl, hfz, hnd⟩ := hW
  have hA : DataW.TrodAll enc Tryz.prog W 0 (fun _ => true) true Tryz.f4.params.toList args.toList ds p := hA0
  rw [Tryz.params4] at hA hval
  have ht := vrs_of_laid hL
  obtain ⟨v0, vs0, d0, ds0, p0, q0, hargs, rfl, rfl, h0, r0⟩ := trodAll_cons hA
  obtain ⟨rfl, rfl, rfl⟩ := trodAll_nil r0
  obtain rfl : args = #[v0] := by cases args; simp_all
  obtain ⟨rfl, rfl⟩ := trodVars_none hV
  simp only [List.cons_append, List.nil_append, Rows.uptoBulkAll] at hbk
  have k0 := h0
  have lt0 : ∀ x ∈ p0, x.block < W.heap.size := by obtain ⟨m, hm⟩ := k0; exact DataW.trod_lt m _ _ _ hm
  obtain ⟨c0, A0, n0, m0, rfl, hr0, hn0, hp0, hk0, hz0, hx0, hy0, hu0⟩ := open_cmd (hval 0 25 v0 rfl rfl) h0
  have hb0 : Rows.uptoBulk d0 ≤ 1048576 := by omega
  have hc0 : CmdIn W c0 A0 n0 m0 := ⟨ht, hr0, hn0, hp0, Nat.le_trans hk0 hb0, hz0, Nat.le_trans hx0 hb0, Nat.le_trans hy0 hb0, Nat.le_trans hu0 hb0⟩
  clear hA0 hval0
  refine (CommandWrites_walk c0 A0 n0 m0 W hc0).mono fun e W' ⟨he, bel⟩ => ?_
  subst he
  exact ⟨_, rfl, _, _, _, [], _, [], hW', trodAll_mk1 (shut_bool Tryz.underlying4 _), (trodAll_cons_mk (Below.trod laidOut (by kernel_rfl) (of_decide_eq_true (by kernel_rfl)) k0 bel lt0) trodAll_mk0), rfl, bel.frame _, fun h => by cases h⟩

theorem CommandWrites_over : Rows.commandWritesUptoRow.holds Tryz.pinned (Rows.OpenSpec.upto Rows.commandWritesSpec) :=
  OpenClaim.holds_of_cond 4 Tryz.f4 rfl rfl rfl rfl rfl rfl rfl ⟨rfl, rfl, rfl, rfl, rfl⟩ rfl rfl rfl rfl rfl (by kernel_rfl) Tryz.func4 (by kernel_rfl)
    (of_decide_eq_true (by kernel_rfl)) (by unfold Func.isWrapper; first | (rw [if_pos (by decide +kernel)]; kernel_rfl) | (rw [if_neg (by decide +kernel)]; exact ⟨rfl, rfl⟩))
    (fun os started H enc _ F => CommandWrites_lifted os started H enc F)

theorem CommandWrites_proved : Rows.CommandWritesUptoCardSaid :=
  Claim7.holds_tied_plain_at .later [] [.data, .data, .data, .data, .sentinel, .sentinel, .pinned] true (true, "0aeb72e0b83a498d4445908e13e62208e8ea0ac9a25f58d3df9c00558ec0e220") true
    CommandWrites_over (fun _ h => by cases h) (by kernel_rfl) (fun _ h => by cases h) commandWritesUpto_row_tie rfl ⟨rfl, rfl⟩ (by kernel_rfl) rfl
    (fun f fn hf hfn => by
      obtain rfl : f = 4 := Option.some.inj ((show Tryz.prog.funcNamed "usance/usancelaw22.CommandWrites" = some 4 by kernel_rfl).symm.trans hf) |>.symm
      obtain rfl : fn = Tryz.f4 := (Option.some.inj (Tryz.func4.symm.trans hfn)).symm
      exact ⟨by kernel_rfl, fun j t ht => by
        rw [Tryz.params4] at ht
        have hm : t ∈ [25] := by simpa using Array.mem_of_getElem? ht
        have hall : ([25].all fun u => !Tryz.prog.wantsStandIn u) = true := by kernel_rfl
        exact (show Tryz.prog.wantsStandIn t = false by simpa using List.all_eq_true.1 hall t hm)⟩)
    (by kernel_rfl)
#print axioms CommandWrites_proved
end Go.Proofs.YthlgjbmkealjjaaGreatDoor
