/-
  THE ROW OF CommandOwn (second form): the statement 'Rows.CommandOwnUptoSaid' is proved: for every input the law returns true and its arguments read as before (where the arguments hold at most 1048576 values and letters).
-/
import Derived.Test.YthlgjbmkealjjaaGreatDoorRows
import Derived.Test.YthlgjbmkealjjaaGreatDoorCommandOwn
import Derived.Test.YthlgjbmkealjjaaGreatDoorCards
import Derived.Test.YthlgjbmkealjjaaGreatDoorTie
import Derived.Test.YthlgjbmkealjjaaGreatDoorCmDoorU
import Derived.Test.YthlgjbmkealjjaaGreatDoorOpC
import Derived.SevenTiedAt
import Derived.Test.YthlgjbmkealjjaaGreatDoorBulk
namespace Go.Proofs.YthlgjbmkealjjaaGreatDoor
open Go.ChangeShapes Go.WideShapes Go.ChangeAt Go.RowKit
open Go.ChangeMaps (open_string shut_string)
set_option linter.unusedVariables false

set_option maxRecDepth 100000 in
theorem CommandOwn_lifted (os : Os) (started : os.Started) (H : Type) (enc : TypeId × Value → H) (F : Stop.Interp) :
    ReturnsInHanded {} Tryz.checked os 6 .any (fun w args => ((Rows.OpenSpec.upto Rows.commandOwnSpec).pre enc Tryz.prog Tryz.f6 [] false w args ∧ laidMetH Tryz.prog laid5 w) ∧ sizedMet enc Tryz.prog Tryz.f6 (Rows.OpenSpec.upto Rows.commandOwnSpec) false w args) (((Rows.OpenSpec.upto Rows.commandOwnSpec).at F).post enc Tryz.prog Tryz.f6 false true false false) := by
  refine handed_cond_shape (C := Tryz.checked) (s := Rows.OpenSpec.upto Rows.commandOwnSpec) (k := Rows.uptoSmall) rfl (X := fun w _ => laidMetH Tryz.prog laid5 w) (fun _ _ _ hh h => h.of_heap hh) own started (by kernel_rfl) Tryz.func6
    (witness_cond (enc := enc) (C := Tryz.checked) (os := os) (s := Rows.OpenSpec.upto Rows.commandOwnSpec) (k := Rows.uptoSmall) rfl (X := fun w _ => laidMetH Tryz.prog laid5 w) false (World.laidAll Tryz.prog os laid5) #[.string ⟨#[]⟩, .agg #[.string ⟨#[]⟩, .string ⟨#[]⟩, .slice none 0 0, .string ⟨#[]⟩]] 8 (start_os os) (start_shaped os) (by kernel_rfl)
      (x := ([.lit (.string []), .agg [.lit (.string []), .lit (.string []), .nil, .lit (.string [])]], [], [])) (by kernel_rfl) rfl (by kernel_rfl) (by kernel_rfl) (door_met os _)) ?_
  intro W base args ds gs before hval0 hW hcnd hk hsz hL hsh _
  have hbk := bulks.bound hk
  have hval : ∀ (j : Nat) t v, Tryz.f6.params[j]? = some t → args[j]? = some v → Value.okWide Tryz.prog W .any base t v := hval0
  have hW' := hW
  obtain ⟨p, q, hA0, hV, rfl, hfz, hnd⟩ := hW
  have hA : DataW.TrodAll enc Tryz.prog W 0 (fun _ => true) true Tryz.f6.params.toList args.toList ds p := hA0
  rw [Tryz.params6] at hA hval
  have ht := vrs_of_laid hL
  obtain ⟨v0, vs0, d0, ds0, p0, q0, hargs, rfl, rfl, h0, r0⟩ := trodAll_cons hA
  obtain ⟨v1, vs1, d1, ds1, p1, q1, rfl, rfl, rfl, h1, r1⟩ := trodAll_cons r0
  obtain ⟨rfl, rfl, rfl⟩ := trodAll_nil r1
  obtain rfl : args = #[v0, v1] := by cases args; simp_all
  obtain ⟨rfl, rfl⟩ := trodVars_none hV
  simp only [List.cons_append, List.nil_append, Rows.uptoBulkAll] at hbk
  obtain ⟨a0, rfl, rfl, rfl, w0⟩ := open_string Tryz.underlying9 (hval 0 9 v0 rfl rfl) h0
  have hs0 : a0.size ≤ 1048576 := by
    have hh := hbk
    simp only [bulks.string_eq] at hh
    simp only [ByteArray.size]
    simp only [Array.length_toList] at hh
    omega
  have k1 := h1
  have lt1 : ∀ x ∈ p1, x.block < W.heap.size := by obtain ⟨m, hm⟩ := k1; exact DataW.trod_lt m _ _ _ hm
  obtain ⟨c1, A1, n1, m1, rfl, hr1, hn1, hp1, hk1, hz1, hx1, hy1, hu1⟩ := open_cmd (hval 1 25 v1 rfl rfl) h1
  have hb1 : Rows.uptoBulk d1 ≤ 1048576 := by omega
  have hc1 : CmdIn W c1 A1 n1 m1 := ⟨ht, hr1, hn1, hp1, Nat.le_trans hk1 hb1, hz1, Nat.le_trans hx1 hb1, Nat.le_trans hy1 hb1, Nat.le_trans hu1 hb1⟩
  clear hA0 hval0
  refine (CommandOwn_walk a0 c1 A1 n1 m1 W hc1).mono fun e W' ⟨he, bel⟩ => ?_
  subst he
  exact ⟨_, rfl, _, _, _, [], _, [], hW', trodAll_mk1 (shut_bool Tryz.underlying4 _), (trodAll_cons_mk (shut_string Tryz.underlying9 w0) (trodAll_cons_mk (Below.trod laidOut (by kernel_rfl) (of_decide_eq_true (by kernel_rfl)) k1 bel lt1) trodAll_mk0)), rfl, bel.frame _, fun h => by cases h⟩

theorem CommandOwn_over : Rows.commandOwnUptoRow.holds Tryz.pinned (Rows.OpenSpec.upto Rows.commandOwnSpec) :=
  OpenClaim.holds_of_cond 6 Tryz.f6 rfl rfl rfl rfl rfl rfl rfl ⟨rfl, rfl, rfl, rfl, rfl⟩ rfl rfl rfl rfl rfl (by kernel_rfl) Tryz.func6 (by kernel_rfl)
    (of_decide_eq_true (by kernel_rfl)) (by unfold Func.isWrapper; first | (rw [if_pos (by decide +kernel)]; kernel_rfl) | (rw [if_neg (by decide +kernel)]; exact ⟨rfl, rfl⟩))
    (fun os started H enc _ F => CommandOwn_lifted os started H enc F)

theorem CommandOwn_proved : Rows.CommandOwnUptoCardSaid :=
  Claim7.holds_tied_plain_at .later [] [.data, .data, .data, .data, .sentinel, .sentinel, .pinned] true (true, "0aeb72e0b83a498d4445908e13e62208e8ea0ac9a25f58d3df9c00558ec0e220") true
    CommandOwn_over (fun _ h => by cases h) (by kernel_rfl) (fun _ h => by cases h) commandOwnUpto_row_tie rfl ⟨rfl, rfl⟩ (by kernel_rfl) rfl
    (fun f fn hf hfn => by
      obtain rfl : f = 6 := Option.some.inj ((show Tryz.prog.funcNamed "usance/usancelaw22.CommandOwn" = some 6 by kernel_rfl).symm.trans hf) |>.symm
      obtain rfl : fn = Tryz.f6 := (Option.some.inj (Tryz.func6.symm.trans hfn)).symm
      exact ⟨by kernel_rfl, fun j t ht => by
        rw [Tryz.params6] at ht
        have hm : t ∈ [9, 25] := by simpa using Array.mem_of_getElem? ht
        have hall : ([9, 25].all fun u => !Tryz.prog.wantsStandIn u) = true := by kernel_rfl
        exact (show Tryz.prog.wantsStandIn t = false by simpa using List.all_eq_true.1 hall t hm)⟩)
    (by kernel_rfl)
#print axioms CommandOwn_proved
end Go.Proofs.YthlgjbmkealjjaaGreatDoor
