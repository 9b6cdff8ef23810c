/-
  The walk of Within. No statement is proved here.
-/
import Derived.Test.YtpmbbhefcejjlaaLedJ
namespace Go.Proofs.Ytpmbbhefcejjlaa
open Go.RowKit
set_option linter.unusedVariables false

def inDays (a b : Int) (p : PV) : Bool := decide (a ≤ p.day) && decide (p.day ≤ b)
theorem take_filter (ps : List PV) (k : Nat) (hk : k < ps.length) (f : PV → Bool) : (ps.take (k + 1)).filter f = (ps.take k).filter f ++ (if f ps[k] then [ps[k]] else []) := by
  rw [take_snoc' ps k hk, List.filter_append]
  by_cases h : f ps[k] <;> simp [h]
set_option maxRecDepth 100000 in
set_option maxHeartbeats 4000000 in
theorem Within_any (A : Option Addr) (n c : Nat) (ps : List PV) (a b : Int) (w : World) (h : RdP w A n ps) (hn : n ≤ 900000) (hlen : ∀ p ∈ ps, p.lines.length ≤ 4398046511104) :
    Calls Try.prog 28 #[.slice A n c, .int .i64 a, .int .i64 b] w fun e w' => ∃ v qs, e = .returned v ∧ pvs qs = ps.filter (inDays a b) ∧ OwnJ w' w.heap.size v qs ∧ Below w.heap.size w w' := by
  have HX := Lib.hid h
  have HL := Lib.hid hlen
  have HN : Hid (ps.length = n) := Lib.hid h.len
  clear h hlen
  go_enter Try.func28, Try.ntmps28
  go_wp2_with fail
  go_loopw [7, 12] (fun v t wr => ∃ (k : Nat) (qs : List PR), k ≤ n ∧ qs.length ≤ k ∧ t = .int .i64 k ∧ Hid (pvs qs = (ps.take k).filter (inDays a b)) ∧ Hid (OwnJ wr w.heap.size v qs) ∧ Hid (Below w.heap.size w wr)) (fun _ t _ => n - (intOf t).toNat)
  case atStart => exact ⟨0, [], Nat.zero_le _, Nat.zero_le _, rfl, Lib.hid rfl, Lib.hid (OwnJ.nil _ _), Lib.hid (Below.refl _ _)⟩
  case round =>
    obtain ⟨k, qs, hk, hq, rfl, HP, HO, HB⟩ := hrel
    obtain ⟨wa, rfl⟩ : ∃ x, x = wr := ⟨_, rfl⟩
    by_cases hlt : k < n
    · have hkl : k < ps.length := by rw [HN.out]; exact hlt
      obtain ⟨b0, off, rfl, hc⟩ := (HX.out.below HB.out).ex (by omega)
      obtain ⟨Al, ml, cl, p0, p1, p2, p3, hrl, hml⟩ := hc k hkl
      have HS := Lib.hid (take_filter ps k hkl (inDays a b))
      have hll := HL.out _ (List.getElem_mem hkl)
      have HML : Hid (ps[k].lines.length = ml) := Lib.hid hrl.len
      have hmlb : ml ≤ 4398046511104 := by have := HML.out; omega
      clear hc hll
      generalize ps[k] = p at *
      obtain ⟨Av0, cv0, rfl, _⟩ := HO.out.form
      have HRL := Lib.hid hrl
      clear hrl
      by_cases hin : inDays a b p = true
      · have hin2 : (decide (a ≤ p.day) && decide (p.day ≤ b)) = true := hin
        have h1 : a ≤ p.day := by simp at hin2; exact hin2.1
        have h2 : p.day ≤ b := by simp at hin2; exact hin2.2
        have HS2 : Hid ((ps.take (k + 1)).filter (inDays a b) = (ps.take k).filter (inDays a b) ++ [p]) := Lib.hid (by rw [HS.out, if_pos hin])
        have CL := Lib.hid (fun W hW => clone_any p.num p.day p.loan Al ml cl p.lines W hW hmlb)
        unfold pval at CL
        clear hin hin2 HS
        go_wp2_with fail
        refine (CL.out _ (HRL.out.alloc _)).mono ?_
        rintro e w5 ⟨lv, rfl, hlv, hb5⟩
        have hab : Below wa.heap.size wa w5 := ((Below.refl _ _).alloc (Nat.le_refl _) _).trans (hb5.mono (by simp))
        have HO5 := Lib.hid (HO.out.below hab)
        have HB5 := Lib.hid (HB.out.trans (hab.mono HB.out.size))
        have HL5 : Hid (OwnL w5 w.heap.size lv p.lines) := Lib.hid (OwnL.lower hlv (by have := HB.out.size; simp; omega))
        clear hlv hb5 hab p0 p1 p2 p3 CL
        go_wp2_with (at_builtin; refine app_j rfl _ _ rfl w.heap.size (.slice Av0 qs.length cv0) qs rfl HO5.out ⟨lv, p⟩ HL5.out rfl (by omega) HB5.out.size ?_)
        rintro v6 w6 hv6 hb6
        have HO6 := Lib.hid hv6
        have HB6 := Lib.hid (HB5.out.trans hb6)
        clear hv6 hb6
        go_wp2
        go_roundw
        case rel => exact ⟨k + 1, qs ++ [⟨lv, p⟩], by omega, by simp; omega, by go_num, Lib.hid (by rw [pvs_snoc, HP.out, HS2.out]), HO6, HB6⟩
        case measure => (try simp [intOf]) <;> (try omega)
      · have hin2 : ¬ (a ≤ p.day ∧ p.day ≤ b) := by
          intro ⟨h1, h2⟩
          exact hin (by unfold inDays; simp [h1, h2])
        have HS2 : Hid ((ps.take (k + 1)).filter (inDays a b) = (ps.take k).filter (inDays a b)) := Lib.hid (by rw [HS.out, if_neg hin, List.append_nil])
        have HBA := Lib.hid (HB.out.alloc HB.out.size (.cells #[.int .i64 p.num, .int .i64 p.day, .string p.loan, .slice Al ml cl] 49))
        have HOA := Lib.hid (HO.out.below ((Below.refl wa.heap.size wa).alloc (Nat.le_refl _) (.cells #[.int .i64 p.num, .int .i64 p.day, .string p.loan, .slice Al ml cl] 49)))
        clear hin HS
        by_cases h1 : a ≤ p.day
        · have h2 : ¬ p.day ≤ b := fun h => hin2 ⟨h1, h⟩
          clear hin2
          go_wp2
          go_roundw
          case rel => exact ⟨k + 1, qs, by omega, by omega, by go_num, Lib.hid (by rw [HP.out, HS2.out]), HOA, HBA⟩
          case measure => (try simp [intOf]) <;> (try omega)
        · clear hin2
          go_wp2
          go_roundw
          case rel => exact ⟨k + 1, qs, by omega, by omega, by go_num, Lib.hid (by rw [HP.out, HS2.out]), HOA, HBA⟩
          case measure => (try simp [intOf]) <;> (try omega)
    · have htk : ps.take k = ps := List.take_of_length_le (by rw [HN.out]; omega)
      rw [htk] at HP
      go_wp2
      go_ret
      exact ⟨_, qs, rfl, HP.out, HO.out, HB.out⟩
end Go.Proofs.Ytpmbbhefcejjlaa
