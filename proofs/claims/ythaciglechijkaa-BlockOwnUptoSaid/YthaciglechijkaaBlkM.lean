/-
  The reference's Find. No statement is proved here.
-/
import Derived.Test.YthaciglechijkaaBlkL
namespace Go.Proofs.Ythaciglechijkaa
open Go.RowKit
set_option linter.unusedVariables false

theorem NewS.nil (w : World) (base : Nat) : NewS w base (.slice none 0 0) [] := ⟨none, 0, 0, rfl, Nat.le_refl _, RdB.nil w none, by simp⟩
theorem NewS.mono {w : World} {base base' : Nat} {v : Value} {xs : List UInt8} (h : NewS w base v xs) (hb : base' ≤ base) : NewS w base' v xs := by
  obtain ⟨A, m, c, rfl, h1, h2, h3⟩ := h.ex
  refine ⟨A, m, c, rfl, h1, h2, fun a ha => ?_⟩
  obtain ⟨g, cs, fr, e, h4, h5⟩ := h3 a ha
  exact ⟨g, cs, fr, e, Nat.le_trans hb h4, h5⟩
theorem OwnR.at {w : World} {base n c : Nat} {A : Option Addr} {rs : List PairR} (h : OwnR w base (.slice A n c) rs) (j : Nat) (hj : j < rs.length) :
    ∃ b Ak mk ck Av mv cv, A = some ⟨b, 0, none⟩ ∧ w.cell? ⟨b, j * 2, none⟩ = some (.slice Ak mk ck) ∧ w.cell? ⟨b, j * 2 + 1, none⟩ = some (.slice Av mv cv) ∧ RdB w Ak mk rs[j].p.key ∧ mk ≤ ck ∧ NewS w base (.slice Av mv cv) rs[j].p.val := by
  rcases h.row.2 with ⟨e, hn⟩ | ⟨g, cap, cur, e, hg, hh, hc, hm, r⟩
  · omega
  · injection e with e1 e2 e3
    subst e1
    have hrd : Rd w 2 (some ⟨g, 0, none⟩) rs.length (cellsQ rs) := Rd.of_own (c := cap) (by
      have := h.row
      rw [e2, e3] at this
      exact this)
    obtain ⟨b, off, e, hcl⟩ := hrd.2 (by rw [cellsQ_len]; omega)
    injection e with e
    injection e with e1 e4
    subst e1 e4
    obtain ⟨c0, c1⟩ := cellsQ_at rs j hj
    obtain ⟨ho1, ho2⟩ := h.each rs[j] (List.getElem_mem hj)
    obtain ⟨Ak, mk, ck, ek, hk, hrk, _⟩ := ho1.ex
    have ho3 := ho2
    obtain ⟨Av, mv, cv, ev, hv, hrv, _⟩ := ho2.ex
    have e1 := hcl _ _ c0
    have e2 := hcl _ _ c1
    rw [ek] at e1
    rw [ev] at e2
    rw [Nat.zero_add] at e1 e2
    exact ⟨g, Ak, mk, ck, Av, mv, cv, rfl, e1, e2, hrk, hk, ev ▸ ho3⟩
theorem find_of (xs key : List UInt8) : findOf xs key = if (readOf xs).2 = 0 then (match (readOf xs).1.find? (fun p => decide (p.key = key)) with
    | some p => (p.val, true, 0)
    | none => ([], false, 0)) else ([], false, (readOf xs).2) := by
  unfold findOf readOf
  by_cases h : (readAll xs).2 = 0
  · rw [if_pos h, if_pos h, if_pos h]
    cases (readAll xs).1.find? (fun p => decide (p.key = key)) <;> rfl
  · rw [if_neg h, if_neg h, if_neg h]
/-- What the reference's Find answers. -/
def RFindEnds (w : World) (r : List UInt8 × Bool × Int) (e : Ending) (w' : World) : Prop :=
  ∃ v, e = .returned (.tuple #[v, .bool r.2.1, .int .i64 r.2.2]) ∧ NewS w' w.heap.size v r.1 ∧ Below w.heap.size w w'
theorem find_here {ps : List PairV} {k : Nat} (hk : k < ps.length) {key : List UInt8} (h : (ps.take k).find? (fun p => decide (p.key = key)) = none) (he : ps[k].key = key) : ps.find? (fun p => decide (p.key = key)) = some ps[k] := by
  have e : ps = ps.take k ++ ps[k] :: ps.drop (k + 1) := by simp
  conv => lhs; rw [e]
  rw [List.find?_append, h, List.find?_cons]
  simp [he]
theorem find_on {ps : List PairV} {k : Nat} (hk : k < ps.length) {key : List UInt8} (h : (ps.take k).find? (fun p => decide (p.key = key)) = none) (he : ps[k].key ≠ key) : (ps.take (k + 1)).find? (fun p => decide (p.key = key)) = none := by
  rw [take_snoc' _ _ hk, List.find?_append, h]
  simp [he]
set_option maxRecDepth 100000 in
set_option maxHeartbeats 8000000 in
theorem rFind_any (A : Option Addr) (n c : Nat) (kA : Option Addr) (kn kc : Nat) (w : World) (xs key : List UInt8) (h : RdB w A n xs) (hk : RdB w kA kn key) (hm : n ≤ 140737488351232) (hc : n ≤ c) :
    Calls Try.prog 14 #[.slice A n c, .slice kA kn kc] w (RFindEnds w (findOf xs key)) := by
  have HR := Lib.hid (rRead_any A n c w xs h hm hc)
  have HK := Lib.hid hk
  clear h hk
  rw [find_of]
  have hlen : (readOf xs).1.length ≤ 4096 := by
    unfold readOf
    split
    · exact (read_facts xs).1
    · exact Nat.zero_le _
  generalize readOf xs = RR at *
  obtain ⟨ps, er⟩ := RR
  dsimp only at *
  obtain ⟨FR, HFR⟩ : ∃ FR, Hid (FR = if er = 0 then (match ps.find? (fun p => decide (p.key = key)) with
    | some p => (p.val, true, 0)
    | none => ([], false, 0)) else ([], false, er)) := ⟨_, Lib.hid rfl⟩
  rw [← HFR.out]
  go_enter Try.func14, Try.ntmps14
  go_wp2_with fail
  refine HR.out.mono ?_
  rintro e w1 ⟨v, rs, rfl, hps, hown, hb⟩
  have hps2 : psOf rs = ps := hps
  subst hps2
  have HO := Lib.hid hown
  have HB := Lib.hid hb
  obtain ⟨A7, c7, rfl, _⟩ := hown.form
  have hrs : rs.length ≤ 4096 := by rw [psOf_len] at hlen; exact hlen
  clear hown hb hps HR
  by_cases he : er = 0
  · subst he
    go_wp2_with fail
    go_loopw [9, 20] (fun u t wr => ∃ k : Nat, k ≤ rs.length ∧ t = .int .i64 k ∧ Hid (((psOf rs).take k).find? (fun p => decide (p.key = key)) = none) ∧ Hid (Dr w1 wr)) (fun _ t _ => rs.length - (intOf t).toNat)
    case atStart => exact ⟨0, by omega, rfl, Lib.hid (by simp), Lib.hid (Dr.refl _)⟩
    case round =>
      obtain ⟨k, hk, rfl, HP, HD⟩ := hrel
      obtain ⟨wr2, rfl⟩ : ∃ x, x = wr := ⟨_, rfl⟩
      have HOW := Lib.hid (HO.out.below HD.out.below)
      have HBW := Lib.hid (HB.out.trans (HD.out.below.mono HB.out.size))
      by_cases hlt : k < rs.length
      · obtain ⟨b, Ak, mk, ck, Av, mv, cv, rfl, p0, p1, r0, hmk, hnv⟩ := HOW.out.at k hlt
        have s0 := HK.out.below HBW.out
        have hpk : (psOf rs)[k]'(by rw [psOf_len]; exact hlt) = rs[k].p := by simp [psOf]
        have HN : Hid (rs[k].p.key = key → (psOf rs).find? (fun p => decide (p.key = key)) = some rs[k].p) := Lib.hid fun h => by
          rw [find_here (by rw [psOf_len]; exact hlt) HP.out (by rw [hpk]; exact h), hpk]
        have HT : Hid (rs[k].p.key ≠ key → ((psOf rs).take (k + 1)).find? (fun p => decide (p.key = key)) = none) := Lib.hid fun h => find_on (by rw [psOf_len]; exact hlt) HP.out (by rw [hpk]; exact h)
        have HV := Lib.hid hnv
        clear HP hpk hnv
        generalize rs[k].p = p at *
        obtain ⟨pk, pv⟩ := p
        dsimp only at *
        have k1 := fun m => (r0.drewN m).conv (P := Try.prog) (src := 24) (dst := 9) Try.underlying24 Try.underlying5 Try.underlying9 ck
        have k2 := fun m => (s0.drewN m).conv (P := Try.prog) (src := 24) (dst := 9) Try.underlying24 Try.underlying5 Try.underlying9 kc
        clear r0 s0
        by_cases hk1 : pk = key
        · have HF := Lib.hid (HN.out hk1)
          subst hk1
          clear HN HT
          go_wp2_with fail
          go_quiet (fail)
          go_wp2
          go_ret3
          rw [HFR.out, if_pos trivial, HF.out]
          exact ⟨_, rfl, HV.out.below (below_drewN (Below.refl _ _) _), below_drewN HBW.out _⟩
        · have hd : decide (pk = key) = false := decide_eq_false hk1
          have hb : (pk == key) = false := by rw [beq_eq_false_iff_ne]; exact hk1
          have HT2 := Lib.hid (HT.out hk1)
          clear HN HT hk1
          go_wp2_with fail
          go_quiet (fail)
          go_wp2
          go_roundw
          case rel => exact ⟨k + 1, by omega, by go_num, HT2, Lib.hid (HD.out.more _)⟩
          case measure => (try simp [intOf]) <;> (try omega)
      · have hF := HP.out
        rw [List.take_of_length_le (by rw [psOf_len]; omega)] at hF
        have HF := Lib.hid hF
        clear hF
        go_wp2
        go_ret3
        rw [HFR.out, if_pos trivial, HF.out]
        exact ⟨_, rfl, NewS.nil _ _, HBW.out⟩
  · go_wp2
    go_ret3
    rw [HFR.out, if_neg he]
    exact ⟨_, rfl, NewS.nil _ _, HB.out⟩
end Go.Proofs.Ythaciglechijkaa
