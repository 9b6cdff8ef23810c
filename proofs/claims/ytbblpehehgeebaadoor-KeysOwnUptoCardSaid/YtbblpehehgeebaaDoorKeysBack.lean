/-
  The walk of KeysBack.
-/
import Derived.Test.YtbblpehehgeebaaDoorKeyK
import Derived.Test.YtbblpehehgeebaaDoorKeyB
namespace Go.Proofs.YtbblpehehgeebaaDoor
open Go.RowKit
set_option linter.unusedVariables false

theorem decOf_len (b : List UInt8) : (decOf b).1.length ≤ 8 := by
  unfold decOf
  split
  · simp
  · split
    · simp
    · split
      · simp
      · simp only; omega
theorem decOf_text (b : List UInt8) : ∀ q ∈ (decOf b).1, q.isText = true → q.text.length ≤ 64 := by
  unfold decOf
  split
  · simp
  · split
    · simp
    · rename_i h
      split
      · simp
      · intro q hq ht
        simp only at hq
        rcases Nat.lt_or_ge 64 q.text.length with hl | hl
        · exact absurd (.inr (List.any_eq_true.2 ⟨q, hq, by unfold PartV.long; rw [ht]; simp; omega⟩)) h
        · exact hl
theorem partsRd_text : ∀ (f : Nat) (l : List UInt8), ∀ q ∈ (partsRd f l).2, q.text.length ≤ l.length
  | 0, l => by simp [partsRd]
  | f + 1, [] => by simp [partsRd]
  | f + 1, c :: l => by
    intro q hq
    unfold partsRd at hq
    have h1 := partRd_text (c :: l)
    have h2 := partRd_rest c l
    split at hq
    · simp only [List.mem_cons] at hq
      rcases hq with rfl | hq
      · exact h1
      · have := partsRd_text f _ q hq
        simp only [List.length_cons]
        omega
    · simp at hq
theorem decOf_any (b : List UInt8) (hb : b.length ≤ 9223372036854775807) : ∀ q ∈ (decOf b).1, q.text.length ≤ 9223372036854775807 := by
  unfold decOf
  split
  · simp
  · split
    · simp
    · split
      · simp
      · intro q hq
        have := partsRd_text _ _ q hq
        omega
set_option maxHeartbeats 4000000 in
theorem KeysBack_walk (A : Option Addr) (n c : Nat) (A' : Option Addr) (n' c' : Nat) (w : World) (hm : MaxLen w) (ps : List PartV) (h : RdPt w A n ps) (hn : n ≤ c) (hc : c ≤ 1048576) (hok : ∀ q ∈ ps, q.ok) (hlt : ∀ q ∈ ps, q.text.length ≤ 9223372036854775807)
    (xs : List UInt8) (h' : RdB w A' n' xs) (hn' : n' ≤ c') (hc' : c' ≤ 1048576) :
    Calls Tryd.prog 4 #[.slice A n c, .slice A' n' c'] w fun e w' => e = .returned (.bool true) ∧ Below w.heap.size w w' := by
  have WK := Lib.hid (wakes_any w hm)
  have h0 : 0 < w.heap.size := by
    obtain ⟨m, hm⟩ := hm
    exact World.block_lt_of_cell? w ⟨0, 0, none⟩ hm
  have hl := h.len
  have hl' := h'.len
  have HX := Lib.hid h
  have HY := Lib.hid h'
  have HOK := Lib.hid hok
  have HLT := Lib.hid hlt
  have HM := Lib.hid hm
  have HBN : Hid (n ≤ 1048576 ∧ n' ≤ 1048576 ∧ ps.length ≤ 1048576 ∧ xs.length ≤ 1048576) := Lib.hid (by omega)
  have HDE := Lib.hid (dec_enc ps hok)
  have HED := Lib.hid (enc_dec xs)
  clear hm h hok hlt h' hl hl'
  go_enter Tryd.func4, Tryd.ntmps4
  go_wp2_with fail
  refine WK.out.mono ?_
  rintro e w1 ⟨rfl, hb1⟩
  have HB1 := Lib.hid hb1
  clear hb1 WK
  go_wp2_with fail
  refine (parts_any A n c ps w1 (HX.out.below HB1.out) (by omega)).mono ?_
  rintro e w2 ⟨v2, rfl, hv2, hb2⟩
  have HB2 := Lib.hid (HB1.out.trans (hb2.mono HB1.out.size))
  obtain ⟨A2, c2, rfl, hco2, hr2⟩ := hv2.form
  have EN := Lib.hid (Encode_any A2 ps.length c2 ps w2 hr2 (by have := HBN.out; omega) HLT.out HOK.out (HM.out.below HB2.out h0))
  unfold EncEnds at EN
  clear hv2 hb2 hr2
  go_wp2_with fail
  refine EN.out.mono ?_
  rintro e w3 ⟨v3, rfl, hv3, hb3⟩
  have HB3 := Lib.hid (HB2.out.trans (hb3.mono HB2.out.size))
  obtain ⟨Ax, mx, cx, rfl, hmx, _, hrx, _⟩ := hv3.ex
  have HRX := Lib.hid hrx
  clear hv3 hb3 hrx EN
  have DX := Lib.hid (decOf_len xs)
  have DN := Lib.hid (dec_none xs)
  have DT : Hid (∀ q ∈ (decOf xs).1, q.text.length ≤ 9223372036854775807) := Lib.hid (decOf_any xs (by have := HBN.out; omega))
  by_cases hE : (encOf ps).2 = 0
  · have hd := HDE.out hE
    have hx := (encOf_ok ps hE).2.2.2.2.2
    have hx1 := congrArg Prod.fst (encOf_ok ps hE).1
    rw [hE]
    have hxl : (encOf ps).1.length ≤ 200 := by rw [hx1]; exact hx
    clear hx hx1
    generalize encOf ps = X at *
    obtain ⟨ex, en⟩ := X
    dsimp only at *
    have hlx := HRX.out.len
    clear hE
    go_wp2_with fail
    refine (own_any Ax mx cx w3 ex HRX.out (by omega)).mono ?_
    rintro e w4 ⟨v4, rfl, hv4, hb4⟩
    have HB4 := Lib.hid (HB3.out.trans (hb4.mono HB3.out.size))
    obtain ⟨A4, m4, c4, rfl, hm4, hmc4, _, hr4, ha4⟩ := hv4.form
    have hm4' := hm4.out
    have DE := Lib.hid (Decode_any A4 m4 c4 ex w4 hr4 (by omega) hmc4 (fun a ha => by obtain ⟨g, e, _, h2⟩ := ha4 a ha; rw [e]; exact h2))
    unfold DecEnds at DE
    rw [hd] at DE
    clear hv4 hb4 hm4 hmc4 hr4 ha4 hm4' hd HRX hlx hxl
    go_wp2_with fail
    refine DE.out.mono ?_
    rintro e w5 ⟨v5, rfl, hv5, hb5⟩
    have HB5 := Lib.hid (HB4.out.trans (hb5.mono HB4.out.size))
    obtain ⟨A5, c5, rfl, hc5, hr5⟩ := hv5.form
    have SP := Lib.hid (rSame_any A5 ps.length c5 ps A n c ps w5 hr5 (HX.out.below HB5.out) (by have := HBN.out; omega) (by omega))
    rw [show decide (ps = ps) = true from decide_eq_true rfl] at SP
    clear hv5 hb5 hr5 DE
    go_wp2_with fail
    refine SP.out.mono ?_
    rintro e w6 ⟨rfl, hd6⟩
    have HB6 := Lib.hid (HB5.out.trans (hd6.below.mono HB5.out.size))
    clear hd6 SP
    clear HX HOK HLT HDE
    go_wp2_with fail
    refine (own_any A' n' c' w6 xs (HY.out.below HB6.out) (by have := HBN.out; omega)).mono ?_
    rintro e wa ⟨va, rfl, hva, hba⟩
    have HBa := Lib.hid (HB6.out.trans (hba.mono HB6.out.size))
    obtain ⟨Aa, ma, ca, rfl, hma, hmac, hca, hra, haa⟩ := hva.form
    have hma' := hma.out
    have DE := Lib.hid (Decode_any Aa ma ca xs wa hra (by have := HBN.out; omega) hmac (fun a ha => by obtain ⟨g, e, _, h2⟩ := haa a ha; rw [e]; exact h2))
    unfold DecEnds at DE
    clear hva hba hma hmac hca hra haa hma'
    go_wp2_with fail
    refine DE.out.mono ?_
    rintro e wb ⟨vb, rfl, hvb, hbb⟩
    have HBb := Lib.hid (HBa.out.trans (hbb.mono HBa.out.size))
    obtain ⟨Ab, cb, rfl, hcb, hrb⟩ := hvb.form
    clear hvb hbb DE
    generalize decOf xs = R at *
    obtain ⟨L, E⟩ := R
    dsimp only at *
    by_cases hz : E = 0
    · subst hz
      obtain ⟨he1, he2⟩ := HED.out rfl
      have HE1 := Lib.hid he1
      have HE2 := Lib.hid he2
      clear he1 he2 HED DN
      go_wp2_with fail
      refine (parts_any Ab L.length cb L wb hrb (by have := DX.out; omega)).mono ?_
      rintro e wc ⟨vc, rfl, hvc, hbc⟩
      have HBc := Lib.hid (HBb.out.trans (hbc.mono HBb.out.size))
      obtain ⟨Ac, cc, rfl, hcc, hrc⟩ := hvc.form
      have EN := Lib.hid (Encode_any Ac L.length cc L wc hrc (by have := DX.out; omega) DT.out HE2.out (HM.out.below HBc.out h0))
      unfold EncEnds at EN
      rw [HE1.out] at EN
      clear hvc hbc hrc hrb
      go_wp2_with fail
      refine EN.out.mono ?_
      rintro e wd ⟨vd, rfl, hvd, hbd⟩
      have HBd := Lib.hid (HBc.out.trans (hbd.mono HBc.out.size))
      obtain ⟨Ad, md, cd, rfl, hmd, _, hrd, _⟩ := hvd.ex
      have SM := Lib.hid (same_any Ad md cd xs A' n' c' xs wd hrd (HY.out.below HBd.out))
      rw [show decide (xs = xs) = true from decide_eq_true rfl] at SM
      clear hvd hbd hrd EN
      go_wp2_with fail
      refine SM.out.mono ?_
      rintro e we ⟨rfl, rfl⟩
      go_wp2
      go_ret
      exact ⟨rfl, HBd.out⟩
    · obtain rfl := DN.out hz
      clear HED DN hrb DX DT
      go_wp2
      go_ret
      exact ⟨rfl, HBb.out⟩
  · generalize (encOf ps).2 = en at *
    clear HRX
    clear HX HOK HLT HDE
    go_wp2_with fail
    refine (own_any A' n' c' w3 xs (HY.out.below HB3.out) (by have := HBN.out; omega)).mono ?_
    rintro e wa ⟨va, rfl, hva, hba⟩
    have HBa := Lib.hid (HB3.out.trans (hba.mono HB3.out.size))
    obtain ⟨Aa, ma, ca, rfl, hma, hmac, hca, hra, haa⟩ := hva.form
    have hma' := hma.out
    have DE := Lib.hid (Decode_any Aa ma ca xs wa hra (by have := HBN.out; omega) hmac (fun a ha => by obtain ⟨g, e, _, h2⟩ := haa a ha; rw [e]; exact h2))
    unfold DecEnds at DE
    clear hva hba hma hmac hca hra haa hma'
    go_wp2_with fail
    refine DE.out.mono ?_
    rintro e wb ⟨vb, rfl, hvb, hbb⟩
    have HBb := Lib.hid (HBa.out.trans (hbb.mono HBa.out.size))
    obtain ⟨Ab, cb, rfl, hcb, hrb⟩ := hvb.form
    clear hvb hbb DE
    generalize decOf xs = R at *
    obtain ⟨L, E⟩ := R
    dsimp only at *
    by_cases hz : E = 0
    · subst hz
      obtain ⟨he1, he2⟩ := HED.out rfl
      have HE1 := Lib.hid he1
      have HE2 := Lib.hid he2
      clear he1 he2 HED DN
      go_wp2_with fail
      refine (parts_any Ab L.length cb L wb hrb (by have := DX.out; omega)).mono ?_
      rintro e wc ⟨vc, rfl, hvc, hbc⟩
      have HBc := Lib.hid (HBb.out.trans (hbc.mono HBb.out.size))
      obtain ⟨Ac, cc, rfl, hcc, hrc⟩ := hvc.form
      have EN := Lib.hid (Encode_any Ac L.length cc L wc hrc (by have := DX.out; omega) DT.out HE2.out (HM.out.below HBc.out h0))
      unfold EncEnds at EN
      rw [HE1.out] at EN
      clear hvc hbc hrc hrb
      go_wp2_with fail
      refine EN.out.mono ?_
      rintro e wd ⟨vd, rfl, hvd, hbd⟩
      have HBd := Lib.hid (HBc.out.trans (hbd.mono HBc.out.size))
      obtain ⟨Ad, md, cd, rfl, hmd, _, hrd, _⟩ := hvd.ex
      have SM := Lib.hid (same_any Ad md cd xs A' n' c' xs wd hrd (HY.out.below HBd.out))
      rw [show decide (xs = xs) = true from decide_eq_true rfl] at SM
      clear hvd hbd hrd EN
      go_wp2_with fail
      refine SM.out.mono ?_
      rintro e we ⟨rfl, rfl⟩
      go_wp2
      go_ret
      exact ⟨rfl, HBd.out⟩
    · obtain rfl := DN.out hz
      clear HED DN hrb DX DT
      go_wp2
      go_ret
      exact ⟨rfl, HBb.out⟩
end Go.Proofs.YtbblpehehgeebaaDoor
