/-
  The walk of a text read: Read.
-/
import Derived.Test.YtdadhpfaompmnaaCivilW2
import Derived.Test.YtdadhpfaompmnaaCivilW8
import Derived.Lib.ConvBytes
namespace Go.Proofs.Ytdadhpfaompmnaa
open Go.RowKit
set_option linter.unusedVariables false

theorem Of_any (y m d : Nat) (w : World) :
    Calls Try.prog 10 #[.int .i64 y, .int .i64 m, .int .i64 d] w fun e w' => e = .returned (.tuple #[.int .i64 (ofAt y m d).1, .int .i64 (ofAt y m d).2]) ∧ Below w.heap.size w w' := by
  unfold ofAt
  by_cases h : Valid y m d
  · rw [if_pos h]; exact Of_in y m d w h
  · rw [if_neg h]
    refine Of_out y m d w ?_
    rintro ⟨a, b, c, e1, e2, e3, hv⟩
    obtain rfl : y = a := by omega
    obtain rfl : m = b := by omega
    obtain rfl : d = c := by omega
    exact h hv

/-- A part of the text, cut out. -/
theorem part_hi (l : List UInt8) (h : l.length = 10) (W : World) : (Instr.slice 9 (.string ⟨l.toArray⟩) none (some (.int .i64 4)) none).run Try.prog W = .ok (.string ⟨(l.take 4).toArray⟩) W := by
  rw [run_slice_string_h W 9 _ Try.underlying9 .i64 4 (by omega) (by show (4 : Int) ≤ ((l.toArray.size : Nat) : Int); simp; omega), show (4 : Int).toNat = 4 from rfl, ByteArray.extract_mk]
  simp
theorem part_mid (l : List UInt8) (h : l.length = 10) (W : World) : (Instr.slice 9 (.string ⟨l.toArray⟩) (some (.int .i64 5)) (some (.int .i64 7)) none).run Try.prog W = .ok (.string ⟨((l.drop 5).take 2).toArray⟩) W := by
  rw [run_slice_string W 9 _ .i64 .i64 5 7 Try.underlying9 (by omega) (by omega) (by show (7 : Int) ≤ ((l.toArray.size : Nat) : Int); simp; omega), show (5 : Int).toNat = 5 from rfl, show (7 : Int).toNat = 7 from rfl, ByteArray.extract_mk]
theorem part_lo (l : List UInt8) (h : l.length = 10) (W : World) : (Instr.slice 9 (.string ⟨l.toArray⟩) (some (.int .i64 8)) none none).run Try.prog W = .ok (.string ⟨((l.drop 8).take 2).toArray⟩) W := by
  rw [run_slice_string_l W 9 _ Try.underlying9 .i64 8 (by omega) (by show (8 : Int) ≤ ((l.toArray.size : Nat) : Int); simp; omega), show (8 : Int).toNat = 8 from rfl, ByteArray.extract_mk]
  have e : (ByteArray.mk l.toArray).size - 8 = 2 := by show l.toArray.size - 8 = 2; simp; omega
  rw [e]

theorem index_three (x y z : Value) (W : World) : (Instr.index 52 (.agg #[x, y, z]) (.int .i64 0)).run Try.prog W = .ok x W ∧ (Instr.index 52 (.agg #[x, y, z]) (.int .i64 1)).run Try.prog W = .ok y W ∧ (Instr.index 52 (.agg #[x, y, z]) (.int .i64 2)).run Try.prog W = .ok z W := by
  refine ⟨?_, ?_, ?_⟩ <;> simp [Instr.index, asIntOf, run_underlying Try.underlying52] <;> rfl
/-- The bytes of a part, as []byte: one new row. -/
theorem part_conv (W : World) (xs : List UInt8) : ∃ C W', (convert 9 48 (.string ⟨xs.toArray⟩)).run Try.prog W = .ok (.slice (some ⟨W.heap.size, 0, none⟩) xs.length C) W' ∧ RdB W' (some ⟨W.heap.size, 0, none⟩) xs.length xs ∧ W'.heap.size = W.heap.size + 1 ∧ Below W.heap.size W W' := by
  have hs : (ByteArray.mk xs.toArray).size = xs.length := by show xs.toArray.size = _; simp
  have h := Lib.run_convert_string_bytes (P := Try.prog) W 9 48 5 ⟨xs.toArray⟩ Try.underlying9 Try.underlying48 Try.underlying5
  rw [hs] at h
  refine ⟨_, _, h, ?_, Lib.bytesWorld_size _ _ _, ⟨rfl, rfl, rfl, by rw [Lib.bytesWorld_size]; omega, fun k hk => Lib.bytesWorld_at_old _ _ _ _ hk⟩⟩
  refine RdB.mk rfl fun j hj => ?_
  rw [Nat.zero_add, Lib.bytesWorld_cell _ _ _ _ (by rw [hs]; exact hj)]
  simp [List.getD, List.getElem?_eq_getElem hj]
theorem RdB.other {w : World} {g off n b j : Nat} {xs : List UInt8} {u : Value} (h : RdB w (some ⟨g, off, none⟩) n xs) (hne : g ≠ b) : RdB (w.setCell ⟨b, j, none⟩ u) (some ⟨g, off, none⟩) n xs :=
  ⟨h.1, fun hn => by
    obtain ⟨b', off', e, hc⟩ := h.2 hn
    refine ⟨b', off', e, fun i v hv => ?_⟩
    injection e with e
    injection e with e1 e2
    subst e1 e2
    exact (World.cell?_of_block (w := w) (heap_setCell_other w ⟨b, j, none⟩ _ u hne)).trans (hc i v hv)⟩

/-- The place in the text where a part begins. -/
def startOf (k : Nat) : Nat := if k = 0 then 0 else if k = 1 then 5 else if k = 2 then 8 else 10

set_option maxRecDepth 100000 in
set_option maxHeartbeats 8000000 in
theorem Read_any (s : ByteArray) (p : Int × Int) (w : World) (hp : ReadAs s.data.toList p) (hs : s.size ≤ 9223372036854775807) :
    Calls Try.prog 20 #[.string s] w fun e w' => e = .returned (.tuple #[.int .i64 p.1, .int .i64 p.2]) ∧ Below w.heap.size w w' := by
  obtain ⟨l, rfl⟩ : ∃ l : List UInt8, s = ⟨l.toArray⟩ := ⟨s.data.toList, by cases s; simp⟩
  simp only at hp
  have hsz : (ByteArray.mk l.toArray).size = l.length := by show l.toArray.size = _; simp
  rw [hsz] at hs
  by_cases hl : l.length = 10
  · have HL := Lib.hid hl
    have hlen : ((l.length : Int) != 10) = false := by rw [hl]; rfl
    have HP := Lib.hid hp
    have x4 := index_str l 4 (by omega) 4 rfl
    have x7 := index_str l 7 (by omega) 7 rfl
    have hz := zero3
    have HO := Lib.hid Of_any
    have s1 := part_hi l hl
    have s2 := part_mid l hl
    have s3 := part_lo l hl
    have b4 := Lib.hid (hp.bad 4 (by omega))
    have b7 := Lib.hid (hp.bad 7 (by omega))
    have k4 : Hid (okAt l 4 ↔ (l.getD 4 0).toNat = 45) := Lib.hid (by unfold okAt; rw [if_pos (.inl rfl)])
    have k7 : Hid (okAt l 7 ↔ (l.getD 7 0).toNat = 45) := Lib.hid (by unfold okAt; rw [if_pos (.inr rfl)])
    clear hp hsz hs hl
    generalize (l.getD 4 0).toNat = c4 at x4 k4
    generalize (l.getD 7 0).toNat = c7 at x7 k7
    by_cases h4 : c4 = 45
    · subst h4
      by_cases h7 : c7 = 45
      · subst h7
        have ok4 := Lib.hid (k4.out.2 rfl)
        have ok7 := Lib.hid (k7.out.2 rfl)
        clear k4 k7 b4 b7
        have HG := Lib.hid HP.out.good
        have L0 : Hid ((l.take 4).length = 4) := Lib.hid (by rw [List.length_take]; have := HL.out; omega)
        have L1 : Hid (((l.drop 5).take 2).length = 2) := Lib.hid (by rw [List.length_take, List.length_drop]; have := HL.out; omega)
        have L2 : Hid (((l.drop 8).take 2).length = 2) := Lib.hid (by rw [List.length_take, List.length_drop]; have := HL.out; omega)
        have G0 : Hid (∀ t (h : t < (l.take 4).length), (l.take 4)[t] = l.getD (0 + t) 0) := Lib.hid fun t h => by
          rw [List.length_take] at h
          simp [List.getD, List.getElem?_eq_getElem (show t < l.length by omega)]
        have G1 : Hid (∀ t (h : t < ((l.drop 5).take 2).length), ((l.drop 5).take 2)[t] = l.getD (5 + t) 0) := Lib.hid fun t h => by
          rw [List.length_take, List.length_drop] at h
          simp [List.getD, List.getElem?_eq_getElem (show 5 + t < l.length by omega)]
        have G2 : Hid (∀ t (h : t < ((l.drop 8).take 2).length), ((l.drop 8).take 2)[t] = l.getD (8 + t) 0) := Lib.hid fun t h => by
          rw [List.length_take, List.length_drop] at h
          simp [List.getD, List.getElem?_eq_getElem (show 8 + t < l.length by omega)]
        generalize l.take 4 = P0 at s1 HG L0 G0
        generalize (l.drop 5).take 2 = P1 at s2 HG L1 G1
        generalize (l.drop 8).take 2 = P2 at s3 HG L2 G2
        go_enter Try.func20, Try.ntmps20
        go_wp2
        go_quiet (fail)
        go_wp2
        go_loopw [29] (fun i wr => ∃ (k a b c : Nat), k ≤ 3 ∧ i = .int .i64 k ∧ wr.heap[w.heap.size]? = some (.cells #[.int .i64 a, .int .i64 b, .int .i64 c] 51 (0, 0)) ∧ Below w.heap.size w wr ∧ (∀ n, n < startOf k → okAt l n) ∧
          ((k = 0 ∧ a = 0 ∧ b = 0 ∧ c = 0) ∨ (k = 1 ∧ a = num P0 ∧ b = 0 ∧ c = 0) ∨ (k = 2 ∧ a = num P0 ∧ b = num P1 ∧ c = 0) ∨ (k = 3 ∧ a = num P0 ∧ b = num P1 ∧ c = num P2))) (fun i _ => 3 - (intOf i).toNat)
        case atStart => exact ⟨0, 0, 0, 0, by omega, rfl, heap_alloc_drewN w _ _, below_drewN ((Below.refl _ _).alloc (Nat.le_refl _) _) _, fun n h => by simp [startOf] at h, .inl ⟨rfl, rfl, rfl, rfl⟩⟩
        case round =>
          obtain ⟨k, a, b, c, hk, rfl, hh, hb, hok, hph⟩ := hrel
          have HOK := Lib.hid hok
          have HH := Lib.hid hh
          have HGW : Hid (∀ W : World, W.heap[w.heap.size]? = some (.cells #[.int .i64 a, .int .i64 b, .int .i64 c] 51 (0, 0)) → w.heap.size < W.heap.size) := Lib.hid fun W h => (Array.getElem?_eq_some_iff.1 h).1
          clear hok hh
          rcases hph with ⟨rfl, rfl, rfl, rfl⟩ | ⟨rfl, h1, rfl, rfl⟩ | ⟨rfl, h1, h2, rfl⟩ | ⟨rfl, h1, h2, h3⟩
          · have hix := (index_three (.string ⟨P0.toArray⟩) (.string ⟨P1.toArray⟩) (.string ⟨P2.toArray⟩) wr).1
            have hcv0 := part_conv wr P0
            obtain ⟨C, wb, hcv, hrd, hszb, hbw⟩ := hcv0
            have HSZ := Lib.hid hszb
            have HRD := Lib.hid hrd
            have hb1 := hb.trans (hbw.mono hb.size)
            have hgw : w.heap.size < wr.heap.size := HGW.out wr HH.out
            have HGW1 := Lib.hid hgw
            have HH1 := Lib.hid ((hbw.block w.heap.size hgw).trans HH.out)
            have hlen : ((P0.length : Nat) : Int) = 4 := by have := L0.out; omega
            obtain ⟨lv, hlv⟩ : ∃ lv, P0.length = lv := ⟨_, rfl⟩
            rw [hlv] at hcv
            have HLV := Lib.hid hlv
            have hlv2 : lv = 4 := by have := L0.out; omega
            subst hlv2
            clear hlv hlen hszb hrd hgw
            go_wp2
            go_loopw [36] (fun i wc => ∃ (t v : Nat), t ≤ 4 ∧ i = .int .i64 t ∧ Hid (v = num (P0.take t)) ∧ Hid (v < 10 ^ t) ∧ v < 10000 ∧ (∀ n, n < 0 + t → okAt l n) ∧ wc.heap[w.heap.size]? = some (.cells #[.int .i64 v, .int .i64 (0 : Nat), .int .i64 (0 : Nat)] 51 (0, 0)) ∧ RdB wc (some ⟨wr.heap.size, 0, none⟩) P0.length P0 ∧ Below w.heap.size w wc) (fun i _ => 4 - (intOf i).toNat)
            case atStart => exact ⟨0, 0, by omega, rfl, Lib.hid (by simp [num]), Lib.hid (by decide), by omega, HOK.out, HH1.out, HRD.out, hb1⟩
            case round =>
              obtain ⟨t, v, ht, rfl, hvn, hv10, hv4, hok, hh, hrd, hbb⟩ := hrel
              have HK := Lib.hid hok
              have HC := Lib.hid hh
              have HR := Lib.hid hrd
              clear hok hh hrd
              by_cases hlt : t < 4
              · have htl : t < P0.length := by have := L0.out; omega
                have hx := HR.out.cells t htl
                have hbad := Lib.hid (HP.out.bad (0 + t) (by omega))
                have hok1 : Hid (okAt l (0 + t) → ∀ n, n < 0 + (t + 1) → okAt l n) := Lib.hid fun h n hn => by
                  rcases Nat.lt_or_ge n (0 + t) with h1 | h1
                  · exact HK.out n h1
                  · obtain rfl : n = 0 + t := by omega
                    exact h
                have hd1 : Hid (okAt l (0 + t) ↔ 48 ≤ (l.getD (0 + t) 0).toNat ∧ (l.getD (0 + t) 0).toNat ≤ 57) := Lib.hid (by unfold okAt isd; rw [if_neg (by omega)])
                have N1 := Lib.hid (num_take P0 t htl)
                have e1 : P0.getD t 0 = l.getD (0 + t) 0 := by rw [← G0.out t htl]; simp [List.getD, List.getElem?_eq_getElem htl]
                rw [e1] at N1
                rw [Nat.zero_add, G0.out t htl] at hx
                clear e1
                have hx256 := (l.getD (0 + t) 0).toNat_lt
                generalize (l.getD (0 + t) 0).toNat = x at hx hd1 N1 hx256
                by_cases hx48 : x < 48
                · have hp0 := hbad.out (fun h => by have := hd1.out.1 h; omega)
                  subst hp0
                  go_wp2
                  go_ret2
                  exact ⟨rfl, hbb⟩
                by_cases hx57 : 57 < x
                · have hp0 := hbad.out (fun h => by have := hd1.out.1 h; omega)
                  subst hp0
                  go_wp2
                  go_ret2
                  exact ⟨rfl, hbb⟩
                have HGD := Lib.hid (hok1.out (hd1.out.2 ⟨by omega, by omega⟩))
                have hw2 := step10 v t (x - 48) 4 hv10.out (by omega) (by omega)
                have HW2 := Lib.hid hw2.1
                have hw3 := hw2.2
                have hcell : wr.cell? ⟨w.heap.size, 0, none⟩ = some (.int .i64 v) := by rw [cell_of_row _ _ _ _ _ _ HC.out]; rfl
                have hfr : wr.frozen? ⟨w.heap.size, 0, none⟩ = false := frozen_of_row _ _ _ _ _ HC.out
                clear hw2
                go_wp2
                go_roundw
                case rel =>
                  rw [show ((v : Int) * 10 + ((x : Int) - 48)) = ((v * 10 + (x - 48) : Nat) : Int) by omega]
                  refine ⟨t + 1, v * 10 + (x - 48), by omega, by go_num, ?_, HW2, by omega, HGD.out, ?_, HR.out.other (by have := HGW1.out; omega), hbb.setCell (Nat.le_refl _) _⟩
                  · rw [N1.out, ← hvn.out]; rfl
                  · rw [heap_setCell_same _ _ _ _ _ _ HC.out]
                    rfl
                case measure => simp [intOf]; omega
              · obtain rfl : t = 4 := by omega
                have hvp : v = num P0 := by
                  have h1 := hvn.out
                  rw [← L0.out, List.take_length] at h1
                  exact h1
                have HVP := Lib.hid hvp
                clear hvp
                go_wp2
                go_roundw
                case rel =>
                  refine ⟨1, v, 0, 0, by omega, by go_num, HC.out, hbb, ?_, .inr (.inl ⟨rfl, HVP.out, rfl, rfl⟩)⟩
                  intro n hn
                  have hn5 : n < 5 := hn
                  rcases Nat.lt_or_ge n 4 with h | h
                  · exact HK.out n (by omega)
                  · obtain rfl : n = 4 := by omega
                    exact ok4.out
                case measure => simp [intOf]
          · have H1 := Lib.hid h1
            clear h1
            have hix := (index_three (.string ⟨P0.toArray⟩) (.string ⟨P1.toArray⟩) (.string ⟨P2.toArray⟩) wr).2.1
            have hcv0 := part_conv wr P1
            obtain ⟨C, wb, hcv, hrd, hszb, hbw⟩ := hcv0
            have HSZ := Lib.hid hszb
            have HRD := Lib.hid hrd
            have hb1 := hb.trans (hbw.mono hb.size)
            have hgw : w.heap.size < wr.heap.size := HGW.out wr HH.out
            have HGW1 := Lib.hid hgw
            have HH1 := Lib.hid ((hbw.block w.heap.size hgw).trans HH.out)
            have hlen : ((P1.length : Nat) : Int) = 2 := by have := L1.out; omega
            obtain ⟨lv, hlv⟩ : ∃ lv, P1.length = lv := ⟨_, rfl⟩
            rw [hlv] at hcv
            have HLV := Lib.hid hlv
            have hlv2 : lv = 2 := by have := L1.out; omega
            subst hlv2
            clear hlv hlen hszb hrd hgw
            go_wp2
            go_loopw [36] (fun i wc => ∃ (t v : Nat), t ≤ 2 ∧ i = .int .i64 t ∧ Hid (v = num (P1.take t)) ∧ Hid (v < 10 ^ t) ∧ v < 10000 ∧ (∀ n, n < 5 + t → okAt l n) ∧ wc.heap[w.heap.size]? = some (.cells #[.int .i64 a, .int .i64 v, .int .i64 (0 : Nat)] 51 (0, 0)) ∧ RdB wc (some ⟨wr.heap.size, 0, none⟩) P1.length P1 ∧ Below w.heap.size w wc) (fun i _ => 2 - (intOf i).toNat)
            case atStart => exact ⟨0, 0, by omega, rfl, Lib.hid (by simp [num]), Lib.hid (by decide), by omega, HOK.out, HH1.out, HRD.out, hb1⟩
            case round =>
              obtain ⟨t, v, ht, rfl, hvn, hv10, hv4, hok, hh, hrd, hbb⟩ := hrel
              have HK := Lib.hid hok
              have HC := Lib.hid hh
              have HR := Lib.hid hrd
              clear hok hh hrd
              by_cases hlt : t < 2
              · have htl : t < P1.length := by have := L1.out; omega
                have hx := HR.out.cells t htl
                have hbad := Lib.hid (HP.out.bad (5 + t) (by omega))
                have hok1 : Hid (okAt l (5 + t) → ∀ n, n < 5 + (t + 1) → okAt l n) := Lib.hid fun h n hn => by
                  rcases Nat.lt_or_ge n (5 + t) with h1 | h1
                  · exact HK.out n h1
                  · obtain rfl : n = 5 + t := by omega
                    exact h
                have hd1 : Hid (okAt l (5 + t) ↔ 48 ≤ (l.getD (5 + t) 0).toNat ∧ (l.getD (5 + t) 0).toNat ≤ 57) := Lib.hid (by unfold okAt isd; rw [if_neg (by omega)])
                have N1 := Lib.hid (num_take P1 t htl)
                have e1 : P1.getD t 0 = l.getD (5 + t) 0 := by rw [← G1.out t htl]; simp [List.getD, List.getElem?_eq_getElem htl]
                rw [e1] at N1
                rw [Nat.zero_add, G1.out t htl] at hx
                clear e1
                have hx256 := (l.getD (5 + t) 0).toNat_lt
                generalize (l.getD (5 + t) 0).toNat = x at hx hd1 N1 hx256
                by_cases hx48 : x < 48
                · have hp0 := hbad.out (fun h => by have := hd1.out.1 h; omega)
                  subst hp0
                  go_wp2
                  go_ret2
                  exact ⟨rfl, hbb⟩
                by_cases hx57 : 57 < x
                · have hp0 := hbad.out (fun h => by have := hd1.out.1 h; omega)
                  subst hp0
                  go_wp2
                  go_ret2
                  exact ⟨rfl, hbb⟩
                have HGD := Lib.hid (hok1.out (hd1.out.2 ⟨by omega, by omega⟩))
                have hw2 := step10 v t (x - 48) 2 hv10.out (by omega) (by omega)
                have HW2 := Lib.hid hw2.1
                have hw3 := hw2.2
                have hcell : wr.cell? ⟨w.heap.size, 1, none⟩ = some (.int .i64 v) := by rw [cell_of_row _ _ _ _ _ _ HC.out]; rfl
                have hfr : wr.frozen? ⟨w.heap.size, 1, none⟩ = false := frozen_of_row _ _ _ _ _ HC.out
                clear hw2
                go_wp2
                go_roundw
                case rel =>
                  rw [show ((v : Int) * 10 + ((x : Int) - 48)) = ((v * 10 + (x - 48) : Nat) : Int) by omega]
                  refine ⟨t + 1, v * 10 + (x - 48), by omega, by go_num, ?_, HW2, by omega, HGD.out, ?_, HR.out.other (by have := HGW1.out; omega), hbb.setCell (Nat.le_refl _) _⟩
                  · rw [N1.out, ← hvn.out]; rfl
                  · rw [heap_setCell_same _ _ _ _ _ _ HC.out]
                    rfl
                case measure => simp [intOf]; omega
              · obtain rfl : t = 2 := by omega
                have hvp : v = num P1 := by
                  have h1 := hvn.out
                  rw [← L1.out, List.take_length] at h1
                  exact h1
                have HVP := Lib.hid hvp
                clear hvp
                go_wp2
                go_roundw
                case rel =>
                  refine ⟨2, a, v, 0, by omega, by go_num, HC.out, hbb, ?_, .inr (.inr (.inl ⟨rfl, H1.out, HVP.out, rfl⟩))⟩
                  intro n hn
                  have hn5 : n < 8 := hn
                  rcases Nat.lt_or_ge n 7 with h | h
                  · exact HK.out n (by omega)
                  · obtain rfl : n = 7 := by omega
                    exact ok7.out
                case measure => simp [intOf]
          · have H1 := Lib.hid h1
            have H2 := Lib.hid h2
            clear h1 h2
            have hix := (index_three (.string ⟨P0.toArray⟩) (.string ⟨P1.toArray⟩) (.string ⟨P2.toArray⟩) wr).2.2
            have hcv0 := part_conv wr P2
            obtain ⟨C, wb, hcv, hrd, hszb, hbw⟩ := hcv0
            have HSZ := Lib.hid hszb
            have HRD := Lib.hid hrd
            have hb1 := hb.trans (hbw.mono hb.size)
            have hgw : w.heap.size < wr.heap.size := HGW.out wr HH.out
            have HGW1 := Lib.hid hgw
            have HH1 := Lib.hid ((hbw.block w.heap.size hgw).trans HH.out)
            have hlen : ((P2.length : Nat) : Int) = 2 := by have := L2.out; omega
            obtain ⟨lv, hlv⟩ : ∃ lv, P2.length = lv := ⟨_, rfl⟩
            rw [hlv] at hcv
            have HLV := Lib.hid hlv
            have hlv2 : lv = 2 := by have := L2.out; omega
            subst hlv2
            clear hlv hlen hszb hrd hgw
            go_wp2
            go_loopw [36] (fun i wc => ∃ (t v : Nat), t ≤ 2 ∧ i = .int .i64 t ∧ Hid (v = num (P2.take t)) ∧ Hid (v < 10 ^ t) ∧ v < 10000 ∧ (∀ n, n < 8 + t → okAt l n) ∧ wc.heap[w.heap.size]? = some (.cells #[.int .i64 a, .int .i64 b, .int .i64 v] 51 (0, 0)) ∧ RdB wc (some ⟨wr.heap.size, 0, none⟩) P2.length P2 ∧ Below w.heap.size w wc) (fun i _ => 2 - (intOf i).toNat)
            case atStart => exact ⟨0, 0, by omega, rfl, Lib.hid (by simp [num]), Lib.hid (by decide), by omega, HOK.out, HH1.out, HRD.out, hb1⟩
            case round =>
              obtain ⟨t, v, ht, rfl, hvn, hv10, hv4, hok, hh, hrd, hbb⟩ := hrel
              have HK := Lib.hid hok
              have HC := Lib.hid hh
              have HR := Lib.hid hrd
              clear hok hh hrd
              by_cases hlt : t < 2
              · have htl : t < P2.length := by have := L2.out; omega
                have hx := HR.out.cells t htl
                have hbad := Lib.hid (HP.out.bad (8 + t) (by omega))
                have hok1 : Hid (okAt l (8 + t) → ∀ n, n < 8 + (t + 1) → okAt l n) := Lib.hid fun h n hn => by
                  rcases Nat.lt_or_ge n (8 + t) with h1 | h1
                  · exact HK.out n h1
                  · obtain rfl : n = 8 + t := by omega
                    exact h
                have hd1 : Hid (okAt l (8 + t) ↔ 48 ≤ (l.getD (8 + t) 0).toNat ∧ (l.getD (8 + t) 0).toNat ≤ 57) := Lib.hid (by unfold okAt isd; rw [if_neg (by omega)])
                have N1 := Lib.hid (num_take P2 t htl)
                have e1 : P2.getD t 0 = l.getD (8 + t) 0 := by rw [← G2.out t htl]; simp [List.getD, List.getElem?_eq_getElem htl]
                rw [e1] at N1
                rw [Nat.zero_add, G2.out t htl] at hx
                clear e1
                have hx256 := (l.getD (8 + t) 0).toNat_lt
                generalize (l.getD (8 + t) 0).toNat = x at hx hd1 N1 hx256
                by_cases hx48 : x < 48
                · have hp0 := hbad.out (fun h => by have := hd1.out.1 h; omega)
                  subst hp0
                  go_wp2
                  go_ret2
                  exact ⟨rfl, hbb⟩
                by_cases hx57 : 57 < x
                · have hp0 := hbad.out (fun h => by have := hd1.out.1 h; omega)
                  subst hp0
                  go_wp2
                  go_ret2
                  exact ⟨rfl, hbb⟩
                have HGD := Lib.hid (hok1.out (hd1.out.2 ⟨by omega, by omega⟩))
                have hw2 := step10 v t (x - 48) 2 hv10.out (by omega) (by omega)
                have HW2 := Lib.hid hw2.1
                have hw3 := hw2.2
                have hcell : wr.cell? ⟨w.heap.size, 2, none⟩ = some (.int .i64 v) := by rw [cell_of_row _ _ _ _ _ _ HC.out]; rfl
                have hfr : wr.frozen? ⟨w.heap.size, 2, none⟩ = false := frozen_of_row _ _ _ _ _ HC.out
                clear hw2
                go_wp2
                go_roundw
                case rel =>
                  rw [show ((v : Int) * 10 + ((x : Int) - 48)) = ((v * 10 + (x - 48) : Nat) : Int) by omega]
                  refine ⟨t + 1, v * 10 + (x - 48), by omega, by go_num, ?_, HW2, by omega, HGD.out, ?_, HR.out.other (by have := HGW1.out; omega), hbb.setCell (Nat.le_refl _) _⟩
                  · rw [N1.out, ← hvn.out]; rfl
                  · rw [heap_setCell_same _ _ _ _ _ _ HC.out]
                    rfl
                case measure => simp [intOf]; omega
              · obtain rfl : t = 2 := by omega
                have hvp : v = num P2 := by
                  have h1 := hvn.out
                  rw [← L2.out, List.take_length] at h1
                  exact h1
                have HVP := Lib.hid hvp
                clear hvp
                go_wp2
                go_roundw
                case rel =>
                  refine ⟨3, a, b, v, by omega, by go_num, HC.out, hbb, ?_, .inr (.inr (.inr ⟨rfl, H1.out, H2.out, HVP.out⟩))⟩
                  intro n hn
                  have hn5 : n < 10 := hn
                  exact HK.out n (by omega)
                case measure => simp [intOf]
          · have hpg := HG.out ⟨HL.out, fun j hj => HOK.out j hj⟩
            rw [← h1, ← h2, ← h3] at hpg
            have HPG := Lib.hid hpg
            clear h1 h2 h3 hpg
            have hc0 : wr.cell? ⟨w.heap.size, 0, none⟩ = some (.int .i64 a) := by rw [cell_of_row _ _ _ _ _ _ HH.out]; rfl
            have hc1 : wr.cell? ⟨w.heap.size, 1, none⟩ = some (.int .i64 b) := by rw [cell_of_row _ _ _ _ _ _ HH.out]; rfl
            have hc2 : wr.cell? ⟨w.heap.size, 2, none⟩ = some (.int .i64 c) := by rw [cell_of_row _ _ _ _ _ _ HH.out]; rfl
            go_wp2_with fail
            refine (HO.out a b c wr).mono ?_
            rintro e w' ⟨rfl, hbo⟩
            go_wp2
            go_ret2
            rw [HPG.out]
            exact ⟨rfl, hb.trans (hbo.mono hb.size)⟩
      · have f1 : ((c7 : Int) != 45) = true := by rw [bne_iff_ne]; omega
        have hp0 := b7.out (fun h => h7 (k7.out.1 h))
        subst hp0
        go_enter Try.func20, Try.ntmps20
        go_wp2
        go_ret2
        exact ⟨rfl, Below.refl _ _⟩
    · have f1 : ((c4 : Int) != 45) = true := by rw [bne_iff_ne]; omega
      have hp0 := b4.out (fun h => h4 (k4.out.1 h))
      subst hp0
      go_enter Try.func20, Try.ntmps20
      go_wp2
      go_ret2
      exact ⟨rfl, Below.refl _ _⟩
  · have h9 := hp.short hl
    subst h9
    have hne : ((l.length : Int) != 10) = true := by rw [bne_iff_ne]; omega
    go_enter Try.func20, Try.ntmps20
    go_wp2
    go_ret2
    exact ⟨rfl, Below.refl _ _⟩
end Go.Proofs.Ytdadhpfaompmnaa
