/-
  The walk of a text read: the reference's Read.
-/
import Derived.Test.YtdadhpfaompmnaaCivilW3
import Derived.Test.YtdadhpfaompmnaaCivilR
import Derived.Deep.RegionHeld3
namespace Go.Proofs.Ytdadhpfaompmnaa
open Go.RowKit
set_option linter.unusedVariables false

theorem zero3 (w : World) : (zeroValue 51).run Try.prog w = .ok (.agg #[.int .i64 0, .int .i64 0, .int .i64 0]) w := by kernel_rfl
theorem index_str (l : List UInt8) (i : Nat) (h : i < l.length) (I : Int) (hI : I = i) (W : World) : (Instr.index 9 (.string ⟨l.toArray⟩) (.int .i64 I)).run Try.prog W = .ok (.int .u8 ((l.getD i 0).toNat : Int)) W := by
  subst hI
  rw [run_index_string W 9 _ .i64 _ Try.underlying9]
  have h1 : (0 : Int) ≤ (i : Int) ∧ (i : Int) < ((ByteArray.mk l.toArray).size : Int) := ⟨by omega, by show (i : Int) < ((l.toArray.size : Nat) : Int); simp; exact h⟩
  rw [dif_pos h1]
  simp [List.getD, List.getElem?_eq_getElem h]
  rfl

theorem refOf_any (y m d : Nat) (w : World) :
    Calls Try.prog 11 #[.int .i64 y, .int .i64 m, .int .i64 d] w fun e w' => e = .returned (.tuple #[.int .i64 (ofAt y m d).1, .int .i64 (ofAt y m d).2]) ∧ w = w' := by
  unfold ofAt
  by_cases h : Valid y m d
  · rw [if_pos h]; exact refOf_in y m d w h
  · rw [if_neg h]
    refine refOf_out y m d w ?_
    rintro ⟨a, b, c, e1, e2, e3, hv⟩
    obtain rfl : y = a := by omega
    obtain rfl : m = b := by omega
    obtain rfl : d = c := by omega
    exact h hv

theorem step10 (a j d K : Nat) (h : a < 10 ^ j) (hd : d ≤ 9) (hj : j < K) : a * 10 + d < 10 ^ (j + 1) ∧ a * 10 + d < 10 ^ K := by
  have h1 : 10 ^ (j + 1) ≤ 10 ^ K := Nat.pow_le_pow_right (by omega) hj
  have h2 : 10 ^ (j + 1) = 10 ^ j * 10 := Nat.pow_succ 10 j
  omega

set_option maxRecDepth 100000 in
set_option maxHeartbeats 4000000 in
theorem refRead_any (s : ByteArray) (p : Int × Int) (w : World) (hp : ReadAs s.data.toList p) (hs : s.size ≤ 9223372036854775807) :
    Calls Try.prog 21 #[.string s] w fun e w' => e = .returned (.tuple #[.int .i64 p.1, .int .i64 p.2]) ∧ Below w.heap.size w w' := by
  obtain ⟨l, rfl⟩ : ∃ l : List UInt8, s = ⟨l.toArray⟩ := ⟨s.data.toList, by cases s; simp⟩
  simp only at hp
  have hsz : (ByteArray.mk l.toArray).size = l.length := by show l.toArray.size = _; simp
  rw [hsz] at hs
  by_cases hl : l.length = 10
  · have HL := Lib.hid hl
    have hlen : ((l.length : Int) != 10) = false := by rw [hl]; rfl
    have HP := Lib.hid hp
    have HX := Lib.hid (index_str l)
    have hz := zero3
    have HO := Lib.hid refOf_any
    clear hp hsz hs hl
    go_enter Try.func21, Try.ntmps21
    go_wp2
    go_loopw [5, 6] (fun k i wr => ∃ (j q a b c : Nat), j ≤ 10 ∧ i = .int .i64 j ∧ k = .int .i64 q ∧ (∀ n, n < j → okAt l n) ∧ wr.heap[w.heap.size]? = some (.cells #[.int .i64 a, .int .i64 b, .int .i64 c] 51 (0, 0)) ∧ Below w.heap.size w wr ∧
      ((j ≤ 4 ∧ q = 0 ∧ a = num (l.take j) ∧ b = 0 ∧ c = 0 ∧ Hid (a < 10 ^ j)) ∨ (5 ≤ j ∧ j ≤ 7 ∧ q = 1 ∧ a = num (l.take 4) ∧ b = num ((l.drop 5).take (j - 5)) ∧ c = 0 ∧ Hid (b < 10 ^ (j - 5))) ∨ (8 ≤ j ∧ q = 2 ∧ a = num (l.take 4) ∧ b = num ((l.drop 5).take 2) ∧ c = num ((l.drop 8).take (j - 8)) ∧ Hid (c < 10 ^ (j - 8)))) ∧ a < 10000 ∧ b < 100 ∧ c < 100) (fun _ i _ => 10 - (intOf i).toNat)
    case atStart => exact ⟨0, 0, 0, 0, 0, by omega, rfl, rfl, fun n h => by omega, heap_alloc_new w _, (Below.refl _ _).alloc (Nat.le_refl _) _, .inl ⟨by omega, rfl, rfl, rfl, rfl, Lib.hid (by decide)⟩, by omega, by omega, by omega⟩
    case round =>
      obtain ⟨j, q, a, b, c, hj, rfl, rfl, hok, hh, hb, hph, ha, hb9, hc9⟩ := hrel
      have HOK := Lib.hid hok
      have HH := Lib.hid hh
      clear hok hh
      by_cases hlt : j < 10
      · have hj10 : j < l.length := by have := HL.out; omega
        have hbad := Lib.hid (HP.out.bad j hlt)
        have hok1 : Hid (okAt l j → ∀ n, n < j + 1 → okAt l n) := Lib.hid fun h n hn => by
          rcases Nat.lt_or_ge n j with h1 | h1
          · exact HOK.out n h1
          · obtain rfl : n = j := by omega
            exact h
        by_cases hd : j = 4 ∨ j = 7
        · have hd1 : Hid (okAt l j ↔ (l.getD j 0).toNat = 45) := Lib.hid (by unfold okAt; rw [if_pos hd])
          rcases hd with rfl | rfl
          · have hx := HX.out 4 hj10 4 rfl
            obtain ⟨rfl, h1, rfl, rfl⟩ : q = 0 ∧ a = num (l.take 4) ∧ b = 0 ∧ c = 0 := by
              rcases hph with ⟨_, h1, h2, h3, h4, _⟩ | ⟨h0, _⟩ | ⟨h0, _⟩
              · exact ⟨h1, h2, h3, h4⟩
              · omega
              · omega
            have H1 := Lib.hid h1
            clear h1 hph
            generalize (l.getD 4 0).toNat = x at hx hd1
            by_cases hx45 : x = 45
            · subst hx45
              have HG := Lib.hid (hok1.out (hd1.out.2 rfl))
              go_wp2
              go_roundw
              case rel => exact ⟨5, 1, a, 0, 0, by omega, rfl, rfl, HG.out, HH.out, hb, .inr (.inl ⟨by omega, by omega, rfl, H1.out, rfl, rfl, Lib.hid (by decide)⟩), ha, hb9, hc9⟩
              case measure => simp [intOf]
            · have f1 : ((x : Int) != 45) = true := by rw [bne_iff_ne]; omega
              have hp0 := hbad.out (fun h => hx45 (hd1.out.1 h))
              subst hp0
              go_wp2
              go_ret2
              exact ⟨rfl, hb⟩
          · have hx := HX.out 7 hj10 7 rfl
            obtain ⟨rfl, h1, h2, rfl⟩ : q = 1 ∧ a = num (l.take 4) ∧ b = num ((l.drop 5).take 2) ∧ c = 0 := by
              rcases hph with ⟨h0, _⟩ | ⟨_, _, h1, h2, h3, h4, _⟩ | ⟨h0, _⟩
              · omega
              · exact ⟨h1, h2, h3, h4⟩
              · omega
            have H1 := Lib.hid h1
            have H2 := Lib.hid h2
            clear h1 h2 hph
            generalize (l.getD 7 0).toNat = x at hx hd1
            by_cases hx45 : x = 45
            · subst hx45
              have HG := Lib.hid (hok1.out (hd1.out.2 rfl))
              go_wp2
              go_roundw
              case rel => exact ⟨8, 2, a, b, 0, by omega, rfl, rfl, HG.out, HH.out, hb, .inr (.inr ⟨by omega, rfl, H1.out, H2.out, rfl, Lib.hid (by decide)⟩), ha, hb9, hc9⟩
              case measure => simp [intOf]
            · have f1 : ((x : Int) != 45) = true := by rw [bne_iff_ne]; omega
              have hp0 := hbad.out (fun h => hx45 (hd1.out.1 h))
              subst hp0
              go_wp2
              go_ret2
              exact ⟨rfl, hb⟩
        · have hd1 : Hid (okAt l j ↔ 48 ≤ (l.getD j 0).toNat ∧ (l.getD j 0).toNat ≤ 57) := Lib.hid (by unfold okAt isd; rw [if_neg hd])
          have f4 : ((j : Int) == 4) = false := by simp; omega
          have f7 : ((j : Int) == 7) = false := by simp; omega
          have hx := HX.out j hj10 j rfl
          have N1 := Lib.hid (num_take l j hj10)
          have N2 : Hid (5 ≤ j → num ((l.drop 5).take (j - 5 + 1)) = num ((l.drop 5).take (j - 5)) * 10 + ((l.getD j 0).toNat - 48)) := Lib.hid fun h => by
            rw [num_drop l 5 (j - 5) (by omega), show 5 + (j - 5) = j by omega]
          have N3 : Hid (8 ≤ j → num ((l.drop 8).take (j - 8 + 1)) = num ((l.drop 8).take (j - 8)) * 10 + ((l.getD j 0).toNat - 48)) := Lib.hid fun h => by
            rw [num_drop l 8 (j - 8) (by omega), show 8 + (j - 8) = j by omega]
          generalize (l.getD j 0).toNat = x at hx hd1 N1 N2 N3
          by_cases hx48 : x < 48
          · have hp0 := hbad.out (fun h => by have := hd1.out.1 h; omega)
            subst hp0
            go_wp2
            go_ret2
            exact ⟨rfl, hb⟩
          by_cases hx57 : 57 < x
          · have hp0 := hbad.out (fun h => by have := hd1.out.1 h; omega)
            subst hp0
            go_wp2
            go_ret2
            exact ⟨rfl, hb⟩
          have HG := Lib.hid (hok1.out (hd1.out.2 ⟨by omega, by omega⟩))
          rcases hph with ⟨h0, rfl, h1, rfl, rfl, hw⟩ | ⟨h0, h0', rfl, h1, h2, rfl, hw⟩ | ⟨h0, rfl, h1, h2, h3, hw⟩
          · have H1 := Lib.hid h1
            clear h1
            have hw2 := step10 a j (x - 48) 4 hw.out (by omega) (by omega)
            have HW2 := Lib.hid hw2.1
            have hw3 := hw2.2
            have hcell : wr.cell? ⟨w.heap.size, 0, none⟩ = some (.int .i64 a) := by rw [cell_of_row _ _ _ _ _ _ HH.out]; rfl
            have hfr : wr.frozen? ⟨w.heap.size, 0, none⟩ = false := frozen_of_row _ _ _ _ _ HH.out
            clear hw2
            go_wp2
            go_region
            go_wp2
            go_roundw
            case rel =>
              rw [show (10 * (a : Int) + ((x : Int) - 48)) = ((a * 10 + (x - 48) : Nat) : Int) by omega]
              refine ⟨j + 1, 0, a * 10 + (x - 48), 0, 0, by omega, by go_num, rfl, HG.out, ?_, ?_, .inl ⟨by omega, rfl, by rw [N1.out, H1.out], rfl, rfl, HW2⟩, hw3, by omega, by omega⟩
              · show (wr.setCell _ _).heap[_]? = _
                rw [heap_setCell_same _ _ _ _ _ _ HH.out]
                rfl
              · exact (hb.setCell (Nat.le_refl _) _).drew
            case measure => simp [intOf]; omega
          · have H1 := Lib.hid h1
            have H2 := Lib.hid h2
            clear h1 h2
            have hw2 := step10 b (j - 5) (x - 48) 2 hw.out (by omega) (by omega)
            have HW2 := Lib.hid hw2.1
            have hw3 := hw2.2
            have hcell : wr.cell? ⟨w.heap.size, 1, none⟩ = some (.int .i64 b) := by rw [cell_of_row _ _ _ _ _ _ HH.out]; rfl
            have hfr : wr.frozen? ⟨w.heap.size, 1, none⟩ = false := frozen_of_row _ _ _ _ _ HH.out
            clear hw2
            go_wp2
            go_region
            go_wp2
            go_roundw
            case rel =>
              rw [show (10 * (b : Int) + ((x : Int) - 48)) = ((b * 10 + (x - 48) : Nat) : Int) by omega]
              refine ⟨j + 1, 1, a, b * 10 + (x - 48), 0, by omega, by go_num, rfl, HG.out, ?_, ?_, .inr (.inl ⟨by omega, by omega, rfl, H1.out, ?_, rfl, ?_⟩), ha, hw3, by omega⟩
              · show (wr.setCell _ _).heap[_]? = _
                rw [heap_setCell_same _ _ _ _ _ _ HH.out]
                rfl
              · exact (hb.setCell (Nat.le_refl _) _).drew
              · rw [show j + 1 - 5 = j - 5 + 1 by omega, N2.out h0, H2.out]
              · rw [show j + 1 - 5 = j - 5 + 1 by omega]; exact HW2
            case measure => simp [intOf]; omega
          · have H1 := Lib.hid h1
            have H2 := Lib.hid h2
            have H3 := Lib.hid h3
            clear h1 h2 h3
            have hw2 := step10 c (j - 8) (x - 48) 2 hw.out (by omega) (by omega)
            have HW2 := Lib.hid hw2.1
            have hw3 := hw2.2
            have hcell : wr.cell? ⟨w.heap.size, 2, none⟩ = some (.int .i64 c) := by rw [cell_of_row _ _ _ _ _ _ HH.out]; rfl
            have hfr : wr.frozen? ⟨w.heap.size, 2, none⟩ = false := frozen_of_row _ _ _ _ _ HH.out
            clear hw2
            go_wp2
            go_region
            go_wp2
            go_roundw
            case rel =>
              rw [show (10 * (c : Int) + ((x : Int) - 48)) = ((c * 10 + (x - 48) : Nat) : Int) by omega]
              refine ⟨j + 1, 2, a, b, c * 10 + (x - 48), by omega, by go_num, rfl, HG.out, ?_, ?_, .inr (.inr ⟨by omega, rfl, H1.out, H2.out, ?_, ?_⟩), ha, hb9, hw3⟩
              · show (wr.setCell _ _).heap[_]? = _
                rw [heap_setCell_same _ _ _ _ _ _ HH.out]
                rfl
              · exact (hb.setCell (Nat.le_refl _) _).drew
              · rw [show j + 1 - 8 = j - 8 + 1 by omega, N3.out h0, H3.out]
              · rw [show j + 1 - 8 = j - 8 + 1 by omega]; exact HW2
            case measure => simp [intOf]; omega
      · obtain rfl : j = 10 := by omega
        obtain ⟨rfl, h1, h2, h3⟩ : q = 2 ∧ a = num (l.take 4) ∧ b = num ((l.drop 5).take 2) ∧ c = num ((l.drop 8).take 2) := by
          rcases hph with ⟨h0, _⟩ | ⟨_, h0, _⟩ | ⟨_, h1, h2, h3, h4, _⟩
          · omega
          · omega
          · exact ⟨h1, h2, h3, h4⟩
        have hpg := HP.out.good ⟨HL.out, HOK.out⟩
        rw [← h1, ← h2, ← h3] at hpg
        have HPG := Lib.hid hpg
        clear hph h1 h2 h3 hpg
        have hc0 : wr.cell? ⟨w.heap.size, 0, none⟩ = some (.int .i64 a) := by rw [cell_of_row _ _ _ _ _ _ HH.out]; rfl
        have hc1 : wr.cell? ⟨w.heap.size, 1, none⟩ = some (.int .i64 b) := by rw [cell_of_row _ _ _ _ _ _ HH.out]; rfl
        have hc2 : wr.cell? ⟨w.heap.size, 2, none⟩ = some (.int .i64 c) := by rw [cell_of_row _ _ _ _ _ _ HH.out]; rfl
        go_wp2_with fail
        refine (HO.out a b c wr).mono ?_
        rintro e w' ⟨rfl, rfl⟩
        go_wp2
        go_ret2
        rw [HPG.out]
        exact ⟨rfl, hb⟩
  · have h9 := hp.short hl
    subst h9
    have hne : ((l.length : Int) != 10) = true := by rw [bne_iff_ne]; omega
    go_enter Try.func21, Try.ntmps21
    go_wp2
    go_ret2
    exact ⟨rfl, Below.refl _ _⟩
end Go.Proofs.Ytdadhpfaompmnaa
