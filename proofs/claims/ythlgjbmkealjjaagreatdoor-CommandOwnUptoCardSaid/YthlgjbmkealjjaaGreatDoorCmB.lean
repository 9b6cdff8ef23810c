/-
  The walk of the laws' wakes. No statement is proved here.
-/
import Derived.Test.YthlgjbmkealjjaaGreatDoorCmA
namespace Go.Proofs.YthlgjbmkealjjaaGreatDoor
open Go.RowKit
set_option linter.unusedVariables false
theorem own_cap {w : World} {base n c : Nat} {A : Option Addr} {xs : List Value} (h : w.ownsRow base 2 1 (.slice A n c) n xs) : n ≤ c := by
  rcases h.2 with ⟨e, h0⟩ | ⟨g, cap, cur, e, h1, h2, h3, h4, h5, h6⟩
  · omega
  · injection e with _ _ e
    omega
set_option maxRecDepth 100000 in
set_option maxHeartbeats 4000000 in
theorem wakes_any (w : World) (hv : Vrs w.heap.size w) :
    Calls Tryz.prog 7 #[] w fun e w' => e = .returned (.bool true) ∧ Below w.heap.size w w' := by
  have PP : Hid (∀ W, Below w.heap.size w W → Calls Tryz.prog 8 #[.string ⟨#[112, 97, 121, 32, 97, 49, 32, 50, 48, 50, 52, 45, 48, 50, 45, 48, 49, 32, 53, 48, 46, 48, 48]⟩] W fun e w' => Below W.heap.size W w' ∧ ∃ A c, e = .returned (.tuple #[.agg #[.string ⟨#[112, 97, 121]⟩, .string ⟨#[97, 49]⟩, .slice A 2 c, .string ⟨#[]⟩], .int .i64 0]) ∧ w'.ownsRow W.heap.size 2 1 (.slice A 2 c) 2 ([19754, 5000].map (Value.int .i64))) := Lib.hid fun W hW => by
    have h := Parse_b payL W (fun W' hW' => hv W' (hW.trans (hW'.mono hW.size)))
    rw [parse_pay] at h
    exact h
  have PD : Hid (∀ W, Below w.heap.size w W → Calls Tryz.prog 8 #[.string ⟨#[100, 97, 121, 32, 50, 48, 50, 51, 45, 48, 50, 45, 50, 57]⟩] W fun e w' => Below W.heap.size W w' ∧ ∃ A c, e = .returned (.tuple #[.agg #[.string ⟨#[]⟩, .string ⟨#[]⟩, .slice A 0 c, .string ⟨#[]⟩], .int .i64 6])) := Lib.hid fun W hW => by
    have h := Parse_b dayL W (fun W' hW' => hv W' (hW.trans (hW'.mono hW.size)))
    rw [parse_day] at h
    exact h.mono fun e w' ⟨h1, A, c, h2, _⟩ => ⟨h1, A, c, h2⟩
  have PL : Hid (∀ W, Below w.heap.size w W → Calls Tryz.prog 8 #[.string ⟨#[108, 97, 115, 116, 32]⟩] W fun e w' => Below W.heap.size W w' ∧ ∃ A c, e = .returned (.tuple #[.agg #[.string ⟨#[]⟩, .string ⟨#[]⟩, .slice A 0 c, .string ⟨#[]⟩], .int .i64 7])) := Lib.hid fun W hW => by
    have h := Parse_b lastL W (fun W' hW' => hv W' (hW.trans (hW'.mono hW.size)))
    rw [parse_last] at h
    exact h.mono fun e w' ⟨h1, A, c, h2, _⟩ => ⟨h1, A, c, h2⟩
  have OW : Hid (∀ W A c, Rd W 1 A 2 ([19754, 5000].map (Value.int .i64)) → Calls Tryz.prog 12 #[.agg #[.string ⟨#[112, 97, 121]⟩, .string ⟨#[97, 49]⟩, .slice A 2 c, .string ⟨#[]⟩]] W fun e w' => (∃ A' k', e = .returned (.agg #[.string ⟨#[112, 97, 121]⟩, .string ⟨#[97, 49]⟩, .slice A' 2 k', .string ⟨#[]⟩]) ∧ 2 ≤ k' ∧ Rd w' 1 A' 2 ([19754, 5000].map (Value.int .i64))) ∧ Below W.heap.size W w') := Lib.hid fun W A c hr => by
    refine (own_any payC A 2 c W (Lib.hid rfl) hr (by omega)).mono ?_
    rintro e w' ⟨⟨A', k', rfl, ho⟩, hb⟩
    exact ⟨⟨A', k', rfl, own_cap ho, Rd.of_own ho⟩, hb⟩
  have WR : Hid (∀ W A c, Below w.heap.size w W → 2 ≤ c → Rd W 1 A 2 ([19754, 5000].map (Value.int .i64)) → Calls Tryz.prog 11 #[.agg #[.string ⟨#[112, 97, 121]⟩, .string ⟨#[97, 49]⟩, .slice A 2 c, .string ⟨#[]⟩]] W fun e w' => e = .returned (.tuple #[.string ⟨#[112, 97, 121, 32, 97, 49, 32, 50, 48, 50, 52, 45, 48, 50, 45, 48, 49, 32, 53, 48, 46, 48, 48]⟩, .int .i64 0]) ∧ Below W.heap.size W w') := Lib.hid fun W A c hW h2 hr => by
    have h := Write_any payC A 2 c W (Lib.hid rfl) hr h2 (by omega) (fun z hz => by
      rcases (show z = 19754 ∨ z = 5000 by simpa [payC] using hz) with rfl | rfl <;> omega) (by decide) (by decide) (by decide) (fun W' hW' => hv W' (hW.trans (hW'.mono hW.size)))
    rw [write_pay] at h
    exact h
  clear hv
  go_enter Tryz.func7, Tryz.ntmps7
  go_wp2_with fail
  refine (PP.out w (Below.refl _ _)).mono ?_
  rintro e w1 ⟨hb1, A1, c1, rfl, ho1⟩
  have hlt1 := hb1.size
  have HO1 := Lib.hid ho1
  have HB1 := Lib.hid hb1
  clear hb1 ho1
  go_upto_region 2 with (fail)
  obtain ⟨W1, hW1⟩ : ∃ W1, W1 = w1.alloc (.cells #[.string ⟨#[112, 97, 121]⟩, .string ⟨#[97, 49]⟩, .slice A1 2 c1, .string ⟨#[]⟩] 25) := ⟨_, rfl⟩
  rw [← hW1]
  obtain ⟨B1, hB1⟩ : ∃ B1, B1 = w1.heap.size := ⟨_, rfl⟩
  rw [← hB1]
  have HC1 : Hid (W1.heap[B1]? = some (.cells #[.string ⟨#[112, 97, 121]⟩, .string ⟨#[97, 49]⟩, .slice A1 2 c1, .string ⟨#[]⟩] 25 (0, 0))) := Lib.hid (by rw [hW1, hB1]; exact heap_alloc_new _ _)
  have HW1 : Hid (Below w.heap.size w W1) := Lib.hid (by rw [hW1]; exact HB1.out.alloc hlt1 _)
  have HR1 : Hid (Rd W1 1 A1 2 ([19754, 5000].map (Value.int .i64))) := Lib.hid (by rw [hW1]; exact (Rd.of_own HO1.out).alloc _)
  clear hW1 hB1 HO1 HB1 hlt1
  go_wp2_with fail
  refine (PD.out W1 HW1.out).mono ?_
  rintro e w2 ⟨hb2, A2, c2, rfl⟩
  have HB2 := Lib.hid hb2
  clear hb2
  go_upto_region 3 with (fail)
  obtain ⟨W2, hW2⟩ : ∃ W2, W2 = w2.alloc (.cells #[.string ⟨#[]⟩, .string ⟨#[]⟩, .slice A2 0 c2, .string ⟨#[]⟩] 25) := ⟨_, rfl⟩
  rw [← hW2]
  obtain ⟨B2, hB2⟩ : ∃ B2, B2 = w2.heap.size := ⟨_, rfl⟩
  rw [← hB2]
  have HK2 : Hid (Below W1.heap.size W1 W2) := Lib.hid (by rw [hW2]; exact HB2.out.alloc HB2.out.size _)
  clear hW2 hB2 HB2
  go_wp2_with fail
  refine (PL.out W2 (HW1.out.trans (HK2.out.mono HW1.out.size))).mono ?_
  rintro e w3 ⟨hb3, A3, c3, rfl⟩
  have HB3 := Lib.hid hb3
  clear hb3
  go_upto_region 4 with (fail)
  obtain ⟨W3, hW3⟩ : ∃ W3, W3 = w3.alloc (.cells #[.string ⟨#[]⟩, .string ⟨#[]⟩, .slice A3 0 c3, .string ⟨#[]⟩] 25) := ⟨_, rfl⟩
  rw [← hW3]
  obtain ⟨B3, hB3⟩ : ∃ B3, B3 = w3.heap.size := ⟨_, rfl⟩
  rw [← hB3]
  have HK3 : Hid (Below W1.heap.size W1 W3) := Lib.hid (by rw [hW3]; exact HK2.out.trans ((HB3.out.alloc HB3.out.size _).mono HK2.out.size))
  clear hW3 hB3 HB3 HK2
  have h3 := (HK3.out.block _ (Array.getElem?_eq_some_iff.1 HC1.out).1).trans HC1.out
  have hq3 := cells4 h3
  have HR3 := Lib.hid (HR1.out.below HK3.out)
  clear h3
  go_wp2_with fail
  refine (OW.out W3 _ _ HR3.out).mono ?_
  rintro e w4 ⟨⟨A4, c4, rfl, hc4, hr4⟩, hb4⟩
  have HB4 := Lib.hid hb4
  have HR4 := Lib.hid hr4
  clear hb4 hr4 hq3
  go_wp2_with fail
  have HW4 : Hid (Below w.heap.size w w4) := Lib.hid (HW1.out.trans ((HK3.out.mono HW1.out.size).trans (HB4.out.mono (Nat.le_trans HW1.out.size HK3.out.size))))
  refine (WR.out w4 _ _ HW4.out hc4 HR4.out).mono ?_
  rintro e w5 ⟨rfl, hb5⟩
  have HK5 : Hid (Below W1.heap.size W1 w5) := Lib.hid (HK3.out.trans ((HB4.out.mono HK3.out.size).trans (hb5.mono (Nat.le_trans HK3.out.size HB4.out.size))))
  have h5 := (HK5.out.block _ (Array.getElem?_eq_some_iff.1 HC1.out).1).trans HC1.out
  have hq5 := cells4 h5
  have hr5 := HR1.out.below HK5.out
  obtain ⟨b, off, rfl, hx0⟩ := rdI_at hr5 0 (by simp)
  obtain ⟨_, _, e1, hx1⟩ := rdI_at hr5 1 (by simp)
  injection e1 with e1
  injection e1 with e1 e2
  subst e1 e2
  rw [Nat.add_zero] at hx0
  simp only [List.getElem_cons_zero, List.getElem_cons_succ] at hx0 hx1
  have HW5 : Hid (Below w.heap.size w w5) := Lib.hid (HW1.out.trans (HK5.out.mono HW1.out.size))
  clear hb5 h5 hr5
  go_wp2
  go_ret
  exact ⟨rfl, HW5.out⟩
end Go.Proofs.YthlgjbmkealjjaaGreatDoor
