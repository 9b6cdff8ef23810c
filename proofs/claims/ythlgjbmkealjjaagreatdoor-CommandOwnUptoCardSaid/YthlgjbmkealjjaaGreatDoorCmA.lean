/-
  The laws' wakes. No statement is proved here.
-/
import Derived.Test.YthlgjbmkealjjaaGreatDoorCmZ2
namespace Go.Proofs.YthlgjbmkealjjaaGreatDoor
open Go.RowKit
set_option linter.unusedVariables false
def payL : List UInt8 := [112, 97, 121, 32, 97, 49, 32, 50, 48, 50, 52, 45, 48, 50, 45, 48, 49, 32, 53, 48, 46, 48, 48]
def dayL : List UInt8 := [100, 97, 121, 32, 50, 48, 50, 51, 45, 48, 50, 45, 50, 57]
def lastL : List UInt8 := [108, 97, 115, 116, 32]
def payC : Cm := ⟨⟨#[112, 97, 121]⟩, ⟨#[97, 49]⟩, ⟨#[]⟩, [19754, 5000]⟩
theorem civOf_txt {y m a : Nat} (h : Valid y m a) : civOf (txt y m a) = (dayOf y m a, 0) := ReadAs.txt h (civOf_as _)
theorem civ_pay : civOf [50, 48, 50, 52, 45, 48, 50, 45, 48, 49] = (19754, 0) := by
  have h := civOf_txt (y := 2024) (m := 2) (a := 1) (by decide)
  rw [show txt 2024 2 1 = [50, 48, 50, 52, 45, 48, 50, 45, 48, 49] by decide +kernel, show dayOf 2024 2 1 = 19754 by decide] at h
  exact h
theorem civ_day : civOf [50, 48, 50, 51, 45, 48, 50, 45, 50, 57] = (0, 6) := by
  have hg : Good [50, 48, 50, 51, 45, 48, 50, 45, 50, 57] := by
    refine ⟨rfl, fun j hj => ?_⟩
    unfold okAt isd
    rcases (show j = 0 ∨ j = 1 ∨ j = 2 ∨ j = 3 ∨ j = 4 ∨ j = 5 ∨ j = 6 ∨ j = 7 ∨ j = 8 ∨ j = 9 by omega) with rfl | rfl | rfl | rfl | rfl | rfl | rfl | rfl | rfl | rfl
    all_goals decide
  unfold civOf
  rw [if_pos hg]
  unfold ofAt
  rw [if_neg (by decide +kernel)]
theorem mon_pay : readOf [53, 48, 46, 48, 48] = (5000, 0) := by
  have h := text_back 5000 (by omega) (by omega)
  rw [show textL 5000 = [53, 48, 46, 48, 48] by decide +kernel] at h
  exact h
theorem parse_pay : parseAns payL = (payC, 0) := by
  unfold parseAns
  rw [if_neg (by decide), show wordsOf payL = [[112, 97, 121], [97, 49], [50, 48, 50, 52, 45, 48, 50, 45, 48, 49], [53, 48, 46, 48, 48]] by decide +kernel,
    parse_some (f := [.n, .d, .m]) rfl, if_neg (by decide)]
  have e1 : nameOk (bs [97, 49]) = true := by decide +kernel
  have e2 : monOk (5000, 0) = true := by decide +kernel
  simp only [runW, List.zip_cons_cons, List.zip_nil_right, List.foldl, stepW, readW, Option.bind_some, civ_pay, mon_pay, e1, e2, if_true, endW]
  rfl
theorem parse_day : parseAns dayL = (noneC, 6) := by
  unfold parseAns
  rw [if_neg (by decide), show wordsOf dayL = [[100, 97, 121], [50, 48, 50, 51, 45, 48, 50, 45, 50, 57]] by decide +kernel,
    parse_some (f := [.d]) rfl, if_neg (by decide)]
  simp only [runW, List.zip_cons_cons, List.zip_nil_right, List.foldl, stepW, readW, Option.bind_some, civ_day]
  rfl
theorem parse_last : parseAns lastL = (noneC, 7) := by
  unfold parseAns
  rw [if_neg (by decide), show wordsOf lastL = [[108, 97, 115, 116], []] by decide +kernel, parse_some (f := []) rfl, if_pos (by decide)]
theorem civT_pay : civT 19754 = [50, 48, 50, 52, 45, 48, 50, 45, 48, 49] := by
  rw [civT_eq (y := 2024) (m := 2) (a := 1) (by decide) (by decide)]
  decide +kernel
theorem write_pay : progW payC = (bs payL, 0) := by
  have h1 : formOf payC.op.data.toList (payC.args.length : Int) = some [.n, .d, .m] := rfl
  have h2 : textsC payC [.n, .d, .m] payC.args = some [[97, 49], [50, 48, 50, 52, 45, 48, 50, 45, 48, 49], [53, 48, 46, 48, 48]] := by
    have e1 : wordT .n payC 0 = [97, 49] := rfl
    have e2 : wordT .d payC 19754 = [50, 48, 50, 52, 45, 48, 50, 45, 48, 49] := civT_pay
    have e3 : wordT .m payC 5000 = [53, 48, 46, 48, 48] := by show textL 5000 = _; decide +kernel
    show (((some []).map (wordT .m payC 5000 :: ·)).map (wordT .d payC 19754 :: ·)).map (wordT .n payC 0 :: ·) = _
    rw [e1, e2, e3]
    rfl
  have h3 : lineW payC [[97, 49], [50, 48, 50, 52, 45, 48, 50, 45, 48, 49], [53, 48, 46, 48, 48]] = payL := by decide +kernel
  have := progK_good h1 h2 (by rw [h3, parse_pay]) (by rw [h3, parse_pay]; exact ⟨rfl, rfl, rfl, rfl⟩)
  rw [h3] at this
  exact this
theorem Parse_b (line : List UInt8) (w : World) (hv : Vrs w.heap.size w) :
    Calls Tryz.prog 8 #[.string (bs line)] w fun e w' => Below w.heap.size w w' ∧ ∃ A c, e = .returned (.tuple #[.agg #[.string (parseAns line).1.op, .string (parseAns line).1.name, .slice A (parseAns line).1.args.length c, .string (parseAns line).1.text], .int .i64 (parseAns line).2]) ∧ w'.ownsRow w.heap.size 2 1 (.slice A (parseAns line).1.args.length c) (parseAns line).1.args.length ((parseAns line).1.args.map (Value.int .i64)) := by
  refine (Parse_any line w hv).mono ?_
  rintro e w' ⟨h1, v, rfl, h2⟩
  obtain ⟨A, c, rfl, h3⟩ := ownI_form h2
  exact ⟨h1, A, c, rfl, h2⟩
theorem refParse_b (line : List UInt8) (w : World) :
    Calls Tryz.prog 9 #[.string (bs line)] w fun e w' => Below w.heap.size w w' ∧ ∃ A c, e = .returned (.tuple #[.agg #[.string (parseAns line).1.op, .string (parseAns line).1.name, .slice A (parseAns line).1.args.length c, .string (parseAns line).1.text], .int .i64 (parseAns line).2]) ∧ w'.ownsRow w.heap.size 2 1 (.slice A (parseAns line).1.args.length c) (parseAns line).1.args.length ((parseAns line).1.args.map (Value.int .i64)) := by
  have h := refParse_any (bs line) w
  rw [bs_list] at h
  refine h.mono ?_
  rintro e w' ⟨h1, v, rfl, h2⟩
  obtain ⟨A, c, rfl, h3⟩ := ownI_form h2
  exact ⟨h1, A, c, rfl, h2⟩
end Go.Proofs.YthlgjbmkealjjaaGreatDoor
