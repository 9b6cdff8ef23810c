/-
  The reference's Known. No statement is proved here.
-/
import Derived.Test.YtcbopgopegphlaaGreatEnK
import Derived.Test.YtcbopgopegphlaaGreatEnQ
import Derived.Test.YtcbopgopegphlaaGreatAcEE
import Derived.BigQuiet
namespace Go.Proofs.YtcbopgopegphlaaGreat
open Go.RowKit
set_option linter.unusedVariables false
theorem insE_append (e : Ev) (s : List Ev) : ∀ t : List Ev, insE e (t ++ s) = if t.any (evLt e) = true then insE e t ++ s else t ++ insE e s
  | [] => by simp
  | x :: t => by
    have ih := insE_append e s t
    have hx : (x :: t).any (evLt e) = (evLt e x || t.any (evLt e)) := rfl
    rcases Bool.eq_false_or_eq_true (evLt e x) with h | h
    · rw [hx, h]; simp [insE, h]
    · rw [hx, h, Bool.false_or, List.cons_append]
      simp only [insE, h, Bool.false_eq_true, if_false, ih]
      split <;> rfl
/-- What lies in the new row when k have been looked at. -/
def insTo (e : Ev) (o : List Ev) (k : Nat) : List Ev := if (o.take k).any (evLt e) = true then insE e (o.take k) else o.take k
theorem any_snoc (e : Ev) (o : List Ev) (k : Nat) (h : k < o.length) : (o.take (k + 1)).any (evLt e) = ((o.take k).any (evLt e) || evLt e o[k]) := by
  rw [List.take_add_one, List.getElem?_eq_getElem h, Option.toList_some, List.any_append]
  simp
theorem insTo_in {e : Ev} {o : List Ev} {k : Nat} (h : k < o.length) (hi : (o.take k).any (evLt e) = true) : insTo e o (k + 1) = insTo e o k ++ [o[k]] := by
  unfold insTo
  rw [any_snoc e o k h, hi, Bool.true_or, if_pos rfl, if_pos rfl, List.take_add_one, List.getElem?_eq_getElem h, Option.toList_some, insE_append, if_pos hi]
theorem insTo_now {e : Ev} {o : List Ev} {k : Nat} (h : k < o.length) (hi : (o.take k).any (evLt e) = false) (hl : evLt e o[k] = true) : insTo e o (k + 1) = (insTo e o k ++ [e]) ++ [o[k]] := by
  unfold insTo
  rw [any_snoc e o k h, hi, hl, Bool.false_or, if_pos rfl, if_neg (by simp), List.take_add_one, List.getElem?_eq_getElem h, Option.toList_some, insE_append, if_neg (by rw [hi]; simp)]
  simp [insE, hl]
theorem insTo_not {e : Ev} {o : List Ev} {k : Nat} (h : k < o.length) (hi : (o.take k).any (evLt e) = false) (hl : evLt e o[k] = false) : insTo e o (k + 1) = insTo e o k ++ [o[k]] := by
  unfold insTo
  rw [any_snoc e o k h, hi, hl, Bool.false_or, if_neg (by simp), if_neg (by simp), List.take_add_one, List.getElem?_eq_getElem h, Option.toList_some]
theorem insE_none {e : Ev} : ∀ {o : List Ev}, o.any (evLt e) = false → insE e o = o ++ [e]
  | [], _ => rfl
  | x :: o, h => by
    rw [List.any_cons, Bool.or_eq_false_iff] at h
    simp [insE, h.1, insE_none h.2]
theorem insTo_end (e : Ev) (o : List Ev) : insE e o = if o.any (evLt e) = true then insTo e o o.length else insTo e o o.length ++ [e] := by
  unfold insTo
  rw [List.take_length]
  by_cases h : o.any (evLt e) = true
  · rw [if_pos h, if_pos h]
  · rw [if_neg h, if_neg h]
    exact insE_none (by simpa using h)
theorem insE_len (e : Ev) (l : List Ev) : (insE e l).length = l.length + 1 := by have := (insE_perm e l).length_eq; simpa using this
theorem insTo_len (e : Ev) (o : List Ev) (k : Nat) : (insTo e o k).length ≤ o.length + 1 := by
  unfold insTo
  split
  · rw [insE_len, List.length_take]; omega
  · rw [List.length_take]; omega
def outTo (l : List Ev) (b : Int) (i : Nat) : List Ev := (keptTo l b i).foldl (fun acc e => insE e acc) []
theorem outTo_step (l : List Ev) (b : Int) (i : Nat) (h : i < l.length) : outTo l b (i + 1) = if keptB l b l[i] = true then insE l[i] (outTo l b i) else outTo l b i := by
  unfold outTo
  rw [keptTo_step l b i h, List.foldl_append]
  split <;> simp
theorem foldl_len : ∀ (l acc : List Ev), (l.foldl (fun acc e => insE e acc) acc).length = acc.length + l.length
  | [], acc => by simp
  | e :: l, acc => by rw [List.foldl_cons, foldl_len l, insE_len, List.length_cons]; omega
theorem outTo_len (l : List Ev) (b : Int) (i : Nat) : (outTo l b i).length ≤ l.length := by
  unfold outTo
  rw [foldl_len]
  have := keptTo_len l b i
  simpa using this
theorem outTo_end (l : List Ev) (b : Int) : outTo l b l.length = knownOf l b := by
  unfold outTo knownOf keptTo keptOf
  rw [List.take_length]
theorem ownsRow_base {w : World} {base base' sz n : Nat} {t : TypeId} {v : Value} {xs : List Value} (h : w.ownsRow base t sz v n xs) (hb : base' ≤ base) : w.ownsRow base' t sz v n xs := by
  refine ⟨h.1, ?_⟩
  rcases h.2 with h | ⟨g, cap, cur, hv, h1, h2⟩
  · exact .inl h
  · exact .inr ⟨g, cap, cur, hv, Nat.le_trans hb h1, h2⟩
theorem evBox (w : World) (e : Ev) : w.alloc (.cells #[.int .i64 e.seq, .string e.loan, .int .i64 e.day, .int .i64 e.kind, .int .i64 e.amount, .int .i64 e.ref] 39) = w.alloc (.cells (evCells e) 39) := rfl
theorem six_of {w : World} {g : Nat} {e : Ev} (h : w.heap[g]? = some (.cells (evCells e) 39 (0, 0))) : w.cell? ⟨g, 0, none⟩ = some (.int .i64 e.seq) ∧ w.cell? ⟨g, 1, none⟩ = some (.string e.loan) ∧ w.cell? ⟨g, 2, none⟩ = some (.int .i64 e.day) ∧ w.cell? ⟨g, 3, none⟩ = some (.int .i64 e.kind) ∧ w.cell? ⟨g, 4, none⟩ = some (.int .i64 e.amount) ∧ w.cell? ⟨g, 5, none⟩ = some (.int .i64 e.ref) := by
  refine ⟨?_, ?_, ?_, ?_, ?_, ?_⟩ <;> (rw [cell_of_row _ _ _ _ _ _ h]; rfl)
set_option maxRecDepth 100000 in
set_option maxHeartbeats 4000000 in
theorem rKnown_any (E : Option Addr) (m c : Nat) (l : List Ev) (b : Int) (w : World) (hE : RdE w E m l) (hm : m ≤ 100000) :
    Calls Tryz.prog 24 #[.slice E m c, .int .i64 b] w fun e w' => ∃ v, e = .returned v ∧ w'.ownsRow w.heap.size 39 6 v (knownOf l b).length (flatE (knownOf l b)) ∧ Below w.heap.size w w' := by
  have HE := Lib.hid hE
  have HL := Lib.hid hE.1
  have HN0 := Lib.hid (World.ownsRow_nil w w.heap.size 39 6)
  have HEND : Hid (outTo l b m = knownOf l b) := Lib.hid (by rw [← HL.out]; exact outTo_end l b)
  clear hE
  go_enter Tryz.func24, Tryz.ntmps24
  go_wp2_with fail
  go_loopw [15, 5] (fun t v wr => ∃ i : Nat, i ≤ m ∧ t = .int .i64 i ∧ Hid (wr.ownsRow w.heap.size 39 6 v (outTo l b i).length (flatE (outTo l b i))) ∧ Hid (Below w.heap.size w wr)) (fun t _ _ => m - (intOf t).toNat)
  case atStart => exact ⟨0, Nat.zero_le _, rfl, HN0, Lib.hid (Below.refl _ _)⟩
  case round =>
    clear HN0
    obtain ⟨i, hi, rfl, HO, HB⟩ := hrel
    obtain ⟨wa, rfl⟩ : ∃ x, x = wr := ⟨_, rfl⟩
    obtain ⟨vo, rfl⟩ : ∃ x, x = u5 := ⟨_, rfl⟩
    by_cases hlt : i < m
    · have hil : i < l.length := by have := HL.out; omega
      have hEr := HE.out.below HB.out
      obtain ⟨b0, off, rfl, _⟩ := hEr.2 (by omega)
      obtain ⟨x0, x1, x2, x3, x4, x5⟩ := ev_six hEr i hil
      have HST := Lib.hid (outTo_step l b i hil)
      obtain ⟨g7, hg7⟩ : ∃ g7, g7 = wa.heap.size := ⟨_, rfl⟩
      have hbw : Below w.heap.size w (wa.alloc (.cells (evCells l[i]) 39)) := HB.out.alloc HB.out.size _
      have hR7 : (wa.alloc (.cells (evCells l[i]) 39)).heap[g7]? = some (.cells (evCells l[i]) 39 (0, 0)) := by rw [hg7]; exact heap_alloc_new _ _
      have hO7 := World.ownsRow.alloc HO.out (.cells (evCells l[i]) 39)
      have HGE : Hid (w.heap.size ≤ g7) := Lib.hid (by rw [hg7]; exact HB.out.size)
      have HKB : Hid (keptB l b l[i] = (decide (l[i].seq ≤ b) && (decide (l[i].kind ≠ 5) && !goneB l b l[i].seq))) := Lib.hid rfl
      clear hEr HO HB
      generalize l[i] = e at *
      obtain ⟨es, el, ed, ek, ea, er⟩ := e
      dsimp only at *
      go_upto_region 6 with (fail)
      rw [← hg7]
      refine wp_at (fun wx => wx.heap[g7]? = some (.cells (evCells ⟨es, el, ed, ek, ea, er⟩) 39 (0, 0)) ∧ Below w.heap.size w wx ∧ wx.ownsRow w.heap.size 39 6 vo (outTo l b i).length (flatE (outTo l b i)) ∧ g7 < wx.heap.size) ⟨hR7, hbw, hO7, by rw [hg7]; simp⟩ ?_
      clear hR7 hbw hO7 hg7 x0 x1 x2 x3 x4 x5
      rintro w1 ⟨hR7, hb1, hO1, hlt7⟩
      obtain ⟨y0, y1, y2, y3, y4, y5⟩ := six_of hR7
      dsimp only at y0 y1 y2 y3 y4 y5
      have HR7 := Lib.hid hR7
      have HB1 := Lib.hid hb1
      have HO1 := Lib.hid hO1
      clear hR7 hb1 hO1
      by_cases hs : b < es
      · have hn : Hid (outTo l b (i + 1) = outTo l b i) := Lib.hid (by rw [HST.out, if_neg]; rw [HKB.out, decide_eq_false (by omega)]; simp)
        go_wp2_with fail
        go_roundw
        case rel => exact ⟨i + 1, by omega, by go_num, Lib.hid (by rw [hn.out]; exact HO1.out), HB1⟩
        case measure => simp [intOf]; omega
      · by_cases h5 : ek = 5
        · subst h5
          have hn : Hid (outTo l b (i + 1) = outTo l b i) := Lib.hid (by rw [HST.out, if_neg]; rw [HKB.out]; simp)
          go_wp2_with fail
          go_roundw
          case rel => exact ⟨i + 1, by omega, by go_num, Lib.hid (by rw [hn.out]; exact HO1.out), HB1⟩
          case measure => simp [intOf]; omega
        · have h5' : (ek == 5) = false := by simp [h5]
          go_upto_block 2 with (fail)
          go_cut [8, 9] from 33 to 63 (fun v8 _ wx => v8 = .bool (goneB l b es) ∧ Hid (Below w1.heap.size w1 wx))
          case first =>
            go_wp2
            go_loopw [33, 8] (fun t v8 wr => ∃ k : Nat, k ≤ m ∧ t = .int .i64 k ∧ v8 = .bool (goneB (l.take k) b es) ∧ Hid (Below w1.heap.size w1 wr)) (fun t _ _ => m - (intOf t).toNat)
            case atStart => exact ⟨0, Nat.zero_le _, rfl, rfl, Lib.hid (Below.refl _ _)⟩
            case round =>
              clear y0 y1 y2 y3 y4 y5
              obtain ⟨k, hk, rfl, rfl, HBk⟩ := hrel
              obtain ⟨wk, rfl⟩ : ∃ x, x = wr := ⟨_, rfl⟩
              by_cases hlk : k < m
              · have hkl : k < l.length := by have := HL.out; omega
                have HG2 : Hid (goneB (l.take (k + 1)) b es = (goneB (l.take k) b es || decide (l[k].kind = 5 ∧ l[k].seq ≤ b ∧ l[k].ref = es))) := Lib.hid (by
                  rw [List.take_add_one, List.getElem?_eq_getElem hkl, Option.toList_some, gone_snoc])
                obtain ⟨z0, _, _, z3, _, z5⟩ := ev_six (HE.out.below (HB1.out.trans (HBk.out.mono HB1.out.size))) k hkl
                obtain ⟨y0, _⟩ := six_of ((HBk.out.block g7 hlt7).trans HR7.out)
                dsimp only at y0
                generalize l[k] = f at *
                obtain ⟨fs, fl, fd, fk, fa, fr⟩ := f
                dsimp only at *
                generalize goneB (l.take k) b es = gk at *
                cases gk
                · by_cases f5 : fk = 5
                  · subst f5
                    by_cases f6 : fs ≤ b
                    · have t6 : decide (fs ≤ b) = true := decide_eq_true f6
                      by_cases f7 : fr = es
                      · subst f7
                        go_upto_region 11 with (fail)
                        go_quiet (fail)
                        go_wp2
                        go_roundw
                        case rel => exact ⟨k + 1, by omega, by go_num, by rw [HG2.out]; simp [f6], below_drewN HBk _⟩
                        case measure => simp [intOf]; omega
                      · have t7 : (fr == es) = false := by simpa using f7
                        go_upto_region 11 with (fail)
                        go_quiet (fail)
                        go_wp2
                        go_roundw
                        case rel => exact ⟨k + 1, by omega, by go_num, by rw [HG2.out]; simp [f7], below_drewN HBk _⟩
                        case measure => simp [intOf]; omega
                    · have t6 : decide (fs ≤ b) = false := decide_eq_false f6
                      go_upto_region 11 with (fail)
                      go_quiet (fail)
                      go_wp2
                      go_roundw
                      case rel => exact ⟨k + 1, by omega, by go_num, by rw [HG2.out]; simp [f6], below_drewN HBk _⟩
                      case measure => simp [intOf]; omega
                  · have t5 : (fk == 5) = false := by simpa using f5
                    go_upto_region 11 with (fail)
                    go_quiet (fail)
                    go_wp2
                    go_roundw
                    case rel => exact ⟨k + 1, by omega, by go_num, by rw [HG2.out]; simp [f5], below_drewN HBk _⟩
                    case measure => simp [intOf]; omega
                · go_upto_region 11 with (fail)
                  go_quiet (fail)
                  go_wp2
                  go_roundw
                  case rel => exact ⟨k + 1, by omega, by go_num, by rw [HG2.out]; simp, below_drewN HBk _⟩
                  case measure => simp [intOf]; omega
              · obtain rfl : k = m := by omega
                have hg : goneB (l.take k) b es = goneB l b es := by rw [List.take_of_length_le (by have := HL.out; omega)]
                have HG := Lib.hid hg
                clear hg
                go_wp2_with fail
                go_meet
                exact ⟨by rw [HG.out], HBk⟩
          case rest =>
            obtain ⟨rfl, HBk⟩ := hcut
            obtain ⟨w2, rfl⟩ : ∃ x, x = wc := ⟨_, rfl⟩
            have HB2 := Lib.hid (HB1.out.trans (HBk.out.mono HB1.out.size))
            have HR2 := Lib.hid ((HBk.out.block g7 hlt7).trans HR7.out)
            have HO2 := Lib.hid (ownE_keep HO1.out fun g hg => HBk.out.block g (ownE_block HO1.out hg).1)
            have hlt2 : g7 < w2.heap.size := by have := HBk.out.size; omega
            clear y0 y1 y2 y3 y4 y5 HBk HR7 HB1 HO1 hlt7
            obtain ⟨gn, hgn⟩ : ∃ gn, gn = goneB l b es := ⟨_, rfl⟩
            rw [← hgn]
            have HGN := Lib.hid hgn
            clear hgn
            cases gn
            · have HST2 : Hid (outTo l b (i + 1) = insE ⟨es, el, ed, ek, ea, er⟩ (outTo l b i)) := Lib.hid (by rw [HST.out, if_pos]; rw [HKB.out, ← HGN.out, decide_eq_true (by omega), decide_eq_true h5]; rfl)
              obtain ⟨o, ho⟩ : ∃ o, o = outTo l b i := ⟨_, rfl⟩
              have hol : o.length ≤ 100000 := by rw [ho]; have := outTo_len l b i; have := HL.out; omega
              rw [← ho] at HST2 HO2
              clear ho HST
              obtain ⟨Ao, co, rfl⟩ := own_slice HO2.out
              have HIL := Lib.hid fun k => insTo_len ⟨es, el, ed, ek, ea, er⟩ o k
              go_upto_block 4 with (fail)
              go_cut [10, 11, 12] from 68 to 113 (fun v10 v11 _ wx => v11 = .bool (o.any (evLt ⟨es, el, ed, ek, ea, er⟩)) ∧ Hid (wx.ownsRow w2.heap.size 39 6 v10 (insTo ⟨es, el, ed, ek, ea, er⟩ o o.length).length (flatE (insTo ⟨es, el, ed, ek, ea, er⟩ o o.length))) ∧ Hid (Below w2.heap.size w2 wx))
              case first =>
                have HN2 := Lib.hid (World.ownsRow_nil w2 w2.heap.size 39 6)
                go_wp2
                go_loopw [68, 10, 11] (fun t v10 v11 wr => ∃ k : Nat, k ≤ o.length ∧ t = .int .i64 k ∧ v11 = .bool ((o.take k).any (evLt ⟨es, el, ed, ek, ea, er⟩)) ∧ Hid (wr.ownsRow w2.heap.size 39 6 v10 (insTo ⟨es, el, ed, ek, ea, er⟩ o k).length (flatE (insTo ⟨es, el, ed, ek, ea, er⟩ o k))) ∧ Hid (Below w2.heap.size w2 wr)) (fun t _ _ _ => o.length - (intOf t).toNat)
                case atStart => exact ⟨0, Nat.zero_le _, rfl, rfl, HN2, Lib.hid (Below.refl _ _)⟩
                case round =>
                  clear HN2
                  obtain ⟨k, hk, rfl, rfl, HOk, HBk⟩ := hrel
                  obtain ⟨wk, rfl⟩ : ∃ x, x = wr := ⟨_, rfl⟩
                  obtain ⟨va, rfl⟩ : ∃ x, x = u10 := ⟨_, rfl⟩
                  have hkl2 := HIL.out k
                  by_cases hko : k < o.length
                  · have HAN := Lib.hid (any_snoc ⟨es, el, ed, ek, ea, er⟩ o k hko)
                    have HOF0 := Lib.hid (ownE_keep HO2.out fun g hg => HBk.out.block g (ownE_block HO2.out hg).1)
                    obtain ⟨bo, oo, rfl, _⟩ := (Rd.of_own HOF0.out).ev.2 (by omega)
                    obtain ⟨z0, z1, z2, z3, z4, z5⟩ := ev_six (Rd.of_own HOF0.out).ev k hko
                    obtain ⟨y0, y1, y2, y3, y4, y5⟩ := six_of ((HBk.out.block g7 hlt2).trans HR2.out)
                    have HIN := Lib.hid (fun h => @insTo_in ⟨es, el, ed, ek, ea, er⟩ o k hko h)
                    have HNW := Lib.hid (fun h h' => @insTo_now ⟨es, el, ed, ek, ea, er⟩ o k hko h h')
                    have HNT := Lib.hid (fun h h' => @insTo_not ⟨es, el, ed, ek, ea, er⟩ o k hko h h')
                    obtain ⟨f, hf⟩ : ∃ f, f = o[k] := ⟨_, rfl⟩
                    rw [← hf] at HAN z0 z1 z2 z3 z4 z5 HIN HNW HNT
                    have HF := Lib.hid hf.symm
                    clear hf
                    obtain ⟨fs, fl, fd, fk, fa, fr⟩ := f
                    dsimp only at y0 y1 y2 y3 y4 y5 z0 z1 z2 z3 z4 z5
                    generalize hik : (o.take k).any (evLt ⟨es, el, ed, ek, ea, er⟩) = ik at *
                    clear hik
                    have HLT : Hid (evLt ⟨es, el, ed, ek, ea, er⟩ ⟨fs, fl, fd, fk, fa, fr⟩ = decide (ed < fd ∨ ed = fd ∧ es < fs)) := Lib.hid rfl
                    cases ik
                    · by_cases h6 : ed < fd
                      · have t6 : decide (ed < fd) = true := decide_eq_true h6
                        have HLt : Hid (evLt ⟨es, el, ed, ek, ea, er⟩ ⟨fs, fl, fd, fk, fa, fr⟩ = true) := Lib.hid (by rw [HLT.out]; simp [h6])
                        have HNOW := Lib.hid (HNW.out rfl HLt.out)
                        go_upto_region 19 with (fail)
                        go_quiet (fail)
                        clear y0 y1 y2 y3 y4 y5 z0 z1 z2 z3 z4 z5
                        go_upto_region 20 with (fail)
                        refine wp_at (fun wx => Below wk.heap.size wk wx) (by first | exact below_drewN (Below.refl _ _) _ | exact (Below.refl _ _).drew | exact Below.refl _ _) ?_
                        rintro w3 hb3
                        have HB4 := Lib.hid (HBk.out.trans (hb3.mono HBk.out.size))
                        have HO4 := Lib.hid (ownE_keep HOk.out fun g hg => hb3.block g (ownE_block HOk.out hg).1)
                        have hb23 : Below w2.heap.size w2 w3 := HB4.out
                        have HOF := Lib.hid (ownE_keep HO2.out fun g hg => hb23.block g (ownE_block HO2.out hg).1)
                        obtain ⟨z0, z1, z2, z3, z4, z5⟩ := ev_six (Rd.of_own HOF.out).ev k hko
                        rw [HF.out] at z0 z1 z2 z3 z4 z5
                        obtain ⟨y0, y1, y2, y3, y4, y5⟩ := six_of ((hb23.block g7 hlt2).trans HR2.out)
                        dsimp only at y0 y1 y2 y3 y4 y5 z0 z1 z2 z3 z4 z5
                        clear hb3 hb23
                        have HO3 := Lib.hid (World.ownsRow.alloc HO4.out (.cells #[.int .i64 es, .string el, .int .i64 ed, .int .i64 ek, .int .i64 ea, .int .i64 er] 39))
                        have HR3 := Lib.hid (rowEv w3 ⟨es, el, ed, ek, ea, er⟩)
                        have HB3 := Lib.hid (HB4.out.alloc HB4.out.size (.cells #[.int .i64 es, .string el, .int .i64 ed, .int .i64 ek, .int .i64 ea, .int .i64 er] 39))
                        have HBS := HB3.out.size
                        have HL2 : ((insTo ⟨es, el, ed, ek, ea, er⟩ o k).length + 1) * 56 ≤ 140737488355328 := by omega
                        go_upto_region 21 with (first
                          | (refine app_ev rfl _ _ rfl w2.heap.size _ (insTo ⟨es, el, ed, ek, ea, er⟩ o k) rfl HO3.out _ 1 1 [⟨es, el, ed, ek, ea, er⟩] rfl HR3.out HL2 HBS ?_))
                        intro va wb hown hb
                        have HBm := Lib.hid (HB3.out.trans hb)
                        obtain ⟨xs2, hxs2⟩ : ∃ x, x = insTo ⟨es, el, ed, ek, ea, er⟩ o k ++ [⟨es, el, ed, ek, ea, er⟩] := ⟨_, rfl⟩
                        have HOm : Hid (wb.ownsRow w2.heap.size 39 6 va xs2.length (flatE xs2)) := Lib.hid (by rw [hxs2, List.length_append]; exact hown)
                        have hx2 : xs2.length ≤ 100002 := by rw [hxs2, List.length_append, List.length_singleton]; omega
                        rw [← hxs2] at HNOW
                        clear hxs2
                        have HOF2 := Lib.hid (ownE_keep HO2.out fun g hg => HBm.out.block g (ownE_block HO2.out hg).1)
                        obtain ⟨z0, z1, z2, z3, z4, z5⟩ := ev_six (Rd.of_own HOF2.out).ev k hko
                        rw [HF.out] at z0 z1 z2 z3 z4 z5
                        dsimp only at z0 z1 z2 z3 z4 z5
                        clear hown hb HR3 HO3 HB3 HL2 HBS y0 y1 y2 y3 y4 y5
                        have HO3 := Lib.hid (World.ownsRow.alloc HOm.out (.cells #[.int .i64 fs, .string fl, .int .i64 fd, .int .i64 fk, .int .i64 fa, .int .i64 fr] 39))
                        have HR3 := Lib.hid (rowEv wb ⟨fs, fl, fd, fk, fa, fr⟩)
                        have HB3 := Lib.hid (HBm.out.alloc HBm.out.size (.cells #[.int .i64 fs, .string fl, .int .i64 fd, .int .i64 fk, .int .i64 fa, .int .i64 fr] 39))
                        have HBS := HB3.out.size
                        have HL2 : (xs2.length + 1) * 56 ≤ 140737488355328 := by omega
                        go_wp2_with (first
                          | (refine app_ev rfl _ _ rfl w2.heap.size _ xs2 rfl HO3.out _ 1 1 [⟨fs, fl, fd, fk, fa, fr⟩] rfl HR3.out HL2 HBS ?_))
                        intro v' w' hown hb
                        have HBn := Lib.hid (HB3.out.trans hb)
                        have HOn := Lib.hid hown
                        clear hown hb HR3 HO3 HB3
                        go_wp2
                        go_roundw
                        case rel => exact ⟨k + 1, by omega, by go_num, by rw [HAN.out]; simp [HLt.out], Lib.hid (by rw [HNOW.out, List.length_append]; exact HOn.out), HBn⟩
                        case measure => simp [intOf]; omega
                      · have t6 : decide (ed < fd) = false := decide_eq_false h6
                        by_cases h7 : ed = fd
                        · subst h7
                          by_cases h8 : es < fs
                          · have t8 : decide (es < fs) = true := decide_eq_true h8
                            have HLt : Hid (evLt ⟨es, el, ed, ek, ea, er⟩ ⟨fs, fl, ed, fk, fa, fr⟩ = true) := Lib.hid (by rw [HLT.out]; simp [h8])
                            have HNOW := Lib.hid (HNW.out rfl HLt.out)
                            go_upto_region 19 with (fail)
                            go_quiet (fail)
                            clear y0 y1 y2 y3 y4 y5 z0 z1 z2 z3 z4 z5
                            go_upto_region 20 with (fail)
                            refine wp_at (fun wx => Below wk.heap.size wk wx) (by first | exact below_drewN (Below.refl _ _) _ | exact (Below.refl _ _).drew | exact Below.refl _ _) ?_
                            rintro w3 hb3
                            have HB4 := Lib.hid (HBk.out.trans (hb3.mono HBk.out.size))
                            have HO4 := Lib.hid (ownE_keep HOk.out fun g hg => hb3.block g (ownE_block HOk.out hg).1)
                            have hb23 : Below w2.heap.size w2 w3 := HB4.out
                            have HOF := Lib.hid (ownE_keep HO2.out fun g hg => hb23.block g (ownE_block HO2.out hg).1)
                            obtain ⟨z0, z1, z2, z3, z4, z5⟩ := ev_six (Rd.of_own HOF.out).ev k hko
                            rw [HF.out] at z0 z1 z2 z3 z4 z5
                            obtain ⟨y0, y1, y2, y3, y4, y5⟩ := six_of ((hb23.block g7 hlt2).trans HR2.out)
                            dsimp only at y0 y1 y2 y3 y4 y5 z0 z1 z2 z3 z4 z5
                            clear hb3 hb23
                            have HO3 := Lib.hid (World.ownsRow.alloc HO4.out (.cells #[.int .i64 es, .string el, .int .i64 ed, .int .i64 ek, .int .i64 ea, .int .i64 er] 39))
                            have HR3 := Lib.hid (rowEv w3 ⟨es, el, ed, ek, ea, er⟩)
                            have HB3 := Lib.hid (HB4.out.alloc HB4.out.size (.cells #[.int .i64 es, .string el, .int .i64 ed, .int .i64 ek, .int .i64 ea, .int .i64 er] 39))
                            have HBS := HB3.out.size
                            have HL2 : ((insTo ⟨es, el, ed, ek, ea, er⟩ o k).length + 1) * 56 ≤ 140737488355328 := by omega
                            go_upto_region 21 with (first
                              | (refine app_ev rfl _ _ rfl w2.heap.size _ (insTo ⟨es, el, ed, ek, ea, er⟩ o k) rfl HO3.out _ 1 1 [⟨es, el, ed, ek, ea, er⟩] rfl HR3.out HL2 HBS ?_))
                            intro va wb hown hb
                            have HBm := Lib.hid (HB3.out.trans hb)
                            obtain ⟨xs2, hxs2⟩ : ∃ x, x = insTo ⟨es, el, ed, ek, ea, er⟩ o k ++ [⟨es, el, ed, ek, ea, er⟩] := ⟨_, rfl⟩
                            have HOm : Hid (wb.ownsRow w2.heap.size 39 6 va xs2.length (flatE xs2)) := Lib.hid (by rw [hxs2, List.length_append]; exact hown)
                            have hx2 : xs2.length ≤ 100002 := by rw [hxs2, List.length_append, List.length_singleton]; omega
                            rw [← hxs2] at HNOW
                            clear hxs2
                            have HOF2 := Lib.hid (ownE_keep HO2.out fun g hg => HBm.out.block g (ownE_block HO2.out hg).1)
                            obtain ⟨z0, z1, z2, z3, z4, z5⟩ := ev_six (Rd.of_own HOF2.out).ev k hko
                            rw [HF.out] at z0 z1 z2 z3 z4 z5
                            dsimp only at z0 z1 z2 z3 z4 z5
                            clear hown hb HR3 HO3 HB3 HL2 HBS y0 y1 y2 y3 y4 y5
                            have HO3 := Lib.hid (World.ownsRow.alloc HOm.out (.cells #[.int .i64 fs, .string fl, .int .i64 ed, .int .i64 fk, .int .i64 fa, .int .i64 fr] 39))
                            have HR3 := Lib.hid (rowEv wb ⟨fs, fl, ed, fk, fa, fr⟩)
                            have HB3 := Lib.hid (HBm.out.alloc HBm.out.size (.cells #[.int .i64 fs, .string fl, .int .i64 ed, .int .i64 fk, .int .i64 fa, .int .i64 fr] 39))
                            have HBS := HB3.out.size
                            have HL2 : (xs2.length + 1) * 56 ≤ 140737488355328 := by omega
                            go_wp2_with (first
                              | (refine app_ev rfl _ _ rfl w2.heap.size _ xs2 rfl HO3.out _ 1 1 [⟨fs, fl, ed, fk, fa, fr⟩] rfl HR3.out HL2 HBS ?_))
                            intro v' w' hown hb
                            have HBn := Lib.hid (HB3.out.trans hb)
                            have HOn := Lib.hid hown
                            clear hown hb HR3 HO3 HB3
                            go_wp2
                            go_roundw
                            case rel => exact ⟨k + 1, by omega, by go_num, by rw [HAN.out]; simp [HLt.out], Lib.hid (by rw [HNOW.out, List.length_append]; exact HOn.out), HBn⟩
                            case measure => simp [intOf]; omega
                          · have t8 : decide (es < fs) = false := decide_eq_false h8
                            have HLt : Hid (evLt ⟨es, el, ed, ek, ea, er⟩ ⟨fs, fl, ed, fk, fa, fr⟩ = false) := Lib.hid (by rw [HLT.out]; simp [h8])
                            have HNO := Lib.hid (HNT.out rfl HLt.out)
                            go_upto_region 19 with (fail)
                            go_quiet (fail)
                            clear y0 y1 y2 y3 y4 y5 z0 z1 z2 z3 z4 z5
                            go_upto_region 22 with (fail)
                            refine wp_at (fun wx => Below wk.heap.size wk wx) (by first | exact below_drewN (Below.refl _ _) _ | exact (Below.refl _ _).drew | exact Below.refl _ _) ?_
                            rintro w3 hb3
                            have HB4 := Lib.hid (HBk.out.trans (hb3.mono HBk.out.size))
                            have HO4 := Lib.hid (ownE_keep HOk.out fun g hg => hb3.block g (ownE_block HOk.out hg).1)
                            have hb23 : Below w2.heap.size w2 w3 := HB4.out
                            have HOF := Lib.hid (ownE_keep HO2.out fun g hg => hb23.block g (ownE_block HO2.out hg).1)
                            obtain ⟨z0, z1, z2, z3, z4, z5⟩ := ev_six (Rd.of_own HOF.out).ev k hko
                            rw [HF.out] at z0 z1 z2 z3 z4 z5
                            obtain ⟨y0, y1, y2, y3, y4, y5⟩ := six_of ((hb23.block g7 hlt2).trans HR2.out)
                            dsimp only at y0 y1 y2 y3 y4 y5 z0 z1 z2 z3 z4 z5
                            clear hb3 hb23
                            have HO3 := Lib.hid (World.ownsRow.alloc HO4.out (.cells #[.int .i64 fs, .string fl, .int .i64 ed, .int .i64 fk, .int .i64 fa, .int .i64 fr] 39))
                            have HR3 := Lib.hid (rowEv w3 ⟨fs, fl, ed, fk, fa, fr⟩)
                            have HB3 := Lib.hid (HB4.out.alloc HB4.out.size (.cells #[.int .i64 fs, .string fl, .int .i64 ed, .int .i64 fk, .int .i64 fa, .int .i64 fr] 39))
                            have HBS := HB3.out.size
                            have HL2 : ((insTo ⟨es, el, ed, ek, ea, er⟩ o k).length + 1) * 56 ≤ 140737488355328 := by omega
                            go_wp2_with (first
                              | (refine app_ev rfl _ _ rfl w2.heap.size _ (insTo ⟨es, el, ed, ek, ea, er⟩ o k) rfl HO3.out _ 1 1 [⟨fs, fl, ed, fk, fa, fr⟩] rfl HR3.out HL2 HBS ?_))
                            intro v' w' hown hb
                            have HBn := Lib.hid (HB3.out.trans hb)
                            have HOn := Lib.hid hown
                            clear hown hb HR3 HO3 HB3
                            go_wp2
                            go_roundw
                            case rel => exact ⟨k + 1, by omega, by go_num, by rw [HAN.out]; simp [HLt.out], Lib.hid (by rw [HNO.out, List.length_append]; exact HOn.out), HBn⟩
                            case measure => simp [intOf]; omega
                        · have t7 : (ed == fd) = false := by simpa using h7
                          have HLt : Hid (evLt ⟨es, el, ed, ek, ea, er⟩ ⟨fs, fl, fd, fk, fa, fr⟩ = false) := Lib.hid (by rw [HLT.out]; simp [h6, h7])
                          have HNO := Lib.hid (HNT.out rfl HLt.out)
                          go_upto_region 19 with (fail)
                          go_quiet (fail)
                          clear y0 y1 y2 y3 y4 y5 z0 z1 z2 z3 z4 z5
                          go_upto_region 22 with (fail)
                          refine wp_at (fun wx => Below wk.heap.size wk wx) (by first | exact below_drewN (Below.refl _ _) _ | exact (Below.refl _ _).drew | exact Below.refl _ _) ?_
                          rintro w3 hb3
                          have HB4 := Lib.hid (HBk.out.trans (hb3.mono HBk.out.size))
                          have HO4 := Lib.hid (ownE_keep HOk.out fun g hg => hb3.block g (ownE_block HOk.out hg).1)
                          have hb23 : Below w2.heap.size w2 w3 := HB4.out
                          have HOF := Lib.hid (ownE_keep HO2.out fun g hg => hb23.block g (ownE_block HO2.out hg).1)
                          obtain ⟨z0, z1, z2, z3, z4, z5⟩ := ev_six (Rd.of_own HOF.out).ev k hko
                          rw [HF.out] at z0 z1 z2 z3 z4 z5
                          obtain ⟨y0, y1, y2, y3, y4, y5⟩ := six_of ((hb23.block g7 hlt2).trans HR2.out)
                          dsimp only at y0 y1 y2 y3 y4 y5 z0 z1 z2 z3 z4 z5
                          clear hb3 hb23
                          have HO3 := Lib.hid (World.ownsRow.alloc HO4.out (.cells #[.int .i64 fs, .string fl, .int .i64 fd, .int .i64 fk, .int .i64 fa, .int .i64 fr] 39))
                          have HR3 := Lib.hid (rowEv w3 ⟨fs, fl, fd, fk, fa, fr⟩)
                          have HB3 := Lib.hid (HB4.out.alloc HB4.out.size (.cells #[.int .i64 fs, .string fl, .int .i64 fd, .int .i64 fk, .int .i64 fa, .int .i64 fr] 39))
                          have HBS := HB3.out.size
                          have HL2 : ((insTo ⟨es, el, ed, ek, ea, er⟩ o k).length + 1) * 56 ≤ 140737488355328 := by omega
                          go_wp2_with (first
                            | (refine app_ev rfl _ _ rfl w2.heap.size _ (insTo ⟨es, el, ed, ek, ea, er⟩ o k) rfl HO3.out _ 1 1 [⟨fs, fl, fd, fk, fa, fr⟩] rfl HR3.out HL2 HBS ?_))
                          intro v' w' hown hb
                          have HBn := Lib.hid (HB3.out.trans hb)
                          have HOn := Lib.hid hown
                          clear hown hb HR3 HO3 HB3
                          go_wp2
                          go_roundw
                          case rel => exact ⟨k + 1, by omega, by go_num, by rw [HAN.out]; simp [HLt.out], Lib.hid (by rw [HNO.out, List.length_append]; exact HOn.out), HBn⟩
                          case measure => simp [intOf]; omega
                    · have HNO := Lib.hid (HIN.out rfl)
                      go_upto_region 19 with (fail)
                      go_quiet (fail)
                      clear y0 y1 y2 y3 y4 y5 z0 z1 z2 z3 z4 z5
                      go_upto_region 22 with (fail)
                      refine wp_at (fun wx => Below wk.heap.size wk wx) (by first | exact below_drewN (Below.refl _ _) _ | exact (Below.refl _ _).drew | exact Below.refl _ _) ?_
                      rintro w3 hb3
                      have HB4 := Lib.hid (HBk.out.trans (hb3.mono HBk.out.size))
                      have HO4 := Lib.hid (ownE_keep HOk.out fun g hg => hb3.block g (ownE_block HOk.out hg).1)
                      have hb23 : Below w2.heap.size w2 w3 := HB4.out
                      have HOF := Lib.hid (ownE_keep HO2.out fun g hg => hb23.block g (ownE_block HO2.out hg).1)
                      obtain ⟨z0, z1, z2, z3, z4, z5⟩ := ev_six (Rd.of_own HOF.out).ev k hko
                      rw [HF.out] at z0 z1 z2 z3 z4 z5
                      obtain ⟨y0, y1, y2, y3, y4, y5⟩ := six_of ((hb23.block g7 hlt2).trans HR2.out)
                      dsimp only at y0 y1 y2 y3 y4 y5 z0 z1 z2 z3 z4 z5
                      clear hb3 hb23
                      have HO3 := Lib.hid (World.ownsRow.alloc HO4.out (.cells #[.int .i64 fs, .string fl, .int .i64 fd, .int .i64 fk, .int .i64 fa, .int .i64 fr] 39))
                      have HR3 := Lib.hid (rowEv w3 ⟨fs, fl, fd, fk, fa, fr⟩)
                      have HB3 := Lib.hid (HB4.out.alloc HB4.out.size (.cells #[.int .i64 fs, .string fl, .int .i64 fd, .int .i64 fk, .int .i64 fa, .int .i64 fr] 39))
                      have HBS := HB3.out.size
                      have HL2 : ((insTo ⟨es, el, ed, ek, ea, er⟩ o k).length + 1) * 56 ≤ 140737488355328 := by omega
                      go_wp2_with (first
                        | (refine app_ev rfl _ _ rfl w2.heap.size _ (insTo ⟨es, el, ed, ek, ea, er⟩ o k) rfl HO3.out _ 1 1 [⟨fs, fl, fd, fk, fa, fr⟩] rfl HR3.out HL2 HBS ?_))
                      intro v' w' hown hb
                      have HBn := Lib.hid (HB3.out.trans hb)
                      have HOn := Lib.hid hown
                      clear hown hb HR3 HO3 HB3
                      go_wp2
                      go_roundw
                      case rel => exact ⟨k + 1, by omega, by go_num, by rw [HAN.out]; simp, Lib.hid (by rw [HNO.out, List.length_append]; exact HOn.out), HBn⟩
                      case measure => simp [intOf]; omega
                  · obtain rfl : k = o.length := by omega
                    have ha : (o.take o.length).any (evLt ⟨es, el, ed, ek, ea, er⟩) = o.any (evLt ⟨es, el, ed, ek, ea, er⟩) := by rw [List.take_length]
                    have HA := Lib.hid ha
                    clear ha
                    go_wp2_with fail
                    go_meet
                    exact ⟨by rw [HA.out], HOk, HBk⟩
              case rest =>
                obtain ⟨rfl, HO5, HB5⟩ := hcut
                obtain ⟨w5, rfl⟩ : ∃ x, x = wc := ⟨_, rfl⟩
                obtain ⟨va, rfl⟩ : ∃ x, x = u10 := ⟨_, rfl⟩
                obtain ⟨y0, y1, y2, y3, y4, y5⟩ := six_of ((HB5.out.block g7 hlt2).trans HR2.out)
                dsimp only at y0 y1 y2 y3 y4 y5
                have hil2 := HIL.out o.length
                have HE2 := Lib.hid (insTo_end ⟨es, el, ed, ek, ea, er⟩ o)
                have HB6 := Lib.hid (HB2.out.trans (HB5.out.mono HB2.out.size))
                generalize o.any (evLt ⟨es, el, ed, ek, ea, er⟩) = gn at *
                cases gn
                · have HS3 : Hid (outTo l b (i + 1) = insTo ⟨es, el, ed, ek, ea, er⟩ o o.length ++ [⟨es, el, ed, ek, ea, er⟩]) := Lib.hid (by rw [HST2.out, HE2.out]; simp)
                  have HO3 := Lib.hid (World.ownsRow.alloc HO5.out (.cells #[.int .i64 es, .string el, .int .i64 ed, .int .i64 ek, .int .i64 ea, .int .i64 er] 39))
                  have HR3 := Lib.hid (rowEv w5 ⟨es, el, ed, ek, ea, er⟩)
                  have HB3 := Lib.hid (HB5.out.alloc HB5.out.size (.cells #[.int .i64 es, .string el, .int .i64 ed, .int .i64 ek, .int .i64 ea, .int .i64 er] 39))
                  have HBS := HB3.out.size
                  have HL2 : ((insTo ⟨es, el, ed, ek, ea, er⟩ o o.length).length + 1) * 56 ≤ 140737488355328 := by omega
                  go_wp2_with (first
                    | (refine app_ev rfl _ _ rfl w2.heap.size _ (insTo ⟨es, el, ed, ek, ea, er⟩ o o.length) rfl HO3.out _ 1 1 [⟨es, el, ed, ek, ea, er⟩] rfl HR3.out HL2 HBS ?_))
                  intro v' w' hown hb
                  have HBn := Lib.hid (HB2.out.trans ((HB3.out.trans hb).mono HB2.out.size))
                  have HOn := Lib.hid (ownsRow_base hown HB2.out.size)
                  clear hown hb HR3 HO3 HB3
                  go_wp2
                  go_roundw
                  case rel => exact ⟨i + 1, by omega, by go_num, Lib.hid (by rw [HS3.out, List.length_append]; exact HOn.out), HBn⟩
                  case measure => simp [intOf]; omega
                · have HS3 : Hid (outTo l b (i + 1) = insTo ⟨es, el, ed, ek, ea, er⟩ o o.length) := Lib.hid (by rw [HST2.out, HE2.out]; simp)
                  have HOn := Lib.hid (ownsRow_base HO5.out HB2.out.size)
                  go_wp2_with fail
                  go_roundw
                  case rel => exact ⟨i + 1, by omega, by go_num, Lib.hid (by rw [HS3.out]; exact HOn.out), HB6⟩
                  case measure => simp [intOf]; omega
            · have hn : Hid (outTo l b (i + 1) = outTo l b i) := Lib.hid (by rw [HST.out, if_neg]; rw [HKB.out, ← HGN.out]; simp)
              go_wp2_with fail
              go_roundw
              case rel => exact ⟨i + 1, by omega, by go_num, Lib.hid (by rw [hn.out]; exact HO2.out), HB2⟩
              case measure => simp [intOf]; omega
    · obtain rfl : i = m := by omega
      have HO2 := Lib.hid HO.out
      rw [HEND.out] at HO2
      clear HO HEND
      go_wp2_with fail
      go_ret
      exact ⟨_, rfl, HO2.out, HB.out⟩
end Go.Proofs.YtcbopgopegphlaaGreat
