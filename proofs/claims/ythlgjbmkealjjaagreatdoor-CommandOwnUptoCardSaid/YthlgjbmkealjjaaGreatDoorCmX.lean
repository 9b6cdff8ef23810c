/-
  The reference's Parse. No statement is proved here.
-/
import Derived.Deep.CutBlock
import Derived.Deep.CutRange
import Derived.Test.YthlgjbmkealjjaaGreatDoorAmXB
import Derived.Test.YthlgjbmkealjjaaGreatDoorCmVV
namespace Go.Proofs.YthlgjbmkealjjaaGreatDoor
open Go.RowKit
set_option linter.unusedVariables false
theorem results_cellT {P : Program} {fn : Func} {p q : Tmp} {ty : TypeId} (h : fn.results = #[.cell p ty, .tmp q]) (tmps : Array Value) (w : World) (g : Nat) (t : TypeId) (cs : Array Value) (x : Value) (fr : Nat × Nat) (d : TypeDesc)
    (hp : tmps.getD p undef = .pointer (some ⟨g, 0, none⟩)) (hg : w.heap[g]? = some (.cells cs t fr))
    (hu : P.underlying ty = some d) (hd : (match d with | .struct _ | .array _ _ => true | _ => false) = true) (hi : (P.info? ty).map (·.size) = some cs.size)
    (hx : tmps.getD q undef = x) :
    (results fn tmps).run P w = .ok (.tuple #[.agg cs, x]) w := by
  have hp' : tmps[p]?.getD undef = .pointer (some ⟨g, 0, none⟩) := by simpa using hp
  have hx' : tmps[q]?.getD undef = x := by simpa using hx
  simp [results, h, hp', hx', asAddr, run_loadVar_row w g t ty cs fr d hg hu hd hi]
/-- What Parse answers of a line. -/
def RefAns (l : List UInt8) (w : World) (e : Ending) (w' : World) : Prop := Below w.heap.size w w' ∧ ∃ v, e = .returned (.tuple #[.agg (cmCells (parseAns l).1 v), .int .i64 (parseAns l).2]) ∧ w'.ownsRow w.heap.size 2 1 v (parseAns l).1.args.length ((parseAns l).1.args.map (Value.int .i64))
theorem zeroed_below {w W : World} (h : Below w.heap.size w W) : Below w.heap.size w (zeroed W w.heap.size) := by
  unfold zeroed
  exact Below.setCell (p := ⟨w.heap.size, 3, none⟩) (Below.setCell (p := ⟨w.heap.size, 2, none⟩) (Below.setCell (p := ⟨w.heap.size, 1, none⟩) (Below.setCell (p := ⟨w.heap.size, 0, none⟩) h (Nat.le_refl _) _) (Nat.le_refl _) _) (Nat.le_refl _) _) (Nat.le_refl _) _
/-- Refused: the zero command, the error's number. -/
theorem ref_refused {l : List UInt8} {w W : World} {a : Act} {er : Int} (hb : Below w.heap.size w W) (h0 : W.heap[w.heap.size]? = some (.cells (cmCells noneC (.slice none 0 0)) 25 (0, 0))) (ha : parseAns l = (noneC, er))
    (hd : a.defers = []) (hp : a.tmps.getD 2 undef = .pointer (some ⟨w.heap.size, 0, none⟩)) (hx : a.tmps.getD 3 undef = .int .i64 er) : bodyPost Tryz.prog Tryz.f9 (RefAns l w) .ret a W := by
  refine bodyPost_ret (results_cellT (fn := Tryz.f9) rfl _ _ w.heap.size 25 (cmCells noneC (.slice none 0 0)) (.int .i64 er) (0, 0) _ hp h0 Tryz.underlying25 rfl infoCm hx) hd ⟨hb, ?_⟩
  rw [ha]
  exact ⟨.slice none 0 0, rfl, rfl, .inl ⟨rfl, rfl⟩⟩
theorem elemSizeS (W : World) : (sizeOf (Tryz.prog.elem 52)).run Tryz.prog W = .ok 1 W := by kernel_rfl
theorem elemUndS : Tryz.prog.underlying 52 = some (.slice (Tryz.prog.elem 52)) := by kernel_rfl
theorem cut_str {w : World} {A : Option Addr} {n : Nat} {x : List UInt8} {xs : List (List UInt8)} (h : Rd w 1 A n ((x :: xs).map stv)) (c : Nat) (hc : n ≤ c) :
    ∃ A', (∀ W, (Instr.slice 52 (.slice A n c) (some (.int .i64 1)) none none).run Tryz.prog W = .ok (.slice A' (n - 1) (c - 1)) W) ∧ Rd w 1 A' (n - 1) (xs.map stv) := by
  have hl : xs.length + 1 = n := by simpa using h.1
  have hr := h.cut (i := 1) (by omega) (Nat.le_refl n) hc
  rw [List.take_of_length_le (by simp; omega)] at hr
  refine ⟨_, fun W => ?_, by simpa using hr⟩
  have := run_slice_l (P := Tryz.prog) W 52 A n c elemUndS .i64 1 (by omega) (by omega)
  rw [this, elemSizeS]
  simp [Result.andThen, sliced]
theorem kch_ne (k : Kd) : kch k ≠ 63 ∧ kch k ≠ 42 := by cases k <;> decide
theorem codes_ne (f : List Kd) : f.map kch ≠ [63] ∧ f.map kch ≠ [110, 42] := by
  constructor
  · intro h
    cases f with
    | nil => simp at h
    | cons k f => simp at h; exact (kch_ne k).1 h.1
  · intro h
    cases f with
    | nil => simp at h
    | cons k f =>
      cases f with
      | nil => simp at h
      | cons k2 f => simp at h; exact (kch_ne k2).2 h.2.1
/-- The three ways of a first word. -/
theorem code_cases (op : List UInt8) : (op = prodB ∧ codeOf op = [110, 42]) ∨ (op ≠ prodB ∧ formTab op = none ∧ codeOf op = [63]) ∨ (op ≠ prodB ∧ ∃ f, formTab op = some f ∧ codeOf op = f.map kch) := by
  unfold codeOf
  by_cases h : op = prodB
  · exact .inl ⟨h, by rw [if_pos h]⟩
  · rw [if_neg h]
    cases hf : formTab op with
    | none => exact .inr (.inl ⟨h, rfl, rfl⟩)
    | some f => exact .inr (.inr ⟨h, f, rfl, rfl⟩)
theorem cellsZ {W : World} {g : Nat} (h : W.heap[g]? = some (.cells (cmCells noneC (.slice none 0 0)) 25 (0, 0))) : W.cell? ⟨g, 0, none⟩ = some (.string ⟨#[]⟩) ∧ W.cell? ⟨g, 1, none⟩ = some (.string ⟨#[]⟩) ∧ W.cell? ⟨g, 2, none⟩ = some (.slice none 0 0) ∧ W.cell? ⟨g, 3, none⟩ = some (.string ⟨#[]⟩) ∧ W.frozen? ⟨g, 0, none⟩ = false ∧ W.frozen? ⟨g, 1, none⟩ = false ∧ W.frozen? ⟨g, 2, none⟩ = false ∧ W.frozen? ⟨g, 3, none⟩ = false := cells4 h
theorem bs_get (F : ByteArray) (l : List UInt8) (h : F = bs l) (i : Nat) (hi : i < F.size) : F[i]'hi = l[i]'(by rw [h, bs_size] at hi; exact hi) := by
  subst h
  rfl
theorem all_ite {α : Type} {c : Prop} [Decidable c] {a b : Option α} {p : α → Bool} (ha : a.all p = true) (hb : b.all p = true) : (if c then a else b).all p = true := by split <;> assumption
theorem formTab_len {op : List UInt8} {f : List Kd} (h : formTab op = some f) : f.length ≤ 3 := by
  have h2 : (formTab op).all (fun f => decide (f.length ≤ 3)) = true := by
    unfold formTab
    repeat (refine all_ite rfl ?_)
    rfl
  rw [h] at h2
  exact of_decide_eq_true h2
theorem parse_none {op : List UInt8} {r : List (List UInt8)} (h : formOf op ((r.length : Int) - 1) = none) : parseW (op :: r) = (noneC, 7) := by simp only [parseW, h]
theorem parse_some {op : List UInt8} {r : List (List UInt8)} {f : List Kd} (h : formOf op ((r.length : Int) - 1) = some f) : parseW (op :: r) = if f.length ≠ r.length then (noneC, 7) else endW (runW op (f.zip r)) := by simp only [parseW, h]
/-- Answered: the command. -/
theorem ref_done {l : List UInt8} {w W : World} {a : Act} {cm : Cm} {v : Value} {Nc : Nat} (hN : w.heap.size < Nc) (hb : Below w.heap.size w W) (hC : CmAt W Nc Nc (fun _ => False) cm v) (h0 : W.heap[w.heap.size]? = some (.cells (cmCells noneC (.slice none 0 0)) 25 (0, 0))) (ha : parseAns l = (cm, 0))
    (hd : a.defers = []) (hp : a.tmps.getD 2 undef = .pointer (some ⟨w.heap.size, 0, none⟩)) (hx : a.tmps.getD 3 undef = .int .i64 0) : bodyPost Tryz.prog Tryz.f9 (RefAns l w) .ret a (given W w.heap.size (.string cm.op) (.string cm.name) v (.string cm.text)) := by
  have hB5 : Below w.heap.size w (given W w.heap.size (.string cm.op) (.string cm.name) v (.string cm.text)) := by
    unfold given
    exact Below.setCell (p := ⟨w.heap.size, 3, none⟩) (Below.setCell (p := ⟨w.heap.size, 2, none⟩) (Below.setCell (p := ⟨w.heap.size, 1, none⟩) (Below.setCell (p := ⟨w.heap.size, 0, none⟩) hb (Nat.le_refl _) _) (Nat.le_refl _) _) (Nat.le_refl _) _) (Nat.le_refl _) _
  refine bodyPost_ret (results_cellT (fn := Tryz.f9) rfl _ _ w.heap.size 25 (cmCells cm v) (.int .i64 0) (0, 0) _ hp (given_at h0) Tryz.underlying25 rfl infoCm hx) hd ⟨hB5, ?_⟩
  rw [ha]
  exact ⟨v, rfl, own_mono (ownE_keep hC.own fun g hk => given_oth (by have := (hC.own.lt g hk).1; omega)) (by omega)⟩
set_option maxRecDepth 100000 in
set_option maxHeartbeats 4000000 in
theorem refParse_any (s : ByteArray) (w : World) :
    Calls Tryz.prog 9 #[.string s] w (RefAns s.data.toList w) := by
  have hl0 : s.data.toList.length = s.size := by simp
  by_cases hl : 400 < s.size
  · have ha : parseAns s.data.toList = (noneC, 3) := by unfold parseAns; rw [if_pos (by omega)]
    have HA := Lib.hid ha
    have hl4 : (400 : Int) < (s.size : Int) := by omega
    clear ha
    go_enter Tryz.func9, Tryz.ntmps9
    go_wp2
    exact ref_refused ((Below.refl _ _).alloc (Nat.le_refl _) _) (heap_alloc_new _ _) HA.out rfl rfl rfl
  · have hl4 : ¬ ((400 : Int) < (s.size : Int)) := by omega
    have ha : parseAns s.data.toList = parseW (wordsOf s.data.toList) := by unfold parseAns; rw [if_neg (by omega)]
    have HA := Lib.hid ha
    have HWL : Hid (∀ x ∈ wordsOf s.data.toList, x.length ≤ 400) := Lib.hid fun x hx => Nat.le_trans (words_mem _ x hx) (by omega)
    have HWN : Hid ((wordsOf s.data.toList).length ≤ 401) := Lib.hid (by
      rw [words_len]
      have := List.count_le_length (a := (32 : UInt8)) (l := s.data.toList)
      omega)
    have HNE := Lib.hid (words_ne s.data.toList)
    clear ha
    go_enter Tryz.func9, Tryz.ntmps9
    go_wp2_with fail
    refine (refWords_any s _ (by omega)).mono ?_
    rintro e w1 ⟨hb1, v1, rfl, ho1⟩
    obtain ⟨ws, hws⟩ : ∃ ws, ws = wordsOf s.data.toList := ⟨_, rfl⟩
    rw [← hws] at HA HWL HWN HNE ho1
    obtain ⟨A, m, c, rfl, hm, hmc, hrd⟩ := ho1.form
    obtain ⟨op, r, rfl⟩ : ∃ op r, ws = op :: r := by
      cases ws with
      | nil => exact absurd rfl HNE.out
      | cons op r => exact ⟨op, r, rfl⟩
    obtain ⟨b, off, rfl, hc0⟩ := Rd.cell (j := 0) (u := .string (bs op)) hrd rfl
    have hm1 : 1 ≤ m := by rw [← hm.out]; simp
    have hm2 : m ≤ 401 := by rw [← hm.out]; exact HWN.out
    rw [Nat.add_zero] at hc0
    have hb1' : Below w.heap.size w w1 := ((Below.refl _ _).alloc (Nat.le_refl _) _).trans (hb1.mono (by simp))
    have g0 : w1.heap[w.heap.size]? = some (.cells (cmCells noneC (.slice none 0 0)) 25 (0, 0)) := (hb1.block _ (by simp)).trans (heap_alloc_new _ _)
    have HG0 := Lib.hid g0
    have HB1 := Lib.hid hb1'
    have HO1 := Lib.hid ho1
    have HRD := Lib.hid hrd
    clear g0 hb1 hb1' ho1 hrd
    go_wp2_with fail
    refine (refForm_any _ _).mono ?_
    rintro e w' ⟨rfl, rfl⟩
    rw [bs_list]
    obtain ⟨A2, hcut, hrd2⟩ := cut_str HRD.out c hmc
    have HRD2 := Lib.hid hrd2
    clear hrd2
    go_upto_region 8 with (fail)
    obtain ⟨W0, hW0⟩ : ∃ W0, W0 = w1.alloc (.cells #[.string (bs op), .string ⟨#[]⟩, .slice none 0 0, .string ⟨#[]⟩] 25) := ⟨_, rfl⟩
    obtain ⟨Nc, hNc⟩ : ∃ Nc, Nc = w1.heap.size := ⟨_, rfl⟩
    have HNc := Lib.hid hNc
    have HR0 : Hid (W0.heap[Nc]? = some (.cells (cmCells ⟨bs op, ⟨#[]⟩, ⟨#[]⟩, []⟩ (.slice none 0 0)) 25 (0, 0))) := Lib.hid (by rw [hW0, hNc]; exact heap_alloc_new _ _)
    have HG1 : Hid (W0.heap[w.heap.size]? = some (.cells (cmCells noneC (.slice none 0 0)) 25 (0, 0))) := Lib.hid (by rw [hW0]; exact heapN_old HG0.out)
    have HB2 : Hid (Below w.heap.size w W0) := Lib.hid (by rw [hW0]; exact HB1.out.alloc HB1.out.size _)
    have HBW : Hid (Below Nc w1 W0) := Lib.hid (by rw [hW0, hNc]; exact (Below.refl _ _).alloc (Nat.le_refl _) _)
    have hNN : w.heap.size < Nc := by rw [hNc]; exact (Array.getElem?_eq_some_iff.1 HG0.out).1
    rw [← hW0, ← hNc]
    clear hW0 hNc hcut HRD HO1 hc0 hws
    obtain ⟨n, hn⟩ : ∃ n, n = m - 1 := ⟨_, rfl⟩
    rw [← hn] at HRD2 ⊢
    have hrl : Hid (r.length = n) := Lib.hid (by rw [hn, ← hm.out]; simp)
    have hn4 : n ≤ 400 := by omega
    obtain ⟨c2, hc2⟩ : ∃ c2, c2 = c - 1 := ⟨_, rfl⟩
    rw [← hc2]
    clear hn hm hm1 hm2 hmc hc2
    have hcc := code_cases op
    generalize codeOf op = C at *
    by_cases hbad : op ≠ prodB ∧ formTab op = none
    · obtain ⟨hop, hft⟩ := hbad
      obtain rfl : C = [63] := by
        rcases hcc with ⟨h, _⟩ | ⟨_, _, h⟩ | ⟨_, f, h, _⟩
        · exact absurd h hop
        · exact h
        · rw [hft] at h; cases h
      have HA2 : Hid (parseAns s.data.toList = (noneC, 7)) := Lib.hid (by rw [HA.out, parse_none (by rw [form_off (fun h => hop h.1), hft])])
      have hz := cellsZ HG1.out
      have hq1 : ((bs [63]).toList == [63]) = true := by decide +kernel
      clear HA hop hft hcc
      go_wp2
      exact ref_refused (zeroed_below HB2.out) (zeroed_at HG1.out) HA2.out rfl rfl rfl
    have hc2 : (op = prodB ∧ C = [110, 42]) ∨ (op ≠ prodB ∧ ∃ f, formTab op = some f ∧ C = f.map kch) := by
      rcases hcc with h | ⟨h1, h2, _⟩ | h
      · exact .inl h
      · exact absurd ⟨h1, h2⟩ hbad
      · exact .inr h
    have hq1 : ((bs C).toList == [63]) = false := by
      rw [ByteArray.toList_eq, bs_list]
      refine beq_eq_false_iff_ne.2 ?_
      rcases hc2 with ⟨_, rfl⟩ | ⟨_, f, _, rfl⟩
      · decide
      · exact (codes_ne f).1
    have HC2 := Lib.hid hc2
    clear hcc hbad hc2
    go_upto_if 36 with (fail)
    go_cut [5, 8] from 36 to 53 (fun t u wx => ∃ f : List Kd, t = .string (bs (f.map kch)) ∧ Hid (formOf op ((r.length : Int) - 1) = some f) ∧ f.length ≤ 16 ∧ wx = W0)
    case first =>
      rcases HC2.out with ⟨hop, hco⟩ | ⟨hop, f, hft, hco⟩
      · subst hco
        clear HC2
        have hq2 : ((bs [110, 42]).toList == [110, 42]) = true := by decide +kernel
        rw [hq2]
        clear hq2
        by_cases hn8 : n < 8 ∨ 16 < n
        · have HA2 : Hid (parseAns s.data.toList = (noneC, 7)) := Lib.hid (by
            rw [HA.out, parse_none]
            unfold formOf
            rw [if_neg (by have := hrl.out; omega), hop]
            decide +kernel)
          have hz := cellsZ HG1.out
          clear HA hop
          rcases hn8 with h8 | h8
          all_goals
            go_wp2
            exact ref_refused (zeroed_below HB2.out) (zeroed_at HG1.out) HA2.out rfl rfl rfl
        · have h8 : 8 ≤ n := by omega
          have h16 : n ≤ 16 := by omega
          have HFO : Hid (formOf op ((r.length : Int) - 1) = some (.n :: List.replicate (n - 1) .i)) := Lib.hid (by
            have := hrl.out
            unfold formOf
            rw [if_pos ⟨hop, by omega, by omega⟩, this]
            congr 3
            omega)
          clear hn8 hop
          go_wp2_with fail
          go_loopw [5, 8] (fun t u wr => ∃ k : Nat, 1 ≤ k ∧ k ≤ n ∧ u = .int .i64 k ∧ t = .string (bs (110 :: List.replicate (k - 1) 105)) ∧ wr = W0) (fun _ u _ => n - (intOf u).toNat)
          case atStart => exact ⟨1, Nat.le_refl _, by omega, rfl, rfl, rfl⟩
          case round =>
            obtain ⟨k, hk1, hk, rfl, rfl, rfl⟩ := hrel
            by_cases h1 : k < n
            · have hbs : (bs (110 :: List.replicate (k - 1) 105)).size ≤ 16 := by rw [bs_size]; simp; omega
              have hap : bs (110 :: List.replicate (k - 1) 105) ++ ⟨#[105]⟩ = bs (110 :: List.replicate (k + 1 - 1) 105) := by
                rw [show k + 1 - 1 = (k - 1) + 1 by omega, List.replicate_succ']
                apply ByteArray.ext
                simp [bs]
              generalize bs (110 :: List.replicate (k - 1) 105) = X at *
              have HAP := Lib.hid hap
              clear hap
              go_wp2
              go_roundw
              case rel => exact ⟨k + 1, by omega, by omega, by go_num, by rw [HAP.out], trivial⟩
              case measure =>
                simp only [intOf]
                omega
            · have hk2 : k = n := by omega
              subst hk2
              go_wp2
              go_meet
              exact ⟨_, by simp [kch], HFO, by simp; omega, rfl⟩
      · subst hco
        obtain ⟨hn1, hn2⟩ := codes_ne f
        have hq2 : ((bs (f.map kch)).toList == [110, 42]) = false := by rw [ByteArray.toList_eq, bs_list]; exact beq_eq_false_iff_ne.2 hn2
        rw [hq2]
        clear hq2
        have HFO : Hid (formOf op ((r.length : Int) - 1) = some f) := Lib.hid (by rw [form_off (fun h => hop h.1), hft])
        have hfl : f.length ≤ 16 := Nat.le_trans (formTab_len hft) (by omega)
        clear hop hft hn1 hn2 HC2
        go_wp2
        go_meet
        exact ⟨f, rfl, HFO, hfl, rfl⟩
    case rest =>
      clear HC2 hq1
      obtain ⟨f, rfl, HFO, hfl, rfl⟩ := hcut
      obtain ⟨F, hF⟩ : ∃ F, F = bs (f.map kch) := ⟨_, rfl⟩
      have hFs : F.size = f.length := by rw [hF, bs_size, List.length_map]
      have HF := Lib.hid hF
      rw [← hF]
      clear hF
      by_cases hln : f.length = n
      · have HA3 : Hid (parseAns s.data.toList = endW (runW op (f.zip r))) := Lib.hid (by rw [HA.out, parse_some HFO.out, if_neg (by rw [hrl.out]; exact fun h => h hln)])
        have hne : ((n : Int) != (F.size : Int)) = false := by rw [bne_eq_false_iff_eq]; omega
        have HFs := Lib.hid hFs
        have HLN := Lib.hid hln
        have HR9 : Hid (parseW (op :: r) = parseAns s.data.toList) := Lib.hid HA.out.symm
        clear HA hln hFs
        go_wp2_with fail
        go_loopg [7, 9, 10, 11, 12, 13, 14, 15, 62] n (fun kx t7 t9 t10 t11 t12 t13 t14 t15 u wr => ∃ (rs t : List (List UInt8)) (cm : Cm) (late : Int) (v : Value), u = .int .i64 rs.length ∧ t7 = .int .i64 late ∧ rs.length ≤ n ∧ n - rs.length ≤ kx ∧ Hid (r = rs ++ t) ∧ Hid (runW op (f.zip rs) = some (cm, late)) ∧ Hid (CmAt wr Nc Nc (fun _ => False) cm v) ∧ Hid (Below Nc w1 wr))
        case atStart => exact ⟨[], r, _, 0, _, rfl, rfl, Nat.zero_le _, Nat.le_refl _, Lib.hid rfl, Lib.hid (by cases f <;> rfl), Lib.hid ⟨HR0.out, ⟨rfl, .inl ⟨rfl, rfl⟩⟩, fun k hk => by cases hk⟩, HBW⟩
        case round =>
          obtain ⟨rs, t, cm, late, v, rfl, rfl, hrn, hkx, hrt, HRUN, HC, HBL⟩ := hrel
          obtain ⟨Av, cv, rfl, _, _⟩ := HC.out.form
          cases t with
          | nil =>
            obtain rfl : r = rs := by rw [hrt.out, List.append_nil]
            have hrr : ¬ ((r.length : Int) < (n : Int)) := by have := hrl.out; omega
            have hg := (HBL.out.block _ hNN).trans HG0.out
            have HBN : Hid (Below w.heap.size w wr) := Lib.hid (HB1.out.trans (HBL.out.mono (by omega)))
            by_cases h0 : late = 0
            · subst h0
              have HA2 : Hid (parseAns s.data.toList = (cm, 0)) := Lib.hid (by rw [HA3.out, HRUN.out]; rfl)
              have hz := cellsZ hg
              have HG := Lib.hid hg
              have hcc : wr.heap[Nc]? = some (.cells #[.string cm.op, .string cm.name, .slice Av cm.args.length cv, .string cm.text] 25 (0, 0)) := HC.out.cell
              have hq := cells4 hcc
              clear HRUN HA3 hg hcc hrt HR9 HR0 HLN
              go_wp2
              exact ref_done hNN HBN.out HC.out HG.out HA2.out rfl rfl rfl
            · have h0b : (late == 0) = false := by rw [beq_eq_false_iff_ne]; exact h0
              have HA2 : Hid (parseAns s.data.toList = (noneC, late)) := Lib.hid (by rw [HA3.out, HRUN.out]; unfold endW; dsimp only; rw [if_pos h0])
              have hz := cellsZ hg
              have HG := Lib.hid hg
              clear HRUN HA3 hg hrt HR9 HR0 HLN
              go_wp2
              exact ref_refused (zeroed_below HBN.out) (zeroed_at HG.out) HA2.out rfl rfl rfl
          | cons xw t =>
            have hrn2 : rs.length < n := by rw [← hrl.out, hrt.out]; simp
            have hrl2 : (rs.length : Int) < (n : Int) := by omega
            have hmem : xw ∈ op :: r := by rw [hrt.out]; simp
            have hxl : xw.length ≤ 400 := HWL.out xw hmem
            have hrx : (r.map stv)[rs.length]? = some (.string (bs xw)) := by rw [hrt.out]; simp [stv]
            obtain ⟨b2, off2, rfl, hcw⟩ := Rd.cell HRD2.out hrx
            have HRDw : ∀ W, Below Nc w1 W → W.cell? ⟨b2, off2 + rs.length, none⟩ = some (.string (bs xw)) := fun W hW => cell_later (by rw [HNc.out] at hW; exact hW) hcw
            have HCW := Lib.hid HRDw
            have cw := HRDw wr HBL.out
            have hfi : rs.length < f.length := by rw [HLN.out]; exact hrn2
            obtain ⟨k, hk⟩ : ∃ k, k = f[rs.length] := ⟨_, rfl⟩
            have hfk : f[rs.length]? = some k := by rw [hk, List.getElem?_eq_getElem hfi]
            have hFi : rs.length < F.size := by rw [HFs.out]; exact hfi
            have hFx : F[rs.length]'hFi = kch k := by
              have := bs_get F (f.map kch) HF.out rs.length hFi
              rw [this, List.getElem_map, hk]
            have HFK := Lib.hid hfk
            have HRST : Hid (∀ cm2 late2, stepW (some (cm, late)) (k, xw) = some (cm2, late2) → runW op (f.zip (rs ++ [xw])) = some (cm2, late2)) := Lib.hid fun cm2 late2 h => by rw [zip_one hfk, runW_snoc, HRUN.out]; exact h
            have HREF : Hid ((readW k cm xw).2 = 7 → parseAns s.data.toList = (noneC, 7)) := Lib.hid fun h7 => by
              obtain ⟨z, hz⟩ := zip_more (x := xw) hfk t
              rw [HA3.out, hrt.out, hz, show f.zip rs ++ (k, xw) :: z = (f.zip rs ++ [(k, xw)]) ++ z by simp, runW_none]
              · rfl
              · rw [runW_snoc, HRUN.out]
                unfold stepW
                simp [h7]
            have HMR := Lib.hid (hrt.out)
            have hal : cm.args.length ≤ 400 := by
              have h1 := runW_len op (f.zip rs) _ 0 cm late (fun c e h => by injection h with h; injection h with h _; subst h; exact Nat.le_refl _) HRUN.out
              have h2 : (f.zip rs).length ≤ rs.length := by rw [List.length_zip]; exact Nat.min_le_right _ _
              omega
            clear HRUN hcw HRDw hmem hk hfk hrx HA3 HR0 hrt HFO HR9
            go_upto_block 4 with (fail)
            go_cut [7, 10, 11, 12, 13, 14, 15] from 64 to 154 (fun t7 t10 t11 t12 t13 t14 t15 wx => ∃ (ok : Bool) (late2 : Int) (cm2 : Cm) (v2 : Value), t10 = .bool ok ∧ t7 = .int .i64 late2 ∧ Hid (ok = true → CmAt wx Nc Nc (fun _ => False) cm2 v2) ∧ Hid (Below Nc w1 wx) ∧ Hid (ok = true → stepW (some (cm, late)) (k, xw) = some (cm2, late2)) ∧ Hid (ok = false → (readW k cm xw).2 = 7))
            case first =>
              have hcl := HC.out.cell
              have hNW : Nc ≤ wr.heap.size := Nat.le_of_lt (Array.getElem?_eq_some_iff.1 hcl).1
              have hxs : (bs xw).size ≤ 400 := by rw [bs_size]; exact hxl
              clear HRST HREF HMR HFK
              cases k with
              | n =>
                have hx1 : F[rs.length]'hFi = 110 := hFx
                have c1 : wr.cell? ⟨Nc, 1, none⟩ = some (.string cm.name) := by rw [cell_of_row _ _ _ _ _ _ hcl]; rfl
                have f1 : wr.frozen? ⟨Nc, 1, none⟩ = false := by simp [World.frozen?, hcl]
                have HL := Lib.hid (refLoan_any (bs xw) wr (by omega))
                have HS : Hid (nameOk (bs xw) = true → stepW (some (cm, late)) (.n, xw) = some ({ cm with name := bs xw }, late)) := Lib.hid fun h => by unfold stepW readW; simp [h]
                have HS7 : Hid (nameOk (bs xw) = false → (readW .n cm xw).2 = 7) := Lib.hid fun h => by unfold readW; simp [h]
                have P1 : Hid (CmAt (wr.setCell ⟨Nc, 1, none⟩ (.string (bs xw))) Nc Nc (fun _ => False) { cm with name := bs xw } (.slice Av cm.args.length cv)) := Lib.hid (HC.out.set rfl (ownE_keep HC.out.own fun q hq => set_oth wr Nc 1 _ q (fun e => HC.out.ne hq e.symm)) HC.out.out)
                have P2 : Hid (Below Nc w1 (wr.setCell ⟨Nc, 1, none⟩ (.string (bs xw)))) := Lib.hid (Below.setCell (p := ⟨Nc, 1, none⟩) HBL.out (Nat.le_refl _) _)
                generalize nameOk (bs xw) = nk at *
                clear hFx hcl
                go_wp2_with (go_at_call 19; refine HL.out.mono ?_; rintro e w' ⟨rfl, rfl⟩)
                go_meet
                case rel => exact ⟨nk, late, _, _, rfl, rfl, Lib.hid fun _ => P1.out, P2, HS, HS7⟩
              | t =>
                have hx1 : F[rs.length]'hFi = 116 := hFx
                have c1 : wr.cell? ⟨Nc, 3, none⟩ = some (.string cm.text) := by rw [cell_of_row _ _ _ _ _ _ hcl]; rfl
                have f1 : wr.frozen? ⟨Nc, 3, none⟩ = false := by simp [World.frozen?, hcl]
                have HL := Lib.hid (refLoan_any (bs xw) wr (by omega))
                have HS : Hid (nameOk (bs xw) = true → stepW (some (cm, late)) (.t, xw) = some ({ cm with text := bs xw }, late)) := Lib.hid fun h => by unfold stepW readW; simp [h]
                have HS7 : Hid (nameOk (bs xw) = false → (readW .t cm xw).2 = 7) := Lib.hid fun h => by unfold readW; simp [h]
                have P1 : Hid (CmAt (wr.setCell ⟨Nc, 3, none⟩ (.string (bs xw))) Nc Nc (fun _ => False) { cm with text := bs xw } (.slice Av cm.args.length cv)) := Lib.hid (HC.out.set rfl (ownE_keep HC.out.own fun q hq => set_oth wr Nc 3 _ q (fun e => HC.out.ne hq e.symm)) HC.out.out)
                have P2 : Hid (Below Nc w1 (wr.setCell ⟨Nc, 3, none⟩ (.string (bs xw)))) := Lib.hid (Below.setCell (p := ⟨Nc, 3, none⟩) HBL.out (Nat.le_refl _) _)
                generalize nameOk (bs xw) = nk at *
                clear hFx hcl
                go_wp2_with (go_at_call 19; refine HL.out.mono ?_; rintro e w' ⟨rfl, rfl⟩)
                go_meet
                case rel => exact ⟨nk, late, _, _, rfl, rfl, Lib.hid fun _ => P1.out, P2, HS, HS7⟩
              | d =>
                have hx1 : F[rs.length]'hFi = 100 := hFx
                have RD := Lib.hid (c_refRead_any (bs xw) (civOf xw) wr (by rw [bs_list]; exact civOf_as xw) (by omega))
                have HS : Hid ((civOf xw).2 = 0 → stepW (some (cm, late)) (.d, xw) = some ({ cm with args := cm.args ++ [(civOf xw).1] }, late)) := Lib.hid fun h => by unfold stepW readW; simp [h]
                have HS6 : Hid ((civOf xw).2 = 6 → stepW (some (cm, late)) (.d, xw) = some ({ cm with args := cm.args ++ [(civOf xw).1] }, 6)) := Lib.hid fun h => by unfold stepW readW; simp [h]
                have HS7 : Hid ((civOf xw).2 = 7 → (readW .d cm xw).2 = 7) := Lib.hid fun h => by unfold readW; exact h
                have hpe := civOf_err xw
                generalize civOf xw = p at *
                obtain ⟨x, er⟩ := p
                dsimp only at *
                clear hFx hcl
                go_upto_region 34 with (go_at_call 20; refine RD.out.mono ?_; rintro e W1 ⟨rfl, hb1⟩)
                have HB1' := Lib.hid hb1
                have e2 : W1.cell? ⟨Nc, 2, none⟩ = some (.slice Av cm.args.length cv) := by rw [cell_of_row _ _ _ _ _ _ ((hb1.block _ (Array.getElem?_eq_some_iff.1 HC.out.cell).1).trans HC.out.cell)]; rfl
                have HO1 := Lib.hid (own_below' HC.out.own hb1)
                have hbs := hb1.size
                clear hb1
                rcases hpe with rfl | rfl | rfl
                · have HS2 := Lib.hid (HS.out rfl)
                  clear HS HS6 HS7
                  go_wp2_with (at_builtin; refine app_a64 rfl _ _ rfl Nc (.slice Av cm.args.length cv) cm.args rfl (World.ownsRow.alloc HO1.out _) _ 1 1 [x] rfl (lit_rd W1 x) (by omega) (by simp; omega) ?_)
                  intro A' c' W3 hown hg hb
                  obtain ⟨p1, p2, p3⟩ := HC.out.push HB1'.out (fun k h => h.elim) x (.cells #[.int .i64 x] 2) (by rw [List.map_append]; exact hown) hg hb
                  have P1 := Lib.hid p1
                  have P2 : Hid (Below Nc w1 (W3.setCell ⟨Nc, 2, none⟩ (.slice A' (cm.args.length + 1) c'))) := Lib.hid (HBL.out.trans (turns_below p2 (Nat.le_refl _) hNW))
                  have d2 : W3.cell? ⟨Nc, 2, none⟩ = some (.slice Av cm.args.length cv) := by rw [cell_of_row _ _ _ _ _ _ p3]; rfl
                  have f2 : W3.frozen? ⟨Nc, 2, none⟩ = false := by simp [World.frozen?, p3]
                  clear p1 p2 p3 hown hg hb e2
                  go_wp2
                  go_meet
                  case rel => exact ⟨true, late, _, _, rfl, rfl, Lib.hid fun _ => P1.out, P2, Lib.hid fun _ => HS2.out, Lib.hid fun h => by cases h⟩
                · have HS2 := Lib.hid (HS6.out rfl)
                  clear HS HS6 HS7
                  go_wp2_with (at_builtin; refine app_a64 rfl _ _ rfl Nc (.slice Av cm.args.length cv) cm.args rfl (World.ownsRow.alloc HO1.out _) _ 1 1 [x] rfl (lit_rd W1 x) (by omega) (by simp; omega) ?_)
                  intro A' c' W3 hown hg hb
                  obtain ⟨p1, p2, p3⟩ := HC.out.push HB1'.out (fun k h => h.elim) x (.cells #[.int .i64 x] 2) (by rw [List.map_append]; exact hown) hg hb
                  have P1 := Lib.hid p1
                  have P2 : Hid (Below Nc w1 (W3.setCell ⟨Nc, 2, none⟩ (.slice A' (cm.args.length + 1) c'))) := Lib.hid (HBL.out.trans (turns_below p2 (Nat.le_refl _) hNW))
                  have d2 : W3.cell? ⟨Nc, 2, none⟩ = some (.slice Av cm.args.length cv) := by rw [cell_of_row _ _ _ _ _ _ p3]; rfl
                  have f2 : W3.frozen? ⟨Nc, 2, none⟩ = false := by simp [World.frozen?, p3]
                  clear p1 p2 p3 hown hg hb e2
                  go_wp2
                  go_meet
                  case rel => exact ⟨true, 6, _, _, rfl, rfl, Lib.hid fun _ => P1.out, P2, Lib.hid fun _ => HS2.out, Lib.hid fun h => by cases h⟩
                · have HS2 := Lib.hid (HS7.out rfl)
                  clear HS HS6 HS7
                  go_wp2_with (at_builtin; refine app_a64 rfl _ _ rfl Nc (.slice Av cm.args.length cv) cm.args rfl (World.ownsRow.alloc HO1.out _) _ 1 1 [x] rfl (lit_rd W1 x) (by omega) (by simp; omega) ?_)
                  intro A' c' W3 hown hg hb
                  obtain ⟨p1, p2, p3⟩ := HC.out.push HB1'.out (fun k h => h.elim) x (.cells #[.int .i64 x] 2) (by rw [List.map_append]; exact hown) hg hb
                  have P1 := Lib.hid p1
                  have P2 : Hid (Below Nc w1 (W3.setCell ⟨Nc, 2, none⟩ (.slice A' (cm.args.length + 1) c'))) := Lib.hid (HBL.out.trans (turns_below p2 (Nat.le_refl _) hNW))
                  have d2 : W3.cell? ⟨Nc, 2, none⟩ = some (.slice Av cm.args.length cv) := by rw [cell_of_row _ _ _ _ _ _ p3]; rfl
                  have f2 : W3.frozen? ⟨Nc, 2, none⟩ = false := by simp [World.frozen?, p3]
                  clear p1 p2 p3 hown hg hb e2
                  go_wp2
                  go_meet
                  case rel => exact ⟨false, late, cm, .slice none 0 0, rfl, rfl, Lib.hid (fun h => by cases h), P2, Lib.hid (fun h => by cases h), Lib.hid fun _ => HS2.out⟩
              | m =>
                have hx1 : F[rs.length]'hFi = 109 := hFx
                have rd := refRead_any (bs xw) wr (by omega)
                rw [bs_list] at rd
                have RD := Lib.hid rd
                have HS : Hid (monOk (readOf xw) = true → stepW (some (cm, late)) (.m, xw) = some ({ cm with args := cm.args ++ [(readOf xw).1] }, late)) := Lib.hid fun h => by unfold stepW readW; simp [h]
                have HS7 : Hid (monOk (readOf xw) = false → (readW .m cm xw).2 = 7) := Lib.hid fun h => by unfold readW; simp [h]
                generalize readOf xw = p at *
                obtain ⟨x, er⟩ := p
                dsimp only at *
                obtain ⟨ok, hok⟩ : ∃ ok, ok = monOk (x, er) := ⟨_, rfl⟩
                have HOK := Lib.hid hok
                rw [← hok] at HS HS7
                clear hFx hcl rd hok
                go_upto_region 40 with (go_at_call 21; refine RD.out.mono ?_; rintro e W1 ⟨rfl, hb1⟩)
                have HB1' := Lib.hid hb1
                have e2 : W1.cell? ⟨Nc, 2, none⟩ = some (.slice Av cm.args.length cv) := by rw [cell_of_row _ _ _ _ _ _ ((hb1.block _ (Array.getElem?_eq_some_iff.1 HC.out.cell).1).trans HC.out.cell)]; rfl
                have HO1 := Lib.hid (own_below' HC.out.own hb1)
                have hbs := hb1.size
                clear hb1
                cases ok with
                | true =>
                  obtain ⟨rfl, h1, h2⟩ := monOk_t HOK.out.symm
                  go_wp2_with (at_builtin; refine app_a64 rfl _ _ rfl Nc (.slice Av cm.args.length cv) cm.args rfl (World.ownsRow.alloc HO1.out _) _ 1 1 [x] rfl (lit_rd W1 x) (by omega) (by simp; omega) ?_)
                  intro A' c' W3 hown hg hb
                  obtain ⟨p1, p2, p3⟩ := HC.out.push HB1'.out (fun k h => h.elim) x (.cells #[.int .i64 x] 2) (by rw [List.map_append]; exact hown) hg hb
                  have P1 := Lib.hid p1
                  have P2 : Hid (Below Nc w1 (W3.setCell ⟨Nc, 2, none⟩ (.slice A' (cm.args.length + 1) c'))) := Lib.hid (HBL.out.trans (turns_below p2 (Nat.le_refl _) hNW))
                  have d2 : W3.cell? ⟨Nc, 2, none⟩ = some (.slice Av cm.args.length cv) := by rw [cell_of_row _ _ _ _ _ _ p3]; rfl
                  have f2 : W3.frozen? ⟨Nc, 2, none⟩ = false := by simp [World.frozen?, p3]
                  clear p1 p2 p3 hown hg hb e2
                  go_wp2
                  go_meet
                  case rel => exact ⟨true, late, _, _, rfl, rfl, Lib.hid fun _ => P1.out, P2, (by first | exact HS | exact Lib.hid (fun _ => HS.out trivial)), Lib.hid fun h => by cases h⟩
                | false =>
                  have hf : ¬ (er = 0 ∧ 1 ≤ x ∧ x ≤ 1000000000000000) := by
                    intro ⟨a1, a2, a3⟩
                    have : monOk (x, er) = true := by unfold monOk; simp [a1, a2, a3]
                    rw [← HOK.out] at this
                    cases this
                  by_cases h0 : er = 0
                  · subst h0
                    by_cases h1 : 1 ≤ x
                    · have h2 : ¬ x ≤ 1000000000000000 := fun h => hf ⟨rfl, by omega, h⟩
                      clear hf
                      go_wp2_with (at_builtin; refine app_a64 rfl _ _ rfl Nc (.slice Av cm.args.length cv) cm.args rfl (World.ownsRow.alloc HO1.out _) _ 1 1 [x] rfl (lit_rd W1 x) (by omega) (by simp; omega) ?_)
                      intro A' c' W3 hown hg hb
                      obtain ⟨p1, p2, p3⟩ := HC.out.push HB1'.out (fun k h => h.elim) x (.cells #[.int .i64 x] 2) (by rw [List.map_append]; exact hown) hg hb
                      have P1 := Lib.hid p1
                      have P2 : Hid (Below Nc w1 (W3.setCell ⟨Nc, 2, none⟩ (.slice A' (cm.args.length + 1) c'))) := Lib.hid (HBL.out.trans (turns_below p2 (Nat.le_refl _) hNW))
                      have d2 : W3.cell? ⟨Nc, 2, none⟩ = some (.slice Av cm.args.length cv) := by rw [cell_of_row _ _ _ _ _ _ p3]; rfl
                      have f2 : W3.frozen? ⟨Nc, 2, none⟩ = false := by simp [World.frozen?, p3]
                      clear p1 p2 p3 hown hg hb e2
                      go_wp2
                      go_meet
                      case rel => exact ⟨false, late, cm, .slice none 0 0, rfl, rfl, Lib.hid (fun h => by cases h), P2, Lib.hid (fun h => by cases h), (by first | exact HS7 | exact Lib.hid (fun _ => HS7.out trivial))⟩
                    · clear hf
                      go_wp2_with (at_builtin; refine app_a64 rfl _ _ rfl Nc (.slice Av cm.args.length cv) cm.args rfl (World.ownsRow.alloc HO1.out _) _ 1 1 [x] rfl (lit_rd W1 x) (by omega) (by simp; omega) ?_)
                      intro A' c' W3 hown hg hb
                      obtain ⟨p1, p2, p3⟩ := HC.out.push HB1'.out (fun k h => h.elim) x (.cells #[.int .i64 x] 2) (by rw [List.map_append]; exact hown) hg hb
                      have P1 := Lib.hid p1
                      have P2 : Hid (Below Nc w1 (W3.setCell ⟨Nc, 2, none⟩ (.slice A' (cm.args.length + 1) c'))) := Lib.hid (HBL.out.trans (turns_below p2 (Nat.le_refl _) hNW))
                      have d2 : W3.cell? ⟨Nc, 2, none⟩ = some (.slice Av cm.args.length cv) := by rw [cell_of_row _ _ _ _ _ _ p3]; rfl
                      have f2 : W3.frozen? ⟨Nc, 2, none⟩ = false := by simp [World.frozen?, p3]
                      clear p1 p2 p3 hown hg hb e2
                      go_wp2
                      go_meet
                      case rel => exact ⟨false, late, cm, .slice none 0 0, rfl, rfl, Lib.hid (fun h => by cases h), P2, Lib.hid (fun h => by cases h), (by first | exact HS7 | exact Lib.hid (fun _ => HS7.out trivial))⟩
                  · have h0b : (er == 0) = false := by rw [beq_eq_false_iff_ne]; exact h0
                    clear hf
                    go_wp2_with (at_builtin; refine app_a64 rfl _ _ rfl Nc (.slice Av cm.args.length cv) cm.args rfl (World.ownsRow.alloc HO1.out _) _ 1 1 [x] rfl (lit_rd W1 x) (by omega) (by simp; omega) ?_)
                    intro A' c' W3 hown hg hb
                    obtain ⟨p1, p2, p3⟩ := HC.out.push HB1'.out (fun k h => h.elim) x (.cells #[.int .i64 x] 2) (by rw [List.map_append]; exact hown) hg hb
                    have P1 := Lib.hid p1
                    have P2 : Hid (Below Nc w1 (W3.setCell ⟨Nc, 2, none⟩ (.slice A' (cm.args.length + 1) c'))) := Lib.hid (HBL.out.trans (turns_below p2 (Nat.le_refl _) hNW))
                    have d2 : W3.cell? ⟨Nc, 2, none⟩ = some (.slice Av cm.args.length cv) := by rw [cell_of_row _ _ _ _ _ _ p3]; rfl
                    have f2 : W3.frozen? ⟨Nc, 2, none⟩ = false := by simp [World.frozen?, p3]
                    clear p1 p2 p3 hown hg hb e2
                    go_wp2
                    go_meet
                    case rel => exact ⟨false, late, cm, .slice none 0 0, rfl, rfl, Lib.hid (fun h => by cases h), P2, Lib.hid (fun h => by cases h), (by first | exact HS7 | exact Lib.hid (fun _ => HS7.out trivial))⟩
              | i =>
                have hx1 : F[rs.length]'hFi = 105 := hFx
                have rd := refNumber_any (bs xw) wr (by omega)
                rw [bs_list] at rd
                have RD := Lib.hid rd
                have HS : Hid (∀ x : Int, numOk xw = true → x = (numOf xw : Int) → stepW (some (cm, late)) (.i, xw) = some ({ cm with args := cm.args ++ [x] }, late)) := Lib.hid fun x h hx => by subst hx; unfold stepW readW; simp [h]
                have HS7 : Hid (numOk xw = false → (readW .i cm xw).2 = 7) := Lib.hid fun h => by unfold readW; simp [h]
                have HX : Hid (∀ x : Int, (numOk xw = true → x = (numOf xw : Int)) → numOk xw = true → x = (numOf xw : Int)) := Lib.hid fun x h => h
                generalize numOk xw = ok at *
                clear hFx hcl rd
                go_upto_region 44 with (go_at_call 22; refine RD.out.mono ?_; rintro e W1 ⟨⟨x, rfl, hxv⟩, rfl⟩)
                have HXV := Lib.hid (HX.out x hxv)
                have hb1 : Below wr.heap.size wr wr := Below.refl _ _
                clear hxv HX
                have HB1' := Lib.hid hb1
                have e2 : wr.cell? ⟨Nc, 2, none⟩ = some (.slice Av cm.args.length cv) := by rw [cell_of_row _ _ _ _ _ _ ((hb1.block _ (Array.getElem?_eq_some_iff.1 HC.out.cell).1).trans HC.out.cell)]; rfl
                have HO1 := Lib.hid (own_below' HC.out.own hb1)
                have hbs := hb1.size
                clear hb1
                go_wp2_with (at_builtin; refine app_a64 rfl _ _ rfl Nc (.slice Av cm.args.length cv) cm.args rfl (World.ownsRow.alloc HO1.out _) _ 1 1 [x] rfl (lit_rd wr x) (by omega) (by simp; omega) ?_)
                intro A' c' W3 hown hg hb
                obtain ⟨p1, p2, p3⟩ := HC.out.push HB1'.out (fun k h => h.elim) x (.cells #[.int .i64 x] 2) (by rw [List.map_append]; exact hown) hg hb
                have P1 := Lib.hid p1
                have P2 : Hid (Below Nc w1 (W3.setCell ⟨Nc, 2, none⟩ (.slice A' (cm.args.length + 1) c'))) := Lib.hid (HBL.out.trans (turns_below p2 (Nat.le_refl _) hNW))
                have d2 : W3.cell? ⟨Nc, 2, none⟩ = some (.slice Av cm.args.length cv) := by rw [cell_of_row _ _ _ _ _ _ p3]; rfl
                have f2 : W3.frozen? ⟨Nc, 2, none⟩ = false := by simp [World.frozen?, p3]
                clear p1 p2 p3 hown hg hb e2
                go_wp2
                go_meet
                case rel => exact ⟨ok, late, _, _, rfl, rfl, Lib.hid fun _ => P1.out, P2, Lib.hid fun h => HS.out x h (HXV.out h), HS7⟩
            case rest =>
              obtain ⟨ok, late2, cm2, v2, rfl, rfl, HCM, HBL2, HST, HS7⟩ := hcut
              have hg := (HBL2.out.block _ hNN).trans HG0.out
              cases ok with
              | true =>
                have HC3 := Lib.hid (HCM.out rfl)
                have HST3 := Lib.hid (HRST.out _ _ (HST.out rfl))
                clear HCM HST HS7 HREF hg HRST
                go_wp2
                go_roundg (n - (rs.length + 1))
                case measure => omega
                case rel => exact ⟨rs ++ [xw], t, cm2, late2, v2, by rw [List.length_append]; go_num, rfl, by rw [List.length_append]; simp; omega, by rw [List.length_append]; exact Nat.le_refl _, Lib.hid (by rw [HMR.out]; simp), HST3, HC3, HBL2⟩
              | false =>
                have HA2 := Lib.hid (HREF.out (HS7.out rfl))
                have HG := Lib.hid hg
                have hz := cellsZ hg
                have HBN : Hid (Below w.heap.size w wc) := Lib.hid (HB1.out.trans (HBL2.out.mono (by omega)))
                clear HCM HST HS7 HREF hg HRST
                go_wp2
                exact ref_refused (zeroed_below HBN.out) (zeroed_at HG.out) HA2.out rfl rfl rfl
      · have HA2 : Hid (parseAns s.data.toList = (noneC, 7)) := Lib.hid (by rw [HA.out, parse_some HFO.out, if_pos (by rw [hrl.out]; exact hln)])
        have hz := cellsZ HG1.out
        have hne : ((n : Int) == (F.size : Int)) = false := by rw [beq_eq_false_iff_ne]; omega
        clear HA hFs
        go_wp2
        exact ref_refused (zeroed_below HB2.out) (zeroed_at HG1.out) HA2.out rfl rfl rfl
end Go.Proofs.YthlgjbmkealjjaaGreatDoor
