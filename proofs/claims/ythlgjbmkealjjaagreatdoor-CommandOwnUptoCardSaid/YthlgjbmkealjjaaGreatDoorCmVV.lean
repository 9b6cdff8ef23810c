/-
  Joined texts: CmV CmV2 CmV3. No statement is proved here.
-/
import Derived.Test.YthlgjbmkealjjaaGreatDoorCmW
namespace Go.Proofs.YthlgjbmkealjjaaGreatDoor
open Go.RowKit
set_option linter.unusedVariables false
def stv (l : List UInt8) : Value := .string (bs l)
theorem words_cons (c : UInt8) (r : List UInt8) : wordsOf (c :: r) = if c = 32 then [] :: wordsOf r else (c :: (wordsOf r).headD []) :: (wordsOf r).tail := rfl
theorem words_snoc (l : List UInt8) (c : UInt8) : wordsOf (l ++ [c]) = if c = 32 then wordsOf l ++ [[]] else (wordsOf l).dropLast ++ [(wordsOf l).getLastD [] ++ [c]] := by
  induction l with
  | nil =>
    rw [List.nil_append, words_cons]
    by_cases hc : c = 32
    · rw [if_pos hc, if_pos hc]; rfl
    · rw [if_neg hc, if_neg hc]; rfl
  | cons d l ih =>
    rw [List.cons_append, words_cons, words_cons, ih]
    have hne := words_ne l
    generalize wordsOf l = W at *
    cases W with
    | nil => exact absurd rfl hne
    | cons x xs =>
      by_cases hc : c = 32
      · rw [if_pos hc, if_pos hc]
        split <;> simp
      · rw [if_neg hc, if_neg hc]
        cases xs with
        | nil => split <;> simp
        | cons y ys => split <;> simp
theorem getLastD_get {α : Type} (l : List α) (d : α) (h : l ≠ []) : l[l.length - 1]? = some (l.getLastD d) := by
  cases l with
  | nil => exact absurd rfl h
  | cons x xs => 
    have h1 : (x :: xs)[(x :: xs).length - 1]? = (x :: xs).getLast? := (List.getLast?_eq_getElem? ..).symm
    rw [h1, List.getLastD_eq_getLast?, List.getLast?_eq_some_getLast h]
    rfl
theorem set_last {α : Type} (l : List α) (h : l ≠ []) (x : α) : l.set (l.length - 1) x = l.dropLast ++ [x] := by
  induction l with
  | nil => exact absurd rfl h
  | cons y ys ih =>
    cases ys with
    | nil => rfl
    | cons z zs =>
      have := ih (by simp)
      simp at this ⊢
      exact this
theorem stv_one (ws : List (List UInt8)) : ∀ u ∈ ws.map stv, u.oneCell' = true := by
  intro u hu
  obtain ⟨z, _, rfl⟩ := List.mem_map.1 hu
  rfl
/-- A row of strings of the call's own. -/
def OwnS (w : World) (base : Nat) (v : Value) (ws : List (List UInt8)) : Prop := w.ownsRow base 9 1 v ws.length (ws.map stv)
theorem infoStr : (Tryz.prog.info? 9).map (fun i => (i.zero, i.size, i.bytes)) = some (some (.string ⟨#[]⟩), 1, 16) := by kernel_rfl
theorem app_str {ops : Array Oper} {rest : List Oper} {o : Oper} {a : Act} {Q : Exit → Act → World → Prop} {w : World} (hgd : o.guard = none) (s x : Operand)
    (ho : o.op = .call { callee := .builtin .append, args := #[s, x], argTypes := #[52, 52] })
    (base : Nat) (v : Value) (xs : List (List UInt8)) (hs : a.eval s = v) (hown : OwnS w base v xs)
    (A : Option Addr) (m c : Nat) (ys : List (List UInt8)) (hx : a.eval x = .slice A m c) (hr : Rd w 1 A m (ys.map stv))
    (hlen : (xs.length + m) * 16 ≤ 140737488355328) (hbase : base ≤ w.heap.size)
    (h : ∀ v' w', OwnS w' base v' (xs ++ ys) → Below base w w' → wpList Tryz.prog ops Q rest (a.put o.dst v') w') : wpList Tryz.prog ops Q (o :: rest) a w := by
  obtain ⟨i0, hi, hz0, hz1, hz2⟩ := info_parts infoStr
  have hm : ys.length = m := by simpa using hr.1
  refine wpList_append_rd w hgd s x 52 ho base 9 i0 (.string ⟨#[]⟩) 1 16 Tryz.underlying52 hi hz0 hz1 hz2 rfl (by decide) v xs.length _ hs hown A m c (ys.map stv) hx hr (stv_one ys) (by unfold maxLen; omega) (by omega) hbase fun v' w' hown' hg hb => ?_
  refine h v' w' ?_ ((Below.refl base w).grown hg hbase fun k hk => (hown.lt k hk).1)
  unfold OwnS
  rw [List.map_append, List.length_append, hm]
  exact hown'
theorem lit_str (W : World) (x : List UInt8) : Rd (W.alloc (.cells #[.string (bs x)] 9)) 1 (some ⟨W.heap.size, 0, none⟩) 1 ([x].map stv) := by
  refine ⟨rfl, fun _ => ⟨W.heap.size, 0, rfl, fun j u hu => ?_⟩⟩
  have hj : j = 0 := by
    have := (List.getElem?_eq_some_iff.1 hu).1
    simp at this
    omega
  subst hj
  rw [cell_of_row _ _ _ _ _ _ (heap_alloc_new W _)]
  simpa [stv] using hu
section
variable {w w' : World} {base : Nat} {v : Value} {ws : List (List UInt8)}
theorem OwnS.form (h : OwnS w base v ws) : ∃ A m c, v = .slice A m c ∧ Hid (ws.length = m) ∧ m ≤ c ∧ Rd w 1 A m (ws.map stv) := by
  rcases h.2 with ⟨e, h0⟩ | ⟨g, cap, cur, e, h1, h2, h3, h4, h5, h6⟩
  · refine ⟨none, 0, 0, e, Lib.hid h0, by omega, ?_⟩
    rw [List.length_eq_zero_iff.1 h0]
    exact Rd.nil _ _ _
  · have ho : w.ownsRow base 9 1 v ws.length (ws.map stv) := h
    rw [e] at ho
    exact ⟨_, _, cap, e, Lib.hid rfl, h3, Rd.of_own ho⟩
theorem OwnS.alloc (h : OwnS w base v ws) (o : Obj) : OwnS (w.alloc o) base v ws := World.ownsRow.alloc h o
theorem OwnS.below (h : OwnS w base v ws) (hb : Below w.heap.size w w') : OwnS w' base v ws := own_below' h hb
theorem OwnS.drewN (h : OwnS w base v ws) (k : Nat) : OwnS (w.drewN k) base v ws := h
theorem OwnS.lit (w : World) (x : List UInt8) (hb : base ≤ w.heap.size) : OwnS (w.alloc (.cells #[.string (bs x)] 9)) base (.slice (some ⟨w.heap.size, 0, none⟩) 1 1) [x] := by
  exact ⟨rfl, .inr ⟨w.heap.size, 1, #[.string (bs x)], rfl, hb, heap_alloc_new w _, by simp, by unfold maxLen; omega, by simp, by simp [stv]⟩⟩
/-- The last word, where it lies. -/
theorem OwnS.last {A : Option Addr} {m c : Nat} (h : OwnS w base (.slice A m c) ws) (hm : ws.length = m) (h0 : ws ≠ []) : ∃ g, A = some ⟨g, 0, none⟩ ∧ base ≤ g ∧ w.cell? ⟨g, m - 1, none⟩ = some (stv (ws.getLastD [])) ∧ w.frozen? ⟨g, m - 1, none⟩ = false ∧
    ∀ x, OwnS (w.setCell ⟨g, m - 1, none⟩ (stv x)) base (.slice (some ⟨g, 0, none⟩) m c) (ws.dropLast ++ [x]) := by
  have hp : 0 < ws.length := by cases ws with | nil => exact absurd rfl h0 | cons => simp
  obtain ⟨g, cap, hv, h1, hlt⟩ := World.ownsRow.form h hp
  injection hv with hA hn hc
  subst hA
  refine ⟨g, rfl, h1, ?_, ?_, fun x => ?_⟩
  · have := World.ownsRow.cells h (g := g) rfl (ws.length - 1) (stv (ws.getLastD [])) (by rw [List.getElem?_map, getLastD_get ws [] h0]; rfl)
    rw [add_plain, Nat.zero_add, hm] at this
    exact this
  · obtain ⟨_, e, _, _, hr⟩ := own_rowT (by subst hm; exact h : w.ownsRow base 9 1 (.slice (some ⟨g, 0, none⟩) m c) m (ws.map stv)) (by omega)
    injection e with e
    injection e with e
    subst e
    exact (RowT.cell hr (by omega)).2
  · have ho : w.ownsRow base 9 1 (.slice (some ⟨g, 0, none⟩) m c) m (ws.map stv) := by subst hm; exact h
    have := (World.ownsRow.stored ho (ws.length - 1) (stv x)).1
    unfold OwnS
    rw [← List.map_set, set_last ws h0, hm] at this
    have e : (ws.dropLast ++ [x]).length = ws.length := by simp; omega
    rw [e, hm]
    exact this
end
theorem bs_append (a b : List UInt8) : bs a ++ bs b = bs (a ++ b) := by
  apply ByteArray.ext
  simp [bs]
set_option maxRecDepth 100000 in
set_option maxHeartbeats 4000000 in
theorem refWords_any (s : ByteArray) (w : World) (hs : s.size ≤ 400) :
    Calls Tryz.prog 17 #[.string s] w fun e w' => Below w.heap.size w w' ∧ ∃ v, e = .returned v ∧ OwnS w' w.heap.size v (wordsOf s.data.toList) := by
  have hl0 : s.data.toList.length = s.size := by simp
  go_enter Tryz.func17, Tryz.ntmps17
  go_wp2_with fail
  go_loopw [3, 4] (fun t u wr => ∃ k : Nat, k ≤ s.size ∧ u = .int .i64 k ∧ Hid (OwnS wr w.heap.size t (wordsOf (s.data.toList.take k))) ∧ Hid (Below w.heap.size w wr)) (fun _ u _ => s.size - (intOf u).toNat)
  case atStart => exact ⟨0, Nat.zero_le _, rfl, Lib.hid (OwnS.lit w [] (Nat.le_refl _)), Lib.hid ((Below.refl _ _).alloc (Nat.le_refl _) _)⟩
  case round =>
    obtain ⟨k, hk, rfl, HO, HB⟩ := hrel
    obtain ⟨A, m, c, rfl, hm, hmc, hrd⟩ := HO.out.form
    have hwl : (wordsOf (s.data.toList.take k)).length ≤ k + 1 := by
      rw [words_len]
      have := List.count_le_length (a := (32 : UInt8)) (l := s.data.toList.take k)
      rw [List.length_take] at this
      omega
    have hbs := HB.out.size
    by_cases h1 : k < s.size
    · have htk : s.data.toList.take (k + 1) = s.data.toList.take k ++ [s[k]'h1] := take_snoc' _ k (by rw [hl0]; exact h1)
      have hsn := words_snoc (s.data.toList.take k) (s[k]'h1)
      rw [← htk] at hsn
      have hx8 := (s[k]'h1).toNat_lt
      have hxt : s.extract k (k + 1) = bs [s[k]'h1] := by
        apply ByteArray.ext
        rw [ByteArray.data_extract]
        apply Array.toList_inj.1
        rw [Array.toList_extract, List.extract_eq_take_drop, show k + 1 - k = 1 by omega, List.drop_eq_getElem_cons (by rw [hl0]; exact h1)]
        rfl
      generalize hx : s[k]'h1 = x at *
      have hne := words_ne (s.data.toList.take k)
      have hwm := words_mem (s.data.toList.take k)
      have htl : (s.data.toList.take k).length ≤ 400 := by rw [List.length_take]; omega
      generalize wordsOf (s.data.toList.take k) = ws at *
      by_cases h32 : x = 32
      · subst h32
        rw [if_pos rfl] at hsn
        have HW := Lib.hid hsn
        clear hsn hrd
        go_wp2_with (at_builtin; refine app_str rfl _ _ rfl w.heap.size _ ws rfl (HO.out.alloc _) _ 1 1 [[]] rfl (lit_str wr []) (by omega) (by simp; omega) ?_)
        intro v' w3 ho3 hb3
        have HO3 := Lib.hid ho3
        have HB3 : Hid (Below w.heap.size w w3) := Lib.hid ((HB.out.alloc hbs _).trans hb3)
        clear ho3 hb3
        go_wp2
        go_roundw
        case rel => exact ⟨k + 1, by omega, by go_num, by rw [HW.out]; exact HO3, HB3⟩
        case measure =>
          simp only [intOf]
          omega
      · rw [if_neg h32] at hsn
        have HW := Lib.hid hsn
        have h32b : ((x.toNat : Int) == 32) = false := by
          rw [beq_eq_false_iff_ne]
          intro e
          exact h32 (UInt8.toNat_inj.1 (by simpa using Int.ofNat.inj e))
        clear hsn hrd
        obtain ⟨g, rfl, hgb, hc1, hf1, hset⟩ := OwnS.last HO.out hm.out hne
        have hwp : 1 ≤ m := by rw [← hm.out]; cases ws with | nil => exact absurd rfl hne | cons => simp
        have hlw4 : (ws.getLastD []).length ≤ 400 := Nat.le_trans (hwm _ (List.mem_of_getElem? (getLastD_get ws [] hne))) htl
        generalize hlw : ws.getLastD [] = lw at *
        have hc1' : wr.cell? ⟨g, m - 1, none⟩ = some (.string (bs lw)) := hc1
        have hlsz : (bs lw).size ≤ 400 := by rw [bs_size]; exact hlw4
        have hjn : bs lw ++ bs [x] = bs (lw ++ [x]) := bs_append _ _
        have hlsz2 : (bs (lw ++ [x])).size ≤ 401 := by rw [bs_size, List.length_append]; simp; omega
        have hml : m ≤ 401 := by rw [← hm.out]; omega
        obtain ⟨q, hq⟩ : ∃ q, q = m - 1 := ⟨_, rfl⟩
        have hmq : (m : Int) - 1 = (q : Int) := by omega
        have hqm : q < m := by omega
        have hk4 : (k : Int) < (s.size : Int) := by omega
        rw [← hq] at hc1' hf1 hset
        have HST : Hid (OwnS (wr.setCell ⟨g, q, none⟩ (stv (lw ++ [x]))).drew w.heap.size (.slice (some ⟨g, 0, none⟩) m c) (ws.dropLast ++ [lw ++ [x]])) := Lib.hid ((hset (lw ++ [x])).drewN 1)
        have HB3 : Hid (Below w.heap.size w (wr.setCell ⟨g, q, none⟩ (stv (lw ++ [x]))).drew) := Lib.hid (below_drewN (Below.setCell (p := ⟨g, q, none⟩) HB.out hgb _) 1)
        clear hc1 hset HO hq hlw hne hwm
        have hx1 : (bs [x]).size = 1 := rfl
        have hsum : (bs lw ++ bs [x]).size ≤ 401 := by rw [hjn]; exact hlsz2
        go_wp2
        go_region
        go_wp2
        go_roundw
        case rel => exact ⟨k + 1, by omega, by go_num, by rw [HW.out]; exact HST, HB3⟩
        case measure =>
          simp only [intOf]
          omega
    · have hke : k = s.size := by omega
      have HE : Hid (OwnS wr w.heap.size (.slice A m c) (wordsOf s.data.toList)) := Lib.hid (by
        have := HO.out
        rw [List.take_of_length_le (by omega)] at this
        exact this)
      clear HO hwl hm hrd
      go_wp2
      go_ret
      exact ⟨HB.out, _, rfl, HE.out⟩
end Go.Proofs.YthlgjbmkealjjaaGreatDoor

namespace Go.Proofs.YthlgjbmkealjjaaGreatDoor
open Go.RowKit
set_option linter.unusedVariables false
def kch : Kd → UInt8
  | .n => 110
  | .t => 116
  | .d => 100
  | .m => 109
  | .i => 105
/-- The reference's word for a form. -/
def codeOf (op : List UInt8) : List UInt8 := if op = prodB then [110, 42] else match formTab op with
  | none => [63]
  | some f => f.map kch
set_option maxRecDepth 100000 in
set_option maxHeartbeats 4000000 in
theorem refForm_any (s : ByteArray) (w : World) :
    Calls Tryz.prog 18 #[.string s] w fun e w' => e = .returned (.string (bs (codeOf s.data.toList))) ∧ w = w' := by
  by_cases h0 : s.data.toList = [112, 114, 111, 100, 117, 99, 116]
  · obtain rfl : s = ⟨#[112, 114, 111, 100, 117, 99, 116]⟩ := ByteArray.ext (Array.toList_inj.1 h0)
    rw [show bs (codeOf (⟨#[112, 114, 111, 100, 117, 99, 116]⟩ : ByteArray).data.toList) = ⟨#[110, 42]⟩ by decide +kernel]
    clear h0
    go_enter Tryz.func18, Tryz.ntmps18
    go_wp2
    go_ret
    exact ⟨rfl, rfl⟩
  by_cases h1 : s.data.toList = [111, 112, 101, 110]
  · obtain rfl : s = ⟨#[111, 112, 101, 110]⟩ := ByteArray.ext (Array.toList_inj.1 h1)
    rw [show bs (codeOf (⟨#[111, 112, 101, 110]⟩ : ByteArray).data.toList) = ⟨#[110, 116]⟩ by decide +kernel]
    clear h0 h1
    go_enter Tryz.func18, Tryz.ntmps18
    go_wp2
    go_ret
    exact ⟨rfl, rfl⟩
  by_cases h2 : s.data.toList = [111, 117, 116]
  · obtain rfl : s = ⟨#[111, 117, 116]⟩ := ByteArray.ext (Array.toList_inj.1 h2)
    rw [show bs (codeOf (⟨#[111, 117, 116]⟩ : ByteArray).data.toList) = ⟨#[110, 100, 109]⟩ by decide +kernel]
    clear h0 h1 h2
    go_enter Tryz.func18, Tryz.ntmps18
    go_wp2
    go_ret
    exact ⟨rfl, rfl⟩
  by_cases h3 : s.data.toList = [112, 97, 121]
  · obtain rfl : s = ⟨#[112, 97, 121]⟩ := ByteArray.ext (Array.toList_inj.1 h3)
    rw [show bs (codeOf (⟨#[112, 97, 121]⟩ : ByteArray).data.toList) = ⟨#[110, 100, 109]⟩ by decide +kernel]
    clear h0 h1 h2 h3
    go_enter Tryz.func18, Tryz.ntmps18
    go_wp2
    go_ret
    exact ⟨rfl, rfl⟩
  by_cases h4 : s.data.toList = [102, 101, 101]
  · obtain rfl : s = ⟨#[102, 101, 101]⟩ := ByteArray.ext (Array.toList_inj.1 h4)
    rw [show bs (codeOf (⟨#[102, 101, 101]⟩ : ByteArray).data.toList) = ⟨#[110, 100, 109]⟩ by decide +kernel]
    clear h0 h1 h2 h3 h4
    go_enter Tryz.func18, Tryz.ntmps18
    go_wp2
    go_ret
    exact ⟨rfl, rfl⟩
  by_cases h5 : s.data.toList = [114, 97, 116, 101]
  · obtain rfl : s = ⟨#[114, 97, 116, 101]⟩ := ByteArray.ext (Array.toList_inj.1 h5)
    rw [show bs (codeOf (⟨#[114, 97, 116, 101]⟩ : ByteArray).data.toList) = ⟨#[110, 100, 105]⟩ by decide +kernel]
    clear h0 h1 h2 h3 h4 h5
    go_enter Tryz.func18, Tryz.ntmps18
    go_wp2
    go_ret
    exact ⟨rfl, rfl⟩
  by_cases h6 : s.data.toList = [115, 116, 97, 116, 101]
  · obtain rfl : s = ⟨#[115, 116, 97, 116, 101]⟩ := ByteArray.ext (Array.toList_inj.1 h6)
    rw [show bs (codeOf (⟨#[115, 116, 97, 116, 101]⟩ : ByteArray).data.toList) = ⟨#[110, 100, 105]⟩ by decide +kernel]
    clear h0 h1 h2 h3 h4 h5 h6
    go_enter Tryz.func18, Tryz.ntmps18
    go_wp2
    go_ret
    exact ⟨rfl, rfl⟩
  by_cases h7 : s.data.toList = [114, 101, 118, 101, 114, 115, 101]
  · obtain rfl : s = ⟨#[114, 101, 118, 101, 114, 115, 101]⟩ := ByteArray.ext (Array.toList_inj.1 h7)
    rw [show bs (codeOf (⟨#[114, 101, 118, 101, 114, 115, 101]⟩ : ByteArray).data.toList) = ⟨#[110, 105]⟩ by decide +kernel]
    clear h0 h1 h2 h3 h4 h5 h6 h7
    go_enter Tryz.func18, Tryz.ntmps18
    go_wp2
    go_ret
    exact ⟨rfl, rfl⟩
  by_cases h8 : s.data.toList = [100, 97, 121]
  · obtain rfl : s = ⟨#[100, 97, 121]⟩ := ByteArray.ext (Array.toList_inj.1 h8)
    rw [show bs (codeOf (⟨#[100, 97, 121]⟩ : ByteArray).data.toList) = ⟨#[100]⟩ by decide +kernel]
    clear h0 h1 h2 h3 h4 h5 h6 h7 h8
    go_enter Tryz.func18, Tryz.ntmps18
    go_wp2
    go_ret
    exact ⟨rfl, rfl⟩
  by_cases h9 : s.data.toList = [99, 108, 111, 115, 101]
  · obtain rfl : s = ⟨#[99, 108, 111, 115, 101]⟩ := ByteArray.ext (Array.toList_inj.1 h9)
    rw [show bs (codeOf (⟨#[99, 108, 111, 115, 101]⟩ : ByteArray).data.toList) = ⟨#[100]⟩ by decide +kernel]
    clear h0 h1 h2 h3 h4 h5 h6 h7 h8 h9
    go_enter Tryz.func18, Tryz.ntmps18
    go_wp2
    go_ret
    exact ⟨rfl, rfl⟩
  by_cases h10 : s.data.toList = [97, 99, 99, 114, 117, 101]
  · obtain rfl : s = ⟨#[97, 99, 99, 114, 117, 101]⟩ := ByteArray.ext (Array.toList_inj.1 h10)
    rw [show bs (codeOf (⟨#[97, 99, 99, 114, 117, 101]⟩ : ByteArray).data.toList) = ⟨#[110]⟩ by decide +kernel]
    clear h0 h1 h2 h3 h4 h5 h6 h7 h8 h9 h10
    go_enter Tryz.func18, Tryz.ntmps18
    go_wp2
    go_ret
    exact ⟨rfl, rfl⟩
  by_cases h11 : s.data.toList = [101, 118, 101, 110, 116, 115]
  · obtain rfl : s = ⟨#[101, 118, 101, 110, 116, 115]⟩ := ByteArray.ext (Array.toList_inj.1 h11)
    rw [show bs (codeOf (⟨#[101, 118, 101, 110, 116, 115]⟩ : ByteArray).data.toList) = ⟨#[110]⟩ by decide +kernel]
    clear h0 h1 h2 h3 h4 h5 h6 h7 h8 h9 h10 h11
    go_enter Tryz.func18, Tryz.ntmps18
    go_wp2
    go_ret
    exact ⟨rfl, rfl⟩
  by_cases h12 : s.data.toList = [116, 114, 105, 97, 108]
  · obtain rfl : s = ⟨#[116, 114, 105, 97, 108]⟩ := ByteArray.ext (Array.toList_inj.1 h12)
    rw [show bs (codeOf (⟨#[116, 114, 105, 97, 108]⟩ : ByteArray).data.toList) = ⟨#[100, 100]⟩ by decide +kernel]
    clear h0 h1 h2 h3 h4 h5 h6 h7 h8 h9 h10 h11 h12
    go_enter Tryz.func18, Tryz.ntmps18
    go_wp2
    go_ret
    exact ⟨rfl, rfl⟩
  by_cases h13 : s.data.toList = [108, 97, 115, 116]
  · obtain rfl : s = ⟨#[108, 97, 115, 116]⟩ := ByteArray.ext (Array.toList_inj.1 h13)
    rw [show bs (codeOf (⟨#[108, 97, 115, 116]⟩ : ByteArray).data.toList) = ⟨#[]⟩ by decide +kernel]
    clear h0 h1 h2 h3 h4 h5 h6 h7 h8 h9 h10 h11 h12 h13
    go_enter Tryz.func18, Tryz.ntmps18
    go_wp2
    go_ret
    exact ⟨rfl, rfl⟩
  have hc : codeOf s.data.toList = [63] := by
    unfold codeOf formTab prodB
    simp only [h0, h1, h2, h3, h4, h5, h6, h7, h8, h9, h10, h11, h12, h13, if_false]
  rw [hc]
  have n0 : (s.toList == [112, 114, 111, 100, 117, 99, 116]) = false := by rw [ByteArray.toList_eq]; exact beq_eq_false_iff_ne.2 h0
  have n1 : (s.toList == [111, 112, 101, 110]) = false := by rw [ByteArray.toList_eq]; exact beq_eq_false_iff_ne.2 h1
  have n2 : (s.toList == [111, 117, 116]) = false := by rw [ByteArray.toList_eq]; exact beq_eq_false_iff_ne.2 h2
  have n3 : (s.toList == [112, 97, 121]) = false := by rw [ByteArray.toList_eq]; exact beq_eq_false_iff_ne.2 h3
  have n4 : (s.toList == [102, 101, 101]) = false := by rw [ByteArray.toList_eq]; exact beq_eq_false_iff_ne.2 h4
  have n5 : (s.toList == [114, 97, 116, 101]) = false := by rw [ByteArray.toList_eq]; exact beq_eq_false_iff_ne.2 h5
  have n6 : (s.toList == [115, 116, 97, 116, 101]) = false := by rw [ByteArray.toList_eq]; exact beq_eq_false_iff_ne.2 h6
  have n7 : (s.toList == [114, 101, 118, 101, 114, 115, 101]) = false := by rw [ByteArray.toList_eq]; exact beq_eq_false_iff_ne.2 h7
  have n8 : (s.toList == [100, 97, 121]) = false := by rw [ByteArray.toList_eq]; exact beq_eq_false_iff_ne.2 h8
  have n9 : (s.toList == [99, 108, 111, 115, 101]) = false := by rw [ByteArray.toList_eq]; exact beq_eq_false_iff_ne.2 h9
  have n10 : (s.toList == [97, 99, 99, 114, 117, 101]) = false := by rw [ByteArray.toList_eq]; exact beq_eq_false_iff_ne.2 h10
  have n11 : (s.toList == [101, 118, 101, 110, 116, 115]) = false := by rw [ByteArray.toList_eq]; exact beq_eq_false_iff_ne.2 h11
  have n12 : (s.toList == [116, 114, 105, 97, 108]) = false := by rw [ByteArray.toList_eq]; exact beq_eq_false_iff_ne.2 h12
  have n13 : (s.toList == [108, 97, 115, 116]) = false := by rw [ByteArray.toList_eq]; exact beq_eq_false_iff_ne.2 h13
  clear hc h0 h1 h2 h3 h4 h5 h6 h7 h8 h9 h10 h11 h12 h13
  go_enter Tryz.func18, Tryz.ntmps18
  go_wp2
  go_ret
  exact ⟨rfl, rfl⟩
set_option maxRecDepth 100000 in
set_option maxHeartbeats 4000000 in
theorem refNumber_any (s : ByteArray) (w : World) (hs : s.size ≤ 400) :
    Calls Tryz.prog 22 #[.string s] w fun e w' => (∃ v : Int, e = .returned (.tuple #[.int .i64 v, .bool (numOk s.data.toList)]) ∧ (numOk s.data.toList = true → v = (numOf s.data.toList : Int))) ∧ w = w' := by
  have hl0 : s.data.toList.length = s.size := by simp
  have HK := Lib.hid (numOk_iff s.data.toList)
  obtain ⟨R, hR⟩ : ∃ R, R = numOk s.data.toList := ⟨_, rfl⟩
  rw [← hR] at HK ⊢
  clear hR
  have HNE : Hid (s.size = 0 → R = false) := Lib.hid fun h => by
    cases hr : R
    · rfl
    · have := (HK.out.1 hr).1
      exact absurd (List.length_eq_zero_iff.1 (by rw [hl0]; exact h)) this
  have H18 : Hid (18 < s.size → R = false) := Lib.hid fun h => by
    cases hr : R
    · rfl
    · have := (HK.out.1 hr).2.1
      omega
  have HH : Hid (∀ h : 1 < s.size, s[0]'(by omega) = 48 → R = false) := Lib.hid fun h h2 => by
    cases hr : R
    · rfl
    · have := (HK.out.1 hr).2.2.2 (by omega)
      exact absurd (by rw [List.getElem?_eq_getElem (by omega)]; exact congrArg some h2) this
  have HDG : Hid (∀ k (h : k < s.size), digitB (s[k]'h) = false → R = false) := Lib.hid fun k h h2 => by
    cases hr : R
    · rfl
    · have := List.all_eq_true.1 (HK.out.1 hr).2.2.1 (s[k]'h) (List.getElem_mem (by rw [hl0]; exact h))
      rw [h2] at this
      cases this
  have HG : Hid (s.size ≠ 0 → s.size ≤ 18 → (∀ h : 1 < s.size, s[0]'(by omega) ≠ 48) → (∀ k (h : k < s.size), digitB (s[k]'h) = true) → R = true) := Lib.hid fun h h18 hh hd => HK.out.2 ⟨fun e => h (by rw [← hl0, e]; rfl), by omega, List.all_eq_true.2 (fun x hx => by
      obtain ⟨k, hk, rfl⟩ := List.mem_iff_getElem.1 hx
      exact hd k (by omega)), fun h2 h3 => by
        rw [List.getElem?_eq_getElem (by omega)] at h3
        exact hh (by omega) (by injection h3)⟩
  clear HK
  by_cases h0 : s.size = 0
  · obtain rfl := HNE.out h0
    have h1 : (s.size : Int) < 1 := by omega
    clear HNE H18 HH HDG HG
    go_enter Tryz.func22, Tryz.ntmps22
    go_wp2
    go_ret2
    exact ⟨⟨0, rfl, fun h => by cases h⟩, rfl⟩
  by_cases h18 : 18 < s.size
  · obtain rfl := H18.out h18
    have h1 : (18 : Int) < (s.size : Int) := by omega
    clear HNE H18 HH HDG HG
    go_enter Tryz.func22, Tryz.ntmps22
    go_wp2
    go_ret2
    exact ⟨⟨0, rfl, fun h => by cases h⟩, rfl⟩
  have hs1 : 0 < s.size := by omega
  have hx0 : (s[0]'hs1).toNat < 256 := (s[0]'hs1).toNat_lt
  by_cases hh : 1 < s.size ∧ (s[0]'hs1) = 48
  · obtain ⟨h1, h2⟩ := hh
    obtain rfl := HH.out h1 h2
    clear HNE H18 HH HDG HG
    go_enter Tryz.func22, Tryz.ntmps22
    go_wp2
    go_ret2
    exact ⟨⟨0, rfl, fun h => by cases h⟩, rfl⟩
  have H48 : Hid (∀ h : 1 < s.size, s[0]'(by omega) ≠ 48) := Lib.hid fun h e => hh ⟨h, e⟩
  have HG2 := Lib.hid (HG.out h0 (by omega) H48.out)
  have h48 : 1 < s.size → (((s[0]'hs1).toNat : Int) == 48) = false := fun h => by
    rw [beq_eq_false_iff_ne]
    intro e
    exact hh ⟨h, UInt8.toNat_inj.1 (by simpa using Int.ofNat.inj e)⟩
  clear HNE H18 HH HG H48 hh
  rcases (show s.size = 1 ∨ 1 < s.size by omega) with hz | hz
  all_goals
    (try have h48b := h48 hz)
    clear h48
    go_enter Tryz.func22, Tryz.ntmps22
    go_wp2_with fail
    go_loopw [4, 5] (fun t u wr => ∃ k : Nat, k ≤ s.size ∧ u = .int .i64 k ∧ t = .int .i64 (numOf (s.data.toList.take k) : Nat) ∧ Hid (numOf (s.data.toList.take k) < 10 ^ k) ∧ Hid (∀ j (h : j < s.size), j < k → digitB (s[j]'h) = true) ∧ wr = w) (fun _ u _ => s.size - (intOf u).toNat)
    case atStart => exact ⟨0, Nat.zero_le _, rfl, rfl, Lib.hid (by rw [List.take_zero]; exact Nat.zero_lt_one), Lib.hid (fun j h h2 => by omega), rfl⟩
    case round =>
      obtain ⟨k, hk, rfl, rfl, HV, HP, rfl⟩ := hrel
      by_cases h1 : k < s.size
      · have hk4 : (k : Int) < (s.size : Int) := by omega
        have htk : s.data.toList.take (k + 1) = s.data.toList.take k ++ [s[k]'h1] := take_snoc' _ k (by rw [hl0]; exact h1)
        have hnm := numOf_snoc (s.data.toList.take k) (s[k]'h1)
        rw [← htk] at hnm
        have hx8 := (s[k]'h1).toNat_lt
        have HDK := Lib.hid (HDG.out k h1)
        have HPK : Hid (digitB (s[k]'h1) = true → ∀ j (h : j < s.size), j < k + 1 → digitB (s[j]'h) = true) := Lib.hid fun hd j h hj => by
          by_cases e : j = k
          · subst e; exact hd
          · exact HP.out j h (by omega)
        generalize hx : s[k]'h1 = x at *
        clear htk
        have HNM := Lib.hid hnm
        have hp18 : 10 ^ k ≤ 10 ^ 17 := Nat.pow_le_pow_right (by omega) (by omega)
        have HV2 := HV.out
        have hp1 : 10 ^ (k + 1) = 10 ^ k * 10 := Nat.pow_succ 10 k
        have HPW : Hid (10 ^ k ≤ 100000000000000000 ∧ 10 ^ (k + 1) = 10 ^ k * 10) := Lib.hid ⟨hp18, hp1⟩
        have hv18 : numOf (s.data.toList.take k) < 100000000000000000 := Nat.lt_of_lt_of_le HV2 hp18
        clear hnm hp18 hp1 HV2
        obtain ⟨V, hV⟩ : ∃ V, V = numOf (s.data.toList.take k) := ⟨_, rfl⟩
        rw [← hV] at HNM HV hv18
        simp only [← hV]
        clear hV
        by_cases hd : 48 ≤ x.toNat ∧ x.toNat ≤ 57
        · obtain ⟨d1, d2⟩ := hd
          have HP2 := Lib.hid (HPK.out ((digit_cond x).1 ⟨d1, d2⟩))
          clear HPK HDK HP
          go_wp2
          go_roundw
          case rel => exact ⟨k + 1, by omega, by go_num, by rw [HNM.out]; exact int_eq (by omega), Lib.hid (by rw [HNM.out, HPW.out.2]; have := HV.out; omega), HP2, trivial⟩
          case measure =>
            simp only [intOf]
            omega
        · have hdf : digitB x = false := by
            cases e : digitB x
            · rfl
            · exact absurd ((digit_cond x).2 e) hd
          obtain rfl := HDK.out hdf
          clear HPK HDK HP HDG HG2
          by_cases hd1 : 48 ≤ x.toNat
          · have hd2 : 57 < (x.toNat : Int) := by omega
            clear hd
            go_wp2
            go_ret2
            exact ⟨⟨0, rfl, fun h => by cases h⟩, rfl⟩
          · have hd2 : (x.toNat : Int) < 48 := by omega
            clear hd
            go_wp2
            go_ret2
            exact ⟨⟨0, rfl, fun h => by cases h⟩, rfl⟩
      · have hke : k = s.size := by omega
        obtain rfl := HG2.out (fun j h => HP.out j h (by omega))
        rw [List.take_of_length_le (by omega)]
        clear HP HDG HG2 HV
        go_wp2
        go_ret2
        exact ⟨rfl, rfl⟩
end Go.Proofs.YthlgjbmkealjjaaGreatDoor

namespace Go.Proofs.YthlgjbmkealjjaaGreatDoor
open Go.RowKit
set_option linter.unusedVariables false
/-- Are commands alike? -/
def sameC (c d : Cm) : Prop := c.op = d.op ∧ c.name = d.name ∧ c.text = d.text ∧ c.args = d.args
instance (c d : Cm) : Decidable (sameC c d) := by unfold sameC; infer_instance
theorem ne_list {a b : ByteArray} (h : a ≠ b) : (a.toList == b.toList) = false := by
  rw [ByteArray.toList_eq, ByteArray.toList_eq]
  exact beq_eq_false_iff_ne.2 fun e => h (ByteArray.ext (Array.toList_inj.1 e))
theorem rdI_at {w : World} {A : Option Addr} {n : Nat} {xs : List Int} (h : Rd w 1 A n (xs.map (Value.int .i64))) (j : Nat) (hj : j < xs.length) : ∃ b off, A = some ⟨b, off, none⟩ ∧ w.cell? ⟨b, off + j, none⟩ = some (.int .i64 xs[j]) :=
  Rd.cell h (by rw [List.getElem?_map, List.getElem?_eq_getElem hj]; rfl)
set_option maxRecDepth 100000 in
set_option maxHeartbeats 4000000 in
theorem refSame_any (c d : Cm) (A : Option Addr) (n k : Nat) (A' : Option Addr) (n' k' : Nat) (w : World) (hn : Hid (c.args.length = n)) (hn' : Hid (d.args.length = n')) (hr : Rd w 1 A n (c.args.map (Value.int .i64))) (hr' : Rd w 1 A' n' (d.args.map (Value.int .i64))) (hm : n ≤ 140737488355328) (hm' : n' ≤ 140737488355328) :
    Calls Tryz.prog 10 #[.agg (cmCells c (.slice A n k)), .agg (cmCells d (.slice A' n' k'))] w fun e w' => e = .returned (.bool (decide (sameC c d))) ∧ Below w.heap.size w w' := by
  obtain ⟨R, hR⟩ : ∃ R, R = decide (sameC c d) := ⟨_, rfl⟩
  rw [← hR]
  obtain ⟨o1, n1, t1, a1⟩ := c
  obtain ⟨o2, n2, t2, a2⟩ := d
  unfold cmCells
  dsimp only at *
  have HR : Hid (R = decide (o1 = o2 ∧ n1 = n2 ∧ t1 = t2 ∧ a1 = a2)) := Lib.hid (by rw [hR]; unfold sameC; rfl)
  clear hR
  have HB0 : ∀ x y : Array Value, Below w.heap.size w ((w.alloc (.cells x 25)).alloc (.cells y 25)) := fun x y => ((Below.refl _ _).alloc (Nat.le_refl _) _).alloc (by simp) _
  by_cases ho : o1 = o2
  · subst ho
    by_cases hna : n1 = n2
    · subst hna
      by_cases htx : t1 = t2
      · subst htx
        by_cases hln : n = n'
        · subst hln
          have HT : Hid (∀ i (h : i < n), a1[i]'(by rw [hn.out]; exact h) ≠ a2[i]'(by rw [hn'.out]; exact h) → R = false) := Lib.hid fun i h hne => by
            rw [HR.out]
            exact decide_eq_false fun e => hne (by obtain ⟨_, _, _, e⟩ := e; subst e; rfl)
          have HE : Hid ((∀ i (h : i < n), a1[i]'(by rw [hn.out]; exact h) = a2[i]'(by rw [hn'.out]; exact h)) → R = true) := Lib.hid fun h => by
            rw [HR.out]
            exact decide_eq_true ⟨rfl, rfl, rfl, List.ext_getElem (by rw [hn.out, hn'.out]) fun i h1 h2 => h i (by rw [← hn.out]; exact h1)⟩
          have HRD := Lib.hid hr
          have HRD' := Lib.hid hr'
          clear HR hr hr'
          go_enter Tryz.func10, Tryz.ntmps10
          go_wp2_with fail
          go_loopw [5, 37] (fun _ t wr => ∃ i : Nat, i ≤ n ∧ t = .int .i64 i ∧ Hid (∀ j (h : j < n), j < i → a1[j]'(by rw [hn.out]; exact h) = a2[j]'(by rw [hn'.out]; exact h)) ∧ wr.heap[w.heap.size]? = some (.cells #[.string o1, .string n1, .slice A n k, .string t1] 25 (0, 0)) ∧ wr.heap[w.heap.size + 1]? = some (.cells #[.string o1, .string n1, .slice A' n k', .string t1] 25 (0, 0)) ∧ Hid (Below w.heap.size w wr)) (fun _ t _ => n - (intOf t).toNat)
          case atStart => exact ⟨0, Nat.zero_le _, rfl, Lib.hid (fun j h h2 => by omega), heapN_old (heap_alloc_new _ _), by rw [← World.size_alloc w]; exact heap_alloc_new _ _, Lib.hid (HB0 _ _)⟩
          case round =>
            obtain ⟨i, hi, rfl, HP, hc1, hc2, HB⟩ := hrel
            by_cases h1 : i < n
            · obtain ⟨b, off, rfl, hx1⟩ := rdI_at (HRD.out.below HB.out) i (by rw [hn.out]; exact h1)
              obtain ⟨b', off', rfl, hx2⟩ := rdI_at (HRD'.out.below HB.out) i (by rw [hn'.out]; exact h1)
              have HTI := Lib.hid (HT.out i h1)
              have HPI : Hid (a1[i]'(by rw [hn.out]; exact h1) = a2[i]'(by rw [hn'.out]; exact h1) → ∀ j (h : j < n), j < i + 1 → a1[j]'(by rw [hn.out]; exact h) = a2[j]'(by rw [hn'.out]; exact h)) := Lib.hid fun e j h hj => by
                by_cases e2 : j = i
                · subst e2; exact e
                · exact HP.out j h (by omega)
              generalize a1[i]'(by rw [hn.out]; exact h1) = x at *
              generalize a2[i]'(by rw [hn'.out]; exact h1) = y at *
              have c1 : wr.cell? ⟨w.heap.size, 2, none⟩ = some (.slice (some ⟨b, off, none⟩) n k) := by rw [cell_of_row _ _ _ _ _ _ hc1]; rfl
              have c2 : wr.cell? ⟨w.heap.size + 1, 2, none⟩ = some (.slice (some ⟨b', off', none⟩) n k') := by rw [cell_of_row _ _ _ _ _ _ hc2]; rfl
              have HC1 := Lib.hid hc1
              have HC2 := Lib.hid hc2
              clear hc1 hc2
              have hin : (i : Int) < (n : Int) := by omega
              by_cases hxy : x = y
              · subst hxy
                have HP2 := Lib.hid (HPI.out rfl)
                clear HP HTI HPI
                go_wp2_with fail
                go_region
                go_wp2
                go_roundw
                case rel => exact ⟨i + 1, by omega, by go_num, HP2, HC1.out, HC2.out, Lib.hid (below_drewN HB.out 1)⟩
                case measure =>
                  simp only [intOf]
                  omega
              · obtain rfl := HTI.out hxy
                have hxb : (x == y) = false := by rw [beq_eq_false_iff_ne]; exact hxy
                clear HP HPI
                go_wp2_with fail
                go_region
                go_wp2
                go_ret
                exact ⟨rfl, below_drewN HB.out 1⟩
            · obtain rfl := HE.out (fun j h => HP.out j h (by omega))
              have hi2 : i = n := by omega
              clear HP HT HE
              go_wp2
              go_ret
              exact ⟨rfl, HB.out⟩
        · obtain rfl : R = false := by
            rw [HR.out]
            exact decide_eq_false fun h => hln (by rw [← hn.out, ← hn'.out, h.2.2.2])
          have hx : ((n : Int) == (n' : Int)) = false := by rw [beq_eq_false_iff_ne]; omega
          go_enter Tryz.func10, Tryz.ntmps10
          go_wp2
          go_ret
          exact ⟨rfl, HB0 _ _⟩
      · obtain rfl : R = false := by
          rw [HR.out]
          exact decide_eq_false fun h => htx h.2.2.1
        have hx := ne_list htx
        go_enter Tryz.func10, Tryz.ntmps10
        go_wp2
        go_ret
        exact ⟨rfl, HB0 _ _⟩
    · obtain rfl : R = false := by
        rw [HR.out]
        exact decide_eq_false fun h => hna h.2.1
      have hx := ne_list hna
      go_enter Tryz.func10, Tryz.ntmps10
      go_wp2
      go_ret
      exact ⟨rfl, HB0 _ _⟩
  · obtain rfl : R = false := by
      rw [HR.out]
      exact decide_eq_false fun h => ho h.1
    have hx := ne_list ho
    go_enter Tryz.func10, Tryz.ntmps10
    go_wp2
    go_ret
    exact ⟨rfl, HB0 _ _⟩
theorem cells4 {W : World} {g : Nat} {t : TypeId} {a b c d : Value} (h : W.heap[g]? = some (.cells #[a, b, c, d] t (0, 0))) : W.cell? ⟨g, 0, none⟩ = some a ∧ W.cell? ⟨g, 1, none⟩ = some b ∧ W.cell? ⟨g, 2, none⟩ = some c ∧ W.cell? ⟨g, 3, none⟩ = some d ∧ W.frozen? ⟨g, 0, none⟩ = false ∧ W.frozen? ⟨g, 1, none⟩ = false ∧ W.frozen? ⟨g, 2, none⟩ = false ∧ W.frozen? ⟨g, 3, none⟩ = false := by
  refine ⟨?_, ?_, ?_, ?_, ?_, ?_, ?_, ?_⟩
  all_goals first
    | (rw [cell_of_row _ _ _ _ _ _ h]; rfl)
    | simp [World.frozen?, h]
theorem own_mono {w : World} {base base' : Nat} {t : TypeId} {sz n : Nat} {v : Value} {vs : List Value} (h : w.ownsRow base t sz v n vs) (hb : base' ≤ base) : w.ownsRow base' t sz v n vs := by
  obtain ⟨h1, h2⟩ := h
  refine ⟨h1, ?_⟩
  rcases h2 with h2 | ⟨g, cap, cur, e, hg, hr⟩
  · exact .inl h2
  · exact .inr ⟨g, cap, cur, e, Nat.le_trans hb hg, hr⟩
theorem lit_e64 (w : World) : (w.alloc (.cells #[] 2)).ownsRow w.heap.size 2 1 (.slice (some ⟨w.heap.size, 0, none⟩) 0 0) 0 ([].map (Value.int .i64)) :=
  ⟨rfl, .inr ⟨w.heap.size, 0, #[], rfl, Nat.le_refl _, heap_alloc_new w _, Nat.le_refl _, by unfold maxLen; omega, rfl, rfl⟩⟩
set_option maxRecDepth 100000 in
set_option maxHeartbeats 4000000 in
theorem own_any (c : Cm) (A : Option Addr) (n k : Nat) (w : World) (hn : Hid (c.args.length = n)) (hr : Rd w 1 A n (c.args.map (Value.int .i64))) (hm : n * 8 ≤ 140737488355328) :
    Calls Tryz.prog 12 #[.agg (cmCells c (.slice A n k))] w fun e w' => (∃ A' k', e = .returned (.agg (cmCells c (.slice A' n k'))) ∧ w'.ownsRow w.heap.size 2 1 (.slice A' n k') n (c.args.map (Value.int .i64))) ∧ Below w.heap.size w w' := by
  obtain ⟨o1, n1, t1, a1⟩ := c
  unfold cmCells
  dsimp only at *
  have HN := hn
  have HRD := Lib.hid hr
  clear hr
  go_enter Tryz.func12, Tryz.ntmps12
  go_wp2_with (at_builtin; refine app_a64 rfl _ _ rfl (w.heap.size + 2) (.slice (some ⟨w.heap.size + 2, 0, none⟩) 0 0) [] rfl (by rw [show w.heap.size + 2 = ((w.alloc (.cells #[.string o1, .string n1, .slice A n k, .string t1] 25)).alloc (.cells #[.string ⟨#[]⟩, .string ⟨#[]⟩, .slice none 0 0, .string ⟨#[]⟩] 25)).heap.size by simp]; exact lit_e64 _) A n k a1 rfl (by exact ((HRD.out.alloc _).alloc _).alloc _) (by simp; omega) (by simp) ?_)
  intro A' k' W3 hown hg hb
  have hb3 : Below (w.heap.size + 2) ((w.alloc (.cells #[.string o1, .string n1, .slice A n k, .string t1] 25)).alloc (.cells #[.string ⟨#[]⟩, .string ⟨#[]⟩, .slice none 0 0, .string ⟨#[]⟩] 25)) W3 :=
    ((Below.refl _ _).alloc (by simp) _).grown hg (by simp) (fun g hk => by have h2 : some (w.heap.size + 2) = some g := hk; injection h2 with h2; simp; omega)
  have g0 : W3.heap[w.heap.size]? = some (.cells #[.string o1, .string n1, .slice A n k, .string t1] 25 (0, 0)) := (hb3.block _ (by omega)).trans (heapN_old (heap_alloc_new _ _))
  have g1 : W3.heap[w.heap.size + 1]? = some (.cells #[.string ⟨#[]⟩, .string ⟨#[]⟩, .slice none 0 0, .string ⟨#[]⟩] 25 (0, 0)) := (hb3.block _ (by omega)).trans (by rw [← World.size_alloc w]; exact heap_alloc_new _ _)
  have HB := Lib.hid (Below.trans (((Below.refl w.heap.size w).alloc (Nat.le_refl _) _).alloc (by simp) _) (hb3.mono (by omega)))
  have HO := Lib.hid hown
  clear hb3 hown hg hb
  have c2 : W3.cell? ⟨w.heap.size, 2, none⟩ = some (.slice A n k) := by rw [cell_of_row _ _ _ _ _ _ g0]; rfl
  have f2 : W3.frozen? ⟨w.heap.size, 2, none⟩ = false := by simp [World.frozen?, g0]
  go_upto_region 2 with (fail)
  obtain ⟨W4, hW4⟩ : ∃ W4, W4 = W3.setCell ⟨w.heap.size, 2, none⟩ (.slice A' n k') := ⟨_, rfl⟩
  rw [← hW4]
  have h0 : W4.heap[w.heap.size]? = some (.cells #[.string o1, .string n1, .slice A' n k', .string t1] 25 (0, 0)) := by rw [hW4, heap_setCell_same W3 _ 2 _ _ _ g0]; rfl
  have h1 : W4.heap[w.heap.size + 1]? = some (.cells #[.string ⟨#[]⟩, .string ⟨#[]⟩, .slice none 0 0, .string ⟨#[]⟩] 25 (0, 0)) := by rw [hW4, set_oth _ _ _ _ _ (by omega)]; exact g1
  have HB4 : Hid (Below w.heap.size w W4) := Lib.hid (by rw [hW4]; exact Below.setCell (p := ⟨w.heap.size, 2, none⟩) HB.out (Nat.le_refl _) _)
  have HO4 : Hid (W4.ownsRow (w.heap.size + 2) 2 1 (.slice A' n k') n (a1.map (Value.int .i64))) := Lib.hid (by
    rw [hW4]
    exact ownE_keep HO.out fun g hk => set_oth _ _ _ _ _ (by have := (HO.out.lt g hk).1; omega))
  clear hW4 g0 g1 c2 f2 HO HB
  have hcells := cells4 h0
  have hcells1 := cells4 h1
  go_wp2
  have hg1 : (given W4 (w.heap.size + 1) (.string o1) (.string n1) (.slice A' n k') (.string t1)).heap[w.heap.size + 1]? = some (.cells #[.string o1, .string n1, .slice A' n k', .string t1] 25 (0, 0)) := given_at h1
  have hB5 : Below w.heap.size w (given W4 (w.heap.size + 1) (.string o1) (.string n1) (.slice A' n k') (.string t1)) := by
    unfold given
    exact Below.setCell (p := ⟨w.heap.size + 1, 3, none⟩) (Below.setCell (p := ⟨w.heap.size + 1, 2, none⟩) (Below.setCell (p := ⟨w.heap.size + 1, 1, none⟩) (Below.setCell (p := ⟨w.heap.size + 1, 0, none⟩) HB4.out (by simp) _) (by simp) _) (by simp) _) (by simp) _
  refine bodyPost_ret (results_cell_row (fn := Tryz.f12) rfl _ _ (w.heap.size + 1) 25 #[.string o1, .string n1, .slice A' n k', .string t1] (0, 0) _ rfl hg1 Tryz.underlying25 rfl infoCm) rfl ⟨⟨A', k', rfl, ?_⟩, hB5⟩
  exact own_mono (ownE_keep HO4.out fun g hk => given_oth (by have := (HO4.out.lt g hk).1; omega)) (by omega)
end Go.Proofs.YthlgjbmkealjjaaGreatDoor
