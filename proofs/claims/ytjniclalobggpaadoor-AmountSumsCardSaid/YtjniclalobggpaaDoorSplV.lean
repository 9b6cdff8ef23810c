/-
  Slices of int64: what they read as, own and same. No statement is proved here.
-/
import Derived.Test.YtjniclalobggpaaDoorLib
import Derived.Test.YtjniclalobggpaaDoorBytes
namespace Go.Proofs.YtjniclalobggpaaDoor
open Go.RowKit
set_option linter.unusedVariables false

def iv (x : Int) : Value := .int .i64 x
theorem iv_one (xs : List Int) : ∀ u ∈ xs.map iv, u.oneCell' = true := by
  intro u hu
  obtain ⟨x, _, rfl⟩ := List.mem_map.1 hu
  rfl
def RdI (w : World) (A : Option Addr) (n : Nat) (xs : List Int) : Prop := Rd w 1 A n (xs.map iv)
section
variable {w w' : World} {n : Nat} {A : Option Addr} {xs ys : List Int}
theorem RdI.len (h : RdI w A n xs) : xs.length = n := by have := h.1; simpa using this
theorem RdI.below (h : RdI w A n xs) (hb : Below w.heap.size w w') : RdI w' A n xs := Rd.below h hb
theorem RdI.alloc (h : RdI w A n xs) (o : Obj) : RdI (w.alloc o) A n xs := Rd.alloc h o
theorem RdI.nil (w : World) (A : Option Addr) : RdI w A 0 [] := Rd.nil w 1 A
theorem RdI.addr (h : RdI w A n xs) (hn : 0 < n) : ∃ b off, A = some ⟨b, off, none⟩ := by
  obtain ⟨b, off, e, _⟩ := h.2 (by have := h.len; simp; omega)
  exact ⟨b, off, e⟩
theorem RdI.cells {b off : Nat} (h : RdI w (some ⟨b, off, none⟩) n xs) : ∀ j (hj : j < xs.length), w.cell? ⟨b, off + j, none⟩ = some (.int .i64 xs[j]) := by
  intro j hj
  obtain ⟨b', off', e, hc⟩ := Rd.cell (j := j) (u := iv xs[j]) h (by simp [List.getElem?_eq_getElem hj])
  injection e with e
  injection e with e1 e2
  subst e1 e2
  exact hc
theorem RdI.mk {b off : Nat} (hl : xs.length = n) (h : ∀ j (hj : j < xs.length), w.cell? ⟨b, off + j, none⟩ = some (.int .i64 xs[j])) : RdI w (some ⟨b, off, none⟩) n xs := by
  refine ⟨by simp [hl], fun _ => ⟨b, off, rfl, fun j u hu => ?_⟩⟩
  have hj : j < xs.length := by
    rcases Nat.lt_or_ge j xs.length with h1 | h1
    · exact h1
    · rw [List.getElem?_eq_none (by simpa using h1)] at hu; cases hu
  rw [List.getElem?_eq_getElem (by simpa using hj)] at hu
  simp only [List.getElem_map] at hu
  injection hu with hu
  rw [← hu]
  exact h j hj
theorem RdI.cut (h : RdI w A n xs) {i j c : Nat} (hij : i ≤ j) (hj : j ≤ n) (hc : n ≤ c) :
    RdI w (if c = i then A else A.map (·.add i)) (j - i) ((xs.drop i).take (j - i)) := by
  have := Rd.cut h hij hj hc
  simp only [Nat.mul_one] at this
  unfold RdI
  rwa [List.map_take, List.map_drop]
theorem RdI.drewN (h : RdI w A n xs) (k : Nat) : RdI (w.drewN k) A n xs := h
end
theorem infoI : (Tryd.prog.info? 2).map (fun i => (i.zero, i.size, i.bytes)) = some (some (.int .i64 0), 1, 8) := by kernel_rfl
def OwnI (w : World) (base : Nat) (v : Value) (xs : List Int) : Prop := w.ownsRow base 2 1 v xs.length (xs.map iv)
section
variable {w w' : World} {base : Nat} {v : Value} {xs ys : List Int}
theorem OwnI.form (h : OwnI w base v xs) : ∃ A m c, v = .slice A m c ∧ Hid (xs.length = m) ∧ m ≤ c ∧ c ≤ maxLen ∧ RdI w A m xs ∧ (∀ a, A = some a → ∃ g, a = ⟨g, 0, none⟩ ∧ base ≤ g ∧ g < w.heap.size) := by
  have h0 := h
  rcases h.2 with ⟨rfl, hn⟩ | ⟨g, cap, cur, rfl, hg, hh, hc, hm, _⟩
  · have hx : xs = [] := List.eq_nil_of_length_eq_zero hn
    subst hx
    exact ⟨none, 0, 0, rfl, rfl, Nat.le_refl _, by simp [maxLen], RdI.nil _ _, fun a e => by cases e⟩
  · exact ⟨_, _, cap, rfl, rfl, hc, hm, Rd.of_own h0, fun a e => ⟨g, by injection e with e; exact e.symm, hg, (Array.getElem?_eq_some_iff.1 hh).1⟩⟩
theorem OwnI.lit (w : World) (cs : List Int) (hb : base ≤ w.heap.size) (hm : cs.length ≤ maxLen) :
    OwnI (w.alloc (.cells (cs.map iv).toArray 2)) base (.slice (some ⟨w.heap.size, 0, none⟩) cs.length cs.length) cs := by
  have := World.ownsRow_lit (base := base) (e := 2) (size := 1) w (cs.map iv).toArray cs.length hb hm (by simp)
  simpa [OwnI] using this
theorem OwnI.empty (w : World) (hb : base ≤ w.heap.size) : OwnI (w.alloc (.cells #[] 2)) base (.slice (some ⟨w.heap.size, 0, none⟩) 0 0) [] := OwnI.lit w [] hb (by simp [maxLen])
theorem OwnI.alloc (h : OwnI w base v xs) (o : Obj) : OwnI (w.alloc o) base v xs := World.ownsRow.alloc h o
theorem OwnI.below (h : OwnI w base v xs) (hb : Below w.heap.size w w') : OwnI w' base v xs := by
  refine ⟨h.1, ?_⟩
  rcases h.2 with h2 | ⟨g, cap, cur, hv, hg, hh, r⟩
  · exact .inl h2
  · exact .inr ⟨g, cap, cur, hv, hg, by rw [hb.block g (Array.getElem?_eq_some_iff.1 hh).1]; exact hh, r⟩
end
theorem RdI.lit (w : World) (cs : Array Value) (ys : List Int) (h : cs = (ys.map iv).toArray) (n : Nat) (hn : ys.length = n) : RdI (w.alloc (.cells cs 2)) (some ⟨w.heap.size, 0, none⟩) n ys := by
  subst h
  refine RdI.mk hn fun j hj => ?_
  rw [cell_of_row _ _ _ _ _ _ (heap_alloc_new w _)]
  simp [iv, hj]
theorem app_i64 {ops : Array Oper} {rest : List Oper} {o : Oper} {a : Act} {Q : Exit → Act → World → Prop} {w : World} (hgd : o.guard = none) (s x : Operand)
    (ho : o.op = .call { callee := .builtin .append, args := #[s, x], argTypes := #[33, 33] })
    (base : Nat) (v : Value) (xs : List Int) (hs : a.eval s = v) (hown : OwnI w base v xs)
    (A : Option Addr) (m c : Nat) (ys : List Int) (hx : a.eval x = .slice A m c) (hr : RdI w A m ys)
    (hlen : (xs.length + m) * 8 ≤ 140737488355328) (hbase : base ≤ w.heap.size)
    (h : ∀ v' w', OwnI w' base v' (xs ++ ys) → Below base w w' → w.grownBy w' v.ownBlock → wpList Tryd.prog ops Q rest (a.put o.dst v') w') : wpList Tryd.prog ops Q (o :: rest) a w := by
  obtain ⟨i0, hi, hz0, hz1, hz2⟩ := info_parts infoI
  have hl := hr.len
  refine wpList_append_rd w hgd s x 33 ho base 2 i0 (.int .i64 0) 1 8 Tryd.underlying33 hi hz0 hz1 hz2 rfl (by decide) v xs.length (xs.map iv) hs hown A m c (ys.map iv) hx hr (iv_one ys) (by unfold maxLen; omega) (by omega) hbase fun v' w' hown' hg _ => ?_
  refine h v' w' ?_ ((Below.refl base w).grown hg hbase fun k hk => (hown.lt k hk).1) hg
  unfold OwnI
  rw [List.length_append, List.map_append, hl]
  exact hown'
theorem elemSizeI (W : World) : (sizeOf (Tryd.prog.elem 33)).run Tryd.prog W = .ok 1 W := by kernel_rfl
theorem elemUndI : Tryd.prog.underlying 33 = some (.slice (Tryd.prog.elem 33)) := by kernel_rfl
theorem cutI_h {w : World} {A : Option Addr} {n : Nat} {xs : List Int} (h : RdI w A n xs) (c : Nat) (hc : n ≤ c) (j : Nat) (hj : j ≤ n) (J : Int) (hJ : J = (j : Int)) :
    ∃ A', (∀ W, (Instr.slice 33 (.slice A n c) none (some (.int .i64 J)) none).run Tryd.prog W = .ok (.slice A' j c) W) ∧ RdI w A' j (xs.take j) := by
  have hr := h.cut (Nat.zero_le j) hj hc
  simp only [List.drop_zero, Nat.sub_zero] at hr
  refine ⟨_, fun W => ?_, hr⟩
  subst hJ
  rw [run_slice_h W 33 A n c elemUndI .i64 _ (by omega) (by omega), elemSizeI]
  simp [Result.andThen, sliced]
set_option maxHeartbeats 400000 in
theorem ownI_any (A : Option Addr) (n c : Nat) (w : World) (xs : List Int) (h : RdI w A n xs) (hn : n * 8 ≤ 140737488355328) :
    Calls Tryd.prog 17 #[.slice A n c] w fun e w' => ∃ v, e = .returned v ∧ OwnI w' w.heap.size v xs ∧ Below w.heap.size w w' := by
  have hl := h.len
  go_enter Tryd.func17, Tryd.ntmps17
  go_wp2_with (at_builtin; refine app_i64 rfl _ _ rfl w.heap.size _ [] rfl (OwnI.empty w (Nat.le_refl _)) A n c xs rfl (h.alloc _) ?c1 ?c2 ?_)
  case c1 => simp; omega
  case c2 => simp
  intro v w1 hv hb _
  go_wp2
  go_ret
  exact ⟨v, rfl, hv, ((Below.refl _ _).alloc (Nat.le_refl _) _).trans hb⟩
theorem take_ne {xs ys : List Int} (k : Nat) (hx : k < xs.length) (hy : k < ys.length) (h : xs[k] ≠ ys[k]) : decide (xs = ys) = false := by
  rw [decide_eq_false_iff_not]; rintro rfl; exact h rfl
set_option maxHeartbeats 1000000 in
theorem sameI_any (A : Option Addr) (n c : Nat) (xs : List Int) (A' : Option Addr) (n' c' : Nat) (ys : List Int) (w : World) (h : RdI w A n xs) (h' : RdI w A' n' ys) (hn : n ≤ 140737488355328) (hn' : n' ≤ 140737488355328) :
    Calls Tryd.prog 19 #[.slice A n c, .slice A' n' c'] w fun e w' => e = .returned (.bool (decide (xs = ys))) ∧ Below w.heap.size w w' := by
  have hl := h.len
  have hl' := h'.len
  by_cases hnn : n = n'
  · have HNN : decide ((n : Int) = (n' : Int)) = true := decide_eq_true (by omega)
    have T1 : ((n : Int) != (n' : Int)) = false := by rw [bne_eq_false_iff_eq]; omega
    have HN := Lib.hid hnn
    have HL := Lib.hid hl
    have HL' := Lib.hid hl'
    clear hnn hl hl'
    go_enter Tryd.func19, Tryd.ntmps19
    go_wp2_with fail
    clear T1 HNN
    go_loopw [13] (fun i wr => ∃ (k q : Nat), k ≤ n ∧ i = .int .i64 k ∧ wr = w.drewN q ∧ Hid (∀ j, j < k → xs[j]? = ys[j]?)) (fun i _ => n - (intOf i).toNat)
    case atStart => exact ⟨0, 0, by omega, rfl, rfl, fun j hj => by omega⟩
    case round =>
      obtain ⟨k, q, hk, rfl, rfl, HE⟩ := hrel
      have hl := HL.out
      have hl' := HL'.out
      have hnn := HN.out
      by_cases hlt : k < n
      · obtain ⟨b, off, rfl⟩ := h.addr (by omega)
        obtain ⟨b', off', rfl⟩ := h'.addr (by omega)
        have c1 := h.cells k (by omega)
        have c2 := h'.cells k (by omega)
        have hk1 : (k : Int) < (n : Int) := by omega
        have hk2 : (k : Int) < (n' : Int) := by omega
        obtain ⟨x, hx⟩ : ∃ x, xs[k]'(by omega) = x := ⟨_, rfl⟩
        obtain ⟨y, hy⟩ : ∃ y, ys[k]'(by omega) = y := ⟨_, rfl⟩
        rw [hx] at c1
        rw [hy] at c2
        by_cases e : x = y
        · have T : (x != y) = false := by simp [e]
          have HE2 : Hid (∀ j, j < k + 1 → xs[j]? = ys[j]?) := Lib.hid (fun j hj => by
            by_cases e2 : j = k
            · subst e2
              rw [List.getElem?_eq_getElem (by omega), List.getElem?_eq_getElem (by omega), hx, hy, e]
            · exact HE.out j (by omega))
          clear hx hy e hl hl' hnn HE
          go_wp2_with fail
          go_quiet (fail)
          go_wp2
          go_roundw
          case rel => exact ⟨k + 1, _, by omega, by go_num, rfl, HE2⟩
          case measure => simp [intOf]; omega
        · have T : (x != y) = true := by simp [e]
          have HR : Hid (decide (xs = ys) = false) := Lib.hid (take_ne k (by omega) (by omega) (by rw [hx, hy]; exact e))
          clear hx hy e hl hl' hnn HE
          go_wp2_with fail
          go_quiet (fail)
          go_wp2
          go_ret
          exact ⟨ret_bool HR.out.symm, below_drewN (below_drewN (Below.refl _ _) _) _⟩
      · have HR : Hid (decide (xs = ys) = true) := Lib.hid (decide_eq_true (List.ext_getElem? fun j => by
          by_cases e : j < n
          · exact HE.out j (by omega)
          · rw [List.getElem?_eq_none (by omega), List.getElem?_eq_none (by omega)]))
        clear hl hl' hnn HE
        go_wp2
        go_ret
        exact ⟨ret_bool HR.out.symm, below_drewN (Below.refl _ _) _⟩
  · have T1 : ((n : Int) != (n' : Int)) = true := by rw [bne_iff_ne]; omega
    have HR : Hid (decide (xs = ys) = false) := Lib.hid (decide_eq_false (fun e => by subst e; omega))
    rw [HR.out]
    clear hl hl' hnn HR
    go_enter Tryd.func19, Tryd.ntmps19
    go_wp2
    go_ret
    exact ⟨rfl, Below.refl _ _⟩
end Go.Proofs.YtjniclalobggpaaDoor
