/-
  Words for memory over any program: a slice that reads as a list ('Rd', 'RdB'), laws on cuts, conversions and appends of such slices. No statement is proved here.
-/
import Derived.WalkKit
import Derived.WalkLawsBesides
import Derived.WalkSpells
import Derived.Maps.AppendAt
import Derived.Deep.AppendLies
import Derived.Deep.Draws
import Derived.Deep.QuietTactic
import Derived.Deep.LoopGhost
import Derived.BigQuiet
import Derived.RegionTactic
import Derived.OwnWalk
import Derived.Lib.Hide
namespace Go.Proofs.YthlgjbmkealjjaaGreatDoor
open Go.RowKit

/-- A byte as the value of a cell. -/
def bv (x : UInt8) : Value := .int .u8 (x.toNat : Int)
theorem bv_one (xs : List UInt8) : ∀ u ∈ xs.map bv, u.oneCell' = true := by
  intro u hu
  obtain ⟨x, _, rfl⟩ := List.mem_map.1 hu
  rfl

theorem u8_ofNat (n : Nat) (h : n < 256) : (UInt8.ofNat n).toNat = n := by
  rw [UInt8.toNat_ofNat']; exact Nat.mod_eq_of_lt h
theorem int_eq {k : IntKind} {a b : Int} (h : a = b) : Value.int k a = Value.int k b := by rw [h]
theorem ret_eq {a b : Value} (h : a = b) : Ending.returned a = Ending.returned b := by rw [h]
theorem ret_int {k : IntKind} {a b : Int} (h : a = b) : Ending.returned (.int k a) = Ending.returned (.int k b) := by rw [h]
theorem ret_bool {a b : Bool} (h : a = b) : Ending.returned (.bool a) = Ending.returned (.bool b) := by rw [h]
theorem take_snoc' {α : Type} (l : List α) (k : Nat) (h : k < l.length) : l.take (k + 1) = l.take k ++ [l[k]] := by
  rw [List.take_succ_eq_append_getElem h]

/-- The slice value '.slice A n c' reads as the cells 'vs', 'sz' cells an element. -/
def Rd (w : World) (sz : Nat) (A : Option Addr) (n : Nat) (vs : List Value) : Prop :=
  vs.length = n * sz ∧ (0 < vs.length → ∃ b off, A = some ⟨b, off, none⟩ ∧ ∀ j u, vs[j]? = some u → w.cell? ⟨b, off + j, none⟩ = some u)

/-- The slice value '.slice A n c' reads as the bytes 'xs'. -/
def RdB (w : World) (A : Option Addr) (n : Nat) (xs : List UInt8) : Prop := Rd w 1 A n (xs.map bv)

theorem add_plain (b off j : Nat) : (⟨b, off, none⟩ : Addr).add j = ⟨b, off + j, none⟩ := by
  unfold Addr.add; split <;> simp_all

section
variable {w w' : World} {sz n : Nat} {A : Option Addr} {vs : List Value} {xs : List UInt8}

theorem Rd.nil (w : World) (sz : Nat) (A : Option Addr) : Rd w sz A 0 [] := ⟨by simp, fun h => absurd h (by simp)⟩
theorem Rd.below (h : Rd w sz A n vs) (hb : Below w.heap.size w w') : Rd w' sz A n vs :=
  ⟨h.1, fun hn => by
    obtain ⟨b, off, e, hc⟩ := h.2 hn
    exact ⟨b, off, e, fun j u hu => cell_later hb (hc j u hu)⟩⟩
theorem Rd.keep (h : Rd w sz A n vs) (hk : ∀ p u, w.cell? p = some u → w'.cell? p = some u) : Rd w' sz A n vs :=
  ⟨h.1, fun hn => by
    obtain ⟨b, off, e, hc⟩ := h.2 hn
    exact ⟨b, off, e, fun j u hu => hk _ _ (hc j u hu)⟩⟩
theorem Rd.drew (h : Rd w sz A n vs) : Rd w.drew sz A n vs := h
theorem Rd.drewN (h : Rd w sz A n vs) (k : Nat) : Rd (w.drewN k) sz A n vs := h
theorem Rd.alloc (h : Rd w sz A n vs) (o : Obj) : Rd (w.alloc o) sz A n vs :=
  h.keep fun p _ hp => (World.cell?_alloc_lt w o p (World.block_lt_of_cell? _ _ hp)).trans hp
theorem Rd.cell {j : Nat} {u : Value} (h : Rd w sz A n vs) (hj : vs[j]? = some u) : ∃ b off, A = some ⟨b, off, none⟩ ∧ w.cell? ⟨b, off + j, none⟩ = some u := by
  have hl : 0 < vs.length := by
    rcases Nat.eq_zero_or_pos vs.length with h0 | h0
    · rw [List.eq_nil_of_length_eq_zero h0] at hj; simp at hj
    · exact h0
  obtain ⟨b, off, e, hc⟩ := h.2 hl
  exact ⟨b, off, e, hc j u hj⟩
theorem RdB.len (h : RdB w A n xs) : xs.length = n := by have := h.1; simpa using this
theorem RdB.below (h : RdB w A n xs) (hb : Below w.heap.size w w') : RdB w' A n xs := Rd.below h hb
theorem RdB.alloc (h : RdB w A n xs) (o : Obj) : RdB (w.alloc o) A n xs := Rd.alloc h o
theorem RdB.nil (w : World) (A : Option Addr) : RdB w A 0 [] := Rd.nil w 1 A
theorem RdB.addr (h : RdB w A n xs) (hn : 0 < n) : ∃ b off, A = some ⟨b, off, none⟩ := by
  obtain ⟨b, off, e, _⟩ := h.2 (by have := h.len; simp; omega)
  exact ⟨b, off, e⟩
/-- The address is known: every cell. -/
theorem RdB.cells {b off : Nat} (h : RdB w (some ⟨b, off, none⟩) n xs) : ∀ j (hj : j < xs.length), w.cell? ⟨b, off + j, none⟩ = some (.int .u8 (xs[j].toNat : Int)) := by
  intro j hj
  obtain ⟨b', off', e, hc⟩ := Rd.cell (j := j) (u := bv xs[j]) h (by simp [List.getElem?_eq_getElem hj])
  injection e with e
  injection e with e1 e2
  subst e1 e2
  exact hc
theorem RdB.mk {b off : Nat} (hl : xs.length = n) (h : ∀ j (hj : j < xs.length), w.cell? ⟨b, off + j, none⟩ = some (.int .u8 (xs[j].toNat : Int))) : RdB w (some ⟨b, off, none⟩) n xs := by
  refine ⟨by simp [hl], fun _ => ⟨b, off, rfl, fun j u hu => ?_⟩⟩
  have hj : j < xs.length := by
    rcases Nat.lt_or_ge j xs.length with h1 | h1
    · exact h1
    · rw [List.getElem?_eq_none (by simpa using h1)] at hu; cases hu
  rw [List.getElem?_eq_getElem (by simpa using hj)] at hu
  simp only [List.getElem_map] at hu
  injection hu with hu
  rw [← hu]
  exact h j hj

/-- What the call owns reads so. -/
theorem Rd.of_own {base e size : Nat} {c : Nat} (h : w.ownsRow base e size (.slice A n c) n vs) : Rd w size A n vs := by
  refine ⟨h.1, fun hn => ?_⟩
  have hp : 0 < n := by
    rcases Nat.eq_zero_or_pos n with h0 | h0
    · have := h.1; subst h0; simp at this; simp [this] at hn
    · exact h0
  obtain ⟨g, cap, hv, _, hlt⟩ := h.form hp
  have hA : A = some ⟨g, 0, none⟩ := by injection hv
  subst hA
  refine ⟨g, 0, rfl, fun j u hu => ?_⟩
  have := h.cells (g := g) rfl j u hu
  rwa [add_plain] at this

/-- A cut from i to j, wherever the model lays it. -/
theorem Rd.cut (h : Rd w sz A n vs) {i j c : Nat} (hij : i ≤ j) (hj : j ≤ n) (hc : n ≤ c) :
    Rd w sz (if c = i then A else A.map (·.add (i * sz))) (j - i) ((vs.drop (i * sz)).take ((j - i) * sz)) := by
  have hmul : (j - i) * sz ≤ n * sz - i * sz := by rw [← Nat.sub_mul]; exact Nat.mul_le_mul_right _ (by omega)
  have hlen : ((vs.drop (i * sz)).take ((j - i) * sz)).length = (j - i) * sz := by
    rw [List.length_take, List.length_drop, h.1]; omega
  refine ⟨hlen, fun hn => ?_⟩
  rw [hlen] at hn
  have hji : 0 < j - i := Nat.pos_of_mul_pos_right hn
  have hv : 0 < vs.length := by
    rw [h.1]
    have hsz : 0 < sz := Nat.pos_of_mul_pos_left hn
    exact Nat.mul_pos (by omega) hsz
  obtain ⟨b, off, rfl, hcell⟩ := h.2 hv
  rw [if_neg (by omega)]
  refine ⟨b, off + i * sz, by simp [add_plain], fun k u hu => ?_⟩
  rw [List.getElem?_take] at hu
  split at hu
  · rw [List.getElem?_drop] at hu
    rw [Nat.add_assoc]
    exact hcell _ u hu
  · cases hu

theorem RdB.cut (h : RdB w A n xs) {i j c : Nat} (hij : i ≤ j) (hj : j ≤ n) (hc : n ≤ c) :
    RdB w (if c = i then A else A.map (·.add i)) (j - i) ((xs.drop i).take (j - i)) := by
  have := Rd.cut h hij hj hc
  simp only [Nat.mul_one] at this
  unfold RdB
  rwa [List.map_take, List.map_drop]
end

/-! ### Conversions -/
section
variable {P : Program}

/-- 'string(b)'. -/
theorem RdB.conv {w : World} {A : Option Addr} {n : Nat} {xs : List UInt8} (h : RdB w A n xs) {src e dst : TypeId} (hs : P.underlying src = some (.slice e)) (he : P.underlying e = some (.int .u8)) (hd : P.underlying dst = some .string) (c : Nat) :
    (convert src dst (.slice A n c)).run P w = .ok (.string ⟨xs.toArray⟩) w := by
  have hl := h.len
  rcases Nat.eq_zero_or_pos n with h0 | h0
  · subst h0
    have hx : xs = [] := List.eq_nil_of_length_eq_zero hl
    subst hx
    cases A with
    | none => rw [run_convert_bytes_nil w src e hs he _ _ dst hd]; rfl
    | some a =>
      rw [run_convert_bytes_string w src dst e _ _ c hs he hd, run_bytesToString w a 0 c [] (by
        have := run_loadCells_list (P := P) w a [] (fun j v hj => by simp at hj)
        simpa using this)]
      rfl
  · obtain ⟨b, off, rfl⟩ := h.addr h0
    have := run_convert_bytes_arg (P := P) w src e hs he b off n c (xs.map fun x => (x.toNat : Int)) (by simpa using hl) (fun i hi => by
      rw [h.cells i (by omega)]
      simp [List.getD, List.getElem?_eq_getElem (show i < xs.length by omega)]) dst hd
    rw [this]
    simp only [strOfNums, List.map_map]
    congr 3
    rw [List.map_congr_left (g := id) (fun x _ => by simp), List.map_id]
end

/-! ### append onto a row of the call's own, the source whatever reads -/
section
variable {P : Program} (w : World)

theorem run_append_none (base : Nat) (t ty e : TypeId) (i : TypeInfo) (size : Nat) (ht : P.underlying t = some (.slice e)) (hi : P.info? e = some i)
    (v : Value) (n : Nat) (xs : List Value) (hown : w.ownsRow base e size v n xs) (c : Nat) : (Builtin.append_ #[t, t] ty #[v, .slice none 0 c]).run P w = .ok v w := by
  rcases hown.2 with ⟨rfl, rfl⟩ | ⟨g, cap, cur, rfl, _, _, hnc, _⟩
  · simp [Builtin.append_, run_underlying ht, sizeOf, typeInfo, hi, Builtin.lenOf, Builtin.firstCells]
  · simp [Builtin.append_, run_underlying ht, sizeOf, typeInfo, hi, Builtin.lenOf, Builtin.firstCells, hnc, storeCells]

theorem run_append_rd (base : Nat) (t ty e : TypeId) (i : TypeInfo) (z : Value) (size bytes : Nat) (ht : P.underlying t = some (.slice e)) (hi : P.info? e = some i) (hz : i.zero = some z)
    (hsize : i.size = size) (hby : i.bytes = bytes) (hzs : z.cells.size = size) (hsz : 0 < size)
    (v : Value) (n : Nat) (xs : List Value) (hown : w.ownsRow base e size v n xs)
    (A : Option Addr) (m c : Nat) (news : List Value) (hr : Rd w size A m news) (h1 : ∀ u ∈ news, u.oneCell' = true)
    (h63 : n + m ≤ maxLen) (hbytes : (n + m) * bytes ≤ 140737488355328) (hbase : base ≤ w.heap.size) :
    ∃ v' w', (Builtin.append_ #[t, t] ty #[v, .slice A m c]).run P w = .ok v' w' ∧ w'.ownsRow base e size v' (n + m) (xs ++ news) ∧ w.grownBy w' v.ownBlock ∧
      (v'.ownBlock = v.ownBlock ∨ v'.ownBlock = some w.heap.size) := by
  rcases A with _ | ad
  · have hm : m = 0 := by
      rcases Nat.eq_zero_or_pos m with h0 | h0
      · exact h0
      · obtain ⟨b, off, h, _⟩ := hr.2 (by rw [hr.1]; exact Nat.mul_pos h0 hsz)
        cases h
    subst hm
    have hn : news = [] := List.eq_nil_of_length_eq_zero (by simpa using hr.1)
    subst hn
    exact ⟨v, w, run_append_none w base t ty e i size ht hi v n xs hown c, by simpa using hown, World.grownBy.refl w _, .inl rfl⟩
  · have hcells : ∀ j u, news[j]? = some u → w.cell? (ad.add j) = some u := by
      intro j u hu
      rcases Nat.eq_zero_or_pos m with h0 | h0
      · subst h0
        have hn : news = [] := List.eq_nil_of_length_eq_zero (by simpa using hr.1)
        subst hn
        simp at hu
      · obtain ⟨b, off, h, hc⟩ := hr.2 (by rw [hr.1]; exact Nat.mul_pos h0 hsz)
        injection h with h
        subst h
        rw [add_plain]
        exact hc j u hu
    obtain ⟨v', w', hrun, h2, h3, _, h5⟩ := run_append_own_at (P := P) w base t ty e i z size bytes ht hi hz hsize hby hzs hsz v n xs hown ad m c news hr.1 hcells h1 h63 hbytes hbase
    exact ⟨v', w', hrun, h2, h3, h5⟩

theorem wp_append_rd {o : Oper} {a : Act} {K : Act → World → Prop} {Q : Exit → Act → World → Prop} (s x : Operand) (t : TypeId)
    (ho : o.op = .call { callee := .builtin .append, args := #[s, x], argTypes := #[t, t] })
    (base : Nat) (e : TypeId) (i : TypeInfo) (z : Value) (size bytes : Nat) (ht : P.underlying t = some (.slice e)) (hi : P.info? e = some i) (hz : i.zero = some z)
    (hsize : i.size = size) (hby : i.bytes = bytes) (hzs : z.cells.size = size) (hsz : 0 < size)
    (v : Value) (n : Nat) (xs : List Value) (hs : a.eval s = v) (hown : w.ownsRow base e size v n xs)
    (A : Option Addr) (m c : Nat) (news : List Value) (hx : a.eval x = .slice A m c) (hr : Rd w size A m news) (h1 : ∀ u ∈ news, u.oneCell' = true)
    (h63 : n + m ≤ maxLen) (hbytes : (n + m) * bytes ≤ 140737488355328) (hbase : base ≤ w.heap.size)
    (h : ∀ v' w', w'.ownsRow base e size v' (n + m) (xs ++ news) → w.grownBy w' v.ownBlock → (v'.ownBlock = v.ownBlock ∨ v'.ownBlock = some w.heap.size) → K (a.put o.dst v') w') : o.wp P a w K Q := by
  obtain ⟨v', w', hrun, h2, h3, h4⟩ := run_append_rd (P := P) w base t o.type e i z size bytes ht hi hz hsize hby hzs hsz v n xs hown A m c news hr h1 h63 hbytes hbase
  unfold Oper.wp execOp
  simp only [ho, resolve, invoke, builtin, Sem.run_bind, Sem.run_pure, Result.andThen_ok, List.map_toArray, List.map_cons, List.map_nil, hs, hx, hrun]
  exact h v' w' h2 h3 h4

theorem wpList_append_rd {ops : Array Oper} {rest : List Oper} {o : Oper} {a : Act} {Q : Exit → Act → World → Prop} (hgd : o.guard = none) (s x : Operand) (t : TypeId)
    (ho : o.op = .call { callee := .builtin .append, args := #[s, x], argTypes := #[t, t] })
    (base : Nat) (e : TypeId) (i : TypeInfo) (z : Value) (size bytes : Nat) (ht : P.underlying t = some (.slice e)) (hi : P.info? e = some i) (hz : i.zero = some z)
    (hsize : i.size = size) (hby : i.bytes = bytes) (hzs : z.cells.size = size) (hsz : 0 < size)
    (v : Value) (n : Nat) (xs : List Value) (hs : a.eval s = v) (hown : w.ownsRow base e size v n xs)
    (A : Option Addr) (m c : Nat) (news : List Value) (hx : a.eval x = .slice A m c) (hr : Rd w size A m news) (h1 : ∀ u ∈ news, u.oneCell' = true)
    (h63 : n + m ≤ maxLen) (hbytes : (n + m) * bytes ≤ 140737488355328) (hbase : base ≤ w.heap.size)
    (h : ∀ v' w', w'.ownsRow base e size v' (n + m) (xs ++ news) → w.grownBy w' v.ownBlock → (v'.ownBlock = v.ownBlock ∨ v'.ownBlock = some w.heap.size) → wpList P ops Q rest (a.put o.dst v') w') : wpList P ops Q (o :: rest) a w :=
  wpList_plain hgd fun _ hK => wp_append_rd w s x t ho base e i z size bytes ht hi hz hsize hby hzs hsz v n xs hs hown A m c news hx hr h1 h63 hbytes hbase fun v' w' h2 h3 h4 => hK _ _ (h v' w' h2 h3 h4)
end
end Go.Proofs.YthlgjbmkealjjaaGreatDoor
