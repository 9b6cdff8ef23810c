/-
  What stays: the plain law; three rows that grow side by side. No statement is proved here.
-/
import Derived.Test.YtcbopgopegphlaaGreatEnV
import Derived.Test.YtcbopgopegphlaaGreatReg
namespace Go.Proofs.YtcbopgopegphlaaGreat
open Go.RowKit
set_option linter.unusedVariables false
theorem known_snoc {l : List Ev} {e : Ev} {b : Int} (h : b < e.seq) : knownOf (l ++ [e]) b = knownOf l b := by
  have hg : ∀ s, goneB (l ++ [e]) b s = goneB l b s := fun s => by
    unfold goneB
    rw [List.any_append]
    have : ([e].any fun e => decide (e.kind = 5 ∧ e.seq ≤ b ∧ e.ref = s)) = false := by
      simp
      intro _ h2
      omega
    rw [this, Bool.or_false]
  have hk : keptB (l ++ [e]) b = keptB l b := by
    funext x
    unfold keptB
    rw [hg]
  unfold knownOf keptOf
  rw [hk, List.filter_append]
  have : [e].filter (keptB l b) = [] := by
    rw [List.filter_eq_nil_iff]
    intro x hx
    obtain rfl : x = e := by simpa using hx
    unfold keptB
    rw [decide_eq_false (by omega)]
    simp
  rw [this, List.append_nil]
theorem lastSeq_snoc (l : List Ev) (e : Ev) : lastSeq (l ++ [e]) = e.seq := by simp [lastSeq]
theorem last_lt {l : List Ev} {e : Ev} (h : addBad l e = false) : lastSeq l < e.seq := by
  unfold addBad lastOf at h
  unfold lastSeq
  cases hl : l.getLast? with
  | none =>
    rw [hl] at h
    simp only [Option.getD_none, Bool.or_eq_false_iff, decide_eq_false_iff_not] at h
    simp
    omega
  | some x =>
    rw [hl] at h
    simp only [Option.getD_some, Bool.or_eq_false_iff, decide_eq_false_iff_not] at h
    simp
    omega
/-- What was answered. -/
structure Tld where
  s : St
  e : Int
  d : Int
  q : Int
def flatS (rs : List Tld) : List Value := rs.flatMap fun r => (stCells r.s).toList
def flatX (rs : List Tld) : List Value := rs.map fun r => .int .i64 r.e
def flatA (rs : List Tld) : List Value := rs.flatMap fun r => [.int .i64 r.d, .int .i64 r.q]
/-- It is answered so still. -/
def StayOk (p : Prod) (l : List Ev) (rs : List Tld) : Prop := ∀ r ∈ rs, replayAns p (knownOf l r.q) r.d = (r.s, r.e) ∧ r.q ≤ lastSeq l
theorem StayOk.nil (p : Prod) (l : List Ev) : StayOk p l [] := fun r hr => by cases hr
theorem StayOk.add {p : Prod} {l : List Ev} {rs : List Tld} (h : StayOk p l rs) (e : Ev) : StayOk p (addTo l e) rs := fun r hr => by
  obtain ⟨h1, h2⟩ := h r hr
  unfold addTo
  by_cases ha : addAns l e = 0
  · rw [if_pos ha]
    have hl := last_lt (addAns_ok ha).2.2
    refine ⟨by rw [known_snoc (by omega)]; exact h1, by rw [lastSeq_snoc]; omega⟩
  · rw [if_neg ha]
    exact ⟨h1, h2⟩
theorem StayOk.snoc {p : Prod} {l : List Ev} {rs : List Tld} (h : StayOk p l rs) (r : Tld) (h1 : replayAns p (knownOf l r.q) r.d = (r.s, r.e)) (h2 : r.q ≤ lastSeq l) : StayOk p l (rs ++ [r]) := fun x hx => by
  rcases List.mem_append.1 hx with hx | hx
  · exact h x hx
  · obtain rfl : x = r := by simpa using hx
    exact ⟨h1, h2⟩
section
variable {P : Program}
theorem exec_append {ev : Operand → Value} {o : Oper} {v v2 : World} (s x : Operand) (t : TypeId) (ho : o.op = .call { callee := .builtin .append, args := #[s, x], argTypes := #[t, t] }) (vs vx u : Value) (hs : ev s = vs) (hx : ev x = vx)
    (hr : (Builtin.append_ #[t, t] o.type #[vs, vx]).run P v = .ok u v2) : (execOp ev o).run P v = .ok (.value u) v2 := by
  unfold execOp
  simp only [ho, resolve, invoke, builtin, Sem.run_bind, Sem.run_pure, Result.andThen_ok, List.map_toArray, List.map_cons, List.map_nil, hs, hx, hr]
theorem exec_lit1 {ev : Operand → Value} {o : Oper} {v v2 : World} (T : TypeId) (x : Operand) (ho : o.op = .buildSlice T 1 #[(0, x)]) (vx u : Value) (hx : ev x = vx) (hr : (Instr.buildSlice T 1 #[(0, vx)]).run P v = .ok u v2) : (execOp ev o).run P v = .ok (.value u) v2 := by
  unfold execOp
  simp only [ho, List.map_toArray, List.map_cons, List.map_nil, hx, Sem.run_bind, hr, Result.andThen_ok]
  rfl
theorem exec_build2 {ev : Operand → Value} {o : Oper} {v : World} (T : TypeId) (x y : Operand) (ho : o.op = .build T #[(0, x), (1, y)]) (vx vy : Value) (hx : ev x = vx) (hy : ev y = vy) (cs : Array Value) (hb : P.built T [(0, vx), (1, vy)] = some cs) : (execOp ev o).run P v = .ok (.value (.agg cs)) v := by
  unfold execOp
  simp only [ho, List.map_toArray, List.map_cons, List.map_nil, hx, hy, Sem.run_bind, run_build v T _ cs hb, Result.andThen_ok]
  rfl
end
theorem own_apart {w w' : World} {b b2 sz sz2 n n2 : Nat} {t t2 : TypeId} {v v2 : Value} {xs xs2 : List Value} (ho : w.ownsRow b t sz v n xs) (ho2 : w.ownsRow b2 t2 sz2 v2 n2 xs2) (ht : t ≠ t2) (hg : w.grownBy w' v2.ownBlock) : w'.ownsRow b t sz v n xs :=
  ownE_keep ho fun g h1 => by
    obtain ⟨hlt, cs, h3⟩ := ownE_block ho h1
    refine hg.block g hlt fun e => ?_
    obtain ⟨_, cs2, h4⟩ := ownE_block ho2 e.symm
    rw [h3] at h4
    injection h4 with h4
    injection h4 with _ h4
    exact ht h4
theorem cells_apart {w w' : World} {b2 sz2 n2 g : Nat} {t t2 : TypeId} {v2 : Value} {xs2 : List Value} {cs : Array Value} {fr : Nat × Nat} (h3 : w.heap[g]? = some (.cells cs t fr)) (ho2 : w.ownsRow b2 t2 sz2 v2 n2 xs2) (ht : t ≠ t2) (hg : w.grownBy w' v2.ownBlock) : w'.heap[g]? = some (.cells cs t fr) := by
  refine (hg.block g (Array.getElem?_eq_some_iff.1 h3).1 fun e => ?_).trans h3
  obtain ⟨_, cs2, h4⟩ := ownE_block ho2 e.symm
  rw [h3] at h4
  injection h4 with h4
  injection h4 with _ h4
  exact ht h4
theorem infoStZ : (Tryz.prog.info? 45).map (fun i => (i.zero, i.size, i.bytes)) = some (some (.agg (stCells St.zero)), 12, 96) := by kernel_rfl
theorem infoErr : (Tryz.prog.info? 29).map (fun i => (i.zero, i.size, i.bytes)) = some (some (.int .i64 0), 1, 8) := by kernel_rfl
theorem rd_one {w : World} {g sz : Nat} {cs : Array Value} {t : TypeId} (h : w.heap[g]? = some (.cells cs t (0, 0))) (hs : cs.size = sz) : Rd w sz (some ⟨g, 0, none⟩) 1 cs.toList :=
  ⟨by simp [hs], fun _ => ⟨g, 0, rfl, fun j u hu => by
    rw [cell_of_row _ _ _ _ _ _ h, Nat.zero_add]
    simpa using hu⟩⟩
/-- A row grows by one. -/
theorem app_row {sz by_ : Nat} {t e : TypeId} {z : Value} (hinf : (Tryz.prog.info? e).map (fun i => (i.zero, i.size, i.bytes)) = some (some z, sz, by_)) (hu : Tryz.prog.underlying t = some (.slice e)) (hz : z.cells.size = sz) (hsz : 0 < sz) (hby : by_ ≤ 1000)
    {w : World} {base k g : Nat} {v : Value} {xs : List Value} {cs : Array Value} (ho : w.ownsRow base e sz v k xs) (hc : w.heap[g]? = some (.cells cs e (0, 0))) (hcs : cs.size = sz) (h1 : ∀ u ∈ cs.toList, u.oneCell' = true) (hk : k ≤ 1000000) (hb : base ≤ w.heap.size) :
    ∃ v' w', (Builtin.append_ #[t, t] t #[v, .slice (some ⟨g, 0, none⟩) 1 1]).run Tryz.prog w = .ok v' w' ∧ w'.ownsRow base e sz v' (k + 1) (xs ++ cs.toList) ∧ w.grownBy w' v.ownBlock := by
  obtain ⟨i0, hi, hz0, hz1, hz2⟩ := info_parts hinf
  have hbb : (k + 1) * by_ ≤ 1000001 * 1000 := Nat.mul_le_mul (by omega) hby
  obtain ⟨v', w', h2, h3, h4, _⟩ := run_append_rd w base t t e i0 z sz by_ hu hi hz0 hz1 hz2 hz hsz v k xs ho (some ⟨g, 0, none⟩) 1 1 cs.toList (rd_one hc hcs) h1 (by unfold maxLen; omega) (by omega) hb
  exact ⟨v', w', h2, h3, h4⟩
theorem flat_get {α : Type} (f : α → List Value) (z : Nat) (hf : ∀ x, (f x).length = z) (l : List α) : ∀ (j k : Nat) (h : j < l.length), k < z → (l.flatMap f)[j * z + k]? = (f l[j])[k]? := by
  induction l with
  | nil => intro j k h; simp at h
  | cons e l ih =>
    intro j k h hk
    have h6 : (f e).length = z := hf e
    cases j with
    | zero =>
      simp only [List.flatMap_cons]
      rw [List.getElem?_append_left (by omega)]
      simp
    | succ j =>
      have := ih j k (by simpa using h) hk
      simp only [List.flatMap_cons]
      rw [List.getElem?_append_right (by rw [h6, Nat.succ_mul]; omega), h6, show (j + 1) * z + k - z = j * z + k by rw [Nat.succ_mul]; omega, this]
      simp
/-- The cells of an own row. -/
theorem own_cells {w : World} {b sz n c : Nat} {t : TypeId} {A : Option Addr} {xs : List Value} (h : w.ownsRow b t sz (.slice A n c) n xs) (hn : 0 < n) : ∃ g, A = some ⟨g, 0, none⟩ ∧ ∀ j u, xs[j]? = some u → w.cell? ⟨g, j, none⟩ = some u := by
  have hR := Rd.of_own h
  rcases h.2 with ⟨_, h0⟩ | ⟨g, cap, cur, e, _⟩
  · omega
  · injection e with e1 e2 e3
    refine ⟨g, e1, fun j u hu => ?_⟩
    have hx : 0 < xs.length := by have := (List.getElem?_eq_some_iff.1 hu).1; omega
    obtain ⟨b, off, h1, h2⟩ := hR.2 hx
    rw [e1] at h1
    injection h1 with h1
    injection h1 with h3 h4
    subst h3 h4
    have := h2 j u hu
    rwa [Nat.zero_add] at this
theorem below_grown {B base sz n : Nat} {t : TypeId} {v : Value} {xs : List Value} {a b c : World} (h : Below B a b) (ho : b.ownsRow base t sz v n xs) (hB : B ≤ base) (hg : b.grownBy c v.ownBlock) (hs : B ≤ b.heap.size) : Below B a c :=
  ⟨hg.os.trans h.os, hg.tape.trans h.tape, hg.output.trans h.output, Nat.le_trans h.size hg.size, fun k hk => (hg.block k (by omega) (fun e => by
    rcases ho.2 with ⟨rfl, _⟩ | ⟨g', cap, cur, rfl, hb', _⟩
    · cases e
    · injection e with e
      have e2 : k = g' := e
      have h2 : base ≤ g' := hb'
      omega)).trans (h.block k hk)⟩
theorem EnB.setSt {w : World} {base top ge g : Nat} {p : Prod} {l : List Ev} {cs cs' : Array Value} {fr : Nat × Nat} (h : EnB w base top ge p l) (hg : top ≤ g) (hr : w.heap[g]? = some (.cells cs 45 fr)) : EnB (w.setRow g cs') base top ge p l :=
  h.rows fun k hk hc => by
    by_cases e : k = g
    · subst e
      rcases hc with h5 | ⟨cs, fr, h5⟩ | ⟨cs, fr, h5⟩ | ⟨es, m, h5⟩
      · omega
      · rw [hr] at h5; injection h5 with h5; injection h5 with _ h5; exact absurd h5 (by decide)
      · rw [hr] at h5; injection h5 with h5; injection h5 with _ h5; exact absurd h5 (by decide)
      · rw [hr] at h5; injection h5 with h5; cases h5
    · exact setRow_other _ _ _ _ (by omega)
section
variable {w4 v v' : World} {base top ge : Nat} {p : Prod} {l l' : List Ev} {rs : List Tld} {v1 v2 v3 : Value}
end
end Go.Proofs.YtcbopgopegphlaaGreat
