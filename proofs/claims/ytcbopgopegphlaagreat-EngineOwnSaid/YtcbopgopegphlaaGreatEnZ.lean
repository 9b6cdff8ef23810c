/-
  The reference's engine: its Add (printed by gen_enz.py). No statement is proved here.
-/
import Derived.Test.YtcbopgopegphlaaGreatEnX
import Derived.Test.YtcbopgopegphlaaGreatEnY
import Derived.Test.YtcbopgopegphlaaGreatAcY4
namespace Go.Proofs.YtcbopgopegphlaaGreat
open Go.RowKit
set_option linter.unusedVariables false
def SameLoan (l : List Ev) : Prop := ∀ x ∈ l, ∀ y ∈ l, x.loan = y.loan
def refBad (l : List Ev) (e : Ev) : Bool := l.any (fun x => decide (x.loan ≠ e.loan)) || ((decide (e.kind = 5) && takenB l e.ref) || (decide (e.seq ≤ lastSeq l) || (decide (e.kind = 5) && !foundB l e.ref)))
theorem refBad_eq {l : List Ev} (h : SameLoan l) (e : Ev) : refBad l e = addBad l e := by
  have hl : l.any (fun x => decide (x.loan ≠ e.loan)) = decide (e.loan ≠ (lastOf l e).loan) := by
    unfold lastOf
    cases hg : l.getLast? with
    | none =>
      have : l = [] := by simpa using hg
      subst this
      simp
    | some z =>
      have hz : z ∈ l := List.mem_of_getLast? hg
      simp only [Option.getD_some]
      by_cases hze : e.loan = z.loan
      · rw [decide_eq_false (by simpa using hze), List.any_eq_false]
        intro x hx
        have := h x hx z hz
        simp [this, hze]
      · rw [decide_eq_true hze, List.any_eq_true]
        exact ⟨z, hz, by simpa using fun h => hze h.symm⟩
  have hs : (lastOf l e).seq = lastSeq l := by
    unfold lastOf lastSeq
    cases l.getLast? <;> rfl
  unfold refBad addBad revB
  rw [hl, hs]
  generalize decide (e.loan ≠ (lastOf l e).loan) = a
  generalize decide (e.kind = 5) = k
  generalize takenB l e.ref = t
  generalize decide (e.seq ≤ lastSeq l) = s
  generalize foundB l e.ref = f
  cases a <;> cases k <;> cases t <;> cases s <;> cases f <;> rfl
set_option maxRecDepth 100000 in
set_option maxHeartbeats 4000000 in
theorem rCheck_code (e : Ev) (w : World) (hs : e.loan.size ≤ 9223372036854775806) :
    Calls Tryz.prog 22 #[e.val] w fun x w' => x = .returned (.int .i64 (bcode e)) ∧ Below w.heap.size w w' := by
  have HN := Lib.hid fun W => refLoan_any e.loan W hs
  have OK := Lib.hid e.ok_iff
  have CODE : Hid (bcode e = if nameOk e.loan = false then 51 else if e.day < -719162 ∨ 2932896 < e.day then 6 else if e.Ok then 0 else 52) := Lib.hid rfl
  generalize bcode e = code at *
  obtain ⟨seq, loan, day, kind, amount, ref⟩ := e
  unfold Ev.val evCells
  simp only at HN OK hs CODE ⊢
  clear hs
  generalize nameOk loan = nm at *
  go_enter Tryz.func22, Tryz.ntmps22
  go_wp2_with fail
  obtain ⟨w1, hw1⟩ : ∃ w1, w1 = w.alloc (.cells #[.int .i64 seq, .string loan, .int .i64 day, .int .i64 kind, .int .i64 amount, .int .i64 ref] 39) := ⟨_, rfl⟩
  have h0 : w1.heap[w.heap.size]? = some (.cells #[.int .i64 seq, .string loan, .int .i64 day, .int .i64 kind, .int .i64 amount, .int .i64 ref] 39 (0, 0)) := by rw [hw1]; exact heap_alloc_new _ _
  have hb : Below w.heap.size w w1 := by rw [hw1]; exact (Below.refl _ _).alloc (Nat.le_refl _) _
  rw [← hw1]
  clear hw1
  refine (HN.out _).mono ?_
  rintro x w2 ⟨rfl, rfl⟩
  have c0 : w1.cell? ⟨w.heap.size, 0, none⟩ = some (.int .i64 seq) := by rw [cell_of_row _ _ _ _ _ _ h0]; rfl
  have c2 : w1.cell? ⟨w.heap.size, 2, none⟩ = some (.int .i64 day) := by rw [cell_of_row _ _ _ _ _ _ h0]; rfl
  have c3 : w1.cell? ⟨w.heap.size, 3, none⟩ = some (.int .i64 kind) := by rw [cell_of_row _ _ _ _ _ _ h0]; rfl
  have c4 : w1.cell? ⟨w.heap.size, 4, none⟩ = some (.int .i64 amount) := by rw [cell_of_row _ _ _ _ _ _ h0]; rfl
  have c5 : w1.cell? ⟨w.heap.size, 5, none⟩ = some (.int .i64 ref) := by rw [cell_of_row _ _ _ _ _ _ h0]; rfl
  clear h0 HN
  rcases (show kind = 1 ∨ kind = 2 ∨ kind = 4 ∨ kind = 3 ∨ kind = 5 ∨ (kind ≠ 1 ∧ kind ≠ 2 ∧ kind ≠ 4 ∧ kind ≠ 3 ∧ kind ≠ 5) by omega) with rfl | rfl | rfl | rfl | rfl | ⟨k1, k2, k3, k4, k5⟩
  all_goals cases nm
  all_goals
    simp only [Bool.false_eq_true, false_and, iff_false, true_and] at OK
    go_wp2
    all_goals
      go_ret
      refine ⟨?_, hb⟩
      have ok1 := OK.out
      have cd := CODE.out
      first
      | (rw [cd, if_pos (by simp)]; rfl)
      | (rw [cd, if_neg (by simp), if_pos (by simp at *; omega)]; rfl)
      | (rw [cd, if_neg (by simp), if_pos (by omega)]; rfl)
      | (rw [cd, if_neg (by simp), if_neg (by omega), if_pos (by rw [ok1]; omega)]; rfl)
      | (rw [cd, if_neg (by simp), if_neg (by omega), if_pos (by rw [ok1]; simp at *; omega)]; rfl)
      | (rw [cd, if_neg (by simp), if_neg (by omega), if_neg (by rw [ok1]; omega)]; rfl)
      | (rw [cd, if_neg (by simp), if_neg (by omega), if_neg (by rw [ok1]; simp at *; omega)]; rfl)
/-- The cells of the reference's engine. -/
def rCells (p : Prod) (B v : Value) : Array Value := #[.string p.name, .int .i64 p.rate, .int .i64 p.conv, .int .i64 p.step, .int .i64 p.count, .int .i64 p.o1, .int .i64 p.o2, .int .i64 p.o3, B, v]
structure RefAt (w : World) (gr : Nat) (p : Prod) (B : Value) (E : Option Addr) (n c : Nat) (l : List Ev) : Prop where
  cells : w.heap[gr]? = some (.cells (rCells p B (.slice E n c)) 37 (0, 0))
  row : RdE w E n l
theorem cell_r9 {w : World} {gr : Nat} {p : Prod} {B v : Value} {t : TypeId} (h : w.heap[gr]? = some (.cells (rCells p B v) t (0, 0))) : w.cell? ⟨gr, 9, none⟩ = some v := by
  rw [cell_of_row _ _ _ _ _ _ h]; rfl
def RAddSays (w : World) (gr : Nat) (p : Prod) (B : Value) (l : List Ev) (e : Ev) (x : Ending) (w' : World) : Prop :=
  x = .returned (.int .i64 (addAns l e)) ∧ (addAns l e ≠ 0 → Below w.heap.size w w') ∧ (addAns l e = 0 → ∃ E n c, RefAt w' gr p B E n c (l ++ [e]) ∧ n ≤ c ∧ KeptBut gr w w' ∧ ∀ a, E = some a → w.heap.size ≤ a.block)
theorem RAddSays.bad {w w' : World} {gr : Nat} {p : Prod} {B : Value} {l : List Ev} {e : Ev} {r : Int} (h : addAns l e = r) (hr : r ≠ 0) (hb : Below w.heap.size w w') : RAddSays w gr p B l e (.returned (.int .i64 r)) w' :=
  ⟨by rw [h], fun _ => hb, fun h0 => absurd (h.symm.trans h0) hr⟩

theorem own_lit0 {w : World} {g base : Nat} (h : w.heap[g]? = some (.cells #[] 39 (0, 0))) (hb : base ≤ g) : w.ownsRow base 39 6 (.slice (some ⟨g, 0, none⟩) 0 0) 0 (flatE []) :=
  ⟨rfl, .inr ⟨g, 0, #[], rfl, hb, h, Nat.le_refl _, by unfold maxLen; omega, rfl, rfl⟩⟩
/-- Events are appended to an own row. -/
theorem app_evs {w : World} {base k n c : Nat} {v : Value} {xs ys : List Ev} {E : Option Addr} (ho : w.ownsRow base 39 6 v k (flatE xs)) (hE : RdE w E n ys) (hk : k + n ≤ 1000000) (hb : base ≤ w.heap.size) :
    ∃ v' w', (Builtin.append_ #[35, 35] 35 #[v, .slice E n c]).run Tryz.prog w = .ok v' w' ∧ w'.ownsRow base 39 6 v' (k + n) (flatE (xs ++ ys)) ∧ w.grownBy w' v.ownBlock := by
  obtain ⟨i0, hi, hz0, hz1, hz2⟩ := info_parts infoEv
  obtain ⟨v', w', h2, h3, h4, _⟩ := run_append_rd w base 35 35 39 i0 (.agg #[.int .i64 0, .string ⟨#[]⟩, .int .i64 0, .int .i64 0, .int .i64 0, .int .i64 0]) 6 56 Tryz.underlying35 hi hz0 hz1 hz2 rfl (by decide) v k (flatE xs) ho E n c (flatE ys) hE.rd (flatE_one ys) (by unfold maxLen; omega) (by omega) hb
  exact ⟨v', w', h2, by rw [flatE_append]; exact h3, h4⟩
theorem lit0 (w : World) : (Instr.buildSlice 35 0 #[]).run Tryz.prog w = .ok (.slice (some ⟨w.heap.size, 0, none⟩) 0 0) (w.alloc (.cells #[] 39)) := by go_simp
theorem lit_ev (e : Ev) (w : World) : (Instr.buildSlice 35 1 #[(0, .agg (evCells e))]).run Tryz.prog w = .ok (.slice (some ⟨w.heap.size, 0, none⟩) 1 1) (w.alloc (.cells (evCells e) 39)) := by
  unfold evCells
  go_simp
section
variable {P : Program}
theorem exec_lit0 {ev : Operand → Value} {o : Oper} {v v2 : World} (T : TypeId) (ho : o.op = .buildSlice T 0 #[]) (u : Value) (hr : (Instr.buildSlice T 0 #[]).run P v = .ok u v2) : (execOp ev o).run P v = .ok (.value u) v2 := by
  unfold execOp
  simp only [ho, List.map_toArray, List.map_nil, Sem.run_bind, hr, Result.andThen_ok]
  rfl
end
def LitW (t : TypeId) (cs : Array Value) (k base : Nat) (u : Value) (v : World) : Prop := ∃ g, u = .slice (some ⟨g, 0, none⟩) k k ∧ base ≤ g ∧ v.heap[g]? = some (.cells cs t (0, 0))
theorem LitW.below {t : TypeId} {cs : Array Value} {k base : Nat} {u : Value} {v v' : World} (h : LitW t cs k base u v) (hb : Below v.heap.size v v') : LitW t cs k base u v' := by
  obtain ⟨g, h1, h2, h3⟩ := h
  exact ⟨g, h1, h2, (hb.block _ (Array.getElem?_eq_some_iff.1 h3).1).trans h3⟩
theorem own_below' {w w' : World} {b sz n : Nat} {t : TypeId} {v : Value} {xs : List Value} (h : w.ownsRow b t sz v n xs) (hb : Below w.heap.size w w') : w'.ownsRow b t sz v n xs := ownE_keep h fun g hg => hb.block _ (ownE_block h hg).1
structure G20 (w5 : World) (gr : Nat) (p : Prod) (B : Value) (l : List Ev) (e : Ev) (L : Nat → Bool) (v : World) : Prop where
  low : L 12 = false → Below w5.heap.size w5 v
  fin : L 12 = true → ∃ E n c, RefAt v gr p B E n c (l ++ [e]) ∧ n ≤ c ∧ KeptBut gr w5 v ∧ ∀ a, E = some a → w5.heap.size ≤ a.block
theorem G20.to {w5 v' : World} {gr : Nat} {p : Prod} {B : Value} {l : List Ev} {e : Ev} {L : Nat → Bool} {i : Nat} (hi : i ≠ 12) (h12 : L 12 = false) (h : Below w5.heap.size w5 v') : G20 w5 gr p B l e (upd L i) v' :=
  ⟨fun _ => h, fun h0 => by rw [upd_other (fun e => hi e.symm), h12] at h0; cases h0⟩
def T20 (w5 : World) (gr : Nat) (E : Option Addr) (n c : Nat) (l : List Ev) (e : Ev) (EC : Array Value) (L : Nat → Bool) (i : Nat) (u : Value) (v : World) : Prop :=
  match i with
  | 0 => u = .pointer (some ⟨gr, 0, none⟩)
  | 1 => L 6 = false → LitW 39 #[] 0 w5.heap.size u v
  | 2 => u = .pointer (some ⟨gr, 0, none⟩)
  | 3 => u = .pointer (some ⟨gr, 0, none⟩)
  | 4 => u = .pointer (some ⟨gr, 9, none⟩)
  | 5 => u = .slice E n c
  | 6 => L 9 = false → v.ownsRow w5.heap.size 39 6 u n (flatE l)
  | 7 => u = .agg EC
  | 8 => L 9 = false → LitW 39 EC 1 w5.heap.size u v
  | 9 => L 12 = false → v.ownsRow w5.heap.size 39 6 u (n + 1) (flatE (l ++ [e]))
  | 10 => u = .pointer (some ⟨gr, 0, none⟩)
  | 11 => u = .pointer (some ⟨gr, 9, none⟩)
  | _ => True
theorem T20_keep {w5 : World} {gr : Nat} {E : Option Addr} {n c : Nat} {l : List Ev} {e : Ev} {EC : Array Value} {L : Nat → Bool} {i jj : Nat} {u : Value} {v w2 : World} (hb : Below v.heap.size v w2) (h : T20 w5 gr E n c l e EC L jj u v) : T20 w5 gr E n c l e EC (upd L i) jj u w2 := by
  unfold T20 at h ⊢
  split at h <;> first
    | exact h
    | exact fun h0 => own_below' (h (upd_false h0)) hb
    | exact fun h0 => (h (upd_false h0)).below hb
set_option maxRecDepth 100000 in
set_option maxHeartbeats 4000000 in
theorem rAdd_any (gr : Nat) (p : Prod) (B : Value) (E : Option Addr) (n c : Nat) (l : List Ev) (e : Ev) (w : World) (h : RefAt w gr p B E n c l) (hn : n ≤ 4096) (hsl : SameLoan l) (hs : e.loan.size ≤ 9223372036854775806) :
    Calls Tryz.prog 10 #[.pointer (some ⟨gr, 0, none⟩), e.val] w (RAddSays w gr p B l e) := by
  have HC := Lib.hid fun W => rCheck_code e W hs
  have HLN := Lib.hid h.row.1
  have HBE := Lib.hid (refBad_eq hsl e)
  have HANS : Hid (addAns l e = if bcode e ≠ 0 then bcode e else if 4096 ≤ l.length then 3 else if addBad l e then 52 else 0) := Lib.hid rfl
  have BAD := Lib.hid fun (r : Int) (h1 : addAns l e = r) (h2 : r ≠ 0) (W : World) (hb : Below w.heap.size w W) => RAddSays.bad (gr := gr) (p := p) (B := B) h1 h2 hb
  have HFIN : Hid (∀ (W : World) (E' : Option Addr) (n' c' : Nat), addAns l e = 0 → RefAt W gr p B E' n' c' (l ++ [e]) → n' ≤ c' → KeptBut gr w W → (∀ a, E' = some a → w.heap.size ≤ a.block) → RAddSays w gr p B l e (.returned (.int .i64 0)) W) := Lib.hid fun W E' n' c' h0 h1 h2 h3 h4 => ⟨by rw [h0], fun h => absurd h0 h, fun _ => ⟨E', n', c', h1, h2, h3, h4⟩⟩
  generalize hP : RAddSays w gr p B l e = P at *
  clear hP hsl hs
  generalize bcode e = bc at *
  have hgr : gr < w.heap.size := (Array.getElem?_eq_some_iff.1 h.cells).1
  obtain ⟨w1, hw1⟩ : ∃ w1, w1 = w.alloc (.cells (evCells e) 39) := ⟨_, rfl⟩
  have hb1 : Below w.heap.size w w1 := by rw [hw1]; exact (Below.refl _ _).alloc (Nat.le_refl _) _
  have hE1 : w1.heap[w.heap.size]? = some (.cells (evCells e) 39 (0, 0)) := by rw [hw1]; exact heap_alloc_new _ _
  have hie := info_ev e
  have HH := Lib.hid h
  unfold Ev.val at HC ⊢
  generalize hEC : evCells e = EC at *
  have HEC := Lib.hid hEC
  clear hEC h
  go_enter Tryz.func10, Tryz.ntmps10
  go_upto_region 1 with (fail)
  rw [← hw1]
  clear hw1
  have hlt1 : w.heap.size < w1.heap.size := (Array.getElem?_eq_some_iff.1 hE1).1
  go_upto_region 2 with (first
    | (refine wpList_load_row rfl 39 _ rfl _ rfl _ _ _ _ hE1 Tryz.underlying39 rfl hie ?_)
    | (go_at_call 22; refine (HC.out _).mono ?_; rintro x w2 ⟨rfl, hb2⟩))
  have hE2 := (hb2.block w.heap.size hlt1).trans hE1
  have hb02 := hb1.trans (hb2.mono hb1.size)
  have hlt2 : w.heap.size < w2.heap.size := (Array.getElem?_eq_some_iff.1 hE2).1
  have hG2 := (hb02.block gr hgr).trans HH.out.cells
  have hL2 := HH.out.row.below hb02
  clear hE1 hb1 hb2 HC hlt1
  by_cases h0 : bc = 0
  · subst h0
    have c9 := cell_r9 hG2
    by_cases hlong : 4096 ≤ n
    · have HB := BAD.out 3 (by rw [HANS.out, if_neg (by simp), if_pos (by rw [HLN.out]; exact hlong)]) (by decide) w2 hb02
      have hlong' : (4096 : Int) ≤ (n : Int) := by omega
      clear BAD HFIN hL2 hE2 hG2
      go_wp2_with fail
      exact HB
    · have hlong' : ¬ (4096 : Int) ≤ (n : Int) := by omega
      have HANA : Hid (addAns l e = if refBad l e then 52 else 0) := Lib.hid (by rw [HANS.out, if_neg (by simp), if_neg (by rw [HLN.out]; exact hlong), HBE.out])
      have HG2 := Lib.hid hG2
      have HL2 := Lib.hid hL2
      have HE2 := Lib.hid hE2
      have HB2 := Lib.hid hb02
      have B52 : Hid (refBad l e = true → ∀ W, Below w2.heap.size w2 W → P (.returned (.int .i64 52)) W) := Lib.hid fun hh W hW => BAD.out 52 (by rw [HANA.out, if_pos hh]) (by decide) W (hb02.trans (hW.mono (Nat.le_of_lt hlt2)))
      clear hL2 hE2 hG2 BAD HANS HBE
      go_upto_block 0 with (fail)
      go_cut [6, 7, 8] from 25 to 98 (fun t6 t7 _ wx => t6 = .int .i64 (lastSeq l) ∧ t7 = .bool (foundB l e.ref) ∧ Hid (∀ x ∈ l, x.loan = e.loan) ∧ Hid (e.kind = 5 → takenB l e.ref = false) ∧ Hid (Below w2.heap.size w2 wx))
      case first =>
        clear c9 HANA HFIN
        go_wp2
        go_loopw [25, 6, 7] (fun t t6 t7 wr => ∃ j : Nat, j ≤ n ∧ t = .int .i64 (j : Int) ∧ t6 = .int .i64 (lastSeq (l.take j)) ∧ t7 = .bool (foundB (l.take j) e.ref) ∧ Hid (∀ x ∈ l.take j, x.loan = e.loan) ∧ Hid (e.kind = 5 → takenB (l.take j) e.ref = false) ∧ Hid (Below w2.heap.size w2 wr)) (fun t _ _ _ => n - (intOf t).toNat)
        case atStart => exact ⟨0, Nat.zero_le _, rfl, rfl, rfl, Lib.hid (by simp), Lib.hid (fun _ => rfl), Lib.hid (Below.refl _ _)⟩
        case round =>
          obtain ⟨j, hj, rfl, rfl, rfl, HLO, HTA, HBj⟩ := hrel
          obtain ⟨w5, rfl⟩ : ∃ x, x = wr := ⟨_, rfl⟩
          by_cases hlt : j < n
          · have hjl : j < l.length := by have := HLN.out; omega
            have hE5 := HL2.out.below HBj.out
            obtain ⟨b0, off, rfl, _⟩ := hE5.2 (by omega)
            obtain ⟨z0, z1, z2, z3, z4, z5⟩ := ev_six hE5 j hjl
            have hx5 : w5.heap[w.heap.size]? = some (.cells (evCells e) 39 (0, 0)) := by rw [HEC.out]; exact (HBj.out.block _ hlt2).trans HE2.out
            obtain ⟨y0, y1, y2, y3, y4, y5⟩ := six_of hx5
            have c9 := cell_r9 ((HBj.out.block gr (by omega)).trans HG2.out)
            have HLS : Hid (lastSeq (l.take (j + 1)) = l[j].seq) := Lib.hid (by rw [List.take_add_one, List.getElem?_eq_getElem hjl, Option.toList_some, lastSeq_snoc])
            have HFO : Hid (foundB (l.take (j + 1)) e.ref = (foundB (l.take j) e.ref || decide (l[j].seq = e.ref ∧ l[j].kind ≠ 5))) := Lib.hid (by rw [List.take_add_one, List.getElem?_eq_getElem hjl, Option.toList_some, found_snoc])
            have HTK : Hid (takenB (l.take (j + 1)) e.ref = (takenB (l.take j) e.ref || decide (l[j].kind = 5 ∧ l[j].ref = e.ref))) := Lib.hid (by rw [List.take_add_one, List.getElem?_eq_getElem hjl, Option.toList_some, taken_snoc])
            have HLO2 : Hid (l[j].loan = e.loan → ∀ x ∈ l.take (j + 1), x.loan = e.loan) := Lib.hid fun h x hx => by
              rw [List.take_add_one, List.getElem?_eq_getElem hjl, Option.toList_some, List.mem_append] at hx
              rcases hx with hx | hx
              · exact HLO.out x hx
              · obtain rfl : x = l[j] := by simpa using hx
                exact h
            have HR1 : Hid (l[j].loan ≠ e.loan → refBad l e = true) := Lib.hid fun h => by
              have : l.any (fun x => decide (x.loan ≠ e.loan)) = true := List.any_eq_true.2 ⟨l[j], List.getElem_mem hjl, by simpa using h⟩
              unfold refBad
              rw [this, Bool.true_or]
            have HR2 : Hid (e.kind = 5 → l[j].kind = 5 → l[j].ref = e.ref → refBad l e = true) := Lib.hid fun h1 h2 h3 => by
              have : takenB l e.ref = true := List.any_eq_true.2 ⟨l[j], List.getElem_mem hjl, by simp [h2, h3]⟩
              unfold refBad
              rw [this, decide_eq_true h1]
              simp
            clear hE5 hx5 HLO
            generalize refBad l e = rb at *
            obtain ⟨f, hf⟩ : ∃ f, f = l[j] := ⟨_, rfl⟩
            rw [← hf] at z0 z1 z2 z3 z4 z5 HLS HFO HTK HLO2 HR1 HR2
            have HF := Lib.hid hf.symm
            clear hf
            obtain ⟨fs, fl, fd, fk, fa, fr⟩ := f
            obtain ⟨es, el, ed, ek, ea, er⟩ := e
            dsimp only at *
            go_upto_region 12 with (fail)
            by_cases hq : fl = el
            · subst hq
              have HLO3 := Lib.hid (HLO2.out rfl)
              go_quiet (fail)
              go_upto_region 14 with (fail)
              refine wp_at (fun wx => Below w5.heap.size w5 wx) (by first | exact below_drewN (Below.refl _ _) _ | exact (Below.refl _ _).drew | exact Below.refl _ _) ?_
              rintro w6 hbw6
              have Hw6 := Lib.hid (HBj.out.trans (hbw6.mono HBj.out.size))
              clear y0 y1 y2 y3 y4 y5 z0 z1 z2 z3 z4 z5 c9 hbw6
              obtain ⟨z0, z1, z2, z3, z4, z5⟩ := ev_six (HL2.out.below Hw6.out) j hjl
              rw [HF.out] at z0 z1 z2 z3 z4 z5
              obtain ⟨y0, y1, y2, y3, y4, y5⟩ := six_of (by have hx := (Hw6.out.block w.heap.size hlt2).trans HE2.out; rw [← HEC.out] at hx; exact hx)
              dsimp only at y0 y1 y2 y3 y4 y5 z0 z1 z2 z3 z4 z5
              have c9 := cell_r9 ((Hw6.out.block gr (by omega)).trans HG2.out)
              by_cases k5 : fk = 5
              · subst k5
                by_cases e5 : ek = 5
                · subst e5
                  by_cases r5 : fr = er
                  · subst r5
                    have HB := Lib.hid (fun n => B52.out (HR2.out rfl rfl rfl) (w6.drewN n) (below_drewN Hw6.out n))
                    clear HR1 HR2 HLO2 B52
                    go_quiet (fail)
                    go_wp2_with fail
                    exact HB.out _
                  · have t5 : (fr == er) = false := by simpa using r5
                    have HTK2 : Hid (5 = (5 : Int) → takenB (l.take (j + 1)) er = false) := Lib.hid fun h => by rw [HTK.out, HTA.out h]; simp [r5]
                    go_quiet (fail)
                    go_upto_region 16 with (fail)
                    refine wp_at (fun wx => Below w6.heap.size w6 wx) (by first | exact below_drewN (Below.refl _ _) _ | exact (Below.refl _ _).drew | exact Below.refl _ _) ?_
                    rintro w7 hbw7
                    have Hw7 := Lib.hid (Hw6.out.trans (hbw7.mono Hw6.out.size))
                    clear y0 y1 y2 y3 y4 y5 z0 z1 z2 z3 z4 z5 c9 hbw7
                    obtain ⟨z0, z1, z2, z3, z4, z5⟩ := ev_six (HL2.out.below Hw7.out) j hjl
                    rw [HF.out] at z0 z1 z2 z3 z4 z5
                    obtain ⟨y0, y1, y2, y3, y4, y5⟩ := six_of (by have hx := (Hw7.out.block w.heap.size hlt2).trans HE2.out; rw [← HEC.out] at hx; exact hx)
                    dsimp only at y0 y1 y2 y3 y4 y5 z0 z1 z2 z3 z4 z5
                    have c9 := cell_r9 ((Hw7.out.block gr (by omega)).trans HG2.out)
                    generalize hfb : foundB (l.take j) er = fb at *
                    clear hfb
                    cases fb
                    · by_cases hse : fs = er
                      · subst hse
                        go_quiet (fail)
                        go_wp2_with fail
                        go_roundw
                        case rel => exact ⟨j + 1, by omega, by go_num, by rw [HLS.out], by rw [HFO.out]; simp, HLO3, Lib.hid (fun _ => HTK2.out rfl), below_drewN Hw7 _⟩
                        case measure => simp [intOf]; omega
                      · have tse : (fs == er) = false := by simpa using hse
                        go_quiet (fail)
                        go_wp2_with fail
                        go_roundw
                        case rel => exact ⟨j + 1, by omega, by go_num, by rw [HLS.out], by rw [HFO.out]; simp [hse], HLO3, Lib.hid (fun _ => HTK2.out rfl), below_drewN Hw7 _⟩
                        case measure => simp [intOf]; omega
                    · go_quiet (fail)
                      go_wp2_with fail
                      go_roundw
                      case rel => exact ⟨j + 1, by omega, by go_num, by rw [HLS.out], by rw [HFO.out]; simp, HLO3, Lib.hid (fun _ => HTK2.out rfl), below_drewN Hw7 _⟩
                      case measure => simp [intOf]; omega
                · have t5 : (ek == 5) = false := by simpa using e5
                  have HTK2 : Hid (ek = 5 → takenB (l.take (j + 1)) er = false) := Lib.hid fun h => absurd h e5
                  go_quiet (fail)
                  go_upto_region 16 with (fail)
                  refine wp_at (fun wx => Below w6.heap.size w6 wx) (by first | exact below_drewN (Below.refl _ _) _ | exact (Below.refl _ _).drew | exact Below.refl _ _) ?_
                  rintro w7 hbw7
                  have Hw7 := Lib.hid (Hw6.out.trans (hbw7.mono Hw6.out.size))
                  clear y0 y1 y2 y3 y4 y5 z0 z1 z2 z3 z4 z5 c9 hbw7
                  obtain ⟨z0, z1, z2, z3, z4, z5⟩ := ev_six (HL2.out.below Hw7.out) j hjl
                  rw [HF.out] at z0 z1 z2 z3 z4 z5
                  obtain ⟨y0, y1, y2, y3, y4, y5⟩ := six_of (by have hx := (Hw7.out.block w.heap.size hlt2).trans HE2.out; rw [← HEC.out] at hx; exact hx)
                  dsimp only at y0 y1 y2 y3 y4 y5 z0 z1 z2 z3 z4 z5
                  have c9 := cell_r9 ((Hw7.out.block gr (by omega)).trans HG2.out)
                  generalize hfb : foundB (l.take j) er = fb at *
                  clear hfb
                  cases fb
                  · by_cases hse : fs = er
                    · subst hse
                      go_quiet (fail)
                      go_wp2_with fail
                      go_roundw
                      case rel => exact ⟨j + 1, by omega, by go_num, by rw [HLS.out], by rw [HFO.out]; simp, HLO3, HTK2, below_drewN Hw7 _⟩
                      case measure => simp [intOf]; omega
                    · have tse : (fs == er) = false := by simpa using hse
                      go_quiet (fail)
                      go_wp2_with fail
                      go_roundw
                      case rel => exact ⟨j + 1, by omega, by go_num, by rw [HLS.out], by rw [HFO.out]; simp [hse], HLO3, HTK2, below_drewN Hw7 _⟩
                      case measure => simp [intOf]; omega
                  · go_quiet (fail)
                    go_wp2_with fail
                    go_roundw
                    case rel => exact ⟨j + 1, by omega, by go_num, by rw [HLS.out], by rw [HFO.out]; simp, HLO3, HTK2, below_drewN Hw7 _⟩
                    case measure => simp [intOf]; omega
              · have t5 : (fk == 5) = false := by simpa using k5
                have t6 : (fk != 5) = true := by simpa using k5
                have HTK2 : Hid (ek = 5 → takenB (l.take (j + 1)) er = false) := Lib.hid fun h => by rw [HTK.out, HTA.out h]; simp [k5]
                go_quiet (fail)
                go_upto_region 16 with (fail)
                refine wp_at (fun wx => Below w6.heap.size w6 wx) (by first | exact below_drewN (Below.refl _ _) _ | exact (Below.refl _ _).drew | exact Below.refl _ _) ?_
                rintro w7 hbw7
                have Hw7 := Lib.hid (Hw6.out.trans (hbw7.mono Hw6.out.size))
                clear y0 y1 y2 y3 y4 y5 z0 z1 z2 z3 z4 z5 c9 hbw7
                obtain ⟨z0, z1, z2, z3, z4, z5⟩ := ev_six (HL2.out.below Hw7.out) j hjl
                rw [HF.out] at z0 z1 z2 z3 z4 z5
                obtain ⟨y0, y1, y2, y3, y4, y5⟩ := six_of (by have hx := (Hw7.out.block w.heap.size hlt2).trans HE2.out; rw [← HEC.out] at hx; exact hx)
                dsimp only at y0 y1 y2 y3 y4 y5 z0 z1 z2 z3 z4 z5
                have c9 := cell_r9 ((Hw7.out.block gr (by omega)).trans HG2.out)
                generalize hfb : foundB (l.take j) er = fb at *
                clear hfb
                cases fb
                · by_cases hse : fs = er
                  · subst hse
                    go_quiet (fail)
                    go_wp2_with fail
                    go_roundw
                    case rel => exact ⟨j + 1, by omega, by go_num, by rw [HLS.out], by rw [HFO.out]; simp [k5], HLO3, HTK2, below_drewN Hw7 _⟩
                    case measure => simp [intOf]; omega
                  · have tse : (fs == er) = false := by simpa using hse
                    go_quiet (fail)
                    go_wp2_with fail
                    go_roundw
                    case rel => exact ⟨j + 1, by omega, by go_num, by rw [HLS.out], by rw [HFO.out]; simp [hse], HLO3, HTK2, below_drewN Hw7 _⟩
                    case measure => simp [intOf]; omega
                · go_quiet (fail)
                  go_wp2_with fail
                  go_roundw
                  case rel => exact ⟨j + 1, by omega, by go_num, by rw [HLS.out], by rw [HFO.out]; simp, HLO3, HTK2, below_drewN Hw7 _⟩
                  case measure => simp [intOf]; omega
            · have q2 : (fl.toList == el.toList) = false := (Lib.bytes_beq_false_iff _ _).2 hq
              have q3 : (fl.toList != el.toList) = true := by rw [bne, q2]; rfl
              have HB := Lib.hid (fun n => B52.out (HR1.out hq) (w5.drewN n) (below_drewN HBj.out n))
              clear HR1 HR2 HLO2 B52
              go_quiet (fail)
              go_wp2_with fail
              exact HB.out _
          · obtain rfl : j = n := by omega
            have ht : l.take j = l := List.take_of_length_le (by have := HLN.out; omega)
            rw [ht] at HLO HTA ⊢
            clear ht
            go_wp2_with fail
            go_meet
            exact ⟨rfl, rfl, HLO, HTA, HBj⟩
      case rest =>
        obtain ⟨rfl, rfl, HLO, HTA, HBj⟩ := hcut
        obtain ⟨w5, rfl⟩ : ∃ x, x = wc := ⟨_, rfl⟩
        have HRB : Hid (refBad l e = (decide (e.seq ≤ lastSeq l) || (decide (e.kind = 5) && !foundB l e.ref))) := Lib.hid (by
          unfold refBad
          rw [List.any_eq_false.2 (fun x hx => by simpa using HLO.out x hx)]
          by_cases hk : e.kind = 5
          · rw [HTA.out hk]; simp
          · simp [hk])
        have hb05 := HB2.out.trans (HBj.out.mono HB2.out.size)
        have H52 : Hid (refBad l e = true → P (.returned (.int .i64 52)) w5) := Lib.hid fun hh => B52.out hh w5 HBj.out
        have HE5 := Lib.hid ((HBj.out.block w.heap.size hlt2).trans HE2.out)
        have HG5 := Lib.hid ((HBj.out.block gr (by omega)).trans HG2.out)
        have HL5 := Lib.hid (HL2.out.below HBj.out)
        have hx5 := HE5.out
        rw [← HEC.out] at hx5
        obtain ⟨y0, _, _, y3, _, _⟩ := six_of hx5
        have hlt5 : w.heap.size < w5.heap.size := (Array.getElem?_eq_some_iff.1 HE5.out).1
        have hnl : l.length = n := HLN.out
        have HEV : Hid (∀ v, (Instr.buildSlice 35 1 #[(0, .agg EC)]).run Tryz.prog v = .ok (.slice (some ⟨v.heap.size, 0, none⟩) 1 1) (v.alloc (.cells EC 39))) := Lib.hid fun v => by rw [← HEC.out]; exact lit_ev e v
        have HRE : Hid (∀ v g, v.heap[g]? = some (.cells EC 39 (0, 0)) → RdE v (some ⟨g, 0, none⟩) 1 [e]) := Lib.hid fun v g hg => ⟨rfl, fun _ => ⟨g, 0, rfl, fun j hj k u hu => by
          obtain rfl : j = 0 := by simpa using hj
          rw [cell_of_row _ _ _ _ _ _ hg, show 0 + 0 * 6 + k = k by omega, ← HEC.out]
          exact hu⟩⟩
        have HES : Hid (EC.size = 6) := Lib.hid (by rw [← HEC.out]; rfl)
        have HFIN2 : Hid (refBad l e = false → ∀ (W : World), (∃ E n c, RefAt W gr p B E n c (l ++ [e]) ∧ n ≤ c ∧ KeptBut gr w5 W ∧ ∀ a, E = some a → w5.heap.size ≤ a.block) → P (.returned (.int .i64 0)) W) := Lib.hid fun hh W ⟨E', n', c', h1, h2, h3, h4⟩ =>
          HFIN.out W E' n' c' (by rw [HANA.out, hh]; rfl) h1 h2 ⟨h3.os.trans hb05.os, h3.tape.trans hb05.tape, h3.output.trans hb05.output, Nat.le_trans hb05.size h3.size, fun k k1 k2 => (h3.block k (by omega) k2).trans (hb05.block k k1)⟩ (fun a ha => Nat.le_trans hb05.size (h4 a ha))
        clear HFIN HANA B52 hx5 HLO HTA HBj HB2 c9
        generalize hrb : refBad l e = rb at *
        clear hrb
        have hke : (e.kind = 5) = (e.kind = 5) := rfl
        generalize hla : lastSeq l = la at *
        generalize hfb : foundB l e.ref = fb at *
        clear hla hfb hke
        by_cases hs : e.seq ≤ la
        · have HB := Lib.hid (H52.out (by rw [HRB.out, decide_eq_true hs, Bool.true_or]))
          clear H52 HRB HFIN2
          go_wp2_with fail
          exact HB.out
        · by_cases k5 : e.kind = 5
          · rw [k5] at y3
            cases fb
            · have HB := Lib.hid (H52.out (by rw [HRB.out, decide_eq_true k5]; simp))
              clear H52 HRB HFIN2 k5
              go_wp2_with fail
              exact HB.out
            · have HOK := Lib.hid (HFIN2.out (by rw [HRB.out, decide_eq_false hs]; simp))
              clear H52 HRB HFIN2 k5
              go_upto_region 20 with (fail)
              have hgr5 : gr < w5.heap.size := by omega
              refine region_letters fun a Q ha hQ => ?_
              have HA' := Lib.hid ha
              have HQ := Lib.hid hQ
              have e0 : a.eval (.tmp 0) = .pointer (some ⟨gr, 0, none⟩) := by rw [ha]; rfl
              have e3 : a.eval (.tmp 3) = .pointer (some ⟨w.heap.size, 0, none⟩) := by rw [ha]; rfl
              have hszA : a.tmps.size = 125 := by rw [ha]; rfl
              clear ha hQ
              refine region_opsN (by kernel_rfl) [113, 114, 115, 116, 117, 118, 119, 120, 121, 122, 123, 124] (G20 w5 gr p B l e) (T20 w5 gr E n c l e EC) (by kernel_rfl) (fun t h => by rw [hszA] at h; simp; omega) ⟨fun _ => (Below.refl _ _).drew, fun h => by cases h⟩ ⟨?_, ?_, ?_, ?_, ?_, ?_, ?_, ?_, ?_, ?_, ?_, ?_, ?_, trivial⟩ ?_
              · intro L b v hi hdep hcl hf hn hg ht
                have hg : G20 w5 gr p B l e L v := hg
                have h12 : L 12 = false := by
                  cases h0 : L 12 with
                  | false => rfl
                  | true => exact absurd (hcl 10 _ 0 rfl (hcl 11 _ 10 rfl (hcl 12 _ 11 rfl (h0) (by decide)) (by decide)) (by decide)) (by rw [hi]; decide)
                have x0 : b.eval (.tmp 0) = .pointer (some ⟨gr, 0, none⟩) := by rw [hf.eval (by decide)]; exact e0
                exact still_ok (.pointer (some ⟨gr, 0, none⟩)) (by rw [exec_move (.tmp 0) rfl, x0]) (G20.to (by decide) h12 (hg.low h12)) (rfl) (fun j oj d hoj hd hji hlj h => T20_keep (Below.refl _ _) h)
              · intro L b v hi hdep hcl hf hn hg ht
                have hg : G20 w5 gr p B l e L v := hg
                have h12 : L 12 = false := by
                  cases h0 : L 12 with
                  | false => rfl
                  | true => exact absurd (hcl 6 _ 1 rfl (hcl 9 _ 6 rfl (hcl 12 _ 9 rfl (h0) (by decide)) (by decide)) (by decide)) (by rw [hi]; decide)
                have hb2 : Below v.heap.size v (v.alloc (.cells #[] 39)) := (Below.refl _ _).alloc (Nat.le_refl _) _
                have hlow := hg.low h12
                exact makes_ok _ (exec_lit0 35 rfl _ (lit0 v)) (G20.to (by decide) h12 (hlow.trans (hb2.mono hlow.size))) (fun _ => ⟨v.heap.size, rfl, hlow.size, heap_alloc_new _ _⟩) (fun j oj d hoj hd hji hlj h => T20_keep hb2 h)
              · intro L b v hi hdep hcl hf hn hg ht
                have hg : G20 w5 gr p B l e L v := hg
                have h12 : L 12 = false := by
                  cases h0 : L 12 with
                  | false => rfl
                  | true => exact absurd (hcl 3 _ 2 rfl (hcl 4 _ 3 rfl (hcl 5 _ 4 rfl (hcl 6 _ 5 rfl (hcl 9 _ 6 rfl (hcl 12 _ 9 rfl (h0) (by decide)) (by decide)) (by decide)) (by decide)) (by decide)) (by decide)) (by rw [hi]; decide)
                have x0 : b.eval (.tmp 0) = .pointer (some ⟨gr, 0, none⟩) := by rw [hf.eval (by decide)]; exact e0
                exact still_ok (.pointer (some ⟨gr, 0, none⟩)) (by rw [exec_move (.tmp 0) rfl, x0]) (G20.to (by decide) h12 (hg.low h12)) (rfl) (fun j oj d hoj hd hji hlj h => T20_keep (Below.refl _ _) h)
              · intro L b v hi hdep hcl hf hn hg ht
                have hg : G20 w5 gr p B l e L v := hg
                have h12 : L 12 = false := by
                  cases h0 : L 12 with
                  | false => rfl
                  | true => exact absurd (hcl 4 _ 3 rfl (hcl 5 _ 4 rfl (hcl 6 _ 5 rfl (hcl 9 _ 6 rfl (hcl 12 _ 9 rfl (h0) (by decide)) (by decide)) (by decide)) (by decide)) (by decide)) (by rw [hi]; decide)
                have x0 : b.eval (.tmp 115) = .pointer (some ⟨gr, 0, none⟩) := ht 2 _ 115 rfl rfl (hdep 2 (by decide))
                exact still_ok (.pointer (some ⟨gr, 0, none⟩)) (by unfold execOp; simp only [x0]; go_simp) (G20.to (by decide) h12 (hg.low h12)) (rfl) (fun j oj d hoj hd hji hlj h => T20_keep (Below.refl _ _) h)
              · intro L b v hi hdep hcl hf hn hg ht
                have hg : G20 w5 gr p B l e L v := hg
                have h12 : L 12 = false := by
                  cases h0 : L 12 with
                  | false => rfl
                  | true => exact absurd (hcl 5 _ 4 rfl (hcl 6 _ 5 rfl (hcl 9 _ 6 rfl (hcl 12 _ 9 rfl (h0) (by decide)) (by decide)) (by decide)) (by decide)) (by rw [hi]; decide)
                have x0 : b.eval (.tmp 116) = .pointer (some ⟨gr, 0, none⟩) := ht 3 _ 116 rfl rfl (hdep 3 (by decide))
                exact still_ok (.pointer (some ⟨gr, 9, none⟩)) (by unfold execOp; simp only [x0]; go_simp) (G20.to (by decide) h12 (hg.low h12)) (rfl) (fun j oj d hoj hd hji hlj h => T20_keep (Below.refl _ _) h)
              · intro L b v hi hdep hcl hf hn hg ht
                have hg : G20 w5 gr p B l e L v := hg
                have h12 : L 12 = false := by
                  cases h0 : L 12 with
                  | false => rfl
                  | true => exact absurd (hcl 6 _ 5 rfl (hcl 9 _ 6 rfl (hcl 12 _ 9 rfl (h0) (by decide)) (by decide)) (by decide)) (by rw [hi]; decide)
                have x0 : b.eval (.tmp 117) = .pointer (some ⟨gr, 9, none⟩) := ht 4 _ 117 rfl rfl (hdep 4 (by decide))
                have hc := cell_r9 (((hg.low h12).block gr hgr5).trans HG5.out)
                exact still_ok (.slice E n c) (by unfold execOp; simp only [x0]; go_simp) (G20.to (by decide) h12 (hg.low h12)) (rfl) (fun j oj d hoj hd hji hlj h => T20_keep (Below.refl _ _) h)
              · intro L b v hi hdep hcl hf hn hg ht
                have hg : G20 w5 gr p B l e L v := hg
                have h12 : L 12 = false := by
                  cases h0 : L 12 with
                  | false => rfl
                  | true => exact absurd (hcl 9 _ 6 rfl (hcl 12 _ 9 rfl (h0) (by decide)) (by decide)) (by rw [hi]; decide)
                have x1 : b.eval (.tmp 118) = .slice E n c := ht 5 _ 118 rfl rfl (hdep 5 (by decide))
                have x0 : L 6 = false → LitW 39 #[] 0 w5.heap.size (b.eval (.tmp 114)) v := ht 1 _ 114 rfl rfl (hdep 1 (by decide))
                obtain ⟨g1, x0, hg1, hr1⟩ := x0 hi
                have hlow := hg.low h12
                have ho := own_lit0 hr1 hg1
                obtain ⟨u, w2, hrun, hown, hgr2⟩ := app_evs (E := E) (n := n) (c := c) (ys := l) ho (HL5.out.below hlow) (by omega) hlow.size
                have hb2 : Below w5.heap.size w5 w2 := below_grown hlow ho (Nat.le_refl _) hgr2 hlow.size
                refine makes_ok u (exec_append (.tmp 114) (.tmp 118) 35 rfl _ _ u x0 x1 hrun) (G20.to (by decide) h12 hb2) (fun _ => by rw [Nat.zero_add] at hown; exact hown) (fun jj oj d hoj hd hji hlj h => ?_)
                unfold T20 at h ⊢
                split at h <;> first
                  | exact h
                  | exact absurd rfl hji
                  | (intro h0; rw [upd_self] at h0; cases h0)
                  | exact absurd (hcl 9 _ 6 rfl hlj (by decide)) (by rw [hi]; decide)
                  | (intro h0; obtain ⟨g8, k1, k2, k3⟩ := h (upd_false h0); refine ⟨g8, k1, k2, (hgr2.block g8 (Array.getElem?_eq_some_iff.1 k3).1 (fun e => ?_)).trans k3⟩; have e2 : g8 = g1 := (by injection e); rw [e2, hr1] at k3; injection k3 with k3; injection k3 with k3; have := HES.out; rw [← k3] at this; cases this)
              · intro L b v hi hdep hcl hf hn hg ht
                have hg : G20 w5 gr p B l e L v := hg
                have h12 : L 12 = false := by
                  cases h0 : L 12 with
                  | false => rfl
                  | true => exact absurd (hcl 8 _ 7 rfl (hcl 9 _ 8 rfl (hcl 12 _ 9 rfl (h0) (by decide)) (by decide)) (by decide)) (by rw [hi]; decide)
                have x0 : b.eval (.tmp 3) = .pointer (some ⟨w.heap.size, 0, none⟩) := by rw [hf.eval (by decide)]; exact e3
                exact still_ok (.agg EC) (exec_row 39 (.tmp 3) rfl w.heap.size x0 _ _ _ _ (((hg.low h12).block _ hlt5).trans HE5.out) Tryz.underlying39 rfl hie) (G20.to (by decide) h12 (hg.low h12)) rfl (fun j oj d hoj hd hji hlj h => T20_keep (Below.refl _ _) h)
              · intro L b v hi hdep hcl hf hn hg ht
                have hg : G20 w5 gr p B l e L v := hg
                have h12 : L 12 = false := by
                  cases h0 : L 12 with
                  | false => rfl
                  | true => exact absurd (hcl 9 _ 8 rfl (hcl 12 _ 9 rfl (h0) (by decide)) (by decide)) (by rw [hi]; decide)
                have x0 : b.eval (.tmp 120) = .agg EC := ht 7 _ 120 rfl rfl (hdep 7 (by decide))
                have hb2 : Below v.heap.size v (v.alloc (.cells EC 39)) := (Below.refl _ _).alloc (Nat.le_refl _) _
                have hlow := hg.low h12
                exact makes_ok _ (exec_lit1 35 (.tmp 120) rfl _ _ x0 (HEV.out v)) (G20.to (by decide) h12 (hlow.trans (hb2.mono hlow.size))) (fun _ => ⟨v.heap.size, rfl, hlow.size, heap_alloc_new _ _⟩) (fun j oj d hoj hd hji hlj h => T20_keep hb2 h)
              · intro L b v hi hdep hcl hf hn hg ht
                have hg : G20 w5 gr p B l e L v := hg
                have h12 : L 12 = false := by
                  cases h0 : L 12 with
                  | false => rfl
                  | true => exact absurd (hcl 12 _ 9 rfl (h0) (by decide)) (by rw [hi]; decide)
                have x0 : L 9 = false → v.ownsRow w5.heap.size 39 6 (b.eval (.tmp 119)) n (flatE l) := ht 6 _ 119 rfl rfl (hdep 6 (by decide))
                have x1 : L 9 = false → LitW 39 EC 1 w5.heap.size (b.eval (.tmp 121)) v := ht 8 _ 121 rfl rfl (hdep 8 (by decide))
                have ho := x0 hi
                obtain ⟨g1, x1, hg1, hr1⟩ := x1 hi
                have hlow := hg.low h12
                have h6 := hdep 6 (by decide)
                obtain ⟨u, w2, hrun, hown, hgr2⟩ := app_evs (E := some ⟨g1, 0, none⟩) (n := 1) (c := 1) (ys := [e]) ho (HRE.out v g1 hr1) (by omega) hlow.size
                have hb2 : Below w5.heap.size w5 w2 := below_grown hlow ho (Nat.le_refl _) hgr2 hlow.size
                refine makes_ok u (exec_append (.tmp 119) (.tmp 121) 35 rfl _ _ u rfl x1 hrun) (G20.to (by decide) h12 hb2) (fun _ => hown) (fun jj oj d hoj hd hji hlj h => ?_)
                unfold T20 at h ⊢
                split at h <;> first
                  | exact h
                  | exact absurd rfl hji
                  | (intro h0; rw [upd_self] at h0; cases h0)
                  | (intro h0; have := upd_false h0; rw [h6] at this; cases this)
              · intro L b v hi hdep hcl hf hn hg ht
                have hg : G20 w5 gr p B l e L v := hg
                have h12 : L 12 = false := by
                  cases h0 : L 12 with
                  | false => rfl
                  | true => exact absurd (hcl 11 _ 10 rfl (hcl 12 _ 11 rfl (h0) (by decide)) (by decide)) (by rw [hi]; decide)
                have x0 : b.eval (.tmp 113) = .pointer (some ⟨gr, 0, none⟩) := ht 0 _ 113 rfl rfl (hdep 0 (by decide))
                exact still_ok (.pointer (some ⟨gr, 0, none⟩)) (by unfold execOp; simp only [x0]; go_simp) (G20.to (by decide) h12 (hg.low h12)) (rfl) (fun j oj d hoj hd hji hlj h => T20_keep (Below.refl _ _) h)
              · intro L b v hi hdep hcl hf hn hg ht
                have hg : G20 w5 gr p B l e L v := hg
                have h12 : L 12 = false := by
                  cases h0 : L 12 with
                  | false => rfl
                  | true => exact absurd (hcl 12 _ 11 rfl (h0) (by decide)) (by rw [hi]; decide)
                have x0 : b.eval (.tmp 123) = .pointer (some ⟨gr, 0, none⟩) := ht 10 _ 123 rfl rfl (hdep 10 (by decide))
                exact still_ok (.pointer (some ⟨gr, 9, none⟩)) (by unfold execOp; simp only [x0]; go_simp) (G20.to (by decide) h12 (hg.low h12)) (rfl) (fun j oj d hoj hd hji hlj h => T20_keep (Below.refl _ _) h)
              · intro L b v hi hdep hcl hf hn hg ht
                have hg : G20 w5 gr p B l e L v := hg
                have h12 := hi
                have x0 : b.eval (.tmp 124) = .pointer (some ⟨gr, 9, none⟩) := ht 11 _ 124 rfl rfl (hdep 11 (by decide))
                have x1 : L 12 = false → v.ownsRow w5.heap.size 39 6 (b.eval (.tmp 122)) (n + 1) (flatE (l ++ [e])) := ht 9 _ 122 rfl rfl (hdep 9 (by decide))
                have ho := x1 hi
                have hlow := hg.low h12
                obtain ⟨A2, c2, hu⟩ := own_slice ho
                rw [hu] at ho
                have hr := (hlow.block gr hgr5).trans HG5.out
                have cc := cell_r9 hr
                have cf : v.frozen? ⟨gr, 9, none⟩ = false := by simp [World.frozen?, hr]
                have h9 := hdep 9 (by decide)
                have h6 := hcl 9 _ 6 rfl h9 (by decide)
                have hrun : (execOp b.eval { dst := none, op := .store 35 (.tmp 124) (.tmp 122), type := 0, pos := "", after := #[], guard := none }).run Tryz.prog v = .ok .skip (v.setCell ⟨gr, 9, none⟩ (.slice A2 (n + 1) c2)) := by
                  unfold execOp
                  simp only [x0, hu]
                  go_simp
                have hfin : ∃ E2 n2 c3, RefAt (v.setCell ⟨gr, 9, none⟩ (.slice A2 (n + 1) c2)) gr p B E2 n2 c3 (l ++ [e]) ∧ n2 ≤ c3 ∧ KeptBut gr w5 (v.setCell ⟨gr, 9, none⟩ (.slice A2 (n + 1) c2)) ∧ ∀ a, E2 = some a → w5.heap.size ≤ a.block := by
                  have hlo := hlow.size
                  have ho2 : (v.setCell ⟨gr, 9, none⟩ (.slice A2 (n + 1) c2)).ownsRow w5.heap.size 39 6 (.slice A2 (n + 1) c2) (n + 1) (flatE (l ++ [e])) := ownE_keep ho fun g hg2 => heap_setCell_other _ _ _ _ fun e2 => by
                    rcases ho.2 with ⟨_, h0⟩ | ⟨g3, cap, cur, hs3, hb3, _⟩
                    · omega
                    · rw [hs3] at hg2
                      injection hg2 with hg2
                      have e3 : g = gr := by first | exact e2 | exact e2.symm
                      have e4 : g3 = g := hg2
                      omega
                  refine ⟨A2, n + 1, c2, ⟨?_, (Rd.of_own ho2).ev⟩, ?_, ⟨hlow.os, hlow.tape, hlow.output, by simpa [World.setCell] using hlo, fun k k1 k2 => ?_⟩, fun a ha => ?_⟩
                  · rw [heap_setCell_same v gr 9 _ _ _ hr]; rfl
                  · rcases ho.2 with ⟨_, h0⟩ | ⟨g3, cap, cur, hs3, hb3, _, hle, _⟩
                    · omega
                    · injection hs3 with _ _ h3; omega
                  · exact (heap_setCell_other _ _ _ _ (fun e2 => k2 (by first | exact e2 | exact e2.symm))).trans (hlow.block k k1)
                  · rcases ho.2 with ⟨_, h0⟩ | ⟨g3, cap, cur, hs3, hb3, _, hle, _⟩
                    · omega
                    · injection hs3 with h3; rw [ha] at h3; injection h3 with h3; rw [h3]; exact hb3
                refine skip_ok hrun ⟨(fun h => by rw [upd_self] at h; cases h), fun _ => hfin⟩ trivial (fun jj oj d hoj hd hji hlj h => ?_)
                unfold T20 at h ⊢
                split at h <;> first
                  | exact h
                  | (intro h0; rw [upd_self] at h0; cases h0)
                  | (intro h0; have := upd_false h0; rw [h9] at this; cases this)
                  | (intro h0; have := upd_false h0; rw [h6] at this; cases this)
              · intro b v hf hg ht
                have hfin := G20.fin hg rfl
                refine HQ.out b v ?_
                rw [hf.out]
                simp only [List.foldl_cons, List.foldl_nil]
                rw [HA'.out]
                generalize b.eval (.tmp 113) = u113
                generalize b.eval (.tmp 114) = u114
                generalize b.eval (.tmp 115) = u115
                generalize b.eval (.tmp 116) = u116
                generalize b.eval (.tmp 117) = u117
                generalize b.eval (.tmp 118) = u118
                generalize b.eval (.tmp 119) = u119
                generalize b.eval (.tmp 120) = u120
                generalize b.eval (.tmp 121) = u121
                generalize b.eval (.tmp 122) = u122
                generalize b.eval (.tmp 123) = u123
                generalize b.eval (.tmp 124) = u124
                simp only [Act.put, List.setIfInBounds_toArray, List.set_cons_succ, List.set_cons_zero]
                have HX := Lib.hid (HOK.out v hfin)
                clear hfin HOK
                go_wp2_with fail
                exact HX.out
          · have t5 : (e.kind == 5) = false := by simpa using k5
            have HOK := Lib.hid (HFIN2.out (by rw [HRB.out, decide_eq_false hs, decide_eq_false k5]; rfl))
            clear H52 HRB HFIN2 k5
            go_upto_region 20 with (fail)
            have hgr5 : gr < w5.heap.size := by omega
            refine region_letters fun a Q ha hQ => ?_
            have HA' := Lib.hid ha
            have HQ := Lib.hid hQ
            have e0 : a.eval (.tmp 0) = .pointer (some ⟨gr, 0, none⟩) := by rw [ha]; rfl
            have e3 : a.eval (.tmp 3) = .pointer (some ⟨w.heap.size, 0, none⟩) := by rw [ha]; rfl
            have hszA : a.tmps.size = 125 := by rw [ha]; rfl
            clear ha hQ
            refine region_opsN (by kernel_rfl) [113, 114, 115, 116, 117, 118, 119, 120, 121, 122, 123, 124] (G20 w5 gr p B l e) (T20 w5 gr E n c l e EC) (by kernel_rfl) (fun t h => by rw [hszA] at h; simp; omega) ⟨fun _ => (Below.refl _ _).drew, fun h => by cases h⟩ ⟨?_, ?_, ?_, ?_, ?_, ?_, ?_, ?_, ?_, ?_, ?_, ?_, ?_, trivial⟩ ?_
            · intro L b v hi hdep hcl hf hn hg ht
              have hg : G20 w5 gr p B l e L v := hg
              have h12 : L 12 = false := by
                cases h0 : L 12 with
                | false => rfl
                | true => exact absurd (hcl 10 _ 0 rfl (hcl 11 _ 10 rfl (hcl 12 _ 11 rfl (h0) (by decide)) (by decide)) (by decide)) (by rw [hi]; decide)
              have x0 : b.eval (.tmp 0) = .pointer (some ⟨gr, 0, none⟩) := by rw [hf.eval (by decide)]; exact e0
              exact still_ok (.pointer (some ⟨gr, 0, none⟩)) (by rw [exec_move (.tmp 0) rfl, x0]) (G20.to (by decide) h12 (hg.low h12)) (rfl) (fun j oj d hoj hd hji hlj h => T20_keep (Below.refl _ _) h)
            · intro L b v hi hdep hcl hf hn hg ht
              have hg : G20 w5 gr p B l e L v := hg
              have h12 : L 12 = false := by
                cases h0 : L 12 with
                | false => rfl
                | true => exact absurd (hcl 6 _ 1 rfl (hcl 9 _ 6 rfl (hcl 12 _ 9 rfl (h0) (by decide)) (by decide)) (by decide)) (by rw [hi]; decide)
              have hb2 : Below v.heap.size v (v.alloc (.cells #[] 39)) := (Below.refl _ _).alloc (Nat.le_refl _) _
              have hlow := hg.low h12
              exact makes_ok _ (exec_lit0 35 rfl _ (lit0 v)) (G20.to (by decide) h12 (hlow.trans (hb2.mono hlow.size))) (fun _ => ⟨v.heap.size, rfl, hlow.size, heap_alloc_new _ _⟩) (fun j oj d hoj hd hji hlj h => T20_keep hb2 h)
            · intro L b v hi hdep hcl hf hn hg ht
              have hg : G20 w5 gr p B l e L v := hg
              have h12 : L 12 = false := by
                cases h0 : L 12 with
                | false => rfl
                | true => exact absurd (hcl 3 _ 2 rfl (hcl 4 _ 3 rfl (hcl 5 _ 4 rfl (hcl 6 _ 5 rfl (hcl 9 _ 6 rfl (hcl 12 _ 9 rfl (h0) (by decide)) (by decide)) (by decide)) (by decide)) (by decide)) (by decide)) (by rw [hi]; decide)
              have x0 : b.eval (.tmp 0) = .pointer (some ⟨gr, 0, none⟩) := by rw [hf.eval (by decide)]; exact e0
              exact still_ok (.pointer (some ⟨gr, 0, none⟩)) (by rw [exec_move (.tmp 0) rfl, x0]) (G20.to (by decide) h12 (hg.low h12)) (rfl) (fun j oj d hoj hd hji hlj h => T20_keep (Below.refl _ _) h)
            · intro L b v hi hdep hcl hf hn hg ht
              have hg : G20 w5 gr p B l e L v := hg
              have h12 : L 12 = false := by
                cases h0 : L 12 with
                | false => rfl
                | true => exact absurd (hcl 4 _ 3 rfl (hcl 5 _ 4 rfl (hcl 6 _ 5 rfl (hcl 9 _ 6 rfl (hcl 12 _ 9 rfl (h0) (by decide)) (by decide)) (by decide)) (by decide)) (by decide)) (by rw [hi]; decide)
              have x0 : b.eval (.tmp 115) = .pointer (some ⟨gr, 0, none⟩) := ht 2 _ 115 rfl rfl (hdep 2 (by decide))
              exact still_ok (.pointer (some ⟨gr, 0, none⟩)) (by unfold execOp; simp only [x0]; go_simp) (G20.to (by decide) h12 (hg.low h12)) (rfl) (fun j oj d hoj hd hji hlj h => T20_keep (Below.refl _ _) h)
            · intro L b v hi hdep hcl hf hn hg ht
              have hg : G20 w5 gr p B l e L v := hg
              have h12 : L 12 = false := by
                cases h0 : L 12 with
                | false => rfl
                | true => exact absurd (hcl 5 _ 4 rfl (hcl 6 _ 5 rfl (hcl 9 _ 6 rfl (hcl 12 _ 9 rfl (h0) (by decide)) (by decide)) (by decide)) (by decide)) (by rw [hi]; decide)
              have x0 : b.eval (.tmp 116) = .pointer (some ⟨gr, 0, none⟩) := ht 3 _ 116 rfl rfl (hdep 3 (by decide))
              exact still_ok (.pointer (some ⟨gr, 9, none⟩)) (by unfold execOp; simp only [x0]; go_simp) (G20.to (by decide) h12 (hg.low h12)) (rfl) (fun j oj d hoj hd hji hlj h => T20_keep (Below.refl _ _) h)
            · intro L b v hi hdep hcl hf hn hg ht
              have hg : G20 w5 gr p B l e L v := hg
              have h12 : L 12 = false := by
                cases h0 : L 12 with
                | false => rfl
                | true => exact absurd (hcl 6 _ 5 rfl (hcl 9 _ 6 rfl (hcl 12 _ 9 rfl (h0) (by decide)) (by decide)) (by decide)) (by rw [hi]; decide)
              have x0 : b.eval (.tmp 117) = .pointer (some ⟨gr, 9, none⟩) := ht 4 _ 117 rfl rfl (hdep 4 (by decide))
              have hc := cell_r9 (((hg.low h12).block gr hgr5).trans HG5.out)
              exact still_ok (.slice E n c) (by unfold execOp; simp only [x0]; go_simp) (G20.to (by decide) h12 (hg.low h12)) (rfl) (fun j oj d hoj hd hji hlj h => T20_keep (Below.refl _ _) h)
            · intro L b v hi hdep hcl hf hn hg ht
              have hg : G20 w5 gr p B l e L v := hg
              have h12 : L 12 = false := by
                cases h0 : L 12 with
                | false => rfl
                | true => exact absurd (hcl 9 _ 6 rfl (hcl 12 _ 9 rfl (h0) (by decide)) (by decide)) (by rw [hi]; decide)
              have x1 : b.eval (.tmp 118) = .slice E n c := ht 5 _ 118 rfl rfl (hdep 5 (by decide))
              have x0 : L 6 = false → LitW 39 #[] 0 w5.heap.size (b.eval (.tmp 114)) v := ht 1 _ 114 rfl rfl (hdep 1 (by decide))
              obtain ⟨g1, x0, hg1, hr1⟩ := x0 hi
              have hlow := hg.low h12
              have ho := own_lit0 hr1 hg1
              obtain ⟨u, w2, hrun, hown, hgr2⟩ := app_evs (E := E) (n := n) (c := c) (ys := l) ho (HL5.out.below hlow) (by omega) hlow.size
              have hb2 : Below w5.heap.size w5 w2 := below_grown hlow ho (Nat.le_refl _) hgr2 hlow.size
              refine makes_ok u (exec_append (.tmp 114) (.tmp 118) 35 rfl _ _ u x0 x1 hrun) (G20.to (by decide) h12 hb2) (fun _ => by rw [Nat.zero_add] at hown; exact hown) (fun jj oj d hoj hd hji hlj h => ?_)
              unfold T20 at h ⊢
              split at h <;> first
                | exact h
                | exact absurd rfl hji
                | (intro h0; rw [upd_self] at h0; cases h0)
                | exact absurd (hcl 9 _ 6 rfl hlj (by decide)) (by rw [hi]; decide)
                | (intro h0; obtain ⟨g8, k1, k2, k3⟩ := h (upd_false h0); refine ⟨g8, k1, k2, (hgr2.block g8 (Array.getElem?_eq_some_iff.1 k3).1 (fun e => ?_)).trans k3⟩; have e2 : g8 = g1 := (by injection e); rw [e2, hr1] at k3; injection k3 with k3; injection k3 with k3; have := HES.out; rw [← k3] at this; cases this)
            · intro L b v hi hdep hcl hf hn hg ht
              have hg : G20 w5 gr p B l e L v := hg
              have h12 : L 12 = false := by
                cases h0 : L 12 with
                | false => rfl
                | true => exact absurd (hcl 8 _ 7 rfl (hcl 9 _ 8 rfl (hcl 12 _ 9 rfl (h0) (by decide)) (by decide)) (by decide)) (by rw [hi]; decide)
              have x0 : b.eval (.tmp 3) = .pointer (some ⟨w.heap.size, 0, none⟩) := by rw [hf.eval (by decide)]; exact e3
              exact still_ok (.agg EC) (exec_row 39 (.tmp 3) rfl w.heap.size x0 _ _ _ _ (((hg.low h12).block _ hlt5).trans HE5.out) Tryz.underlying39 rfl hie) (G20.to (by decide) h12 (hg.low h12)) rfl (fun j oj d hoj hd hji hlj h => T20_keep (Below.refl _ _) h)
            · intro L b v hi hdep hcl hf hn hg ht
              have hg : G20 w5 gr p B l e L v := hg
              have h12 : L 12 = false := by
                cases h0 : L 12 with
                | false => rfl
                | true => exact absurd (hcl 9 _ 8 rfl (hcl 12 _ 9 rfl (h0) (by decide)) (by decide)) (by rw [hi]; decide)
              have x0 : b.eval (.tmp 120) = .agg EC := ht 7 _ 120 rfl rfl (hdep 7 (by decide))
              have hb2 : Below v.heap.size v (v.alloc (.cells EC 39)) := (Below.refl _ _).alloc (Nat.le_refl _) _
              have hlow := hg.low h12
              exact makes_ok _ (exec_lit1 35 (.tmp 120) rfl _ _ x0 (HEV.out v)) (G20.to (by decide) h12 (hlow.trans (hb2.mono hlow.size))) (fun _ => ⟨v.heap.size, rfl, hlow.size, heap_alloc_new _ _⟩) (fun j oj d hoj hd hji hlj h => T20_keep hb2 h)
            · intro L b v hi hdep hcl hf hn hg ht
              have hg : G20 w5 gr p B l e L v := hg
              have h12 : L 12 = false := by
                cases h0 : L 12 with
                | false => rfl
                | true => exact absurd (hcl 12 _ 9 rfl (h0) (by decide)) (by rw [hi]; decide)
              have x0 : L 9 = false → v.ownsRow w5.heap.size 39 6 (b.eval (.tmp 119)) n (flatE l) := ht 6 _ 119 rfl rfl (hdep 6 (by decide))
              have x1 : L 9 = false → LitW 39 EC 1 w5.heap.size (b.eval (.tmp 121)) v := ht 8 _ 121 rfl rfl (hdep 8 (by decide))
              have ho := x0 hi
              obtain ⟨g1, x1, hg1, hr1⟩ := x1 hi
              have hlow := hg.low h12
              have h6 := hdep 6 (by decide)
              obtain ⟨u, w2, hrun, hown, hgr2⟩ := app_evs (E := some ⟨g1, 0, none⟩) (n := 1) (c := 1) (ys := [e]) ho (HRE.out v g1 hr1) (by omega) hlow.size
              have hb2 : Below w5.heap.size w5 w2 := below_grown hlow ho (Nat.le_refl _) hgr2 hlow.size
              refine makes_ok u (exec_append (.tmp 119) (.tmp 121) 35 rfl _ _ u rfl x1 hrun) (G20.to (by decide) h12 hb2) (fun _ => hown) (fun jj oj d hoj hd hji hlj h => ?_)
              unfold T20 at h ⊢
              split at h <;> first
                | exact h
                | exact absurd rfl hji
                | (intro h0; rw [upd_self] at h0; cases h0)
                | (intro h0; have := upd_false h0; rw [h6] at this; cases this)
            · intro L b v hi hdep hcl hf hn hg ht
              have hg : G20 w5 gr p B l e L v := hg
              have h12 : L 12 = false := by
                cases h0 : L 12 with
                | false => rfl
                | true => exact absurd (hcl 11 _ 10 rfl (hcl 12 _ 11 rfl (h0) (by decide)) (by decide)) (by rw [hi]; decide)
              have x0 : b.eval (.tmp 113) = .pointer (some ⟨gr, 0, none⟩) := ht 0 _ 113 rfl rfl (hdep 0 (by decide))
              exact still_ok (.pointer (some ⟨gr, 0, none⟩)) (by unfold execOp; simp only [x0]; go_simp) (G20.to (by decide) h12 (hg.low h12)) (rfl) (fun j oj d hoj hd hji hlj h => T20_keep (Below.refl _ _) h)
            · intro L b v hi hdep hcl hf hn hg ht
              have hg : G20 w5 gr p B l e L v := hg
              have h12 : L 12 = false := by
                cases h0 : L 12 with
                | false => rfl
                | true => exact absurd (hcl 12 _ 11 rfl (h0) (by decide)) (by rw [hi]; decide)
              have x0 : b.eval (.tmp 123) = .pointer (some ⟨gr, 0, none⟩) := ht 10 _ 123 rfl rfl (hdep 10 (by decide))
              exact still_ok (.pointer (some ⟨gr, 9, none⟩)) (by unfold execOp; simp only [x0]; go_simp) (G20.to (by decide) h12 (hg.low h12)) (rfl) (fun j oj d hoj hd hji hlj h => T20_keep (Below.refl _ _) h)
            · intro L b v hi hdep hcl hf hn hg ht
              have hg : G20 w5 gr p B l e L v := hg
              have h12 := hi
              have x0 : b.eval (.tmp 124) = .pointer (some ⟨gr, 9, none⟩) := ht 11 _ 124 rfl rfl (hdep 11 (by decide))
              have x1 : L 12 = false → v.ownsRow w5.heap.size 39 6 (b.eval (.tmp 122)) (n + 1) (flatE (l ++ [e])) := ht 9 _ 122 rfl rfl (hdep 9 (by decide))
              have ho := x1 hi
              have hlow := hg.low h12
              obtain ⟨A2, c2, hu⟩ := own_slice ho
              rw [hu] at ho
              have hr := (hlow.block gr hgr5).trans HG5.out
              have cc := cell_r9 hr
              have cf : v.frozen? ⟨gr, 9, none⟩ = false := by simp [World.frozen?, hr]
              have h9 := hdep 9 (by decide)
              have h6 := hcl 9 _ 6 rfl h9 (by decide)
              have hrun : (execOp b.eval { dst := none, op := .store 35 (.tmp 124) (.tmp 122), type := 0, pos := "", after := #[], guard := none }).run Tryz.prog v = .ok .skip (v.setCell ⟨gr, 9, none⟩ (.slice A2 (n + 1) c2)) := by
                unfold execOp
                simp only [x0, hu]
                go_simp
              have hfin : ∃ E2 n2 c3, RefAt (v.setCell ⟨gr, 9, none⟩ (.slice A2 (n + 1) c2)) gr p B E2 n2 c3 (l ++ [e]) ∧ n2 ≤ c3 ∧ KeptBut gr w5 (v.setCell ⟨gr, 9, none⟩ (.slice A2 (n + 1) c2)) ∧ ∀ a, E2 = some a → w5.heap.size ≤ a.block := by
                have hlo := hlow.size
                have ho2 : (v.setCell ⟨gr, 9, none⟩ (.slice A2 (n + 1) c2)).ownsRow w5.heap.size 39 6 (.slice A2 (n + 1) c2) (n + 1) (flatE (l ++ [e])) := ownE_keep ho fun g hg2 => heap_setCell_other _ _ _ _ fun e2 => by
                  rcases ho.2 with ⟨_, h0⟩ | ⟨g3, cap, cur, hs3, hb3, _⟩
                  · omega
                  · rw [hs3] at hg2
                    injection hg2 with hg2
                    have e3 : g = gr := by first | exact e2 | exact e2.symm
                    have e4 : g3 = g := hg2
                    omega
                refine ⟨A2, n + 1, c2, ⟨?_, (Rd.of_own ho2).ev⟩, ?_, ⟨hlow.os, hlow.tape, hlow.output, by simpa [World.setCell] using hlo, fun k k1 k2 => ?_⟩, fun a ha => ?_⟩
                · rw [heap_setCell_same v gr 9 _ _ _ hr]; rfl
                · rcases ho.2 with ⟨_, h0⟩ | ⟨g3, cap, cur, hs3, hb3, _, hle, _⟩
                  · omega
                  · injection hs3 with _ _ h3; omega
                · exact (heap_setCell_other _ _ _ _ (fun e2 => k2 (by first | exact e2 | exact e2.symm))).trans (hlow.block k k1)
                · rcases ho.2 with ⟨_, h0⟩ | ⟨g3, cap, cur, hs3, hb3, _, hle, _⟩
                  · omega
                  · injection hs3 with h3; rw [ha] at h3; injection h3 with h3; rw [h3]; exact hb3
              refine skip_ok hrun ⟨(fun h => by rw [upd_self] at h; cases h), fun _ => hfin⟩ trivial (fun jj oj d hoj hd hji hlj h => ?_)
              unfold T20 at h ⊢
              split at h <;> first
                | exact h
                | (intro h0; rw [upd_self] at h0; cases h0)
                | (intro h0; have := upd_false h0; rw [h9] at this; cases this)
                | (intro h0; have := upd_false h0; rw [h6] at this; cases this)
            · intro b v hf hg ht
              have hfin := G20.fin hg rfl
              refine HQ.out b v ?_
              rw [hf.out]
              simp only [List.foldl_cons, List.foldl_nil]
              rw [HA'.out]
              generalize b.eval (.tmp 113) = u113
              generalize b.eval (.tmp 114) = u114
              generalize b.eval (.tmp 115) = u115
              generalize b.eval (.tmp 116) = u116
              generalize b.eval (.tmp 117) = u117
              generalize b.eval (.tmp 118) = u118
              generalize b.eval (.tmp 119) = u119
              generalize b.eval (.tmp 120) = u120
              generalize b.eval (.tmp 121) = u121
              generalize b.eval (.tmp 122) = u122
              generalize b.eval (.tmp 123) = u123
              generalize b.eval (.tmp 124) = u124
              simp only [Act.put, List.setIfInBounds_toArray, List.set_cons_succ, List.set_cons_zero]
              have HX := Lib.hid (HOK.out v hfin)
              clear hfin HOK
              go_wp2_with fail
              exact HX.out
  · have t0 : (bc != 0) = true := by simp [h0]
    have HB := Lib.hid (BAD.out bc (by rw [HANS.out, if_pos h0]) h0 w2 hb02)
    clear BAD HFIN hL2 hE2 hG2
    go_wp2_with fail
    exact HB.out
end Go.Proofs.YtcbopgopegphlaaGreat
