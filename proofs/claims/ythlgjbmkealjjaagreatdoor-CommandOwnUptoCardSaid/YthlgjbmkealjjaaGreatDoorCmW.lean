/-
  The walk of command.Parse. No statement is proved here.
-/
import Derived.Test.YthlgjbmkealjjaaGreatDoorCmF
import Derived.Test.YthlgjbmkealjjaaGreatDoorCmOR
namespace Go.Proofs.YthlgjbmkealjjaaGreatDoor
open Go.RowKit
set_option linter.unusedVariables false
attribute [local go_sem] Oper.semAt_some
/-- The loop's own blocks. -/
def OZ (Z k : Nat) : Prop := Z ≤ k ∧ k < Z + 9
theorem cwords_any (line : ByteArray) (w : World) : Calls Tryz.prog 15 #[.string line] w fun e w' => e = .returned (.func (.func 31) #[] #[.pointer (some ⟨w.heap.size, 0, none⟩)]) ∧ w' = w.alloc (.cells #[.string line] 9) := by
  go_enter Tryz.func15, Tryz.ntmps15
  go_wp2
  go_ret
  exact ⟨rfl, rfl⟩
theorem results_cellsV {P : Program} {fn : Func} {p u : Tmp} {ty ty' : TypeId} (h : fn.results = #[.cell p ty, .cell u ty']) (tmps : Array Value) (w : World) (g g' : Nat) (t : TypeId) (cs : Array Value) (x : Value) (fr : Nat × Nat) (d : TypeDesc)
    (hp : tmps.getD p undef = .pointer (some ⟨g, 0, none⟩)) (hg : w.heap[g]? = some (.cells cs t fr))
    (hu : P.underlying ty = some d) (hd : (match d with | .struct _ | .array _ _ => true | _ => false) = true) (hi : (P.info? ty).map (·.size) = some cs.size)
    (hp2 : tmps.getD u undef = .pointer (some ⟨g', 0, none⟩)) (hl : (loadVar ty' ⟨g', 0, none⟩).run P w = .ok x w) :
    (results fn tmps).run P w = .ok (.tuple #[.agg cs, x]) w := by
  have hp' : tmps[p]?.getD undef = .pointer (some ⟨g, 0, none⟩) := by simpa using hp
  have hp2' : tmps[u]?.getD undef = .pointer (some ⟨g', 0, none⟩) := by simpa using hp2
  simp [results, h, hp', hp2', asAddr, run_loadVar_row w g t ty cs fr d hg hu hd hi, hl]
theorem infoCm : (Tryz.prog.info? 25).map (·.size) = some 4 := by kernel_rfl
theorem load_errno {w : World} {g : Nat} {x : Value} (h : w.heap[g]? = some (.cells #[x] 26 (0, 0))) : (loadVar 26 ⟨g, 0, none⟩).run Tryz.prog w = .ok x w := by
  have c := box_cell h
  go_simp
theorem cmCells_size (c : Cm) (v : Value) : (cmCells c v).size = 4 := rfl
/-! ### blocks made one behind the other -/
def allocs (w : World) (l : List Obj) : World := l.foldl (fun w o => w.alloc o) w
theorem allocs_size : ∀ (l : List Obj) (w : World), (allocs w l).heap.size = w.heap.size + l.length
  | [], w => rfl
  | o :: l, w => by
    have := allocs_size l (w.alloc o)
    rw [World.size_alloc] at this
    show (allocs (w.alloc o) l).heap.size = _
    rw [this, List.length_cons]
    omega
theorem allocs_old : ∀ (l : List Obj) (w : World) {g : Nat} {o : Obj}, w.heap[g]? = some o → (allocs w l).heap[g]? = some o
  | [], w, g, o, h => h
  | p :: l, w, g, o, h => allocs_old l (w.alloc p) (heapN_old h)
theorem allocs_get : ∀ (l : List Obj) (w : World) {i : Nat} {o : Obj}, l[i]? = some o → (allocs w l).heap[w.heap.size + i]? = some o
  | [], w, i, o, h => by cases h
  | p :: l, w, 0, o, h => by
    have e : p = o := by simpa using h
    subst e
    exact allocs_old l _ (heap_alloc_new _ _)
  | p :: l, w, i + 1, o, h => by
    have := allocs_get l (w.alloc p) (i := i) (o := o) (by simpa using h)
    rw [World.size_alloc] at this
    rw [show w.heap.size + (i + 1) = w.heap.size + 1 + i by omega]
    exact this
theorem allocs_below : ∀ (l : List Obj) (w : World) {B : Nat}, B ≤ w.heap.size → Below B w (allocs w l)
  | [], w, B, h => Below.refl _ _
  | p :: l, w, B, h => ((Below.refl _ w).alloc h p).trans (allocs_below l (w.alloc p) (by rw [World.size_alloc]; omega))
/-! ### plain facts of words -/
theorem words_mem (l : List UInt8) : ∀ x ∈ wordsOf l, x.length ≤ l.length := by
  induction l with
  | nil => intro x hx; simp [wordsOf] at hx; subst hx; simp
  | cons c r ih =>
    intro x hx
    unfold wordsOf at hx
    split at hx
    · rcases List.mem_cons.1 hx with rfl | h
      · simp
      · have := ih x h; simp; omega
    · rcases List.mem_cons.1 hx with rfl | h
      · have : ((wordsOf r).headD []).length ≤ r.length := by
          cases hw : wordsOf r with
          | nil => simp
          | cons y ys => exact ih y (by rw [hw]; simp)
        rw [List.length_cons, List.length_cons]; omega
      · have := ih x (List.mem_of_mem_tail h); simp; omega
theorem zip_at {ws : List (List UInt8)} {pre : List (List UInt8 × Nat)} {x : List UInt8 × Nat} (h : pre ++ [x] <+: ws.zipIdx) : x.2 = pre.length ∧ pre.length < ws.length ∧ ws[pre.length]? = some x.1 ∧ ∃ t, ws = pre.map Prod.fst ++ x.1 :: t := by
  obtain ⟨t, ht⟩ := h
  have h1 : ws.zipIdx[pre.length]? = some x := by rw [← ht]; simp
  rw [List.getElem?_zipIdx] at h1
  have hmap : ws = (pre ++ [x] ++ t).map Prod.fst := by rw [ht]; simp
  cases hw : ws[pre.length]? with
  | none => rw [hw] at h1; cases h1
  | some y =>
    rw [hw] at h1
    simp only [Option.map_some, Nat.zero_add] at h1
    injection h1 with h1
    subst h1
    refine ⟨rfl, (List.getElem?_eq_some_iff.1 hw).1, rfl, t.map Prod.fst, ?_⟩
    rw [hmap]
    simp
theorem runW_len (op : List UInt8) : ∀ (l : List (Kd × List UInt8)) (st : Option (Cm × Int)) (k : Nat) (cm : Cm) (late : Int), (∀ c e, st = some (c, e) → c.args.length ≤ k) → l.foldl stepW st = some (cm, late) → cm.args.length ≤ k + l.length := by
  intro l
  induction l with
  | nil => intro st k cm late h hr; exact h _ _ hr
  | cons x l ih =>
    intro st k cm late h hr
    rw [List.foldl_cons] at hr
    have := ih (stepW st x) (k + 1) cm late (fun c e he => by
      cases st with
      | none => cases he
      | some s =>
        have hs := h s.1 s.2 rfl
        have hl : (readW x.1 s.1 x.2).1.args.length ≤ k + 1 := by
          cases hk : x.1 <;> simp [readW] <;> omega
        unfold stepW at he
        simp only [Option.bind_some] at he
        split at he
        · injection he with he; injection he with he _; rw [← he]; exact hl
        · split at he
          · injection he with he; injection he with he _; rw [← he]; exact hl
          · cases he) hr
    simp
    omega
/-! ### the loop's invariant -/
structure PFix (N m : Nat) (w A : World) : Prop where
  res : A.heap[N]? = some (.cells (cmCells noneC (.slice none 0 0)) 25 (0, 0))
  err : A.heap[N + 1]? = some (.cells #[.int .i64 0] 26 (0, 0))
  many : A.heap[N + 2]? = some (.cells #[.int .i64 (m : Int)] 3 (0, 0))
  low : Below N w A
/-- Behind the first word: the form is found; the words so far are read. -/
structure PRest (N m : Nat) (A : World) (op : List UInt8) (r : List (List UInt8)) (cm : Cm) (late : Int) (A0 : Option Addr) (n0 c0 : Nat) (f : List Kd) (bn bt : Nat) : Prop where
  frm : formOf op ((m : Int) - 1) = some f
  flen : f.length = m
  n0 : n0 = m
  cap : m ≤ c0
  row : RowO bn bt A f A0
  boxn : A.heap[bn]? = some (.cells #[.func (.func 34) #[] #[]] 73 (0, 0))
  boxt : A.heap[bt]? = some (.cells #[.func (.func 35) #[] #[]] 73 (0, 0))
  bn : N + 16 ≤ bn
  bt : N + 16 ≤ bt
  run : runW op (f.zip r) = some (cm, late)
def PTail (N m : Nat) (A : World) (cm : Cm) (late : Int) (A0 : Option Addr) (n0 c0 : Nat) : List (List UInt8 × Nat) → Prop
  | [] => cm = noneC ∧ late = 0
  | x :: r => ∃ f bn bt, PRest N m A x.1 (r.map Prod.fst) cm late A0 n0 c0 f bn bt
def PJ (N m : Nat) (w : World) (pre : List (List UInt8 × Nat)) (A : World) : Prop :=
  PFix N m w A ∧ ∃ cm v late A0 n0 c0, CmAt A (N + 3) N (OZ (N + 7)) cm v ∧ A.heap[N + 4]? = some (.cells #[.slice A0 n0 c0] 41 (0, 0)) ∧ A.heap[N + 5]? = some (.cells #[.int .i64 late] 26 (0, 0)) ∧ PTail N m A cm late A0 n0 c0 pre
def PX (N : Nat) (w : World) (ans : Cm × Int) (A : World) : Prop :=
  Below N w A ∧ A.heap[N]? = some (.cells (cmCells noneC (.slice none 0 0)) 25 (0, 0)) ∧ ∃ er, A.heap[N + 1]? = some (.cells #[.int .i64 er] 26 (0, 0)) ∧ ans = (noneC, er)
section
variable {N m : Nat} {w A A' : World}
theorem turn_at {O : Nat → Prop} {k : Nat} {o : Obj} (ht : Turns O A A') (h : A.heap[k]? = some o) (hk : ¬ O k) : A'.heap[k]? = some o := (ht.block k (Array.getElem?_eq_some_iff.1 h).1 hk).trans h
theorem turns_low {O : Nat → Prop} (ht : Turns O A A') (h : Below N w A) (hO : ∀ k, k < N → ¬ O k) (hN : N ≤ w.heap.size) : Below N w A' :=
  ⟨ht.os.trans h.os, ht.tape.trans h.tape, ht.output.trans h.output, Nat.le_trans h.size ht.size, fun k hk => (ht.block k (by have := h.size; omega) (hO k hk)).trans (h.block k hk)⟩
theorem RowO.at {bn bt : Nat} {f : List Kd} {A0 : Option Addr} {O : Nat → Prop} (h : RowO bn bt A f A0) (ht : Turns O A A') (hO : ∀ g cs, bn ≤ g → A.heap[g]? = some (.cells cs 50 (0, 0)) → ¬ O g) : RowO bn bt A' f A0 := by
  obtain ⟨g, cur, e0, e1, e2, e3⟩ := h
  exact ⟨g, cur, e0, e1, turn_at ht e2 (hO g _ e0 e2), e3⟩
theorem PRest.at {op : List UInt8} {r : List (List UInt8)} {cm : Cm} {late : Int} {A0 : Option Addr} {n0 c0 : Nat} {f : List Kd} {bn bt : Nat} {O : Nat → Prop} (h : PRest N m A op r cm late A0 n0 c0 f bn bt) (ht : Turns O A A') (hO : ∀ k cs t, N + 16 ≤ k → t ≠ 2 → A.heap[k]? = some (.cells cs t (0, 0)) → ¬ O k) : PRest N m A' op r cm late A0 n0 c0 f bn bt :=
  ⟨h.frm, h.flen, h.n0, h.cap, h.row.at ht (fun g cs hg hc => hO g cs _ (Nat.le_trans h.bn hg) (by decide) hc), turn_at ht h.boxn (hO _ _ _ h.bn (by decide) h.boxn), turn_at ht h.boxt (hO _ _ _ h.bt (by decide) h.boxt), h.bn, h.bt, h.run⟩
theorem PTail.at {cm : Cm} {late : Int} {A0 : Option Addr} {n0 c0 : Nat} {pre : List (List UInt8 × Nat)} {O : Nat → Prop} (h : PTail N m A cm late A0 n0 c0 pre) (ht : Turns O A A') (hO : ∀ k cs t, N + 16 ≤ k → t ≠ 2 → A.heap[k]? = some (.cells cs t (0, 0)) → ¬ O k) : PTail N m A' cm late A0 n0 c0 pre := by
  cases pre with
  | nil => exact h
  | cons x r =>
    obtain ⟨f, bn, bt, h1⟩ := h
    exact ⟨f, bn, bt, h1.at ht hO⟩
theorem PFix.at {O : Nat → Prop} (h : PFix N m w A) (ht : Turns O A A') (hO : ∀ k, k < N + 3 → ¬ O k) (hN : N ≤ w.heap.size) : PFix N m w A' :=
  ⟨turn_at ht h.res (hO _ (by omega)), turn_at ht h.err (hO _ (by omega)), turn_at ht h.many (hO _ (by omega)), turns_low ht h.low (fun k hk => hO k (by omega)) hN⟩
theorem PJ_abides (hN : N ≤ w.heap.size) (pre : List (List UInt8 × Nat)) : Abides (OZ (N + 7)) (PJ N m w pre) := by
  rintro A A' ⟨h1, cm, v, late, A0, n0, c0, h2, h3, h4, h5⟩ ht
  have e : ∀ k, k < N + 7 → ¬ OZ (N + 7) k := fun k hk ho => by have := ho.1; omega
  exact ⟨h1.at ht (fun k hk => e k (by omega)) hN, cm, v, late, A0, n0, c0, h2.turns ht (fun k h => h) (e _ (by omega)), turn_at ht h3 (e _ (by omega)), turn_at ht h4 (e _ (by omega)), h5.at ht (fun k cs t hk _ _ ho => by have := ho.2; omega)⟩
theorem PX_abides (hN : N ≤ w.heap.size) (ans : Cm × Int) : Abides (OZ (N + 7)) (PX N w ans) := by
  rintro A A' ⟨h1, h2, er, h3, h4⟩ ht
  have e : ∀ k, k < N + 7 → ¬ OZ (N + 7) k := fun k hk ho => by have := ho.1; omega
  exact ⟨turns_low ht h1 (fun k hk => e k (by omega)) hN, turn_at ht h2 (e _ (by omega)), er, turn_at ht h3 (e _ (by omega)), h4⟩
end
theorem RowO.first {W : World} {bn bt : Nat} {f : List Kd} {A0 : Option Addr} (h : RowO bn bt W f A0) {i : Nat} {k : Kd} (hk : f[i]? = some k) : ∃ g, A0 = some ⟨g, 0, none⟩ ∧ bn ≤ g ∧ ∀ u, (kc bn bt k)[0]? = some u → W.cell? ⟨g, i * 3, none⟩ = some u := by
  obtain ⟨g, cur, e0, rfl, e2, e3⟩ := h
  refine ⟨g, rfl, e0, fun u hu => ?_⟩
  rw [World.cell?, e2]
  have hi : i < f.length := (List.getElem?_eq_some_iff.1 hk).1
  have h1 : (opCells bn bt f)[i * 3]? = some u := by
    clear e3
    unfold opCells
    induction f generalizing i with
    | nil => cases hk
    | cons x f ih =>
      rw [List.flatMap_cons]
      cases i with
      | zero =>
        have : x = k := by simpa using hk
        subst this
        rw [List.getElem?_append_left (by rw [Array.length_toList, kc_size]; omega)]
        simpa using hu
      | succ i =>
        rw [List.getElem?_append_right (by rw [Array.length_toList, kc_size]; omega), Array.length_toList, kc_size, show (i + 1) * 3 - 3 = i * 3 by omega]
        exact ih (by simpa using hk) (by simpa using hi)
  rw [← e3, List.getElem?_take] at h1
  split at h1
  · simpa using h1
  · cases h1
/-- The zero command over the zero command. -/
def zeroed (W : World) (N : Nat) : World := (((W.setCell ⟨N, 0, none⟩ (.string ⟨#[]⟩)).setCell ⟨N, 1, none⟩ (.string ⟨#[]⟩)).setCell ⟨N, 2, none⟩ (.slice none 0 0)).setCell ⟨N, 3, none⟩ (.string ⟨#[]⟩)
theorem zeroed_at {W : World} {N : Nat} (h : W.heap[N]? = some (.cells (cmCells noneC (.slice none 0 0)) 25 (0, 0))) : (zeroed W N).heap[N]? = some (.cells (cmCells noneC (.slice none 0 0)) 25 (0, 0)) :=
  heap_setCell_same _ N 3 _ _ _ (heap_setCell_same _ N 2 _ _ _ (heap_setCell_same _ N 1 _ _ _ (heap_setCell_same _ N 0 _ _ _ h)))
theorem zeroed_turns {W A : World} {N : Nat} {O : Nat → Prop} (h : Turns O A W) (hO : O N) : Turns O A (zeroed W N) := (((h.set hO 0 _).set hO 1 _).set hO 2 _).set hO 3 _
theorem zeroed_oth {W : World} {N k : Nat} (h : N ≠ k) : (zeroed W N).heap[k]? = W.heap[k]? := by
  unfold zeroed
  rw [set_oth _ _ _ _ _ h, set_oth _ _ _ _ _ h, set_oth _ _ _ _ _ h, set_oth _ _ _ _ _ h]
/-- Refused: the zero command, the word's error. -/
theorem PX_made {N : Nat} {w A W : World} {ans : Cm × Int} {er : Int} (hN : N ≤ w.heap.size) (hl : Below N w A) (ht : Turns (fun k => N ≤ k ∧ k < N + 7) A W)
    (h0 : W.heap[N]? = some (.cells (cmCells noneC (.slice none 0 0)) 25 (0, 0))) (h1 : W.heap[N + 1]? = some (.cells #[.int .i64 0] 26 (0, 0))) (ha : ans = (noneC, er)) :
    Keeps (fun k => N + 7 ≤ k) A ((zeroed W N).setCell ⟨N + 1, 0, none⟩ (.int .i64 er)) ∧ PX N w ans ((zeroed W N).setCell ⟨N + 1, 0, none⟩ (.int .i64 er)) := by
  have t0 : Turns (fun k => N ≤ k ∧ k < N + 7) A (zeroed W N) := zeroed_turns ht ⟨Nat.le_refl _, by omega⟩
  have t1 : Turns (fun k => N ≤ k ∧ k < N + 7) A ((zeroed W N).setCell ⟨N + 1, 0, none⟩ (.int .i64 er)) := t0.set (g := N + 1) ⟨by omega, by omega⟩ 0 _
  have z1 : (zeroed W N).heap[N + 1]? = some (.cells #[.int .i64 0] 26 (0, 0)) := (zeroed_oth (by omega)).trans h1
  exact ⟨t1.keeps (fun k hk ho => by omega), turns_low t1 hl (fun k hk ho => by omega) hN, (set_oth _ _ _ _ _ (by omega)).trans (zeroed_at h0), er, box_set z1 _, ha⟩
theorem CmAt.keep {W W1 : World} {gc B g : Nat} {O : Nat → Prop} {c : Cm} {v : Value} {cs : Array Value} {t : TypeId} {fr : Nat × Nat} (h : CmAt W gc B O c v) (ht : Turns (fun k => k = g) W W1) (hg : W.heap[g]? = some (.cells cs t fr)) (htt : t ≠ 2) (hne : gc ≠ g) : CmAt W1 gc B O c v :=
  ⟨turn_at ht h.cell hne, ownE_keep h.own fun k hk => ht.block k (ownE_block h.own hk).1 (fun e => by
    obtain ⟨_, cs2, h2⟩ := ownE_block h.own hk
    rw [e, hg] at h2
    injection h2 with h2
    injection h2 with _ h2
    exact htt h2), h.out⟩
theorem wr_not {A : World} {gc B k : Nat} {O : Nat → Prop} {cs : Array Value} {t : TypeId} {fr : Nat × Nat} (h : A.heap[k]? = some (.cells cs t fr)) (ht : t ≠ 2) (hk : k ≠ gc) : ¬ Wr A gc B O k := by
  rintro (e | ⟨_, _, cs2, fr2, h2⟩)
  · exact hk e
  · rw [h] at h2
    injection h2 with h2
    injection h2 with _ h2
    exact ht h2
/-- What a read leaves. -/
structure PRead (N m : Nat) (w A W : World) (op : List UInt8) (rs : List (List UInt8)) (cm : Cm) (late : Int) (A0 : Option Addr) (n0 c0 : Nat) (f : List Kd) (bn bt : Nat) : Prop where
  fix : PFix N m w W
  h6 : W.heap[N + 4]? = some (.cells #[.slice A0 n0 c0] 41 (0, 0))
  h7 : W.heap[N + 5]? = some (.cells #[.int .i64 late] 26 (0, 0))
  rest : PRest N m W op rs cm late A0 n0 c0 f bn bt
  keeps : Keeps (fun k => N + 7 ≤ k ∧ k < N + 16) A W
theorem after_read {N m : Nat} {w A W : World} {op : List UInt8} {rs : List (List UInt8)} {cm : Cm} {late : Int} {A0 : Option Addr} {n0 c0 : Nat} {f : List Kd} {bn bt : Nat} (hN : N ≤ w.heap.size)
    (hF : PFix N m w A) (h6 : A.heap[N + 4]? = some (.cells #[.slice A0 n0 c0] 41 (0, 0))) (h7 : A.heap[N + 5]? = some (.cells #[.int .i64 late] 26 (0, 0)))
    (hR : PRest N m A op rs cm late A0 n0 c0 f bn bt) (ht : Turns (Wr A (N + 3) N (OZ (N + 7))) A W) : PRead N m w A W op rs cm late A0 n0 c0 f bn bt := by
  refine ⟨hF.at ht (fun k hk => ?_) hN, turn_at ht h6 (wr_not h6 (by decide) (by omega)), turn_at ht h7 (wr_not h7 (by decide) (by omega)), hR.at ht (fun k cs t hk htt hc => wr_not hc htt (by omega)), ht.keeps fun k hk ho => ?_⟩
  · rcases (show k < N ∨ k = N ∨ k = N + 1 ∨ k = N + 2 by omega) with h | rfl | rfl | rfl
    · rintro (e | ⟨e, _⟩) <;> omega
    · exact wr_not hF.res (by decide) (by omega)
    · exact wr_not hF.err (by decide) (by omega)
    · exact wr_not hF.many (by decide) (by omega)
  · rcases ho with e | ⟨_, e, _⟩
    · omega
    · exact e ⟨hk.1, by omega⟩
theorem zip_more {f : List Kd} {rs : List (List UInt8)} {k : Kd} {x : List UInt8} (hk : f[rs.length]? = some k) (t : List (List UInt8)) : ∃ z, f.zip (rs ++ x :: t) = f.zip rs ++ (k, x) :: z := by
  induction rs generalizing f with
  | nil =>
    cases f with
    | nil => cases hk
    | cons y f =>
      have : y = k := by simpa using hk
      subst this
      exact ⟨f.zip t, rfl⟩
  | cons r rs ih =>
    cases f with
    | nil => cases hk
    | cons y f =>
      obtain ⟨z, hz⟩ := ih (f := f) (by simpa using hk)
      exact ⟨z, by rw [List.cons_append, List.zip_cons_cons, hz, List.zip_cons_cons, List.cons_append]⟩
theorem zip_one {f : List Kd} {rs : List (List UInt8)} {k : Kd} {x : List UInt8} (hk : f[rs.length]? = some k) : f.zip (rs ++ [x]) = f.zip rs ++ [(k, x)] := by
  induction rs generalizing f with
  | nil =>
    cases f with
    | nil => cases hk
    | cons y f =>
      have : y = k := by simpa using hk
      subst this
      simp
  | cons r rs ih =>
    cases f with
    | nil => cases hk
    | cons y f => rw [List.cons_append, List.zip_cons_cons, ih (by simpa using hk), List.zip_cons_cons, List.cons_append]
/-- A word more, read. -/
theorem PJ_more {N m : Nat} {w A W W2 : World} {op xw : List UInt8} {i0 i : Nat} {r : List (List UInt8 × Nat)} {cm : Cm} {late late2 : Int} {A0 : Option Addr} {n0 c0 : Nat} {f : List Kd} {bn bt : Nat} {k : Kd} {v' : Value} (hN : N ≤ w.heap.size)
    (h : PRead N m w A W op (r.map Prod.fst) cm late A0 n0 c0 f bn bt) (hk : f[r.length]? = some k) (hc : CmAt W (N + 3) N (OZ (N + 7)) (readW k cm xw).1 v')
    (ht : Turns (fun k => k = N + 5) W W2) (h7 : W2.heap[N + 5]? = some (.cells #[.int .i64 late2] 26 (0, 0)))
    (hs : ((readW k cm xw).2 = 0 ∧ late2 = late) ∨ ((readW k cm xw).2 = 6 ∧ late2 = 6)) :
    Keeps (fun k => N + 7 ≤ k ∧ k < N + 16) A W2 ∧ PJ N m w ((op, i0) :: r ++ [(xw, i)]) W2 := by
  refine ⟨h.keeps.trans (ht.keeps fun k hk ho => by omega), h.fix.at ht (fun k hk => by omega) hN, (readW k cm xw).1, v', late2, A0, n0, c0, hc.keep ht h.h7 (by decide) (by omega), turn_at ht h.h6 (by omega), h7, f, bn, bt, ?_⟩
  have h2 := h.rest.at ht (fun k cs t hk _ _ => by omega)
  have hkr : f[(r.map Prod.fst).length]? = some k := by rw [List.length_map]; exact hk
  refine ⟨h2.frm, h2.flen, h2.n0, h2.cap, h2.row, h2.boxn, h2.boxt, h2.bn, h2.bt, ?_⟩
  show runW op (f.zip ((r ++ [(xw, i)]).map Prod.fst)) = _
  rw [List.map_append]
  show runW op (f.zip (r.map Prod.fst ++ [xw])) = _
  rw [zip_one hkr, runW_snoc, h2.run]
  unfold stepW
  simp only [Option.bind_some]
  rcases hs with ⟨e1, e2⟩ | ⟨e1, e2⟩
  · rw [if_pos e1, e2]
  · rw [if_neg (by rw [e1]; decide), if_pos e1, e2]
/-- A word that is refused. -/
theorem parse_refused {line op xw : List UInt8} {rs t : List (List UInt8)} {f : List Kd} {m : Nat} {k : Kd} {cm : Cm} {late : Int} (hws : wordsOf line = op :: (rs ++ xw :: t)) (hm : (wordsOf line).length = m + 1) (hf : formOf op ((m : Int) - 1) = some f) (hl : f.length = m) (hk : f[rs.length]? = some k) (hr : runW op (f.zip rs) = some (cm, late)) (h7 : (readW k cm xw).2 = 7) : parseW (wordsOf line) = (noneC, 7) := by
  have hml : (rs ++ xw :: t).length = m := by rw [hws] at hm; simpa using hm
  rw [hws]
  unfold parseW
  dsimp only
  rw [hml, hf]
  dsimp only
  rw [if_neg (by omega)]
  obtain ⟨z, hz⟩ := zip_more (x := xw) hk t
  have h1 : runW op (f.zip rs ++ [(k, xw)]) = none := by
    rw [runW_snoc, hr]
    unfold stepW
    simp only [Option.bind_some]
    rw [if_neg (by rw [h7]; decide), if_neg (by rw [h7]; decide)]
  rw [hz, show f.zip rs ++ (k, xw) :: z = (f.zip rs ++ [(k, xw)]) ++ z by simp, runW_none op _ z h1]
  rfl
def given (W : World) (N : Nat) (a b c d : Value) : World := (((W.setCell ⟨N, 0, none⟩ a).setCell ⟨N, 1, none⟩ b).setCell ⟨N, 2, none⟩ c).setCell ⟨N, 3, none⟩ d
theorem given_at {W : World} {N : Nat} {x y z u a b c d : Value} {t : TypeId} (h : W.heap[N]? = some (.cells #[x, y, z, u] t (0, 0))) : (given W N a b c d).heap[N]? = some (.cells #[a, b, c, d] t (0, 0)) :=
  heap_setCell_same _ N 3 _ _ _ (heap_setCell_same _ N 2 _ _ _ (heap_setCell_same _ N 1 _ _ _ (heap_setCell_same _ N 0 _ _ _ h)))
theorem given_turns {W A : World} {N : Nat} {O : Nat → Prop} {a b c d : Value} (h : Turns O A W) (hO : O N) : Turns O A (given W N a b c d) := (((h.set hO 0 _).set hO 1 _).set hO 2 _).set hO 3 _
theorem given_oth {W : World} {N k : Nat} {a b c d : Value} (h : N ≠ k) : (given W N a b c d).heap[k]? = W.heap[k]? := by
  unfold given
  rw [set_oth _ _ _ _ _ h, set_oth _ _ _ _ _ h, set_oth _ _ _ _ _ h, set_oth _ _ _ _ _ h]
set_option pp.deepTerms true in
set_option maxRecDepth 100000 in
set_option maxHeartbeats 4000000 in
theorem Parse_any (line : List UInt8) (w : World) (hv : Vrs w.heap.size w) :
    Calls Tryz.prog 8 #[.string (bs line)] w fun e w' => Below w.heap.size w w' ∧ ∃ v, e = .returned (.tuple #[.agg (cmCells (parseAns line).1 v), .int .i64 (parseAns line).2]) ∧ w'.ownsRow w.heap.size 2 1 v (parseAns line).1.args.length ((parseAns line).1.args.map (Value.int .i64)) := by
  have hcount : Hid (∀ W, Calls Tryz.prog 14 #[.string (bs line), .string ⟨#[32]⟩] W fun e w' => e = .returned (.int .i64 (Lib.countByte line 32)) ∧ w' = W) := Lib.hid fun W => by
    have := strings_Count_one (bs line) 32 W
    rw [bs_list] at this
    exact this
  have hsz : ((bs line).size : Int) = (line.length : Int) := by rw [bs_size]
  refine (callsIn_wide (n := 3)).1 ?_
  refine callsIn_of_wp_marks Tryz.func8 rfl trivial ?_
  simp only [Tryz.ntmps8, List.size_toArray, List.length_cons, List.length_nil, Nat.reduceAdd, Nat.reduceSub, Array.replicate_succ, Array.replicate_zero, List.push_toArray, List.append_toArray, List.nil_append, List.cons_append]
  by_cases hl : 400 < line.length
  · have hpa : parseAns line = (noneC, 3) := by unfold parseAns; rw [if_pos hl]
    rw [hpa]
    gi_wp2_with fail
    have hg2 : ((w.alloc (.cells (cmCells noneC (.slice none 0 0)) 25)).alloc (.cells #[.int .i64 3] 26)).heap[w.heap.size]? = some (.cells (cmCells noneC (.slice none 0 0)) 25 (0, 0)) := heapN_old (heap_alloc_new _ _)
    have hg3 : ((w.alloc (.cells (cmCells noneC (.slice none 0 0)) 25)).alloc (.cells #[.int .i64 3] 26)).heap[w.heap.size + 1]? = some (.cells #[.int .i64 3] 26 (0, 0)) := by rw [← World.size_alloc w]; exact heap_alloc_new _ _
    exact ⟨_, results_cellsV rfl _ _ w.heap.size (w.heap.size + 1) 25 (cmCells noneC (.slice none 0 0)) (.int .i64 3) (0, 0) _ rfl hg2 Tryz.underlying25 rfl infoCm rfl (load_errno hg3), ((Below.refl _ _).alloc (Nat.le_refl _) _).alloc (by simp) _, .slice none 0 0, rfl, rfl, .inl ⟨rfl, rfl⟩⟩
  · gi_wp2_with fail
    refine ⟨trivial, (callsIn_wide.2 (hcount.out _)).mono ?_⟩
    rintro e w5 ⟨rfl, hw5⟩
    subst hw5
    gi_wp2_with fail
    refine ⟨trivial, (callsIn_wide.2 (cwords_any _ _)).mono ?_⟩
    rintro e w6 ⟨rfl, hw6⟩
    simp only [World.size_alloc, show w.heap.size + 1 + 1 + 1 + 1 + 1 + 1 = w.heap.size + 6 by omega, show w.heap.size + 1 + 1 + 1 + 1 + 1 = w.heap.size + 5 by omega, show w.heap.size + 1 + 1 + 1 + 1 = w.heap.size + 4 by omega, show w.heap.size + 1 + 1 + 1 = w.heap.size + 3 by omega, show w.heap.size + 1 + 1 = w.heap.size + 2 by omega]
    obtain ⟨N, hN⟩ : ∃ N, N = w.heap.size := ⟨_, rfl⟩
    obtain ⟨m, hm⟩ : ∃ m, m = Lib.countByte line 32 := ⟨_, rfl⟩
    rw [← hN, ← hm]
    rw [← hm] at hw6
    have hw6b : w6 = allocs w [.cells (cmCells noneC (.slice none 0 0)) 25, .cells #[.int .i64 0] 26, .cells #[.int .i64 (m : Int)] 3, .cells (cmCells noneC (.slice none 0 0)) 25, .cells #[.slice none 0 0] 41, .cells #[.int .i64 0] 26, .cells #[.string (bs line)] 9] := hw6
    clear hw6
    have hz : w6.heap.size = N + 7 := by rw [hw6b, hN]; exact allocs_size _ _
    have hJ0 : PJ N m w [] w6 := by
      rw [hw6b, hN]
      exact ⟨⟨allocs_get _ w (i := 0) rfl, allocs_get _ w (i := 1) rfl, allocs_get _ w (i := 2) rfl, allocs_below _ _ (Nat.le_refl _)⟩, noneC, .slice none 0 0, 0, none, 0, 0, ⟨allocs_get _ w (i := 3) rfl, ⟨rfl, .inl ⟨rfl, rfl⟩⟩, fun k hk => by cases hk⟩, allocs_get _ w (i := 4) rfl, allocs_get _ w (i := 5) rfl, rfl, rfl⟩
    have hgl : w6.heap[N + 6]? = some (.cells #[.string (bs line)] 9 (0, 0)) := by
      rw [hw6b, hN]
      exact allocs_get _ w (i := 6) rfl
    have HV : Hid (Vrs N w) := Lib.hid (by rw [hN]; exact hv)
    have HML : Hid ((wordsOf line).length = m + 1) := Lib.hid (by rw [words_len, hm]; rfl)
    have HMB : m ≤ 400 := by
      have : Lib.countByte line 32 ≤ line.length := List.count_le_length
      omega
    have HLW : Hid (∀ x ∈ wordsOf line, x.length ≤ 400) := Lib.hid fun x hx => by have := words_mem line x hx; omega
    have HPA : Hid (parseAns line = parseW (wordsOf line)) := Lib.hid (by unfold parseAns; rw [if_neg hl])
    have HN := Lib.hid hN
    clear hw6b hv hcount hm hsz
    clear hN
    gi_wp2_with fail
    refine range_gives (gf := 31) (lb := #[.pointer (some ⟨N + 6, 0, none⟩)]) rfl (enters_of Tryz.func31 (by kernel_rfl) rfl) (encs := encW) (fun x => rfl) (wordsOf line).zipIdx (fun k => N + 9 ≤ k ∧ k < N + 16) (fun k hk => by omega)
      (fun W1 hb1 hz1 => by
        have := words_gives 2 (N + 6) line W1 ((hb1.block _ (by omega)).trans hgl) (by omega)
        rw [hz1, hz] at this
        exact this)
      (PJ N m w) (PX N w (parseAns line)) ?hI ?hIX hJ0
      (fun x => { tmps := #[.string (bs line), undef, .pointer (some ⟨N, 0, none⟩), .pointer (some ⟨N + 1, 0, none⟩), .pointer (some ⟨N + 2, 0, none⟩), .pointer (some ⟨N + 3, 0, none⟩), .pointer (some ⟨N + 4, 0, none⟩), .pointer (some ⟨N + 5, 0, none⟩), .int .i64 (x.2 : Int), .string (bs x.1), undef, undef, undef, .string (bs line), .int .i64 (line.length : Int), .bool (decide (400 < (line.length : Int))), undef, .string (bs line), .int .i64 (m : Int), .string (bs line), .func (.func 31) #[] #[.pointer (some ⟨N + 6, 0, none⟩)], .int .i64 (x.2 : Int), .string (bs x.1), undef, undef, undef, undef, undef, undef, undef, undef, undef, undef, undef, undef, undef, undef, undef, undef, undef, undef, undef, undef, undef, undef, undef, undef, undef, undef, undef, undef, undef, undef, undef, undef, undef, undef, undef, undef, undef, undef, undef, undef, undef, undef], defers := [] }) ?assign ?body ?done ?stop
    case hI => exact fun pre A A' h ht => PJ_abides (Nat.le_of_eq HN.out) pre A A' h (ht.mono fun k hk => by unfold OZ; rw [hz] at hk; omega)
    case hIX => exact fun A A' h ht => PX_abides (Nat.le_of_eq HN.out) _ A A' h (ht.mono fun k hk => by unfold OZ; rw [hz] at hk; omega)
    case assign =>
      intro l2 x W2 K hK
      unfold encW
      gi_wp2
      exact hK
    case body =>
      rintro l2 pre x A hpre hbd hj hzA
      obtain ⟨hx2, hlt, hxw, t, hws⟩ := zip_at hpre
      have hzA2 : N + 16 ≤ A.heap.size := by have := hbd (N + 15) (by omega); omega
      obtain ⟨xw, xi⟩ := x
      dsimp only at hx2 hxw hws ⊢
      have hxl : xw.length ≤ 400 := HLW.out xw (List.mem_of_getElem? hxw)
      subst hx2
      rcases pre with _ | ⟨⟨op, i0⟩, r⟩
      · obtain ⟨hfix, cm, v, late, A0, n0, c0, hcm, h6, h7, rfl, rfl⟩ := hj
        have hmt : (t.length : Int) = (m : Int) := by
          have := HML.out
          rw [hws] at this
          simp at this
          omega
        have hi0 : (([] : List (List UInt8 × Nat)).length : Int) = 0 := rfl
        rw [hi0]
        have c2 := box_cell hfix.many
        have d5 : A.frozen? ⟨N + 3, 0, none⟩ = false := by simp [World.frozen?, hcm.cell]
        have c5 : A.cell? ⟨N + 3, 0, none⟩ = some (.string ⟨#[]⟩) := by rw [cell_of_row _ _ _ _ _ _ hcm.cell]; rfl
        have HF := Lib.hid hfix
        have HC := Lib.hid hcm
        have H6 := Lib.hid h6
        have H7 := Lib.hid h7
        have hwr1 : IntKind.i64.wrap ((m : Int) - 1) = (m : Int) - 1 := by rw [IntKind.wrap_i64]; omega
        clear hfix hcm h6 h7 hpre hbd hlt hxw hJ0 hgl
        gi_wp2_with fail
        refine ⟨trivial, (CallsIn.inRound l2 (callsIn_wide.2 (form_any (bs xw) ((m : Int) - 1) _))).mono ?_⟩
        rw [bs_list]
        have t1 : Turns (fun k => k = N + 3) A (A.setCell ⟨N + 3, 0, none⟩ (.string (bs xw))) := (Turns.refl (fun k => k = N + 3) A).set (g := N + 3) rfl 0 _
        have hc1 : CmAt (A.setCell ⟨N + 3, 0, none⟩ (.string (bs xw))) (N + 3) N (OZ (N + 7)) ⟨bs xw, ⟨#[]⟩, ⟨#[]⟩, []⟩ v := HC.out.set rfl (ownE_keep HC.out.own fun k hk => set_oth A (N + 3) 0 _ k (fun e => HC.out.ne hk e.symm)) HC.out.out
        have hz1 := t1.size
        generalize A.setCell ⟨N + 3, 0, none⟩ (.string (bs xw)) = A1 at *
        rintro e W2 ⟨hb2, bn, bt, hx1, hx2, hx3, hx4, hfo⟩
        have t2 : Turns (fun k => k = N + 3) A W2 := t1.trans (.of_below hb2)
        have hF2 := HF.out.at t2 (fun k hk => by omega) (Nat.le_of_eq HN.out)
        have hC2 := hc1.below hb2
        have h62 := turn_at t2 H6.out (by omega)
        have h72 := turn_at t2 H7.out (by omega)
        have T2 : Hid (Turns (fun k => N ≤ k ∧ k < N + 7) A W2) := Lib.hid (t2.mono fun k hk => by omega)
        have F2 := Lib.hid hF2
        have C2 := Lib.hid hC2
        have G6 := Lib.hid h62
        have G7 := Lib.hid h72
        have HX := Lib.hid (And.intro hx1 hx2)
        have HY : Hid (N + 16 ≤ bn ∧ N + 16 ≤ bt) := Lib.hid ⟨by omega, by omega⟩
        have k2 := box_cell hF2.many
        have k6 := box_free h62
        have k6c := box_cell h62
        have r3 := box_free hF2.err
        have r3c := box_cell hF2.err
        have q0 : W2.cell? ⟨N, 0, none⟩ = some (.string ⟨#[]⟩) := by rw [cell_of_row _ _ _ _ _ _ hF2.res]; rfl
        have q1 : W2.cell? ⟨N, 1, none⟩ = some (.string ⟨#[]⟩) := by rw [cell_of_row _ _ _ _ _ _ hF2.res]; rfl
        have q2 : W2.cell? ⟨N, 2, none⟩ = some (.slice none 0 0) := by rw [cell_of_row _ _ _ _ _ _ hF2.res]; rfl
        have q3 : W2.cell? ⟨N, 3, none⟩ = some (.string ⟨#[]⟩) := by rw [cell_of_row _ _ _ _ _ _ hF2.res]; rfl
        have p0 : W2.frozen? ⟨N, 0, none⟩ = false := by simp [World.frozen?, hF2.res]
        have p1 : W2.frozen? ⟨N, 1, none⟩ = false := by simp [World.frozen?, hF2.res]
        have p2 : W2.frozen? ⟨N, 2, none⟩ = false := by simp [World.frozen?, hF2.res]
        have p3 : W2.frozen? ⟨N, 3, none⟩ = false := by simp [World.frozen?, hF2.res]
        have HLOW := Lib.hid HF.out.low
        clear t1 t2 hF2 hC2 h62 h72 hx1 hx2 hx3 hx4 hc1 hb2 HF HC H6 H7 c2 c5 d5 hz1 HV
        cases hfm : formOf xw ((m : Int) - 1) with
        | none =>
          rw [hfm] at hfo
          obtain rfl := hfo
          gi_wp2_with fail
          have hp := PX_made (er := 7) (ans := parseAns line) (Nat.le_of_eq HN.out) HLOW.out T2.out F2.out.res F2.out.err (by
            rw [HPA.out, hws]
            show parseW (xw :: t) = _
            unfold parseW
            dsimp only
            rw [hmt, hfm])
          exact ⟨hp.1.mono fun k hk => by omega, hp.2⟩
        | some f =>
          rw [hfm] at hfo
          obtain ⟨A1', c1', rfl, hcap, hrow⟩ := hfo
          by_cases hfl : f.length = m
          · have hfl2 : (f.length : Int) = (m : Int) := by rw [hfl]
            gi_wp2_with fail
            have t3 : Turns (fun k => k = N + 4) W2 (W2.setCell ⟨N + 4, 0, none⟩ (.slice A1' m c1')) := (Turns.refl (fun k => k = N + 4) W2).set (g := N + 4) rfl 0 _
            have t4 : Turns (fun k => N ≤ k ∧ k < N + 7) A (W2.setCell ⟨N + 4, 0, none⟩ (.slice A1' m c1')) := T2.out.trans (t3.mono fun k hk => by omega)
            refine ⟨t4.keeps (fun k hk ho => by omega), F2.out.at t3 (fun k hk => by omega) (Nat.le_of_eq HN.out), ⟨bs xw, ⟨#[]⟩, ⟨#[]⟩, []⟩, v, 0, A1', m, c1', C2.out.keep t3 G6.out (by decide) (by omega), box_set G6.out _, turn_at t3 G7.out (by omega), f, bn, bt, hfm, hfl, rfl, by omega, hrow.at t3 (fun g cs hg _ => by have := HY.out.1; omega), turn_at t3 HX.out.1 (by have := HY.out.1; omega), turn_at t3 HX.out.2 (by have := HY.out.2; omega), HY.out.1, HY.out.2, by simp [runW]⟩
          · have hfl2 : ¬ (f.length : Int) = (m : Int) := by omega
            gi_wp2_with fail
            have hp := PX_made (er := 7) (ans := parseAns line) (Nat.le_of_eq HN.out) HLOW.out T2.out F2.out.res F2.out.err (by
              rw [HPA.out, hws]
              show parseW (xw :: t) = _
              unfold parseW
              dsimp only
              rw [hmt, hfm]
              dsimp only
              rw [if_pos (by omega)])
            exact ⟨hp.1.mono fun k hk => by omega, hp.2⟩
      · obtain ⟨hfix, cm, v, late, A0, n0, c0, hcm, h6, h7, f, bn, bt, hR⟩ := hj
        obtain ⟨i, hi⟩ : ∃ i, i = r.length := ⟨_, rfl⟩
        have hi0 : (((op, i0) :: r : List (List UInt8 × Nat)).length : Int) = (i : Int) + 1 := by rw [hi]; simp
        rw [hi0]
        have him : i < m := by
          have := HML.out
          rw [this] at hlt
          simp at hlt
          omega
        obtain ⟨k, hk⟩ : ∃ k, f[i]? = some k := ⟨_, List.getElem?_eq_getElem (by rw [hR.flen]; exact him)⟩
        have hn0 := hR.n0
        subst hn0
        obtain ⟨g, rfl, hbg, hfc⟩ := hR.row.first hk
        have k6c := box_cell h6
        have k6 := box_free h6
        have k7 := box_free h7
        have k7c := box_cell h7
        have hwr1 : IntKind.i64.wrap ((i : Int) + 1 - 1) = (i : Int) := by rw [IntKind.wrap_i64]; omega
        have HF := Lib.hid hfix
        have HC := Lib.hid hcm
        have H6 := Lib.hid h6
        have H7 := Lib.hid h7
        have HR := Lib.hid hR
        have HWS := Lib.hid hws
        have HBD := Lib.hid hbd
        have HI := Lib.hid hi
        have HK : Hid (f[r.length]? = some k) := Lib.hid (by rw [← hi]; exact hk)
        have HOW : Hid (∀ k, OZ (N + 7) k → k < A.heap.size) := Lib.hid fun k hk => by have := hk.2; omega
        have HBW : Hid (N ≤ A.heap.size) := Lib.hid (by omega)
        have HARG : Hid (cm.args.length ≤ 1000) := Lib.hid (by
          have h1 := runW_len op _ (some (⟨bs op, ⟨#[]⟩, ⟨#[]⟩, []⟩, 0)) 0 cm late (fun c e he => by injection he with he; injection he with he _; rw [← he]; exact Nat.le_refl _) hR.run
          have h2 : (f.zip (r.map Prod.fst)).length ≤ f.length := by rw [List.length_zip]; exact Nat.min_le_left _ _
          have h3 := hR.flen
          omega)
        clear hfix hcm h6 h7 hR hpre hbd hlt hxw hJ0 hgl hws hi hk
        cases k with
        | n =>
          have hc0 : A.cell? ⟨g, i * 3, none⟩ = some (.func (.func 54) #[] #[.pointer (some ⟨bn, 0, none⟩)]) := hfc _ rfl
          have RD : Hid (Calls Tryz.prog 54 (#[.pointer (some ⟨N + 3, 0, none⟩), .string (bs xw)] ++ #[.pointer (some ⟨bn, 0, none⟩)]) A fun e W2 => e = .returned (.int .i64 (readW .n cm xw).2) ∧ Turns (Wr A (N + 3) N (OZ (N + 7))) A W2 ∧ ((readW .n cm xw).2 ≠ 7 → ∃ v', CmAt W2 (N + 3) N (OZ (N + 7)) (readW .n cm xw).1 v')) := Lib.hid ((name_read HC.out bn HR.out.boxn xw).mono fun e W2 h => ⟨h.1, h.2.1, fun _ => h.2.2⟩)
          clear hfc
          gi_wp2_with fail
          refine ⟨trivial, (CallsIn.inRound l2 (callsIn_wide.2 RD.out)).mono ?_⟩
          rintro e W2 ⟨rfl, ht, hc'⟩
          have HRD := Lib.hid (after_read (Nat.le_of_eq HN.out) HF.out H6.out H7.out HR.out ht)
          have HC' := Lib.hid hc'
          have k8 := box_free HRD.out.h7
          have k8c := box_cell HRD.out.h7
          have r3 := box_free HRD.out.fix.err
          have r3c := box_cell HRD.out.fix.err
          have q0 : W2.cell? ⟨N, 0, none⟩ = some (.string ⟨#[]⟩) := by rw [cell_of_row _ _ _ _ _ _ HRD.out.fix.res]; rfl
          have q1 : W2.cell? ⟨N, 1, none⟩ = some (.string ⟨#[]⟩) := by rw [cell_of_row _ _ _ _ _ _ HRD.out.fix.res]; rfl
          have q2 : W2.cell? ⟨N, 2, none⟩ = some (.slice none 0 0) := by rw [cell_of_row _ _ _ _ _ _ HRD.out.fix.res]; rfl
          have q3 : W2.cell? ⟨N, 3, none⟩ = some (.string ⟨#[]⟩) := by rw [cell_of_row _ _ _ _ _ _ HRD.out.fix.res]; rfl
          have p0 : W2.frozen? ⟨N, 0, none⟩ = false := by simp [World.frozen?, HRD.out.fix.res]
          have p1 : W2.frozen? ⟨N, 1, none⟩ = false := by simp [World.frozen?, HRD.out.fix.res]
          have p2 : W2.frozen? ⟨N, 2, none⟩ = false := by simp [World.frozen?, HRD.out.fix.res]
          have p3 : W2.frozen? ⟨N, 3, none⟩ = false := by simp [World.frozen?, HRD.out.fix.res]
          clear ht hc' hc0 RD k6c k6 k7 k7c hwr1
          rcases readW_err .n cm xw with hE | hE | hE
          · have HE := Lib.hid hE
            rw [hE]
            clear hE
            gi_wp2_with fail
            obtain ⟨v', hcv⟩ := HC'.out (by rw [HE.out]; decide)
            have hp := PJ_more (i0 := i0) (i := i + 1) (Nat.le_of_eq HN.out) HRD.out HK.out hcv (Turns.refl _ _) HRD.out.h7 (.inl ⟨HE.out, rfl⟩)
            exact ⟨hp.1.mono fun k hk => by omega, by rw [HI.out] at hp; exact hp.2⟩
          · have HE := Lib.hid hE
            rw [hE]
            clear hE
            gi_wp2_with fail
            obtain ⟨v', hcv⟩ := HC'.out (by rw [HE.out]; decide)
            have hp := PJ_more (i0 := i0) (i := i + 1) (Nat.le_of_eq HN.out) HRD.out HK.out hcv ((Turns.refl (fun k => k = N + 5) W2).set (g := N + 5) rfl 0 (.int .i64 6)) (box_set HRD.out.h7 _) (.inr ⟨HE.out, rfl⟩)
            exact ⟨hp.1.mono fun k hk => by omega, by rw [HI.out] at hp; exact hp.2⟩
          · have HE := Lib.hid hE
            rw [hE]
            clear hE
            gi_wp2_with fail
            have hp := PX_made (er := 7) (ans := parseAns line) (Nat.le_of_eq HN.out) HRD.out.fix.low (Turns.refl _ _) HRD.out.fix.res HRD.out.fix.err (by
              rw [HPA.out]
              exact parse_refused HWS.out HML.out HR.out.frm HR.out.flen (by rw [List.length_map]; exact HK.out) HR.out.run HE.out)
            exact ⟨HRD.out.keeps.trans (hp.1.mono fun k hk => hk.1) |>.mono fun k hk => by omega, hp.2⟩
        | t =>
          have hc0 : A.cell? ⟨g, i * 3, none⟩ = some (.func (.func 54) #[] #[.pointer (some ⟨bt, 0, none⟩)]) := hfc _ rfl
          have RD : Hid (Calls Tryz.prog 54 (#[.pointer (some ⟨N + 3, 0, none⟩), .string (bs xw)] ++ #[.pointer (some ⟨bt, 0, none⟩)]) A fun e W2 => e = .returned (.int .i64 (readW .t cm xw).2) ∧ Turns (Wr A (N + 3) N (OZ (N + 7))) A W2 ∧ ((readW .t cm xw).2 ≠ 7 → ∃ v', CmAt W2 (N + 3) N (OZ (N + 7)) (readW .t cm xw).1 v')) := Lib.hid ((text_read HC.out bt HR.out.boxt xw).mono fun e W2 h => ⟨h.1, h.2.1, fun _ => h.2.2⟩)
          clear hfc
          gi_wp2_with fail
          refine ⟨trivial, (CallsIn.inRound l2 (callsIn_wide.2 RD.out)).mono ?_⟩
          rintro e W2 ⟨rfl, ht, hc'⟩
          have HRD := Lib.hid (after_read (Nat.le_of_eq HN.out) HF.out H6.out H7.out HR.out ht)
          have HC' := Lib.hid hc'
          have k8 := box_free HRD.out.h7
          have k8c := box_cell HRD.out.h7
          have r3 := box_free HRD.out.fix.err
          have r3c := box_cell HRD.out.fix.err
          have q0 : W2.cell? ⟨N, 0, none⟩ = some (.string ⟨#[]⟩) := by rw [cell_of_row _ _ _ _ _ _ HRD.out.fix.res]; rfl
          have q1 : W2.cell? ⟨N, 1, none⟩ = some (.string ⟨#[]⟩) := by rw [cell_of_row _ _ _ _ _ _ HRD.out.fix.res]; rfl
          have q2 : W2.cell? ⟨N, 2, none⟩ = some (.slice none 0 0) := by rw [cell_of_row _ _ _ _ _ _ HRD.out.fix.res]; rfl
          have q3 : W2.cell? ⟨N, 3, none⟩ = some (.string ⟨#[]⟩) := by rw [cell_of_row _ _ _ _ _ _ HRD.out.fix.res]; rfl
          have p0 : W2.frozen? ⟨N, 0, none⟩ = false := by simp [World.frozen?, HRD.out.fix.res]
          have p1 : W2.frozen? ⟨N, 1, none⟩ = false := by simp [World.frozen?, HRD.out.fix.res]
          have p2 : W2.frozen? ⟨N, 2, none⟩ = false := by simp [World.frozen?, HRD.out.fix.res]
          have p3 : W2.frozen? ⟨N, 3, none⟩ = false := by simp [World.frozen?, HRD.out.fix.res]
          clear ht hc' hc0 RD k6c k6 k7 k7c hwr1
          rcases readW_err .t cm xw with hE | hE | hE
          · have HE := Lib.hid hE
            rw [hE]
            clear hE
            gi_wp2_with fail
            obtain ⟨v', hcv⟩ := HC'.out (by rw [HE.out]; decide)
            have hp := PJ_more (i0 := i0) (i := i + 1) (Nat.le_of_eq HN.out) HRD.out HK.out hcv (Turns.refl _ _) HRD.out.h7 (.inl ⟨HE.out, rfl⟩)
            exact ⟨hp.1.mono fun k hk => by omega, by rw [HI.out] at hp; exact hp.2⟩
          · have HE := Lib.hid hE
            rw [hE]
            clear hE
            gi_wp2_with fail
            obtain ⟨v', hcv⟩ := HC'.out (by rw [HE.out]; decide)
            have hp := PJ_more (i0 := i0) (i := i + 1) (Nat.le_of_eq HN.out) HRD.out HK.out hcv ((Turns.refl (fun k => k = N + 5) W2).set (g := N + 5) rfl 0 (.int .i64 6)) (box_set HRD.out.h7 _) (.inr ⟨HE.out, rfl⟩)
            exact ⟨hp.1.mono fun k hk => by omega, by rw [HI.out] at hp; exact hp.2⟩
          · have HE := Lib.hid hE
            rw [hE]
            clear hE
            gi_wp2_with fail
            have hp := PX_made (er := 7) (ans := parseAns line) (Nat.le_of_eq HN.out) HRD.out.fix.low (Turns.refl _ _) HRD.out.fix.res HRD.out.fix.err (by
              rw [HPA.out]
              exact parse_refused HWS.out HML.out HR.out.frm HR.out.flen (by rw [List.length_map]; exact HK.out) HR.out.run HE.out)
            exact ⟨HRD.out.keeps.trans (hp.1.mono fun k hk => hk.1) |>.mono fun k hk => by omega, hp.2⟩
        | d =>
          have hc0 : A.cell? ⟨g, i * 3, none⟩ = some (.func (.func 58) #[] #[]) := hfc _ rfl
          have RD : Hid (Calls Tryz.prog 58 (#[.pointer (some ⟨N + 3, 0, none⟩), .string (bs xw)] ++ #[]) A fun e W2 => e = .returned (.int .i64 (readW .d cm xw).2) ∧ Turns (Wr A (N + 3) N (OZ (N + 7))) A W2 ∧ ((readW .d cm xw).2 ≠ 7 → ∃ v', CmAt W2 (N + 3) N (OZ (N + 7)) (readW .d cm xw).1 v')) := Lib.hid ((date_read HC.out HOW.out HBW.out HARG.out xw (by omega)).mono fun e W2 h => ⟨h.1, h.2.1, fun _ => h.2.2⟩)
          clear hfc
          gi_wp2_with fail
          refine ⟨trivial, (CallsIn.inRound l2 (callsIn_wide.2 RD.out)).mono ?_⟩
          rintro e W2 ⟨rfl, ht, hc'⟩
          have HRD := Lib.hid (after_read (Nat.le_of_eq HN.out) HF.out H6.out H7.out HR.out ht)
          have HC' := Lib.hid hc'
          have k8 := box_free HRD.out.h7
          have k8c := box_cell HRD.out.h7
          have r3 := box_free HRD.out.fix.err
          have r3c := box_cell HRD.out.fix.err
          have q0 : W2.cell? ⟨N, 0, none⟩ = some (.string ⟨#[]⟩) := by rw [cell_of_row _ _ _ _ _ _ HRD.out.fix.res]; rfl
          have q1 : W2.cell? ⟨N, 1, none⟩ = some (.string ⟨#[]⟩) := by rw [cell_of_row _ _ _ _ _ _ HRD.out.fix.res]; rfl
          have q2 : W2.cell? ⟨N, 2, none⟩ = some (.slice none 0 0) := by rw [cell_of_row _ _ _ _ _ _ HRD.out.fix.res]; rfl
          have q3 : W2.cell? ⟨N, 3, none⟩ = some (.string ⟨#[]⟩) := by rw [cell_of_row _ _ _ _ _ _ HRD.out.fix.res]; rfl
          have p0 : W2.frozen? ⟨N, 0, none⟩ = false := by simp [World.frozen?, HRD.out.fix.res]
          have p1 : W2.frozen? ⟨N, 1, none⟩ = false := by simp [World.frozen?, HRD.out.fix.res]
          have p2 : W2.frozen? ⟨N, 2, none⟩ = false := by simp [World.frozen?, HRD.out.fix.res]
          have p3 : W2.frozen? ⟨N, 3, none⟩ = false := by simp [World.frozen?, HRD.out.fix.res]
          clear ht hc' hc0 RD k6c k6 k7 k7c hwr1
          rcases readW_err .d cm xw with hE | hE | hE
          · have HE := Lib.hid hE
            rw [hE]
            clear hE
            gi_wp2_with fail
            obtain ⟨v', hcv⟩ := HC'.out (by rw [HE.out]; decide)
            have hp := PJ_more (i0 := i0) (i := i + 1) (Nat.le_of_eq HN.out) HRD.out HK.out hcv (Turns.refl _ _) HRD.out.h7 (.inl ⟨HE.out, rfl⟩)
            exact ⟨hp.1.mono fun k hk => by omega, by rw [HI.out] at hp; exact hp.2⟩
          · have HE := Lib.hid hE
            rw [hE]
            clear hE
            gi_wp2_with fail
            obtain ⟨v', hcv⟩ := HC'.out (by rw [HE.out]; decide)
            have hp := PJ_more (i0 := i0) (i := i + 1) (Nat.le_of_eq HN.out) HRD.out HK.out hcv ((Turns.refl (fun k => k = N + 5) W2).set (g := N + 5) rfl 0 (.int .i64 6)) (box_set HRD.out.h7 _) (.inr ⟨HE.out, rfl⟩)
            exact ⟨hp.1.mono fun k hk => by omega, by rw [HI.out] at hp; exact hp.2⟩
          · have HE := Lib.hid hE
            rw [hE]
            clear hE
            gi_wp2_with fail
            have hp := PX_made (er := 7) (ans := parseAns line) (Nat.le_of_eq HN.out) HRD.out.fix.low (Turns.refl _ _) HRD.out.fix.res HRD.out.fix.err (by
              rw [HPA.out]
              exact parse_refused HWS.out HML.out HR.out.frm HR.out.flen (by rw [List.length_map]; exact HK.out) HR.out.run HE.out)
            exact ⟨HRD.out.keeps.trans (hp.1.mono fun k hk => hk.1) |>.mono fun k hk => by omega, hp.2⟩
        | m =>
          have hc0 : A.cell? ⟨g, i * 3, none⟩ = some (.func (.func 62) #[] #[]) := hfc _ rfl
          have RD : Hid (Calls Tryz.prog 62 (#[.pointer (some ⟨N + 3, 0, none⟩), .string (bs xw)] ++ #[]) A fun e W2 => e = .returned (.int .i64 (readW .m cm xw).2) ∧ Turns (Wr A (N + 3) N (OZ (N + 7))) A W2 ∧ ((readW .m cm xw).2 ≠ 7 → ∃ v', CmAt W2 (N + 3) N (OZ (N + 7)) (readW .m cm xw).1 v')) := Lib.hid ((money_read HC.out HOW.out HBW.out HARG.out xw (by omega)).mono fun e W2 h => ⟨h.1, h.2.1, fun _ => h.2.2⟩)
          clear hfc
          gi_wp2_with fail
          refine ⟨trivial, (CallsIn.inRound l2 (callsIn_wide.2 RD.out)).mono ?_⟩
          rintro e W2 ⟨rfl, ht, hc'⟩
          have HRD := Lib.hid (after_read (Nat.le_of_eq HN.out) HF.out H6.out H7.out HR.out ht)
          have HC' := Lib.hid hc'
          have k8 := box_free HRD.out.h7
          have k8c := box_cell HRD.out.h7
          have r3 := box_free HRD.out.fix.err
          have r3c := box_cell HRD.out.fix.err
          have q0 : W2.cell? ⟨N, 0, none⟩ = some (.string ⟨#[]⟩) := by rw [cell_of_row _ _ _ _ _ _ HRD.out.fix.res]; rfl
          have q1 : W2.cell? ⟨N, 1, none⟩ = some (.string ⟨#[]⟩) := by rw [cell_of_row _ _ _ _ _ _ HRD.out.fix.res]; rfl
          have q2 : W2.cell? ⟨N, 2, none⟩ = some (.slice none 0 0) := by rw [cell_of_row _ _ _ _ _ _ HRD.out.fix.res]; rfl
          have q3 : W2.cell? ⟨N, 3, none⟩ = some (.string ⟨#[]⟩) := by rw [cell_of_row _ _ _ _ _ _ HRD.out.fix.res]; rfl
          have p0 : W2.frozen? ⟨N, 0, none⟩ = false := by simp [World.frozen?, HRD.out.fix.res]
          have p1 : W2.frozen? ⟨N, 1, none⟩ = false := by simp [World.frozen?, HRD.out.fix.res]
          have p2 : W2.frozen? ⟨N, 2, none⟩ = false := by simp [World.frozen?, HRD.out.fix.res]
          have p3 : W2.frozen? ⟨N, 3, none⟩ = false := by simp [World.frozen?, HRD.out.fix.res]
          clear ht hc' hc0 RD k6c k6 k7 k7c hwr1
          rcases readW_err .m cm xw with hE | hE | hE
          · have HE := Lib.hid hE
            rw [hE]
            clear hE
            gi_wp2_with fail
            obtain ⟨v', hcv⟩ := HC'.out (by rw [HE.out]; decide)
            have hp := PJ_more (i0 := i0) (i := i + 1) (Nat.le_of_eq HN.out) HRD.out HK.out hcv (Turns.refl _ _) HRD.out.h7 (.inl ⟨HE.out, rfl⟩)
            exact ⟨hp.1.mono fun k hk => by omega, by rw [HI.out] at hp; exact hp.2⟩
          · have HE := Lib.hid hE
            rw [hE]
            clear hE
            gi_wp2_with fail
            obtain ⟨v', hcv⟩ := HC'.out (by rw [HE.out]; decide)
            have hp := PJ_more (i0 := i0) (i := i + 1) (Nat.le_of_eq HN.out) HRD.out HK.out hcv ((Turns.refl (fun k => k = N + 5) W2).set (g := N + 5) rfl 0 (.int .i64 6)) (box_set HRD.out.h7 _) (.inr ⟨HE.out, rfl⟩)
            exact ⟨hp.1.mono fun k hk => by omega, by rw [HI.out] at hp; exact hp.2⟩
          · have HE := Lib.hid hE
            rw [hE]
            clear hE
            gi_wp2_with fail
            have hp := PX_made (er := 7) (ans := parseAns line) (Nat.le_of_eq HN.out) HRD.out.fix.low (Turns.refl _ _) HRD.out.fix.res HRD.out.fix.err (by
              rw [HPA.out]
              exact parse_refused HWS.out HML.out HR.out.frm HR.out.flen (by rw [List.length_map]; exact HK.out) HR.out.run HE.out)
            exact ⟨HRD.out.keeps.trans (hp.1.mono fun k hk => hk.1) |>.mono fun k hk => by omega, hp.2⟩
        | i =>
          have hc0 : A.cell? ⟨g, i * 3, none⟩ = some (.func (.func 66) #[] #[]) := hfc _ rfl
          have RD : Hid (Calls Tryz.prog 66 (#[.pointer (some ⟨N + 3, 0, none⟩), .string (bs xw)] ++ #[]) A fun e W2 => e = .returned (.int .i64 (readW .i cm xw).2) ∧ Turns (Wr A (N + 3) N (OZ (N + 7))) A W2 ∧ ((readW .i cm xw).2 ≠ 7 → ∃ v', CmAt W2 (N + 3) N (OZ (N + 7)) (readW .i cm xw).1 v')) := Lib.hid ((number_read HC.out HOW.out HBW.out (by omega) HARG.out (HV.out.below HF.out.low) xw (by omega)).mono fun e W2 h => ⟨h.1, h.2.1, fun hne => h.2.2 (by
            cases hb : numOk xw with
            | true => rfl
            | false => exact absurd (by simp [readW, hb]) hne)⟩)
          clear hfc
          gi_wp2_with fail
          refine ⟨trivial, (CallsIn.inRound l2 (callsIn_wide.2 RD.out)).mono ?_⟩
          rintro e W2 ⟨rfl, ht, hc'⟩
          have HRD := Lib.hid (after_read (Nat.le_of_eq HN.out) HF.out H6.out H7.out HR.out ht)
          have HC' := Lib.hid hc'
          have k8 := box_free HRD.out.h7
          have k8c := box_cell HRD.out.h7
          have r3 := box_free HRD.out.fix.err
          have r3c := box_cell HRD.out.fix.err
          have q0 : W2.cell? ⟨N, 0, none⟩ = some (.string ⟨#[]⟩) := by rw [cell_of_row _ _ _ _ _ _ HRD.out.fix.res]; rfl
          have q1 : W2.cell? ⟨N, 1, none⟩ = some (.string ⟨#[]⟩) := by rw [cell_of_row _ _ _ _ _ _ HRD.out.fix.res]; rfl
          have q2 : W2.cell? ⟨N, 2, none⟩ = some (.slice none 0 0) := by rw [cell_of_row _ _ _ _ _ _ HRD.out.fix.res]; rfl
          have q3 : W2.cell? ⟨N, 3, none⟩ = some (.string ⟨#[]⟩) := by rw [cell_of_row _ _ _ _ _ _ HRD.out.fix.res]; rfl
          have p0 : W2.frozen? ⟨N, 0, none⟩ = false := by simp [World.frozen?, HRD.out.fix.res]
          have p1 : W2.frozen? ⟨N, 1, none⟩ = false := by simp [World.frozen?, HRD.out.fix.res]
          have p2 : W2.frozen? ⟨N, 2, none⟩ = false := by simp [World.frozen?, HRD.out.fix.res]
          have p3 : W2.frozen? ⟨N, 3, none⟩ = false := by simp [World.frozen?, HRD.out.fix.res]
          clear ht hc' hc0 RD k6c k6 k7 k7c hwr1
          rcases readW_err .i cm xw with hE | hE | hE
          · have HE := Lib.hid hE
            rw [hE]
            clear hE
            gi_wp2_with fail
            obtain ⟨v', hcv⟩ := HC'.out (by rw [HE.out]; decide)
            have hp := PJ_more (i0 := i0) (i := i + 1) (Nat.le_of_eq HN.out) HRD.out HK.out hcv (Turns.refl _ _) HRD.out.h7 (.inl ⟨HE.out, rfl⟩)
            exact ⟨hp.1.mono fun k hk => by omega, by rw [HI.out] at hp; exact hp.2⟩
          · have HE := Lib.hid hE
            rw [hE]
            clear hE
            gi_wp2_with fail
            obtain ⟨v', hcv⟩ := HC'.out (by rw [HE.out]; decide)
            have hp := PJ_more (i0 := i0) (i := i + 1) (Nat.le_of_eq HN.out) HRD.out HK.out hcv ((Turns.refl (fun k => k = N + 5) W2).set (g := N + 5) rfl 0 (.int .i64 6)) (box_set HRD.out.h7 _) (.inr ⟨HE.out, rfl⟩)
            exact ⟨hp.1.mono fun k hk => by omega, by rw [HI.out] at hp; exact hp.2⟩
          · have HE := Lib.hid hE
            rw [hE]
            clear hE
            gi_wp2_with fail
            have hp := PX_made (er := 7) (ans := parseAns line) (Nat.le_of_eq HN.out) HRD.out.fix.low (Turns.refl _ _) HRD.out.fix.res HRD.out.fix.err (by
              rw [HPA.out]
              exact parse_refused HWS.out HML.out HR.out.frm HR.out.flen (by rw [List.length_map]; exact HK.out) HR.out.run HE.out)
            exact ⟨HRD.out.keeps.trans (hp.1.mono fun k hk => hk.1) |>.mono fun k hk => by omega, hp.2⟩
    case done =>
      rintro A ⟨hfix, cm, v, late, A0, n0, c0, hcm, h6, h7, htl⟩ hD
      obtain ⟨op, r, hwr⟩ : ∃ op r, wordsOf line = op :: r := by
        cases hw : wordsOf line with
        | nil => exact absurd hw (words_ne line)
        | cons op r => exact ⟨op, r, rfl⟩
      have hpa : parseAns line = endW (some (cm, late)) := by
        rw [HPA.out, hwr]
        rw [hwr] at htl
        have hlen := HML.out
        rw [hwr, List.length_cons] at hlen
        have hrm : ((r.length : Nat) : Int) = (m : Int) := by omega
        obtain ⟨f, bn, bt, hR⟩ := htl
        have e : ((r.zipIdx 1).map Prod.fst) = r := by simp
        have hrun := hR.run
        have hfrm := hR.frm
        unfold parseW
        dsimp only
        rw [hrm]
        dsimp only at hfrm
        rw [hfrm]
        dsimp only
        rw [if_neg (by rw [hR.flen]; omega)]
        rw [show (0 : Nat) + 1 = 1 from rfl] at hrun
        rw [e] at hrun
        rw [hrun]
      have HPE := Lib.hid hpa
      obtain ⟨Av, cv, rfl, _, _⟩ := hcm.form
      have HF := Lib.hid hfix
      have HC := Lib.hid hcm
      have H7 := Lib.hid h7
      have HDD := Lib.hid hD
      have k7 := box_cell h7
      have r3 := box_free hfix.err
      have r3c := box_cell hfix.err
      have q0 : A.cell? ⟨N, 0, none⟩ = some (.string ⟨#[]⟩) := by rw [cell_of_row _ _ _ _ _ _ hfix.res]; rfl
      have q1 : A.cell? ⟨N, 1, none⟩ = some (.string ⟨#[]⟩) := by rw [cell_of_row _ _ _ _ _ _ hfix.res]; rfl
      have q2 : A.cell? ⟨N, 2, none⟩ = some (.slice none 0 0) := by rw [cell_of_row _ _ _ _ _ _ hfix.res]; rfl
      have q3 : A.cell? ⟨N, 3, none⟩ = some (.string ⟨#[]⟩) := by rw [cell_of_row _ _ _ _ _ _ hfix.res]; rfl
      have p0 : A.frozen? ⟨N, 0, none⟩ = false := by simp [World.frozen?, hfix.res]
      have p1 : A.frozen? ⟨N, 1, none⟩ = false := by simp [World.frozen?, hfix.res]
      have p2 : A.frozen? ⟨N, 2, none⟩ = false := by simp [World.frozen?, hfix.res]
      have p3 : A.frozen? ⟨N, 3, none⟩ = false := by simp [World.frozen?, hfix.res]
      have s0 : A.cell? ⟨N + 3, 0, none⟩ = some (.string cm.op) := by rw [cell_of_row _ _ _ _ _ _ hcm.cell]; rfl
      have s1 : A.cell? ⟨N + 3, 1, none⟩ = some (.string cm.name) := by rw [cell_of_row _ _ _ _ _ _ hcm.cell]; rfl
      have s2 : A.cell? ⟨N + 3, 2, none⟩ = some (.slice Av cm.args.length cv) := by rw [cell_of_row _ _ _ _ _ _ hcm.cell]; rfl
      have s3 : A.cell? ⟨N + 3, 3, none⟩ = some (.string cm.text) := by rw [cell_of_row _ _ _ _ _ _ hcm.cell]; rfl
      clear hfix hcm h6 h7 htl hD hpa hJ0 hgl
      by_cases hlate : late = 0
      · subst hlate
        gi_wp2_with fail
        have e4 : endW (some (cm, 0)) = (cm, 0) := by simp [endW]
        obtain ⟨W5, hW5⟩ : ∃ W5, W5 = (given A N (.string cm.op) (.string cm.name) (.slice Av cm.args.length cv) (.string cm.text)).setCell ⟨N + 1, 0, none⟩ (.int .i64 0) := ⟨_, rfl⟩
        have t1 : Turns (fun k => N ≤ k ∧ k < N + 3) A W5 := by rw [hW5]; exact (given_turns (Turns.refl (fun k => N ≤ k ∧ k < N + 3) A) ⟨Nat.le_refl _, by omega⟩).set (g := N + 1) ⟨by omega, by omega⟩ 0 _
        have g0 : W5.heap[N]? = some (.cells (cmCells cm (.slice Av cm.args.length cv)) 25 (0, 0)) := by rw [hW5]; exact (set_oth _ _ _ _ _ (by omega)).trans (given_at HF.out.res)
        have g1 : W5.heap[N + 1]? = some (.cells #[.int .i64 0] 26 (0, 0)) := by rw [hW5]; exact box_set ((given_oth (by omega)).trans HF.out.err) _
        have gd : W5.heap[N + 7]? = some (.deferred (some [])) := turn_at t1 (by rw [← hz]; exact HDD.out) (by omega)
        have gl : Below N w W5 := turns_low t1 HF.out.low (fun k hk ho => by omega) (Nat.le_of_eq HN.out)
        have go : W5.ownsRow N 2 1 (.slice Av cm.args.length cv) cm.args.length (cm.args.map (Value.int .i64)) := ownE_keep HC.out.own fun k hk => t1.block k (ownE_block HC.out.own hk).1 (fun e => by
          obtain ⟨_, cs2, h2⟩ := ownE_block HC.out.own hk
          rcases (show k = N ∨ k = N + 1 ∨ k = N + 2 by omega) with rfl | rfl | rfl
          · rw [HF.out.res] at h2; injection h2 with h2; injection h2 with _ h2; exact absurd h2 (by decide)
          · rw [HF.out.err] at h2; injection h2 with h2; injection h2 with _ h2; exact absurd h2 (by decide)
          · rw [HF.out.many] at h2; injection h2 with h2; injection h2 with _ h2; exact absurd h2 (by decide))
        have t2 := (Turns.refl (fun k => k = N + 7) W5).putObj rfl (.deferred none)
        show bodyPostM _ _ _ _ _ _ _ ((given A N (.string cm.op) (.string cm.name) (.slice Av cm.args.length cv) (.string cm.text)).setCell ⟨N + 1, 0, none⟩ (.int .i64 0))
        rw [← hW5, hz]
        refine ⟨by simp, .inl ⟨_, _, rfl, run_takeDeferred gd, ?_⟩⟩
        rw [HPE.out, e4]
        exact ⟨_, results_cellsV rfl _ _ N (N + 1) 25 (cmCells cm (.slice Av cm.args.length cv)) (.int .i64 0) (0, 0) _ rfl (turn_at t2 g0 (by omega)) Tryz.underlying25 rfl infoCm rfl (load_errno (turn_at t2 g1 (by omega))), by rw [← HN.out]; exact turns_low t2 gl (fun k hk => by omega) (Nat.le_of_eq HN.out), .slice Av cm.args.length cv, rfl, by rw [← HN.out]; exact ownE_keep go fun k hk => t2.block k (ownE_block go hk).1 (fun e => by
          obtain ⟨_, cs2, h2⟩ := ownE_block go hk
          rw [e, gd] at h2
          cases h2)⟩
      · have hl2 : (late != 0) = true := by simpa using hlate
        have e4 : endW (some (cm, late)) = (noneC, late) := by simp [endW, hlate]
        gi_wp2_with fail
        gi_region
        gi_wp2
        obtain ⟨W5, hW5⟩ : ∃ W5, W5 = ((zeroed A N).setCell ⟨N + 1, 0, none⟩ (.int .i64 late)).drew := ⟨_, rfl⟩
        have hp := PX_made (er := late) (ans := parseAns line) (Nat.le_of_eq HN.out) HF.out.low (Turns.refl _ _) HF.out.res HF.out.err (by rw [HPE.out, e4])
        have hk5 : Keeps (fun k => N + 7 ≤ k) A W5 := by rw [hW5]; exact ⟨hp.1.size, hp.1.block⟩
        have hx5 : PX N w (parseAns line) W5 := by
          rw [hW5]
          obtain ⟨⟨a1, a2, a3, a4, a5⟩, h2, er, h3, h4⟩ := hp.2
          exact ⟨(⟨a1, a2, a3, a4, a5⟩ : Below N w ((zeroed A N).setCell ⟨N + 1, 0, none⟩ (.int .i64 late))).drew, h2, er, h3, h4⟩
        show bodyPostM _ _ _ _ _ _ _ ((zeroed A N).setCell ⟨N + 1, 0, none⟩ (.int .i64 late)).drew
        rw [← hW5]
        have gd : W5.heap[w6.heap.size]? = some (.deferred (some [])) := (hk5.block _ (Array.getElem?_eq_some_iff.1 HDD.out).1 (by omega)).trans HDD.out
        obtain ⟨h1, h2, er, h3, h4⟩ := hx5
        refine ⟨by simp, .inl ⟨_, _, rfl, run_takeDeferred gd, ?_⟩⟩
        rw [hz]
        have e2 : (W5.putObj (N + 7) (.deferred none)).heap[N]? = some (.cells (cmCells noneC (.slice none 0 0)) 25 (0, 0)) := (World.putObj_heap_other (by omega)).trans h2
        have e3 : (W5.putObj (N + 7) (.deferred none)).heap[N + 1]? = some (.cells #[.int .i64 er] 26 (0, 0)) := (World.putObj_heap_other (by omega)).trans h3
        have e1 : Below N w (W5.putObj (N + 7) (.deferred none)) := turns_low ((Turns.refl (fun k => k = N + 7) W5).putObj rfl _) h1 (fun k hk => by omega) (Nat.le_of_eq HN.out)
        rw [h4]
        exact ⟨_, results_cellsV rfl _ _ N (N + 1) 25 (cmCells noneC (.slice none 0 0)) (.int .i64 er) (0, 0) _ rfl e2 Tryz.underlying25 rfl infoCm rfl (load_errno e3), by rw [← HN.out]; exact e1, .slice none 0 0, rfl, rfl, .inl ⟨rfl, rfl⟩⟩
    case stop =>
      rintro A ⟨h1, h2, er, h3, h4⟩ hD
      refine ⟨by simp, .inl ⟨_, _, rfl, run_takeDeferred hD, ?_⟩⟩
      rw [hz]
      have e2 : (A.putObj (N + 7) (.deferred none)).heap[N]? = some (.cells (cmCells noneC (.slice none 0 0)) 25 (0, 0)) := (World.putObj_heap_other (by omega)).trans h2
      have e3 : (A.putObj (N + 7) (.deferred none)).heap[N + 1]? = some (.cells #[.int .i64 er] 26 (0, 0)) := (World.putObj_heap_other (by omega)).trans h3
      have e1 : Below N w (A.putObj (N + 7) (.deferred none)) := turns_low ((Turns.refl (fun k => k = N + 7) A).putObj rfl _) h1 (fun k hk => by omega) (Nat.le_of_eq HN.out)
      rw [h4]
      exact ⟨_, results_cellsV rfl _ _ N (N + 1) 25 (cmCells noneC (.slice none 0 0)) (.int .i64 er) (0, 0) _ rfl e2 Tryz.underlying25 rfl infoCm rfl (load_errno e3), by rw [← HN.out]; exact e1, .slice none 0 0, rfl, rfl, .inl ⟨rfl, rfl⟩⟩
end Go.Proofs.YthlgjbmkealjjaaGreatDoor
