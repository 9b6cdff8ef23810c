/-
  Plain law: what is read is written as it was. No program in sight.
-/
import Derived.Test.YthlgjbmkealjjaaGreatDoorCmZ2
namespace Go.Proofs.YthlgjbmkealjjaaGreatDoor
open Go.RowKit
set_option linter.unusedVariables false
theorem isd_dig_back (x : UInt8) (h : isd x) : dig (x.toNat - 48) = x := by
  unfold isd at h
  apply UInt8.toNat_inj.1
  rw [dig_toNat]
  omega
theorem dig_add (a b : Nat) (hb : b < 10) : dig (a * 10 + b) = dig b := by unfold dig; rw [show (a * 10 + b) % 10 = b % 10 by omega]
theorem digs_num : ∀ (k : Nat) (l : List UInt8), l.length = k → (∀ x ∈ l, isd x) → digs k (num l) = l := by
  intro k
  induction k with
  | zero => intro l hl _; rw [List.length_eq_zero_iff.1 hl]; rfl
  | succ k ih =>
    intro l hl hd
    have hne : l ≠ [] := by rintro rfl; simp at hl
    rcases List.eq_nil_or_concat l with h | ⟨m, x, rfl⟩
    · exact absurd h hne
    · rw [List.concat_eq_append] at *
      have hx := hd x (by simp)
      have hx2 : x.toNat - 48 < 10 := by unfold isd at hx; omega
      rw [num_snoc, digs, show (num m * 10 + (x.toNat - 48)) / 10 = num m by omega, ih m (by simpa using hl) (fun y hy => hd y (by simp [hy])), dig_add _ _ hx2, isd_dig_back x hx]
theorem civ_back (w : List UInt8) (h : (civOf w).2 = 0) : civT (civOf w).1 = w := by
  unfold civOf at h ⊢
  split at h
  · rename_i hg
    rw [if_pos hg]
    unfold ofAt at h ⊢
    split at h
    · rename_i hv
      rw [if_pos hv, civT_eq hv rfl]
      obtain ⟨hl, ho⟩ := hg
      match w, hl with
      | [a, b, c, d, e, f, g, i, j, k], _ =>
        have o := fun n (hn : n < 10) => ho n hn
        have o0 := o 0 (by omega); have o1 := o 1 (by omega); have o2 := o 2 (by omega); have o3 := o 3 (by omega); have o4 := o 4 (by omega)
        have o5 := o 5 (by omega); have o6 := o 6 (by omega); have o7 := o 7 (by omega); have o8 := o 8 (by omega); have o9 := o 9 (by omega)
        simp [okAt] at o0 o1 o2 o3 o4 o5 o6 o7 o8 o9
        have e4 : e = 45 := UInt8.toNat_inj.1 (by simpa using o4)
        have e7 : i = 45 := UInt8.toNat_inj.1 (by simpa using o7)
        subst e4 e7
        simp only [List.take_succ_cons, List.take_zero, List.drop_succ_cons, List.drop_zero]
        unfold txt
        rw [digs_num 4 [a, b, c, d] rfl (by simp [o0, o1, o2, o3]), digs_num 2 [f, g] rfl (by simp [o5, o6]), digs_num 2 [j, k] rfl (by simp [o8, o9])]
        rfl
    · simp at h
  · simp at h
def isD : Kd → Bool
  | .d => true
  | _ => false
/-- A command's words; none: numbers are lacking, or no day. -/
noncomputable def textsR (c : Cm) : List Kd → List Int → Option (List (List UInt8))
  | [], _ => some []
  | k :: f, zs => if argK k = true then (match zs with
      | [] => none
      | z :: zs => if isD k = true ∧ (z < -719162 ∨ 2932896 < z) then none else (textsR c f zs).map (wordT k c z :: ·)) else (textsR c f zs).map (wordT k c 0 :: ·)
theorem textsR_cons (c : Cm) (k : Kd) (f : List Kd) (zs : List Int) : textsR c (k :: f) zs = if argK k = true then (match zs with
      | [] => none
      | z :: zs => if isD k = true ∧ (z < -719162 ∨ 2932896 < z) then none else (textsR c f zs).map (wordT k c z :: ·)) else (textsR c f zs).map (wordT k c 0 :: ·) := rfl
theorem textsR_C (c : Cm) : ∀ (f : List Kd) (zs : List Int) (ws : List (List UInt8)), textsR c f zs = some ws → textsC c f zs = some ws := by
  intro f
  induction f with
  | nil => intro zs ws h; exact h
  | cons k f ih =>
    intro zs ws h
    rw [textsR_cons] at h
    unfold textsC
    split at h
    · rename_i hk
      rw [if_pos hk]
      cases zs with
      | nil => cases h
      | cons z zs =>
        dsimp only at h ⊢
        split at h
        · cases h
        · cases hr : textsR c f zs with
          | none => rw [hr] at h; cases h
          | some xs => rw [hr] at h; rw [ih _ _ hr]; exact h
    · rename_i hk
      rw [if_neg hk]
      cases hr : textsR c f zs with
      | none => rw [hr] at h; cases h
      | some xs => rw [hr] at h; rw [ih _ _ hr]; exact h
theorem textsR_congr (c d : Cm) : ∀ (f : List Kd) (zs : List Int), (Kd.n ∈ f → c.name = d.name) → (Kd.t ∈ f → c.text = d.text) → textsR c f zs = textsR d f zs := by
  intro f
  induction f with
  | nil => intro zs _ _; rfl
  | cons k f ih =>
    intro zs hn ht
    have i1 := fun zs => ih zs (fun h => hn (List.mem_cons_of_mem _ h)) (fun h => ht (List.mem_cons_of_mem _ h))
    have hw : ∀ z, wordT k c z = wordT k d z := by
      intro z
      cases k
      · exact congrArg (fun x : ByteArray => x.data.toList) (hn List.mem_cons_self)
      · exact congrArg (fun x : ByteArray => x.data.toList) (ht List.mem_cons_self)
      all_goals rfl
    unfold textsR
    simp only [i1, hw]
theorem textsR_append (c : Cm) (g : List Kd) (ys : List Int) : ∀ (f : List Kd) (zs : List Int) (ws : List (List UInt8)), (f.filter argK).length = zs.length → textsR c f zs = some ws → textsR c (f ++ g) (zs ++ ys) = (textsR c g ys).map (ws ++ ·) := by
  intro f
  induction f with
  | nil =>
    intro zs ws h1 h2
    have : zs = [] := List.length_eq_zero_iff.1 h1.symm
    subst this
    injection h2 with h2
    subst h2
    simp
  | cons k f ih =>
    intro zs ws h1 h2
    rw [List.cons_append]
    rw [textsR_cons] at h2 ⊢
    split at h2
    · rename_i hk
      rw [if_pos hk]
      cases zs with
      | nil => cases h2
      | cons z zs =>
        dsimp only [List.cons_append] at h2 ⊢
        split at h2
        · cases h2
        · rename_i hd
          rw [if_neg hd]
          cases hr : textsR c f zs with
          | none => rw [hr] at h2; cases h2
          | some xs =>
            rw [hr] at h2
            injection h2 with h2
            subst h2
            rw [ih zs xs (by rw [List.filter_cons_of_pos hk] at h1; simpa using h1) hr, Option.map_map]
            congr 1
    · rename_i hk
      rw [if_neg hk]
      cases hr : textsR c f zs with
      | none => rw [hr] at h2; cases h2
      | some xs =>
        rw [hr] at h2
        injection h2 with h2
        subst h2
        rw [ih zs xs (by rw [List.filter_cons_of_neg hk] at h1; exact h1) hr, Option.map_map]
        congr 1
/-- One word more was read. -/
theorem read_word {k : Kd} {c c' : Cm} {w : List UInt8} (h : readW k c w = (c', 0)) : c'.op = c.op ∧
    (argK k = true → ∃ z, c' = { c with args := c.args ++ [z] } ∧ wordT k c' z = w ∧ ¬ (isD k = true ∧ (z < -719162 ∨ 2932896 < z))) ∧ (argK k = false → c'.args = c.args ∧ wordT k c' 0 = w ∧ (k ≠ .n → c'.name = c.name) ∧ (k ≠ .t → c'.text = c.text)) := by
  cases k with
  | n =>
    simp only [readW] at h
    injection h with h1 h2
    subst h1
    exact ⟨rfl, (fun h => by cases h), fun _ => ⟨rfl, by simp [wordT, bs], fun h => absurd rfl h, fun _ => rfl⟩⟩
  | t =>
    simp only [readW] at h
    injection h with h1 h2
    subst h1
    exact ⟨rfl, (fun h => by cases h), fun _ => ⟨rfl, by simp [wordT, bs], fun _ => rfl, fun h => absurd rfl h⟩⟩
  | d =>
    simp only [readW] at h
    injection h with h1 h2
    subst h1
    have hin := civOf_in w h2
    exact ⟨rfl, fun _ => ⟨_, rfl, civ_back w h2, fun h => by omega⟩, (fun h => by cases h)⟩
  | m =>
    simp only [readW] at h
    injection h with h1 h2
    subst h1
    have hm : monOk (readOf w) = true := by
      cases e : monOk (readOf w)
      · rw [e] at h2; simp at h2
      · rfl
    have e : readOf w = ((readOf w).1, 0) := Prod.ext rfl (monOk_t (x := (readOf w).1) (er := (readOf w).2) hm).1
    exact ⟨rfl, fun _ => ⟨_, rfl, back_text w _ e, (fun h => by cases h.1)⟩, (fun h => by cases h)⟩
  | i =>
    simp only [readW] at h
    injection h with h1 h2
    subst h1
    have hm : numOk w = true := by
      cases e : numOk w
      · rw [e] at h2; simp at h2
      · rfl
    exact ⟨rfl, fun _ => ⟨_, rfl, (num_fwd w hm).2.1, (fun h => by cases h.1)⟩, (fun h => by cases h)⟩
/-- A kind that stands at most once. -/
def once (k : Kd) : List Kd → Prop
  | [] => True
  | x :: f => (x = k → k ∉ f) ∧ once k f
theorem once_snoc {k x : Kd} : ∀ {f : List Kd}, once k (f ++ [x]) → once k f ∧ (x = k → k ∉ f) := by
  intro f
  induction f with
  | nil => intro _; exact ⟨trivial, fun _ h => by cases h⟩
  | cons y f ih =>
    rintro ⟨h1, h2⟩
    obtain ⟨i1, i2⟩ := ih h2
    refine ⟨⟨fun e hm => h1 e (List.mem_append_left _ hm), i1⟩, fun e hm => ?_⟩
    rcases List.mem_cons.1 hm with h | h
    · exact h1 h.symm (by rw [e]; simp)
    · exact i2 e h
theorem once_pre {k : Kd} {g : List Kd} : ∀ {f : List Kd}, once k (f ++ g) → once k f := by
  intro f
  induction f with
  | nil => intro _; exact trivial
  | cons y f ih =>
    rintro ⟨h1, h2⟩
    exact ⟨fun e hm => h1 e (List.mem_append_left _ hm), ih h2⟩
theorem once_rep (k : Kd) (m : Nat) (h : k ≠ .i) : once k (List.replicate m .i) ∧ k ∉ List.replicate m Kd.i := by
  induction m with
  | zero => exact ⟨trivial, fun h => by cases h⟩
  | succ m ih =>
    rw [List.replicate_succ]
    refine ⟨⟨fun e => absurd e.symm h, ih.1⟩, fun hm => ?_⟩
    rcases List.mem_cons.1 hm with e | e
    · exact h e
    · exact ih.2 e
theorem ite_impl {α : Type} {c : Prop} [Decidable c] {a b : Option α} {f : α} {P : Prop} (ha : a = some f → P) (hb : b = some f → P) : (if c then a else b) = some f → P := by
  intro h
  split at h
  · exact ha h
  · exact hb h
theorem once_form {op : List UInt8} {k : Int} {f : List Kd} (h : formOf op k = some f) : once .n f ∧ once .t f := by
  by_cases hc : op = prodB ∧ 7 ≤ k ∧ k ≤ 15
  · unfold formOf at h
    rw [if_pos hc] at h
    injection h with h
    subst h
    have a1 := once_rep .n k.toNat (by intro h; cases h)
    have a2 := once_rep .t k.toNat (by intro h; cases h)
    exact ⟨⟨fun _ => a1.2, a1.1⟩, ⟨(fun e => by cases e), a2.1⟩⟩
  · rw [form_off hc] at h
    revert h
    unfold formTab
    repeat (refine ite_impl (fun h => by injection h with h; subst h; simp [once]) ?_)
    intro h
    cases h
theorem snoc_ind {α : Type} {P : List α → Prop} (h0 : P []) (hs : ∀ l x, P l → P (l ++ [x])) (l : List α) : P l := by
  rw [← List.reverse_reverse l]
  induction l.reverse with
  | nil => exact h0
  | cons x r ih => rw [List.reverse_cons]; exact hs _ _ ih
theorem run_canon (op : List UInt8) (l : List (Kd × List UInt8)) : ∀ c' : Cm, runW op l = some (c', 0) → once .n (l.map Prod.fst) → once .t (l.map Prod.fst) → c'.op = bs op ∧ ((l.map Prod.fst).filter argK).length = c'.args.length ∧ textsR c' (l.map Prod.fst) c'.args = some (l.map Prod.snd) := by
  refine snoc_ind (P := fun l => ∀ c' : Cm, runW op l = some (c', 0) → once .n (l.map Prod.fst) → once .t (l.map Prod.fst) → c'.op = bs op ∧ ((l.map Prod.fst).filter argK).length = c'.args.length ∧ textsR c' (l.map Prod.fst) c'.args = some (l.map Prod.snd)) ?_ ?_ l
  · intro c' h _ _
    unfold runW at h
    injection h with h
    injection h with h _
    subst h
    exact ⟨rfl, rfl, rfl⟩
  · intro l x ih c' h hn ht
    rw [runW_snoc] at h
    obtain ⟨k, w⟩ := x
    rw [List.map_append] at hn ht ⊢
    obtain ⟨n1, n2⟩ := once_snoc hn
    obtain ⟨t1, t2⟩ := once_snoc ht
    cases hr : runW op l with
    | none => rw [hr] at h; cases h
    | some s =>
      obtain ⟨c1, late1⟩ := s
      rw [hr] at h
      have h0 : (readW k c1 w).2 = 0 ∧ late1 = 0 ∧ (readW k c1 w).1 = c' := by
        unfold stepW at h
        simp only [Option.bind_some] at h
        split at h
        · rename_i he
          injection h with h
          injection h with e1 e2
          exact ⟨he, e2, e1⟩
        · split at h
          · injection h with h
            injection h with _ e2
            cases e2
          · cases h
      obtain ⟨h1, rfl, h2⟩ := h0
      obtain ⟨i1, i2, i3⟩ := ih c1 hr n1 t1
      have hrd : readW k c1 w = (c', 0) := Prod.ext h2 h1
      obtain ⟨r1, r2, r3⟩ := read_word hrd
      refine ⟨r1.trans i1, ?_, ?_⟩
      · rw [List.filter_append, List.length_append, i2]
        cases hk : argK k with
        | true =>
          obtain ⟨z, e, _⟩ := r2 hk
          rw [e]
          simp [hk]
        | false => rw [(r3 hk).1]; simp [hk]
      · rw [List.map_append]
        cases hk : argK k with
        | true =>
          obtain ⟨z, e, e2, e3⟩ := r2 hk
          have hcg : textsR c' (l.map Prod.fst) c1.args = some (l.map Prod.snd) := by
            rw [← i3]
            exact textsR_congr c' c1 _ _ (fun _ => by rw [e]) (fun _ => by rw [e])
          have hargs : c'.args = c1.args ++ [z] := by rw [e]
          rw [hargs]
          refine (textsR_append c' [k] [z] _ _ _ i2 hcg).trans ?_
          rw [textsR_cons, if_pos hk]
          dsimp only
          rw [if_neg e3, e2]
          rfl
        | false =>
          obtain ⟨a1, a2, a3, a4⟩ := r3 hk
          have hcg : textsR c' (l.map Prod.fst) c1.args = some (l.map Prod.snd) := by
            rw [← i3]
            refine textsR_congr c' c1 _ _ (fun hm => a3 ?_) (fun hm => a4 ?_)
            · intro e; exact n2 e hm
            · intro e; exact t2 e hm
          have hargs : c'.args = c1.args ++ [] := by rw [a1, List.append_nil]
          rw [hargs]
          refine (textsR_append c' [k] [] _ _ _ i2 hcg).trans ?_
          rw [textsR_cons, if_neg (by rw [hk]; simp), a2]
          rfl
theorem canon {l : List UInt8} {c : Cm} (h : parseAns l = (c, 0)) : ∃ f ws, formOf c.op.data.toList (c.args.length : Int) = some f ∧ (f.filter argK).length = c.args.length ∧ textsR c f c.args = some ws ∧ l = lineW c ws := by
  unfold parseAns at h
  split at h
  · injection h with _ h; cases h
  · cases hw : wordsOf l with
    | nil => exact absurd hw (words_ne l)
    | cons op r =>
      rw [hw] at h
      cases hf : formOf op ((r.length : Int) - 1) with
      | none => rw [parse_none hf] at h; injection h with _ h; cases h
      | some f =>
        rw [parse_some hf] at h
        split at h
        · injection h with _ h; cases h
        · rename_i hlen
          have hlen : f.length = r.length := Decidable.not_not.1 hlen
          cases hr : runW op (f.zip r) with
          | none => rw [hr] at h; injection h with _ h; cases h
          | some s =>
            obtain ⟨cm, late⟩ := s
            rw [hr] at h
            unfold endW at h
            dsimp only at h
            split at h
            · rename_i hne
              injection h with _ h
              exact absurd h hne
            · rename_i hl0
              have hl0 : late = 0 := Decidable.not_not.1 hl0
              subst hl0
              injection h with h _
              subst h
              have e1 : (f.zip r).map Prod.fst = f := List.map_fst_zip (by omega)
              have e2 : (f.zip r).map Prod.snd = r := List.map_snd_zip (by omega)
              obtain ⟨o1, o2⟩ := once_form hf
              obtain ⟨q1, q2, q3⟩ := run_canon op (f.zip r) cm hr (by rw [e1]; exact o1) (by rw [e1]; exact o2)
              rw [e1] at q2 q3
              rw [e2] at q3
              have hop : cm.op.data.toList = op := by rw [q1]; exact bs_list op
              refine ⟨f, r, ?_, q2, q3, ?_⟩
              · rw [hop, ← q2]
                by_cases hc : op = prodB ∧ 7 ≤ ((r.length : Int) - 1) ∧ ((r.length : Int) - 1) ≤ 15
                · have hf2 := hf
                  unfold formOf at hf2
                  rw [if_pos hc] at hf2
                  injection hf2 with hf2
                  have hfl : (f.filter argK).length = r.length - 1 := by
                    rw [← hf2]
                    rw [List.filter_cons_of_neg (by decide), List.filter_replicate]
                    rw [if_pos (by rfl)]
                    simp
                  rw [hfl, show ((r.length - 1 : Nat) : Int) = (r.length : Int) - 1 by omega]
                  exact hf
                · have hf2 := hf
                  rw [form_off hc] at hf2
                  rw [form_off (fun h => ?_)]
                  · exact hf2
                  · rw [h.1] at hf2
                    exact absurd hf2 (by simp [formTab, prodB])
              · unfold lineW
                rw [hop, ← hw, words_join]
/-- A line that is read as just this command. -/
def Wr1 (c : Cm) (L : List UInt8) : Prop := (parseAns L).2 = 0 ∧ sameC (parseAns L).1 c
theorem canon2 {c : Cm} {L : List UInt8} (h : Wr1 c L) : ∃ f ws, formOf c.op.data.toList (c.args.length : Int) = some f ∧ textsR c f c.args = some ws ∧ L = lineW c ws := by
  obtain ⟨h1, h2, h3, h4, h5⟩ := h
  have e : parseAns L = (c, 0) := by
    generalize parseAns L = P at *
    obtain ⟨⟨a, b, d, e⟩, er⟩ := P
    obtain ⟨a', b', d', e'⟩ := c
    dsimp only at *
    subst h1 h2 h3 h4 h5
    rfl
  obtain ⟨f, ws, a1, _, a3, a4⟩ := canon e
  exact ⟨f, ws, a1, a3, a4⟩
theorem wr_uni {c : Cm} {L M : List UInt8} (h1 : Wr1 c L) (h2 : Wr1 c M) : L = M := by
  obtain ⟨f, ws, a1, a2, a3⟩ := canon2 h1
  obtain ⟨g, vs, b1, b2, b3⟩ := canon2 h2
  rw [a1] at b1
  injection b1 with b1
  subst b1
  rw [a2] at b2
  injection b2 with b2
  subst b2
  rw [a3, b3]
/-- What a writer answers. -/
def WSays (c : Cm) (x : ByteArray) (er : Int) : Prop := (er = 0 ∧ ∃ L, x = bs L ∧ Wr1 c L) ∨ (er = 7 ∧ x = ⟨#[]⟩ ∧ ∀ L, ¬ Wr1 c L)
theorem says_uni {c : Cm} {x y : ByteArray} {e g : Int} (h1 : WSays c x e) (h2 : WSays c y g) : x = y ∧ e = g := by
  rcases h1 with ⟨rfl, L, rfl, hL⟩ | ⟨rfl, rfl, hn⟩
  · rcases h2 with ⟨rfl, M, rfl, hM⟩ | ⟨rfl, rfl, hn⟩
    · rw [wr_uni hL hM]; exact ⟨rfl, rfl⟩
    · exact absurd hL (hn L)
  · rcases h2 with ⟨rfl, M, rfl, hM⟩ | ⟨rfl, rfl, _⟩
    · exact absurd hM (hn M)
    · exact ⟨rfl, rfl⟩
theorem progW_says (c : Cm) : WSays c (progW c).1 (progW c).2 := by
  unfold progW
  cases hf : formOf c.op.data.toList (c.args.length : Int) with
  | none =>
    rw [progK_none hf]
    exact .inr ⟨rfl, rfl, fun L h => by
      obtain ⟨f, ws, a1, _⟩ := canon2 h
      rw [hf] at a1; cases a1⟩
  | some f =>
    cases ht : textsC c f c.args with
    | none =>
      rw [progK_lack hf ht]
      exact .inr ⟨rfl, rfl, fun L h => by
        obtain ⟨g, ws, a1, a2, _⟩ := canon2 h
        rw [hf] at a1
        injection a1 with a1
        subst a1
        rw [textsR_C _ _ _ _ a2] at ht
        cases ht⟩
    | some ws =>
      by_cases h3 : Wr1 c (lineW c ws)
      · rw [progK_good hf ht h3.1 h3.2]
        exact .inl ⟨rfl, _, rfl, h3⟩
      · rw [progK_bad hf ht h3]
        exact .inr ⟨rfl, rfl, fun L h => by
          obtain ⟨g, vs, a1, a2, a3⟩ := canon2 h
          rw [hf] at a1
          injection a1 with a1
          subst a1
          rw [textsR_C _ _ _ _ a2] at ht
          injection ht with ht
          subst ht
          exact h3 (a3 ▸ h)⟩
/-- What is read is written as it was. -/
theorem progW_back {L : List UInt8} {c : Cm} (h : parseAns L = (c, 0)) : progW c = (bs L, 0) := by
  have hW : Wr1 c L := ⟨by rw [h], by rw [h]; exact ⟨rfl, rfl, rfl, rfl⟩⟩
  have := says_uni (progW_says c) (.inl ⟨rfl, L, rfl, hW⟩ : WSays c (bs L) 0)
  exact Prod.ext this.1 this.2
end Go.Proofs.YthlgjbmkealjjaaGreatDoor
