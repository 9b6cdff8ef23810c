/-
  Joined texts: AcNm AcNr AcP Struct AcD AcQ. No statement is proved here.
-/
import Derived.Shelf.GgClosure.StringsIndexFuncTop
import Derived.Test.YtcbopgopegphlaaGreatLib
import Derived.Test.YtcbopgopegphlaaGreatProg
import Derived.Laws.RangeAny
import Derived.Test.YtcbopgopegphlaaGreatAmA
import Derived.Test.YtcbopgopegphlaaGreatCivB
import Derived.Great.BuildSlice
import Derived.Deep.WholeRow
import Derived.Deep.Cut
import Derived.Deep.DeepCutAuto
import Derived.Laws.EntriesVeiled
import Derived.Deep.RegionHeld3
namespace Go.Proofs.YtcbopgopegphlaaGreat
open Go.RowKit Go.Lib Go.Shelf
set_option linter.unusedVariables false

def contains_ren : Go.Shelf.Ren := ⟨fun | 17 => 49 | 15 => 69 | 20 => 102 | n => n, fun | 9 => 9 | 23 => 100 | 4 => 4 | 3 => 3 | 0 => 0 | 21 => 21 | n => n, fun | n => n⟩
theorem contains_lays : Go.Proofs.LaysGw.n17 Tryz.prog contains_ren := {
  mixed := by kernel_rfl
  f15 := Tryz.func69.trans (congrArg some (by kernel_rfl))
  f17 := Tryz.func49.trans (congrArg some (by kernel_rfl))
  f20 := Tryz.func102.trans (congrArg some (by kernel_rfl))
  t0 := Tryz.underlying0
  a0 := Tryz.isAgg0
  z0 := Tryz.sizeOf0
  v0 := Tryz.zeroValue0
  i0 := by kernel_rfl
  t3 := Tryz.underlying3
  a3 := Tryz.isAgg3
  z3 := Tryz.sizeOf3
  v3 := Tryz.zeroValue3
  i3 := by kernel_rfl
  t4 := Tryz.underlying4
  a4 := Tryz.isAgg4
  z4 := Tryz.sizeOf4
  v4 := Tryz.zeroValue4
  i4 := by kernel_rfl
  t9 := Tryz.underlying9
  a9 := Tryz.isAgg9
  z9 := Tryz.sizeOf9
  v9 := Tryz.zeroValue9
  i9 := by kernel_rfl
  t21 := Tryz.underlying21
  a21 := Tryz.isAgg21
  z21 := Tryz.sizeOf21
  v21 := Tryz.zeroValue21
  i21 := by kernel_rfl
  t23 := Tryz.underlying100
  a23 := Tryz.isAgg100
  z23 := Tryz.sizeOf100
  v23 := Tryz.zeroValue100
  i23 := by kernel_rfl }
theorem containsFunc_any (g : Nat) (lb : Array Value) (eg : ∀ args w, (callFunc g args).run Tryz.prog w = .ok (.enter g args) w) (p : Nat → Bool) (s : ByteArray) (w : World) (hp : PredAt Tryz.prog g lb encR p w) :
    Calls Tryz.prog 49 #[.string s, .func (.func g) #[] lb] w fun e w' => e = .returned (.bool (decide (0 ≤ Lib.idxFunc p true s))) ∧ Below w.heap.size w w' := Any.strings_ContainsFunc contains_lays g lb eg p s w hp

/-- What a name's letters may not be. -/
def notLetter (r : Nat) : Bool := (decide (r < 97) || decide (122 < r)) && (decide (r < 48) || decide (57 < r))
theorem letter_pred (w : World) : PredAt Tryz.prog 50 #[] encR notLetter w := fun W r _ => by
  unfold FnGives notLetter
  by_cases h1 : r < 97 <;> by_cases h2 : 122 < r <;> by_cases h3 : r < 48 <;> by_cases h4 : 57 < r
  all_goals try (exfalso; omega)
  all_goals
    have z1 : ((r : Int) < 97) ↔ r < 97 := by omega
    have z2 : ((122 : Int) < (r : Int)) ↔ 122 < r := by omega
    have z3 : ((r : Int) < 48) ↔ r < 48 := by omega
    have z4 : ((57 : Int) < (r : Int)) ↔ 57 < r := by omega
    go_enter Tryz.func50, Tryz.ntmps50
    go_wp2
    all_goals (go_ret; exact ⟨by simp [h1, h2, h3, h4], 0, rfl⟩)
/-- A name: one to twelve bytes, letters and digits. -/
def nameOk (s : ByteArray) : Bool := !s.toList.isEmpty && (decide (s.size ≤ 12) && !decide (0 ≤ Lib.idxFunc notLetter true s))
set_option maxRecDepth 100000 in
set_option maxHeartbeats 2000000 in
theorem Name_any (s : ByteArray) (w : World) :
    Calls Tryz.prog 35 #[.string s] w fun e w' => e = .returned (.bool (nameOk s)) ∧ Below w.heap.size w w' := by
  have hC := Lib.hid (fun W => containsFunc_any 50 #[] (enters_of Tryz.func50 (by kernel_rfl) rfl) notLetter s W (letter_pred W))
  unfold nameOk
  cases hb : s.toList.isEmpty with
  | true =>
    go_enter Tryz.func35, Tryz.ntmps35
    go_wp2_with fail
    go_ret
    exact ⟨by simp, Below.refl _ _⟩
  | false =>
    by_cases h12 : s.size ≤ 12
    · rw [decide_eq_true h12]
      generalize decide (0 ≤ Lib.idxFunc notLetter true s) = d at *
      go_enter Tryz.func35, Tryz.ntmps35
      go_wp2_with fail
      refine (hC.out _).mono ?_
      rintro e w' ⟨rfl, hb'⟩
      cases d
      all_goals
        go_wp2
        go_ret
        exact ⟨rfl, hb'⟩
    · rw [decide_eq_false h12]
      go_enter Tryz.func35, Tryz.ntmps35
      go_wp2_with fail
      go_ret
      exact ⟨by simp, Below.refl _ _⟩
theorem name_a : nameOk ⟨#[97]⟩ = true := by kernel_rfl
end Go.Proofs.YtcbopgopegphlaaGreat

namespace Go.Proofs.YtcbopgopegphlaaGreat
open Go.RowKit
set_option linter.unusedVariables false

def letB (b : UInt8) : Bool := (decide (97 ≤ b.toNat) && decide (b.toNat ≤ 122)) || (decide (48 ≤ b.toNat) && decide (b.toNat ≤ 57))
theorem idx_all (s : ByteArray) : ∀ f pos, s.size ≤ pos + f → (Lib.idxFuncFrom notLetter true s f pos < 0 ↔ ∀ i (h : i < s.size), pos ≤ i → letB (s[i]'h) = true)
  | 0, pos, hf => by
    constructor
    · intro _ i h hp
      omega
    · intro _
      show (-1 : Int) < 0
      omega
  | f + 1, pos, hf => by
    unfold Lib.idxFuncFrom
    by_cases hp : pos < s.size
    · rw [if_pos hp]
      by_cases ha : (s[pos]'hp).toNat < 128
      · rw [decode_ascii s pos hp ha]
        dsimp only
        by_cases hl : letB (s[pos]'hp) = true
        · have hn : ¬ notLetter (s[pos]'hp).toNat = true := by
            unfold notLetter
            unfold letB at hl
            simp at hl ⊢
            omega
          rw [if_neg hn, idx_all s f (pos + 1) (by omega)]
          constructor
          · intro h i hi hpi
            rcases Nat.eq_or_lt_of_le hpi with e | e
            · subst e; exact hl
            · exact h i hi e
          · intro h i hi hpi
            exact h i hi (by omega)
        · have hn : notLetter (s[pos]'hp).toNat = true := by
            unfold notLetter
            unfold letB at hl
            simp at hl ⊢
            omega
          rw [if_pos hn]
          constructor
          · intro h
            omega
          · intro h
            exact absurd (h pos hp (Nat.le_refl _)) hl
      · obtain ⟨h1, _⟩ := decode_high s pos hp (by omega)
        have hn : notLetter (Utf8.decode s pos).1 = true := by
          unfold notLetter
          simp
          omega
        rw [if_pos hn]
        constructor
        · intro h
          omega
        · intro h
          have h2 := h pos hp (Nat.le_refl _)
          unfold letB at h2
          simp at h2
          omega
    · rw [if_neg hp]
      constructor
      · intro _ i h hpi
        omega
      · intro _
        omega
theorem name_bytes (s : ByteArray) : nameOk s = true ↔ (∀ i (h : i < s.size), letB (s[i]'h) = true) ∧ 1 ≤ s.size ∧ s.size ≤ 12 := by
  have h0 := idx_all s s.size 0 (by omega)
  have hl : s.toList.length = s.size := by rw [ByteArray.toList_eq]; simp
  have he : s.toList.isEmpty = decide (s.size = 0) := by
    rw [← hl]
    cases s.toList <;> simp
  unfold nameOk Lib.idxFunc
  rw [he]
  simp only [Bool.and_eq_true, Bool.not_eq_true', decide_eq_false_iff_not, decide_eq_true_eq]
  constructor
  · rintro ⟨h1, h2, h3⟩
    exact ⟨fun i h => (h0.1 (by omega)) i h (Nat.zero_le _), by omega, h2⟩
  · rintro ⟨h1, h2, h3⟩
    have := h0.2 (fun i h _ => h1 i h)
    exact ⟨by omega, h3, by omega⟩
set_option maxRecDepth 100000 in
set_option maxHeartbeats 2000000 in
theorem refLoan_any (s : ByteArray) (w : World) (hs : s.size ≤ 9223372036854775806) :
    Calls Tryz.prog 19 #[.string s] w fun e w' => e = .returned (.bool (nameOk s)) ∧ w = w' := by
  have HN := Lib.hid (name_bytes s)
  generalize nameOk s = R at *
  go_enter Tryz.func19, Tryz.ntmps19
  go_wp2_with fail
  go_loopw [3] (fun t wr => ∃ k : Nat, k ≤ s.size ∧ t = .int .i64 k ∧ Hid (∀ i (h : i < s.size), i < k → letB (s[i]'h) = true) ∧ wr = w) (fun t _ => s.size - (intOf t).toNat)
  case atStart => exact ⟨0, Nat.zero_le _, rfl, Lib.hid (fun i h h0 => by omega), rfl⟩
  case round =>
    obtain ⟨k, hk, rfl, HP, rfl⟩ := hrel
    by_cases h1 : k < s.size
    · have HL : Hid (letB (s[k]'h1) = true → ∀ i (h : i < s.size), i < k + 1 → letB (s[i]'h) = true) := Lib.hid fun hl i h hi => by
        by_cases e : i = k
        · subst e; exact hl
        · exact HP.out i h (by omega)
      have HB : Hid (letB (s[k]'h1) = false → R = false) := Lib.hid fun hl => by
        cases hR : R
        · rfl
        · have := (HN.out.1 hR).1 k h1
          rw [hl] at this
          cases this
      have hx8 := (s[k]'h1).toNat_lt
      generalize hx : s[k]'h1 = x at *
      by_cases hl : letB x = true
      · have HL2 := Lib.hid (HL.out hl)
        have hl2 : (97 ≤ x.toNat ∧ x.toNat ≤ 122) ∨ (48 ≤ x.toNat ∧ x.toNat ≤ 57) := by unfold letB at hl; simpa using hl
        clear HL HB HP hl
        by_cases ha : 97 ≤ x.toNat ∧ x.toNat ≤ 122
        · obtain ⟨a1, a2⟩ := ha
          clear hl2
          go_wp2
          go_roundw
          case rel => exact ⟨k + 1, by omega, by go_num, HL2, by first | trivial | rfl⟩
          case measure => (try simp [intOf]) <;> (try omega)
        · obtain ⟨b1, b2⟩ := hl2.resolve_left ha
          have j1 : (48 : Int) ≤ (x.toNat : Int) := by omega
          have j2 : (x.toNat : Int) ≤ 57 := by omega
          have i1 : ¬ (97 : Int) ≤ (x.toNat : Int) := by omega
          clear hl2 ha b1 b2
          go_wp2
          go_roundw
          case rel => exact ⟨k + 1, by omega, by go_num, HL2, by first | trivial | rfl⟩
          case measure => (try simp [intOf]) <;> (try omega)
      · have hl0 : letB x = false := by simpa using hl
        obtain rfl := HB.out hl0
        have hl2 : ¬ ((97 ≤ x.toNat ∧ x.toNat ≤ 122) ∨ (48 ≤ x.toNat ∧ x.toNat ≤ 57)) := by unfold letB at hl; simpa using hl
        clear HL HB HP hl hl0 HN
        by_cases a1 : 97 ≤ x.toNat
        · have i1 : (97 : Int) ≤ (x.toNat : Int) := by omega
          have i2 : ¬ (x.toNat : Int) ≤ 122 := by omega
          have j1 : (48 : Int) ≤ (x.toNat : Int) := by omega
          have j2 : ¬ (x.toNat : Int) ≤ 57 := by omega
          clear hl2 a1
          go_wp2
          go_ret
          exact ⟨rfl, rfl⟩
        · by_cases b1 : 48 ≤ x.toNat
          · have i1 : ¬ (97 : Int) ≤ (x.toNat : Int) := by omega
            have j1 : (48 : Int) ≤ (x.toNat : Int) := by omega
            have j2 : ¬ (x.toNat : Int) ≤ 57 := by omega
            clear hl2 a1 b1
            go_wp2
            go_ret
            exact ⟨rfl, rfl⟩
          · have i1 : ¬ (97 : Int) ≤ (x.toNat : Int) := by omega
            have j1 : ¬ (48 : Int) ≤ (x.toNat : Int) := by omega
            clear hl2 a1 b1
            go_wp2
            go_ret
            exact ⟨rfl, rfl⟩
    · have HA : Hid (∀ i (h : i < s.size), letB (s[i]'h) = true) := Lib.hid fun i h => HP.out i h (by omega)
      by_cases g1 : 1 ≤ s.size
      · by_cases g2 : s.size ≤ 12
        · obtain rfl : R = true := HN.out.2 ⟨HA.out, g1, g2⟩
          go_wp2
          go_ret
          exact ⟨by first | rfl | (simp; done) | (simp; omega), rfl⟩
        · obtain rfl : R = false := by
            cases hR : R
            · rfl
            · exact absurd (HN.out.1 hR).2.2 g2
          go_wp2
          go_ret
          exact ⟨by first | rfl | (simp; done) | (simp; omega), rfl⟩
      · obtain rfl : R = false := by
          cases hR : R
          · rfl
          · exact absurd (HN.out.1 hR).2.1 g1
        go_wp2
        go_ret
        exact ⟨by first | rfl | (simp; done) | (simp; omega), rfl⟩
theorem refGood_any (d : Int) (w : World) :
    Calls Tryz.prog 38 #[.int .i64 d] w fun e w' => e = .returned (.bool (decide (-719162 ≤ d ∧ d ≤ 2932896))) ∧ w = w' := by
  by_cases h1 : -719162 ≤ d
  · by_cases h2 : d ≤ 2932896
    · have e : decide (-719162 ≤ d ∧ d ≤ 2932896) = true := decide_eq_true ⟨h1, h2⟩
      rw [e]
      go_enter Tryz.func38, Tryz.ntmps38
      go_wp2
      go_ret
      exact ⟨rfl, rfl⟩
    · have e : decide (-719162 ≤ d ∧ d ≤ 2932896) = false := decide_eq_false fun h => h2 h.2
      rw [e]
      go_enter Tryz.func38, Tryz.ntmps38
      go_wp2
      go_ret
      exact ⟨rfl, rfl⟩
  · have e : decide (-719162 ≤ d ∧ d ≤ 2932896) = false := decide_eq_false fun h => h1 h.1
    rw [e]
    go_enter Tryz.func38, Tryz.ntmps38
    go_wp2
    go_ret
    exact ⟨rfl, rfl⟩
end Go.Proofs.YtcbopgopegphlaaGreat

namespace Go.Proofs.YtcbopgopegphlaaGreat
set_option linter.unusedVariables false

/-- A loan's state. -/
structure St where
  day : Int
  rate : Int
  p : Int
  i : Int
  f : Int
  c : Int
  o : Int
  n : Int
  a : Int
  ch : Int
  late : Int
  bk : Int
def stCells (s : St) : Array Value := #[.int .i64 s.day, .int .i64 s.rate, .int .i64 s.p, .int .i64 s.i, .int .i64 s.f, .int .i64 s.c, .int .i64 s.o, .int .i64 s.n, .int .i64 s.a, .int .i64 s.ch, .int .i64 s.late, .int .i64 s.bk]
def St.val (s : St) : Value := .agg (stCells s)
def St.zero : St := ⟨0, 0, 0, 0, 0, 0, 0, 0, 0, 0, 0, 0⟩
structure Prod where
  name : ByteArray
  rate : Int
  conv : Int
  step : Int
  count : Int
  o1 : Int
  o2 : Int
  o3 : Int
  bounds : List Int
structure Ev where
  seq : Int
  loan : ByteArray
  day : Int
  kind : Int
  amount : Int
  ref : Int
/-- Bounds that rise. -/
def risesFrom : Int → List Int → Prop
  | _, [] => True
  | a, b :: l => a < b ∧ b ≤ 100000 ∧ risesFrom b l
def orderOk (a b c : Int) : Prop := ∀ k : Int, 1 ≤ k → k ≤ 3 → a = k ∨ b = k ∨ c = k
structure Prod.Ok (p : Prod) : Prop where
  name : nameOk p.name = true
  rate0 : 0 ≤ p.rate
  rate1 : p.rate ≤ 1000000000
  conv0 : 1 ≤ p.conv
  conv1 : p.conv ≤ 3
  step0 : 1 ≤ p.step
  step1 : p.step ≤ 120
  count0 : 1 ≤ p.count
  count1 : p.count ≤ 480
  order : orderOk p.o1 p.o2 p.o3
  len : p.bounds.length ≤ 8
  rises : risesFrom 0 p.bounds
noncomputable instance (p : Prod) : Decidable p.Ok := Classical.propDecidable _
structure Ev.Ok (e : Ev) : Prop where
  loan : nameOk e.loan = true
  day0 : -719162 ≤ e.day
  day1 : e.day ≤ 2932896
  amount : (e.kind = 1 ∨ e.kind = 2 ∨ e.kind = 4) ∧ 1 ≤ e.amount ∧ e.amount ≤ 1000000000000000 ∨ e.kind = 3 ∧ 0 ≤ e.amount ∧ e.amount ≤ 1000000000 ∨ e.kind = 5 ∧ e.amount = 0
  seq0 : 0 ≤ e.seq
  seq1 : e.seq ≤ 1099511627776
  ref : e.kind = 5 ∧ 1 ≤ e.ref ∨ e.kind ≠ 5 ∧ e.ref = 0
noncomputable instance (e : Ev) : Decidable e.Ok := Classical.propDecidable _
def before (a b : Ev) : Prop := a.day < b.day ∨ a.day = b.day ∧ a.seq < b.seq
/-- Events that may be replayed. -/
def EvsOk (l : List Ev) : Prop := ∀ i (h : i < l.length), l[i].Ok ∧ l[i].kind ≠ 5 ∧ ∀ (h0 : 0 < i), before l[i - 1] l[i]
noncomputable instance (l : List Ev) : Decidable (EvsOk l) := Classical.propDecidable _

/-- The days between two days, and of how many a year consists. -/
def thirtyOf (y1 m1 d1 y2 m2 d2 : Nat) : Int := 360 * ((y2 : Int) - y1) + 30 * ((m2 : Int) - m1) + (if 30 ≤ d1 then ((min d2 30 : Nat) : Int) else d2) - ((min d1 30 : Nat) : Int)
open Classical in
noncomputable def partsOf (d : Int) : Nat × Nat × Nat := if h : ∃ x : Nat × Nat × Nat, Valid x.1 x.2.1 x.2.2 ∧ dayOf x.1 x.2.1 x.2.2 = d then h.choose else (1, 1, 1)
theorem partsOf_eq {y m a : Nat} {d : Int} (h : Valid y m a) (hd : dayOf y m a = d) : partsOf d = (y, m, a) := by
  have hex : ∃ x : Nat × Nat × Nat, Valid x.1 x.2.1 x.2.2 ∧ dayOf x.1 x.2.1 x.2.2 = d := ⟨(y, m, a), h, hd⟩
  unfold partsOf
  rw [dif_pos hex]
  obtain ⟨h1, h2⟩ := hex.choose_spec
  obtain ⟨e1, e2, e3⟩ := dayOf_inj h1 h (h2.trans hd.symm)
  exact Prod.ext e1 (Prod.ext e2 e3)
noncomputable def addDay (d k : Int) : Int × Int := addAt (partsOf d).1 (partsOf d).2.1 (partsOf d).2.2 k
noncomputable def countOf (conv from_ to_ : Int) : Int × Int :=
  if conv = 1 then (thirtyOf (partsOf from_).1 (partsOf from_).2.1 (partsOf from_).2.2 (partsOf to_).1 (partsOf to_).2.1 (partsOf to_).2.2, 360)
  else if conv = 2 then (to_ - from_, 360) else (to_ - from_, 365)

/-- How late: the first due day by which too little was repaid. -/
noncomputable def lateFrom (p : Prod) (first out repaid v : Int) : Nat → Nat → Int
  | 0, _ => 0
  | n + 1, k =>
    if (addDay first ((k : Int) * p.step)).2 ≠ 0 ∨ v ≤ (addDay first ((k : Int) * p.step)).1 then 0
    else if repaid < (mulDivOf out k p.count).1 then v - (addDay first ((k : Int) * p.step)).1
    else lateFrom p first out repaid v n (k + 1)
noncomputable def lateOf (p : Prod) (first out repaid v : Int) : Int := lateFrom p first out repaid v p.count.toNat 1
def bucketOf (p : Prod) (late : Int) : Nat := p.bounds.countP fun b => decide (b ≤ late)
/-- What Late answers. -/
noncomputable def lateAns (p : Prod) (first out repaid v : Int) : Int × Int × Int :=
  if ¬ p.Ok then (0, 0, 50)
  else if ¬ (-719162 ≤ first ∧ first ≤ 2932896) ∨ ¬ (-719162 ≤ v ∧ v ≤ 2932896) then (0, 0, 6)
  else if ¬ (0 ≤ out ∧ out ≤ 1000000000000000) ∨ ¬ (0 ≤ repaid ∧ repaid ≤ 1000000000000000) then (0, 0, 2)
  else (lateOf p first out repaid v, (bucketOf p (lateOf p first out repaid v) : Nat), 0)

/-- A loan on its way. -/
structure Ln where
  s : St
  first : Int
  began : Bool
  lent : Bool
def Ln.start (p : Prod) : Ln := ⟨⟨0, p.rate, 0, 0, 0, 0, 0, 0, 0, 0, 0, 0⟩, 0, false, false⟩
/-- Interest up to a day. -/
noncomputable def accr (conv : Int) (s : St) (to_ : Int) : Option St :=
  if (interestOf s.p s.rate (countOf conv s.day to_).1 (countOf conv s.day to_).2).2 ≠ 0 ∨ 1000000000000000 - s.a < (interestOf s.p s.rate (countOf conv s.day to_).1 (countOf conv s.day to_).2).1 then none
  else some { s with i := s.i + (interestOf s.p s.rate (countOf conv s.day to_).1 (countOf conv s.day to_).2).1, a := s.a + (interestOf s.p s.rate (countOf conv s.day to_).1 (countOf conv s.day to_).2).1, day := to_ }
noncomputable def toDay (conv : Int) (L : Ln) (d : Int) : Option Ln := if L.began = false ∨ d ≤ L.s.day then some L else (accr conv L.s d).map fun s => { L with s := s }
def addEv (s : St) (e : Ev) : St :=
  if e.kind = 1 then { s with p := s.p + e.amount, o := s.o + e.amount }
  else if e.kind = 2 then { s with c := s.c + e.amount, n := s.n + e.amount }
  else if e.kind = 4 then { s with f := s.f + e.amount, ch := s.ch + e.amount }
  else if e.kind = 3 then { s with rate := e.amount } else s
def over (s : St) : Prop := 1000000000000000 < s.o ∨ 1000000000000000 < s.n ∨ 1000000000000000 < s.ch
instance (s : St) : Decidable (over s) := by unfold over; infer_instance
def spend1 (s : St) (k : Int) : St :=
  if k = 1 then { s with f := s.f - min s.c s.f, c := s.c - min s.c s.f }
  else if k = 2 then { s with i := s.i - min s.c s.i, c := s.c - min s.c s.i }
  else if k = 3 then { s with p := s.p - min s.c s.p, c := s.c - min s.c s.p } else s
def spendAll (p : Prod) (s : St) : St := spend1 (spend1 (spend1 s p.o1) p.o2) p.o3
noncomputable def evStep (p : Prod) (L : Ln) (e : Ev) : Option Ln :=
  match toDay p.conv L e.day with
  | none => none
  | some M =>
    if over (addEv { M.s with day := e.day } e) then none
    else some ⟨spendAll p (addEv { M.s with day := e.day } e), if e.kind = 1 ∧ M.lent = false then e.day else M.first, true, if e.kind = 1 then true else M.lent⟩
/-- The events up to a day. -/
noncomputable def evRun (p : Prod) (v : Int) : Ln → List Ev → Option Ln
  | L, [] => some L
  | L, e :: l => if v < e.day then some L else match evStep p L e with | none => none | some M => evRun p v M l
noncomputable def endOf (p : Prod) (L : Ln) (v : Int) : Option St :=
  match toDay p.conv L v with
  | none => none
  | some M => some (if M.lent then { M.s with day := v, late := lateOf p M.first M.s.o (M.s.o - M.s.p) v, bk := (bucketOf p (lateOf p M.first M.s.o (M.s.o - M.s.p) v) : Nat) } else { M.s with day := v })
/-- What Replay answers. -/
noncomputable def replayAns (p : Prod) (l : List Ev) (v : Int) : St × Int :=
  if ¬ p.Ok then (.zero, 50)
  else if ¬ (-719162 ≤ v ∧ v ≤ 2932896) then (.zero, 6)
  else if 4096 < l.length then (.zero, 3)
  else if ¬ EvsOk l then (.zero, 52)
  else match evRun p v (Ln.start p) l with
    | none => (.zero, 4)
    | some L => match endOf p L v with | none => (.zero, 4) | some s => (s, 0)
end Go.Proofs.YtcbopgopegphlaaGreat

namespace Go.Proofs.YtcbopgopegphlaaGreat
open Go.RowKit
set_option linter.unusedVariables false
section
variable {P : Program}

/-- An operation that yields a value by a run that is known. -/
theorem run_to {ops : Array Oper} {rest : List Oper} {o : Oper} {a : Act} {w : World} {Q : Exit → Act → World → Prop} (hg : o.guard = none) (dst : Option Tmp) (hdst : o.dst = dst)
    (v : Value) (w' : World) (hrun : (execOp a.eval o).run P w = .ok (.value v) w')
    (h : wpList P ops Q rest (a.put dst v) w') : wpList P ops Q (o :: rest) a w := by
  subst hdst
  refine wpList_plain hg fun K hK => ?_
  unfold Oper.wp
  rw [hrun, Oper.upon_value]
  exact hK _ _ h
/-- A variable is made, and a whole value laid into it. -/
theorem alloc_store {ops : Array Oper} {rest : List Oper} {o1 o2 : Oper} {a : Act} {w : World} {Q : Exit → Act → World → Prop} (hg1 : o1.guard = none) (hg2 : o2.guard = none)
    (t : TypeId) (d : Tmp) (y : Operand) (ho1 : o1.op = .alloc t) (hd1 : o1.dst = some d) (ho2 : o2.op = .store t (.tmp d) y) (hd2 : o2.dst = none) (cells : Array Value)
    (hx : (a.put (some d) (.pointer (some ⟨w.heap.size, 0, none⟩))).eval (.tmp d) = .pointer (some ⟨w.heap.size, 0, none⟩)) (hy : (a.put (some d) (.pointer (some ⟨w.heap.size, 0, none⟩))).eval y = .agg cells)
    (hz : ((P.info? t).bind (·.zero)).map (·.cells.size) = some cells.size) (hi : (P.info? t).map (·.size) = some cells.size) (h1 : cells.all (·.oneCell') = true)
    (h : wpList P ops Q rest (a.put (some d) (.pointer (some ⟨w.heap.size, 0, none⟩))) (w.alloc (.cells cells t))) : wpList P ops Q (o1 :: o2 :: rest) a w := by
  cases hq : P.info? t with
  | none => rw [hq] at hz; simp at hz
  | some it =>
    rw [hq] at hz
    cases hzz : it.zero with
    | none => simp [hzz] at hz
    | some z =>
      simp only [Option.bind_some, hzz, Option.map_some, Option.some.injEq] at hz
      refine run_to hg1 (some d) hd1 (.pointer (some ⟨w.heap.size, 0, none⟩)) (w.alloc (.cells z.cells t)) ?_ ?_
      · simp [execOp, ho1, Instr.alloc, zeroValue, typeInfo, hq, hzz, newVar, newRow]
      · refine wpList_store_rowTo hg2 t (.tmp d) y ho2 hd2 w.heap.size cells hx hy t z.cells (heap_alloc_last _ _) (by rw [hq] at hi ⊢; exact hi) hz h1 ?_
        rw [World.setRow_alloc_new]
        exact h
/-- A part of a whole value by its index. -/
theorem index_to {ops : Array Oper} {rest : List Oper} {o : Oper} {a : Act} {w : World} {Q : Exit → Act → World → Prop} (hg : o.guard = none) (dst : Option Tmp) (hdst : o.dst = dst)
    (ty : TypeId) (x i : Operand) (ho : o.op = .index ty x i) (X I v : Value) (hx : a.eval x = X) (hi : a.eval i = I) (hrun : (Instr.index ty X I).run P w = .ok v w)
    (h : wpList P ops Q rest (a.put dst v) w) : wpList P ops Q (o :: rest) a w :=
  run_to hg dst hdst v w (by simp [execOp, ho, hx, hi, hrun]) h
end
end Go.Proofs.YtcbopgopegphlaaGreat

namespace Go.Proofs.YtcbopgopegphlaaGreat
open Go.RowKit
set_option linter.unusedVariables false

theorem Split_parts (d : Int) (w : World) (h0 : -719162 ≤ d) (h1 : d ≤ 2932896) :
    Calls Tryz.prog 97 #[.int .i64 d] w fun e w' => e = .returned (.tuple #[.int .i64 ((partsOf d).1 : Nat), .int .i64 ((partsOf d).2.1 : Nat), .int .i64 ((partsOf d).2.2 : Nat), .int .i64 0]) ∧ w = w' := by
  refine (Split_in d w h0 h1).mono ?_
  rintro e w' ⟨⟨y, m, a, rfl, hv, hd⟩, rfl⟩
  rw [partsOf_eq hv hd]
  exact ⟨rfl, rfl⟩
theorem refSplit_parts (d : Int) (w : World) (h0 : -719162 ≤ d) (h1 : d ≤ 2932896) :
    Calls Tryz.prog 81 #[.int .i64 d] w fun e w' => e = .returned (.tuple #[.int .i64 ((partsOf d).1 : Nat), .int .i64 ((partsOf d).2.1 : Nat), .int .i64 ((partsOf d).2.2 : Nat), .int .i64 0]) ∧ w = w' := by
  refine (refSplit_in d w h0 h1).mono ?_
  rintro e w' ⟨⟨y, m, a, rfl, hv, hd⟩, rfl⟩
  rw [partsOf_eq hv hd]
  exact ⟨rfl, rfl⟩
/-- Every day in range has its parts. -/
theorem parts_valid (d : Int) (h0 : -719162 ≤ d) (h1 : d ≤ 2932896) : Valid (partsOf d).1 (partsOf d).2.1 (partsOf d).2.2 ∧ dayOf (partsOf d).1 (partsOf d).2.1 (partsOf d).2.2 = d := by
  obtain ⟨e, w', fr, ⟨⟨y, m, a, _, hv, hd⟩, _⟩, _⟩ := Split_in d default h0 h1 []
  rw [partsOf_eq hv hd]
  exact ⟨hv, hd⟩
theorem Valid.sizes {y m a : Nat} (h : Valid y m a) : 1 ≤ y ∧ y ≤ 9999 ∧ 1 ≤ m ∧ m ≤ 12 ∧ 1 ≤ a ∧ a ≤ 31 := by
  obtain ⟨h1, h2, h3, h4, h5, h6⟩ := h
  have := (dim_le y m).2
  exact ⟨h1, h2, h3, h4, h5, by omega⟩

set_option maxRecDepth 100000 in
set_option maxHeartbeats 2000000 in
theorem thirty_any (d e : Int) (w : World) (d0 : -719162 ≤ d) (d1 : d ≤ 2932896) (e0 : -719162 ≤ e) (e1 : e ≤ 2932896) :
    Calls Tryz.prog 91 #[.int .i64 d, .int .i64 e] w fun r w' => r = .returned (.int .i64 (countOf 1 d e).1) ∧ w' = w := by
  have S1 := Lib.hid (Split_parts d w d0 d1)
  have S2 := Lib.hid (Split_parts e w e0 e1)
  obtain ⟨a1, a2, a3, a4, a5, a6⟩ := (parts_valid d d0 d1).1.sizes
  obtain ⟨b1, b2, b3, b4, b5, b6⟩ := (parts_valid e e0 e1).1.sizes
  have hc : (countOf 1 d e).1 = thirtyOf (partsOf d).1 (partsOf d).2.1 (partsOf d).2.2 (partsOf e).1 (partsOf e).2.1 (partsOf e).2.2 := rfl
  rw [hc]
  clear hc
  generalize (partsOf d).1 = y at *
  generalize (partsOf d).2.1 = m at *
  generalize (partsOf d).2.2 = a at *
  generalize (partsOf e).1 = z at *
  generalize (partsOf e).2.1 = n at *
  generalize (partsOf e).2.2 = b at *
  by_cases ha : 30 ≤ a
  · have hr : thirtyOf y m a z n b = 360 * ((z : Int) - y) + 30 * ((n : Int) - m) + min (b : Int) 30 - min (a : Int) 30 := by unfold thirtyOf; rw [if_pos ha]; omega
    rw [hr]
    go_enter Tryz.func91, Tryz.ntmps91
    go_wp2_with (first | (with_reducible refine S1.out.mono ?_; rintro r w1 ⟨rfl, rfl⟩) | (with_reducible refine S2.out.mono ?_; rintro r w1 ⟨rfl, rfl⟩))
    go_ret
    exact ⟨rfl, rfl⟩
  · have hr : thirtyOf y m a z n b = 360 * ((z : Int) - y) + 30 * ((n : Int) - m) + b - min (a : Int) 30 := by unfold thirtyOf; rw [if_neg ha]; omega
    rw [hr]
    go_enter Tryz.func91, Tryz.ntmps91
    go_wp2_with (first | (with_reducible refine S1.out.mono ?_; rintro r w1 ⟨rfl, rfl⟩) | (with_reducible refine S2.out.mono ?_; rintro r w1 ⟨rfl, rfl⟩))
    go_ret
    exact ⟨rfl, rfl⟩
theorem actual_any (d e : Int) (w : World) (d0 : -719162 ≤ d) (d1 : d ≤ 2932896) (e0 : -719162 ≤ e) (e1 : e ≤ 2932896) :
    Calls Tryz.prog 92 #[.int .i64 d, .int .i64 e] w fun r w' => r = .returned (.int .i64 (e - d)) ∧ w' = w := by
  go_enter Tryz.func92, Tryz.ntmps92
  go_wp2
  go_ret
  exact ⟨rfl, rfl⟩

/-- Of the world a walk has come to, only some facts are kept. -/
theorem wp_at {P : Program} {c : Code} {Q : Exit → Act → World → Prop} {a : Act} {w : World} (R : World → Prop) (h : R w) (k : ∀ w', R w' → c.wp P Q a w') : c.wp P Q a w := k w h
theorem ret3 {k : IntKind} {a a' : Int} {b c : Value} (h : a = a') : Ending.returned (.tuple #[.int k a, b, c]) = Ending.returned (.tuple #[.int k a', b, c]) := by rw [h]
theorem countOf_one (d e : Int) : (countOf 1 d e) = ((countOf 1 d e).1, 360) := rfl
theorem countOf_two (d e : Int) : (countOf 2 d e) = (e - d, 360) := rfl
theorem countOf_three (d e : Int) : (countOf 3 d e) = (e - d, 365) := rfl
set_option maxRecDepth 100000 in
set_option maxHeartbeats 2000000 in
theorem refCount_any (c d e : Int) (w : World) (c0 : 1 ≤ c) (c1 : c ≤ 3) (d0 : -719162 ≤ d) (d1 : d ≤ 2932896) (e0 : -719162 ≤ e) (e1 : e ≤ 2932896) (hde : d ≤ e) :
    Calls Tryz.prog 53 #[.int .i64 c, .int .i64 d, .int .i64 e] w fun r w' => r = .returned (.tuple #[.int .i64 (countOf c d e).1, .int .i64 (countOf c d e).2, .int .i64 0]) ∧ w' = w := by
  have S1 := Lib.hid (refSplit_parts d w d0 d1)
  have S2 := Lib.hid (refSplit_parts e w e0 e1)
  have G1 := Lib.hid (refGood_any d w)
  have G2 := Lib.hid (refGood_any e w)
  rw [decide_eq_true (show -719162 ≤ d ∧ d ≤ 2932896 from ⟨d0, d1⟩)] at G1
  rw [decide_eq_true (show -719162 ≤ e ∧ e ≤ 2932896 from ⟨e0, e1⟩)] at G2
  rcases (show c = 1 ∨ c = 2 ∨ c = 3 by omega) with rfl | rfl | rfl
  · obtain ⟨a1, a2, a3, a4, a5, a6⟩ := (parts_valid d d0 d1).1.sizes
    obtain ⟨b1, b2, b3, b4, b5, b6⟩ := (parts_valid e e0 e1).1.sizes
    have hc : (countOf 1 d e).1 = thirtyOf (partsOf d).1 (partsOf d).2.1 (partsOf d).2.2 (partsOf e).1 (partsOf e).2.1 (partsOf e).2.2 := rfl
    have hc2 : (countOf 1 d e).2 = 360 := rfl
    rw [hc, hc2]
    clear hc hc2
    generalize (partsOf d).1 = y at *
    generalize (partsOf d).2.1 = m at *
    generalize (partsOf d).2.2 = a at *
    generalize (partsOf e).1 = z at *
    generalize (partsOf e).2.1 = n at *
    generalize (partsOf e).2.2 = b at *
    by_cases ha : a = 31
    all_goals by_cases hb : b = 31
    all_goals by_cases ha2 : a = 30
    all_goals try (exfalso; omega)
    all_goals
      generalize hR : thirtyOf y m a z n b = R
      have HR := Lib.hid hR
      clear hR
      go_enter Tryz.func53, Tryz.ntmps53
      go_wp2_with (first | (with_reducible refine G1.out.mono ?_; rintro r w1 ⟨rfl, rfl⟩) | (with_reducible refine G2.out.mono ?_; rintro r w1 ⟨rfl, rfl⟩) | (with_reducible refine S1.out.mono ?_; rintro r w1 ⟨rfl, rfl⟩) | (with_reducible refine S2.out.mono ?_; rintro r w1 ⟨rfl, rfl⟩))
      go_ret3
      exact ⟨ret3 (by rw [← HR.out]; unfold thirtyOf; split <;> omega), rfl⟩
  all_goals
    go_enter Tryz.func53, Tryz.ntmps53
    go_wp2_with (first | (with_reducible refine G1.out.mono ?_; rintro r w1 ⟨rfl, rfl⟩) | (with_reducible refine G2.out.mono ?_; rintro r w1 ⟨rfl, rfl⟩))
    go_ret3
    exact ⟨rfl, rfl⟩

set_option maxRecDepth 100000 in
set_option maxHeartbeats 2000000 in
theorem Count_any (c d e : Int) (w : World) (c0 : 1 ≤ c) (c1 : c ≤ 3) (d0 : -719162 ≤ d) (d1 : d ≤ 2932896) (e0 : -719162 ≤ e) (e1 : e ≤ 2932896) (hde : d ≤ e) :
    Calls Tryz.prog 60 #[.int .i64 c, .int .i64 d, .int .i64 e] w fun r w' => r = .returned (.tuple #[.int .i64 (countOf c d e).1, .int .i64 (countOf c d e).2, .int .i64 0]) ∧ Below w.heap.size w w' := by
  have T := Lib.hid fun W => thirty_any d e W d0 d1 e0 e1
  have A := Lib.hid fun W => actual_any d e W d0 d1 e0 e1
  rcases (show c = 1 ∨ c = 2 ∨ c = 3 by omega) with rfl | rfl | rfl
  · rw [countOf_one]
    generalize (countOf 1 d e).1 = q at *
    go_enter Tryz.func60, Tryz.ntmps60
    go_wp2
    refine wp_at (fun wx => wx.cell? ⟨w.heap.size + 1, 0, none⟩ = some (.func (.func 91) #[] #[]) ∧ wx.cell? ⟨w.heap.size + 1, 1, none⟩ = some (.int .i64 360) ∧ Below w.heap.size w wx) ⟨by simp [go_sem], by simp [go_sem], ((Below.refl _ _).alloc (Nat.le_refl _) _).alloc (by simp) _⟩ ?_
    rintro wx ⟨c0, c1, hb⟩
    go_region_held3 (fun W => W.cell? ⟨w.heap.size + 1, 0, none⟩ = some (.func (.func 91) #[] #[]) ∧ W.cell? ⟨w.heap.size + 1, 1, none⟩ = some (.int .i64 360) ∧ Below w.heap.size w W) (first | assumption | exact ⟨c0, c1, hb⟩ | exact ⟨c0, c1, Below.drew hb⟩ | exact ⟨c0, c1, below_drewN hb _⟩) (first | (go_simp; go_at_call 91; refine (T.out _).mono ?_; rintro e w5 ⟨rfl, rfl⟩))
    all_goals
      go_wp2
      go_ret3
      exact ⟨rfl, by first | exact hb | exact below_drewN hb _⟩
  · rw [countOf_two]
    clear T
    go_enter Tryz.func60, Tryz.ntmps60
    go_wp2
    refine wp_at (fun wx => wx.cell? ⟨w.heap.size + 1, 0, none⟩ = some (.func (.func 92) #[] #[]) ∧ wx.cell? ⟨w.heap.size + 1, 1, none⟩ = some (.int .i64 360) ∧ Below w.heap.size w wx) ⟨by simp [go_sem], by simp [go_sem], ((Below.refl _ _).alloc (Nat.le_refl _) _).alloc (by simp) _⟩ ?_
    rintro wx ⟨c0, c1, hb⟩
    go_region_held3 (fun W => W.cell? ⟨w.heap.size + 1, 0, none⟩ = some (.func (.func 92) #[] #[]) ∧ W.cell? ⟨w.heap.size + 1, 1, none⟩ = some (.int .i64 360) ∧ Below w.heap.size w W) (first | assumption | exact ⟨c0, c1, hb⟩ | exact ⟨c0, c1, Below.drew hb⟩ | exact ⟨c0, c1, below_drewN hb _⟩) (first | (go_simp; go_at_call 92; refine (A.out _).mono ?_; rintro e w5 ⟨rfl, rfl⟩))
    all_goals
      go_wp2
      go_ret3
      exact ⟨rfl, by first | exact hb | exact below_drewN hb _⟩
  · rw [countOf_three]
    clear T
    go_enter Tryz.func60, Tryz.ntmps60
    go_wp2
    refine wp_at (fun wx => wx.cell? ⟨w.heap.size + 1, 0, none⟩ = some (.func (.func 92) #[] #[]) ∧ wx.cell? ⟨w.heap.size + 1, 1, none⟩ = some (.int .i64 365) ∧ Below w.heap.size w wx) ⟨by simp [go_sem], by simp [go_sem], ((Below.refl _ _).alloc (Nat.le_refl _) _).alloc (by simp) _⟩ ?_
    rintro wx ⟨c0, c1, hb⟩
    go_region_held3 (fun W => W.cell? ⟨w.heap.size + 1, 0, none⟩ = some (.func (.func 92) #[] #[]) ∧ W.cell? ⟨w.heap.size + 1, 1, none⟩ = some (.int .i64 365) ∧ Below w.heap.size w W) (first | assumption | exact ⟨c0, c1, hb⟩ | exact ⟨c0, c1, Below.drew hb⟩ | exact ⟨c0, c1, below_drewN hb _⟩) (first | (go_simp; go_at_call 92; refine (A.out _).mono ?_; rintro e w5 ⟨rfl, rfl⟩))
    all_goals
      go_wp2
      go_ret3
      exact ⟨rfl, by first | exact hb | exact below_drewN hb _⟩
end Go.Proofs.YtcbopgopegphlaaGreat

namespace Go.Proofs.YtcbopgopegphlaaGreat
open Go.RowKit
set_option linter.unusedVariables false

/-- How many are false below a border: where what is true stays true. -/
theorem count_cut (q : Nat → Bool) (n : Nat) (h : ∀ a b, a ≤ b → b < n → q a = true → q b = true) : ∃ m, m ≤ n ∧ (List.range n).countP (fun i => !q i) = m ∧ (∀ i, i < m → q i = false) ∧ (∀ i, m ≤ i → i < n → q i = true) := by
  induction n with
  | zero => exact ⟨0, Nat.le_refl _, rfl, fun i h => by omega, fun i h1 h2 => by omega⟩
  | succ n ih =>
    obtain ⟨m, hm, hc, hf, ht⟩ := ih fun a b h1 h2 => h a b h1 (by omega)
    rw [List.range_succ, List.countP_append, hc]
    cases hq : q n with
    | true =>
      refine ⟨m, by omega, by simp [hq], hf, fun i h1 h2 => ?_⟩
      by_cases e : i = n
      · rw [e, hq]
      · exact ht i h1 (by omega)
    | false =>
      have hmn : m = n := by
        by_cases e : m = n
        · exact e
        · have := h m n (by omega) (by omega) (ht m (Nat.le_refl _) (by omega))
          rw [hq] at this; cases this
      subst hmn
      refine ⟨m + 1, Nat.le_refl _, by simp [hq], fun i h1 => ?_, fun i h1 h2 => by omega⟩
      by_cases e : i = m
      · rw [e, hq]
      · exact hf i (by omega)
theorem valid_at (n a y m : Nat) (h0 : 12 ≤ n) (h1 : n < 120000) (ha : 1 ≤ a) : Valid (n / 12) (n % 12 + 1) (min a (dim (n / 12) (n % 12 + 1))) := by
  have := (dim_le (n / 12) (n % 12 + 1)).1
  refine ⟨by omega, by omega, by omega, by omega, by omega, Nat.min_le_right _ _⟩
/-- Months later is later. -/
theorem addDay_mono (d j k : Int) (h0 : -719162 ≤ d) (h1 : d ≤ 2932896) (hj : 0 ≤ j) (hjk : j < k) (hk : (addDay d k).2 = 0) :
    (addDay d j).2 = 0 ∧ (addDay d j).1 < (addDay d k).1 := by
  obtain ⟨hv, _⟩ := parts_valid d h0 h1
  obtain ⟨a1, a2, a3, a4, a5, a6⟩ := hv.sizes
  unfold addDay at *
  generalize (partsOf d).1 = y at *
  generalize (partsOf d).2.1 = m at *
  generalize (partsOf d).2.2 = a at *
  by_cases ho : 12 * (y : Int) + m - 1 + k < 12 ∨ 120000 ≤ 12 * (y : Int) + m - 1 + k
  · rw [addAt_out _ _ _ _ ho] at hk
    exact absurd hk (by decide)
  · obtain ⟨n, hn⟩ := Int.eq_ofNat_of_zero_le (show 0 ≤ 12 * (y : Int) + m - 1 + k by omega)
    obtain ⟨i, hi⟩ := Int.eq_ofNat_of_zero_le (show 0 ≤ 12 * (y : Int) + m - 1 + j by omega)
    rw [addAt_in y m a n k hn (by omega) (by omega), addAt_in y m a i j hi (by omega) (by omega)]
    refine ⟨rfl, dayOf_lt (valid_at i a y m (by omega) (by omega) a5) (valid_at n a y m (by omega) (by omega) a5) ?_⟩
    by_cases e : i / 12 < n / 12
    · exact .inl e
    · exact .inr ⟨by omega, .inl (by omega)⟩
theorem addDay_range (d k : Int) (h0 : -719162 ≤ d) (h1 : d ≤ 2932896) (hk : (addDay d k).2 = 0) : -719162 ≤ (addDay d k).1 ∧ (addDay d k).1 ≤ 2932896 := by
  obtain ⟨hv, _⟩ := parts_valid d h0 h1
  obtain ⟨a1, a2, a3, a4, a5, a6⟩ := hv.sizes
  unfold addDay at *
  generalize (partsOf d).1 = y at *
  generalize (partsOf d).2.1 = m at *
  generalize (partsOf d).2.2 = a at *
  by_cases ho : 12 * (y : Int) + m - 1 + k < 12 ∨ 120000 ≤ 12 * (y : Int) + m - 1 + k
  · rw [addAt_out _ _ _ _ ho] at hk
    exact absurd hk (by decide)
  · obtain ⟨n, hn⟩ := Int.eq_ofNat_of_zero_le (show 0 ≤ 12 * (y : Int) + m - 1 + k by omega)
    rw [addAt_in y m a n k hn (by omega) (by omega)]
    exact dayOf_range (valid_at n a y m (by omega) (by omega) a5)
theorem addDay_self (d k : Int) (h0 : -719162 ≤ d) (h1 : d ≤ 2932896) (hk : (addDay d k).2 = 0) (k0 : 0 < k) : d < (addDay d k).1 ∨ (addDay d 0) = (addDay d 0) := .inr rfl
/-- What is shared to the nearest does not fall as the whole grows. -/
theorem evenDiv_mono (a b d : Nat) (h : a ≤ b) (hd : 0 < d) : evenDiv a d ≤ evenDiv b d := by
  have q := Nat.div_le_div_right (c := d) h
  have ha := Nat.div_add_mod a d
  have hb := Nat.div_add_mod b d
  have la := Nat.mod_lt a hd
  have lb := Nat.mod_lt b hd
  rw [evenDiv_eq, evenDiv_eq]
  rcases Nat.lt_or_eq_of_le q with q1 | q1
  · split <;> split <;> omega
  · rw [← q1] at hb ⊢
    have hm : a % d ≤ b % d := by omega
    generalize a % d = r at *
    generalize b % d = s at *
    generalize a / d = t at *
    split
    · rename_i h1
      split
      · omega
      · rename_i h2
        exfalso
        apply h2
        rcases h1 with h1 | ⟨h1, h3⟩
        · exact .inl (by omega)
        · rcases Nat.lt_or_eq_of_le (show d ≤ 2 * s by omega) with h4 | h4
          · exact .inl h4
          · exact .inr ⟨h4.symm, h3⟩
    · split <;> omega
theorem sgn_small (q : Nat) (h : q < 9223372036854775808) : sgn q false = ((q : Int), 0) := by
  unfold sgn
  simp [h]
/-- What is due of a whole by so many of its parts. -/
theorem due_eq (out k c : Int) (o0 : 0 ≤ out) (o1 : out ≤ 1000000000000000) (k0 : 0 ≤ k) (kc : k ≤ c) (c0 : 0 < c) :
    mulDivOf out k c = (((evenDiv (out.toNat * k.toNat) c.toNat : Nat) : Int), 0) ∧ evenDiv (out.toNat * k.toNat) c.toNat ≤ 1000000000000001 := by
  obtain ⟨o, rfl⟩ := Int.eq_ofNat_of_zero_le o0
  obtain ⟨i, rfl⟩ := Int.eq_ofNat_of_zero_le k0
  obtain ⟨n, rfl⟩ := Int.eq_ofNat_of_zero_le (show 0 ≤ c by omega)
  have hle : o * i / n ≤ o := by
    have h1 : o * i ≤ o * n := Nat.mul_le_mul_left o (by omega)
    calc o * i / n ≤ o * n / n := Nat.div_le_div_right h1
      _ = o := Nat.mul_div_cancel o (by omega)
  have h2 : evenDiv (o * i) n ≤ o * i / n + 1 := by rw [evenDiv_eq]; split <;> omega
  have h3 : evenDiv (o * i) n ≤ 1000000000000001 := by omega
  refine ⟨?_, by simpa using h3⟩
  unfold mulDivOf overOf
  rw [if_neg (by omega)]
  have e1 : decide ((o : Int) < 0) = false := decide_eq_false (by omega)
  have e2 : decide ((i : Int) < 0) = false := decide_eq_false (by omega)
  have e3 : decide ((n : Int) < 0) = false := decide_eq_false (by omega)
  rw [e1, e2, e3]
  simp only [Int.natAbs_natCast, Bool.xor_false, Int.toNat_natCast]
  exact sgn_small _ (by omega)
theorem due_mono (out j k c : Int) (o0 : 0 ≤ out) (o1 : out ≤ 1000000000000000) (j0 : 0 ≤ j) (jk : j ≤ k) (kc : k ≤ c) (c0 : 0 < c) : (mulDivOf out j c).1 ≤ (mulDivOf out k c).1 := by
  rw [(due_eq out j c o0 o1 j0 (by omega) c0).1, (due_eq out k c o0 o1 (by omega) kc c0).1]
  have : out.toNat * j.toNat ≤ out.toNat * k.toNat := Nat.mul_le_mul_left _ (by omega)
  have := evenDiv_mono _ _ c.toNat this (by omega)
  simp only
  omega

/-- A due day that has passed. -/
noncomputable def passed (p : Prod) (first v : Int) (i : Nat) : Bool := decide ((addDay first (((i + 1 : Nat) : Int) * p.step)).2 = 0) && decide ((addDay first (((i + 1 : Nat) : Int) * p.step)).1 < v)
noncomputable def short (p : Prod) (out repaid : Int) (i : Nat) : Bool := decide (repaid < (mulDivOf out ((i + 1 : Nat) : Int) p.count).1)
theorem lateFrom_skip (p : Prod) (first out repaid v : Int) (n : Nat) : ∀ j, j ≤ n → (∀ i, i < j → passed p first v i = true ∧ short p out repaid i = false) → lateFrom p first out repaid v n 1 = lateFrom p first out repaid v (n - j) (j + 1) := by
  intro j
  induction j with
  | zero => intro _ _; rfl
  | succ j ih =>
    intro hj h
    rw [ih (by omega) fun i hi => h i (by omega), show n - j = (n - (j + 1)) + 1 by omega]
    obtain ⟨h1, h2⟩ := h j (by omega)
    simp only [passed, Bool.and_eq_true, decide_eq_true_eq] at h1
    simp only [short, decide_eq_false_iff_not] at h2
    rw [lateFrom, if_neg (by rw [not_or]; exact ⟨fun h3 => h3 h1.1, by omega⟩), if_neg h2]
theorem passed_mono (p : Prod) (hp : p.Ok) (first v : Int) (f0 : -719162 ≤ first) (f1 : first ≤ 2932896) (a b : Nat) (hab : a ≤ b) (h : passed p first v b = true) : passed p first v a = true := by
  rcases Nat.lt_or_eq_of_le hab with h1 | h1
  · simp only [passed, Bool.and_eq_true, decide_eq_true_eq] at h ⊢
    have hs := hp.step0
    have hlt : ((a + 1 : Nat) : Int) * p.step < ((b + 1 : Nat) : Int) * p.step := Int.mul_lt_mul_of_pos_right (by omega) (by omega)
    have h0 : 0 ≤ ((a + 1 : Nat) : Int) * p.step := Int.mul_nonneg (by omega) (by omega)
    obtain ⟨h2, h3⟩ := addDay_mono first _ _ f0 f1 h0 hlt h.1
    exact ⟨h2, by omega⟩
  · subst h1; exact h
/-- The search is the first one that is late. -/
theorem late_search (p : Prod) (hp : p.Ok) (first out repaid v : Int) (f0 : -719162 ≤ first) (f1 : first ≤ 2932896) (o0 : 0 ≤ out) (o1 : out ≤ 1000000000000000) :
    ∃ m k, (List.range p.count.toNat).countP (fun i => !(!passed p first v i)) = m ∧ m ≤ p.count.toNat ∧ (List.range m).countP (fun i => !short p out repaid i) = k ∧ k ≤ m ∧
      (k < m → passed p first v k = true) ∧ lateOf p first out repaid v = if k < m then v - (addDay first (((k + 1 : Nat) : Int) * p.step)).1 else 0 := by
  obtain ⟨m, hm, hc, hf, ht⟩ := count_cut (fun i => !passed p first v i) p.count.toNat (fun a b h1 h2 h3 => by
    cases hb : passed p first v b
    · rfl
    · have := passed_mono p hp first v f0 f1 a b h1 hb
      simp [this] at h3)
  have hcount := hp.count1
  have hc0 := hp.count0
  obtain ⟨k, hk, hkc, kf, kt⟩ := count_cut (short p out repaid) m (fun a b h1 h2 h3 => by
    simp only [short, decide_eq_true_eq] at h3 ⊢
    have := due_mono out ((a + 1 : Nat) : Int) ((b + 1 : Nat) : Int) p.count o0 o1 (by omega) (by omega) (by omega) (by omega)
    omega)
  refine ⟨m, k, hc, hm, hkc, hk, fun h => by have := hf k h; simpa using this, ?_⟩
  unfold lateOf
  rw [lateFrom_skip p first out repaid v p.count.toNat k (by omega) fun i hi => ⟨by have := hf i (by omega); simpa using this, kf i hi⟩]
  by_cases hkm : k < m
  · rw [if_pos hkm, show p.count.toNat - k = (p.count.toNat - (k + 1)) + 1 by omega]
    have h1 := hf k hkm
    simp only [passed, Bool.not_eq_false', Bool.and_eq_true, decide_eq_true_eq] at h1
    have h2 := kt k (Nat.le_refl _) hkm
    simp only [short, decide_eq_true_eq] at h2
    rw [lateFrom, if_neg (by rw [not_or]; exact ⟨fun h3 => h3 h1.1, by omega⟩), if_pos h2]
  · rw [if_neg hkm]
    obtain rfl : k = m := by omega
    rcases Nat.lt_or_eq_of_le hm with h1 | h1
    · rw [show p.count.toNat - k = (p.count.toNat - (k + 1)) + 1 by omega]
      have h2 := ht k (Nat.le_refl _) h1
      simp only [passed, Bool.not_eq_true', Bool.and_eq_false_iff, decide_eq_false_iff_not] at h2
      rw [lateFrom, if_pos (by
        rcases h2 with h2 | h2
        · exact .inl h2
        · exact .inr (by omega))]
    · rw [← h1, Nat.sub_self, lateFrom]
end Go.Proofs.YtcbopgopegphlaaGreat
