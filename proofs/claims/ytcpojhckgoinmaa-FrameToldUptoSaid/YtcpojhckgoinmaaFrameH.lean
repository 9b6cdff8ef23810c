/-
  The plain law of frames that lie one behind the other.
-/
import Derived.Test.YtcpojhckgoinmaaFrameC
namespace Go.Proofs.Ytcpojhckgoinmaa
set_option linter.unusedVariables false

def flat (ps : List (List UInt8)) : List UInt8 := ps.flatMap frameOf
theorem flat_snoc (ps : List (List UInt8)) (p : List UInt8) : flat (ps ++ [p]) = flat ps ++ frameOf p := by simp [flat]
theorem frameOf_len (p : List UInt8) : (frameOf p).length = 8 + p.length := by simp [frameOf, le4_len]; omega
theorem num4_of (v : Nat) (hv : v < 4294967296) : num4 (UInt8.ofNat v) (UInt8.ofNat (v / 256)) (UInt8.ofNat (v / 65536)) (UInt8.ofNat (v / 16777216)) = v := by
  unfold num4
  simp only [UInt8.toNat_ofNat']
  omega
theorem rd_frame (a p b : List UInt8) (hp : p.length ≤ 2097152) : rd (a ++ (frameOf p ++ b)) a.length = (p, ((a.length + 8 + p.length : Nat) : Int), 0) := by
  unfold rd
  rw [if_neg (by simp; omega), show ((a.length : Nat) : Int).toNat = a.length from rfl, List.drop_left]
  have e : frameOf p ++ b = UInt8.ofNat p.length :: UInt8.ofNat (p.length / 256) :: UInt8.ofNat (p.length / 65536) :: UInt8.ofNat (p.length / 16777216) ::
      UInt8.ofNat (crc (le4 p.length ++ p)) :: UInt8.ofNat (crc (le4 p.length ++ p) / 256) :: UInt8.ofNat (crc (le4 p.length ++ p) / 65536) :: UInt8.ofNat (crc (le4 p.length ++ p) / 16777216) :: (p ++ b) := by
    simp [frameOf, le4]
  rw [e, rdAt_cons, num4_of _ (by omega), num4_of _ (crc_lt _), if_neg (by omega), if_neg (by simp), List.take_left, if_pos (by rfl)]
  simp
theorem stands_flat (ps : List (List UInt8)) (b : List UInt8) (h : ∀ p ∈ ps, p.length ≤ 2097152) : Stands (flat ps ++ b) ps (flat ps).length := by
  suffices hs : ∀ n, n ≤ ps.length → Stands (flat ps ++ b) (ps.take n) (flat (ps.take n)).length by
    have := hs ps.length (Nat.le_refl _)
    rwa [List.take_length] at this
  intro n
  induction n with
  | zero => intro _; exact Stands.start _
  | succ n ih =>
    intro hn
    have hst := ih (by omega)
    have hlt : n < ps.length := by omega
    have e : flat ps ++ b = flat (ps.take n) ++ (frameOf ps[n] ++ (flat (ps.drop (n + 1)) ++ b)) := by
      have h1 : ps = ps.take n ++ ps[n] :: ps.drop (n + 1) := by rw [List.getElem_cons_drop, List.take_append_drop]
      have h2 : flat ps = flat (ps.take n ++ ps[n] :: ps.drop (n + 1)) := congrArg flat h1
      rw [h2]
      simp only [flat, List.flatMap_append, List.flatMap_cons, List.append_assoc]
    have hrd := rd_frame (flat (ps.take n)) ps[n] (flat (ps.drop (n + 1)) ++ b) (h _ (List.getElem_mem hlt))
    rw [← e] at hrd
    have h2 := hst.step (by rw [hrd])
    rw [hrd] at h2
    rw [take_snoc' ps n hlt, flat_snoc, List.length_append, frameOf_len, ← Nat.add_assoc]
    exact h2
theorem all_flat (ps : List (List UInt8)) (h : ∀ p ∈ ps, p.length ≤ 2097152) : allOf (flat ps) = (ps, (flat ps).length, 0) := by
  have hs := stands_flat ps [] h
  rw [List.append_nil] at hs
  have h12 : (rd (flat ps) (flat ps).length).2.2 = 12 := (rd_end _ _ (Nat.le_refl _)).2 rfl
  rw [hs.fin (by rw [h12]; decide), h12]
  rfl
theorem all_torn (ps : List (List UInt8)) (b : List UInt8) (h : ∀ p ∈ ps, p.length ≤ 2097152) (h1 : 1 ≤ b.length) (h7 : b.length ≤ 7) : allOf (flat ps ++ b) = (ps, (flat ps).length, 10) := by
  have hs := stands_flat ps b h
  have h10 : (rd (flat ps ++ b) (flat ps).length).2.2 = 10 := by
    unfold rd
    rw [if_neg (by simp; omega), show (((flat ps).length : Nat) : Int).toNat = (flat ps).length from rfl, List.drop_left, rdAt_torn b _ (by omega) (by omega)]
  rw [hs.fin (by rw [h10]; decide), h10]
  rfl
theorem num4_inj {a b c d a' b' c' d' : UInt8} (h : num4 a b c d = num4 a' b' c' d') : a = a' ∧ b = b' ∧ c = c' ∧ d = d' := by
  unfold num4 at h
  have h1 := a.toNat_lt
  have h2 := b.toNat_lt
  have h3 := c.toNat_lt
  have h4 := d.toNat_lt
  have h5 := a'.toNat_lt
  have h6 := b'.toNat_lt
  have h7 := c'.toNat_lt
  have h8 := d'.toNat_lt
  refine ⟨UInt8.toNat_inj.1 ?_, UInt8.toNat_inj.1 ?_, UInt8.toNat_inj.1 ?_, UInt8.toNat_inj.1 ?_⟩ <;> omega
/-- A frame whose sum does not fit. -/
theorem rd_bad (a p b : List UInt8) (e f g i : UInt8) (hp : p.length ≤ 2097152) (hne : num4 e f g i ≠ crc (le4 p.length ++ p)) : (rd (a ++ (le4 p.length ++ e :: f :: g :: i :: p ++ b)) a.length).2.2 = 11 := by
  unfold rd
  rw [if_neg (by simp; omega), show ((a.length : Nat) : Int).toNat = a.length from rfl, List.drop_left]
  have e1 : le4 p.length ++ e :: f :: g :: i :: p ++ b = UInt8.ofNat p.length :: UInt8.ofNat (p.length / 256) :: UInt8.ofNat (p.length / 65536) :: UInt8.ofNat (p.length / 16777216) :: e :: f :: g :: i :: (p ++ b) := by
    simp [le4]
  rw [e1, rdAt_cons, num4_of _ (by omega), if_neg (by omega), if_neg (by simp), List.take_left, if_neg (by exact hne)]
/-- A frame of which one byte behind its length is turned. -/
theorem rd_turned (a p b : List UInt8) (at_ : Nat) (x y : UInt8) (hp : p.length ≤ 2097152) (h4 : 4 ≤ at_) (hl : at_ < 8 + p.length) (hx : (frameOf p)[at_]? = some x) (hne : x ≠ y) : (rd (a ++ ((frameOf p).set at_ y ++ b)) a.length).2.2 = 11 := by
  have ef : frameOf p = le4 p.length ++ UInt8.ofNat (crc (le4 p.length ++ p)) :: UInt8.ofNat (crc (le4 p.length ++ p) / 256) :: UInt8.ofNat (crc (le4 p.length ++ p) / 65536) :: UInt8.ofNat (crc (le4 p.length ++ p) / 16777216) :: p := by
    simp [frameOf, le4]
  have hn := num4_of (crc (le4 p.length ++ p)) (crc_lt _)
  generalize hc0 : UInt8.ofNat (crc (le4 p.length ++ p)) = c0 at *
  generalize hc1 : UInt8.ofNat (crc (le4 p.length ++ p) / 256) = c1 at *
  generalize hc2 : UInt8.ofNat (crc (le4 p.length ++ p) / 65536) = c2 at *
  generalize hc3 : UInt8.ofNat (crc (le4 p.length ++ p) / 16777216) = c3 at *
  rw [ef] at hx ⊢
  rw [List.getElem?_append_right (by rw [le4_len]; omega), le4_len] at hx
  rw [List.set_append_right (s := le4 p.length) _ _ (by rw [le4_len]; omega), le4_len]
  by_cases h8 : at_ < 8
  · rcases (show at_ = 4 ∨ at_ = 5 ∨ at_ = 6 ∨ at_ = 7 by omega) with rfl | rfl | rfl | rfl
    all_goals
      simp at hx
      subst hx
      refine rd_bad a p b _ _ _ _ hp (fun h => ?_)
      rw [← hn] at h
      have := num4_inj h
      simp_all
  · obtain ⟨q, rfl⟩ : ∃ q, at_ = 8 + q := ⟨at_ - 8, by omega⟩
    rw [show 8 + q - 4 = q + 1 + 1 + 1 + 1 by omega] at hx ⊢
    simp only [List.getElem?_cons_succ, List.set_cons_succ] at hx ⊢
    have hq : q < p.length := by omega
    have hpe : p = p.take q ++ x :: p.drop (q + 1) := by
      have h1 := List.getElem?_eq_getElem hq
      rw [hx] at h1
      injection h1 with h1
      rw [h1, List.getElem_cons_drop, List.take_append_drop]
    have hse : p.set q y = p.take q ++ y :: p.drop (q + 1) := by
      rw [List.set_eq_take_append_cons_drop, if_pos hq]
    have hsl : (p.set q y).length = p.length := List.length_set
    have := rd_bad a (p.set q y) b c0 c1 c2 c3 (by rw [hsl]; exact hp) (by
      rw [hn, hsl]
      intro h
      have h2 := crc_turned (le4 p.length ++ p.take q) (p.drop (q + 1)) x y hne
      apply h2
      rw [List.append_assoc, List.append_assoc, ← hpe, ← hse]
      exact h)
    rw [hsl] at this
    exact this
end Go.Proofs.Ytcpojhckgoinmaa
