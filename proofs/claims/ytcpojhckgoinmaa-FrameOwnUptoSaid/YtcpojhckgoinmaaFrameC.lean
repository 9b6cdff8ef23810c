/-
  append of payloads; the reference's All and Same.
-/
import Derived.Test.YtcpojhckgoinmaaFrameA
namespace Go.Proofs.Ytcpojhckgoinmaa
open Go.RowKit
set_option linter.unusedVariables false

theorem app_p {ops : Array Oper} {rest : List Oper} {o : Oper} {a : Act} {Q : Exit → Act → World → Prop} {w : World} (hgd : o.guard = none) (s x : Operand)
    (ho : o.op = .call { callee := .builtin .append, args := #[s, x], argTypes := #[39, 39] })
    (base : Nat) (v : Value) (ps : List (List UInt8)) (hs : a.eval s = v) (hown : OwnP w base v ps) (u : Value) (p : List UInt8) (hu : OwnB w base u p) (hun : u.ownBlock ≠ none → u.ownBlock ≠ v.ownBlock)
    (hx : a.eval x = .slice (some ⟨w.heap.size, 0, none⟩) 1 1) (hlen : ps.length ≤ 1000000000) (hbase : base ≤ w.heap.size)
    (h : ∀ v' w', OwnP w' base v' (ps ++ [p]) → Below base w w' → wpList Try.prog ops Q rest (a.put o.dst v') w') : wpList Try.prog ops Q (o :: rest) a (w.alloc (.cells #[u] 22)) := by
  obtain ⟨i0, hi, hz0, hz1, hz2⟩ := info_parts infoBS
  obtain ⟨vs, hr, hl, hin⟩ := hown
  have hr2 : (w.alloc (.cells #[u] 22)).ownsRow base 22 1 v ps.length vs := World.ownsRow.alloc hr _
  have hone : ∀ z ∈ [u], z.oneCell' = true := by
    intro z hz
    obtain rfl : z = u := by simpa using hz
    obtain ⟨A, m, c, rfl, _⟩ := hu.form
    rfl
  have hlit : Rd (w.alloc (.cells #[u] 22)) 1 (some ⟨w.heap.size, 0, none⟩) 1 [u] :=
    ⟨rfl, fun _ => ⟨w.heap.size, 0, rfl, fun j z hz => by
      rw [cell_of_row _ _ _ _ _ _ (heap_alloc_new w _), Nat.zero_add]
      simpa using hz⟩⟩
  refine wpList_append_rd _ hgd s x 39 ho base 22 i0 (.slice none 0 0) 1 24 Try.underlying39 hi hz0 hz1 hz2 rfl (by decide) v ps.length vs hs hr2 _ 1 1 [u] hx hlit hone (by unfold maxLen; omega) (by omega) (by simp; omega) fun v' w' hown' hg hb => ?_
  have hin2 : ∀ (j : Nat) (hj : j < ps.length), ∃ z, vs[j]? = some z ∧ OwnB (w.alloc (.cells #[u] 22)) base z ps[j] ∧ (z.ownBlock ≠ none → z.ownBlock ≠ v.ownBlock) := fun j hj => by
    obtain ⟨z, h1, h2, h3⟩ := hin j hj
    exact ⟨z, h1, h2.alloc _, h3⟩
  exact h v' w' (OwnP.snoc hl hin2 (hu.alloc _) hun hown' hg hb) (((Below.refl base w).alloc hbase _).grown hg (by simp; omega) fun k hk => (hr2.lt k hk).1)
/-- What All answers. -/
def allOf (xs : List UInt8) : List (List UInt8) × Nat × Int := ((goFrom xs (xs.length + 1) 0).1, (goFrom xs (xs.length + 1) 0).2.1, if (goFrom xs (xs.length + 1) 0).2.2 = 12 then 0 else (goFrom xs (xs.length + 1) 0).2.2)
def Alls (w : World) (r : List (List UInt8) × Nat × Int) (e : Ending) (w' : World) : Prop :=
  ∃ v, e = .returned (.tuple #[v, .int .i64 (r.2.1 : Nat), .int .i64 r.2.2]) ∧ OwnP w' w.heap.size v r.1 ∧ Below w.heap.size w w'
/-- The walk stands at a place, some payloads read. -/
def Stands (xs : List UInt8) (pre : List (List UInt8)) (k : Nat) : Prop := k ≤ xs.length ∧ pre.length * 8 ≤ k ∧ ∃ f, xs.length < f + k ∧ goFrom xs (xs.length + 1) 0 = (pre ++ (goFrom xs f k).1, (goFrom xs f k).2)
theorem Stands.start (xs : List UInt8) : Stands xs [] 0 := ⟨by omega, by simp, xs.length + 1, by omega, by simp⟩
theorem Stands.step {xs : List UInt8} {pre : List (List UInt8)} {k : Nat} (h : Stands xs pre k) (he : (rd xs k).2.2 = 0) : Stands xs (pre ++ [(rd xs k).1]) (k + 8 + (rd xs k).1.length) := by
  obtain ⟨h1, h2, f, hf, hg⟩ := h
  obtain ⟨hp, hq⟩ := rd_ok he
  match f, hf with
  | 0, hf => omega
  | f + 1, hf =>
    refine ⟨hq, by simp; omega, f, by omega, ?_⟩
    rw [hg, goFrom_ok xs f k he, hp, Int.toNat_natCast]
    simp
theorem Stands.stop {xs : List UInt8} {pre : List (List UInt8)} {k : Nat} (h : Stands xs pre k) (he : (rd xs k).2.2 ≠ 0) : goFrom xs (xs.length + 1) 0 = (pre, k, (rd xs k).2.2) := by
  obtain ⟨h1, h2, f, hf, hg⟩ := h
  match f, hf with
  | 0, hf => omega
  | f + 1, hf =>
    rw [hg, goFrom_bad xs f k he]
    simp
theorem Stands.fin {xs : List UInt8} {pre : List (List UInt8)} {k : Nat} (h : Stands xs pre k) (he : (rd xs k).2.2 ≠ 0) : allOf xs = (pre, k, if (rd xs k).2.2 = 12 then 0 else (rd xs k).2.2) := by
  unfold allOf
  rw [h.stop he]
theorem OwnP.block {w : World} {base : Nat} {v : Value} {ps : List (List UInt8)} (h : OwnP w base v ps) (g : Nat) (hg : v.ownBlock = some g) : base ≤ g ∧ g < w.heap.size := by
  obtain ⟨vs, hr, _⟩ := h
  rcases hr.2 with ⟨rfl, _⟩ | ⟨b, cap, cur, rfl, hb, hh, _⟩
  · simp [Value.ownBlock] at hg
  · simp [Value.ownBlock] at hg
    subst hg
    exact ⟨hb, (Array.getElem?_eq_some_iff.1 hh).1⟩
theorem apart {w w' : World} {base b2 : Nat} {v u : Value} {ps : List (List UInt8)} {p : List UInt8} (h : OwnP w base v ps) (hu : OwnB w' b2 u p) (hb : w.heap.size ≤ b2) : u.ownBlock ≠ none → u.ownBlock ≠ v.ownBlock := by
  intro h0 e
  cases hx : u.ownBlock with
  | none => exact h0 hx
  | some g =>
    have h1 := hu.block g hx
    rw [hx] at e
    have h2 := h.block g e.symm
    omega
set_option maxRecDepth 100000 in
set_option maxHeartbeats 2000000 in
theorem refAll_any (A : Option Addr) (n c : Nat) (w : World) (xs : List UInt8) (h : RdB w A n xs) (hm : n ≤ 1000000000) (hc : n ≤ c) :
    Calls Try.prog 19 #[.slice A n c] w (Alls w (allOf xs)) := by
  have HR := Lib.hid (fun p W hW => refRead_any A n c p W xs hW (by omega) hc)
  have HL := Lib.hid h.len
  have HX := Lib.hid h
  clear h
  go_enter Try.func19, Try.ntmps19
  have HE := Lib.hid (fun k h => rd_end xs k h)
  have HO := Lib.hid (fun k h => rd_ok (xs := xs) (k := k) h)
  go_wp2_with fail
  go_loopw [5, 6] (fun v i wr => ∃ (pre : List (List UInt8)) (k : Nat), i = .int .i64 k ∧ OwnP wr w.heap.size v pre ∧ Hid (Stands xs pre k) ∧ Below w.heap.size w wr) (fun _ i _ => n - (intOf i).toNat)
  case atStart => exact ⟨[], 0, rfl, OwnP.nil _ _, Lib.hid (Stands.start xs), Below.refl _ _⟩
  case round =>
    obtain ⟨pre, k, rfl, hown, hst, hb⟩ := hrel
    have hkn : k ≤ n := by rw [← HL.out]; exact hst.out.1
    have hpl : pre.length * 8 ≤ k := hst.out.2.1
    obtain ⟨Av, cv, rfl, _⟩ := hown.len
    have HOWN := Lib.hid hown
    clear hown
    by_cases hlt : k < n
    · go_wp2_with fail
      refine (HR.out k _ (HX.out.below hb)).mono ?_
      rintro e w1 ⟨u, rfl, hu, hb1⟩
      have HF := Lib.hid (fun h => hst.out.fin h)
      have h12 := Lib.hid (fun h => (HE.out k (by rw [HL.out]; exact hkn)).1 h)
      have hz1 := hb1.size
      by_cases he : (rd xs k).2.2 = 0
      · obtain ⟨hp, hq⟩ := HO.out k he
        have HS := Lib.hid (hst.out.step he)
        rw [he, hp]
        clear he hp HF h12
        generalize (rd xs k).1 = p at *
        have hun := Lib.hid (apart HOWN.out hu (Nat.le_refl _))
        have hu1 := Lib.hid (hu.mono hb.size)
        obtain ⟨Au, mu, cu, rfl, _⟩ := hu.form
        have HOWN1 := Lib.hid (HOWN.out.below hb1)
        rw [HL.out] at hq
        clear hu
        go_wp2_with (at_builtin; refine app_p rfl _ _ rfl w.heap.size (.slice Av pre.length cv) pre rfl HOWN1.out _ p hu1.out hun.out rfl ?c1 ?c2 ?_)
        case c1 => omega
        case c2 => have := hb.size; omega
        intro v' w2 hv' hb2
        go_wp2
        go_roundw
        case rel => exact ⟨pre ++ [p], k + 8 + p.length, by go_num, hv', HS, hb.trans ((hb1.mono hb.size).trans hb2)⟩
        case measure => simp [intOf]; omega
      · have hn12 : (rd xs k).2.2 ≠ 12 := fun h => by have := h12.out h; rw [HL.out] at this; omega
        have hfin := HF.out he
        rw [if_neg hn12] at hfin
        have HFIN := Lib.hid hfin
        have hbk := hb.trans (hb1.mono hb.size)
        have HOWN1 := Lib.hid (HOWN.out.below hb1)
        generalize (rd xs k).2.1 = nx at *
        generalize (rd xs k).2.2 = er at *
        clear HF h12 hn12 hfin
        have he2 : (er != 0) = true := by rw [bne_iff_ne]; exact he
        go_wp2
        go_ret3
        rw [HFIN.out]
        exact ⟨_, rfl, HOWN1.out, hbk⟩
    · obtain rfl : k = n := by omega
      have h12 : (rd xs k).2.2 = 12 := (HE.out k (by rw [HL.out]; exact hkn)).2 HL.out.symm
      have hfin := hst.out.fin (by rw [h12]; decide)
      rw [h12, if_pos rfl] at hfin
      have HFIN := Lib.hid hfin
      clear hfin h12
      go_wp2
      go_ret3
      rw [HFIN.out]
      exact ⟨_, rfl, HOWN.out, hb⟩
end Go.Proofs.Ytcpojhckgoinmaa
