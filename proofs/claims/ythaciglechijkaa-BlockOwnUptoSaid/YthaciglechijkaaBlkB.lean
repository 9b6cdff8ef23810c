/-
  The reference's Copy. No statement is proved here.
-/
import Derived.Deep.RegionHeld3
import Derived.Deep.DeepCutAuto
import Derived.BigQuiet
import Derived.Test.YthaciglechijkaaBlkR
namespace Go.Proofs.Ythaciglechijkaa
open Go.RowKit
set_option linter.unusedVariables false

theorem OwnB.block {w : World} {base : Nat} {v : Value} {xs : List UInt8} (h : OwnB w base v xs) (g : Nat) (hg : v.ownBlock = some g) : base ≤ g ∧ g < w.heap.size := by
  rcases h.2 with ⟨rfl, _⟩ | ⟨b, cap, cur, rfl, hb, hh, _⟩
  · simp [Value.ownBlock] at hg
  · simp [Value.ownBlock] at hg
    subst hg
    exact ⟨hb, (Array.getElem?_eq_some_iff.1 hh).1⟩
theorem OwnB.keep {w w' : World} {base : Nat} {u v : Value} {xs : List UInt8} (h : OwnB w base u xs) (hg : w.grownBy w' v.ownBlock) (hne : ∀ g, u.ownBlock = some g → v.ownBlock ≠ some g) : OwnB w' base u xs := by
  refine ⟨h.1, ?_⟩
  rcases h.2 with h2 | ⟨b, cap, cur, rfl, hb, hh, r⟩
  · exact .inl h2
  · exact .inr ⟨b, cap, cur, rfl, hb, (hg.block b (heap_lt' hh) (fun e => hne b rfl e.symm)).trans hh, r⟩
/-- append at a step of a region that draws its order; where the bytes lie behind it. -/
theorem step_app_n {ops : Array Oper} {o : Oper} {a : Act} {K : Act → World → Prop} {Q : Exit → Act → World → Prop} {E : Prop} {w : World} (hgd : o.guard = none) (s x : Operand)
    (ho : o.op = .call { callee := .builtin .append, args := #[s, x], argTypes := #[24, 24] })
    (base : Nat) (v : Value) (xs : List UInt8) (hs : a.eval s = v) (hown : OwnB w base v xs)
    (A : Option Addr) (m c : Nat) (ys : List UInt8) (hx : a.eval x = .slice A m c) (hr : RdB w A m ys)
    (hlen : xs.length + m ≤ 140737488355328) (hbase : base ≤ w.heap.size)
    (h : ∀ v' w', OwnB w' base v' (xs ++ ys) → Below base w w' → w.grownBy w' v.ownBlock → (v'.ownBlock = v.ownBlock ∨ v'.ownBlock = some w.heap.size) → K (a.put o.dst v') w') :
    if Region.wanted o (yielded ops a.tmps) = true then Oper.wp Try.prog o a w K Q else E := by
  have hw : Region.wanted o (yielded ops a.tmps) = true := by simp [Region.wanted, hgd]
  rw [if_pos hw]
  obtain ⟨i0, hi, hz0, hz1, hz2⟩ := info_parts infoU8
  have hl := hr.len
  refine wp_append_rd w s x 24 ho base 5 i0 (.int .u8 0) 1 1 Try.underlying24 hi hz0 hz1 hz2 rfl (by decide) v xs.length (xs.map bv) hs hown A m c (ys.map bv) hx hr (bv_one ys) (by unfold maxLen; omega) (by omega) hbase fun v' w' hown' hg hb => ?_
  refine h v' w' ?_ ((Below.refl base w).grown hg hbase fun k hk => (hown.lt k hk).1) hg hb
  unfold OwnB
  rw [List.length_append, List.map_append, hl]
  exact hown'
abbrev e0 : Obj := .cells #[] 5
theorem own_1 (W : World) {base : Nat} (hb : base ≤ W.heap.size) : OwnB (W.alloc e0).drew base (.slice (some ⟨W.heap.size, 0, none⟩) 0 0) [] := OwnB.empty W hb
theorem own_2a (W : World) {base : Nat} (hb : base ≤ W.heap.size) : OwnB ((W.alloc e0).alloc e0).drew base (.slice (some ⟨W.heap.size, 0, none⟩) 0 0) [] := (OwnB.empty W hb).alloc _
theorem own_2b (W : World) {base : Nat} (hb : base ≤ W.heap.size) : OwnB ((W.alloc e0).alloc e0).drew base (.slice (some ⟨W.heap.size + 1, 0, none⟩) 0 0) [] := by
  have := OwnB.empty (base := base) (W.alloc e0) (by simp; omega)
  rw [World.size_alloc] at this
  exact this
theorem two_a {W w5 : World} {base : Nat} {v5 : Value} (hg : ((W.alloc e0).alloc e0).drew.grownBy w5 (Value.slice (some ⟨W.heap.size, 0, none⟩) 0 0).ownBlock) (ho : v5.ownBlock = (Value.slice (some ⟨W.heap.size, 0, none⟩) 0 0).ownBlock ∨ v5.ownBlock = some ((W.alloc e0).alloc e0).drew.heap.size) (hb : base ≤ W.heap.size) :
    OwnB w5 base (.slice (some ⟨W.heap.size + 1, 0, none⟩) 0 0) [] ∧ ∀ g, v5.ownBlock = some g → (Value.slice (some ⟨W.heap.size + 1, 0, none⟩) 0 0).ownBlock ≠ some g := by
  have hsz : ((W.alloc e0).alloc e0).drew.heap.size = W.heap.size + 1 + 1 := by
    show ((W.alloc e0).alloc e0).heap.size = _
    rw [World.size_alloc, World.size_alloc]
  refine ⟨(own_2b W hb).keep hg (fun g hg => ?_), fun g hg => ?_⟩
  · simp [Value.ownBlock] at hg ⊢; omega
  · rw [hsz] at ho
    rcases ho with h | h <;> (rw [hg] at h; simp [Value.ownBlock] at h ⊢; omega)
theorem two_b {W w5 : World} {base : Nat} {v5 : Value} (hg : ((W.alloc e0).alloc e0).drew.grownBy w5 (Value.slice (some ⟨W.heap.size + 1, 0, none⟩) 0 0).ownBlock) (ho : v5.ownBlock = (Value.slice (some ⟨W.heap.size + 1, 0, none⟩) 0 0).ownBlock ∨ v5.ownBlock = some ((W.alloc e0).alloc e0).drew.heap.size) (hb : base ≤ W.heap.size) :
    OwnB w5 base (.slice (some ⟨W.heap.size, 0, none⟩) 0 0) [] ∧ ∀ g, v5.ownBlock = some g → (Value.slice (some ⟨W.heap.size, 0, none⟩) 0 0).ownBlock ≠ some g := by
  have hsz : ((W.alloc e0).alloc e0).drew.heap.size = W.heap.size + 1 + 1 := by
    show ((W.alloc e0).alloc e0).heap.size = _
    rw [World.size_alloc, World.size_alloc]
  refine ⟨(own_2a W hb).keep hg (fun g hg => ?_), fun g hg => ?_⟩
  · simp [Value.ownBlock] at hg ⊢; omega
  · rw [hsz] at ho
    rcases ho with h | h <;> (rw [hg] at h; simp [Value.ownBlock] at h ⊢; omega)
set_option maxHeartbeats 4000000 in
theorem Copy_any (A : Option Addr) (n c : Nat) (ps : List PairV) (w : World) (h : RdQ w A n ps) (hn : n ≤ 2000000) (hl : ∀ p ∈ ps, p.key.length ≤ 100000000000 ∧ p.val.length ≤ 100000000000) :
    Calls Try.prog 9 #[.slice A n c] w fun e w' => ∃ v rs, e = .returned v ∧ psOf rs = ps ∧ OwnQ w' w.heap.size v rs ∧ Below w.heap.size w w' := by
  have HX := Lib.hid h
  have HL := Lib.hid hl
  have HN : Hid (ps.length = n) := Lib.hid h.len
  clear h hl
  go_enter Try.func9, Try.ntmps9
  go_wp2
  go_loopw [3, 7] (fun v t wr => ∃ (k : Nat) (rs : List PairR), k ≤ n ∧ t = .int .i64 k ∧ Hid (psOf rs = ps.take k) ∧ Hid (OwnQ wr w.heap.size v rs) ∧ Hid (Below w.heap.size w wr)) (fun _ t _ => n - (intOf t).toNat)
  case atStart => exact ⟨0, [], Nat.zero_le _, rfl, Lib.hid rfl, Lib.hid (OwnQ.nil _ _), Lib.hid (Below.refl _ _)⟩
  case round =>
    obtain ⟨k, rs, hk, rfl, HP, HO, HB⟩ := hrel
    by_cases hlt : k < n
    · have hkl : k < ps.length := by rw [HN.out]; exact hlt
      obtain ⟨b, off, rfl, hc⟩ := HX.out.ex (by omega)
      obtain ⟨Ak, mk, ck, Av, mv, cv, cc0, cc1, r0, r1, hmk, hmv⟩ := hc k hkl
      have KS : Hid (∀ W : World, Below w.heap.size w W → Below w.heap.size w W ∧ W.cell? ⟨b, off + k * 2, none⟩ = some (.slice Ak mk ck) ∧ W.cell? ⟨b, off + k * 2 + 1, none⟩ = some (.slice Av mv cv)) := Lib.hid fun W hW =>
        ⟨hW, (hW.cell (p := ⟨b, off + k * 2, none⟩) (World.block_lt_of_cell? w ⟨b, off + k * 2, none⟩ cc0)).trans cc0, (hW.cell (p := ⟨b, off + k * 2 + 1, none⟩) (World.block_lt_of_cell? w ⟨b, off + k * 2 + 1, none⟩ cc1)).trans cc1⟩
      have hlens := HL.out _ (List.getElem_mem hkl)
      rw [r0.len, r1.len] at hlens
      obtain ⟨hl1, hl2⟩ := hlens
      have HPK := Lib.hid (show ps.take (k + 1) = ps.take k ++ [ps[k]] from take_snoc' ps k hkl)
      have hrl : rs.length ≤ 2000000 := by
        have h1 := congrArg List.length HP.out
        rw [psOf_len, List.length_take] at h1
        omega
      clear hc cc0 cc1
      generalize ps[k] = p at *
      have HOW := HO.out
      have hbw := HB.out
      obtain ⟨Av0, cv0, rfl, _⟩ := HO.out.form
      obtain ⟨_, c0, c1⟩ := KS.out _ hbw
      go_upto_region 5 with (fail)
      go_region_held3 (fun (w' : World) => Below w.heap.size w w' ∧ w'.cell? ⟨b, off + k * 2, none⟩ = some (.slice Ak mk ck) ∧ w'.cell? ⟨b, off + k * 2 + 1, none⟩ = some (.slice Av mv cv))
        (first | assumption | exact KS.out _ (Below.drew hbw) | exact KS.out _ (below_drewN hbw _) | exact KS.out _ hB7 | exact KS.out _ hB6 | exact KS.out _ hB5 | exact KS.out _ (Below.alloc (And.left (by assumption)) (Below.size (And.left (by assumption))) _))
        (first
          | (refine step_app_q (w := w6) (by rfl) (.tmp 10) (.tmp 26) (by rfl) w.heap.size _ rs (by rfl) (HOW.below hQ6) ⟨(.slice A5 m5 c5), (.slice A6 m6 c6), p⟩ (hk5.mono hbw.size) (hv6.mono hbw.size) (by rfl) hrl hB6.size ?_; intro v7 w7 hv7 hb7; have hB7 : Below w.heap.size w w7 := hB6.trans hb7)
          | (refine step_app_q (w := w6) (by rfl) (.tmp 10) (.tmp 26) (by rfl) w.heap.size _ rs (by rfl) (HOW.below hQ6) ⟨(.slice A6 m6 c6), (.slice A5 m5 c5), p⟩ (hv6.mono hbw.size) (hk5.mono hbw.size) (by rfl) hrl hB6.size ?_; intro v7 w7 hv7 hb7; have hB7 : Below w.heap.size w w7 := hB6.trans hb7)
          | (refine step_app_n (by rfl) (.tmp 11) (.tmp 16) (by rfl) wr.heap.size _ [] (by rfl) hOther Ak mk ck p.key (by rfl) (r0.below (And.left (by assumption))) (by simp; omega) hQ5.size ?_; intro v6 w6 hv6 hb6 hg6 ho6; have hQ6 := hQ5.trans hb6; have hk5 := hv5.keep hg6 hne; have hB6 : Below w.heap.size w w6 := hbw.trans (hQ6.mono hbw.size); obtain ⟨A6, m6, c6, rfl, _⟩ := hv6.form)
          | (refine step_app_n (by rfl) (.tmp 11) (.tmp 16) (by rfl) wr.heap.size _ [] (by rfl) (OwnB.empty w5 hQ5.size) Ak mk ck p.key (by rfl) (r0.below (And.left (by assumption))) (by simp; omega) (by simp; have := hQ5.size; omega) ?_; intro v6 w6 hv6 hb6 hg6 ho6; have hQ6 := (hQ5.alloc hQ5.size e0).trans hb6; have hk5 := (hv5.alloc _).keep hg6 (fun g hg => by have := (hv5.block g hg).2; simp [Value.ownBlock]; omega); have hB6 : Below w.heap.size w w6 := hbw.trans (hQ6.mono hbw.size); obtain ⟨A6, m6, c6, rfl, _⟩ := hv6.form)
          | (refine step_app_n (by rfl) (.tmp 11) (.tmp 16) (by rfl) wr.heap.size _ [] (by rfl) (own_2a wr (Nat.le_refl _)) Ak mk ck p.key (by rfl) (r0.below (And.left (by assumption))) (by simp; omega) (by simp [World.drew]; omega) ?_; intro v5 w5 hv5 hb5 hg5 ho5; have hRR : Below wr.heap.size wr ((wr.alloc e0).alloc e0).drew := (((Below.refl _ wr).alloc (Nat.le_refl _) e0).alloc (by simp) e0).drew; have hQ5 := hRR.trans hb5; obtain ⟨hOther, hne⟩ := two_a (W := wr) hg5 ho5 (Nat.le_refl _); have hB5 : Below w.heap.size w w5 := hbw.trans (hQ5.mono hbw.size); obtain ⟨A5, m5, c5, rfl, _⟩ := hv5.form)
          | (refine step_app_n (by rfl) (.tmp 11) (.tmp 16) (by rfl) wr.heap.size _ [] (by rfl) (own_2b wr (Nat.le_refl _)) Ak mk ck p.key (by rfl) (r0.below (And.left (by assumption))) (by simp; omega) (by simp [World.drew]; omega) ?_; intro v5 w5 hv5 hb5 hg5 ho5; have hRR : Below wr.heap.size wr ((wr.alloc e0).alloc e0).drew := (((Below.refl _ wr).alloc (Nat.le_refl _) e0).alloc (by simp) e0).drew; have hQ5 := hRR.trans hb5; obtain ⟨hOther, hne⟩ := two_b (W := wr) hg5 ho5 (Nat.le_refl _); have hB5 : Below w.heap.size w w5 := hbw.trans (hQ5.mono hbw.size); obtain ⟨A5, m5, c5, rfl, _⟩ := hv5.form)
          | (refine step_app_n (by rfl) (.tmp 11) (.tmp 16) (by rfl) wr.heap.size _ [] (by rfl) (own_1 wr (Nat.le_refl _)) Ak mk ck p.key (by rfl) (r0.below (And.left (by assumption))) (by simp; omega) (by simp [World.drew]) ?_; intro v5 w5 hv5 hb5 hg5 ho5; have hRR : Below wr.heap.size wr (wr.alloc e0).drew := ((Below.refl _ wr).alloc (Nat.le_refl _) e0).drew; have hQ5 := hRR.trans hb5; have hB5 : Below w.heap.size w w5 := hbw.trans (hQ5.mono hbw.size); obtain ⟨A5, m5, c5, rfl, _⟩ := hv5.form)
          | (refine step_app_n (by rfl) (.tmp 18) (.tmp 23) (by rfl) wr.heap.size _ [] (by rfl) hOther Av mv cv p.val (by rfl) (r1.below (And.left (by assumption))) (by simp; omega) hQ5.size ?_; intro v6 w6 hv6 hb6 hg6 ho6; have hQ6 := hQ5.trans hb6; have hk5 := hv5.keep hg6 hne; have hB6 : Below w.heap.size w w6 := hbw.trans (hQ6.mono hbw.size); obtain ⟨A6, m6, c6, rfl, _⟩ := hv6.form)
          | (refine step_app_n (by rfl) (.tmp 18) (.tmp 23) (by rfl) wr.heap.size _ [] (by rfl) (OwnB.empty w5 hQ5.size) Av mv cv p.val (by rfl) (r1.below (And.left (by assumption))) (by simp; omega) (by simp; have := hQ5.size; omega) ?_; intro v6 w6 hv6 hb6 hg6 ho6; have hQ6 := (hQ5.alloc hQ5.size e0).trans hb6; have hk5 := (hv5.alloc _).keep hg6 (fun g hg => by have := (hv5.block g hg).2; simp [Value.ownBlock]; omega); have hB6 : Below w.heap.size w w6 := hbw.trans (hQ6.mono hbw.size); obtain ⟨A6, m6, c6, rfl, _⟩ := hv6.form)
          | (refine step_app_n (by rfl) (.tmp 18) (.tmp 23) (by rfl) wr.heap.size _ [] (by rfl) (own_2a wr (Nat.le_refl _)) Av mv cv p.val (by rfl) (r1.below (And.left (by assumption))) (by simp; omega) (by simp [World.drew]; omega) ?_; intro v5 w5 hv5 hb5 hg5 ho5; have hRR : Below wr.heap.size wr ((wr.alloc e0).alloc e0).drew := (((Below.refl _ wr).alloc (Nat.le_refl _) e0).alloc (by simp) e0).drew; have hQ5 := hRR.trans hb5; obtain ⟨hOther, hne⟩ := two_a (W := wr) hg5 ho5 (Nat.le_refl _); have hB5 : Below w.heap.size w w5 := hbw.trans (hQ5.mono hbw.size); obtain ⟨A5, m5, c5, rfl, _⟩ := hv5.form)
          | (refine step_app_n (by rfl) (.tmp 18) (.tmp 23) (by rfl) wr.heap.size _ [] (by rfl) (own_2b wr (Nat.le_refl _)) Av mv cv p.val (by rfl) (r1.below (And.left (by assumption))) (by simp; omega) (by simp [World.drew]; omega) ?_; intro v5 w5 hv5 hb5 hg5 ho5; have hRR : Below wr.heap.size wr ((wr.alloc e0).alloc e0).drew := (((Below.refl _ wr).alloc (Nat.le_refl _) e0).alloc (by simp) e0).drew; have hQ5 := hRR.trans hb5; obtain ⟨hOther, hne⟩ := two_b (W := wr) hg5 ho5 (Nat.le_refl _); have hB5 : Below w.heap.size w w5 := hbw.trans (hQ5.mono hbw.size); obtain ⟨A5, m5, c5, rfl, _⟩ := hv5.form)
          | (refine step_app_n (by rfl) (.tmp 18) (.tmp 23) (by rfl) wr.heap.size _ [] (by rfl) (own_1 wr (Nat.le_refl _)) Av mv cv p.val (by rfl) (r1.below (And.left (by assumption))) (by simp; omega) (by simp [World.drew]) ?_; intro v5 w5 hv5 hb5 hg5 ho5; have hRR : Below wr.heap.size wr (wr.alloc e0).drew := ((Below.refl _ wr).alloc (Nat.le_refl _) e0).drew; have hQ5 := hRR.trans hb5; have hB5 : Below w.heap.size w w5 := hbw.trans (hQ5.mono hbw.size); obtain ⟨A5, m5, c5, rfl, _⟩ := hv5.form)
        )
      all_goals
        have HV7 := Lib.hid hv7
        clear hv5 hv6 hv7 hk5
        go_wp2
        go_roundw
        case rel => exact ⟨k + 1, _, by omega, by go_num, Lib.hid (by rw [psOf_snoc, HP.out, HPK.out]), HV7, Lib.hid hB7⟩
        case measure => (try simp [intOf]) <;> (try omega)
    · have htk : ps.take k = ps := List.take_of_length_le (by rw [HN.out]; omega)
      rw [htk] at HP
      go_wp2
      go_ret
      exact ⟨_, rs, rfl, HP.out, HO.out, HB.out⟩
end Go.Proofs.Ythaciglechijkaa
