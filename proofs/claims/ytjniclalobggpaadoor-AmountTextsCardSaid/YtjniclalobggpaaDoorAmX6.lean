/-
  The walk of the reference's Digits. No statement is proved here.
-/
import Derived.Deep.CutRange
import Derived.Test.YtjniclalobggpaaDoorAmX5
import Derived.Test.YtjniclalobggpaaDoorAmN11
namespace Go.Proofs.YtjniclalobggpaaDoor
open Go.RowKit Go.Shelf Go.Lib
set_option linter.unusedVariables false

def strLen : Value → Nat
  | .string s => s.size
  | _ => 0
/-- Where the digits of N stand when m is left and S is written. -/
def DigAt (N m : Nat) (S : List UInt8) : Prop := (S = [] ∧ m = N) ∨ (S ≠ [] ∧ ((0 < m ∧ Lib.decDigits N = Lib.decDigits m ++ S) ∨ (m = 0 ∧ Lib.decDigits N = S)))
theorem DigAt.len {N m : Nat} {S : List UInt8} (h : DigAt N m S) : S.length ≤ Lib.nDigits N := by
  rcases h with ⟨rfl, _⟩ | ⟨_, ⟨_, h⟩ | ⟨_, h⟩⟩
  · simp
  · have := congrArg List.length h
    rw [Lib.decDigits_length, List.length_append] at this
    omega
  · rw [← h, Lib.decDigits_length]; exact Nat.le_refl _
theorem DigAt.step {N m : Nat} {S : List UInt8} (h : DigAt N m S) (hm : S = [] ∨ 0 < m) : DigAt N (m / 10) (UInt8.ofNat (48 + m % 10) :: S) := by
  refine .inr ⟨by simp, ?_⟩
  have key : Lib.decDigits N = Lib.decDigits m ++ S := by
    rcases h with ⟨rfl, rfl⟩ | ⟨h1, ⟨_, h⟩ | ⟨h2, h⟩⟩
    · simp
    · exact h
    · rcases hm with h3 | h3
      · exact absurd h3 h1
      · omega
  rcases Nat.lt_or_ge m 10 with h1 | h1
  · right
    refine ⟨by omega, ?_⟩
    rw [key, dec_small m h1, Nat.mod_eq_of_lt h1]
    rfl
  · left
    refine ⟨by omega, ?_⟩
    rw [key, dec_rec m h1, List.append_assoc]
    rfl
theorem DigAt.fin {N m : Nat} {S : List UInt8} (h : DigAt N m S) (h0 : S ≠ []) (hm : m = 0) : S = Lib.decDigits N := by
  rcases h with ⟨h1, _⟩ | ⟨_, ⟨h1, _⟩ | ⟨_, h⟩⟩
  · exact absurd h1 h0
  · omega
  · exact h.symm
theorem DigAt.le {N m : Nat} {S : List UInt8} (h : DigAt N m S) : m ≤ N := by
  rcases h with ⟨_, rfl⟩ | ⟨_, ⟨_, h⟩ | ⟨h, _⟩⟩
  · exact Nat.le_refl _
  · have h2 := dec_num N
    rw [h] at h2
    unfold numOf at h2
    rw [numFrom_append] at h2
    have h3 : numFrom 0 (Lib.decDigits m) = m := dec_num m
    rw [h3] at h2
    have key : ∀ (l : List UInt8) (n : Nat), n ≤ numFrom n l := by
      intro l
      induction l with
      | nil => intro n; exact Nat.le_refl _
      | cons c l ih => intro n; exact Nat.le_trans (show n ≤ n * 10 + (c.toNat - 48) by omega) (ih _)
    have := key S m
    omega
  · omega
/-- The walk's memory: n's block, and the blocks of q and r if they are there. -/
structure DgSt (b n0 m : Nat) (w v : World) (A B : Option (Nat × Array Value)) : Prop where
  hn : v.heap[n0]? = some (.cells (row20 (dg m)) 59 (0, 0))
  bel : Below b w v
  ha : ∀ g cs, A = some (g, cs) → v.heap[g]? = some (.cells cs 59 (0, 0)) ∧ b ≤ g ∧ n0 < g
  hb : ∀ g cs, B = some (g, cs) → v.heap[g]? = some (.cells cs 59 (0, 0)) ∧ b ≤ g ∧ n0 < g
  ne : ∀ g cs g' cs', A = some (g, cs) → B = some (g', cs') → g ≠ g'
theorem DgSt.start {b n0 m : Nat} {w v : World} (h : v.heap[n0]? = some (.cells (row20 (dg m)) 59 (0, 0))) (hb : Below b w v) : DgSt b n0 m w v none none :=
  ⟨h, hb, fun _ _ e => (by cases e), fun _ _ e => (by cases e), fun _ _ _ _ e _ => (by cases e)⟩
theorem DgSt.below {b n0 m : Nat} {w v v' : World} {A B : Option (Nat × Array Value)} (S : DgSt b n0 m w v A B) (hbw : b ≤ v.heap.size) (h : Below v.heap.size v v') : DgSt b n0 m w v' A B :=
  ⟨(h.block _ (heap_lt S.hn)).trans S.hn, S.bel.trans (h.mono hbw), fun g cs e => ⟨(h.block _ (heap_lt (S.ha g cs e).1)).trans (S.ha g cs e).1, (S.ha g cs e).2⟩, fun g cs e => ⟨(h.block _ (heap_lt (S.hb g cs e).1)).trans (S.hb g cs e).1, (S.hb g cs e).2⟩, S.ne⟩
theorem DgSt.allocA {b n0 m : Nat} {w v : World} {B : Option (Nat × Array Value)} (S : DgSt b n0 m w v none B) (hbw : b ≤ v.heap.size) : DgSt b n0 m w (v.alloc (.cells z20 59)) (some (v.heap.size, z20)) B := by
  have S2 := S.below hbw ((Below.refl _ _).alloc (Nat.le_refl _) (.cells z20 59))
  refine ⟨S2.hn, S2.bel, fun g cs e => ?_, S2.hb, fun g cs g' cs' e e' => ?_⟩
  · cases e
    exact ⟨heap_alloc_new v _, hbw, heap_lt S.hn⟩
  · cases e
    have := heap_lt (S.hb g' cs' e').1
    omega
theorem DgSt.allocB {b n0 m : Nat} {w v : World} {A : Option (Nat × Array Value)} (S : DgSt b n0 m w v A none) (hbw : b ≤ v.heap.size) : DgSt b n0 m w (v.alloc (.cells z20 59)) A (some (v.heap.size, z20)) := by
  have S2 := S.below hbw ((Below.refl _ _).alloc (Nat.le_refl _) (.cells z20 59))
  refine ⟨S2.hn, S2.bel, S2.ha, fun g cs e => ?_, fun g cs g' cs' e e' => ?_⟩
  · cases e
    exact ⟨heap_alloc_new v _, hbw, heap_lt S.hn⟩
  · cases e'
    have := heap_lt (S.ha g cs e).1
    omega
theorem DgSt.setA {b n0 m g : Nat} {w v : World} {cs : Array Value} {B : Option (Nat × Array Value)} (S : DgSt b n0 m w v (some (g, cs)) B) (cs' : Array Value) : DgSt b n0 m w (v.setRow g cs') (some (g, cs')) B := by
  obtain ⟨a1, a2, a3⟩ := S.ha g cs rfl
  refine ⟨(setRow_other _ _ _ _ (by omega)).trans S.hn, S.bel.setRow a2 _, fun g2 c2 e => ?_, fun g2 c2 e => ?_, fun g2 c2 g3 c3 e e' => ?_⟩
  · cases e
    exact ⟨setRow_heap _ _ _ _ _ _ a1, a2, a3⟩
  · obtain ⟨b1, b2⟩ := S.hb g2 c2 e
    exact ⟨(setRow_other _ _ _ _ (S.ne _ _ _ _ rfl e).symm).trans b1, b2⟩
  · cases e
    exact S.ne _ _ _ _ rfl e'
theorem DgSt.setB {b n0 m g : Nat} {w v : World} {cs : Array Value} {A : Option (Nat × Array Value)} (S : DgSt b n0 m w v A (some (g, cs))) (cs' : Array Value) : DgSt b n0 m w (v.setRow g cs') A (some (g, cs')) := by
  obtain ⟨a1, a2, a3⟩ := S.hb g cs rfl
  refine ⟨(setRow_other _ _ _ _ (by omega)).trans S.hn, S.bel.setRow a2 _, fun g2 c2 e => ?_, fun g2 c2 e => ?_, fun g2 c2 g3 c3 e e' => ?_⟩
  · obtain ⟨b1, b2⟩ := S.ha g2 c2 e
    exact ⟨(setRow_other _ _ _ _ (S.ne _ _ _ _ e rfl)).trans b1, b2⟩
  · cases e
    exact ⟨setRow_heap _ _ _ _ _ _ a1, a2, a3⟩
  · cases e'
    exact S.ne _ _ _ _ e rfl
theorem wpList_load_row_if {P : Program} {ops : Array Oper} {rest : List Oper} {o : Oper} {a : Act} {w : World} {Q : Exit → Act → World → Prop} (hw : Region.wanted o (yielded ops a.tmps) = true) (ty : TypeId) (x : Operand) (ho : o.op = .load ty x)
    (g : Nat) (hx : a.eval x = .pointer (some ⟨g, 0, none⟩)) (t : TypeId) (cs : Array Value) (fr : Nat × Nat) (d : TypeDesc) (hg : w.heap[g]? = some (.cells cs t fr))
    (hu : P.underlying ty = some d) (hd : (match d with | .struct _ | .array _ _ => true | _ => false) = true) (hi : (P.info? ty).map (·.size) = some cs.size)
    (h : wpList P ops Q rest (a.put o.dst (.agg cs)) w) : wpList P ops Q (o :: rest) a w := by
  unfold wpList
  rw [if_pos hw]
  exact .inl (wp_load_row ty x ho g hx t cs fr d hg hu hd hi h)
theorem step_store_row0 {P : Program} {ops : Array Oper} {o : Oper} {a : Act} {w : World} {K : Act → World → Prop} {Q : Exit → Act → World → Prop} {E : Prop} (hgd : o.guard = none) (hdst : o.dst = none) (ty : TypeId) (x y : Operand) (ho : o.op = .store ty x y)
    (g : Nat) (cells : Array Value) (hx : a.eval x = .pointer (some ⟨g, 0, none⟩)) (hy : a.eval y = .agg cells)
    (t : TypeId) (old : Array Value) (hg : w.heap[g]? = some (.cells old t (0, 0))) (hi : (P.info? ty).map (·.size) = some cells.size)
    (hold : old.size = cells.size) (h1 : cells.all (·.oneCell') = true)
    (h : K a (w.setRow g cells)) : if Region.wanted o (yielded ops a.tmps) = true then Oper.wp P o a w K Q else E := by
  refine step_store_row hgd ty x y ho g cells hx hy t old hg hi hold h1 ?_
  rw [hdst]
  exact h
theorem digit_text (d : Nat) (h : d < 10) : (⟨#[48, 49, 50, 51, 52, 53, 54, 55, 56, 57]⟩ : ByteArray).extract d (d + 1) = ⟨#[UInt8.ofNat (48 + d)]⟩ := by
  match d, h with
  | 0, _ => decide +kernel
  | 1, _ => decide +kernel
  | 2, _ => decide +kernel
  | 3, _ => decide +kernel
  | 4, _ => decide +kernel
  | 5, _ => decide +kernel
  | 6, _ => decide +kernel
  | 7, _ => decide +kernel
  | 8, _ => decide +kernel
  | 9, _ => decide +kernel
theorem cons_text (c : UInt8) (S : List UInt8) : (⟨#[c]⟩ : ByteArray) ++ ⟨S.toArray⟩ = ⟨(c :: S).toArray⟩ := by
  apply ByteArray.ext
  simp
theorem nDigits_20 (u : Nat) (h : u < 18446744073709551616) : Lib.nDigits u ≤ 20 := by
  have h1 := nDigits_le (u / 1000) (by omega)
  rcases Nat.lt_or_ge u 10 with h3 | h3
  · rw [Lib.nDigits_small h3]; omega
  rw [Lib.nDigits_big (by omega)]
  rcases Nat.lt_or_ge (u / 10) 10 with h4 | h4
  · rw [Lib.nDigits_small h4]; omega
  rw [Lib.nDigits_big (by omega)]
  rcases Nat.lt_or_ge (u / 10 / 10) 10 with h5 | h5
  · rw [Lib.nDigits_small h5]; omega
  rw [Lib.nDigits_big (by omega), show u / 10 / 10 / 10 = u / 1000 by omega]
  omega
set_option maxRecDepth 100000 in
set_option maxHeartbeats 4000000 in
theorem Digits_any (N : Nat) (w : World) (hN : N < 18446744073709551616) :
    Calls Tryd.prog 54 #[natOf N] w fun e w' => e = .returned (.string ⟨(Lib.decDigits N).toArray⟩) ∧ Below w.heap.size w w' := by
  have hz := zero20
  have e1 : (row20 (dg N)).size = 20 := row20_size _
  have OF : Hid (∀ w, Calls Tryd.prog 38 #[.int .u64 10] w fun e w' => e = .returned (natOf 10) ∧ Below w.heap.size w w') := Lib.hid (fun w => Of_any 10 w (by omega))
  have OV := Lib.hid (fun (m : Nat) (hm : m ≤ N) w => Over_any m 10 w (by omega) (by have := pow20_big; omega) (by have := pow20_big; omega))
  have CM := Lib.hid (fun (m : Nat) (hm : m ≤ N) w => Cmp_any m 0 w (by have := pow20_big; omega) (by have := pow20_big; omega))
  have ez : row20 (dg 0) = z20 := row20_ext _ _ fun i _ => by simp [dg]
  unfold natOf at *
  rw [ez] at CM
  have HN := Lib.hid hN
  have HF : Hid (∀ m S, DigAt N m S → S ≠ [] → m = 0 → S = Lib.decDigits N) := Lib.hid fun m S h => h.fin
  clear hN
  generalize Lib.decDigits N = R at *
  go_enter Tryd.func54, Tryd.ntmps54
  go_wp2
  have h0 : (w.alloc (.cells (row20 (dg N)) 59)).heap[w.heap.size]? = some (.cells (row20 (dg N)) 59 (0, 0)) := heap_alloc_new w _
  have HB := (Below.refl w.heap.size w).alloc (Nat.le_refl _) (.cells (row20 (dg N)) 59)
  go_loopw [3] (fun t wr => ∃ (m : Nat) (S : List UInt8), t = .string ⟨S.toArray⟩ ∧ DigAt N m S ∧ DgSt w.heap.size w.heap.size m w wr none none) (fun t _ => Lib.nDigits N + 1 - strLen t)
  case atStart => exact ⟨N, [], rfl, .inl ⟨rfl, rfl⟩, DgSt.start h0 HB⟩
  case round =>
    clear h0 HB
    obtain ⟨m, S, rfl, hD, hS⟩ := hrel
    have G0 := hS.hn
    have HD := Lib.hid hD
    have HS := Lib.hid hS
    clear hD hS
    go_upto_region 2 with (fail)
    go_cut [13] (fun t wx => t = .bool (decide (S = [] ∨ 0 < m)) ∧ DgSt w.heap.size w.heap.size m w wx none none)
    case first =>
      rcases S with _ | ⟨c, S⟩
      · go_wp2
        go_meet
        exact ⟨by simp, HS.out⟩
      · go_wp2_with (first | (refine wpList_load_row rfl 59 _ rfl _ rfl _ _ _ _ G0 Tryd.underlying59 rfl (infoN _) ?_) | (refine wpList_load_row_if (by rfl) 59 _ rfl _ rfl _ _ _ _ G0 Tryd.underlying59 rfl (infoN _) ?_))
        refine (CM.out m HD.out.le _).mono ?_
        rintro e v ⟨rfl, hb⟩
        have D := HS.out.below HS.out.bel.size hb
        clear hb G0 HS
        go_wp2
        go_meet
        refine ⟨?_, D⟩
        congr 1
        unfold cmpOf
        by_cases h0 : 0 < m
        · rw [if_neg (by omega), if_pos h0]; simp [h0]
        · rw [if_neg (by omega), if_neg h0]; simp [h0]
    case rest =>
      obtain ⟨rfl, hS⟩ := hcut
      have HS := Lib.hid hS
      clear hS G0
      by_cases hgo : S = [] ∨ 0 < m
      · have HM := Lib.hid HD.out.le
        have HD2 := Lib.hid (HD.out.step hgo)
        rw [decide_eq_true hgo]
        have D := HS.out.below HS.out.bel.size (Below.refl _ _).drew
        clear HS HD hgo
        go_wp2_with fail
        go_cut [4, 5] (fun p q wx => ∃ g g', p = .pointer (some ⟨g, 0, none⟩) ∧ q = .pointer (some ⟨g', 0, none⟩) ∧ DgSt w.heap.size w.heap.size m w wx (some (g, row20 (dg (m / 10)))) (some (g', row20 (dg (m % 10)))))
        case first =>
          -- REGION BEGIN
          refine wp_region_held (S := fun v => v.heap[w.heap.size]? = some (.cells (row20 (dg m)) 59 (0, 0))) (by kernel_rfl) ?_
          change wpAnyH _ _ _ _ _ _ _ _ (World.drew _)
          refine wpAnyH_take (i := 0) rfl (by kernel_rfl) (by kernel_rfl) (by kernel_rfl) (fun _ _ _ h => h) (yields_row (by rfl) 59 _ rfl _ rfl _ _ _ _ (fun _ h => h) Tryd.underlying59 rfl (infoN _)) D.hn ?_
          generalize wc.drew = v0 at *
          refine wpAnyH_ready (rs := [1, 6, 7]) (by kernel_rfl) (by simp) ?_
          refine AllReadyH.cons rfl (fun K hK => ?_) (AllReadyH.cons rfl (fun K hK => ?_) (AllReadyH.cons rfl (fun K hK => ?_) (AllReadyH.nil)))
          · go_simp
            refine (OF.out _).mono ?_
            rintro e v1 ⟨rfl, hb⟩
            have D' := D.below D.bel.size hb
            clear D hb
            refine hK.out _ _ D'.hn fun _ => ?_
            clear hK K
            have D := D'
            clear D'
            refine wpAnyH_ready (rs := [2, 6, 7]) (by kernel_rfl) (by simp) ?_
            refine AllReadyH.cons rfl (fun K hK => ?_) (AllReadyH.cons rfl (fun K hK => ?_) (AllReadyH.cons rfl (fun K hK => ?_) (AllReadyH.nil)))
            · go_simp
              refine (OV.out m HM.out _).mono ?_
              rintro e v2 ⟨rfl, hb⟩
              have D' := D.below D.bel.size hb
              clear D hb
              refine hK.out _ _ D'.hn fun _ => ?_
              clear hK K
              have D := D'
              clear D'
              refine wpAnyH_take (i := 3) rfl (by kernel_rfl) (by kernel_rfl) (by kernel_rfl) (fun _ _ _ h => h) (.inl ⟨by rfl, fun _ _ => rfl⟩) D.hn ?_
              refine wpAnyH_take (i := 4) rfl (by kernel_rfl) (by kernel_rfl) (by kernel_rfl) (fun _ _ _ h => h) (.inl ⟨by rfl, fun _ _ => rfl⟩) D.hn ?_
              refine wpAnyH_take (i := 5) rfl (by kernel_rfl) (by kernel_rfl) (by kernel_rfl) (fun _ _ _ h => h) (.inl ⟨by rfl, fun _ _ => rfl⟩) D.hn ?_
              simp only [Act.put, List.getElem_toArray, List.getElem_cons_succ, List.getElem_cons_zero, List.setIfInBounds_toArray, List.set_cons_succ, List.set_cons_zero]
              refine wpAnyH_ready (rs := [6, 7]) (by kernel_rfl) (by simp) ?_
              refine AllReadyH.cons rfl (fun K hK => ?_) (AllReadyH.cons rfl (fun K hK => ?_) (AllReadyH.nil))
              · go_simp
                have D' := D.allocA D.bel.size
                clear D
                generalize v2.alloc (.cells z20 59) = v3 at *
                refine hK.out _ _ D'.hn fun _ => ?_
                clear hK K
                have D := D'
                clear D'
                refine wpAnyH_ready (rs := [7]) (by kernel_rfl) (by simp) ?_
                refine AllReadyH.cons rfl (fun K hK => ?_) (AllReadyH.nil)
                · go_simp
                  have D' := D.allocB D.bel.size
                  clear D
                  generalize v3.alloc (.cells z20 59) = v4 at *
                  refine hK.out _ _ D'.hn fun _ => ?_
                  clear hK K
                  have D := D'
                  clear D'
                  refine wpAnyH_ready (rs := [8]) (by kernel_rfl) (by simp) ?_
                  refine AllReadyH.cons rfl (fun K hK => ?_) AllReadyH.nil
                  refine step_store_row0 rfl rfl _ _ _ rfl _ _ rfl rfl _ _ (D.ha _ _ rfl).1 (infoN _) (by rw [row20_size]; rfl) (row20_one _) ?_
                  have D' := D.setA (row20 (dg (m / 10)))
                  clear D
                  refine hK.out _ _ D'.hn fun _ => ?_
                  clear hK K
                  have D := D'
                  clear D'
                  refine wpAnyH_ready (rs := [9]) (by kernel_rfl) (by simp) ?_
                  refine AllReadyH.cons rfl (fun K hK => ?_) AllReadyH.nil
                  refine step_store_row0 rfl rfl _ _ _ rfl _ _ rfl rfl _ _ (D.hb _ _ rfl).1 (infoN _) (by rw [row20_size]; rfl) (row20_one _) ?_
                  have D' := D.setB (row20 (dg (m % 10)))
                  clear D
                  refine hK.out _ _ D'.hn fun _ => ?_
                  clear hK K
                  refine wpAnyH_done (by kernel_rfl) ?_ _
                  go_wp2_with fail
                  go_meet
                  exact ⟨_, _, rfl, rfl, D'⟩
              · go_simp
                have D' := D.allocB D.bel.size
                clear D
                generalize v2.alloc (.cells z20 59) = v3 at *
                refine hK.out _ _ D'.hn fun _ => ?_
                clear hK K
                have D := D'
                clear D'
                refine wpAnyH_ready (rs := [6]) (by kernel_rfl) (by simp) ?_
                refine AllReadyH.cons rfl (fun K hK => ?_) (AllReadyH.nil)
                · go_simp
                  have D' := D.allocA D.bel.size
                  clear D
                  generalize v3.alloc (.cells z20 59) = v4 at *
                  refine hK.out _ _ D'.hn fun _ => ?_
                  clear hK K
                  have D := D'
                  clear D'
                  refine wpAnyH_ready (rs := [8]) (by kernel_rfl) (by simp) ?_
                  refine AllReadyH.cons rfl (fun K hK => ?_) AllReadyH.nil
                  refine step_store_row0 rfl rfl _ _ _ rfl _ _ rfl rfl _ _ (D.ha _ _ rfl).1 (infoN _) (by rw [row20_size]; rfl) (row20_one _) ?_
                  have D' := D.setA (row20 (dg (m / 10)))
                  clear D
                  refine hK.out _ _ D'.hn fun _ => ?_
                  clear hK K
                  have D := D'
                  clear D'
                  refine wpAnyH_ready (rs := [9]) (by kernel_rfl) (by simp) ?_
                  refine AllReadyH.cons rfl (fun K hK => ?_) AllReadyH.nil
                  refine step_store_row0 rfl rfl _ _ _ rfl _ _ rfl rfl _ _ (D.hb _ _ rfl).1 (infoN _) (by rw [row20_size]; rfl) (row20_one _) ?_
                  have D' := D.setB (row20 (dg (m % 10)))
                  clear D
                  refine hK.out _ _ D'.hn fun _ => ?_
                  clear hK K
                  refine wpAnyH_done (by kernel_rfl) ?_ _
                  go_wp2_with fail
                  go_meet
                  exact ⟨_, _, rfl, rfl, D'⟩
            · go_simp
              have D' := D.allocA D.bel.size
              clear D
              generalize v1.alloc (.cells z20 59) = v2 at *
              refine hK.out _ _ D'.hn fun _ => ?_
              clear hK K
              have D := D'
              clear D'
              refine wpAnyH_ready (rs := [2, 7]) (by kernel_rfl) (by simp) ?_
              refine AllReadyH.cons rfl (fun K hK => ?_) (AllReadyH.cons rfl (fun K hK => ?_) (AllReadyH.nil))
              · go_simp
                refine (OV.out m HM.out _).mono ?_
                rintro e v3 ⟨rfl, hb⟩
                have D' := D.below D.bel.size hb
                clear D hb
                refine hK.out _ _ D'.hn fun _ => ?_
                clear hK K
                have D := D'
                clear D'
                refine wpAnyH_take (i := 3) rfl (by kernel_rfl) (by kernel_rfl) (by kernel_rfl) (fun _ _ _ h => h) (.inl ⟨by rfl, fun _ _ => rfl⟩) D.hn ?_
                refine wpAnyH_take (i := 4) rfl (by kernel_rfl) (by kernel_rfl) (by kernel_rfl) (fun _ _ _ h => h) (.inl ⟨by rfl, fun _ _ => rfl⟩) D.hn ?_
                refine wpAnyH_take (i := 5) rfl (by kernel_rfl) (by kernel_rfl) (by kernel_rfl) (fun _ _ _ h => h) (.inl ⟨by rfl, fun _ _ => rfl⟩) D.hn ?_
                simp only [Act.put, List.getElem_toArray, List.getElem_cons_succ, List.getElem_cons_zero, List.setIfInBounds_toArray, List.set_cons_succ, List.set_cons_zero]
                refine wpAnyH_ready (rs := [7]) (by kernel_rfl) (by simp) ?_
                refine AllReadyH.cons rfl (fun K hK => ?_) (AllReadyH.nil)
                · go_simp
                  have D' := D.allocB D.bel.size
                  clear D
                  generalize v3.alloc (.cells z20 59) = v4 at *
                  refine hK.out _ _ D'.hn fun _ => ?_
                  clear hK K
                  have D := D'
                  clear D'
                  refine wpAnyH_ready (rs := [8]) (by kernel_rfl) (by simp) ?_
                  refine AllReadyH.cons rfl (fun K hK => ?_) AllReadyH.nil
                  refine step_store_row0 rfl rfl _ _ _ rfl _ _ rfl rfl _ _ (D.ha _ _ rfl).1 (infoN _) (by rw [row20_size]; rfl) (row20_one _) ?_
                  have D' := D.setA (row20 (dg (m / 10)))
                  clear D
                  refine hK.out _ _ D'.hn fun _ => ?_
                  clear hK K
                  have D := D'
                  clear D'
                  refine wpAnyH_ready (rs := [9]) (by kernel_rfl) (by simp) ?_
                  refine AllReadyH.cons rfl (fun K hK => ?_) AllReadyH.nil
                  refine step_store_row0 rfl rfl _ _ _ rfl _ _ rfl rfl _ _ (D.hb _ _ rfl).1 (infoN _) (by rw [row20_size]; rfl) (row20_one _) ?_
                  have D' := D.setB (row20 (dg (m % 10)))
                  clear D
                  refine hK.out _ _ D'.hn fun _ => ?_
                  clear hK K
                  refine wpAnyH_done (by kernel_rfl) ?_ _
                  go_wp2_with fail
                  go_meet
                  exact ⟨_, _, rfl, rfl, D'⟩
              · go_simp
                have D' := D.allocB D.bel.size
                clear D
                generalize v2.alloc (.cells z20 59) = v3 at *
                refine hK.out _ _ D'.hn fun _ => ?_
                clear hK K
                have D := D'
                clear D'
                refine wpAnyH_ready (rs := [2]) (by kernel_rfl) (by simp) ?_
                refine AllReadyH.cons rfl (fun K hK => ?_) (AllReadyH.nil)
                · go_simp
                  refine (OV.out m HM.out _).mono ?_
                  rintro e v4 ⟨rfl, hb⟩
                  have D' := D.below D.bel.size hb
                  clear D hb
                  refine hK.out _ _ D'.hn fun _ => ?_
                  clear hK K
                  have D := D'
                  clear D'
                  refine wpAnyH_take (i := 3) rfl (by kernel_rfl) (by kernel_rfl) (by kernel_rfl) (fun _ _ _ h => h) (.inl ⟨by rfl, fun _ _ => rfl⟩) D.hn ?_
                  refine wpAnyH_take (i := 4) rfl (by kernel_rfl) (by kernel_rfl) (by kernel_rfl) (fun _ _ _ h => h) (.inl ⟨by rfl, fun _ _ => rfl⟩) D.hn ?_
                  refine wpAnyH_take (i := 5) rfl (by kernel_rfl) (by kernel_rfl) (by kernel_rfl) (fun _ _ _ h => h) (.inl ⟨by rfl, fun _ _ => rfl⟩) D.hn ?_
                  simp only [Act.put, List.getElem_toArray, List.getElem_cons_succ, List.getElem_cons_zero, List.setIfInBounds_toArray, List.set_cons_succ, List.set_cons_zero]
                  refine wpAnyH_ready (rs := [8]) (by kernel_rfl) (by simp) ?_
                  refine AllReadyH.cons rfl (fun K hK => ?_) AllReadyH.nil
                  refine step_store_row0 rfl rfl _ _ _ rfl _ _ rfl rfl _ _ (D.ha _ _ rfl).1 (infoN _) (by rw [row20_size]; rfl) (row20_one _) ?_
                  have D' := D.setA (row20 (dg (m / 10)))
                  clear D
                  refine hK.out _ _ D'.hn fun _ => ?_
                  clear hK K
                  have D := D'
                  clear D'
                  refine wpAnyH_ready (rs := [9]) (by kernel_rfl) (by simp) ?_
                  refine AllReadyH.cons rfl (fun K hK => ?_) AllReadyH.nil
                  refine step_store_row0 rfl rfl _ _ _ rfl _ _ rfl rfl _ _ (D.hb _ _ rfl).1 (infoN _) (by rw [row20_size]; rfl) (row20_one _) ?_
                  have D' := D.setB (row20 (dg (m % 10)))
                  clear D
                  refine hK.out _ _ D'.hn fun _ => ?_
                  clear hK K
                  refine wpAnyH_done (by kernel_rfl) ?_ _
                  go_wp2_with fail
                  go_meet
                  exact ⟨_, _, rfl, rfl, D'⟩
            · go_simp
              have D' := D.allocB D.bel.size
              clear D
              generalize v1.alloc (.cells z20 59) = v2 at *
              refine hK.out _ _ D'.hn fun _ => ?_
              clear hK K
              have D := D'
              clear D'
              refine wpAnyH_ready (rs := [2, 6]) (by kernel_rfl) (by simp) ?_
              refine AllReadyH.cons rfl (fun K hK => ?_) (AllReadyH.cons rfl (fun K hK => ?_) (AllReadyH.nil))
              · go_simp
                refine (OV.out m HM.out _).mono ?_
                rintro e v3 ⟨rfl, hb⟩
                have D' := D.below D.bel.size hb
                clear D hb
                refine hK.out _ _ D'.hn fun _ => ?_
                clear hK K
                have D := D'
                clear D'
                refine wpAnyH_take (i := 3) rfl (by kernel_rfl) (by kernel_rfl) (by kernel_rfl) (fun _ _ _ h => h) (.inl ⟨by rfl, fun _ _ => rfl⟩) D.hn ?_
                refine wpAnyH_take (i := 4) rfl (by kernel_rfl) (by kernel_rfl) (by kernel_rfl) (fun _ _ _ h => h) (.inl ⟨by rfl, fun _ _ => rfl⟩) D.hn ?_
                refine wpAnyH_take (i := 5) rfl (by kernel_rfl) (by kernel_rfl) (by kernel_rfl) (fun _ _ _ h => h) (.inl ⟨by rfl, fun _ _ => rfl⟩) D.hn ?_
                simp only [Act.put, List.getElem_toArray, List.getElem_cons_succ, List.getElem_cons_zero, List.setIfInBounds_toArray, List.set_cons_succ, List.set_cons_zero]
                refine wpAnyH_ready (rs := [6]) (by kernel_rfl) (by simp) ?_
                refine AllReadyH.cons rfl (fun K hK => ?_) (AllReadyH.nil)
                · go_simp
                  have D' := D.allocA D.bel.size
                  clear D
                  generalize v3.alloc (.cells z20 59) = v4 at *
                  refine hK.out _ _ D'.hn fun _ => ?_
                  clear hK K
                  have D := D'
                  clear D'
                  refine wpAnyH_ready (rs := [8]) (by kernel_rfl) (by simp) ?_
                  refine AllReadyH.cons rfl (fun K hK => ?_) AllReadyH.nil
                  refine step_store_row0 rfl rfl _ _ _ rfl _ _ rfl rfl _ _ (D.ha _ _ rfl).1 (infoN _) (by rw [row20_size]; rfl) (row20_one _) ?_
                  have D' := D.setA (row20 (dg (m / 10)))
                  clear D
                  refine hK.out _ _ D'.hn fun _ => ?_
                  clear hK K
                  have D := D'
                  clear D'
                  refine wpAnyH_ready (rs := [9]) (by kernel_rfl) (by simp) ?_
                  refine AllReadyH.cons rfl (fun K hK => ?_) AllReadyH.nil
                  refine step_store_row0 rfl rfl _ _ _ rfl _ _ rfl rfl _ _ (D.hb _ _ rfl).1 (infoN _) (by rw [row20_size]; rfl) (row20_one _) ?_
                  have D' := D.setB (row20 (dg (m % 10)))
                  clear D
                  refine hK.out _ _ D'.hn fun _ => ?_
                  clear hK K
                  refine wpAnyH_done (by kernel_rfl) ?_ _
                  go_wp2_with fail
                  go_meet
                  exact ⟨_, _, rfl, rfl, D'⟩
              · go_simp
                have D' := D.allocA D.bel.size
                clear D
                generalize v2.alloc (.cells z20 59) = v3 at *
                refine hK.out _ _ D'.hn fun _ => ?_
                clear hK K
                have D := D'
                clear D'
                refine wpAnyH_ready (rs := [2]) (by kernel_rfl) (by simp) ?_
                refine AllReadyH.cons rfl (fun K hK => ?_) (AllReadyH.nil)
                · go_simp
                  refine (OV.out m HM.out _).mono ?_
                  rintro e v4 ⟨rfl, hb⟩
                  have D' := D.below D.bel.size hb
                  clear D hb
                  refine hK.out _ _ D'.hn fun _ => ?_
                  clear hK K
                  have D := D'
                  clear D'
                  refine wpAnyH_take (i := 3) rfl (by kernel_rfl) (by kernel_rfl) (by kernel_rfl) (fun _ _ _ h => h) (.inl ⟨by rfl, fun _ _ => rfl⟩) D.hn ?_
                  refine wpAnyH_take (i := 4) rfl (by kernel_rfl) (by kernel_rfl) (by kernel_rfl) (fun _ _ _ h => h) (.inl ⟨by rfl, fun _ _ => rfl⟩) D.hn ?_
                  refine wpAnyH_take (i := 5) rfl (by kernel_rfl) (by kernel_rfl) (by kernel_rfl) (fun _ _ _ h => h) (.inl ⟨by rfl, fun _ _ => rfl⟩) D.hn ?_
                  simp only [Act.put, List.getElem_toArray, List.getElem_cons_succ, List.getElem_cons_zero, List.setIfInBounds_toArray, List.set_cons_succ, List.set_cons_zero]
                  refine wpAnyH_ready (rs := [8]) (by kernel_rfl) (by simp) ?_
                  refine AllReadyH.cons rfl (fun K hK => ?_) AllReadyH.nil
                  refine step_store_row0 rfl rfl _ _ _ rfl _ _ rfl rfl _ _ (D.ha _ _ rfl).1 (infoN _) (by rw [row20_size]; rfl) (row20_one _) ?_
                  have D' := D.setA (row20 (dg (m / 10)))
                  clear D
                  refine hK.out _ _ D'.hn fun _ => ?_
                  clear hK K
                  have D := D'
                  clear D'
                  refine wpAnyH_ready (rs := [9]) (by kernel_rfl) (by simp) ?_
                  refine AllReadyH.cons rfl (fun K hK => ?_) AllReadyH.nil
                  refine step_store_row0 rfl rfl _ _ _ rfl _ _ rfl rfl _ _ (D.hb _ _ rfl).1 (infoN _) (by rw [row20_size]; rfl) (row20_one _) ?_
                  have D' := D.setB (row20 (dg (m % 10)))
                  clear D
                  refine hK.out _ _ D'.hn fun _ => ?_
                  clear hK K
                  refine wpAnyH_done (by kernel_rfl) ?_ _
                  go_wp2_with fail
                  go_meet
                  exact ⟨_, _, rfl, rfl, D'⟩
          · go_simp
            have D' := D.allocA D.bel.size
            clear D
            generalize v0.alloc (.cells z20 59) = v1 at *
            refine hK.out _ _ D'.hn fun _ => ?_
            clear hK K
            have D := D'
            clear D'
            refine wpAnyH_ready (rs := [1, 7]) (by kernel_rfl) (by simp) ?_
            refine AllReadyH.cons rfl (fun K hK => ?_) (AllReadyH.cons rfl (fun K hK => ?_) (AllReadyH.nil))
            · go_simp
              refine (OF.out _).mono ?_
              rintro e v2 ⟨rfl, hb⟩
              have D' := D.below D.bel.size hb
              clear D hb
              refine hK.out _ _ D'.hn fun _ => ?_
              clear hK K
              have D := D'
              clear D'
              refine wpAnyH_ready (rs := [2, 7]) (by kernel_rfl) (by simp) ?_
              refine AllReadyH.cons rfl (fun K hK => ?_) (AllReadyH.cons rfl (fun K hK => ?_) (AllReadyH.nil))
              · go_simp
                refine (OV.out m HM.out _).mono ?_
                rintro e v3 ⟨rfl, hb⟩
                have D' := D.below D.bel.size hb
                clear D hb
                refine hK.out _ _ D'.hn fun _ => ?_
                clear hK K
                have D := D'
                clear D'
                refine wpAnyH_take (i := 3) rfl (by kernel_rfl) (by kernel_rfl) (by kernel_rfl) (fun _ _ _ h => h) (.inl ⟨by rfl, fun _ _ => rfl⟩) D.hn ?_
                refine wpAnyH_take (i := 4) rfl (by kernel_rfl) (by kernel_rfl) (by kernel_rfl) (fun _ _ _ h => h) (.inl ⟨by rfl, fun _ _ => rfl⟩) D.hn ?_
                refine wpAnyH_take (i := 5) rfl (by kernel_rfl) (by kernel_rfl) (by kernel_rfl) (fun _ _ _ h => h) (.inl ⟨by rfl, fun _ _ => rfl⟩) D.hn ?_
                simp only [Act.put, List.getElem_toArray, List.getElem_cons_succ, List.getElem_cons_zero, List.setIfInBounds_toArray, List.set_cons_succ, List.set_cons_zero]
                refine wpAnyH_ready (rs := [7]) (by kernel_rfl) (by simp) ?_
                refine AllReadyH.cons rfl (fun K hK => ?_) (AllReadyH.nil)
                · go_simp
                  have D' := D.allocB D.bel.size
                  clear D
                  generalize v3.alloc (.cells z20 59) = v4 at *
                  refine hK.out _ _ D'.hn fun _ => ?_
                  clear hK K
                  have D := D'
                  clear D'
                  refine wpAnyH_ready (rs := [8]) (by kernel_rfl) (by simp) ?_
                  refine AllReadyH.cons rfl (fun K hK => ?_) AllReadyH.nil
                  refine step_store_row0 rfl rfl _ _ _ rfl _ _ rfl rfl _ _ (D.ha _ _ rfl).1 (infoN _) (by rw [row20_size]; rfl) (row20_one _) ?_
                  have D' := D.setA (row20 (dg (m / 10)))
                  clear D
                  refine hK.out _ _ D'.hn fun _ => ?_
                  clear hK K
                  have D := D'
                  clear D'
                  refine wpAnyH_ready (rs := [9]) (by kernel_rfl) (by simp) ?_
                  refine AllReadyH.cons rfl (fun K hK => ?_) AllReadyH.nil
                  refine step_store_row0 rfl rfl _ _ _ rfl _ _ rfl rfl _ _ (D.hb _ _ rfl).1 (infoN _) (by rw [row20_size]; rfl) (row20_one _) ?_
                  have D' := D.setB (row20 (dg (m % 10)))
                  clear D
                  refine hK.out _ _ D'.hn fun _ => ?_
                  clear hK K
                  refine wpAnyH_done (by kernel_rfl) ?_ _
                  go_wp2_with fail
                  go_meet
                  exact ⟨_, _, rfl, rfl, D'⟩
              · go_simp
                have D' := D.allocB D.bel.size
                clear D
                generalize v2.alloc (.cells z20 59) = v3 at *
                refine hK.out _ _ D'.hn fun _ => ?_
                clear hK K
                have D := D'
                clear D'
                refine wpAnyH_ready (rs := [2]) (by kernel_rfl) (by simp) ?_
                refine AllReadyH.cons rfl (fun K hK => ?_) (AllReadyH.nil)
                · go_simp
                  refine (OV.out m HM.out _).mono ?_
                  rintro e v4 ⟨rfl, hb⟩
                  have D' := D.below D.bel.size hb
                  clear D hb
                  refine hK.out _ _ D'.hn fun _ => ?_
                  clear hK K
                  have D := D'
                  clear D'
                  refine wpAnyH_take (i := 3) rfl (by kernel_rfl) (by kernel_rfl) (by kernel_rfl) (fun _ _ _ h => h) (.inl ⟨by rfl, fun _ _ => rfl⟩) D.hn ?_
                  refine wpAnyH_take (i := 4) rfl (by kernel_rfl) (by kernel_rfl) (by kernel_rfl) (fun _ _ _ h => h) (.inl ⟨by rfl, fun _ _ => rfl⟩) D.hn ?_
                  refine wpAnyH_take (i := 5) rfl (by kernel_rfl) (by kernel_rfl) (by kernel_rfl) (fun _ _ _ h => h) (.inl ⟨by rfl, fun _ _ => rfl⟩) D.hn ?_
                  simp only [Act.put, List.getElem_toArray, List.getElem_cons_succ, List.getElem_cons_zero, List.setIfInBounds_toArray, List.set_cons_succ, List.set_cons_zero]
                  refine wpAnyH_ready (rs := [8]) (by kernel_rfl) (by simp) ?_
                  refine AllReadyH.cons rfl (fun K hK => ?_) AllReadyH.nil
                  refine step_store_row0 rfl rfl _ _ _ rfl _ _ rfl rfl _ _ (D.ha _ _ rfl).1 (infoN _) (by rw [row20_size]; rfl) (row20_one _) ?_
                  have D' := D.setA (row20 (dg (m / 10)))
                  clear D
                  refine hK.out _ _ D'.hn fun _ => ?_
                  clear hK K
                  have D := D'
                  clear D'
                  refine wpAnyH_ready (rs := [9]) (by kernel_rfl) (by simp) ?_
                  refine AllReadyH.cons rfl (fun K hK => ?_) AllReadyH.nil
                  refine step_store_row0 rfl rfl _ _ _ rfl _ _ rfl rfl _ _ (D.hb _ _ rfl).1 (infoN _) (by rw [row20_size]; rfl) (row20_one _) ?_
                  have D' := D.setB (row20 (dg (m % 10)))
                  clear D
                  refine hK.out _ _ D'.hn fun _ => ?_
                  clear hK K
                  refine wpAnyH_done (by kernel_rfl) ?_ _
                  go_wp2_with fail
                  go_meet
                  exact ⟨_, _, rfl, rfl, D'⟩
            · go_simp
              have D' := D.allocB D.bel.size
              clear D
              generalize v1.alloc (.cells z20 59) = v2 at *
              refine hK.out _ _ D'.hn fun _ => ?_
              clear hK K
              have D := D'
              clear D'
              refine wpAnyH_ready (rs := [1]) (by kernel_rfl) (by simp) ?_
              refine AllReadyH.cons rfl (fun K hK => ?_) (AllReadyH.nil)
              · go_simp
                refine (OF.out _).mono ?_
                rintro e v3 ⟨rfl, hb⟩
                have D' := D.below D.bel.size hb
                clear D hb
                refine hK.out _ _ D'.hn fun _ => ?_
                clear hK K
                have D := D'
                clear D'
                refine wpAnyH_ready (rs := [2]) (by kernel_rfl) (by simp) ?_
                refine AllReadyH.cons rfl (fun K hK => ?_) (AllReadyH.nil)
                · go_simp
                  refine (OV.out m HM.out _).mono ?_
                  rintro e v4 ⟨rfl, hb⟩
                  have D' := D.below D.bel.size hb
                  clear D hb
                  refine hK.out _ _ D'.hn fun _ => ?_
                  clear hK K
                  have D := D'
                  clear D'
                  refine wpAnyH_take (i := 3) rfl (by kernel_rfl) (by kernel_rfl) (by kernel_rfl) (fun _ _ _ h => h) (.inl ⟨by rfl, fun _ _ => rfl⟩) D.hn ?_
                  refine wpAnyH_take (i := 4) rfl (by kernel_rfl) (by kernel_rfl) (by kernel_rfl) (fun _ _ _ h => h) (.inl ⟨by rfl, fun _ _ => rfl⟩) D.hn ?_
                  refine wpAnyH_take (i := 5) rfl (by kernel_rfl) (by kernel_rfl) (by kernel_rfl) (fun _ _ _ h => h) (.inl ⟨by rfl, fun _ _ => rfl⟩) D.hn ?_
                  simp only [Act.put, List.getElem_toArray, List.getElem_cons_succ, List.getElem_cons_zero, List.setIfInBounds_toArray, List.set_cons_succ, List.set_cons_zero]
                  refine wpAnyH_ready (rs := [8]) (by kernel_rfl) (by simp) ?_
                  refine AllReadyH.cons rfl (fun K hK => ?_) AllReadyH.nil
                  refine step_store_row0 rfl rfl _ _ _ rfl _ _ rfl rfl _ _ (D.ha _ _ rfl).1 (infoN _) (by rw [row20_size]; rfl) (row20_one _) ?_
                  have D' := D.setA (row20 (dg (m / 10)))
                  clear D
                  refine hK.out _ _ D'.hn fun _ => ?_
                  clear hK K
                  have D := D'
                  clear D'
                  refine wpAnyH_ready (rs := [9]) (by kernel_rfl) (by simp) ?_
                  refine AllReadyH.cons rfl (fun K hK => ?_) AllReadyH.nil
                  refine step_store_row0 rfl rfl _ _ _ rfl _ _ rfl rfl _ _ (D.hb _ _ rfl).1 (infoN _) (by rw [row20_size]; rfl) (row20_one _) ?_
                  have D' := D.setB (row20 (dg (m % 10)))
                  clear D
                  refine hK.out _ _ D'.hn fun _ => ?_
                  clear hK K
                  refine wpAnyH_done (by kernel_rfl) ?_ _
                  go_wp2_with fail
                  go_meet
                  exact ⟨_, _, rfl, rfl, D'⟩
          · go_simp
            have D' := D.allocB D.bel.size
            clear D
            generalize v0.alloc (.cells z20 59) = v1 at *
            refine hK.out _ _ D'.hn fun _ => ?_
            clear hK K
            have D := D'
            clear D'
            refine wpAnyH_ready (rs := [1, 6]) (by kernel_rfl) (by simp) ?_
            refine AllReadyH.cons rfl (fun K hK => ?_) (AllReadyH.cons rfl (fun K hK => ?_) (AllReadyH.nil))
            · go_simp
              refine (OF.out _).mono ?_
              rintro e v2 ⟨rfl, hb⟩
              have D' := D.below D.bel.size hb
              clear D hb
              refine hK.out _ _ D'.hn fun _ => ?_
              clear hK K
              have D := D'
              clear D'
              refine wpAnyH_ready (rs := [2, 6]) (by kernel_rfl) (by simp) ?_
              refine AllReadyH.cons rfl (fun K hK => ?_) (AllReadyH.cons rfl (fun K hK => ?_) (AllReadyH.nil))
              · go_simp
                refine (OV.out m HM.out _).mono ?_
                rintro e v3 ⟨rfl, hb⟩
                have D' := D.below D.bel.size hb
                clear D hb
                refine hK.out _ _ D'.hn fun _ => ?_
                clear hK K
                have D := D'
                clear D'
                refine wpAnyH_take (i := 3) rfl (by kernel_rfl) (by kernel_rfl) (by kernel_rfl) (fun _ _ _ h => h) (.inl ⟨by rfl, fun _ _ => rfl⟩) D.hn ?_
                refine wpAnyH_take (i := 4) rfl (by kernel_rfl) (by kernel_rfl) (by kernel_rfl) (fun _ _ _ h => h) (.inl ⟨by rfl, fun _ _ => rfl⟩) D.hn ?_
                refine wpAnyH_take (i := 5) rfl (by kernel_rfl) (by kernel_rfl) (by kernel_rfl) (fun _ _ _ h => h) (.inl ⟨by rfl, fun _ _ => rfl⟩) D.hn ?_
                simp only [Act.put, List.getElem_toArray, List.getElem_cons_succ, List.getElem_cons_zero, List.setIfInBounds_toArray, List.set_cons_succ, List.set_cons_zero]
                refine wpAnyH_ready (rs := [6]) (by kernel_rfl) (by simp) ?_
                refine AllReadyH.cons rfl (fun K hK => ?_) (AllReadyH.nil)
                · go_simp
                  have D' := D.allocA D.bel.size
                  clear D
                  generalize v3.alloc (.cells z20 59) = v4 at *
                  refine hK.out _ _ D'.hn fun _ => ?_
                  clear hK K
                  have D := D'
                  clear D'
                  refine wpAnyH_ready (rs := [8]) (by kernel_rfl) (by simp) ?_
                  refine AllReadyH.cons rfl (fun K hK => ?_) AllReadyH.nil
                  refine step_store_row0 rfl rfl _ _ _ rfl _ _ rfl rfl _ _ (D.ha _ _ rfl).1 (infoN _) (by rw [row20_size]; rfl) (row20_one _) ?_
                  have D' := D.setA (row20 (dg (m / 10)))
                  clear D
                  refine hK.out _ _ D'.hn fun _ => ?_
                  clear hK K
                  have D := D'
                  clear D'
                  refine wpAnyH_ready (rs := [9]) (by kernel_rfl) (by simp) ?_
                  refine AllReadyH.cons rfl (fun K hK => ?_) AllReadyH.nil
                  refine step_store_row0 rfl rfl _ _ _ rfl _ _ rfl rfl _ _ (D.hb _ _ rfl).1 (infoN _) (by rw [row20_size]; rfl) (row20_one _) ?_
                  have D' := D.setB (row20 (dg (m % 10)))
                  clear D
                  refine hK.out _ _ D'.hn fun _ => ?_
                  clear hK K
                  refine wpAnyH_done (by kernel_rfl) ?_ _
                  go_wp2_with fail
                  go_meet
                  exact ⟨_, _, rfl, rfl, D'⟩
              · go_simp
                have D' := D.allocA D.bel.size
                clear D
                generalize v2.alloc (.cells z20 59) = v3 at *
                refine hK.out _ _ D'.hn fun _ => ?_
                clear hK K
                have D := D'
                clear D'
                refine wpAnyH_ready (rs := [2]) (by kernel_rfl) (by simp) ?_
                refine AllReadyH.cons rfl (fun K hK => ?_) (AllReadyH.nil)
                · go_simp
                  refine (OV.out m HM.out _).mono ?_
                  rintro e v4 ⟨rfl, hb⟩
                  have D' := D.below D.bel.size hb
                  clear D hb
                  refine hK.out _ _ D'.hn fun _ => ?_
                  clear hK K
                  have D := D'
                  clear D'
                  refine wpAnyH_take (i := 3) rfl (by kernel_rfl) (by kernel_rfl) (by kernel_rfl) (fun _ _ _ h => h) (.inl ⟨by rfl, fun _ _ => rfl⟩) D.hn ?_
                  refine wpAnyH_take (i := 4) rfl (by kernel_rfl) (by kernel_rfl) (by kernel_rfl) (fun _ _ _ h => h) (.inl ⟨by rfl, fun _ _ => rfl⟩) D.hn ?_
                  refine wpAnyH_take (i := 5) rfl (by kernel_rfl) (by kernel_rfl) (by kernel_rfl) (fun _ _ _ h => h) (.inl ⟨by rfl, fun _ _ => rfl⟩) D.hn ?_
                  simp only [Act.put, List.getElem_toArray, List.getElem_cons_succ, List.getElem_cons_zero, List.setIfInBounds_toArray, List.set_cons_succ, List.set_cons_zero]
                  refine wpAnyH_ready (rs := [8]) (by kernel_rfl) (by simp) ?_
                  refine AllReadyH.cons rfl (fun K hK => ?_) AllReadyH.nil
                  refine step_store_row0 rfl rfl _ _ _ rfl _ _ rfl rfl _ _ (D.ha _ _ rfl).1 (infoN _) (by rw [row20_size]; rfl) (row20_one _) ?_
                  have D' := D.setA (row20 (dg (m / 10)))
                  clear D
                  refine hK.out _ _ D'.hn fun _ => ?_
                  clear hK K
                  have D := D'
                  clear D'
                  refine wpAnyH_ready (rs := [9]) (by kernel_rfl) (by simp) ?_
                  refine AllReadyH.cons rfl (fun K hK => ?_) AllReadyH.nil
                  refine step_store_row0 rfl rfl _ _ _ rfl _ _ rfl rfl _ _ (D.hb _ _ rfl).1 (infoN _) (by rw [row20_size]; rfl) (row20_one _) ?_
                  have D' := D.setB (row20 (dg (m % 10)))
                  clear D
                  refine hK.out _ _ D'.hn fun _ => ?_
                  clear hK K
                  refine wpAnyH_done (by kernel_rfl) ?_ _
                  go_wp2_with fail
                  go_meet
                  exact ⟨_, _, rfl, rfl, D'⟩
            · go_simp
              have D' := D.allocA D.bel.size
              clear D
              generalize v1.alloc (.cells z20 59) = v2 at *
              refine hK.out _ _ D'.hn fun _ => ?_
              clear hK K
              have D := D'
              clear D'
              refine wpAnyH_ready (rs := [1]) (by kernel_rfl) (by simp) ?_
              refine AllReadyH.cons rfl (fun K hK => ?_) (AllReadyH.nil)
              · go_simp
                refine (OF.out _).mono ?_
                rintro e v3 ⟨rfl, hb⟩
                have D' := D.below D.bel.size hb
                clear D hb
                refine hK.out _ _ D'.hn fun _ => ?_
                clear hK K
                have D := D'
                clear D'
                refine wpAnyH_ready (rs := [2]) (by kernel_rfl) (by simp) ?_
                refine AllReadyH.cons rfl (fun K hK => ?_) (AllReadyH.nil)
                · go_simp
                  refine (OV.out m HM.out _).mono ?_
                  rintro e v4 ⟨rfl, hb⟩
                  have D' := D.below D.bel.size hb
                  clear D hb
                  refine hK.out _ _ D'.hn fun _ => ?_
                  clear hK K
                  have D := D'
                  clear D'
                  refine wpAnyH_take (i := 3) rfl (by kernel_rfl) (by kernel_rfl) (by kernel_rfl) (fun _ _ _ h => h) (.inl ⟨by rfl, fun _ _ => rfl⟩) D.hn ?_
                  refine wpAnyH_take (i := 4) rfl (by kernel_rfl) (by kernel_rfl) (by kernel_rfl) (fun _ _ _ h => h) (.inl ⟨by rfl, fun _ _ => rfl⟩) D.hn ?_
                  refine wpAnyH_take (i := 5) rfl (by kernel_rfl) (by kernel_rfl) (by kernel_rfl) (fun _ _ _ h => h) (.inl ⟨by rfl, fun _ _ => rfl⟩) D.hn ?_
                  simp only [Act.put, List.getElem_toArray, List.getElem_cons_succ, List.getElem_cons_zero, List.setIfInBounds_toArray, List.set_cons_succ, List.set_cons_zero]
                  refine wpAnyH_ready (rs := [8]) (by kernel_rfl) (by simp) ?_
                  refine AllReadyH.cons rfl (fun K hK => ?_) AllReadyH.nil
                  refine step_store_row0 rfl rfl _ _ _ rfl _ _ rfl rfl _ _ (D.ha _ _ rfl).1 (infoN _) (by rw [row20_size]; rfl) (row20_one _) ?_
                  have D' := D.setA (row20 (dg (m / 10)))
                  clear D
                  refine hK.out _ _ D'.hn fun _ => ?_
                  clear hK K
                  have D := D'
                  clear D'
                  refine wpAnyH_ready (rs := [9]) (by kernel_rfl) (by simp) ?_
                  refine AllReadyH.cons rfl (fun K hK => ?_) AllReadyH.nil
                  refine step_store_row0 rfl rfl _ _ _ rfl _ _ rfl rfl _ _ (D.hb _ _ rfl).1 (infoN _) (by rw [row20_size]; rfl) (row20_one _) ?_
                  have D' := D.setB (row20 (dg (m % 10)))
                  clear D
                  refine hK.out _ _ D'.hn fun _ => ?_
                  clear hK K
                  refine wpAnyH_done (by kernel_rfl) ?_ _
                  go_wp2_with fail
                  go_meet
                  exact ⟨_, _, rfl, rfl, D'⟩
          -- REGION END
          skip
        case rest =>
          obtain ⟨g, g', rfl, rfl, D⟩ := hcut
          obtain ⟨a1, a2, a3⟩ := D.ha _ _ rfl
          obtain ⟨b1, b2, b3⟩ := D.hb _ _ rfl
          have hne := D.ne _ _ _ _ rfl rfl
          have c0 := cells_at b1 0 (by omega)
          have hr : dg (m % 10) 0 = m % 10 := by unfold dg; omega
          rw [hr] at c0
          have hd : m % 10 < 10 := Nat.mod_lt _ (by omega)
          have hx := digit_text (m % 10) hd
          have hlen := HD2.out.len
          have h20 := nDigits_20 N HN.out
          have hcat := cons_text (UInt8.ofNat (48 + m % 10)) S
          rw [List.length_cons] at hlen
          have HL : Hid (S.length + 1 ≤ Lib.nDigits N) := Lib.hid hlen
          have hsl : S.length ≤ 20 := by omega
          have G0 := D.hn
          have HDD := Lib.hid D
          clear D b1 hlen h20 hr
          generalize m % 10 = d at *
          generalize UInt8.ofNat (48 + d) = x at *
          clear HF HM
          go_wp2_with (first | (refine wpList_load_row rfl 59 _ rfl _ rfl _ _ _ _ a1 Tryd.underlying59 rfl (infoN _) ?_) | (refine wpList_store_row rfl _ _ _ rfl _ _ rfl rfl _ _ G0 (infoN _) (by rw [row20_size]; rfl) (row20_one _) ?_))
          refine ⟨?_, ?_⟩
          · (repeat apply Exists.intro)
            refine ⟨?_, rfl⟩
            exact ⟨m / 10, x :: S, rfl, HD2.out, DgSt.start (setRow_heap _ _ _ _ _ _ G0) (HDD.out.bel.setRow (Nat.le_refl _) _)⟩
          · have := HL.out
            simp [strLen, ByteArray.size, Act.put]
            omega
      · have hm : m = 0 := by omega
        have hS0 : S ≠ [] := fun h => hgo (.inl h)
        obtain rfl := HF.out _ _ HD.out hS0 hm
        rw [decide_eq_false hgo]
        have hbel := HS.out.bel
        clear HS HD hgo hS0 hm HF
        go_wp2
        go_ret
        exact ⟨rfl, hbel⟩
end Go.Proofs.YtjniclalobggpaaDoor
