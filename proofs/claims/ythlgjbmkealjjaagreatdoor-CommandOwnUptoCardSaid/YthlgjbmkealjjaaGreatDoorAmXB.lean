/-
  Joined texts: AmX6 AmX7 AmX8. No statement is proved here.
-/
import Derived.Deep.CutRange
import Derived.Test.YthlgjbmkealjjaaGreatDoorAmRX
import Derived.Test.YthlgjbmkealjjaaGreatDoorAmNB
namespace Go.Proofs.YthlgjbmkealjjaaGreatDoor
open Go.RowKit Go.Shelf Go.Lib
set_option linter.unusedVariables false

def strLen : Value → Nat
  | .string s => s.size
  | _ => 0
/-- Where the digits of N stand when m is left and S is written. -/
def DigAt (N m : Nat) (S : List UInt8) : Prop := (S = [] ∧ m = N) ∨ (S ≠ [] ∧ ((0 < m ∧ Lib.decDigits N = Lib.decDigits m ++ S) ∨ (m = 0 ∧ Lib.decDigits N = S)))
theorem DigAt.len {N m : Nat} {S : List UInt8} (h : DigAt N m S) : S.length ≤ Lib.nDigits N := by
  rcases h with ⟨rfl, _⟩ | ⟨_, ⟨_, h⟩ | ⟨_, h⟩⟩
  · simp
  · have := congrArg List.length h
    rw [Lib.decDigits_length, List.length_append] at this
    omega
  · rw [← h, Lib.decDigits_length]; exact Nat.le_refl _
theorem DigAt.step {N m : Nat} {S : List UInt8} (h : DigAt N m S) (hm : S = [] ∨ 0 < m) : DigAt N (m / 10) (UInt8.ofNat (48 + m % 10) :: S) := by
  refine .inr ⟨by simp, ?_⟩
  have key : Lib.decDigits N = Lib.decDigits m ++ S := by
    rcases h with ⟨rfl, rfl⟩ | ⟨h1, ⟨_, h⟩ | ⟨h2, h⟩⟩
    · simp
    · exact h
    · rcases hm with h3 | h3
      · exact absurd h3 h1
      · omega
  rcases Nat.lt_or_ge m 10 with h1 | h1
  · right
    refine ⟨by omega, ?_⟩
    rw [key, dec_small m h1, Nat.mod_eq_of_lt h1]
    rfl
  · left
    refine ⟨by omega, ?_⟩
    rw [key, dec_rec m h1, List.append_assoc]
    rfl
theorem DigAt.fin {N m : Nat} {S : List UInt8} (h : DigAt N m S) (h0 : S ≠ []) (hm : m = 0) : S = Lib.decDigits N := by
  rcases h with ⟨h1, _⟩ | ⟨_, ⟨h1, _⟩ | ⟨_, h⟩⟩
  · exact absurd h1 h0
  · omega
  · exact h.symm
theorem DigAt.le {N m : Nat} {S : List UInt8} (h : DigAt N m S) : m ≤ N := by
  rcases h with ⟨_, rfl⟩ | ⟨_, ⟨_, h⟩ | ⟨h, _⟩⟩
  · exact Nat.le_refl _
  · have h2 := dec_num N
    rw [h] at h2
    unfold numOf at h2
    rw [numFrom_append] at h2
    have h3 : numFrom 0 (Lib.decDigits m) = m := dec_num m
    rw [h3] at h2
    have key : ∀ (l : List UInt8) (n : Nat), n ≤ numFrom n l := by
      intro l
      induction l with
      | nil => intro n; exact Nat.le_refl _
      | cons c l ih => intro n; exact Nat.le_trans (show n ≤ n * 10 + (c.toNat - 48) by omega) (ih _)
    have := key S m
    omega
  · omega
/-- The walk's memory: n's block, and the blocks of q and r if they are there. -/
structure DgSt (b n0 m : Nat) (w v : World) (A B : Option (Nat × Array Value)) : Prop where
  hn : v.heap[n0]? = some (.cells (row20 (dg m)) 81 (0, 0))
  bel : Below b w v
  ha : ∀ g cs, A = some (g, cs) → v.heap[g]? = some (.cells cs 81 (0, 0)) ∧ b ≤ g ∧ n0 < g
  hb : ∀ g cs, B = some (g, cs) → v.heap[g]? = some (.cells cs 81 (0, 0)) ∧ b ≤ g ∧ n0 < g
  ne : ∀ g cs g' cs', A = some (g, cs) → B = some (g', cs') → g ≠ g'
theorem DgSt.start {b n0 m : Nat} {w v : World} (h : v.heap[n0]? = some (.cells (row20 (dg m)) 81 (0, 0))) (hb : Below b w v) : DgSt b n0 m w v none none :=
  ⟨h, hb, fun _ _ e => (by cases e), fun _ _ e => (by cases e), fun _ _ _ _ e _ => (by cases e)⟩
theorem DgSt.below {b n0 m : Nat} {w v v' : World} {A B : Option (Nat × Array Value)} (S : DgSt b n0 m w v A B) (hbw : b ≤ v.heap.size) (h : Below v.heap.size v v') : DgSt b n0 m w v' A B :=
  ⟨(h.block _ (heap_lt S.hn)).trans S.hn, S.bel.trans (h.mono hbw), fun g cs e => ⟨(h.block _ (heap_lt (S.ha g cs e).1)).trans (S.ha g cs e).1, (S.ha g cs e).2⟩, fun g cs e => ⟨(h.block _ (heap_lt (S.hb g cs e).1)).trans (S.hb g cs e).1, (S.hb g cs e).2⟩, S.ne⟩
theorem DgSt.allocA {b n0 m : Nat} {w v : World} {B : Option (Nat × Array Value)} (S : DgSt b n0 m w v none B) (hbw : b ≤ v.heap.size) : DgSt b n0 m w (v.alloc (.cells z20 81)) (some (v.heap.size, z20)) B := by
  have S2 := S.below hbw ((Below.refl _ _).alloc (Nat.le_refl _) (.cells z20 81))
  refine ⟨S2.hn, S2.bel, fun g cs e => ?_, S2.hb, fun g cs g' cs' e e' => ?_⟩
  · cases e
    exact ⟨heap_alloc_new v _, hbw, heap_lt S.hn⟩
  · cases e
    have := heap_lt (S.hb g' cs' e').1
    omega
theorem DgSt.allocB {b n0 m : Nat} {w v : World} {A : Option (Nat × Array Value)} (S : DgSt b n0 m w v A none) (hbw : b ≤ v.heap.size) : DgSt b n0 m w (v.alloc (.cells z20 81)) A (some (v.heap.size, z20)) := by
  have S2 := S.below hbw ((Below.refl _ _).alloc (Nat.le_refl _) (.cells z20 81))
  refine ⟨S2.hn, S2.bel, S2.ha, fun g cs e => ?_, fun g cs g' cs' e e' => ?_⟩
  · cases e
    exact ⟨heap_alloc_new v _, hbw, heap_lt S.hn⟩
  · cases e'
    have := heap_lt (S.ha g cs e).1
    omega
theorem DgSt.setA {b n0 m g : Nat} {w v : World} {cs : Array Value} {B : Option (Nat × Array Value)} (S : DgSt b n0 m w v (some (g, cs)) B) (cs' : Array Value) : DgSt b n0 m w (v.setRow g cs') (some (g, cs')) B := by
  obtain ⟨a1, a2, a3⟩ := S.ha g cs rfl
  refine ⟨(setRow_other _ _ _ _ (by omega)).trans S.hn, S.bel.setRow a2 _, fun g2 c2 e => ?_, fun g2 c2 e => ?_, fun g2 c2 g3 c3 e e' => ?_⟩
  · cases e
    exact ⟨setRow_heap _ _ _ _ _ _ a1, a2, a3⟩
  · obtain ⟨b1, b2⟩ := S.hb g2 c2 e
    exact ⟨(setRow_other _ _ _ _ (S.ne _ _ _ _ rfl e).symm).trans b1, b2⟩
  · cases e
    exact S.ne _ _ _ _ rfl e'
theorem DgSt.setB {b n0 m g : Nat} {w v : World} {cs : Array Value} {A : Option (Nat × Array Value)} (S : DgSt b n0 m w v A (some (g, cs))) (cs' : Array Value) : DgSt b n0 m w (v.setRow g cs') A (some (g, cs')) := by
  obtain ⟨a1, a2, a3⟩ := S.hb g cs rfl
  refine ⟨(setRow_other _ _ _ _ (by omega)).trans S.hn, S.bel.setRow a2 _, fun g2 c2 e => ?_, fun g2 c2 e => ?_, fun g2 c2 g3 c3 e e' => ?_⟩
  · obtain ⟨b1, b2⟩ := S.ha g2 c2 e
    exact ⟨(setRow_other _ _ _ _ (S.ne _ _ _ _ e rfl)).trans b1, b2⟩
  · cases e
    exact ⟨setRow_heap _ _ _ _ _ _ a1, a2, a3⟩
  · cases e'
    exact S.ne _ _ _ _ e rfl
theorem wpList_load_row_if {P : Program} {ops : Array Oper} {rest : List Oper} {o : Oper} {a : Act} {w : World} {Q : Exit → Act → World → Prop} (hw : Region.wanted o (yielded ops a.tmps) = true) (ty : TypeId) (x : Operand) (ho : o.op = .load ty x)
    (g : Nat) (hx : a.eval x = .pointer (some ⟨g, 0, none⟩)) (t : TypeId) (cs : Array Value) (fr : Nat × Nat) (d : TypeDesc) (hg : w.heap[g]? = some (.cells cs t fr))
    (hu : P.underlying ty = some d) (hd : (match d with | .struct _ | .array _ _ => true | _ => false) = true) (hi : (P.info? ty).map (·.size) = some cs.size)
    (h : wpList P ops Q rest (a.put o.dst (.agg cs)) w) : wpList P ops Q (o :: rest) a w := by
  unfold wpList
  rw [if_pos hw]
  exact .inl (wp_load_row ty x ho g hx t cs fr d hg hu hd hi h)
theorem step_store_row0 {P : Program} {ops : Array Oper} {o : Oper} {a : Act} {w : World} {K : Act → World → Prop} {Q : Exit → Act → World → Prop} {E : Prop} (hgd : o.guard = none) (hdst : o.dst = none) (ty : TypeId) (x y : Operand) (ho : o.op = .store ty x y)
    (g : Nat) (cells : Array Value) (hx : a.eval x = .pointer (some ⟨g, 0, none⟩)) (hy : a.eval y = .agg cells)
    (t : TypeId) (old : Array Value) (hg : w.heap[g]? = some (.cells old t (0, 0))) (hi : (P.info? ty).map (·.size) = some cells.size)
    (hold : old.size = cells.size) (h1 : cells.all (·.oneCell') = true)
    (h : K a (w.setRow g cells)) : if Region.wanted o (yielded ops a.tmps) = true then Oper.wp P o a w K Q else E := by
  refine step_store_row hgd ty x y ho g cells hx hy t old hg hi hold h1 ?_
  rw [hdst]
  exact h
theorem digit_text (d : Nat) (h : d < 10) : (⟨#[48, 49, 50, 51, 52, 53, 54, 55, 56, 57]⟩ : ByteArray).extract d (d + 1) = ⟨#[UInt8.ofNat (48 + d)]⟩ := by
  match d, h with
  | 0, _ => decide +kernel
  | 1, _ => decide +kernel
  | 2, _ => decide +kernel
  | 3, _ => decide +kernel
  | 4, _ => decide +kernel
  | 5, _ => decide +kernel
  | 6, _ => decide +kernel
  | 7, _ => decide +kernel
  | 8, _ => decide +kernel
  | 9, _ => decide +kernel
theorem cons_text (c : UInt8) (S : List UInt8) : (⟨#[c]⟩ : ByteArray) ++ ⟨S.toArray⟩ = ⟨(c :: S).toArray⟩ := by
  apply ByteArray.ext
  simp
theorem nDigits_20 (u : Nat) (h : u < 18446744073709551616) : Lib.nDigits u ≤ 20 := by
  have h1 := nDigits_le (u / 1000) (by omega)
  rcases Nat.lt_or_ge u 10 with h3 | h3
  · rw [Lib.nDigits_small h3]; omega
  rw [Lib.nDigits_big (by omega)]
  rcases Nat.lt_or_ge (u / 10) 10 with h4 | h4
  · rw [Lib.nDigits_small h4]; omega
  rw [Lib.nDigits_big (by omega)]
  rcases Nat.lt_or_ge (u / 10 / 10) 10 with h5 | h5
  · rw [Lib.nDigits_small h5]; omega
  rw [Lib.nDigits_big (by omega), show u / 10 / 10 / 10 = u / 1000 by omega]
  omega
set_option maxRecDepth 100000 in
set_option maxHeartbeats 4000000 in
theorem Digits_any (N : Nat) (w : World) (hN : N < 18446744073709551616) :
    Calls Tryz.prog 50 #[natOf N] w fun e w' => e = .returned (.string ⟨(Lib.decDigits N).toArray⟩) ∧ Below w.heap.size w w' := by
  have hz := zero20
  have e1 : (row20 (dg N)).size = 20 := row20_size _
  have OF : Hid (∀ w, Calls Tryz.prog 43 #[.int .u64 10] w fun e w' => e = .returned (natOf 10) ∧ Below w.heap.size w w') := Lib.hid (fun w => Of_any 10 w (by omega))
  have OV := Lib.hid (fun (m : Nat) (hm : m ≤ N) w => Over_any m 10 w (by omega) (by have := pow20_big; omega) (by have := pow20_big; omega))
  have CM := Lib.hid (fun (m : Nat) (hm : m ≤ N) w => Cmp_any m 0 w (by have := pow20_big; omega) (by have := pow20_big; omega))
  have ez : row20 (dg 0) = z20 := row20_ext _ _ fun i _ => by simp [dg]
  unfold natOf at *
  rw [ez] at CM
  have HN := Lib.hid hN
  have HF : Hid (∀ m S, DigAt N m S → S ≠ [] → m = 0 → S = Lib.decDigits N) := Lib.hid fun m S h => h.fin
  clear hN
  generalize Lib.decDigits N = R at *
  go_enter Tryz.func50, Tryz.ntmps50
  go_wp2
  have h0 : (w.alloc (.cells (row20 (dg N)) 81)).heap[w.heap.size]? = some (.cells (row20 (dg N)) 81 (0, 0)) := heap_alloc_new w _
  have HB := (Below.refl w.heap.size w).alloc (Nat.le_refl _) (.cells (row20 (dg N)) 81)
  go_loopw [3] (fun t wr => ∃ (m : Nat) (S : List UInt8), t = .string ⟨S.toArray⟩ ∧ DigAt N m S ∧ DgSt w.heap.size w.heap.size m w wr none none) (fun t _ => Lib.nDigits N + 1 - strLen t)
  case atStart => exact ⟨N, [], rfl, .inl ⟨rfl, rfl⟩, DgSt.start h0 HB⟩
  case round =>
    clear h0 HB
    obtain ⟨m, S, rfl, hD, hS⟩ := hrel
    have G0 := hS.hn
    have HD := Lib.hid hD
    have HS := Lib.hid hS
    clear hD hS
    go_upto_region 2 with (fail)
    go_cut [13] (fun t wx => t = .bool (decide (S = [] ∨ 0 < m)) ∧ DgSt w.heap.size w.heap.size m w wx none none)
    case first =>
      rcases S with _ | ⟨c, S⟩
      · go_wp2
        go_meet
        exact ⟨by simp, HS.out⟩
      · go_wp2_with (first | (refine wpList_load_row rfl 81 _ rfl _ rfl _ _ _ _ G0 Tryz.underlying81 rfl (infoN _) ?_) | (refine wpList_load_row_if (by rfl) 81 _ rfl _ rfl _ _ _ _ G0 Tryz.underlying81 rfl (infoN _) ?_))
        refine (CM.out m HD.out.le _).mono ?_
        rintro e v ⟨rfl, hb⟩
        have D := HS.out.below HS.out.bel.size hb
        clear hb G0 HS
        go_wp2
        go_meet
        refine ⟨?_, D⟩
        congr 1
        unfold cmpOf
        by_cases h0 : 0 < m
        · rw [if_neg (by omega), if_pos h0]; simp [h0]
        · rw [if_neg (by omega), if_neg h0]; simp [h0]
    case rest =>
      obtain ⟨rfl, hS⟩ := hcut
      have HS := Lib.hid hS
      clear hS G0
      by_cases hgo : S = [] ∨ 0 < m
      · have HM := Lib.hid HD.out.le
        have HD2 := Lib.hid (HD.out.step hgo)
        rw [decide_eq_true hgo]
        have D := HS.out.below HS.out.bel.size (Below.refl _ _).drew
        clear HS HD hgo
        go_wp2_with fail
        go_cut [4, 5] (fun p q wx => ∃ g g', p = .pointer (some ⟨g, 0, none⟩) ∧ q = .pointer (some ⟨g', 0, none⟩) ∧ DgSt w.heap.size w.heap.size m w wx (some (g, row20 (dg (m / 10)))) (some (g', row20 (dg (m % 10)))))
        case first =>
          -- REGION BEGIN
          refine wp_region_held (S := fun v => v.heap[w.heap.size]? = some (.cells (row20 (dg m)) 81 (0, 0))) (by kernel_rfl) ?_
          change wpAnyH _ _ _ _ _ _ _ _ (World.drew _)
          refine wpAnyH_take (i := 0) rfl (by kernel_rfl) (by kernel_rfl) (by kernel_rfl) (fun _ _ _ h => h) (yields_row (by rfl) 81 _ rfl _ rfl _ _ _ _ (fun _ h => h) Tryz.underlying81 rfl (infoN _)) D.hn ?_
          generalize wc.drew = v0 at *
          refine wpAnyH_ready (rs := [1, 6, 7]) (by kernel_rfl) (by simp) ?_
          refine AllReadyH.cons rfl (fun K hK => ?_) (AllReadyH.cons rfl (fun K hK => ?_) (AllReadyH.cons rfl (fun K hK => ?_) (AllReadyH.nil)))
          · go_simp
            refine (OF.out _).mono ?_
            rintro e v1 ⟨rfl, hb⟩
            have D' := D.below D.bel.size hb
            clear D hb
            refine hK.out _ _ D'.hn fun _ => ?_
            clear hK K
            have D := D'
            clear D'
            refine wpAnyH_ready (rs := [2, 6, 7]) (by kernel_rfl) (by simp) ?_
            refine AllReadyH.cons rfl (fun K hK => ?_) (AllReadyH.cons rfl (fun K hK => ?_) (AllReadyH.cons rfl (fun K hK => ?_) (AllReadyH.nil)))
            · go_simp
              refine (OV.out m HM.out _).mono ?_
              rintro e v2 ⟨rfl, hb⟩
              have D' := D.below D.bel.size hb
              clear D hb
              refine hK.out _ _ D'.hn fun _ => ?_
              clear hK K
              have D := D'
              clear D'
              refine wpAnyH_take (i := 3) rfl (by kernel_rfl) (by kernel_rfl) (by kernel_rfl) (fun _ _ _ h => h) (.inl ⟨by rfl, fun _ _ => rfl⟩) D.hn ?_
              refine wpAnyH_take (i := 4) rfl (by kernel_rfl) (by kernel_rfl) (by kernel_rfl) (fun _ _ _ h => h) (.inl ⟨by rfl, fun _ _ => rfl⟩) D.hn ?_
              refine wpAnyH_take (i := 5) rfl (by kernel_rfl) (by kernel_rfl) (by kernel_rfl) (fun _ _ _ h => h) (.inl ⟨by rfl, fun _ _ => rfl⟩) D.hn ?_
              simp only [Act.put, List.getElem_toArray, List.getElem_cons_succ, List.getElem_cons_zero, List.setIfInBounds_toArray, List.set_cons_succ, List.set_cons_zero]
              refine wpAnyH_ready (rs := [6, 7]) (by kernel_rfl) (by simp) ?_
              refine AllReadyH.cons rfl (fun K hK => ?_) (AllReadyH.cons rfl (fun K hK => ?_) (AllReadyH.nil))
              · go_simp
                have D' := D.allocA D.bel.size
                clear D
                generalize v2.alloc (.cells z20 81) = v3 at *
                refine hK.out _ _ D'.hn fun _ => ?_
                clear hK K
                have D := D'
                clear D'
                refine wpAnyH_ready (rs := [7]) (by kernel_rfl) (by simp) ?_
                refine AllReadyH.cons rfl (fun K hK => ?_) (AllReadyH.nil)
                · go_simp
                  have D' := D.allocB D.bel.size
                  clear D
                  generalize v3.alloc (.cells z20 81) = v4 at *
                  refine hK.out _ _ D'.hn fun _ => ?_
                  clear hK K
                  have D := D'
                  clear D'
                  refine wpAnyH_ready (rs := [8]) (by kernel_rfl) (by simp) ?_
                  refine AllReadyH.cons rfl (fun K hK => ?_) AllReadyH.nil
                  refine step_store_row0 rfl rfl _ _ _ rfl _ _ rfl rfl _ _ (D.ha _ _ rfl).1 (infoN _) (by rw [row20_size]; rfl) (row20_one _) ?_
                  have D' := D.setA (row20 (dg (m / 10)))
                  clear D
                  refine hK.out _ _ D'.hn fun _ => ?_
                  clear hK K
                  have D := D'
                  clear D'
                  refine wpAnyH_ready (rs := [9]) (by kernel_rfl) (by simp) ?_
                  refine AllReadyH.cons rfl (fun K hK => ?_) AllReadyH.nil
                  refine step_store_row0 rfl rfl _ _ _ rfl _ _ rfl rfl _ _ (D.hb _ _ rfl).1 (infoN _) (by rw [row20_size]; rfl) (row20_one _) ?_
                  have D' := D.setB (row20 (dg (m % 10)))
                  clear D
                  refine hK.out _ _ D'.hn fun _ => ?_
                  clear hK K
                  refine wpAnyH_done (by kernel_rfl) ?_ _
                  go_wp2_with fail
                  go_meet
                  exact ⟨_, _, rfl, rfl, D'⟩
              · go_simp
                have D' := D.allocB D.bel.size
                clear D
                generalize v2.alloc (.cells z20 81) = v3 at *
                refine hK.out _ _ D'.hn fun _ => ?_
                clear hK K
                have D := D'
                clear D'
                refine wpAnyH_ready (rs := [6]) (by kernel_rfl) (by simp) ?_
                refine AllReadyH.cons rfl (fun K hK => ?_) (AllReadyH.nil)
                · go_simp
                  have D' := D.allocA D.bel.size
                  clear D
                  generalize v3.alloc (.cells z20 81) = v4 at *
                  refine hK.out _ _ D'.hn fun _ => ?_
                  clear hK K
                  have D := D'
                  clear D'
                  refine wpAnyH_ready (rs := [8]) (by kernel_rfl) (by simp) ?_
                  refine AllReadyH.cons rfl (fun K hK => ?_) AllReadyH.nil
                  refine step_store_row0 rfl rfl _ _ _ rfl _ _ rfl rfl _ _ (D.ha _ _ rfl).1 (infoN _) (by rw [row20_size]; rfl) (row20_one _) ?_
                  have D' := D.setA (row20 (dg (m / 10)))
                  clear D
                  refine hK.out _ _ D'.hn fun _ => ?_
                  clear hK K
                  have D := D'
                  clear D'
                  refine wpAnyH_ready (rs := [9]) (by kernel_rfl) (by simp) ?_
                  refine AllReadyH.cons rfl (fun K hK => ?_) AllReadyH.nil
                  refine step_store_row0 rfl rfl _ _ _ rfl _ _ rfl rfl _ _ (D.hb _ _ rfl).1 (infoN _) (by rw [row20_size]; rfl) (row20_one _) ?_
                  have D' := D.setB (row20 (dg (m % 10)))
                  clear D
                  refine hK.out _ _ D'.hn fun _ => ?_
                  clear hK K
                  refine wpAnyH_done (by kernel_rfl) ?_ _
                  go_wp2_with fail
                  go_meet
                  exact ⟨_, _, rfl, rfl, D'⟩
            · go_simp
              have D' := D.allocA D.bel.size
              clear D
              generalize v1.alloc (.cells z20 81) = v2 at *
              refine hK.out _ _ D'.hn fun _ => ?_
              clear hK K
              have D := D'
              clear D'
              refine wpAnyH_ready (rs := [2, 7]) (by kernel_rfl) (by simp) ?_
              refine AllReadyH.cons rfl (fun K hK => ?_) (AllReadyH.cons rfl (fun K hK => ?_) (AllReadyH.nil))
              · go_simp
                refine (OV.out m HM.out _).mono ?_
                rintro e v3 ⟨rfl, hb⟩
                have D' := D.below D.bel.size hb
                clear D hb
                refine hK.out _ _ D'.hn fun _ => ?_
                clear hK K
                have D := D'
                clear D'
                refine wpAnyH_take (i := 3) rfl (by kernel_rfl) (by kernel_rfl) (by kernel_rfl) (fun _ _ _ h => h) (.inl ⟨by rfl, fun _ _ => rfl⟩) D.hn ?_
                refine wpAnyH_take (i := 4) rfl (by kernel_rfl) (by kernel_rfl) (by kernel_rfl) (fun _ _ _ h => h) (.inl ⟨by rfl, fun _ _ => rfl⟩) D.hn ?_
                refine wpAnyH_take (i := 5) rfl (by kernel_rfl) (by kernel_rfl) (by kernel_rfl) (fun _ _ _ h => h) (.inl ⟨by rfl, fun _ _ => rfl⟩) D.hn ?_
                simp only [Act.put, List.getElem_toArray, List.getElem_cons_succ, List.getElem_cons_zero, List.setIfInBounds_toArray, List.set_cons_succ, List.set_cons_zero]
                refine wpAnyH_ready (rs := [7]) (by kernel_rfl) (by simp) ?_
                refine AllReadyH.cons rfl (fun K hK => ?_) (AllReadyH.nil)
                · go_simp
                  have D' := D.allocB D.bel.size
                  clear D
                  generalize v3.alloc (.cells z20 81) = v4 at *
                  refine hK.out _ _ D'.hn fun _ => ?_
                  clear hK K
                  have D := D'
                  clear D'
                  refine wpAnyH_ready (rs := [8]) (by kernel_rfl) (by simp) ?_
                  refine AllReadyH.cons rfl (fun K hK => ?_) AllReadyH.nil
                  refine step_store_row0 rfl rfl _ _ _ rfl _ _ rfl rfl _ _ (D.ha _ _ rfl).1 (infoN _) (by rw [row20_size]; rfl) (row20_one _) ?_
                  have D' := D.setA (row20 (dg (m / 10)))
                  clear D
                  refine hK.out _ _ D'.hn fun _ => ?_
                  clear hK K
                  have D := D'
                  clear D'
                  refine wpAnyH_ready (rs := [9]) (by kernel_rfl) (by simp) ?_
                  refine AllReadyH.cons rfl (fun K hK => ?_) AllReadyH.nil
                  refine step_store_row0 rfl rfl _ _ _ rfl _ _ rfl rfl _ _ (D.hb _ _ rfl).1 (infoN _) (by rw [row20_size]; rfl) (row20_one _) ?_
                  have D' := D.setB (row20 (dg (m % 10)))
                  clear D
                  refine hK.out _ _ D'.hn fun _ => ?_
                  clear hK K
                  refine wpAnyH_done (by kernel_rfl) ?_ _
                  go_wp2_with fail
                  go_meet
                  exact ⟨_, _, rfl, rfl, D'⟩
              · go_simp
                have D' := D.allocB D.bel.size
                clear D
                generalize v2.alloc (.cells z20 81) = v3 at *
                refine hK.out _ _ D'.hn fun _ => ?_
                clear hK K
                have D := D'
                clear D'
                refine wpAnyH_ready (rs := [2]) (by kernel_rfl) (by simp) ?_
                refine AllReadyH.cons rfl (fun K hK => ?_) (AllReadyH.nil)
                · go_simp
                  refine (OV.out m HM.out _).mono ?_
                  rintro e v4 ⟨rfl, hb⟩
                  have D' := D.below D.bel.size hb
                  clear D hb
                  refine hK.out _ _ D'.hn fun _ => ?_
                  clear hK K
                  have D := D'
                  clear D'
                  refine wpAnyH_take (i := 3) rfl (by kernel_rfl) (by kernel_rfl) (by kernel_rfl) (fun _ _ _ h => h) (.inl ⟨by rfl, fun _ _ => rfl⟩) D.hn ?_
                  refine wpAnyH_take (i := 4) rfl (by kernel_rfl) (by kernel_rfl) (by kernel_rfl) (fun _ _ _ h => h) (.inl ⟨by rfl, fun _ _ => rfl⟩) D.hn ?_
                  refine wpAnyH_take (i := 5) rfl (by kernel_rfl) (by kernel_rfl) (by kernel_rfl) (fun _ _ _ h => h) (.inl ⟨by rfl, fun _ _ => rfl⟩) D.hn ?_
                  simp only [Act.put, List.getElem_toArray, List.getElem_cons_succ, List.getElem_cons_zero, List.setIfInBounds_toArray, List.set_cons_succ, List.set_cons_zero]
                  refine wpAnyH_ready (rs := [8]) (by kernel_rfl) (by simp) ?_
                  refine AllReadyH.cons rfl (fun K hK => ?_) AllReadyH.nil
                  refine step_store_row0 rfl rfl _ _ _ rfl _ _ rfl rfl _ _ (D.ha _ _ rfl).1 (infoN _) (by rw [row20_size]; rfl) (row20_one _) ?_
                  have D' := D.setA (row20 (dg (m / 10)))
                  clear D
                  refine hK.out _ _ D'.hn fun _ => ?_
                  clear hK K
                  have D := D'
                  clear D'
                  refine wpAnyH_ready (rs := [9]) (by kernel_rfl) (by simp) ?_
                  refine AllReadyH.cons rfl (fun K hK => ?_) AllReadyH.nil
                  refine step_store_row0 rfl rfl _ _ _ rfl _ _ rfl rfl _ _ (D.hb _ _ rfl).1 (infoN _) (by rw [row20_size]; rfl) (row20_one _) ?_
                  have D' := D.setB (row20 (dg (m % 10)))
                  clear D
                  refine hK.out _ _ D'.hn fun _ => ?_
                  clear hK K
                  refine wpAnyH_done (by kernel_rfl) ?_ _
                  go_wp2_with fail
                  go_meet
                  exact ⟨_, _, rfl, rfl, D'⟩
            · go_simp
              have D' := D.allocB D.bel.size
              clear D
              generalize v1.alloc (.cells z20 81) = v2 at *
              refine hK.out _ _ D'.hn fun _ => ?_
              clear hK K
              have D := D'
              clear D'
              refine wpAnyH_ready (rs := [2, 6]) (by kernel_rfl) (by simp) ?_
              refine AllReadyH.cons rfl (fun K hK => ?_) (AllReadyH.cons rfl (fun K hK => ?_) (AllReadyH.nil))
              · go_simp
                refine (OV.out m HM.out _).mono ?_
                rintro e v3 ⟨rfl, hb⟩
                have D' := D.below D.bel.size hb
                clear D hb
                refine hK.out _ _ D'.hn fun _ => ?_
                clear hK K
                have D := D'
                clear D'
                refine wpAnyH_take (i := 3) rfl (by kernel_rfl) (by kernel_rfl) (by kernel_rfl) (fun _ _ _ h => h) (.inl ⟨by rfl, fun _ _ => rfl⟩) D.hn ?_
                refine wpAnyH_take (i := 4) rfl (by kernel_rfl) (by kernel_rfl) (by kernel_rfl) (fun _ _ _ h => h) (.inl ⟨by rfl, fun _ _ => rfl⟩) D.hn ?_
                refine wpAnyH_take (i := 5) rfl (by kernel_rfl) (by kernel_rfl) (by kernel_rfl) (fun _ _ _ h => h) (.inl ⟨by rfl, fun _ _ => rfl⟩) D.hn ?_
                simp only [Act.put, List.getElem_toArray, List.getElem_cons_succ, List.getElem_cons_zero, List.setIfInBounds_toArray, List.set_cons_succ, List.set_cons_zero]
                refine wpAnyH_ready (rs := [6]) (by kernel_rfl) (by simp) ?_
                refine AllReadyH.cons rfl (fun K hK => ?_) (AllReadyH.nil)
                · go_simp
                  have D' := D.allocA D.bel.size
                  clear D
                  generalize v3.alloc (.cells z20 81) = v4 at *
                  refine hK.out _ _ D'.hn fun _ => ?_
                  clear hK K
                  have D := D'
                  clear D'
                  refine wpAnyH_ready (rs := [8]) (by kernel_rfl) (by simp) ?_
                  refine AllReadyH.cons rfl (fun K hK => ?_) AllReadyH.nil
                  refine step_store_row0 rfl rfl _ _ _ rfl _ _ rfl rfl _ _ (D.ha _ _ rfl).1 (infoN _) (by rw [row20_size]; rfl) (row20_one _) ?_
                  have D' := D.setA (row20 (dg (m / 10)))
                  clear D
                  refine hK.out _ _ D'.hn fun _ => ?_
                  clear hK K
                  have D := D'
                  clear D'
                  refine wpAnyH_ready (rs := [9]) (by kernel_rfl) (by simp) ?_
                  refine AllReadyH.cons rfl (fun K hK => ?_) AllReadyH.nil
                  refine step_store_row0 rfl rfl _ _ _ rfl _ _ rfl rfl _ _ (D.hb _ _ rfl).1 (infoN _) (by rw [row20_size]; rfl) (row20_one _) ?_
                  have D' := D.setB (row20 (dg (m % 10)))
                  clear D
                  refine hK.out _ _ D'.hn fun _ => ?_
                  clear hK K
                  refine wpAnyH_done (by kernel_rfl) ?_ _
                  go_wp2_with fail
                  go_meet
                  exact ⟨_, _, rfl, rfl, D'⟩
              · go_simp
                have D' := D.allocA D.bel.size
                clear D
                generalize v2.alloc (.cells z20 81) = v3 at *
                refine hK.out _ _ D'.hn fun _ => ?_
                clear hK K
                have D := D'
                clear D'
                refine wpAnyH_ready (rs := [2]) (by kernel_rfl) (by simp) ?_
                refine AllReadyH.cons rfl (fun K hK => ?_) (AllReadyH.nil)
                · go_simp
                  refine (OV.out m HM.out _).mono ?_
                  rintro e v4 ⟨rfl, hb⟩
                  have D' := D.below D.bel.size hb
                  clear D hb
                  refine hK.out _ _ D'.hn fun _ => ?_
                  clear hK K
                  have D := D'
                  clear D'
                  refine wpAnyH_take (i := 3) rfl (by kernel_rfl) (by kernel_rfl) (by kernel_rfl) (fun _ _ _ h => h) (.inl ⟨by rfl, fun _ _ => rfl⟩) D.hn ?_
                  refine wpAnyH_take (i := 4) rfl (by kernel_rfl) (by kernel_rfl) (by kernel_rfl) (fun _ _ _ h => h) (.inl ⟨by rfl, fun _ _ => rfl⟩) D.hn ?_
                  refine wpAnyH_take (i := 5) rfl (by kernel_rfl) (by kernel_rfl) (by kernel_rfl) (fun _ _ _ h => h) (.inl ⟨by rfl, fun _ _ => rfl⟩) D.hn ?_
                  simp only [Act.put, List.getElem_toArray, List.getElem_cons_succ, List.getElem_cons_zero, List.setIfInBounds_toArray, List.set_cons_succ, List.set_cons_zero]
                  refine wpAnyH_ready (rs := [8]) (by kernel_rfl) (by simp) ?_
                  refine AllReadyH.cons rfl (fun K hK => ?_) AllReadyH.nil
                  refine step_store_row0 rfl rfl _ _ _ rfl _ _ rfl rfl _ _ (D.ha _ _ rfl).1 (infoN _) (by rw [row20_size]; rfl) (row20_one _) ?_
                  have D' := D.setA (row20 (dg (m / 10)))
                  clear D
                  refine hK.out _ _ D'.hn fun _ => ?_
                  clear hK K
                  have D := D'
                  clear D'
                  refine wpAnyH_ready (rs := [9]) (by kernel_rfl) (by simp) ?_
                  refine AllReadyH.cons rfl (fun K hK => ?_) AllReadyH.nil
                  refine step_store_row0 rfl rfl _ _ _ rfl _ _ rfl rfl _ _ (D.hb _ _ rfl).1 (infoN _) (by rw [row20_size]; rfl) (row20_one _) ?_
                  have D' := D.setB (row20 (dg (m % 10)))
                  clear D
                  refine hK.out _ _ D'.hn fun _ => ?_
                  clear hK K
                  refine wpAnyH_done (by kernel_rfl) ?_ _
                  go_wp2_with fail
                  go_meet
                  exact ⟨_, _, rfl, rfl, D'⟩
          · go_simp
            have D' := D.allocA D.bel.size
            clear D
            generalize v0.alloc (.cells z20 81) = v1 at *
            refine hK.out _ _ D'.hn fun _ => ?_
            clear hK K
            have D := D'
            clear D'
            refine wpAnyH_ready (rs := [1, 7]) (by kernel_rfl) (by simp) ?_
            refine AllReadyH.cons rfl (fun K hK => ?_) (AllReadyH.cons rfl (fun K hK => ?_) (AllReadyH.nil))
            · go_simp
              refine (OF.out _).mono ?_
              rintro e v2 ⟨rfl, hb⟩
              have D' := D.below D.bel.size hb
              clear D hb
              refine hK.out _ _ D'.hn fun _ => ?_
              clear hK K
              have D := D'
              clear D'
              refine wpAnyH_ready (rs := [2, 7]) (by kernel_rfl) (by simp) ?_
              refine AllReadyH.cons rfl (fun K hK => ?_) (AllReadyH.cons rfl (fun K hK => ?_) (AllReadyH.nil))
              · go_simp
                refine (OV.out m HM.out _).mono ?_
                rintro e v3 ⟨rfl, hb⟩
                have D' := D.below D.bel.size hb
                clear D hb
                refine hK.out _ _ D'.hn fun _ => ?_
                clear hK K
                have D := D'
                clear D'
                refine wpAnyH_take (i := 3) rfl (by kernel_rfl) (by kernel_rfl) (by kernel_rfl) (fun _ _ _ h => h) (.inl ⟨by rfl, fun _ _ => rfl⟩) D.hn ?_
                refine wpAnyH_take (i := 4) rfl (by kernel_rfl) (by kernel_rfl) (by kernel_rfl) (fun _ _ _ h => h) (.inl ⟨by rfl, fun _ _ => rfl⟩) D.hn ?_
                refine wpAnyH_take (i := 5) rfl (by kernel_rfl) (by kernel_rfl) (by kernel_rfl) (fun _ _ _ h => h) (.inl ⟨by rfl, fun _ _ => rfl⟩) D.hn ?_
                simp only [Act.put, List.getElem_toArray, List.getElem_cons_succ, List.getElem_cons_zero, List.setIfInBounds_toArray, List.set_cons_succ, List.set_cons_zero]
                refine wpAnyH_ready (rs := [7]) (by kernel_rfl) (by simp) ?_
                refine AllReadyH.cons rfl (fun K hK => ?_) (AllReadyH.nil)
                · go_simp
                  have D' := D.allocB D.bel.size
                  clear D
                  generalize v3.alloc (.cells z20 81) = v4 at *
                  refine hK.out _ _ D'.hn fun _ => ?_
                  clear hK K
                  have D := D'
                  clear D'
                  refine wpAnyH_ready (rs := [8]) (by kernel_rfl) (by simp) ?_
                  refine AllReadyH.cons rfl (fun K hK => ?_) AllReadyH.nil
                  refine step_store_row0 rfl rfl _ _ _ rfl _ _ rfl rfl _ _ (D.ha _ _ rfl).1 (infoN _) (by rw [row20_size]; rfl) (row20_one _) ?_
                  have D' := D.setA (row20 (dg (m / 10)))
                  clear D
                  refine hK.out _ _ D'.hn fun _ => ?_
                  clear hK K
                  have D := D'
                  clear D'
                  refine wpAnyH_ready (rs := [9]) (by kernel_rfl) (by simp) ?_
                  refine AllReadyH.cons rfl (fun K hK => ?_) AllReadyH.nil
                  refine step_store_row0 rfl rfl _ _ _ rfl _ _ rfl rfl _ _ (D.hb _ _ rfl).1 (infoN _) (by rw [row20_size]; rfl) (row20_one _) ?_
                  have D' := D.setB (row20 (dg (m % 10)))
                  clear D
                  refine hK.out _ _ D'.hn fun _ => ?_
                  clear hK K
                  refine wpAnyH_done (by kernel_rfl) ?_ _
                  go_wp2_with fail
                  go_meet
                  exact ⟨_, _, rfl, rfl, D'⟩
              · go_simp
                have D' := D.allocB D.bel.size
                clear D
                generalize v2.alloc (.cells z20 81) = v3 at *
                refine hK.out _ _ D'.hn fun _ => ?_
                clear hK K
                have D := D'
                clear D'
                refine wpAnyH_ready (rs := [2]) (by kernel_rfl) (by simp) ?_
                refine AllReadyH.cons rfl (fun K hK => ?_) (AllReadyH.nil)
                · go_simp
                  refine (OV.out m HM.out _).mono ?_
                  rintro e v4 ⟨rfl, hb⟩
                  have D' := D.below D.bel.size hb
                  clear D hb
                  refine hK.out _ _ D'.hn fun _ => ?_
                  clear hK K
                  have D := D'
                  clear D'
                  refine wpAnyH_take (i := 3) rfl (by kernel_rfl) (by kernel_rfl) (by kernel_rfl) (fun _ _ _ h => h) (.inl ⟨by rfl, fun _ _ => rfl⟩) D.hn ?_
                  refine wpAnyH_take (i := 4) rfl (by kernel_rfl) (by kernel_rfl) (by kernel_rfl) (fun _ _ _ h => h) (.inl ⟨by rfl, fun _ _ => rfl⟩) D.hn ?_
                  refine wpAnyH_take (i := 5) rfl (by kernel_rfl) (by kernel_rfl) (by kernel_rfl) (fun _ _ _ h => h) (.inl ⟨by rfl, fun _ _ => rfl⟩) D.hn ?_
                  simp only [Act.put, List.getElem_toArray, List.getElem_cons_succ, List.getElem_cons_zero, List.setIfInBounds_toArray, List.set_cons_succ, List.set_cons_zero]
                  refine wpAnyH_ready (rs := [8]) (by kernel_rfl) (by simp) ?_
                  refine AllReadyH.cons rfl (fun K hK => ?_) AllReadyH.nil
                  refine step_store_row0 rfl rfl _ _ _ rfl _ _ rfl rfl _ _ (D.ha _ _ rfl).1 (infoN _) (by rw [row20_size]; rfl) (row20_one _) ?_
                  have D' := D.setA (row20 (dg (m / 10)))
                  clear D
                  refine hK.out _ _ D'.hn fun _ => ?_
                  clear hK K
                  have D := D'
                  clear D'
                  refine wpAnyH_ready (rs := [9]) (by kernel_rfl) (by simp) ?_
                  refine AllReadyH.cons rfl (fun K hK => ?_) AllReadyH.nil
                  refine step_store_row0 rfl rfl _ _ _ rfl _ _ rfl rfl _ _ (D.hb _ _ rfl).1 (infoN _) (by rw [row20_size]; rfl) (row20_one _) ?_
                  have D' := D.setB (row20 (dg (m % 10)))
                  clear D
                  refine hK.out _ _ D'.hn fun _ => ?_
                  clear hK K
                  refine wpAnyH_done (by kernel_rfl) ?_ _
                  go_wp2_with fail
                  go_meet
                  exact ⟨_, _, rfl, rfl, D'⟩
            · go_simp
              have D' := D.allocB D.bel.size
              clear D
              generalize v1.alloc (.cells z20 81) = v2 at *
              refine hK.out _ _ D'.hn fun _ => ?_
              clear hK K
              have D := D'
              clear D'
              refine wpAnyH_ready (rs := [1]) (by kernel_rfl) (by simp) ?_
              refine AllReadyH.cons rfl (fun K hK => ?_) (AllReadyH.nil)
              · go_simp
                refine (OF.out _).mono ?_
                rintro e v3 ⟨rfl, hb⟩
                have D' := D.below D.bel.size hb
                clear D hb
                refine hK.out _ _ D'.hn fun _ => ?_
                clear hK K
                have D := D'
                clear D'
                refine wpAnyH_ready (rs := [2]) (by kernel_rfl) (by simp) ?_
                refine AllReadyH.cons rfl (fun K hK => ?_) (AllReadyH.nil)
                · go_simp
                  refine (OV.out m HM.out _).mono ?_
                  rintro e v4 ⟨rfl, hb⟩
                  have D' := D.below D.bel.size hb
                  clear D hb
                  refine hK.out _ _ D'.hn fun _ => ?_
                  clear hK K
                  have D := D'
                  clear D'
                  refine wpAnyH_take (i := 3) rfl (by kernel_rfl) (by kernel_rfl) (by kernel_rfl) (fun _ _ _ h => h) (.inl ⟨by rfl, fun _ _ => rfl⟩) D.hn ?_
                  refine wpAnyH_take (i := 4) rfl (by kernel_rfl) (by kernel_rfl) (by kernel_rfl) (fun _ _ _ h => h) (.inl ⟨by rfl, fun _ _ => rfl⟩) D.hn ?_
                  refine wpAnyH_take (i := 5) rfl (by kernel_rfl) (by kernel_rfl) (by kernel_rfl) (fun _ _ _ h => h) (.inl ⟨by rfl, fun _ _ => rfl⟩) D.hn ?_
                  simp only [Act.put, List.getElem_toArray, List.getElem_cons_succ, List.getElem_cons_zero, List.setIfInBounds_toArray, List.set_cons_succ, List.set_cons_zero]
                  refine wpAnyH_ready (rs := [8]) (by kernel_rfl) (by simp) ?_
                  refine AllReadyH.cons rfl (fun K hK => ?_) AllReadyH.nil
                  refine step_store_row0 rfl rfl _ _ _ rfl _ _ rfl rfl _ _ (D.ha _ _ rfl).1 (infoN _) (by rw [row20_size]; rfl) (row20_one _) ?_
                  have D' := D.setA (row20 (dg (m / 10)))
                  clear D
                  refine hK.out _ _ D'.hn fun _ => ?_
                  clear hK K
                  have D := D'
                  clear D'
                  refine wpAnyH_ready (rs := [9]) (by kernel_rfl) (by simp) ?_
                  refine AllReadyH.cons rfl (fun K hK => ?_) AllReadyH.nil
                  refine step_store_row0 rfl rfl _ _ _ rfl _ _ rfl rfl _ _ (D.hb _ _ rfl).1 (infoN _) (by rw [row20_size]; rfl) (row20_one _) ?_
                  have D' := D.setB (row20 (dg (m % 10)))
                  clear D
                  refine hK.out _ _ D'.hn fun _ => ?_
                  clear hK K
                  refine wpAnyH_done (by kernel_rfl) ?_ _
                  go_wp2_with fail
                  go_meet
                  exact ⟨_, _, rfl, rfl, D'⟩
          · go_simp
            have D' := D.allocB D.bel.size
            clear D
            generalize v0.alloc (.cells z20 81) = v1 at *
            refine hK.out _ _ D'.hn fun _ => ?_
            clear hK K
            have D := D'
            clear D'
            refine wpAnyH_ready (rs := [1, 6]) (by kernel_rfl) (by simp) ?_
            refine AllReadyH.cons rfl (fun K hK => ?_) (AllReadyH.cons rfl (fun K hK => ?_) (AllReadyH.nil))
            · go_simp
              refine (OF.out _).mono ?_
              rintro e v2 ⟨rfl, hb⟩
              have D' := D.below D.bel.size hb
              clear D hb
              refine hK.out _ _ D'.hn fun _ => ?_
              clear hK K
              have D := D'
              clear D'
              refine wpAnyH_ready (rs := [2, 6]) (by kernel_rfl) (by simp) ?_
              refine AllReadyH.cons rfl (fun K hK => ?_) (AllReadyH.cons rfl (fun K hK => ?_) (AllReadyH.nil))
              · go_simp
                refine (OV.out m HM.out _).mono ?_
                rintro e v3 ⟨rfl, hb⟩
                have D' := D.below D.bel.size hb
                clear D hb
                refine hK.out _ _ D'.hn fun _ => ?_
                clear hK K
                have D := D'
                clear D'
                refine wpAnyH_take (i := 3) rfl (by kernel_rfl) (by kernel_rfl) (by kernel_rfl) (fun _ _ _ h => h) (.inl ⟨by rfl, fun _ _ => rfl⟩) D.hn ?_
                refine wpAnyH_take (i := 4) rfl (by kernel_rfl) (by kernel_rfl) (by kernel_rfl) (fun _ _ _ h => h) (.inl ⟨by rfl, fun _ _ => rfl⟩) D.hn ?_
                refine wpAnyH_take (i := 5) rfl (by kernel_rfl) (by kernel_rfl) (by kernel_rfl) (fun _ _ _ h => h) (.inl ⟨by rfl, fun _ _ => rfl⟩) D.hn ?_
                simp only [Act.put, List.getElem_toArray, List.getElem_cons_succ, List.getElem_cons_zero, List.setIfInBounds_toArray, List.set_cons_succ, List.set_cons_zero]
                refine wpAnyH_ready (rs := [6]) (by kernel_rfl) (by simp) ?_
                refine AllReadyH.cons rfl (fun K hK => ?_) (AllReadyH.nil)
                · go_simp
                  have D' := D.allocA D.bel.size
                  clear D
                  generalize v3.alloc (.cells z20 81) = v4 at *
                  refine hK.out _ _ D'.hn fun _ => ?_
                  clear hK K
                  have D := D'
                  clear D'
                  refine wpAnyH_ready (rs := [8]) (by kernel_rfl) (by simp) ?_
                  refine AllReadyH.cons rfl (fun K hK => ?_) AllReadyH.nil
                  refine step_store_row0 rfl rfl _ _ _ rfl _ _ rfl rfl _ _ (D.ha _ _ rfl).1 (infoN _) (by rw [row20_size]; rfl) (row20_one _) ?_
                  have D' := D.setA (row20 (dg (m / 10)))
                  clear D
                  refine hK.out _ _ D'.hn fun _ => ?_
                  clear hK K
                  have D := D'
                  clear D'
                  refine wpAnyH_ready (rs := [9]) (by kernel_rfl) (by simp) ?_
                  refine AllReadyH.cons rfl (fun K hK => ?_) AllReadyH.nil
                  refine step_store_row0 rfl rfl _ _ _ rfl _ _ rfl rfl _ _ (D.hb _ _ rfl).1 (infoN _) (by rw [row20_size]; rfl) (row20_one _) ?_
                  have D' := D.setB (row20 (dg (m % 10)))
                  clear D
                  refine hK.out _ _ D'.hn fun _ => ?_
                  clear hK K
                  refine wpAnyH_done (by kernel_rfl) ?_ _
                  go_wp2_with fail
                  go_meet
                  exact ⟨_, _, rfl, rfl, D'⟩
              · go_simp
                have D' := D.allocA D.bel.size
                clear D
                generalize v2.alloc (.cells z20 81) = v3 at *
                refine hK.out _ _ D'.hn fun _ => ?_
                clear hK K
                have D := D'
                clear D'
                refine wpAnyH_ready (rs := [2]) (by kernel_rfl) (by simp) ?_
                refine AllReadyH.cons rfl (fun K hK => ?_) (AllReadyH.nil)
                · go_simp
                  refine (OV.out m HM.out _).mono ?_
                  rintro e v4 ⟨rfl, hb⟩
                  have D' := D.below D.bel.size hb
                  clear D hb
                  refine hK.out _ _ D'.hn fun _ => ?_
                  clear hK K
                  have D := D'
                  clear D'
                  refine wpAnyH_take (i := 3) rfl (by kernel_rfl) (by kernel_rfl) (by kernel_rfl) (fun _ _ _ h => h) (.inl ⟨by rfl, fun _ _ => rfl⟩) D.hn ?_
                  refine wpAnyH_take (i := 4) rfl (by kernel_rfl) (by kernel_rfl) (by kernel_rfl) (fun _ _ _ h => h) (.inl ⟨by rfl, fun _ _ => rfl⟩) D.hn ?_
                  refine wpAnyH_take (i := 5) rfl (by kernel_rfl) (by kernel_rfl) (by kernel_rfl) (fun _ _ _ h => h) (.inl ⟨by rfl, fun _ _ => rfl⟩) D.hn ?_
                  simp only [Act.put, List.getElem_toArray, List.getElem_cons_succ, List.getElem_cons_zero, List.setIfInBounds_toArray, List.set_cons_succ, List.set_cons_zero]
                  refine wpAnyH_ready (rs := [8]) (by kernel_rfl) (by simp) ?_
                  refine AllReadyH.cons rfl (fun K hK => ?_) AllReadyH.nil
                  refine step_store_row0 rfl rfl _ _ _ rfl _ _ rfl rfl _ _ (D.ha _ _ rfl).1 (infoN _) (by rw [row20_size]; rfl) (row20_one _) ?_
                  have D' := D.setA (row20 (dg (m / 10)))
                  clear D
                  refine hK.out _ _ D'.hn fun _ => ?_
                  clear hK K
                  have D := D'
                  clear D'
                  refine wpAnyH_ready (rs := [9]) (by kernel_rfl) (by simp) ?_
                  refine AllReadyH.cons rfl (fun K hK => ?_) AllReadyH.nil
                  refine step_store_row0 rfl rfl _ _ _ rfl _ _ rfl rfl _ _ (D.hb _ _ rfl).1 (infoN _) (by rw [row20_size]; rfl) (row20_one _) ?_
                  have D' := D.setB (row20 (dg (m % 10)))
                  clear D
                  refine hK.out _ _ D'.hn fun _ => ?_
                  clear hK K
                  refine wpAnyH_done (by kernel_rfl) ?_ _
                  go_wp2_with fail
                  go_meet
                  exact ⟨_, _, rfl, rfl, D'⟩
            · go_simp
              have D' := D.allocA D.bel.size
              clear D
              generalize v1.alloc (.cells z20 81) = v2 at *
              refine hK.out _ _ D'.hn fun _ => ?_
              clear hK K
              have D := D'
              clear D'
              refine wpAnyH_ready (rs := [1]) (by kernel_rfl) (by simp) ?_
              refine AllReadyH.cons rfl (fun K hK => ?_) (AllReadyH.nil)
              · go_simp
                refine (OF.out _).mono ?_
                rintro e v3 ⟨rfl, hb⟩
                have D' := D.below D.bel.size hb
                clear D hb
                refine hK.out _ _ D'.hn fun _ => ?_
                clear hK K
                have D := D'
                clear D'
                refine wpAnyH_ready (rs := [2]) (by kernel_rfl) (by simp) ?_
                refine AllReadyH.cons rfl (fun K hK => ?_) (AllReadyH.nil)
                · go_simp
                  refine (OV.out m HM.out _).mono ?_
                  rintro e v4 ⟨rfl, hb⟩
                  have D' := D.below D.bel.size hb
                  clear D hb
                  refine hK.out _ _ D'.hn fun _ => ?_
                  clear hK K
                  have D := D'
                  clear D'
                  refine wpAnyH_take (i := 3) rfl (by kernel_rfl) (by kernel_rfl) (by kernel_rfl) (fun _ _ _ h => h) (.inl ⟨by rfl, fun _ _ => rfl⟩) D.hn ?_
                  refine wpAnyH_take (i := 4) rfl (by kernel_rfl) (by kernel_rfl) (by kernel_rfl) (fun _ _ _ h => h) (.inl ⟨by rfl, fun _ _ => rfl⟩) D.hn ?_
                  refine wpAnyH_take (i := 5) rfl (by kernel_rfl) (by kernel_rfl) (by kernel_rfl) (fun _ _ _ h => h) (.inl ⟨by rfl, fun _ _ => rfl⟩) D.hn ?_
                  simp only [Act.put, List.getElem_toArray, List.getElem_cons_succ, List.getElem_cons_zero, List.setIfInBounds_toArray, List.set_cons_succ, List.set_cons_zero]
                  refine wpAnyH_ready (rs := [8]) (by kernel_rfl) (by simp) ?_
                  refine AllReadyH.cons rfl (fun K hK => ?_) AllReadyH.nil
                  refine step_store_row0 rfl rfl _ _ _ rfl _ _ rfl rfl _ _ (D.ha _ _ rfl).1 (infoN _) (by rw [row20_size]; rfl) (row20_one _) ?_
                  have D' := D.setA (row20 (dg (m / 10)))
                  clear D
                  refine hK.out _ _ D'.hn fun _ => ?_
                  clear hK K
                  have D := D'
                  clear D'
                  refine wpAnyH_ready (rs := [9]) (by kernel_rfl) (by simp) ?_
                  refine AllReadyH.cons rfl (fun K hK => ?_) AllReadyH.nil
                  refine step_store_row0 rfl rfl _ _ _ rfl _ _ rfl rfl _ _ (D.hb _ _ rfl).1 (infoN _) (by rw [row20_size]; rfl) (row20_one _) ?_
                  have D' := D.setB (row20 (dg (m % 10)))
                  clear D
                  refine hK.out _ _ D'.hn fun _ => ?_
                  clear hK K
                  refine wpAnyH_done (by kernel_rfl) ?_ _
                  go_wp2_with fail
                  go_meet
                  exact ⟨_, _, rfl, rfl, D'⟩
          -- REGION END
          skip
        case rest =>
          obtain ⟨g, g', rfl, rfl, D⟩ := hcut
          obtain ⟨a1, a2, a3⟩ := D.ha _ _ rfl
          obtain ⟨b1, b2, b3⟩ := D.hb _ _ rfl
          have hne := D.ne _ _ _ _ rfl rfl
          have c0 := cells_at b1 0 (by omega)
          have hr : dg (m % 10) 0 = m % 10 := by unfold dg; omega
          rw [hr] at c0
          have hd : m % 10 < 10 := Nat.mod_lt _ (by omega)
          have hx := digit_text (m % 10) hd
          have hlen := HD2.out.len
          have h20 := nDigits_20 N HN.out
          have hcat := cons_text (UInt8.ofNat (48 + m % 10)) S
          rw [List.length_cons] at hlen
          have HL : Hid (S.length + 1 ≤ Lib.nDigits N) := Lib.hid hlen
          have hsl : S.length ≤ 20 := by omega
          have G0 := D.hn
          have HDD := Lib.hid D
          clear D b1 hlen h20 hr
          generalize m % 10 = d at *
          generalize UInt8.ofNat (48 + d) = x at *
          clear HF HM
          go_wp2_with (first | (refine wpList_load_row rfl 81 _ rfl _ rfl _ _ _ _ a1 Tryz.underlying81 rfl (infoN _) ?_) | (refine wpList_store_row rfl _ _ _ rfl _ _ rfl rfl _ _ G0 (infoN _) (by rw [row20_size]; rfl) (row20_one _) ?_))
          refine ⟨?_, ?_⟩
          · (repeat apply Exists.intro)
            refine ⟨?_, rfl⟩
            exact ⟨m / 10, x :: S, rfl, HD2.out, DgSt.start (setRow_heap _ _ _ _ _ _ G0) (HDD.out.bel.setRow (Nat.le_refl _) _)⟩
          · have := HL.out
            simp [strLen, ByteArray.size, Act.put]
            omega
      · have hm : m = 0 := by omega
        have hS0 : S ≠ [] := fun h => hgo (.inl h)
        obtain rfl := HF.out _ _ HD.out hS0 hm
        rw [decide_eq_false hgo]
        have hbel := HS.out.bel
        clear HS HD hgo hS0 hm HF
        go_wp2
        go_ret
        exact ⟨rfl, hbel⟩
end Go.Proofs.YthlgjbmkealjjaaGreatDoor

namespace Go.Proofs.YthlgjbmkealjjaaGreatDoor
open Go.RowKit Go.Shelf Go.Lib
set_option linter.unusedVariables false

def bigL (n : Nat) : List UInt8 := Lib.decDigits (n / 100) ++ [UInt8.ofNat (48 + n % 100 / 10), UInt8.ofNat (48 + n % 100 % 10)]
structure PadAt (n : Nat) (S : List UInt8) : Prop where
  l1 : 1 ≤ S.length
  l20 : S.length ≤ 20
  p3 : 3 ≤ S.length → S = bigL n
  p2 : S.length = 2 → 48 :: S = bigL n
  p1 : S.length = 1 → 48 :: 48 :: S = bigL n
theorem PadAt.start (n : Nat) (h : n < 18446744073709551616) : PadAt n (Lib.decDigits n) := by
  have h20 := nDigits_20 n h
  have hp := Lib.nDigits_pos n
  refine ⟨by rw [Lib.decDigits_length]; omega, by rw [Lib.decDigits_length]; exact h20, fun h3 => ?_, fun h2 => ?_, fun h1 => ?_⟩
  · rw [Lib.decDigits_length] at h3
    have h10 : 10 ≤ n := by
      rcases Nat.lt_or_ge n 10 with h4 | h4
      · rw [Lib.nDigits_small h4] at h3; omega
      · exact h4
    have h100 : 10 ≤ n / 10 := by
      rcases Nat.lt_or_ge (n / 10) 10 with h4 | h4
      · rw [Lib.nDigits_big (by omega), Lib.nDigits_small h4] at h3; omega
      · exact h4
    unfold bigL
    rw [dec_rec n h10, dec_rec (n / 10) h100, List.append_assoc, show n / 10 / 10 = n / 100 by omega, show n % 100 / 10 = n / 10 % 10 by omega, show n % 100 % 10 = n % 10 by omega]
    rfl
  · rw [Lib.decDigits_length] at h2
    have h10 : 10 ≤ n := by
      rcases Nat.lt_or_ge n 10 with h4 | h4
      · rw [Lib.nDigits_small h4] at h2; omega
      · exact h4
    rw [Lib.nDigits_big (by omega)] at h2
    have h100 : n / 10 < 10 := by
      rcases Nat.lt_or_ge (n / 10) 10 with h4 | h4
      · exact h4
      · rw [Lib.nDigits_big (by omega)] at h2
        have := Lib.nDigits_pos (n / 10 / 10)
        omega
    unfold bigL
    rw [dec_rec n h10, dec_small (n / 10) h100, show n / 100 = 0 by omega, dec_small 0 (by omega), show n % 100 / 10 = n / 10 by omega, show n % 100 % 10 = n % 10 by omega]
    rfl
  · rw [Lib.decDigits_length] at h1
    have h10 : n < 10 := by
      rcases Nat.lt_or_ge n 10 with h4 | h4
      · exact h4
      · rw [Lib.nDigits_big (by omega)] at h1
        have := Lib.nDigits_pos (n / 10)
        omega
    unfold bigL
    rw [dec_small n h10, show n / 100 = 0 by omega, dec_small 0 (by omega), show n % 100 / 10 = 0 by omega, show n % 100 % 10 = n by omega]
    rfl
theorem PadAt.step {n : Nat} {S : List UInt8} (h : PadAt n S) (hl : S.length < 3) : PadAt n (48 :: S) :=
  ⟨by simp, by simp; omega, fun h3 => h.p2 (by rw [List.length_cons] at h3; omega), fun h2 => h.p1 (by simpa using h2), fun h1 => by have := h.l1; rw [List.length_cons] at h1; omega⟩
theorem natAbs_ok (v : Int) (h0 : -9223372036854775808 ≤ v) (h1 : v ≤ 9223372036854775807) : v.natAbs < 18446744073709551616 := by omega
set_option maxHeartbeats 4000000 in
theorem refText_any (v : Int) (w : World) (h0 : -9223372036854775808 ≤ v) (h1 : v ≤ 9223372036854775807) :
    Calls Tryz.prog 26 #[.int .i64 v] w fun e w' => e = .returned (.string ⟨(textL v).toArray⟩) ∧ Below w.heap.size w w' := by
  have SZ := Lib.hid (fun w => Size_any v w h0 h1)
  have DG := Lib.hid (fun w => Digits_any v.natAbs w (natAbs_ok v h0 h1))
  have ST := Lib.hid (PadAt.start v.natAbs (natAbs_ok v h0 h1))
  have HT : Hid (textL v = if v < 0 then 45 :: bodyL v.natAbs else bodyL v.natAbs) := Lib.hid rfl
  generalize textL v = T at *
  generalize natOf v.natAbs = nv at *
  go_enter Tryz.func26, Tryz.ntmps26
  go_wp2_with fail
  refine (SZ.out w).mono ?_
  rintro e w1 ⟨rfl, hb1⟩
  go_wp2_with fail
  refine (DG.out _).mono ?_
  rintro e w2 ⟨rfl, hb2⟩
  have HB := Lib.hid (hb1.trans (hb2.mono hb1.size))
  clear hb1 hb2 SZ DG
  go_wp2_with fail
  go_loopw [3] (fun t wr => ∃ S : List UInt8, t = .string ⟨S.toArray⟩ ∧ PadAt v.natAbs S ∧ wr = w2) (fun t _ => 3 - strLen t)
  case atStart => exact ⟨_, rfl, ST.out, rfl⟩
  case round =>
    clear ST
    obtain ⟨S, rfl, hP, rfl⟩ := hrel
    by_cases hl : S.length < 3
    · have HP2 := Lib.hid (hP.step hl)
      have hsl : S.length ≤ 20 := hP.l20
      have hcat := cons_text 48 S
      clear hP
      go_wp2
      go_roundw
      case rel => exact ⟨48 :: S, rfl, HP2.out, trivial⟩
      case measure =>
        simp [strLen, ByteArray.size]
        omega
    · have hb := hP.p3 (by omega)
      have h20 := hP.l20
      subst hb
      have HT2 : Hid (∀ X : ByteArray, X = ⟨(bodyL v.natAbs).toArray⟩ → T = if v < 0 then 45 :: X.data.toList else X.data.toList) := Lib.hid (fun X h => by rw [HT.out, h])
      have hsp : bodyL v.natAbs = Lib.decDigits (v.natAbs / 100) ++ 46 :: [UInt8.ofNat (48 + v.natAbs % 100 / 10), UInt8.ofNat (48 + v.natAbs % 100 % 10)] := rfl
      have hbg : bigL v.natAbs = Lib.decDigits (v.natAbs / 100) ++ [UInt8.ofNat (48 + v.natAbs % 100 / 10), UInt8.ofNat (48 + v.natAbs % 100 % 10)] := rfl
      obtain ⟨U, hU⟩ : ∃ U, U = Lib.decDigits (v.natAbs / 100) := ⟨_, rfl⟩
      obtain ⟨D, hD⟩ : ∃ D, D = [UInt8.ofNat (48 + v.natAbs % 100 / 10), UInt8.ofNat (48 + v.natAbs % 100 % 10)] := ⟨_, rfl⟩
      rw [← hU, ← hD] at hsp hbg
      have hD2 : D.length = 2 := by rw [hD]; rfl
      rw [hsp] at HT2
      rw [hbg] at hl h20 ⊢
      clear hU hD hsp hbg hP HT
      generalize hsB : (⟨(U ++ D).toArray⟩ : ByteArray) = sB at *
      have hsz : (sB.size : Int) = (U.length : Int) + 2 := by rw [← hsB]; simp [ByteArray.size, hD2]
      have hsz2 : sB.size = U.length + 2 := by omega
      have hx1 : sB.extract 0 U.length = ⟨U.toArray⟩ := by
        apply ByteArray.ext
        rw [← hsB]
        simp
      have hx2 : sB.extract U.length (U.length + 2) = ⟨D.toArray⟩ := by
        apply ByteArray.ext
        rw [← hsB]
        simp
        exact List.take_of_length_le (by omega)
      rw [List.length_append, hD2] at hl h20
      have hU1 : 1 ≤ U.length := by omega
      have hU2 : ¬ ((U.length : Int) + 2 < 3) := by omega
      have hU20 : U.length ≤ 18 := by omega
      clear hsB hl h20
      go_wp2_with fail
      go_quiet (fail)
      have hX : (⟨U.toArray⟩ : ByteArray) ++ ⟨#[46]⟩ ++ ⟨D.toArray⟩ = ⟨(U ++ 46 :: D).toArray⟩ := by
        apply ByteArray.ext
        simp
      have hXs : ((⟨U.toArray⟩ : ByteArray) ++ ⟨#[46]⟩ ++ ⟨D.toArray⟩).size ≤ 21 := by
        rw [hX]
        simp [ByteArray.size, hD2]
        omega
      generalize (⟨U.toArray⟩ : ByteArray) ++ ⟨#[46]⟩ ++ ⟨D.toArray⟩ = X at *
      have HTX := Lib.hid (HT2.out X hX)
      clear HT2 hX hx1 hx2 hsz hsz2 hU1 hU2 hU20 hD2
      by_cases hv : v < 0
      · obtain rfl : T = 45 :: X.data.toList := by rw [HTX.out, if_pos hv]
        have hc : (⟨(45 :: X.data.toList).toArray⟩ : ByteArray) = ⟨#[45]⟩ ++ X := by
          rw [← cons_text 45 X.data.toList]
        have HC := Lib.hid hc
        clear HTX hc
        go_wp2
        go_ret
        exact ⟨by rw [HC.out]; rfl, below_drewN HB.out _⟩
      · obtain rfl : T = X.data.toList := by rw [HTX.out, if_neg hv]
        clear HTX
        go_wp2
        go_ret
        exact ⟨rfl, below_drewN HB.out _⟩
end Go.Proofs.YthlgjbmkealjjaaGreatDoor

namespace Go.Proofs.YthlgjbmkealjjaaGreatDoor
open Go.RowKit Go.Shelf Go.Lib
set_option linter.unusedVariables false

theorem bodyOf_minus (s : ByteArray) (h : minusOf s.data.toList = true) : ∃ h0 : 0 < s.size, s[0]'h0 = 45 ∧ (s.extract 1 s.size).data.toList = bodyOf s.data.toList := by
  have hb : bodyOf s.data.toList = s.data.toList.tail := by unfold bodyOf; rw [if_pos h]
  unfold minusOf at h
  rcases hs : s.data.toList with _ | ⟨c, l⟩
  · rw [hs] at h; simp at h
  · have h0 : 0 < s.size := by
      have e : s.data.toList.length = s.size := by simp
      rw [← e, hs]; simp
    refine ⟨h0, ?_, ?_⟩
    · have e : s.data.toList[0]? = some 45 := by
        rw [hs] at h ⊢
        simpa using h
      rw [List.getElem?_eq_getElem (by rw [hs]; simp)] at e
      exact Option.some.inj e
    · rw [ext_drop, hs]
      unfold bodyOf
      rw [if_pos (by rw [← hs]; exact h)]
      rfl
theorem bodyOf_plain (s : ByteArray) (h : minusOf s.data.toList = false) : bodyOf s.data.toList = s.data.toList ∧ ∀ h0 : 0 < s.size, s[0]'h0 ≠ 45 := by
  refine ⟨by unfold bodyOf; rw [h, if_neg (by simp)], fun h0 h1 => ?_⟩
  have e : s.data.toList.length = s.size := by simp
  have e2 : s.data.toList[0]? = some (s[0]'h0) := by
    rw [List.getElem?_eq_getElem (by omega)]
    rfl
  rw [h1] at e2
  unfold minusOf at h
  rw [List.head?_eq_getElem?, e2] at h
  simp at h
set_option maxRecDepth 100000 in
set_option maxHeartbeats 4000000 in
theorem refRead_any (s : ByteArray) (w : World) (hs : s.size ≤ 140737488351232) :
    Calls Tryz.prog 21 #[.string s] w fun e w' => e = .returned (.tuple #[.int .i64 (readOf s.data.toList).1, .int .i64 (readOf s.data.toList).2]) ∧ Below w.heap.size w w' := by
  obtain ⟨d, hd⟩ : ∃ d : ByteArray, d.data.toList = bodyOf s.data.toList := ⟨⟨(bodyOf s.data.toList).toArray⟩, by simp⟩
  have hm1 := Lib.hid (bodyOf_minus s)
  have hm2 := Lib.hid (bodyOf_plain s)
  have HRB : Hid (¬ okBody d.data.toList → readOf s.data.toList = (0, 7)) := Lib.hid fun h => readOf_bad _ (by rw [← hd]; exact h)
  have HR0 : Hid (minusOf s.data.toList = true → d.data.toList = [48, 46, 48, 48] → readOf s.data.toList = (0, 7)) := Lib.hid fun h h2 => readOf_bad0 _ h (by rw [← hd]; exact h2)
  have HRG : Hid (okBody d.data.toList → ¬ (minusOf s.data.toList = true ∧ d.data.toList = [48, 46, 48, 48]) → readOf s.data.toList = sgn (numOf (whole d.data.toList ++ cents d.data.toList)) (minusOf s.data.toList)) := Lib.hid fun h h2 => by
    have := readOf_good s.data.toList (by rw [← hd]; exact h) (by rw [← hd]; exact h2)
    rw [← hd] at this
    exact this
  have hds : d.size ≤ s.size := by
    have e1 : d.data.toList.length = d.size := by simp
    have e2 : s.data.toList.length = s.size := by simp
    rw [← e1, ← e2, hd]
    unfold bodyOf
    split
    · rw [List.length_tail]; omega
    · exact Nat.le_refl _
  have HD := Lib.hid hd
  clear hd
  generalize readOf s.data.toList = R at *
  generalize minusOf s.data.toList = b at *
  go_enter Tryz.func21, Tryz.ntmps21
  go_upto_region 1 with (fail)
  go_cut [4] (fun t wx => t = .bool b ∧ wx = w)
  case first =>
    rcases b with _ | _
    · obtain ⟨_, hne⟩ := hm2.out rfl
      by_cases h0 : 0 < s.size
      · have h1 : ¬ (((s[0]'h0).toNat : Nat) : Int) = 45 := fun h => hne h0 (by
          apply UInt8.toNat_inj.1
          have e : (45 : UInt8).toNat = 45 := rfl
          rw [e]; omega)
        clear hne hm1 hm2
        go_wp2
        go_meet
        exact ⟨by simp [*], rfl⟩
      · have h1 : (s.size : Int) = 0 := by omega
        clear hne hm1 hm2
        go_wp2
        go_meet
        exact ⟨rfl, rfl⟩
    · obtain ⟨h0, h1, _⟩ := hm1.out rfl
      have h2 : (((s[0]'h0).toNat : Nat) : Int) = 45 := by rw [h1]; rfl
      clear h1 hm1 hm2
      go_wp2
      go_meet
      exact ⟨rfl, rfl⟩
  case rest =>
    obtain ⟨rfl, rfl⟩ := hcut
    go_upto_if 20 with (fail)
    go_cut [5] (fun t wx => t = .string d ∧ wx = wc)
    case first =>
      rcases b with _ | _
      · obtain ⟨hb, _⟩ := hm2.out rfl
        have hsd : s = d := by
          apply ByteArray.ext
          apply Array.toList_inj.1
          rw [HD.out, hb]
        clear hm1 hm2 hb
        go_wp2
        go_meet
        exact ⟨by rw [hsd], rfl⟩
      · obtain ⟨h0, h1, hb⟩ := hm1.out rfl
        have hsd : s.extract 1 s.size = d := by
          apply ByteArray.ext
          apply Array.toList_inj.1
          rw [HD.out, hb]
        clear h1 hm1 hm2 hb
        go_wp2
        go_meet
        exact ⟨rfl, rfl⟩
    case rest =>
      obtain ⟨rfl, rfl⟩ := hcut
      clear hm1 hm2 HD
      have hdl : d.data.toList.length = d.size := by simp
      have HDL := Lib.hid hdl
      clear hdl
      by_cases c1 : d.size < 4
      · obtain rfl := HRB.out fun h => by have := h.h4; have := HDL.out; omega
        have c1' : (d.size : Int) < 4 := by omega
        clear HRB HR0 HRG
        go_wp2
        go_ret2
        exact ⟨rfl, Below.refl _ _⟩
      by_cases c2 : 20 < d.size
      · obtain rfl := HRB.out fun h => by have := h.h20; have := HDL.out; omega
        have c2' : 20 < (d.size : Int) := by omega
        clear HRB HR0 HRG
        go_wp2
        go_ret2
        exact ⟨rfl, Below.refl _ _⟩
      obtain ⟨j, hj⟩ : ∃ j, d.size = j + 3 := ⟨d.size - 3, by omega⟩
      have hji : (d.size : Int) - 3 = (j : Int) := by omega
      have hjd : j < d.size := by omega
      have h0d : 0 < d.size := by omega
      have hj1 : 1 ≤ j := by omega
      have hj17 : j ≤ 17 := by omega
      have hdj : d.data.toList[j]? = some (d[j]'hjd) := by rw [List.getElem?_eq_getElem (by rw [HDL.out]; exact hjd)]; rfl
      have hd0 : d.data.toList[0]? = some (d[0]'h0d) := by rw [List.getElem?_eq_getElem (by rw [HDL.out]; exact h0d)]; rfl
      have HJ := Lib.hid hj
      by_cases c3 : d[j]'hjd ≠ 46
      · obtain rfl := HRB.out fun h => c3 (by
          have h1 := h.dot
          rw [HDL.out, HJ.out, show j + 3 - 3 = j by omega, hdj] at h1
          exact Option.some.inj h1)
        have c3' : ¬ (((d[j]'hjd).toNat : Nat) : Int) = 46 := fun h => c3 (by
          apply UInt8.toNat_inj.1
          have e : (46 : UInt8).toNat = 46 := rfl
          rw [e]; omega)
        clear HRB HR0 HRG c3 hdj hd0 hj
        go_wp2
        go_ret2
        exact ⟨rfl, Below.refl _ _⟩
      have c3e : d[j]'hjd = 46 := Decidable.of_not_not c3
      have c3' : (((d[j]'hjd).toNat : Nat) : Int) = 46 := by rw [c3e]; rfl
      have HDOT : Hid (d.data.toList[d.data.toList.length - 3]? = some 46) := Lib.hid (by rw [HDL.out, HJ.out, show j + 3 - 3 = j by omega, hdj, c3e])
      clear c3 c3e hdj
      by_cases c4 : 1 < j ∧ d[0]'h0d = 48
      · obtain rfl := HRB.out fun h => h.hd ⟨by rw [HDL.out, HJ.out]; omega, by rw [hd0, c4.2]⟩
        have c4' : (((d[0]'h0d).toNat : Nat) : Int) = 48 := by rw [c4.2]; rfl
        have c4'' := c4.1
        clear HRB HR0 HRG c4 hd0 hj
        go_wp2
        go_ret2
        exact ⟨rfl, Below.refl _ _⟩
      have c4' : ¬ 1 < j ∨ ¬ (((d[0]'h0d).toNat : Nat) : Int) = 48 := by
        rcases Nat.lt_or_ge 1 j with h | h
        · exact .inr fun h2 => c4 ⟨h, by
            apply UInt8.toNat_inj.1
            have e : (48 : UInt8).toNat = 48 := rfl
            rw [e]; omega⟩
        · exact .inl (by omega)
      have HHD : Hid (¬ (5 ≤ d.data.toList.length ∧ d.data.toList[0]? = some 48)) := Lib.hid fun h => c4 ⟨by have := h.1; rw [HDL.out, HJ.out] at this; omega, by have := h.2; rw [hd0] at this; exact Option.some.inj this⟩
      clear c4 hd0
      by_cases c5 : b = true ∧ d.data.toList = [48, 46, 48, 48]
      · have c5' : (d.toList == [48, 46, 48, 48]) = true := by rw [ByteArray.toList_eq, c5.2]; rfl
        obtain rfl := HR0.out c5.1 c5.2
        obtain rfl := c5.1
        clear HRB HR0 HRG HDOT HHD c5 hj
        rcases c4' with c4' | c4'
        · go_wp2
          go_ret2
          exact ⟨rfl, Below.refl _ _⟩
        · go_wp2
          all_goals go_ret2
          all_goals exact ⟨rfl, Below.refl _ _⟩
      have HRG2 := Lib.hid fun h => HRG.out h c5
      have HOK : Hid ((proc d.data.toList d.data.toList.length).all digitB = true → okBody d.data.toList) := Lib.hid fun h => proc_all _ (by rw [HDL.out]; omega) (by rw [HDL.out]; omega) HDOT.out HHD.out h
      clear HRG HR0 HDOT HHD
      have k4 : decide ((j : Int) < 1) = false := by simp; omega
      have k5 : decide ((17 : Int) < (j : Int)) = false := by simp; omega
      go_upto_region 6 with (fail)
      go_cut [53] (fun t wx => t = .bool false ∧ wx = wc)
      case first =>
        clear HRB HRG2 HOK
        rcases b with _ | _
        · clear c5
          rcases c4' with c4' | c4'
          · go_wp2
            go_meet
            exact ⟨rfl, rfl⟩
          · have c4b : (((((d[0]'h0d).toNat : Nat) : Int) == 48)) = false := by simpa using c4'
            go_wp2
            all_goals go_meet
            all_goals exact ⟨rfl, rfl⟩
        · have c5' : (d.toList == [48, 46, 48, 48]) = false := by rw [ByteArray.toList_eq, beq_eq_false_iff_ne]; exact fun h => c5 ⟨rfl, h⟩
          clear c5
          rcases c4' with c4' | c4'
          · go_wp2
            go_meet
            exact ⟨rfl, rfl⟩
          · have c4b : (((((d[0]'h0d).toNat : Nat) : Int) == 48)) = false := by simpa using c4'
            go_wp2
            all_goals go_meet
            all_goals exact ⟨rfl, rfl⟩
      case rest =>
        obtain ⟨rfl, rfl⟩ := hcut
        clear c3' c4' c5
        have OF : Hid (∀ w, Calls Tryz.prog 43 #[.int .u64 10] w fun e w' => e = .returned (.agg (row20 (dg 10))) ∧ Below w.heap.size w w') := Lib.hid (fun w => Of_any 10 w (by omega))
        have OC : Hid (∀ (n : Nat) (hn : n < 18446744073709551616) w, Calls Tryz.prog 43 #[.int .u64 n] w fun e w' => e = .returned (.agg (row20 (dg n))) ∧ Below w.heap.size w w') := Lib.hid (fun n hn w => Of_any n w hn)
        have TI : Hid (∀ (n : Nat) (hn : n < 65536 ^ 20) w, Calls Tryz.prog 42 #[.agg (row20 (dg n)), .agg (row20 (dg 10))] w fun e w' => e = .returned (.agg (row20 (dg (n * 10)))) ∧ Below w.heap.size w w') := Lib.hid (fun n hn w => Times_any n 10 w hn)
        have PL : Hid (∀ (a b : Nat) w, Calls Tryz.prog 41 #[.agg (row20 (dg a)), .agg (row20 (dg b))] w fun e w' => e = .returned (.agg (row20 (dg (a + b)))) ∧ Below w.heap.size w w') := Lib.hid (fun a b w => Plus_any a b w)
        have BK : Hid (∀ (n : Nat) (m : Bool) (hn : n < 65536 ^ 20) w, Calls Tryz.prog 44 #[.agg (row20 (dg n)), .bool m] w fun e w' => e = .returned (.tuple #[.int .i64 (sgn n m).1, .bool (decide ((sgn n m).2 = 0))]) ∧ Below w.heap.size w w') := Lib.hid (fun n m hn w => Back_any n m w hn)
        have ez : row20 (dg 0) = z20 := row20_ext _ _ fun i _ => by simp [dg]
        have hz := zero20
        go_wp2_with fail
        have A0 : (wc.alloc (.cells z20 81)).heap[wc.heap.size]? = some (.cells z20 81 (0, 0)) := heap_alloc_new wc _
        have HB0 := (Below.refl wc.heap.size wc).alloc (Nat.le_refl _) (.cells z20 81)
        rw [← ez] at A0
        go_loopw [8] (fun t wr => ∃ i : Nat, i ≤ d.size ∧ t = .int .i64 i ∧ (proc d.data.toList i).all digitB = true ∧ DgSt wc.heap.size wc.heap.size (numOf (proc d.data.toList i)) wc wr none none) (fun t _ => d.size - (intOf t).toNat)
        case atStart => exact ⟨0, by omega, rfl, by rw [proc_zero]; rfl, by rw [proc_zero]; exact DgSt.start A0 HB0⟩
        case round =>
          clear A0 HB0
          obtain ⟨i, hi, rfl, ha, hS⟩ := hrel
          have HA := Lib.hid ha
          have HS := Lib.hid hS
          clear ha hS
          by_cases hlt : i < d.size
          · have hdi : d.data.toList.length = d.size := HDL.out
            by_cases hij : i = j
            · subst hij
              have HP : Hid (proc d.data.toList (i + 1) = proc d.data.toList i) := Lib.hid (by
                have := proc_dot d.data.toList (by rw [HDL.out]; omega)
                rw [HDL.out, HJ.out, show i + 3 - 3 = i by omega] at this
                exact this)
              clear hdi
              go_wp2
              go_roundw
              case rel => exact ⟨i + 1, by omega, by go_num, by rw [HP.out]; exact HA.out, by rw [HP.out]; exact HS.out⟩
              case measure => (try simp [intOf]) <;> (try omega)
            · have HP : Hid (proc d.data.toList (i + 1) = proc d.data.toList i ++ [d[i]'hlt]) := Lib.hid (proc_step d.data.toList i (by rw [HDL.out]; exact hlt) (by rw [HDL.out, HJ.out]; omega))
              by_cases hdg : digitB (d[i]'hlt) = true
              · have hij' : ¬ (i : Int) = (j : Int) := by omega
                have hg1 : 48 ≤ (d[i]'hlt).toNat ∧ (d[i]'hlt).toNat ≤ 57 := by
                  unfold digitB at hdg
                  simpa using hdg
                have HA2 : Hid ((proc d.data.toList (i + 1)).all digitB = true) := Lib.hid (by rw [HP.out, List.all_append, HA.out, List.all_cons, hdg]; rfl)
                have HN : Hid (numOf (proc d.data.toList i) * 10 + ((d[i]'hlt).toNat - 48) = numOf (proc d.data.toList (i + 1))) := Lib.hid (by rw [HP.out, numOf_snoc])
                have hlo := numOf_lt _ HA.out
                have hpl := proc_len d.data.toList i (by rw [HDL.out]; exact hi)
                have HLT : Hid (numOf (proc d.data.toList i) < 65536 ^ 20) := Lib.hid (by
                  have hp : (10 : Nat) ^ (proc d.data.toList i).length ≤ 10 ^ 20 := Nat.pow_le_pow_right (by decide) (by omega)
                  have := pow20_big
                  have e20 : (10 : Nat) ^ 20 = 100000000000000000000 := by decide
                  omega)
                clear hlo hpl hdg hdi HA HRB HRG2 HOK
                obtain ⟨c, hc⟩ : ∃ c, c = (d[i]'hlt).toNat := ⟨_, rfl⟩
                obtain ⟨e, he⟩ : ∃ e, e = c - 48 := ⟨_, rfl⟩
                rw [← hc] at hg1 HN
                rw [← he] at HN
                have hgl := hg1.1
                have hgu := hg1.2
                have hci : (((d[i]'hlt).toNat : Nat) : Int) = (c : Int) := by rw [hc]
                have hei : (c : Int) - 48 = (e : Int) := by omega
                have HEB : Hid (e < 10) := Lib.hid (by omega)
                have hw8 : IntKind.u8.wrap (e : Int) = (e : Int) := IntWalk.u8_in _ (by omega)
                have hw64 : IntKind.u64.wrap (e : Int) = (e : Int) := IntWalk.u64_in _ (by omega)
                clear hg1 he hc
                generalize numOf (proc d.data.toList i) = n at *
                go_upto_region 15 with (fail)
                have D := HS.out.below HS.out.bel.size (Below.refl _ _).drew
                clear HS
                refine wp_region_any (by kernel_rfl) ?_
                change wpAny _ _ _ _ _ _ _ (World.drew _)
                generalize wr.drew = v0 at *
                refine wpAny_take (i := 3) rfl (by kernel_rfl) (by kernel_rfl) (by kernel_rfl) (fun _ _ _ h => h) (.inl ⟨by rfl, fun _ => rfl⟩) ?_
                refine wpAny_take (i := 4) rfl (by kernel_rfl) (by kernel_rfl) (by kernel_rfl) (fun _ _ _ h => h) (.inl ⟨by rfl, fun _ => rfl⟩) ?_
                simp only [Act.put, List.getElem_toArray, List.getElem_cons_succ, List.getElem_cons_zero, List.setIfInBounds_toArray, List.set_cons_succ, List.set_cons_zero]
                refine wpAny_take (i := 5) (v := .int .u8 (c : Int)) rfl (by kernel_rfl) (by kernel_rfl) (by kernel_rfl) (fun _ _ _ h => h) (.inl ⟨by rfl, fun w => ?_⟩) ?_
                · go_simp
                refine wpAny_take (i := 6) (v := .int .u8 (e : Int)) rfl (by kernel_rfl) (by kernel_rfl) (by kernel_rfl) (fun _ _ _ h => h) (.inl ⟨by rfl, fun w => ?_⟩) ?_
                · go_simp
                refine wpAny_take (i := 7) (v := .int .u64 (e : Int)) rfl (by kernel_rfl) (by kernel_rfl) (by kernel_rfl) (fun _ _ _ h => h) (.inl ⟨by rfl, fun w => ?_⟩) ?_
                · go_simp
                simp only [Act.put, List.getElem_toArray, List.getElem_cons_succ, List.getElem_cons_zero, List.setIfInBounds_toArray, List.set_cons_succ, List.set_cons_zero]
                refine wpAny_ready (rs := [0, 1]) (by kernel_rfl) (by simp) ?_
                refine AllReady.cons rfl (fun K hK => ?_) (AllReady.cons rfl (fun K hK => ?_) AllReady.nil)
                · refine step_load_row rfl 81 _ rfl _ rfl _ _ _ _ D.hn Tryz.underlying81 rfl (infoN _) ?_
                  refine hK _ _ ?_
                  clear hK K
                  refine wpAny_ready (rs := [1]) (by kernel_rfl) (by simp) ?_
                  refine AllReady.cons rfl (fun K hK => ?_) AllReady.nil
                  have HKK : Shut (∀ a w, _ → K a w) := hK
                  clear hK
                  go_simp
                  refine (OF.out _).mono ?_
                  rintro e' v' ⟨rfl, hb⟩
                  have D' := D.below D.bel.size hb
                  clear D hb
                  refine HKK.out _ _ ?_
                  clear HKK K
                  have D := D'
                  clear D'
                  refine wpAny_ready (rs := [2]) (by kernel_rfl) (by simp) ?_
                  refine AllReady.cons rfl (fun K hK => ?_) AllReady.nil
                  have HKK : Shut (∀ a w, _ → K a w) := hK
                  clear hK
                  go_simp
                  refine (TI.out n HLT.out _).mono ?_
                  rintro e' v' ⟨rfl, hb⟩
                  have D' := D.below D.bel.size hb
                  clear D hb
                  refine HKK.out _ _ ?_
                  clear HKK K
                  have D := D'
                  clear D'
                  refine wpAny_ready (rs := [8]) (by kernel_rfl) (by simp) ?_
                  refine AllReady.cons rfl (fun K hK => ?_) AllReady.nil
                  have HKK : Shut (∀ a w, _ → K a w) := hK
                  clear hK
                  go_simp
                  refine (OC.out e (by have := HEB.out; omega) _).mono ?_
                  rintro e' v' ⟨rfl, hb⟩
                  have D' := D.below D.bel.size hb
                  clear D hb
                  refine HKK.out _ _ ?_
                  clear HKK K
                  have D := D'
                  clear D'
                  refine wpAny_ready (rs := [9]) (by kernel_rfl) (by simp) ?_
                  refine AllReady.cons rfl (fun K hK => ?_) AllReady.nil
                  have HKK : Shut (∀ a w, _ → K a w) := hK
                  clear hK
                  go_simp
                  refine (PL.out _ _ _).mono ?_
                  rintro e' v' ⟨rfl, hb⟩
                  have D' := D.below D.bel.size hb
                  clear D hb
                  refine HKK.out _ _ ?_
                  clear HKK K
                  have D := D'
                  clear D'
                  refine wpAny_ready (rs := [10]) (by kernel_rfl) (by simp) ?_
                  refine AllReady.cons rfl (fun K hK => ?_) AllReady.nil
                  have D' : DgSt wc.heap.size wc.heap.size (n * 10 + e) wc (v'.setRow wc.heap.size (row20 (dg (n * 10 + e)))) none none := DgSt.start (setRow_heap _ _ _ _ _ _ D.hn) (D.bel.setRow (Nat.le_refl _) _)
                  refine step_store_row0 rfl rfl _ _ _ rfl _ _ rfl rfl _ _ D.hn (infoN _) (by rw [row20_size, row20_size]) (row20_one _) ?_
                  refine hK _ _ ?_
                  clear hK K D
                  refine wpAny_done (by kernel_rfl) ?_ _
                  go_wp2
                  go_roundw
                  case rel => exact ⟨i + 1, by omega, by go_num, HA2.out, by rw [← HN.out]; exact D'⟩
                  case measure => (try simp [intOf]) <;> (try omega)
                · have HKK : Shut (∀ a w, _ → K a w) := hK
                  clear hK
                  go_simp
                  refine (OF.out _).mono ?_
                  rintro e' v' ⟨rfl, hb⟩
                  have D' := D.below D.bel.size hb
                  clear D hb
                  refine HKK.out _ _ ?_
                  clear HKK K
                  have D := D'
                  clear D'
                  refine wpAny_ready (rs := [0]) (by kernel_rfl) (by simp) ?_
                  refine AllReady.cons rfl (fun K hK => ?_) AllReady.nil
                  refine step_load_row rfl 81 _ rfl _ rfl _ _ _ _ D.hn Tryz.underlying81 rfl (infoN _) ?_
                  refine hK _ _ ?_
                  clear hK K
                  refine wpAny_ready (rs := [2]) (by kernel_rfl) (by simp) ?_
                  refine AllReady.cons rfl (fun K hK => ?_) AllReady.nil
                  have HKK : Shut (∀ a w, _ → K a w) := hK
                  clear hK
                  go_simp
                  refine (TI.out n HLT.out _).mono ?_
                  rintro e' v' ⟨rfl, hb⟩
                  have D' := D.below D.bel.size hb
                  clear D hb
                  refine HKK.out _ _ ?_
                  clear HKK K
                  have D := D'
                  clear D'
                  refine wpAny_ready (rs := [8]) (by kernel_rfl) (by simp) ?_
                  refine AllReady.cons rfl (fun K hK => ?_) AllReady.nil
                  have HKK : Shut (∀ a w, _ → K a w) := hK
                  clear hK
                  go_simp
                  refine (OC.out e (by have := HEB.out; omega) _).mono ?_
                  rintro e' v' ⟨rfl, hb⟩
                  have D' := D.below D.bel.size hb
                  clear D hb
                  refine HKK.out _ _ ?_
                  clear HKK K
                  have D := D'
                  clear D'
                  refine wpAny_ready (rs := [9]) (by kernel_rfl) (by simp) ?_
                  refine AllReady.cons rfl (fun K hK => ?_) AllReady.nil
                  have HKK : Shut (∀ a w, _ → K a w) := hK
                  clear hK
                  go_simp
                  refine (PL.out _ _ _).mono ?_
                  rintro e' v' ⟨rfl, hb⟩
                  have D' := D.below D.bel.size hb
                  clear D hb
                  refine HKK.out _ _ ?_
                  clear HKK K
                  have D := D'
                  clear D'
                  refine wpAny_ready (rs := [10]) (by kernel_rfl) (by simp) ?_
                  refine AllReady.cons rfl (fun K hK => ?_) AllReady.nil
                  have D' : DgSt wc.heap.size wc.heap.size (n * 10 + e) wc (v'.setRow wc.heap.size (row20 (dg (n * 10 + e)))) none none := DgSt.start (setRow_heap _ _ _ _ _ _ D.hn) (D.bel.setRow (Nat.le_refl _) _)
                  refine step_store_row0 rfl rfl _ _ _ rfl _ _ rfl rfl _ _ D.hn (infoN _) (by rw [row20_size, row20_size]) (row20_one _) ?_
                  refine hK _ _ ?_
                  clear hK K D
                  refine wpAny_done (by kernel_rfl) ?_ _
                  go_wp2
                  go_roundw
                  case rel => exact ⟨i + 1, by omega, by go_num, HA2.out, by rw [← HN.out]; exact D'⟩
                  case measure => (try simp [intOf]) <;> (try omega)
              · have hdg' : digitB (d[i]'hlt) = false := by simpa using hdg
                obtain rfl := HRB.out (bad_digit d.data.toList i (by rw [HDL.out]; exact hlt) (by rw [HDL.out, HJ.out]; omega) (by rw [HDL.out]; omega) hdg')
                have hbad : (((d[i]'hlt).toNat : Nat) : Int) < 48 ∨ 57 < (((d[i]'hlt).toNat : Nat) : Int) := by
                  unfold digitB at hdg'
                  simp at hdg'
                  omega
                have hbel := HS.out.bel
                clear HRB HRG2 HOK HP HA HS hdg hdg' hdi
                have hij' : ¬ (i : Int) = (j : Int) := by omega
                rcases hbad with hbad | hbad
                · go_wp2
                  go_ret2
                  exact ⟨rfl, hbel⟩
                · go_wp2
                  go_ret2
                  exact ⟨rfl, hbel⟩
          · have hie : i = d.size := by omega
            have hidl : i = d.data.toList.length := by rw [HDL.out]; exact hie
            have hok : okBody d.data.toList := HOK.out (by rw [← hidl]; exact HA.out)
            have hlo := numOf_lt _ HA.out
            have hpl := proc_len d.data.toList i (by rw [HDL.out]; exact hi)
            have HLT : Hid (numOf (proc d.data.toList i) < 65536 ^ 20) := Lib.hid (by
              have hp : (10 : Nat) ^ (proc d.data.toList i).length ≤ 10 ^ 20 := Nat.pow_le_pow_right (by decide) (by omega)
              have := pow20_big
              have e20 : (10 : Nat) ^ 20 = 100000000000000000000 := by decide
              omega)
            have HRS : Hid (R = sgn (numOf (proc d.data.toList i)) b) := Lib.hid (by
              have h := HRG2.out hok
              rw [← proc_end _ hok.h4, ← hidl] at h
              exact h)
            clear hok hidl hlo hpl HRB HRG2 HOK HA OF OC TI PL
            have G0 := HS.out.hn
            generalize numOf (proc d.data.toList i) = n at *
            have BK2 := Lib.hid (fun w => BK.out n b HLT.out w)
            have H4 := Lib.hid (sgn_ok n b)
            clear BK HLT
            generalize sgn n b = S at *
            go_wp2_with (first | (refine wpList_load_row rfl 81 _ rfl _ rfl _ _ _ _ G0 Tryz.underlying81 rfl (infoN _) ?_))
            refine (BK2.out _).mono ?_
            rintro e' v' ⟨rfl, hb⟩
            have hbel := HS.out.bel.trans (hb.mono HS.out.bel.size)
            clear hb HS G0 BK2
            by_cases hk : S.2 = 0
            · rw [decide_eq_true hk]
              go_wp2
              go_ret2
              exact ⟨by rw [HRS.out, hk]; rfl, hbel⟩
            · rw [decide_eq_false hk]
              obtain rfl : S = (0, 4) := H4.out.resolve_left hk
              go_wp2
              go_ret2
              exact ⟨by rw [HRS.out]; rfl, hbel⟩
end Go.Proofs.YthlgjbmkealjjaaGreatDoor
