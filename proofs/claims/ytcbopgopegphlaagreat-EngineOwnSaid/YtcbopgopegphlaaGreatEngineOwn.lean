/-
  The walk of EngineOwn (printed by gen_eown.py).
-/
import Derived.Deep.CutBlock
import Derived.Deep.CutRange
import Derived.Test.YtcbopgopegphlaaGreatEnW
import Derived.Test.YtcbopgopegphlaaGreatEnOw
import Derived.Test.YtcbopgopegphlaaGreatRegG
namespace Go.Proofs.YtcbopgopegphlaaGreat
open Go.RowKit
set_option linter.unusedVariables false
theorem below_sets {B g : Nat} {a : World} : ∀ (vs : List Value) (o : Nat) {b : World}, B ≤ g → Below B a b → Below B a (b.setCells g o vs)
  | [], _, _, _, h => h
  | v :: vs, o, b, hg, h => below_sets vs (o + 1) hg (h.setCell (p := ⟨g, o, none⟩) hg v)
def G28 (w0 : World) (B base top ge gr : Nat) (p : Prod) (A : Option Addr) (n c : Nat) (l : List Ev) (S : Array Value) (ga gb : Nat) (_ : Nat → Bool) (v : World) : Prop :=
  Two w0 B base top ge gr p A n c l l v ∧ v.heap[ga]? = some (.cells S 45 (0, 0)) ∧ v.heap[gb]? = some (.cells S 45 (0, 0))
theorem G28.below {w0 v v' : World} {B base top ge gr : Nat} {p : Prod} {A : Option Addr} {n c : Nat} {l : List Ev} {S : Array Value} {ga gb : Nat} {L L' : Nat → Bool} (h : G28 w0 B base top ge gr p A n c l S ga gb L v) (hb : Below v.heap.size v v') : G28 w0 B base top ge gr p A n c l S ga gb L' v' :=
  ⟨h.1.below hb, (hb.block _ (Array.getElem?_eq_some_iff.1 h.2.1).1).trans h.2.1, (hb.block _ (Array.getElem?_eq_some_iff.1 h.2.2).1).trans h.2.2⟩
def T28 (ge gr : Nat) (l : List Ev) (S : Array Value) (er : Int) (L : Nat → Bool) (i : Nat) (u : Value) (v : World) : Prop :=
  match i with
  | 0 => u = .agg S
  | 1 => u = .agg S
  | 2 => u = .bool true
  | 3 => u = .bool true
  | 4 => u = .int .i64 er
  | 5 => u = .int .i64 er
  | 6 => u = .bool true
  | 7 => u = .bool true
  | 8 => u = .bool true
  | 9 => u = .pointer (some ⟨ge, 0, none⟩)
  | 10 => L 15 = false → ∃ E c, u = .slice E l.length c ∧ RdE v E l.length l
  | 11 => u = .pointer (some ⟨gr, 0, none⟩)
  | 12 => u = .pointer (some ⟨gr, 0, none⟩)
  | 13 => u = .pointer (some ⟨gr, 9, none⟩)
  | 14 => L 15 = false → ∃ E m ce, u = .slice E m ce ∧ RdE v E m l
  | 15 => u = .bool true
  | 16 => u = .bool true
  | 17 => u = .bool true
  | _ => True
theorem T28_keep {ge gr : Nat} {l : List Ev} {S : Array Value} {er : Int} {L : Nat → Bool} {i jj : Nat} {u : Value} {v w2 : World} (hb : Below v.heap.size v w2) (h : T28 ge gr l S er L jj u v) : T28 ge gr l S er (upd L i) jj u w2 := by
  unfold T28 at h ⊢
  split at h <;> first
    | exact h
    | (intro h0; obtain ⟨E, c, h1, h2⟩ := h (upd_false h0); exact ⟨E, c, h1, h2.below hb⟩)
    | (intro h0; obtain ⟨E, m, c, h1, h2⟩ := h (upd_false h0); exact ⟨E, m, c, h1, h2.below hb⟩)
theorem infoPZ (p : Prod) (B : Value) : ((Tryz.prog.info? 25).bind (·.zero)).map (·.cells.size) = some (pCells p B).size := by rw [show (pCells p B).size = 9 from rfl]; kernel_rfl
theorem onesP (p : Prod) (A : Option Addr) (n c : Nat) : (pCells p (.slice A n c)).all (·.oneCell') = true := by simp [pCells, Value.oneCell']
theorem cell_b8 {w : World} {g : Nat} {p : Prod} {B : Value} {t : TypeId} (h : w.heap[g]? = some (.cells (pCells p B) t (0, 0))) : w.cell? ⟨g, 8, none⟩ = some B := by rw [cell_of_row _ _ _ _ _ _ h]; rfl
theorem built_z0 : Tryz.prog.built 39 [] = some #[.int .i64 0, .string ⟨#[]⟩, .int .i64 0, .int .i64 0, .int .i64 0, .int .i64 0] := by kernel_rfl
theorem built_0 {P : Program} {t : TypeId} {C : Array Value} (h : P.built t [] = some C) (a : Act) : P.built t ((#[] : Array (Nat × Operand)).map fun (i, x) => (i, a.eval x)).toList = some C := by
  rw [← h]
  simp
theorem slot_at {a : Act} {t : Nat} {l : List Value} {u : Value} (h : a.tmps = l.toArray) (h2 : l[t]? = some u) : a.eval (.tmp t) = u := by
  unfold Act.eval
  simp [h, Array.getD_eq_getD_getElem?, h2]
theorem z6_one : (#[.int .i64 0, .string ⟨#[]⟩, .int .i64 0, .int .i64 0, .int .i64 0, .int .i64 0] : Array Value).all (·.oneCell') = true := by simp [Value.oneCell']
theorem info_z6 : (Tryz.prog.info? 39).map (·.size) = some (#[.int .i64 0, .string ⟨#[]⟩, .int .i64 0, .int .i64 0, .int .i64 0, .int .i64 0] : Array Value).size := by kernel_rfl
set_option maxRecDepth 100000 in
set_option maxHeartbeats 4000000 in
theorem EngineOwn_walk (p : Prod) (A : Option Addr) (n c : Nat) (E : Option Addr) (m ce : Nat) (l : List Ev) (vd : Int) (w : World) (hA : RdI w A n p.bounds) (hs : p.name.size ≤ 140737488351232) (hn : n ≤ c) (hc : c * 8 ≤ 140737488351232) (hE : RdE w E m l) (hm : m ≤ ce) (hce : ce * 56 ≤ 140737488351232) (he : ∀ e ∈ l, e.loan.size ≤ 140737488351232 ∧ (-9223372036854775808 ≤ e.day ∧ e.day ≤ 9223372036854775807) ∧ (-9223372036854775808 ≤ e.seq ∧ e.seq ≤ 9223372036854775807)) (bv0 : -9223372036854775808 ≤ vd) (bv1 : vd ≤ 9223372036854775807) :
    Calls Tryz.prog 4 #[p.val (.slice A n c), .slice E m ce, .int .i64 vd] w fun e w' => e = .returned (.bool true) ∧ Below w.heap.size w w' := by
  have WK := Lib.hid wakes_any
  have CP := Lib.hid fun W (h : RdI W A n p.bounds) => Copy_own p A n c W h (by omega)
  have SM := Lib.hid fun W (A3 : Option Addr) (c3 : Nat) (h1 : RdI W A3 n p.bounds) (h2 : RdI W A n p.bounds) => SameP_any p A3 A n c3 c W h1 h2 (by omega)
  have HA := Lib.hid hA
  have HE := Lib.hid hE
  have HLO := Lib.hid fun e h => (he e h).1
  have hlm := Lib.hid hE.1
  have hm12 : m ≤ 1000000000000000 := by omega
  have hn12 : n ≤ 17592186044416 := by omega
  have hs2 : Hid (p.name.size ≤ 9223372036854775806) := Lib.hid (by omega)
  have HIP := Lib.hid fun B => info_prod p B
  have hiP := HIP.out (.slice A n c)
  have hbr := built_re p (.slice A n c)
  have hiR : (Tryz.prog.info? 37).map (·.size) = some (rCells p (.slice A n c) (.slice none 0 0)).size := by rw [show (rCells p (.slice A n c) (.slice none 0 0)).size = 10 from rfl]; kernel_rfl
  unfold Prod.val at CP SM ⊢
  generalize hPC : pCells p (.slice A n c) = PC at *
  generalize hRC : rCells p (.slice A n c) (.slice none 0 0) = RC at *
  have HRC := Lib.hid hRC
  clear hPC hRC hA hE he
  obtain ⟨w1, hw1⟩ : ∃ w1, w1 = w.alloc (.cells PC 25) := ⟨_, rfl⟩
  have hz1 : w1.heap.size = w.heap.size + 1 := by rw [hw1]; simp
  have hb1 : Below w.heap.size w w1 := by rw [hw1]; exact (Below.refl _ _).alloc (Nat.le_refl _) _
  have hP1 : w1.heap[w.heap.size]? = some (.cells PC 25 (0, 0)) := by rw [hw1]; exact heap_alloc_new _ _
  go_enter Tryz.func4, Tryz.ntmps4
  go_upto_region 1 with (fail)
  rw [← hw1]
  clear hw1
  go_upto_region 3 with (first
    | (go_at_call 5; refine (WK.out _).mono ?_; rintro e w2 ⟨rfl, hb2⟩))
  have hb02 := hb1.trans (hb2.mono hb1.size)
  have hP2 := (hb2.block _ (by omega)).trans hP1
  have hs2' : w.heap.size + 1 ≤ w2.heap.size := by have := hb2.size; omega
  clear hP1 hb1 hb2 WK
  go_upto_region 4 with (first
    | (refine wpList_load_row rfl 25 _ rfl _ rfl _ _ _ _ hP2 Tryz.underlying25 rfl hiP ?_)
    | (go_at_call 7; refine (CP.out _ (HA.out.below hb02)).mono ?_; rintro e w3 ⟨⟨A3, c3, rfl, hown3⟩, hb3⟩)
    | (refine alloc_store rfl rfl 25 _ _ rfl rfl rfl rfl (pCells p (.slice A3 n c3)) rfl rfl (infoPZ p _) (HIP.out _) (onesP p _ _ _) ?_))
  obtain ⟨gq, hgq⟩ : ∃ gq, gq = w3.heap.size := ⟨_, rfl⟩
  rw [← hgq]
  refine wp_at (fun wx => wx.heap[gq]? = some (.cells (pCells p (.slice A3 n c3)) 25 (0, 0)) ∧ Below w3.heap.size w3 wx ∧ gq < wx.heap.size) (by rw [hgq]; exact ⟨heap_alloc_new _ _, (Below.refl _ _).alloc (Nat.le_refl _) _, by simp⟩) ?_
  rintro w4 ⟨hq4, hb34, hgq4⟩
  have hs3 := hb3.size
  have hb24 : Below w2.heap.size w2 w4 := hb3.trans (hb34.mono hs3)
  have hb04 : Below w.heap.size w w4 := hb02.trans (hb24.mono (by omega))
  have hP4 := (hb24.block _ (by omega)).trans hP2
  have hown4 := own_below' hown3 hb34
  have hA4 : RdI w4 A3 n p.bounds := Rd.of_own hown4
  have hiQ := HIP.out (.slice A3 n c3)
  have HROW : Hid (0 < n → ∃ g, A3 = some ⟨g, 0, none⟩ ∧ w2.heap.size ≤ g ∧ g < gq ∧ RowT w4 3 g n) := Lib.hid fun h => by
    obtain ⟨g, h1, h2, h3, h4⟩ := own_rowT hown3 h
    refine ⟨g, h1, h2, by rw [hgq]; exact h3, ?_⟩
    rw [Nat.mul_one] at h4
    obtain ⟨cur, h5, h6⟩ := h4
    exact ⟨cur, (hb34.block _ h3).trans h5, h6⟩
  rw [← hgq] at hs3
  have hb34s : gq ≤ w4.heap.size := Nat.le_of_lt hgq4
  clear CP hP2 hown3 hown4 hb3 hb34 hgq
  go_upto_region 5 with (first
    | (refine wpList_load_row rfl 25 _ rfl _ rfl _ _ _ _ hq4 Tryz.underlying25 rfl hiQ ?_))
  go_at_call 6
  refine (New_b p A3 n c3 w4 hA4 (by omega)).mono ?_
  rintro e w5 ⟨hb5, hcase⟩
  rcases hcase with ⟨hno, rfl⟩ | ⟨hok, ge, rfl, hEn⟩
  · have hq5 := (hb5.block _ hgq4).trans hq4
    have hP5 := (hb5.block _ (by omega)).trans hP4
    have hb05 := hb04.trans (hb5.mono (by omega))
    have SM5 := Lib.hid (SM.out w5 A3 c3 (hA4.below hb5) (HA.out.below hb05))
    clear hq4 hP4 SM HROW hA4
    generalize pCells p (.slice A3 n c3) = PQ at *
    go_wp2_with (first
      | (refine wpList_load_row rfl 25 _ rfl gq rfl _ _ _ _ hq5 Tryz.underlying25 rfl hiQ ?_)
      | (refine wpList_load_row rfl 25 _ rfl w.heap.size rfl _ _ _ _ hP5 Tryz.underlying25 rfl hiP ?_)
      | (go_at_call 16; refine SM5.out.mono ?_; rintro e w6 ⟨rfl, hb6⟩))
    go_ret
    exact ⟨rfl, hb05.trans (hb6.mono (by have := hb5.size; omega))⟩
  have hq5 := (hb5.block _ hgq4).trans hq4
  have hP5 := (hb5.block _ (by omega)).trans hP4
  have hs5 := hb5.size
  have HB5 := Lib.hid (hb04.trans (hb5.mono (by omega)))
  have HEn := Lib.hid hEn
  have HQ5 := Lib.hid hq5
  have HP5 := Lib.hid hP5
  have HROW5 : Hid (0 < n → ∃ g, A3 = some ⟨g, 0, none⟩ ∧ w2.heap.size ≤ g ∧ g < gq ∧ RowT w5 3 g n) := Lib.hid fun h => by
    obtain ⟨g, h1, h2, h3, cur, h5, h6⟩ := HROW.out h
    exact ⟨g, h1, h2, h3, cur, (hb5.block _ (by omega)).trans h5, h6⟩
  have c8 := cell_b8 hq5
  clear hq4 hP4 SM HROW hA4 hq5 hP5 hEn hb5 hb04 hb24 hb02
  obtain ⟨base, hbase⟩ : ∃ base, base = w4.heap.size := ⟨_, rfl⟩
  rw [← hbase] at HEn hgq4 hb34s hs5
  obtain ⟨top, htop⟩ : ∃ top, top = w5.heap.size := ⟨_, rfl⟩
  have HTOP := Lib.hid htop
  rw [← htop] at HEn hs5
  obtain ⟨lo, hlo⟩ : ∃ lo, lo = w2.heap.size := ⟨_, rfl⟩
  rw [← hlo] at HROW5 hs2' hs3
  clear hbase htop hlo
  go_upto_block 0 with (fail)
  go_cut [10] from 36 to 43 (fun _ wx => Hid (OutW lo gq w5 wx))
  case first =>
    clear c8
    go_wp2
    go_loopw [36] (fun t wr => ∃ i : Nat, i ≤ n ∧ t = .int .i64 (i : Int) ∧ Hid (OutW lo gq w5 wr) ∧ Hid (0 < n → ∃ g, A3 = some ⟨g, 0, none⟩ ∧ lo ≤ g ∧ g < gq ∧ RowT wr 3 g n)) (fun t _ => n - (intOf t).toNat)
    case atStart => exact ⟨0, Nat.zero_le _, rfl, Lib.hid (OutW.refl _ _ _), HROW5⟩
    case round =>
      obtain ⟨i, hi', rfl, HO, HR⟩ := hrel
      obtain ⟨w6, rfl⟩ : ∃ x, x = wr := ⟨_, rfl⟩
      by_cases hlt : i < n
      · obtain ⟨b3, rfl, k1, k2, k3⟩ := HR.out (by omega)
        obtain ⟨⟨u, cc⟩, cf⟩ := k3.cell hlt
        have c8 := cell_b8 ((HO.out.block gq (by have := HTOP.out; omega) (.inr (Nat.le_refl _))).trans HQ5.out)
        have HR2 : Hid (RowT (w6.setCell ⟨b3, i, none⟩ (.int .i64 1)) 3 b3 n) := Lib.hid (k3.set i _)
        have HO2 := Lib.hid (HO.out.set (i := i) k1 k2 (.int .i64 1))
        clear k3 HR HO HROW5
        go_wp2_with fail
        go_roundw
        case rel => exact ⟨i + 1, by omega, by go_num, HO2, Lib.hid fun _ => ⟨b3, rfl, k1, k2, HR2.out⟩⟩
        case measure => simp [intOf]; omega
      · go_wp2_with fail
        go_meet
        exact HO
  case rest =>
    have HO := hcut
    obtain ⟨w6, rfl⟩ : ∃ x, x = wc := ⟨_, rfl⟩
    have hs6 := HO.out.size
    have hP6 := (HO.out.block w.heap.size (by have := HTOP.out; omega) (.inl (by omega))).trans HP5.out
    have HE6 := Lib.hid (HEn.out.window HO.out (by omega))
    have HB6 : Hid (Below w.heap.size w w6) := Lib.hid ⟨HO.out.os.trans HB5.out.os, HO.out.tape.trans HB5.out.tape, HO.out.output.trans HB5.out.output, Nat.le_trans HB5.out.size hs6, fun k hk => (HO.out.block k (by have := HTOP.out; omega) (.inl (by omega))).trans (HB5.out.block k hk)⟩
    have ht6 : top ≤ w6.heap.size := by rw [HTOP.out]; exact hs6
    clear HO HEn HB5 HROW5 HQ5 HP5 c8 hs6 HTOP
    obtain ⟨gr, hgr⟩ : ∃ gr, gr = w6.heap.size := ⟨_, rfl⟩
    obtain ⟨w7, hw7⟩ : ∃ w7, w7 = w6.alloc (.cells RC 37) := ⟨_, rfl⟩
    have hb67 : Below w6.heap.size w6 w7 := by rw [hw7]; exact (Below.refl _ _).alloc (Nat.le_refl _) _
    have hR7 : w7.heap[gr]? = some (.cells RC 37 (0, 0)) := by rw [hw7, hgr]; exact heap_alloc_new _ _
    have HTW : Hid (Two w w.heap.size base top ge gr p A n c [] [] w7) := Lib.hid (Two.start HE6.out HA.out (rdI_lt HA.out) (HB6.out.trans (hb67.mono (by omega))) (by omega) hs5 (by omega) hb67 (by rw [HRC.out]; exact hR7) (by omega) (by omega))
    clear HE6 HB6 hR7 HRC
    go_upto_region 13 with (first
      | (refine wpList_load_row rfl 25 _ rfl _ rfl _ _ _ _ hP6 Tryz.underlying25 rfl hiP ?_)
      | (refine wpList_buildTo rfl 37 _ rfl _ rfl _ (built_1 hbr _ _ rfl) ?_))
    rw [← hgr, ← hw7]
    clear hP6 hb67 hw7 hbr hiR hgr
    go_upto_block 2 with (fail)
    go_cut [12, 13, 14] from 49 to 78 (fun _ _ _ wx => ∃ lst, Hid (Two w w.heap.size base top ge gr p A n c lst lst wx))
    case first =>
      go_wp2
      go_loopw [49] (fun t wr => ∃ (j : Nat) (lst : List Ev), j ≤ m ∧ t = .int .i64 (j : Int) ∧ Hid (Two w w.heap.size base top ge gr p A n c lst lst wr)) (fun t _ => m - (intOf t).toNat)
      case atStart => exact ⟨0, [], Nat.zero_le _, rfl, HTW⟩
      case round =>
        clear HTW
        obtain ⟨j, lst, hj, rfl, HT⟩ := hrel
        obtain ⟨w8, rfl⟩ : ∃ x, x = wr := ⟨_, rfl⟩
        by_cases hlt : j < m
        · by_cases h40 : (40 : Int) < (j : Int)
          · go_wp2_with fail
            go_meet
            exact ⟨lst, HT⟩
          · obtain ⟨bE, oE, rfl, _⟩ := (HE.out.below HT.out.low).2 (by omega)
            have hjl : j < l.length := by have := hlm.out; omega
            have HMID : Hid (∀ W, Below w.heap.size w W → W.rangeAt bE (oE + j * 6) (evCells l[j]).toList) := Lib.hid fun W hW q u hu => by
              obtain ⟨b0, o0, e0, hcs⟩ := (HE.out.below hW).2 (by omega)
              injection e0 with e0
              injection e0 with e1 e2
              subst e1 e2
              exact hcs j hjl q u (by simpa using hu)
            have hsz : l[j].loan.size ≤ 9223372036854775806 := by have := HLO.out _ (List.getElem_mem hjl); omega
            have hi6 : (Tryz.prog.info? 39).map (·.size) = some (evCells l[j]).toList.length := by rw [show (evCells l[j]).toList.length = 6 from rfl]; kernel_rfl
            have GA := Lib.hid (HT.out.add l[j])
            have GB := Lib.hid fun (l1 l2 : List Ev) (v : World) (h : Two w w.heap.size base top ge gr p A n c l1 l2 v) => h.rAdd l[j] hsz
            have hm8 := HMID.out w8 HT.out.low
            unfold Ev.val at GA GB
            generalize l[j] = e at *
            go_upto_region 18 with (first
              | (refine wpList_load_mid rfl 39 _ rfl bE (oE + j * 6) rfl (evCells e).toList _ hm8 Tryz.underlying39 rfl hi6 ?_)
              | (go_at_call 9; refine GA.out.mono ?_; rintro x w9 ⟨rfl, ht9, _⟩))
            have HT9 := Lib.hid ht9
            have hm9 := HMID.out w9 ht9.low
            clear hm8 GA HT ht9
            go_upto_region 19 with (first
              | (refine wpList_load_mid rfl 39 _ rfl bE (oE + j * 6) rfl (evCells e).toList _ hm9 Tryz.underlying39 rfl hi6 ?_)
              | (go_at_call 10; refine (GB.out _ _ _ HT9.out).mono ?_; rintro x w10 ⟨rfl, ht10, _⟩))
            have HT10 := Lib.hid ht10
            have EV := Lib.hid ht10.events
            have hlen := ht10.e1.len
            clear hm9 GB HT9 HMID hi6 ht10
            generalize addTo lst e = l2 at *
            go_upto_region 20 with (first
              | (go_at_call 15; refine EV.out.mono ?_; rintro x w11 ⟨Ex, cx, rfl, hown, hb11⟩))
            have HX : Hid (0 < l2.length → ∃ g, Ex = some ⟨g, 0, none⟩ ∧ w10.heap.size ≤ g ∧ RowT w11 39 g (l2.length * 6)) := Lib.hid fun h => by
              obtain ⟨g, h1, h2, _, h4⟩ := own_rowT hown h
              exact ⟨g, h1, h2, h4⟩
            have HB11 := Lib.hid hb11
            clear EV hown hb11
            go_upto_block 4 with (fail)
            go_wp2
            go_loopw [70] (fun t wr => ∃ i : Nat, i ≤ l2.length ∧ t = .int .i64 (i : Int) ∧ Hid (Below w10.heap.size w10 wr) ∧ Hid (0 < l2.length → ∃ g, Ex = some ⟨g, 0, none⟩ ∧ w10.heap.size ≤ g ∧ RowT wr 39 g (l2.length * 6))) (fun t _ => l2.length - (intOf t).toNat)
            case atStart => exact ⟨0, Nat.zero_le _, rfl, HB11, HX⟩
            case round =>
              clear HB11 HX
              obtain ⟨i, hi2, rfl, HB, HR⟩ := hrel
              obtain ⟨w12, rfl⟩ : ∃ x, x = wr := ⟨_, rfl⟩
              by_cases hlti : i < l2.length
              · obtain ⟨gx, rfl, k1, k2⟩ := HR.out (by omega)
                have hth : w12.there gx (i * 6) (#[.int .i64 0, .string ⟨#[]⟩, .int .i64 0, .int .i64 0, .int .i64 0, .int .i64 0] : Array Value).size := k2.there (by show i * 6 + 6 ≤ l2.length * 6; omega)
                have HB2 := Lib.hid (below_sets (#[.int .i64 0, .string ⟨#[]⟩, .int .i64 0, .int .i64 0, .int .i64 0, .int .i64 0] : Array Value).toList (i * 6) k1 HB.out)
                have HR2 := Lib.hid (k2.sets (#[.int .i64 0, .string ⟨#[]⟩, .int .i64 0, .int .i64 0, .int .i64 0, .int .i64 0] : Array Value).toList (i * 6))
                obtain ⟨Z6, hZ6⟩ : ∃ Z6 : Array Value, Z6 = #[.int .i64 0, .string ⟨#[]⟩, .int .i64 0, .int .i64 0, .int .i64 0, .int .i64 0] := ⟨_, rfl⟩
                have hbz := built_z0
                have hiz := info_z6
                have hoz := z6_one
                rw [← hZ6] at hbz hiz hoz hth HB2 HR2
                clear HR k2 HB hZ6
                go_wp2_with (first
                  | (refine wpList_buildTo rfl 39 _ rfl _ rfl _ (built_0 hbz _) ?_)
                  | (refine wpList_store_mid rfl 39 _ _ rfl gx (i * 6) Z6 rfl rfl hth hiz hoz ?_))
                go_roundw
                case rel => exact ⟨i + 1, by omega, by go_num, HB2, Lib.hid fun _ => ⟨gx, rfl, k1, HR2.out⟩⟩
                case measure => simp [intOf]; omega
              · have HT12 := Lib.hid (HT10.out.below HB.out)
                clear HB HR
                go_wp2_with fail
                go_roundw
                case rel => exact ⟨j + 1, l2, by omega, by go_num, HT12⟩
                case measure => simp [intOf]; omega
        · go_wp2_with fail
          go_meet
          exact ⟨lst, HT⟩
    case rest =>
      obtain ⟨lst, HT⟩ := hcut
      obtain ⟨w8, rfl⟩ : ∃ x, x = wc := ⟨_, rfl⟩
      obtain ⟨s, er, hans⟩ : ∃ s er, replayAns p (knownOf lst (lastSeq lst)) vd = (s, er) := ⟨_, _, rfl⟩
      have GA := HT.out.at_ vd
      have GB0 := fun (v : World) (h : Two w w.heap.size base top ge gr p A n c lst lst v) => h.rAsof hs2.out (by omega) vd 4611686018427387904
      simp only [known_at HT.out.e1] at GB0
      rw [hans] at GA
      simp only [hans] at GB0
      unfold St.val at GA GB0
      have GB := Lib.hid GB0
      have GAH := Lib.hid GA
      have hsi := info_st s
      have hso := st_one s
      have hsz12 : ((Tryz.prog.info? 45).bind (·.zero)).map (·.cells.size) = some (stCells s).size := by rw [show (stCells s).size = 12 from rfl]; kernel_rfl
      have heq : ∀ W, (Op.equalIn 10000 45 (.agg (stCells s)) (.agg (stCells s))).run Tryz.prog W = .ok true W := fun W => st_equal s W
      have g40 : Tryz.prog.eqGuardType Tryz.prog.depth 45 = false := by kernel_rfl
      clear GA GB0 hans HT
      generalize stCells s = S at *
      go_upto_region 27 with (first
        | (go_at_call 11; refine GAH.out.mono ?_; rintro x w9 ⟨rfl, ht9, _⟩)
        | (refine alloc_store rfl rfl 45 _ _ rfl rfl rfl rfl S rfl rfl hsz12 hsi hso ?_))
      obtain ⟨ga, hga⟩ : ∃ ga, ga = w9.heap.size := ⟨_, rfl⟩
      rw [← hga]
      refine wp_at (fun wx => wx.heap[ga]? = some (.cells S 45 (0, 0)) ∧ Below w9.heap.size w9 wx) (by rw [hga]; exact ⟨heap_alloc_new _ _, (Below.refl _ _).alloc (Nat.le_refl _) _⟩) ?_
      rintro w10 ⟨hr10, hb10⟩
      have HT10 := Lib.hid (ht9.below hb10)
      clear hga ht9 hb10 GAH
      go_upto_region 28 with (first
        | (go_at_call 12; refine (GB.out _ HT10.out).mono ?_; rintro x w11 ⟨rfl, hb11⟩)
        | (refine alloc_store rfl rfl 45 _ _ rfl rfl rfl rfl S rfl rfl hsz12 hsi hso ?_))
      have hr11 := (hb11.block _ (Array.getElem?_eq_some_iff.1 hr10).1).trans hr10
      have HT11 := HT10.out.below hb11
      obtain ⟨gb, hgb⟩ : ∃ gb, gb = w11.heap.size := ⟨_, rfl⟩
      rw [← hgb]
      refine wp_at (fun wx => wx.heap[gb]? = some (.cells S 45 (0, 0)) ∧ Below w11.heap.size w11 wx) (by rw [hgb]; exact ⟨heap_alloc_new _ _, (Below.refl _ _).alloc (Nat.le_refl _) _⟩) ?_
      rintro w12 ⟨hr12, hb12⟩
      have HT12 := Lib.hid (HT11.below hb12)
      have hq12 := (hb12.block _ (Array.getElem?_eq_some_iff.1 hr11).1).trans hr11
      have HG := Lib.hid (⟨HT12.out, hq12, hr12⟩ : Two w w.heap.size base top ge gr p A n c lst lst w12 ∧ _ ∧ _)
      clear hgb HT10 HT11 HT12 hb11 hb12 hr10 hr11 GB hq12 hr12
      refine region_letters fun a Q ha hQ => ?_
      have HA' := Lib.hid ha
      have HQ := Lib.hid hQ
      have e8 : a.eval (.tmp 8) = .pointer (some ⟨ge, 0, none⟩) := by rw [ha]; rfl
      have e11 : a.eval (.tmp 11) = .pointer (some ⟨gr, 0, none⟩) := by rw [ha]; rfl
      have e15 : a.eval (.tmp 15) = .pointer (some ⟨ga, 0, none⟩) := by rw [ha]; rfl
      have e16 : a.eval (.tmp 16) = .int .i64 er := by rw [ha]; rfl
      have e17 : a.eval (.tmp 17) = .pointer (some ⟨gb, 0, none⟩) := by rw [ha]; rfl
      have e18 : a.eval (.tmp 18) = .int .i64 er := by rw [ha]; rfl
      have hszA : a.tmps.size = 108 := by rw [ha]; rfl
      clear ha hQ
      refine region_opsG (by kernel_rfl) [91, 92, 93, 94, 95, 96, 97, 98, 99, 100, 101, 102, 103, 104, 105, 106, 107, 6] (G28 w w.heap.size base top ge gr p A n c lst S ga gb) (T28 ge gr lst S er) (by kernel_rfl) (fun t h => by rw [hszA] at h; simp; omega) (G28.below (L := fun _ => false) HG.out ((Below.refl _ _).drew)) ⟨?_, ?_, ?_, ?_, ?_, ?_, ?_, ?_, ?_, ?_, ?_, ?_, ?_, ?_, ?_, ?_, ?_, ?_, trivial⟩ ?_
      · intro L b v hi hdep hcl hf hn hg ht
        have hg : G28 w w.heap.size base top ge gr p A n c lst S ga gb L v := hg
        have x0 : b.eval (.tmp 15) = .pointer (some ⟨ga, 0, none⟩) := by rw [hf.eval (by decide)]; exact e15
        exact ⟨wanted_free rfl [] _, still_ok (.agg S) (exec_row 45 (.tmp 15) rfl ga x0 _ _ _ _ hg.2.1 Tryz.underlying45 rfl hsi) hg (rfl) (fun j oj d hoj hd hji hlj h => T28_keep (Below.refl _ _) h)⟩
      · intro L b v hi hdep hcl hf hn hg ht
        have hg : G28 w w.heap.size base top ge gr p A n c lst S ga gb L v := hg
        have x0 : b.eval (.tmp 17) = .pointer (some ⟨gb, 0, none⟩) := by rw [hf.eval (by decide)]; exact e17
        exact ⟨wanted_free rfl [] _, still_ok (.agg S) (exec_row 45 (.tmp 17) rfl gb x0 _ _ _ _ hg.2.2 Tryz.underlying45 rfl hsi) hg (rfl) (fun j oj d hoj hd hji hlj h => T28_keep (Below.refl _ _) h)⟩
      · intro L b v hi hdep hcl hf hn hg ht
        have hg : G28 w w.heap.size base top ge gr p A n c lst S ga gb L v := hg
        have x0 : b.eval (.tmp 91) = .agg S := ht 0 _ 91 rfl rfl (hdep 0 (by decide))
        have x1 : b.eval (.tmp 92) = .agg S := ht 1 _ 92 rfl rfl (hdep 1 (by decide))
        exact ⟨wanted_free rfl [] _, still_ok (.bool true) (by unfold execOp; simp only [x0, x1]; go_simp) hg (rfl) (fun j oj d hoj hd hji hlj h => T28_keep (Below.refl _ _) h)⟩
      · intro L b v hi hdep hcl hf hn hg ht
        have hg : G28 w w.heap.size base top ge gr p A n c lst S ga gb L v := hg
        have x0 : b.eval (.tmp 93) = .bool true := ht 2 _ 93 rfl rfl (hdep 2 (by decide))
        exact ⟨wanted_free rfl [] _, still_ok (.bool true) (by rw [exec_move (.tmp 93) rfl, x0]) hg (rfl) (fun j oj d hoj hd hji hlj h => T28_keep (Below.refl _ _) h)⟩
      · intro L b v hi hdep hcl hf hn hg ht
        have hg : G28 w w.heap.size base top ge gr p A n c lst S ga gb L v := hg
        have x0 : b.eval (.tmp 16) = .int .i64 er := by rw [hf.eval (by decide)]; exact e16
        exact ⟨wanted_at rfl rfl (show b.eval (.tmp 94) = .bool true from ht 3 _ 94 rfl rfl (hdep 3 (by decide))), still_ok (.int .i64 er) (by rw [exec_move (.tmp 16) rfl, x0]) hg (rfl) (fun j oj d hoj hd hji hlj h => T28_keep (Below.refl _ _) h)⟩
      · intro L b v hi hdep hcl hf hn hg ht
        have hg : G28 w w.heap.size base top ge gr p A n c lst S ga gb L v := hg
        have x0 : b.eval (.tmp 18) = .int .i64 er := by rw [hf.eval (by decide)]; exact e18
        exact ⟨wanted_at rfl rfl (show b.eval (.tmp 94) = .bool true from ht 3 _ 94 rfl rfl (hdep 3 (by decide))), still_ok (.int .i64 er) (by rw [exec_move (.tmp 18) rfl, x0]) hg (rfl) (fun j oj d hoj hd hji hlj h => T28_keep (Below.refl _ _) h)⟩
      · intro L b v hi hdep hcl hf hn hg ht
        have hg : G28 w w.heap.size base top ge gr p A n c lst S ga gb L v := hg
        have x0 : b.eval (.tmp 95) = .int .i64 er := ht 4 _ 95 rfl rfl (hdep 4 (by decide))
        have x1 : b.eval (.tmp 96) = .int .i64 er := ht 5 _ 96 rfl rfl (hdep 5 (by decide))
        exact ⟨wanted_at rfl rfl (show b.eval (.tmp 94) = .bool true from ht 3 _ 94 rfl rfl (hdep 3 (by decide))), still_ok (.bool true) (by unfold execOp; simp only [x0, x1]; go_simp) hg (rfl) (fun j oj d hoj hd hji hlj h => T28_keep (Below.refl _ _) h)⟩
      · intro L b v hi hdep hcl hf hn hg ht
        have hg : G28 w w.heap.size base top ge gr p A n c lst S ga gb L v := hg
        have x0 : b.eval (.tmp 94) = .bool true := ht 3 _ 94 rfl rfl (hdep 3 (by decide))
        have x1 : b.eval (.tmp 97) = .bool true := ht 6 _ 97 rfl rfl (hdep 6 (by decide))
        exact ⟨wanted_free rfl [] _, still_ok (.bool true) (by unfold execOp; simp only [x0, x1]; go_simp) hg (rfl) (fun j oj d hoj hd hji hlj h => T28_keep (Below.refl _ _) h)⟩
      · intro L b v hi hdep hcl hf hn hg ht
        have hg : G28 w w.heap.size base top ge gr p A n c lst S ga gb L v := hg
        have x0 : b.eval (.tmp 98) = .bool true := ht 7 _ 98 rfl rfl (hdep 7 (by decide))
        exact ⟨wanted_free rfl [] _, still_ok (.bool true) (by rw [exec_move (.tmp 98) rfl, x0]) hg (rfl) (fun j oj d hoj hd hji hlj h => T28_keep (Below.refl _ _) h)⟩
      · intro L b v hi hdep hcl hf hn hg ht
        have hg : G28 w w.heap.size base top ge gr p A n c lst S ga gb L v := hg
        have x0 : b.eval (.tmp 8) = .pointer (some ⟨ge, 0, none⟩) := by rw [hf.eval (by decide)]; exact e8
        exact ⟨wanted_at rfl rfl (show b.eval (.tmp 99) = .bool true from ht 8 _ 99 rfl rfl (hdep 8 (by decide))), still_ok (.pointer (some ⟨ge, 0, none⟩)) (by rw [exec_move (.tmp 8) rfl, x0]) hg (rfl) (fun j oj d hoj hd hji hlj h => T28_keep (Below.refl _ _) h)⟩
      · intro L b v hi hdep hcl hf hn hg ht
        have hg : G28 w w.heap.size base top ge gr p A n c lst S ga gb L v := hg
        have x0 : b.eval (.tmp 100) = .pointer (some ⟨ge, 0, none⟩) := ht 9 _ 100 rfl rfl (hdep 9 (by decide))
        refine ⟨wanted_at rfl rfl (show b.eval (.tmp 99) = .bool true from ht 8 _ 99 rfl rfl (hdep 8 (by decide))), call_ok 15 #[.tmp 100] _ rfl #[.pointer (some ⟨ge, 0, none⟩)] (by simp [x0]) (enters_of Tryz.func15 (by kernel_rfl) rfl) (hg.1.events.mono ?_)⟩
        rintro r v2 ⟨E2, c2, rfl, hown, hb2⟩
        exact ⟨_, rfl, hg.below hb2, fun _ => ⟨E2, c2, rfl, (Rd.of_own hown).ev⟩, fun j oj d hoj hd hji hlj h => T28_keep hb2 h⟩
      · intro L b v hi hdep hcl hf hn hg ht
        have hg : G28 w w.heap.size base top ge gr p A n c lst S ga gb L v := hg
        have x0 : b.eval (.tmp 11) = .pointer (some ⟨gr, 0, none⟩) := by rw [hf.eval (by decide)]; exact e11
        exact ⟨wanted_at rfl rfl (show b.eval (.tmp 99) = .bool true from ht 8 _ 99 rfl rfl (hdep 8 (by decide))), still_ok (.pointer (some ⟨gr, 0, none⟩)) (by rw [exec_move (.tmp 11) rfl, x0]) hg (rfl) (fun j oj d hoj hd hji hlj h => T28_keep (Below.refl _ _) h)⟩
      · intro L b v hi hdep hcl hf hn hg ht
        have hg : G28 w w.heap.size base top ge gr p A n c lst S ga gb L v := hg
        have x0 : b.eval (.tmp 102) = .pointer (some ⟨gr, 0, none⟩) := ht 11 _ 102 rfl rfl (hdep 11 (by decide))
        exact ⟨wanted_at rfl rfl (show b.eval (.tmp 99) = .bool true from ht 8 _ 99 rfl rfl (hdep 8 (by decide))), still_ok (.pointer (some ⟨gr, 0, none⟩)) (by unfold execOp; simp only [x0]; go_simp) hg (rfl) (fun j oj d hoj hd hji hlj h => T28_keep (Below.refl _ _) h)⟩
      · intro L b v hi hdep hcl hf hn hg ht
        have hg : G28 w w.heap.size base top ge gr p A n c lst S ga gb L v := hg
        have x0 : b.eval (.tmp 103) = .pointer (some ⟨gr, 0, none⟩) := ht 12 _ 103 rfl rfl (hdep 12 (by decide))
        exact ⟨wanted_at rfl rfl (show b.eval (.tmp 99) = .bool true from ht 8 _ 99 rfl rfl (hdep 8 (by decide))), still_ok (.pointer (some ⟨gr, 9, none⟩)) (by unfold execOp; simp only [x0]; go_simp) hg (rfl) (fun j oj d hoj hd hji hlj h => T28_keep (Below.refl _ _) h)⟩
      · intro L b v hi hdep hcl hf hn hg ht
        have hg : G28 w w.heap.size base top ge gr p A n c lst S ga gb L v := hg
        have x0 : b.eval (.tmp 104) = .pointer (some ⟨gr, 9, none⟩) := ht 13 _ 104 rfl rfl (hdep 13 (by decide))
        obtain ⟨E2, m2, c2, hc, hrd⟩ := hg.1.rRow
        exact ⟨wanted_at rfl rfl (show b.eval (.tmp 99) = .bool true from ht 8 _ 99 rfl rfl (hdep 8 (by decide))), still_ok (.slice E2 m2 c2) (by unfold execOp; simp only [x0]; go_simp) hg (fun _ => ⟨E2, m2, c2, rfl, hrd⟩) (fun j oj d hoj hd hji hlj h => T28_keep (Below.refl _ _) h)⟩
      · intro L b v hi hdep hcl hf hn hg ht
        have hg : G28 w w.heap.size base top ge gr p A n c lst S ga gb L v := hg
        have x0 : L 15 = false → ∃ E c, b.eval (.tmp 101) = .slice E lst.length c ∧ RdE v E lst.length lst := ht 10 _ 101 rfl rfl (hdep 10 (by decide))
        have x1 : L 15 = false → ∃ E m ce, b.eval (.tmp 105) = .slice E m ce ∧ RdE v E m lst := ht 14 _ 105 rfl rfl (hdep 14 (by decide))
        obtain ⟨E2, c2, x0, hE2⟩ := x0 hi
        obtain ⟨E3, m3, c3, x1, hE3⟩ := x1 hi
        have hm3 : m3 = lst.length := by have := hE3.1; omega
        subst hm3
        refine ⟨wanted_at rfl rfl (show b.eval (.tmp 99) = .bool true from ht 8 _ 99 rfl rfl (hdep 8 (by decide))), call_ok 14 #[.tmp 101, .tmp 105] _ rfl #[.slice E2 lst.length c2, .slice E3 lst.length c3] (by simp [x0, x1]) (enters_of Tryz.func14 (by kernel_rfl) rfl) ((SameE_any E2 E3 lst.length c2 c3 lst v hE2 hE3 (by have := hg.1.e1.len; omega)).mono ?_)⟩
        rintro r v2 ⟨rfl, hb2⟩
        exact ⟨_, rfl, hg.below hb2, rfl, fun j oj d hoj hd hji hlj h => T28_keep hb2 h⟩
      · intro L b v hi hdep hcl hf hn hg ht
        have hg : G28 w w.heap.size base top ge gr p A n c lst S ga gb L v := hg
        have x0 : b.eval (.tmp 99) = .bool true := ht 8 _ 99 rfl rfl (hdep 8 (by decide))
        have x1 : b.eval (.tmp 106) = .bool true := ht 15 _ 106 rfl rfl (hdep 15 (by decide))
        exact ⟨wanted_free rfl [] _, still_ok (.bool true) (by unfold execOp; simp only [x0, x1]; go_simp) hg (rfl) (fun j oj d hoj hd hji hlj h => T28_keep (Below.refl _ _) h)⟩
      · intro L b v hi hdep hcl hf hn hg ht
        have hg : G28 w w.heap.size base top ge gr p A n c lst S ga gb L v := hg
        have x0 : b.eval (.tmp 107) = .bool true := ht 16 _ 107 rfl rfl (hdep 16 (by decide))
        exact ⟨wanted_free rfl [] _, still_ok (.bool true) (by rw [exec_assign (.tmp 107) rfl, x0]) hg (rfl) (fun j oj d hoj hd hji hlj h => T28_keep (Below.refl _ _) h)⟩
      · intro b v hf hg ht
        have hl : Below w.heap.size w v := hg.1.low
        have x6 : b.eval (.tmp 6) = .bool true := ht 17 _ 6 rfl rfl
        refine HQ.out b v ?_
        rw [hf.out]
        simp only [List.foldl_cons, List.foldl_nil, x6]
        rw [HA'.out]
        generalize b.eval (.tmp 91) = u91
        generalize b.eval (.tmp 92) = u92
        generalize b.eval (.tmp 93) = u93
        generalize b.eval (.tmp 94) = u94
        generalize b.eval (.tmp 95) = u95
        generalize b.eval (.tmp 96) = u96
        generalize b.eval (.tmp 97) = u97
        generalize b.eval (.tmp 98) = u98
        generalize b.eval (.tmp 99) = u99
        generalize b.eval (.tmp 100) = u100
        generalize b.eval (.tmp 101) = u101
        generalize b.eval (.tmp 102) = u102
        generalize b.eval (.tmp 103) = u103
        generalize b.eval (.tmp 104) = u104
        generalize b.eval (.tmp 105) = u105
        generalize b.eval (.tmp 106) = u106
        generalize b.eval (.tmp 107) = u107
        simp only [Act.put, List.setIfInBounds_toArray, List.set_cons_succ, List.set_cons_zero]
        go_wp2_with fail
        go_ret
        exact ⟨rfl, hl⟩
end Go.Proofs.YtcbopgopegphlaaGreat
