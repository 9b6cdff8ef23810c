/-
  The walk of EnginePlays (printed by gen_plays.py).
-/
import Derived.Deep.CutBlock
import Derived.Deep.CutRange
import Derived.Test.YtcbopgopegphlaaGreatEnActs
namespace Go.Proofs.YtcbopgopegphlaaGreat
open Go.RowKit
set_option linter.unusedVariables false
theorem tmod3 (a : Int) : -3 < a.tmod 3 ∧ a.tmod 3 < 3 := by
  by_cases h : 0 ≤ a
  · rw [Int.tmod_eq_emod_of_nonneg h]; omega
  · have h2 : a = -(-a) := by omega
    rw [h2, Int.neg_tmod, Int.tmod_eq_emod_of_nonneg (by omega)]
    omega
theorem tmod3_lo (a : Int) : -3 < a.tmod 3 := (tmod3 a).1
theorem tmod3_hi (a : Int) : a.tmod 3 < 3 := (tmod3 a).2
def G21 (w0 : World) (B base top ge gr : Nat) (p : Prod) (A : Option Addr) (n c : Nat) (l : List Ev) (e : Ev) (AC : Array Value) (g10 : Nat) (L : Nat → Bool) (v : World) : Prop :=
  Two w0 B base top ge gr p A n c (if L 3 = true then addTo l e else l) (if L 7 = true then addTo l e else l) v ∧ v.heap[g10]? = some (.cells AC 41 (0, 0))
def T21 (ge gr g10 : Nat) (EC : Array Value) (r : Int) (L : Nat → Bool) (i : Nat) (u : Value) (v : World) : Prop :=
  match i with
  | 0 => u = .pointer (some ⟨ge, 0, none⟩)
  | 1 => u = .pointer (some ⟨g10, 1, none⟩)
  | 2 => u = .agg EC
  | 3 => u = .int .i64 r
  | 4 => u = .pointer (some ⟨gr, 0, none⟩)
  | 5 => u = .pointer (some ⟨g10, 1, none⟩)
  | 6 => u = .agg EC
  | 7 => u = .int .i64 r
  | 8 => u = .bool false
  | _ => True
theorem G21.still {w0 : World} {B base top ge gr : Nat} {p : Prod} {A : Option Addr} {n c : Nat} {l : List Ev} {e : Ev} {AC : Array Value} {g10 : Nat} {L : Nat → Bool} {v : World} {i : Nat} (h : G21 w0 B base top ge gr p A n c l e AC g10 L v) (h3 : i ≠ 3) (h7 : i ≠ 7) : G21 w0 B base top ge gr p A n c l e AC g10 (upd L i) v := by
  unfold G21
  rw [upd_other (fun e => h3 e.symm), upd_other (fun e => h7 e.symm)]
  exact h
def G29 (w0 : World) (B base top ge gr : Nat) (p : Prod) (A : Option Addr) (n c : Nat) (l : List Ev) (_ : Nat → Bool) (v : World) : Prop := Two w0 B base top ge gr p A n c l l v
def T29 (ge gr : Nat) (l : List Ev) (L : Nat → Bool) (i : Nat) (u : Value) (v : World) : Prop :=
  match i with
  | 0 => u = .pointer (some ⟨ge, 0, none⟩)
  | 1 => L 6 = false → ∃ E c, u = .slice E l.length c ∧ RdE v E l.length l
  | 2 => u = .pointer (some ⟨gr, 0, none⟩)
  | 3 => u = .pointer (some ⟨gr, 0, none⟩)
  | 4 => u = .pointer (some ⟨gr, 9, none⟩)
  | 5 => L 6 = false → ∃ E m ce, u = .slice E m ce ∧ RdE v E m l
  | 6 => u = .bool true
  | 7 => u = .bool true
  | _ => True
theorem T29_keep {ge gr : Nat} {l : List Ev} {L : Nat → Bool} {i jj : Nat} {u : Value} {v w2 : World} (hb : Below v.heap.size v w2) (h : T29 ge gr l L jj u v) : T29 ge gr l (upd L i) jj u w2 := by
  unfold T29 at h ⊢
  split at h <;> first
    | exact h
    | (intro h0; obtain ⟨E, c, h1, h2⟩ := h (upd_false h0); exact ⟨E, c, h1, h2.below hb⟩)
    | (intro h0; obtain ⟨E, m, c, h1, h2⟩ := h (upd_false h0); exact ⟨E, m, c, h1, h2.below hb⟩)
set_option maxRecDepth 100000 in
set_option maxHeartbeats 4000000 in
theorem EnginePlays_walk (p : Prod) (A : Option Addr) (n c : Nat) (E : Option Addr) (m ce : Nat) (acts : List ActV) (w : World) (hA : RdI w A n p.bounds) (hs : p.name.size ≤ 140737488351232) (hn : n ≤ c) (hc : c * 8 ≤ 140737488351232) (hE : RdA w E m acts) (hm : m ≤ ce) (hce : ce * 80 ≤ 140737488351232) (he : ∀ a ∈ acts, a.e.loan.size ≤ 140737488351232) :
    Calls Tryz.prog 3 #[p.val (.slice A n c), .slice E m ce] w fun e w' => e = .returned (.bool true) ∧ Below w.heap.size w w' := by
  have WK := Lib.hid wakes_any
  have CP := Lib.hid fun W (h : RdI W A n p.bounds) => Copy_any p A n c W h (by omega)
  have CK := Lib.hid fun W (h : RdI W A n p.bounds) => refCheck_any p A n c W h (by omega) (by omega)
  have HA := Lib.hid hA
  have HE := Lib.hid hE
  have HLO := Lib.hid he
  have hlm := Lib.hid hE.1
  have hm12 : m ≤ 1000000000000000 := by omega
  have hn12 : n ≤ 17592186044416 := by omega
  have hs2 : Hid (p.name.size ≤ 9223372036854775806) := Lib.hid (by omega)
  have hiP : (Tryz.prog.info? 25).map (·.size) = some (pCells p (.slice A n c)).size := info_prod _ _
  have hbr := built_re p (.slice A n c)
  have hiR : (Tryz.prog.info? 37).map (·.size) = some (rCells p (.slice A n c) (.slice none 0 0)).size := by rw [show (rCells p (.slice A n c) (.slice none 0 0)).size = 10 from rfl]; kernel_rfl
  unfold Prod.val at CP CK ⊢
  generalize hPC : pCells p (.slice A n c) = PC at *
  generalize hRC : rCells p (.slice A n c) (.slice none 0 0) = RC at *
  have HPC := Lib.hid hPC
  have HRC := Lib.hid hRC
  clear hPC hRC hA hE he
  obtain ⟨w1, hw1⟩ : ∃ w1, w1 = w.alloc (.cells PC 25) := ⟨_, rfl⟩
  have hz1 : w1.heap.size = w.heap.size + 1 := by rw [hw1]; simp
  have hb1 : Below w.heap.size w w1 := by rw [hw1]; exact (Below.refl _ _).alloc (Nat.le_refl _) _
  have hP1 : w1.heap[w.heap.size]? = some (.cells PC 25 (0, 0)) := by rw [hw1]; exact heap_alloc_new _ _
  go_enter Tryz.func3, Tryz.ntmps3
  go_upto_region 1 with (fail)
  rw [← hw1]
  clear hw1
  go_upto_region 3 with (first
    | (go_at_call 5; refine (WK.out _).mono ?_; rintro e w2 ⟨rfl, hb2⟩))
  have hb02 := hb1.trans (hb2.mono hb1.size)
  have hP2 := (hb2.block _ (by omega)).trans hP1
  have hs2' : w.heap.size + 1 ≤ w2.heap.size := by have := hb2.size; omega
  clear hP1 hb1 hb2 WK
  go_upto_region 4 with (first
    | (refine wpList_load_row rfl 25 _ rfl _ rfl _ _ _ _ hP2 Tryz.underlying25 rfl hiP ?_)
    | (go_at_call 7; refine (CP.out _ (HA.out.below hb02)).mono ?_; rintro e w3 ⟨⟨A3, c3, rfl, hA3⟩, hb3⟩))
  go_at_call 6
  refine (New_b p A3 n c3 w3 hA3 (by omega)).mono ?_
  rintro e w4 ⟨hb4, hcase⟩
  have hb24 : Below w2.heap.size w2 w4 := hb3.trans (hb4.mono hb3.size)
  have hs4 := hb24.size
  have hb04 : Below w.heap.size w w4 := hb02.trans (hb24.mono (by omega))
  have hP4 := (hb24.block _ (by omega)).trans hP2
  have CK4 := Lib.hid (CK.out w4 (HA.out.below hb04))
  clear CP CK hP2
  rcases hcase with ⟨hno, rfl⟩ | ⟨hok, ge, rfl, hEn⟩
  · have CK5 := CK4.out
    rw [if_neg hno] at CK5
    have CK6 := Lib.hid CK5
    clear HPC CK4 CK5 hno
    go_wp2_with (first
      | (refine wpList_load_row rfl 25 _ rfl _ rfl _ _ _ _ hP4 Tryz.underlying25 rfl hiP ?_)
      | (go_at_call 8; refine CK6.out.mono ?_; rintro e w5 ⟨rfl, hb5⟩))
    go_ret
    exact ⟨rfl, hb04.trans (hb5.mono (by omega))⟩
  have CK5 := CK4.out
  rw [if_pos hok] at CK5
  have CK6 := Lib.hid CK5
  have HEn := Lib.hid hEn
  have hbase : w2.heap.size ≤ w3.heap.size := hb3.size
  have hb43 := hb4.size
  clear CK4 CK5 hb24 hb3 hb4 hA3 hEn
  generalize hbs : w3.heap.size = base at *
  obtain ⟨top, htop⟩ : ∃ top, top = w4.heap.size := ⟨_, rfl⟩
  have HTOP := Lib.hid htop
  rw [← htop] at HEn hb43
  clear htop
  go_upto_region 5 with (first
    | (refine wpList_load_row rfl 25 _ rfl _ rfl _ _ _ _ hP4 Tryz.underlying25 rfl hiP ?_)
    | (go_at_call 8; refine CK6.out.mono ?_; rintro e w5 ⟨rfl, hb5⟩))
  have hP5 := (hb5.block _ (by omega)).trans hP4
  obtain ⟨gr, hgr⟩ : ∃ gr, gr = w5.heap.size := ⟨_, rfl⟩
  obtain ⟨w6, hw6⟩ : ∃ w6, w6 = w5.alloc (.cells RC 37) := ⟨_, rfl⟩
  have hb56 : Below w5.heap.size w5 w6 := by rw [hw6]; exact (Below.refl _ _).alloc (Nat.le_refl _) _
  have hR6 : w6.heap[gr]? = some (.cells RC 37 (0, 0)) := by rw [hw6, hgr]; exact heap_alloc_new _ _
  have HTW : Hid (Two w w.heap.size base top ge gr p A n c [] [] w6) := Lib.hid (Two.start HEn.out HA.out (rdI_lt HA.out) (hb04.trans ((hb5.trans (hb56.mono hb5.size)).mono (by omega))) (by omega) hb43 (by rw [HTOP.out, hgr]; exact hb5.size) (hb5.trans (hb56.mono hb5.size)) (by rw [HRC.out]; exact hR6) (by rw [hgr]; exact hb5.size) (by have := HTOP.out; omega))
  clear hP4 CK6 HEn hb04 hR6 HPC HRC
  go_upto_region 8 with (first
    | (refine wpList_load_row rfl 25 _ rfl _ rfl _ _ _ _ hP5 Tryz.underlying25 rfl hiP ?_)
    | (refine wpList_buildTo rfl 37 _ rfl _ rfl _ (built_1 hbr _ _ rfl) ?_))
  rw [← hgr, ← hw6]
  clear hP5 hb5 hb56 hw6 hbr hiR hgr hb43 hbs
  go_upto_block 0 with (fail)
  go_cut [9, 10, 11, 12, 13, 14, 15, 16, 17, 18] from 45 to 118 (fun _ _ _ _ _ _ _ _ _ _ wx => ∃ lst, Hid (Two w w.heap.size base top ge gr p A n c lst lst wx))
  case first =>
    go_wp2
    go_loopw [45] (fun t wr => ∃ (j : Nat) (lst : List Ev), j ≤ m ∧ t = .int .i64 (j : Int) ∧ Hid (Two w w.heap.size base top ge gr p A n c lst lst wr)) (fun t _ => m - (intOf t).toNat)
    case atStart => exact ⟨0, [], Nat.zero_le _, rfl, HTW⟩
    case round =>
      clear HTW
      obtain ⟨j, lst, hj, rfl, HT⟩ := hrel
      obtain ⟨w7, rfl⟩ : ∃ x, x = wr := ⟨_, rfl⟩
      by_cases hlt : j < m
      · have hE7 := HE.out.keep HT.out.low
        obtain ⟨bE, oE, rfl, hcs⟩ := hE7.2 (by omega)
        have hjl : j < acts.length := by have := hlm.out; omega
        have hmid : w7.rangeAt bE (oE + j * 9) (actCells acts[j]).toList := fun q u hu => hcs j hjl q u (by simpa using hu)
        have hsz : acts[j].e.loan.size ≤ 9223372036854775806 := by have := HLO.out _ (List.getElem_mem hjl); omega
        have hi9 : (Tryz.prog.info? 41).map (·.size) = some (actCells acts[j]).toList.length := by rw [show (actCells acts[j]).toList.length = 9 from rfl]; kernel_rfl
        have hia : (Tryz.prog.info? 41).map (·.size) = some (actCells acts[j]).size := by rw [show (actCells acts[j]).size = 9 from rfl]; kernel_rfl
        have hza : ((Tryz.prog.info? 41).bind (·.zero)).map (·.cells.size) = some (actCells acts[j]).size := by rw [show (actCells acts[j]).size = 9 from rfl]; kernel_rfl
        have hoa : (actCells acts[j]).all (·.oneCell') = true := by simp [actCells, Value.oneCell']
        have HBX := Lib.hid fun (W : World) (g : Nat) (h : W.heap[g]? = some (.cells (actCells acts[j]) 41 (0, 0))) => act_box h
        clear hE7 hcs
        generalize acts[j] = ac at *
        obtain ⟨kd, e, ad, aq⟩ := ac
        dsimp only at HBX hsz
        generalize actCells ⟨kd, e, ad, aq⟩ = AC at *
        obtain ⟨g10, hg10⟩ : ∃ g10, g10 = w7.heap.size := ⟨_, rfl⟩
        go_upto_region 14 with (first
          | (refine wpList_load_mid rfl 41 _ rfl bE (oE + j * 9) rfl AC.toList _ hmid Tryz.underlying41 rfl hi9 ?_)
          | (refine alloc_store rfl rfl 41 _ _ rfl rfl rfl rfl AC rfl rfl hza hia hoa ?_))
        rw [← hg10]
        refine wp_at (fun wx => wx.heap[g10]? = some (.cells AC 41 (0, 0)) ∧ Below w7.heap.size w7 wx) (by rw [hg10]; exact ⟨heap_alloc_new _ _, (Below.refl _ _).alloc (Nat.le_refl _) _⟩) ?_
        rintro w8 ⟨hr8, hb8⟩
        have HT8 := Lib.hid (HT.out.below hb8)
        obtain ⟨c0, _, c7, c8⟩ := HBX.out w8 g10 hr8
        clear hmid hi9 hia hza hoa HT hb8 hg10
        by_cases h80 : (80 : Int) < (j : Int)
        · go_wp2_with fail
          go_meet
          exact ⟨lst, HT8⟩
        · obtain ⟨r, hr, hrc, hr1, hr2⟩ : ∃ r : Int, kd.tmod 3 = r ∧ (r = 0 ∨ r = 1 ∨ ((r == 0) = false ∧ (r == 1) = false)) ∧ -3 < r ∧ r < 3 := ⟨_, rfl, by
            by_cases h : kd.tmod 3 = 0
            · exact .inl h
            · by_cases h' : kd.tmod 3 = 1
              · exact .inr (.inl h')
              · exact .inr (.inr ⟨by simpa using h, by simpa using h'⟩), tmod3_lo kd, tmod3_hi kd⟩
          rcases hrc with rfl | rfl | ⟨hr0, hr1'⟩
          · go_upto_region 21 with (fail)
            have HR8 := Lib.hid hr8
            have hie := info_ev e
            have hEV : Hid (∀ (v : World), v.heap[g10]? = some (.cells AC 41 (0, 0)) → ∀ (j : Nat) (u : Value), (evCells e).toList[j]? = some u → v.cell? ⟨g10, 1 + j, none⟩ = some u) := Lib.hid fun v hv => (HBX.out v g10 hv).2.1
            clear hr8 c0 c7 c8
            have GA := Lib.hid fun (l1 l2 : List Ev) (v : World) (h : Two w w.heap.size base top ge gr p A n c l1 l2 v) => h.add e
            have GB := Lib.hid fun (l1 l2 : List Ev) (v : World) (h : Two w w.heap.size base top ge gr p A n c l1 l2 v) => h.rAdd e hsz
            unfold Ev.val at GA GB
            obtain ⟨EC, hEC⟩ : ∃ EC, EC = evCells e := ⟨_, rfl⟩
            rw [← hEC] at GA GB hEV hie
            clear hEC
            refine region_letters fun a Q ha hQ => ?_
            have HA' := Lib.hid ha
            have HQ := Lib.hid hQ
            have e5 : a.eval (.tmp 5) = .pointer (some ⟨ge, 0, none⟩) := by rw [ha]; rfl
            have e8 : a.eval (.tmp 8) = .pointer (some ⟨gr, 0, none⟩) := by rw [ha]; rfl
            have e10 : a.eval (.tmp 10) = .pointer (some ⟨g10, 0, none⟩) := by rw [ha]; rfl
            have hszA : a.tmps.size = 126 := by rw [ha]; rfl
            clear ha hQ
            refine region_opsN (by kernel_rfl) [85, 86, 87, 88, 89, 90, 91, 92, 93] (G21 w w.heap.size base top ge gr p A n c lst e AC g10) (T21 ge gr g10 EC (addAns lst e)) (by kernel_rfl) (fun t h => by rw [hszA] at h; simp; omega) ⟨HT8.out.below ((Below.refl _ _).drew), HR8.out⟩ ⟨?_, ?_, ?_, ?_, ?_, ?_, ?_, ?_, ?_, trivial⟩ ?_
            · intro L b v hi hdep hcl hf hn hg ht
              have hg : G21 w w.heap.size base top ge gr p A n c lst e AC g10 L v := hg
              have x0 : b.eval (.tmp 5) = .pointer (some ⟨ge, 0, none⟩) := by rw [hf.eval (by decide)]; exact e5
              exact still_ok (.pointer (some ⟨ge, 0, none⟩)) (by rw [exec_move (.tmp 5) rfl, x0]) (G21.still hg (by decide) (by decide)) (rfl) (fun j oj d hoj hd hji hlj h => h)
            · intro L b v hi hdep hcl hf hn hg ht
              have hg : G21 w w.heap.size base top ge gr p A n c lst e AC g10 L v := hg
              have x0 : b.eval (.tmp 10) = .pointer (some ⟨g10, 0, none⟩) := by rw [hf.eval (by decide)]; exact e10
              exact still_ok (.pointer (some ⟨g10, 1, none⟩)) (by unfold execOp; simp only [x0]; go_simp) (G21.still hg (by decide) (by decide)) (rfl) (fun j oj d hoj hd hji hlj h => h)
            · intro L b v hi hdep hcl hf hn hg ht
              have hg : G21 w w.heap.size base top ge gr p A n c lst e AC g10 L v := hg
              have x0 : b.eval (.tmp 86) = .pointer (some ⟨g10, 1, none⟩) := ht 1 _ 86 rfl rfl (hdep 1 (by decide))
              exact still_ok (.agg EC) (exec_mid 39 (.tmp 86) rfl g10 1 x0 EC _ (hEV.out v hg.2) Tryz.underlying39 rfl hie) (G21.still hg (by decide) (by decide)) (rfl) (fun j oj d hoj hd hji hlj h => h)
            · intro L b v hi hdep hcl hf hn hg ht
              have hg : G21 w w.heap.size base top ge gr p A n c lst e AC g10 L v := hg
              have x0 : b.eval (.tmp 85) = .pointer (some ⟨ge, 0, none⟩) := ht 0 _ 85 rfl rfl (hdep 0 (by decide))
              have x1 : b.eval (.tmp 87) = .agg EC := ht 2 _ 87 rfl rfl (hdep 2 (by decide))
              obtain ⟨h1, h2⟩ := hg
              rw [hi, if_neg Bool.false_ne_true] at h1
              refine call_ok 9 #[.tmp 85, .tmp 87] _ rfl #[.pointer (some ⟨ge, 0, none⟩), .agg EC] (by simp [x0, x1]) (enters_of Tryz.func9 (by kernel_rfl) rfl) ((GA.out _ _ v h1).mono ?_)
              rintro r v2 ⟨rfl, ht2, hx2⟩
              exact ⟨_, rfl, ⟨by rw [upd_self, if_pos rfl, upd_other (by decide)]; exact ht2, (hx2 g10 _ _ _ h2 (by decide) (by decide) (by decide)).trans h2⟩, rfl, fun j oj d hoj hd hji hlj h => h⟩
            · intro L b v hi hdep hcl hf hn hg ht
              have hg : G21 w w.heap.size base top ge gr p A n c lst e AC g10 L v := hg
              have x0 : b.eval (.tmp 8) = .pointer (some ⟨gr, 0, none⟩) := by rw [hf.eval (by decide)]; exact e8
              exact still_ok (.pointer (some ⟨gr, 0, none⟩)) (by rw [exec_move (.tmp 8) rfl, x0]) (G21.still hg (by decide) (by decide)) (rfl) (fun j oj d hoj hd hji hlj h => h)
            · intro L b v hi hdep hcl hf hn hg ht
              have hg : G21 w w.heap.size base top ge gr p A n c lst e AC g10 L v := hg
              have x0 : b.eval (.tmp 10) = .pointer (some ⟨g10, 0, none⟩) := by rw [hf.eval (by decide)]; exact e10
              exact still_ok (.pointer (some ⟨g10, 1, none⟩)) (by unfold execOp; simp only [x0]; go_simp) (G21.still hg (by decide) (by decide)) (rfl) (fun j oj d hoj hd hji hlj h => h)
            · intro L b v hi hdep hcl hf hn hg ht
              have hg : G21 w w.heap.size base top ge gr p A n c lst e AC g10 L v := hg
              have x0 : b.eval (.tmp 90) = .pointer (some ⟨g10, 1, none⟩) := ht 5 _ 90 rfl rfl (hdep 5 (by decide))
              exact still_ok (.agg EC) (exec_mid 39 (.tmp 90) rfl g10 1 x0 EC _ (hEV.out v hg.2) Tryz.underlying39 rfl hie) (G21.still hg (by decide) (by decide)) (rfl) (fun j oj d hoj hd hji hlj h => h)
            · intro L b v hi hdep hcl hf hn hg ht
              have hg : G21 w w.heap.size base top ge gr p A n c lst e AC g10 L v := hg
              have x0 : b.eval (.tmp 89) = .pointer (some ⟨gr, 0, none⟩) := ht 4 _ 89 rfl rfl (hdep 4 (by decide))
              have x1 : b.eval (.tmp 91) = .agg EC := ht 6 _ 91 rfl rfl (hdep 6 (by decide))
              obtain ⟨h1, h2⟩ := hg
              rw [hi, if_neg Bool.false_ne_true] at h1
              refine call_ok 10 #[.tmp 89, .tmp 91] _ rfl #[.pointer (some ⟨gr, 0, none⟩), .agg EC] (by simp [x0, x1]) (enters_of Tryz.func10 (by kernel_rfl) rfl) ((GB.out _ _ v h1).mono ?_)
              rintro r v2 ⟨rfl, ht2, hx2⟩
              exact ⟨_, rfl, ⟨by rw [upd_self, if_pos rfl, upd_other (by decide)]; exact ht2, (hx2 g10 _ _ _ h2 (by decide) (by decide) (by decide)).trans h2⟩, rfl, fun j oj d hoj hd hji hlj h => h⟩
            · intro L b v hi hdep hcl hf hn hg ht
              have hg : G21 w w.heap.size base top ge gr p A n c lst e AC g10 L v := hg
              have x0 : b.eval (.tmp 88) = .int .i64 (addAns lst e) := ht 3 _ 88 rfl rfl (hdep 3 (by decide))
              have x1 : b.eval (.tmp 92) = .int .i64 (addAns lst e) := ht 7 _ 92 rfl rfl (hdep 7 (by decide))
              exact still_ok (.bool false) (by unfold execOp; simp only [x0, x1]; go_simp) (G21.still hg (by decide) (by decide)) (rfl) (fun j oj d hoj hd hji hlj h => h)
            · intro b v hf hg ht
              have hg2 : Two w w.heap.size base top ge gr p A n c (addTo lst e) (addTo lst e) v := hg.1
              have x93 : b.eval (.tmp 93) = .bool false := ht 8 _ 93 rfl rfl
              refine HQ.out b v ?_
              rw [hf.out]
              simp only [List.foldl_cons, List.foldl_nil, x93]
              rw [HA'.out]
              generalize b.eval (.tmp 85) = u85
              generalize b.eval (.tmp 86) = u86
              generalize b.eval (.tmp 87) = u87
              generalize b.eval (.tmp 88) = u88
              generalize b.eval (.tmp 89) = u89
              generalize b.eval (.tmp 90) = u90
              generalize b.eval (.tmp 91) = u91
              generalize b.eval (.tmp 92) = u92
              simp only [Act.put, List.setIfInBounds_toArray, List.set_cons_succ, List.set_cons_zero]
              go_wp2_with fail
              go_roundw
              case rel => exact ⟨j + 1, addTo lst e, by omega, by go_num, Lib.hid hg2⟩
              case measure => simp [intOf]; omega
          · obtain ⟨s, er, hans⟩ : ∃ s er, replayAns p (knownOf lst (lastSeq lst)) ad = (s, er) := ⟨_, _, rfl⟩
            have GA := HT8.out.at_ ad
            have GB0 := fun (v : World) (h : Two w w.heap.size base top ge gr p A n c lst lst v) => h.rAsof hs2.out (by omega) ad 4611686018427387904
            simp only [known_at HT8.out.e1] at GB0
            rw [hans] at GA
            simp only [hans] at GB0
            unfold St.val at GA GB0
            have GB := Lib.hid GB0
            have GAH := Lib.hid GA
            have hsi := info_st s
            have hso := st_one s
            have hsz12 : ((Tryz.prog.info? 45).bind (·.zero)).map (·.cells.size) = some (stCells s).size := by rw [show (stCells s).size = 12 from rfl]; kernel_rfl
            have heq : ∀ W, (Op.equalIn 10000 45 (.agg (stCells s)) (.agg (stCells s))).run Tryz.prog W = .ok true W := fun W => st_equal s W
            have g40 : Tryz.prog.eqGuardType Tryz.prog.depth 45 = false := by kernel_rfl
            have HR8 := Lib.hid hr8
            clear GA GB0 hans hr8
            generalize stCells s = S at *
            go_upto_region 25 with (first
              | (go_at_call 11; refine GAH.out.mono ?_; rintro x w9 ⟨rfl, ht9, hk9⟩)
              | (refine alloc_store rfl rfl 45 _ _ rfl rfl rfl rfl S rfl rfl hsz12 hsi hso ?_))
            obtain ⟨ga, hga⟩ : ∃ ga, ga = w9.heap.size := ⟨_, rfl⟩
            rw [← hga]
            refine wp_at (fun wx => wx.heap[ga]? = some (.cells S 45 (0, 0)) ∧ Below w9.heap.size w9 wx) (by rw [hga]; exact ⟨heap_alloc_new _ _, (Below.refl _ _).alloc (Nat.le_refl _) _⟩) ?_
            rintro w10 ⟨hr10, hb10⟩
            have hx9 := (hk9 g10 _ _ _ HR8.out (by decide) (by decide) (by decide)).trans HR8.out
            have HT10 := Lib.hid (ht9.below hb10)
            have hx10 : w10.heap[g10]? = some (.cells AC 41 (0, 0)) := (hb10.block _ (Array.getElem?_eq_some_iff.1 hx9).1).trans hx9
            obtain ⟨c0, _, c7, c8⟩ := HBX.out w10 g10 hx10
            clear hga ht9 hb10 hx10 hx9 hk9 HR8
            go_upto_region 26 with (first
              | (go_at_call 12; refine (GB.out _ HT10.out).mono ?_; rintro x w11 ⟨rfl, hb11⟩)
              | (refine alloc_store rfl rfl 45 _ _ rfl rfl rfl rfl S rfl rfl hsz12 hsi hso ?_))
            have hr11 := (hb11.block _ (Array.getElem?_eq_some_iff.1 hr10).1).trans hr10
            have HT11 := HT10.out.below hb11
            obtain ⟨gb, hgb⟩ : ∃ gb, gb = w11.heap.size := ⟨_, rfl⟩
            rw [← hgb]
            refine wp_at (fun wx => wx.heap[gb]? = some (.cells S 45 (0, 0)) ∧ Below w11.heap.size w11 wx) (by rw [hgb]; exact ⟨heap_alloc_new _ _, (Below.refl _ _).alloc (Nat.le_refl _) _⟩) ?_
            rintro w12 ⟨hr12, hb12⟩
            have HT12 := Lib.hid (HT11.below hb12)
            have hq12 := (hb12.block _ (Array.getElem?_eq_some_iff.1 hr11).1).trans hr11
            clear hgb HT10 HT11 hb11 hb12 hr10 hr11 c0 c7 c8 GB GAH
            go_wp2_with (first
              | (refine wpList_load_row rfl 45 _ rfl ga rfl _ _ _ _ hq12 Tryz.underlying45 rfl hsi ?_)
              | (refine wpList_load_row rfl 45 _ rfl gb rfl _ _ _ _ hr12 Tryz.underlying45 rfl hsi ?_))
            go_roundw
            case rel => exact ⟨j + 1, lst, by omega, by go_num, HT12⟩
            case measure => simp [intOf]; omega
          · obtain ⟨s, er, hans⟩ : ∃ s er, replayAns p (knownOf lst aq) ad = (s, er) := ⟨_, _, rfl⟩
            have GA := HT8.out.asof ad aq
            have GB0 := fun (v : World) (h : Two w w.heap.size base top ge gr p A n c lst lst v) => h.rAsof hs2.out (by omega) ad aq
            rw [hans] at GA
            simp only [hans] at GB0
            unfold St.val at GA GB0
            have GB := Lib.hid GB0
            have GAH := Lib.hid GA
            have hsi := info_st s
            have hso := st_one s
            have hsz12 : ((Tryz.prog.info? 45).bind (·.zero)).map (·.cells.size) = some (stCells s).size := by rw [show (stCells s).size = 12 from rfl]; kernel_rfl
            have heq : ∀ W, (Op.equalIn 10000 45 (.agg (stCells s)) (.agg (stCells s))).run Tryz.prog W = .ok true W := fun W => st_equal s W
            have g40 : Tryz.prog.eqGuardType Tryz.prog.depth 45 = false := by kernel_rfl
            have HR8 := Lib.hid hr8
            clear GA GB0 hans hr8
            generalize stCells s = S at *
            go_upto_region 17 with (first
              | (go_at_call 13; refine GAH.out.mono ?_; rintro x w9 ⟨rfl, ht9, hk9⟩)
              | (refine alloc_store rfl rfl 45 _ _ rfl rfl rfl rfl S rfl rfl hsz12 hsi hso ?_))
            obtain ⟨ga, hga⟩ : ∃ ga, ga = w9.heap.size := ⟨_, rfl⟩
            rw [← hga]
            refine wp_at (fun wx => wx.heap[ga]? = some (.cells S 45 (0, 0)) ∧ Below w9.heap.size w9 wx) (by rw [hga]; exact ⟨heap_alloc_new _ _, (Below.refl _ _).alloc (Nat.le_refl _) _⟩) ?_
            rintro w10 ⟨hr10, hb10⟩
            have hx9 := (hk9 g10 _ _ _ HR8.out (by decide) (by decide) (by decide)).trans HR8.out
            have HT10 := Lib.hid (ht9.below hb10)
            have hx10 : w10.heap[g10]? = some (.cells AC 41 (0, 0)) := (hb10.block _ (Array.getElem?_eq_some_iff.1 hx9).1).trans hx9
            obtain ⟨c0, _, c7, c8⟩ := HBX.out w10 g10 hx10
            clear hga ht9 hb10 hx10 hx9 hk9 HR8
            go_upto_region 18 with (first
              | (go_at_call 12; refine (GB.out _ HT10.out).mono ?_; rintro x w11 ⟨rfl, hb11⟩)
              | (refine alloc_store rfl rfl 45 _ _ rfl rfl rfl rfl S rfl rfl hsz12 hsi hso ?_))
            have hr11 := (hb11.block _ (Array.getElem?_eq_some_iff.1 hr10).1).trans hr10
            have HT11 := HT10.out.below hb11
            obtain ⟨gb, hgb⟩ : ∃ gb, gb = w11.heap.size := ⟨_, rfl⟩
            rw [← hgb]
            refine wp_at (fun wx => wx.heap[gb]? = some (.cells S 45 (0, 0)) ∧ Below w11.heap.size w11 wx) (by rw [hgb]; exact ⟨heap_alloc_new _ _, (Below.refl _ _).alloc (Nat.le_refl _) _⟩) ?_
            rintro w12 ⟨hr12, hb12⟩
            have HT12 := Lib.hid (HT11.below hb12)
            have hq12 := (hb12.block _ (Array.getElem?_eq_some_iff.1 hr11).1).trans hr11
            clear hgb HT10 HT11 hb11 hb12 hr10 hr11 c0 c7 c8 GB GAH
            go_wp2_with (first
              | (refine wpList_load_row rfl 45 _ rfl ga rfl _ _ _ _ hq12 Tryz.underlying45 rfl hsi ?_)
              | (refine wpList_load_row rfl 45 _ rfl gb rfl _ _ _ _ hr12 Tryz.underlying45 rfl hsi ?_))
            go_roundw
            case rel => exact ⟨j + 1, lst, by omega, by go_num, HT12⟩
            case measure => simp [intOf]; omega
      · go_wp2_with fail
        go_meet
        exact ⟨lst, HT⟩
  case rest =>
    obtain ⟨lst, HT⟩ := hcut
    obtain ⟨w7, rfl⟩ : ∃ x, x = wc := ⟨_, rfl⟩
    go_upto_region 29 with (fail)
    refine region_letters fun a Q ha hQ => ?_
    have HA' := Lib.hid ha
    have HQ := Lib.hid hQ
    have e5 : a.eval (.tmp 5) = .pointer (some ⟨ge, 0, none⟩) := by rw [ha]; rfl
    have e8 : a.eval (.tmp 8) = .pointer (some ⟨gr, 0, none⟩) := by rw [ha]; rfl
    have hszA : a.tmps.size = 126 := by rw [ha]; rfl
    clear ha hQ
    refine region_opsN (by kernel_rfl) [119, 120, 121, 122, 123, 124, 125, 4] (G29 w w.heap.size base top ge gr p A n c lst) (T29 ge gr lst) (by kernel_rfl) (fun t h => by rw [hszA] at h; simp; omega) (HT.out.below ((Below.refl _ _).drew)) ⟨?_, ?_, ?_, ?_, ?_, ?_, ?_, ?_, trivial⟩ ?_
    · intro L b v hi hdep hcl hf hn hg ht
      have hg : Two w w.heap.size base top ge gr p A n c lst lst v := hg
      have x0 : b.eval (.tmp 5) = .pointer (some ⟨ge, 0, none⟩) := by rw [hf.eval (by decide)]; exact e5
      exact still_ok (.pointer (some ⟨ge, 0, none⟩)) (by rw [exec_move (.tmp 5) rfl, x0]) (hg) (rfl) (fun j oj d hoj hd hji hlj h => T29_keep (Below.refl _ _) h)
    · intro L b v hi hdep hcl hf hn hg ht
      have hg : Two w w.heap.size base top ge gr p A n c lst lst v := hg
      have x0 : b.eval (.tmp 119) = .pointer (some ⟨ge, 0, none⟩) := ht 0 _ 119 rfl rfl (hdep 0 (by decide))
      refine call_ok 15 #[.tmp 119] _ rfl #[.pointer (some ⟨ge, 0, none⟩)] (by simp [x0]) (enters_of Tryz.func15 (by kernel_rfl) rfl) (hg.events.mono ?_)
      rintro r v2 ⟨E2, c2, rfl, hown, hb2⟩
      exact ⟨_, rfl, hg.below hb2, fun _ => ⟨E2, c2, rfl, (Rd.of_own hown).ev⟩, fun j oj d hoj hd hji hlj h => T29_keep hb2 h⟩
    · intro L b v hi hdep hcl hf hn hg ht
      have hg : Two w w.heap.size base top ge gr p A n c lst lst v := hg
      have x0 : b.eval (.tmp 8) = .pointer (some ⟨gr, 0, none⟩) := by rw [hf.eval (by decide)]; exact e8
      exact still_ok (.pointer (some ⟨gr, 0, none⟩)) (by rw [exec_move (.tmp 8) rfl, x0]) (hg) (rfl) (fun j oj d hoj hd hji hlj h => T29_keep (Below.refl _ _) h)
    · intro L b v hi hdep hcl hf hn hg ht
      have hg : Two w w.heap.size base top ge gr p A n c lst lst v := hg
      have x0 : b.eval (.tmp 121) = .pointer (some ⟨gr, 0, none⟩) := ht 2 _ 121 rfl rfl (hdep 2 (by decide))
      exact still_ok (.pointer (some ⟨gr, 0, none⟩)) (by unfold execOp; simp only [x0]; go_simp) (hg) (rfl) (fun j oj d hoj hd hji hlj h => T29_keep (Below.refl _ _) h)
    · intro L b v hi hdep hcl hf hn hg ht
      have hg : Two w w.heap.size base top ge gr p A n c lst lst v := hg
      have x0 : b.eval (.tmp 122) = .pointer (some ⟨gr, 0, none⟩) := ht 3 _ 122 rfl rfl (hdep 3 (by decide))
      exact still_ok (.pointer (some ⟨gr, 9, none⟩)) (by unfold execOp; simp only [x0]; go_simp) (hg) (rfl) (fun j oj d hoj hd hji hlj h => T29_keep (Below.refl _ _) h)
    · intro L b v hi hdep hcl hf hn hg ht
      have hg : Two w w.heap.size base top ge gr p A n c lst lst v := hg
      have x0 : b.eval (.tmp 123) = .pointer (some ⟨gr, 9, none⟩) := ht 4 _ 123 rfl rfl (hdep 4 (by decide))
      obtain ⟨E2, m2, c2, hc, hrd⟩ := hg.rRow
      exact still_ok (.slice E2 m2 c2) (by unfold execOp; simp only [x0]; go_simp) hg (fun _ => ⟨E2, m2, c2, rfl, hrd⟩) (fun j oj d hoj hd hji hlj h => T29_keep (Below.refl _ _) h)
    · intro L b v hi hdep hcl hf hn hg ht
      have hg : Two w w.heap.size base top ge gr p A n c lst lst v := hg
      have x0 : L 6 = false → ∃ E c, b.eval (.tmp 120) = .slice E lst.length c ∧ RdE v E lst.length lst := ht 1 _ 120 rfl rfl (hdep 1 (by decide))
      have x1 : L 6 = false → ∃ E m ce, b.eval (.tmp 124) = .slice E m ce ∧ RdE v E m lst := ht 5 _ 124 rfl rfl (hdep 5 (by decide))
      obtain ⟨E2, c2, x0, hE2⟩ := x0 hi
      obtain ⟨E3, m3, c3, x1, hE3⟩ := x1 hi
      have hm3 : m3 = lst.length := by have := hE3.1; omega
      subst hm3
      refine call_ok 14 #[.tmp 120, .tmp 124] _ rfl #[.slice E2 lst.length c2, .slice E3 lst.length c3] (by simp [x0, x1]) (enters_of Tryz.func14 (by kernel_rfl) rfl) ((SameE_any E2 E3 lst.length c2 c3 lst v hE2 hE3 (by have := hg.e1.len; omega)).mono ?_)
      rintro r v2 ⟨rfl, hb2⟩
      exact ⟨_, rfl, hg.below hb2, rfl, fun j oj d hoj hd hji hlj h => T29_keep hb2 h⟩
    · intro L b v hi hdep hcl hf hn hg ht
      have hg : Two w w.heap.size base top ge gr p A n c lst lst v := hg
      have x0 : b.eval (.tmp 125) = .bool true := ht 6 _ 125 rfl rfl (hdep 6 (by decide))
      exact still_ok (.bool true) (by rw [exec_assign (.tmp 125) rfl, x0]) (hg) (rfl) (fun j oj d hoj hd hji hlj h => T29_keep (Below.refl _ _) h)
    · intro b v hf hg ht
      have hg2 : Two w w.heap.size base top ge gr p A n c lst lst v := hg
      have hl := hg2.low
      have x4 : b.eval (.tmp 4) = .bool true := ht 7 _ 4 rfl rfl
      clear hg2
      refine HQ.out b v ?_
      rw [hf.out]
      simp only [List.foldl_cons, List.foldl_nil, x4]
      rw [HA'.out]
      generalize b.eval (.tmp 119) = u119
      generalize b.eval (.tmp 120) = u120
      generalize b.eval (.tmp 121) = u121
      generalize b.eval (.tmp 122) = u122
      generalize b.eval (.tmp 123) = u123
      generalize b.eval (.tmp 124) = u124
      generalize b.eval (.tmp 125) = u125
      simp only [Act.put, List.setIfInBounds_toArray, List.set_cons_succ, List.set_cons_zero]
      go_wp2_with fail
      go_ret
      exact ⟨rfl, hl⟩
end Go.Proofs.YtcbopgopegphlaaGreat
