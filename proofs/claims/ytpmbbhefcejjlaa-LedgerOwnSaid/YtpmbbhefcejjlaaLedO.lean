/-
  DeleteFunc over postings; Balance at any journal. No statement is proved here.
-/
import Derived.Test.YtpmbbhefcejjlaaLedI
import Derived.Test.YtpmbbhefcejjlaaLedZ
import Derived.Test.YtpmbbhefcejjlaaRowT
namespace Go.Proofs.Ytpmbbhefcejjlaa
open Go.RowKit
set_option linter.unusedVariables false

/-- Postings in a row that may be written over. -/
structure Rw (w : World) (base g : Nat) (rs : List PR) : Prop where
  row : RowT w 49 g (rs.length * 4)
  cells : ∀ j (hj : j < rs.length), w.rangeAt g (j * 4) (prow rs[j])
  each : ∀ q ∈ rs, OwnL w base q.lv q.p.lines
theorem OwnJ.rw {w : World} {base : Nat} {v : Value} {qs : List PR} (h : OwnJ w base v qs) (hn : 0 < qs.length) : ∃ g c, v = .slice (some ⟨g, 0, none⟩) qs.length c ∧ qs.length ≤ c ∧ Rw w base g qs := by
  rcases h.row.2 with ⟨_, h0⟩ | ⟨g, cap, cur, e, h1, h2, h3, h4, h5, _⟩
  · omega
  · refine ⟨g, cap, e, h3, ⟨cur, h2, by omega⟩, fun j hj i u hu => ?_, h.each⟩
    subst e
    have hrd : Rd w 4 (some ⟨g, 0, none⟩) qs.length (prows qs) := Rd.of_own (c := cap) h.row
    obtain ⟨b, off, e, hcl⟩ := hrd.2 (by rw [prows_len]; omega)
    injection e with e
    injection e with e1 e4
    subst e1 e4
    obtain ⟨c0, c1, c2, c3⟩ := prows_at qs j hj
    have hi : i < 4 := by
      have := (List.getElem?_eq_some_iff.1 hu).1
      simpa [prow] using this
    have hx : (prows qs)[j * 4 + i]? = some u := by
      match i, hi with
      | 0, _ => rw [← hu]; exact c0
      | 1, _ => rw [← hu]; exact c1
      | 2, _ => rw [← hu]; exact c2
      | 3, _ => rw [← hu]; exact c3
    have := hcl _ _ hx
    rwa [Nat.zero_add] at this
theorem own_ne {w : World} {base g k sz n : Nat} {t t' : TypeId} {v : Value} {xs : List Value} (h : w.ownsRow base t sz v n xs) (hr : RowT w t' g k) (ht : t ≠ t') {b : Nat} (hb : v.ownBlock = some b) : b ≠ g := by
  rintro rfl
  obtain ⟨_, _, cs, h1⟩ := row_block h hb
  obtain ⟨cur, h2, _⟩ := hr
  rw [h1] at h2
  injection h2 with h2
  injection h2 with _ h2
  exact ht h2
theorem Rw.sets {w : World} {base g : Nat} {rs : List PR} (h : Rw w base g rs) (o : Nat) (vs : List Value) : ∀ q ∈ rs, OwnL (w.setCells g o vs) base q.lv q.p.lines := fun q hq =>
  ownE_keep (h.each q hq) fun b hb => heap_setCells_other _ _ _ (own_ne (h.each q hq) h.row (by decide) hb)
theorem prow_len (q : PR) : (prow q).length = 4 := rfl
theorem Rw.set {w : World} {base g : Nat} {rs : List PR} (h : Rw w base g rs) (i : Nat) (hi : i < rs.length) (q : PR) (hq : q ∈ rs) : Rw (w.setCells g (i * 4) (prow q)) base g (rs.set i q) := by
  refine ⟨by rw [List.length_set]; exact h.row.sets _ _, fun j hj => ?_, fun r hr => ?_⟩
  · rw [List.length_set] at hj
    by_cases e : i = j
    · subst e
      rw [List.getElem_set_self]
      exact World.rangeAt_setCells_same _ _ _ _ (h.row.there (by rw [prow_len]; omega))
    · rw [List.getElem_set_ne e]
      exact World.rangeAt_setCells_apart (h.cells j hj) _ _ _ (.inr (by rw [prow_len, prow_len]; omega))
  · rcases List.mem_or_eq_of_mem_set hr with h1 | rfl
    · exact h.sets _ _ r h1
    · exact h.sets _ _ r hq
theorem Rw.below {w w' : World} {base g : Nat} {rs : List PR} (h : Rw w base g rs) (hb : Below w.heap.size w w') : Rw w' base g rs := by
  refine ⟨h.row.same (hb.block g h.row.lt), fun j hj i u hu => ?_, fun q hq => OwnL.below (h.each q hq) hb⟩
  have := h.cells j hj i u hu
  exact (hb.cell (p := ⟨g, j * 4 + i, none⟩) (World.block_lt_of_cell? w _ this)).trans this
/-- The first few of them read as postings, whatever is written behind. -/
theorem Rw.read {w : World} {base g : Nat} {rs : List PR} (h : Rw w base g rs) (i : Nat) (hi : i ≤ rs.length) (vs : List Value) : RdP (w.setCells g (i * 4) vs) (some ⟨g, 0, none⟩) i (pvs (rs.take i)) := by
  refine ⟨by rw [pvs_len, List.length_take]; omega, fun hn => ⟨g, 0, rfl, fun j hj => ?_⟩⟩
  rw [pvs_len, List.length_take] at hj
  have hj2 : j < rs.length := by omega
  have hr := World.rangeAt_setCells_apart (h.cells j hj2) g (i * 4) vs (.inr (.inl (by rw [prow_len]; omega)))
  have hl := h.sets (i * 4) vs rs[j] (List.getElem_mem hj2)
  obtain ⟨Al, ml, cl, el, _, hl2, _, hrl, _⟩ := hl.form
  have e : (pvs (rs.take i))[j]'(by rw [pvs_len, List.length_take]; omega) = rs[j].p := by simp [pvs]
  rw [e]
  have c0 := hr 0 _ (show (prow rs[j])[0]? = some (.int .i64 rs[j].p.num) from rfl)
  have c1 := hr 1 _ (show (prow rs[j])[1]? = some (.int .i64 rs[j].p.day) from rfl)
  have c2 := hr 2 _ (show (prow rs[j])[2]? = some (.string rs[j].p.loan) from rfl)
  have c3 := hr 3 _ (show (prow rs[j])[3]? = some rs[j].lv from rfl)
  rw [el] at c3
  simp only [Nat.zero_add]
  exact ⟨Al, ml, cl, c0, c1, c2, c3, hrl, hl2⟩
theorem kept_sets {w a : World} {g : Nat} (h : Kept (fun k => k = g) w a) (o : Nat) (vs : List Value) : Kept (fun k => k = g) w (a.setCells g o vs) := by
  have hb := below_sets (B := 0) (a := a) (g := g) vs o (Nat.zero_le _) (Below.refl 0 a)
  exact ⟨hb.os.trans h.os, hb.tape.trans h.tape, hb.output.trans h.output, by rw [size_setCells]; exact h.size, fun k hk hne => (heap_setCells_other _ _ _ hne).trans (h.block k hk hne)⟩
theorem kept_belowW {w a b : World} {B : Nat → Prop} (h : Kept B w a) (hb : Below a.heap.size a b) : Kept B w b :=
  ⟨hb.os.trans h.os, hb.tape.trans h.tape, hb.output.trans h.output, Nat.le_trans h.size hb.size, fun k hk hne => (hb.block k (Nat.lt_of_lt_of_le hk h.size)).trans (h.block k hk hne)⟩
theorem zero_post (w : World) : (zeroValue 49).run Try.prog w = .ok (.agg Z4) w := by go_simp
theorem elemPost (W : World) : (sizeOf (Try.prog.elem 42)).run Try.prog W = .ok 4 W := by kernel_rfl
theorem elemPostU : Try.prog.underlying 42 = some (.slice (Try.prog.elem 42)) := by kernel_rfl
theorem post_zsize : ((Try.prog.info? 49).bind (·.zero)).map (·.cells.size) = some 4 := by kernel_rfl
theorem post_isize : (Try.prog.info? 49).map (·.size) = some 4 := by kernel_rfl
theorem keep_step {qs : List PR} {f : PR → Bool} {i j : Nat} {rs : List PR} (hj : j < qs.length) (hl : rs.length = qs.length) (hi : i ≤ j) (h1 : rs.take i = (qs.take j).filter f) (h2 : rs.drop j = qs.drop j) (hf : f qs[j] = true) :
    (rs.set i qs[j]).take (i + 1) = (qs.take (j + 1)).filter f ∧ (rs.set i qs[j]).drop (j + 1) = qs.drop (j + 1) := by
  constructor
  · rw [take_filterR qs j hj, if_pos hf, ← h1, List.take_succ_eq_append_getElem (by rw [List.length_set]; omega), List.getElem_set_self, List.take_set_of_le (Nat.le_refl _)]
  · rw [List.drop_set_of_lt (by omega), ← List.drop_drop (i := 1) (j := j), ← List.drop_drop (i := 1) (j := j), h2]
theorem skip_step {qs : List PR} {f : PR → Bool} {i j : Nat} {rs : List PR} (hj : j < qs.length) (h1 : rs.take i = (qs.take j).filter f) (h2 : rs.drop j = qs.drop j) (hf : f qs[j] = false) :
    rs.take i = (qs.take (j + 1)).filter f ∧ rs.drop (j + 1) = qs.drop (j + 1) := by
  constructor
  · rw [take_filterR qs j hj, if_neg (by simp [hf]), List.append_nil]; exact h1
  · rw [← List.drop_drop (i := 1) (j := j), ← List.drop_drop (i := 1) (j := j), h2]
theorem first_steps {qs : List PR} {f : PR → Bool} {k : Nat} (hk : k < qs.length) (h : ∀ i (hi : i < qs.length), i < k → f qs[i] = true) (hf : f qs[k] = false) : qs.take k = (qs.take (k + 1)).filter f := by
  rw [take_filterR qs k hk, if_neg (by simp [hf]), List.append_nil]
  symm
  rw [List.filter_eq_self]
  intro q hq
  obtain ⟨i, hi, rfl⟩ := List.getElem_of_mem hq
  rw [List.length_take] at hi
  rw [List.getElem_take]
  exact h i (by omega) (by omega)
set_option maxRecDepth 100000 in
set_option maxHeartbeats 4000000 in
theorem Delete_any (base : Nat) (v : Value) (qs : List PR) (b : Nat) (L : ByteArray) (w : World) (h : OwnJ w base v qs) (hn : qs.length ≤ 900000) (hb : w.heap[b]? = some (.cells #[.string L] 9 (0, 0))) :
    Calls Try.prog 32 #[v, .func (.func 34) #[] #[.pointer (some ⟨b, 0, none⟩)]] w fun e w' => ∃ A m c, e = .returned (.slice A m c) ∧ RdP w' A m ((pvs qs).filter fun p => decide (p.loan = L)) ∧ m ≤ qs.length ∧ Kept (fun k => v.ownBlock = some k) w w' := by
  have hbc : ∀ W : World, W.heap[b]? = some (.cells #[.string L] 9 (0, 0)) → W.cell? ⟨b, 0, none⟩ = some (.string L) := fun W hW => by rw [cell_of_row _ _ _ _ _ _ hW]; rfl
  obtain ⟨A0, c0, hv0, hc0, hr0, _⟩ := h.form
  have HI := Lib.hid (Index_any A0 qs.length c0 b (pvs qs) L w hr0 hn (hbc w hb))
  rw [hv0]
  have HO := Lib.hid h
  have HV := Lib.hid hv0
  have HR0 := Lib.hid hr0
  clear h hv0 hr0
  have HZ0 := Lib.hid zero_post
  go_enter Try.func32, Try.ntmps32
  go_wp2_with fail
  refine HI.out.mono ?_
  rintro e w1 ⟨⟨r, rfl, hF⟩, hb1⟩
  rcases hF with ⟨rfl, hall⟩ | ⟨k, hk, rfl, hbad, hgood⟩
  · go_wp2
    go_ret
    refine ⟨A0, qs.length, c0, rfl, ?_, Nat.le_refl _, keptB hb1 _⟩
    rw [List.filter_eq_self.2 (fun p hp => by simpa using hall p hp)]
    exact HR0.out.below hb1
  · rw [pvs_len] at hk
    have hn0 : 0 < qs.length := by omega
    obtain ⟨g, c, hv, hqc, hrw⟩ := HO.out.rw hn0
    obtain ⟨rfl, rfl⟩ : A0 = some ⟨g, 0, none⟩ ∧ c0 = c := by
      have := HV.out.symm.trans hv
      injection this with h1 h2 h3
      exact ⟨h1, h3⟩
    have hkb : ((k : Int) == -1) = false := by rw [beq_eq_false_iff_ne]; omega
    have hF1 : Hid (qs.take k = (qs.take (k + 1)).filter fun q => decide (q.p.loan = L)) := Lib.hid (first_steps hk (fun i hi hlt => by
      have := hgood i (by rw [pvs_len]; exact hi) hlt
      simpa [pvs] using this) (by simpa [pvs] using hbad))
    have HRW1 := Lib.hid (hrw.below hb1)
    have HK1 : Hid (Kept (fun i => i = g) w w1) := Lib.hid (keptB hb1 _)
    have HKF : Hid (∀ w', Kept (fun i => i = g) w w' → Kept (fun i => (Value.slice (some ⟨g, 0, none⟩) qs.length c0).ownBlock = some i) w w') := Lib.hid fun w' hw' => ⟨hw'.os, hw'.tape, hw'.output, hw'.size, fun i hi hne => hw'.block i hi (fun e => hne (by rw [e]; rfl))⟩
    have hbg : b ≠ g := by
      rintro rfl
      obtain ⟨cur, h1, _⟩ := hrw.row
      rw [hb] at h1
      injection h1 with h1
      injection h1 with _ h1
      exact absurd h1 (by decide)
    have HBG : Hid (∀ W, Kept (fun i => i = g) w W → W.cell? ⟨b, 0, none⟩ = some (.string L)) := Lib.hid fun W hW => hbc W ((hW.block b (heap_lt' hb) hbg).trans hb)
    have HNQ : Hid (∀ i : Nat, i ≤ qs.length → i ≤ 900000) := Lib.hid fun i hi => by omega
    clear hrw hv HV HO HI hb1 hgood hbad hbg hb HR0
    obtain ⟨n, HN⟩ : ∃ n, Hid (qs.length = n) := ⟨_, Lib.hid rfl⟩
    rw [HN.out] at hk hn hqc hc0 ⊢
    go_wp2_with fail
    go_loopw [5, 6] (fun ti tj wr => ∃ (i j : Nat) (rs : List PR), i < j ∧ j ≤ n ∧ ti = .int .i64 (i : Int) ∧ tj = .int .i64 (j : Int) ∧ Hid (rs.length = n) ∧ Hid (rs.take i = (qs.take j).filter fun q => decide (q.p.loan = L)) ∧ Hid (rs.drop j = qs.drop j) ∧ Hid (Rw wr base g rs) ∧ Hid (Kept (fun i => i = g) w wr)) (fun _ tj _ => n - (intOf tj).toNat)
    case atStart => exact ⟨k, k + 1, qs, by omega, by omega, by first | trivial | rfl, by go_num, HN, hF1, Lib.hid rfl, HRW1, HK1⟩
    case round =>
      clear HRW1 HK1 hF1
      obtain ⟨i, j, rs, hij, hjn, rfl, rfl, HL, HT, HD, HR, HK⟩ := hrel
      obtain ⟨wa, rfl⟩ : ∃ x, x = wr := ⟨_, rfl⟩
      by_cases hlt : j < n
      · have hjq : j < qs.length := by rw [HN.out]; exact hlt
        have hjr : j < rs.length := by rw [HL.out]; exact hlt
        have hsame : rs[j] = qs[j] := by
          have h1 := congrArg (fun l => l[0]?) HD.out
          simp only [List.getElem?_drop, Nat.add_zero] at h1
          rw [List.getElem?_eq_getElem hjr, List.getElem?_eq_getElem hjq] at h1
          exact Option.some.inj h1
        have HMEM : Hid (qs[j] ∈ rs) := Lib.hid (hsame ▸ List.getElem_mem hjr)
        have hcj := HR.out.cells j hjr
        rw [hsame] at hcj
        have HKS := Lib.hid (fun hf => keep_step (f := fun q => decide (q.p.loan = L)) hjq (by rw [HL.out, HN.out]) (Nat.le_of_lt hij) HT.out HD.out hf)
        have HSS := Lib.hid (fun hf => skip_step (f := fun q => decide (q.p.loan = L)) hjq HT.out HD.out hf)
        have hol := HR.out.each _ HMEM.out
        generalize qs[j] = q at *
        obtain ⟨Al, ml, cl, el, _⟩ := hol.form
        obtain ⟨S, hS⟩ : ∃ S : Array Value, S = (prow q).toArray := ⟨_, rfl⟩
        have hS2 : Hid (S.toList = prow q) := Lib.hid (by rw [hS])
        have hss4 : S.size = 4 := by rw [hS]; rfl
        have HDEL := Lib.hid (fun W (hW : Kept (fun i => i = g) w W) => del_any q.p.num q.p.day q.p.loan L Al ml cl b W (HBG.out W hW))
        rw [show (Value.agg #[.int .i64 q.p.num, .int .i64 q.p.day, .string q.p.loan, .slice Al ml cl]) = .agg S by rw [hS, ← el]; rfl] at HDEL
        have hone : S.all (·.oneCell') = true := by rw [hS]; simp [prow, Value.oneCell', el]
        have hz4 : ((Try.prog.info? 49).bind (·.zero)).map (·.cells.size) = some S.size := by rw [hss4]; exact post_zsize
        have hi4 : (Try.prog.info? 49).map (·.size) = some S.size := by rw [hss4]; exact post_isize
        have hcj2 : ∀ i u, S.toList[i]? = some u → wa.cell? ⟨g, j * 4 + i, none⟩ = some u := fun i u hu => hcj i u (by rw [← hS2.out]; exact hu)
        clear hcj hol el hS hjr hsame
        go_upto_region 8 with (first
          | (refine load_mid rfl 49 _ rfl g (j * 4) rfl S _ hcj2 Try.underlying49 rfl hi4 ?_)
          | (refine alloc_store rfl rfl 49 _ _ rfl rfl rfl rfl S rfl rfl hz4 hi4 hone ?_))
        obtain ⟨g7, hg7⟩ : ∃ g7, g7 = wa.heap.size := ⟨_, rfl⟩
        rw [← hg7]
        refine wp_at (fun wx => wx.heap[g7]? = some (.cells S 49 (0, 0)) ∧ Below wa.heap.size wa wx) (by rw [hg7]; exact ⟨heap_alloc_new _ _, (Below.refl _ _).alloc (Nat.le_refl _) _⟩) ?_
        rintro wb ⟨hS7, hbb⟩
        have HRb := Lib.hid (HR.out.below hbb)
        have HKb := Lib.hid (kept_belowW HK.out hbb)
        have hgw : g < wa.heap.size := HR.out.row.lt
        rw [← hg7] at hgw
        clear hg7 hbb HR HK hcj2
        have hgn : g7 ≠ g := by
          rintro rfl
          have := hgw
          omega
        by_cases hL : q.p.loan = L
        · rw [show decide (q.p.loan ≠ L) = false from decide_eq_false (fun h => h hL)] at HDEL
          have HKS2 := Lib.hid (HKS.out (decide_eq_true hL))
          clear HKS HSS hL HT HD
          go_upto_region 9 with (first
            | (refine wpList_load_row rfl 49 _ rfl _ rfl _ _ _ _ hS7 Try.underlying49 rfl hi4 ?_)
            | (refine (HDEL.out wb HKb.out).mono ?_; rintro e wc ⟨rfl, hbc⟩))
          have hS8 := (hbc.block g7 (heap_lt' hS7)).trans hS7
          have HRc := HRb.out.below hbc
          have HKc := Lib.hid (kept_belowW HKb.out hbc)
          have hth : wc.there g (i * 4) S.size := HRc.row.there (by rw [hss4, HL.out]; omega)
          have HR2 : Hid (Rw (wc.setCells g (i * 4) S.toList) base g (rs.set i q)) := Lib.hid (by rw [hS2.out]; exact HRc.set i (by rw [HL.out]; omega) q HMEM.out)
          have HK2 := Lib.hid (kept_sets HKc.out (i * 4) S.toList)
          have HL2 : Hid ((rs.set i q).length = n) := Lib.hid (by rw [List.length_set]; exact HL.out)
          have hi9 := HNQ.out i (by rw [HN.out]; omega)
          clear hS7 hbc HRb HKb HDEL HRc HKc
          go_wp2_with (first
            | (refine wpList_load_row rfl 49 _ rfl _ rfl _ _ _ _ hS8 Try.underlying49 rfl hi4 ?_)
            | (refine wpList_store_mid rfl 49 _ _ rfl g (i * 4) S rfl rfl hth hi4 hone ?_))
          go_roundw
          case rel => exact ⟨i + 1, j + 1, rs.set i q, by omega, by omega, by go_num, by go_num, HL2, Lib.hid HKS2.out.1, Lib.hid HKS2.out.2, HR2, HK2⟩
          case measure => (try simp [intOf]) <;> (try omega)
        · rw [show decide (q.p.loan ≠ L) = true from decide_eq_true hL] at HDEL
          have HSS2 := Lib.hid (HSS.out (decide_eq_false hL))
          clear HKS HSS hL HT HD
          go_wp2_with (first
            | (refine wpList_load_row rfl 49 _ rfl _ rfl _ _ _ _ hS7 Try.underlying49 rfl hi4 ?_)
            | (refine (HDEL.out wb HKb.out).mono ?_; rintro e wc ⟨rfl, hbc⟩))
          have HRc := Lib.hid (HRb.out.below hbc)
          have HKc := Lib.hid (kept_belowW HKb.out hbc)
          go_roundw
          case rel => exact ⟨i, j + 1, rs, by omega, by omega, by go_num, by go_num, HL, Lib.hid HSS2.out.1, Lib.hid HSS2.out.2, HRc, HKc⟩
          case measure => (try simp [intOf]) <;> (try omega)
      · obtain rfl : j = n := by omega
        have HP : Hid (pvs (rs.take i) = (pvs qs).filter fun p => decide (p.loan = L)) := Lib.hid (by
          rw [HT.out, List.take_of_length_le (by rw [HN.out]; exact Nat.le_refl _)]
          unfold pvs
          rw [List.filter_map]
          rfl)
        have hth : wa.there g (i * 4) ((j - i) * 4) := HR.out.row.there (by rw [HL.out, Nat.sub_mul]; omega)
        have hic : ¬ c0 = i := by omega
        obtain ⟨vs, hvl, hclr⟩ := run_clear_rows (P := Try.prog) wa 42 49 0 (.agg Z4) 4 Try.underlying42 HZ0.out rfl (by simp [Value.cells, Z4, Value.oneCell']) (by omega) g (i * 4) (j - i) (c0 - i) hth
        have HRD := Lib.hid (HR.out.read i (by rw [HL.out]; omega) vs)
        rw [HP.out] at HRD
        have HK2 := Lib.hid (HKF.out _ (kept_sets HK.out (i * 4) vs))
        have hs1 : ∀ W, (Instr.slice 42 (.slice (some ⟨g, 0, none⟩) j c0) (some (.int .i64 (i : Int))) none none).run Try.prog W = .ok (.slice (some ⟨g, i * 4, none⟩) (j - i) (c0 - i)) W := fun W => by
          rw [run_slice_l W 42 (some ⟨g, 0, none⟩) j c0 elemPostU .i64 _ (by omega) (by omega), elemPost]
          simp [Result.andThen, sliced, hic, add_plain]
        have hs2 : ∀ W, (Instr.slice 42 (.slice (some ⟨g, 0, none⟩) j c0) none (some (.int .i64 (i : Int))) none).run Try.prog W = .ok (.slice (some ⟨g, 0, none⟩) i c0) W := fun W => by
          rw [run_slice_h W 42 (some ⟨g, 0, none⟩) j c0 elemPostU .i64 _ (by omega) (by omega), elemPost]
          simp [Result.andThen, sliced, add_plain]
        clear hth HR HK HT HD HL HP HNQ
        generalize wa.setCells g (i * 4) vs = wz at *
        go_wp2
        go_ret
        exact ⟨some ⟨g, 0, none⟩, i, c0, rfl, HRD.out, by have := HN.out; omega, HK2.out⟩
set_option maxRecDepth 100000 in
set_option maxHeartbeats 2000000 in
theorem Balance_jw (w : World) (g base lo hi : Nat) (ps : List PV) (cl : Int) (L : ByteArray) (h : JW w g base lo hi ps cl) (hbs : base ≤ w.heap.size) :
    Calls Try.prog 20 #[.pointer (some ⟨g, 0, none⟩), .string L] w fun e w' => ∃ v, e = .returned v ∧ OwnL w' w.heap.size v (sumsOf (ps.filter fun p => decide (p.loan = L))) ∧ Below w.heap.size w w' := by
  obtain ⟨v, qs, hJ, hp, _⟩ := h.ex
  have hql : qs.length ≤ 65536 := by rw [← pvs_len, hp]; exact h.len
  have HLL := Lib.hid h.lines
  have HP := Lib.hid hp
  have hg := heap_lt' hJ.cell
  have hb1 : Below w.heap.size w (w.alloc (.cells #[.string L] 9)) := (Below.refl _ _).alloc (Nat.le_refl _) _
  have HO := Lib.hid (hJ.own.below hb1)
  have j0 : w.cell? ⟨g, 0, none⟩ = some v := by rw [cell_of_row _ _ _ _ _ _ hJ.cell]; rfl
  have hne : g ≠ w.heap.size := by omega
  have HS := Lib.hid (heap_alloc_new w (.cells #[.string L] 9))
  have HB1 := Lib.hid hb1
  clear h hp hJ hb1
  go_enter Try.func20, Try.ntmps20
  obtain ⟨Aj, cj, rfl, _⟩ := HO.out.form
  go_wp2_with fail
  refine (CloneP_any base _ qs _ HO.out (by omega) (by have := HB1.out.size; omega)).mono ?_
  rintro e w2 ⟨v2, rfl, ho2, hn2, hb2⟩
  have hS2 := (hb2.block w.heap.size (heap_lt' HS.out)).trans HS.out
  have HDE := Lib.hid (Delete_any base v2 qs w.heap.size L w2 ho2 (by omega) hS2)
  have HB2 := Lib.hid (HB1.out.trans (hb2.mono HB1.out.size))
  have HN2 : Hid (∀ k, v2.ownBlock = some k → w.heap.size ≤ k) := Lib.hid fun k hk => Nat.le_trans HB1.out.size (hn2 k hk)
  clear ho2 hn2 hb2 hS2 j0 HO
  go_wp2_with fail
  refine HDE.out.mono ?_
  rintro e w3 ⟨A3, m3, c3, rfl, hr3, hm3, hk3⟩
  rw [HP.out] at hr3
  have HSU := Lib.hid (Sums_any A3 m3 c3 _ w3 hr3 (by omega) (fun p hp => by have := HLL.out p (List.mem_filter.1 hp).1; omega))
  have HB3 := Lib.hid (kept_below HB2.out hk3 HN2.out)
  clear hr3 hm3 hk3 HDE
  go_wp2_with fail
  refine HSU.out.mono ?_
  rintro e w4 ⟨v4, rfl, hv4, hb4⟩
  go_wp2
  go_ret
  exact ⟨v4, rfl, OwnL.lower hv4 HB3.out.size, HB3.out.trans (hb4.mono HB3.out.size)⟩
end Go.Proofs.Ytpmbbhefcejjlaa
