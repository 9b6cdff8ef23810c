/-
  The reference's Read and Find. No statement is proved here.
-/
import Derived.Deep.RegionHeld3
import Derived.Deep.DeepCutAuto
import Derived.BigQuiet
import Derived.Lib.ConvBytes
import Derived.Test.YthaciglechijkaaBlkE
import Derived.Test.YthaciglechijkaaBlkK
import Derived.Test.YthaciglechijkaaBlkB
namespace Go.Proofs.Ythaciglechijkaa
open Go.RowKit
set_option linter.unusedVariables false

theorem str_to (xs : List UInt8) (j : Nat) (hj : j ≤ xs.length) (W : World) : (Instr.slice 9 (.string ⟨xs.toArray⟩) none (some (.int .u64 (j : Int))) none).run Try.prog W = .ok (.string ⟨(xs.take j).toArray⟩) W := by
  have hs : ByteArray.size ⟨xs.toArray⟩ = xs.length := by simp [ByteArray.size]
  rw [run_slice_string_h W 9 _ Try.underlying9 .u64 _ (by omega) (by rw [hs]; omega)]
  congr 2
  apply ByteArray.ext
  simp [ByteArray.data_extract, hs]
theorem str_cat (a b : List UInt8) : (⟨a.toArray⟩ : ByteArray) ++ ⟨b.toArray⟩ = ⟨(a ++ b).toArray⟩ := by
  apply ByteArray.ext
  simp
/-- New bytes, wherever their row ends. -/
structure NewS (w : World) (base : Nat) (v : Value) (xs : List UInt8) : Prop where
  ex : ∃ A m c, v = .slice A m c ∧ m ≤ c ∧ RdB w A m xs ∧ (∀ a, A = some a → ∃ g cs fr, a = ⟨g, 0, none⟩ ∧ base ≤ g ∧ w.heap[g]? = some (.cells cs 5 fr))
theorem NewS.same {w w' : World} {base : Nat} {v : Value} {xs : List UInt8} (h : NewS w base v xs) (hs : ∀ g cs fr, base ≤ g → w.heap[g]? = some (.cells cs 5 fr) → w'.heap[g]? = w.heap[g]?) : NewS w' base v xs := by
  obtain ⟨A, m, c, rfl, h1, h2, h3⟩ := h.ex
  refine ⟨A, m, c, rfl, h1, ⟨h2.1, fun hn => ?_⟩, fun a ha => ?_⟩
  · obtain ⟨b, off, e, hc⟩ := h2.2 hn
    obtain ⟨g, cs, fr, e2, h4, h5⟩ := h3 _ e
    injection e2 with e3 e4
    subst e3
    exact ⟨b, off, e, fun j u hu => (World.cell?_of_block (w := w) (hs b cs fr h4 h5)).trans (hc j u hu)⟩
  · obtain ⟨g, cs, fr, e2, h4, h5⟩ := h3 a ha
    exact ⟨g, cs, fr, e2, h4, (hs g cs fr h4 h5).trans h5⟩
theorem NewS.below {w w' : World} {base : Nat} {v : Value} {xs : List UInt8} (h : NewS w base v xs) (hb : Below w.heap.size w w') : NewS w' base v xs := h.same fun g _ _ _ hg => hb.block g (heap_lt' hg)
theorem OwnB.newS {w : World} {base : Nat} {v : Value} {xs : List UInt8} (h : OwnB w base v xs) : NewS w base v xs := by
  obtain ⟨A, m, c, rfl, _, h1, h2, h3, h4⟩ := h.form
  refine ⟨A, m, c, rfl, h1, h3, fun a ha => ?_⟩
  obtain ⟨g, e, h5, h6⟩ := h4 a ha
  obtain ⟨cs, h7⟩ := h.ofType (g := g) (by rw [ha, e]; rfl)
  exact ⟨g, cs, _, e, h5, h7⟩
theorem NewS.grown {w w' : World} {base base' sz n : Nat} {v u : Value} {vs : List Value} {xs : List UInt8} (h : NewS w base' u xs) (hr : w.ownsRow base 42 sz v n vs) (hg : w.grownBy w' v.ownBlock) : NewS w' base' u xs := by
  refine h.same fun g cs fr _ hh => hg.block g (heap_lt' hh) ?_
  intro e
  obtain ⟨cs', h2⟩ := row_ofType hr e.symm
  rw [hh] at h2
  injection h2 with h3
  injection h3 with _ h4
  exact absurd h4 (by decide)
/-- Pairs in a row of the call's own, the bytes in new memory. -/
structure OwnR (w : World) (base : Nat) (v : Value) (rs : List PairR) : Prop where
  row : w.ownsRow base 42 2 v rs.length (cellsQ rs)
  each : ∀ r ∈ rs, NewS w base r.kv r.p.key ∧ NewS w base r.vv r.p.val
theorem OwnR.nil (w : World) (base : Nat) : OwnR w base (.slice none 0 0) [] := ⟨World.ownsRow_nil w base _ 2, by simp⟩
theorem OwnR.below {w w' : World} {base : Nat} {v : Value} {rs : List PairR} (h : OwnR w base v rs) (hb : Below w.heap.size w w') : OwnR w' base v rs :=
  ⟨ownsRow_same h.row fun g cs fr _ hg => hb.block g (heap_lt' hg), fun r hr => ⟨(h.each r hr).1.below hb, (h.each r hr).2.below hb⟩⟩
theorem OwnR.form {w : World} {base : Nat} {v : Value} {rs : List PairR} (h : OwnR w base v rs) : ∃ A c, v = .slice A rs.length c ∧ rs.length ≤ c ∧ RdQ w A rs.length (psOf rs) := by
  rcases h.row.2 with ⟨rfl, hn⟩ | ⟨g, cap, cur, rfl, hg, hh, hc, hm, r⟩
  · obtain rfl := List.eq_nil_of_length_eq_zero hn
    exact ⟨none, 0, rfl, Nat.le_refl _, ⟨rfl, fun h => by simp at h⟩⟩
  · refine ⟨_, cap, rfl, hc, ⟨psOf_len rs, fun hn => ⟨g, 0, rfl, fun j hj => ?_⟩⟩⟩
    rw [psOf_len] at hj
    have hrd : Rd w 2 (some ⟨g, 0, none⟩) rs.length (cellsQ rs) := Rd.of_own (c := cap) h.row
    obtain ⟨b, off, e, hcl⟩ := hrd.2 (by rw [cellsQ_len]; omega)
    injection e with e
    injection e with e1 e2
    subst e1 e2
    obtain ⟨c0, c1⟩ := cellsQ_at rs j hj
    obtain ⟨ho1, ho2⟩ := h.each rs[j] (List.getElem_mem hj)
    obtain ⟨Ak, mk, ck, ek, hk, hrk, _⟩ := ho1.ex
    obtain ⟨Av, mv, cv, ev, hv, hrv, _⟩ := ho2.ex
    have e1 := hcl _ _ c0
    have e2 := hcl _ _ c1
    rw [ek] at e1
    rw [ev] at e2
    have ep : (psOf rs)[j]'(by rw [psOf_len]; exact hj) = rs[j].p := by simp [psOf]
    refine ⟨Ak, mk, ck, Av, mv, cv, e1, ?_, by rw [ep]; exact hrk, by rw [ep]; exact hrv, hk, hv⟩
    rw [← e2, Nat.add_assoc]
theorem one_newS {w : World} {base : Nat} {v : Value} {xs : List UInt8} (h : NewS w base v xs) : v.oneCell' = true := by
  obtain ⟨A, m, c, rfl, _⟩ := h.ex
  rfl
theorem app_r {ops : Array Oper} {rest : List Oper} {o : Oper} {a : Act} {Q : Exit → Act → World → Prop} {w : World} (hgd : o.guard = none) (s x : Operand)
    (ho : o.op = .call { callee := .builtin .append, args := #[s, x], argTypes := #[22, 22] })
    (base : Nat) (v : Value) (rs : List PairR) (hs : a.eval s = v) (hown : OwnR w base v rs) (r : PairR) (hk : NewS w base r.kv r.p.key) (hv : NewS w base r.vv r.p.val)
    (hx : a.eval x = .slice (some ⟨w.heap.size, 0, none⟩) 1 1) (hlen : rs.length ≤ 2000000) (hbase : base ≤ w.heap.size)
    (h : ∀ v' w', OwnR w' base v' (rs ++ [r]) → Below base w w' → (∀ (g : Nat) (cs : Array Value) (t : TypeId) (fr : Nat × Nat), w.heap[g]? = some (Obj.cells cs t fr) → t ≠ 42 → w'.heap[g]? = some (Obj.cells cs t fr)) → wpList Try.prog ops Q rest (a.put o.dst v') w') : wpList Try.prog ops Q (o :: rest) a (w.alloc (.cells #[r.kv, r.vv] 42)) := by
  obtain ⟨i0, hi, hz0, hz1, hz2⟩ := info_parts infoPair
  have hba : Below w.heap.size w (w.alloc (.cells #[r.kv, r.vv] 42)) := (Below.refl _ _).alloc (Nat.le_refl _) _
  have hrow := (hown.below hba).row
  refine wpList_append_rd _ hgd s x 22 ho base 42 i0 (.agg #[.slice none 0 0, .slice none 0 0]) 2 48 Try.underlying22 hi hz0 hz1 hz2 rfl (by decide) v rs.length (cellsQ rs) hs hrow _ 1 1 [r.kv, r.vv] hx (lit_q w r) (by
    intro u hu
    simp only [List.mem_cons, List.not_mem_nil, or_false] at hu
    rcases hu with rfl | rfl
    · exact one_newS hk
    · exact one_newS hv) (by unfold maxLen; omega) (by omega) (by simp; omega) fun v' w' hown' hg hb => ?_
  refine h v' w' ⟨?_, fun q hq => ?_⟩ (((Below.refl base w).alloc hbase _).grown hg (by simp; omega) fun k hk => (hown.row.lt k hk).1) fun g cs t fr hh hne => ?_
  · rw [List.length_append, cellsQ_snoc]; exact hown'
  · rcases List.mem_append.1 hq with h1 | h1
    · exact ⟨((hown.each q h1).1.below hba).grown hrow hg, ((hown.each q h1).2.below hba).grown hrow hg⟩
    · obtain rfl : q = r := by simpa using h1
      exact ⟨(hk.below hba).grown hrow hg, (hv.below hba).grown hrow hg⟩
  · have h1 := (hba.block g (heap_lt' hh)).trans hh
    refine (hg.block g (heap_lt' h1) fun e => ?_).trans h1
    obtain ⟨cs', h2⟩ := row_ofType hrow e.symm
    rw [h1] at h2
    injection h2 with h3
    injection h3 with _ h4
    exact hne h4
/-- A string as bytes: a new row, the bytes ahead of its spare room. -/
theorem conv_new (W : World) (K : List UInt8) : ∃ cap W', K.length ≤ cap ∧ (convert 9 24 (.string ⟨K.toArray⟩)).run Try.prog W = .ok (.slice (some ⟨W.heap.size, 0, none⟩) K.length cap) W' ∧ (∀ B, B ≤ W.heap.size → NewS W' B (.slice (some ⟨W.heap.size, 0, none⟩) K.length cap) K) ∧ Below W.heap.size W W' := by
  have hs : ByteArray.size ⟨K.toArray⟩ = K.length := by simp [ByteArray.size]
  have hrun := Lib.run_convert_string_bytes (P := Try.prog) W 9 24 5 ⟨K.toArray⟩ Try.underlying9 Try.underlying24 Try.underlying5
  have hb : Below W.heap.size W (Lib.bytesWorld W 5 ⟨K.toArray⟩) := ⟨rfl, rfl, rfl, by rw [Lib.bytesWorld_size]; omega, fun k hk => Lib.bytesWorld_at_old W _ _ k hk⟩
  rw [hs] at hrun
  refine ⟨_, _, grownCap_ge W K.length 0 5, hrun, fun B hB => ⟨_, _, _, rfl, grownCap_ge W K.length 0 5, ?_, ?_⟩, hb⟩
  · refine RdB.mk rfl fun j hj => ?_
    rw [Nat.zero_add, Lib.bytesWorld_cell W 5 ⟨K.toArray⟩ j (by rw [hs]; exact hj)]
    simp [List.getD, hj]
  · intro a ha
    injection ha with ha
    subst ha
    exact ⟨_, _, _, rfl, hB, Lib.bytesWorld_at_new W 5 ⟨K.toArray⟩⟩
theorem read_bad {xs : List UInt8} {ps : List PairV} {e : Int} (h : readAll xs = (ps, e)) (he : e ≠ 0) : readOf xs = ([], e) := by unfold readOf; rw [h, if_neg he]
def RReadEnds (w : World) (r : List PairV × Int) (e : Ending) (w' : World) : Prop :=
  ∃ v rs, e = .returned (.tuple #[v, .int .i64 r.2]) ∧ psOf rs = r.1 ∧ OwnR w' w.heap.size v rs ∧ Below w.heap.size w w'
theorem RReadEnds.bad {w w' : World} {e : Int} (h : Below w.heap.size w w') : RReadEnds w ([], e) (.returned (.tuple #[.slice none 0 0, .int .i64 e])) w' := ⟨_, [], rfl, rfl, OwnR.nil _ _, h⟩
set_option maxRecDepth 100000 in
set_option maxHeartbeats 8000000 in
theorem rRead_any (A : Option Addr) (n c : Nat) (w : World) (xs : List UInt8) (h : RdB w A n xs) (hm : n ≤ 140737488351232) (hc : n ≤ c) :
    Calls Try.prog 17 #[.slice A n c] w (RReadEnds w (readOf xs)) := by
  have HR := Lib.hid (fun p W hW => refUint_any A n c p W xs hW hc (by omega))
  have HL : Hid (xs.length = n) := Lib.hid h.len
  have HX := Lib.hid h
  clear h
  have HRD := Lib.hid (fun ps e h he => read_bad (xs := xs) (ps := ps) (e := e) h he)
  have HRG : Hid (∀ ps, readAll xs = (ps, 0) → readOf xs = (ps, 0)) := Lib.hid fun ps h => by unfold readOf; rw [h]; rfl
  generalize readOf xs = RR at *
  go_enter Try.func17, Try.ntmps17
  go_wp2
  go_loopw [4, 5, 6] (fun out ah at_ wr => ∃ (rs : List PairR) (k : Nat), ah = .string ⟨(lastK (psOf rs)).toArray⟩ ∧ at_ = .int .i64 k ∧ k ≤ n ∧ rs.length ≤ 4096 ∧ Hid (StandsB xs (psOf rs) k) ∧ Hid ((lastK (psOf rs)).length ≤ 200) ∧ Hid (OwnR wr w.heap.size out rs) ∧ Hid (Below w.heap.size w wr)) (fun _ _ at_ _ => n - (intOf at_).toNat)
  case atStart => exact ⟨[], 0, rfl, rfl, Nat.zero_le _, Nat.zero_le _, Lib.hid (StandsB.start xs), Lib.hid (by simp [lastK, psOf]), Lib.hid (OwnR.nil _ _), Lib.hid (Below.refl _ _)⟩
  case round =>
    obtain ⟨rs, k, rfl, rfl, hk, hrl, HST, HLX, HO, HB⟩ := hrel
    obtain ⟨wo, rfl⟩ : ∃ x, x = wr := ⟨_, rfl⟩
    obtain ⟨Av0, cv0, rfl, _⟩ := HO.out.form
    by_cases hlt : k < n
    · go_wp2
      have HG0 := Lib.hid (show (wo.alloc (.cells (arrU xs k 0) 58)).heap[wo.heap.size]? = some (.cells (arrU xs k 0) 58 (0, 0)) from heap_alloc_new wo _)
      have HM0 := Lib.hid ((Below.refl wo.heap.size wo).alloc (Nat.le_refl _) (.cells (arrU xs k 0) 58))
      change Code.wp _ _ _ _ (wo.alloc (.cells (arrU xs k 0) 58))
      generalize wo.alloc (.cells (arrU xs k 0) 58) = wz at *
      generalize hgs : wo.heap.size = g at *
      go_loopw [6, 8] (fun at_ t wr2 => ∃ j : Nat, j ≤ 3 ∧ t = .int .i64 j ∧ at_ = .int .i64 (posU xs k j) ∧ Hid (∀ i, i < j → errU xs k i = 0) ∧ Hid (wr2.heap[g]? = some (.cells (arrU xs k j) 58 (0, 0))) ∧ Hid (Below g wo wr2)) (fun _ t _ => 3 - (intOf t).toNat)
      case atStart => exact ⟨0, by omega, rfl, rfl, Lib.hid (fun i hi => by omega), HG0, HM0⟩
      case round =>
        obtain ⟨j, hj, rfl, rfl, HE, HG, HM⟩ := hrel
        obtain ⟨wj, rfl⟩ : ∃ x, x = wr := ⟨_, rfl⟩
        have HBW := Lib.hid (HB.out.trans (HM.out.mono (by rw [← hgs]; exact HB.out.size)))
        have HXJ := Lib.hid (HX.out.below HBW.out)
        by_cases hj3 : j < 3
        · obtain ⟨g0, gf⟩ := arr_cell (i := j) hj3 HG.out
          rw [if_neg (Nat.lt_irrefl j)] at g0
          have CU' : Hid (Calls Try.prog 30 #[.slice A n c, .int .i64 (posU xs k j)] wj fun e w' => e = .returned (.tuple #[.int .u64 (valU xs k j : Nat), .int .i64 (posU xs k (j + 1)), .int .i64 (errU xs k j)]) ∧ wj = w') := Lib.hid (HR.out (posU xs k j) wj HXJ.out)
          have HG2 := Lib.hid (arr_set hj3 HG.out)
          have HED := Lib.hid (fun a => ent_err (xs := xs) (a := a) (k := k) hj3 HE.out)
          have HE2 : Hid (errU xs k j = 0 → ∀ i, i < j + 1 → errU xs k i = 0) := Lib.hid fun h i hi => by
            rcases Nat.lt_or_ge i j with h1 | h1
            · exact HE.out i h1
            · obtain rfl : i = j := by omega
              exact h
          clear HE
          generalize valU xs k j = v at *
          generalize hnx : posU xs k (j + 1) = nx at *
          generalize errU xs k j = er at *
          have HM2 := Lib.hid (HM.out.setCell (p := ⟨g, j, none⟩) (Nat.le_refl _) (.int .u64 (v : Int)))
          go_wp2_with fail
          refine CU'.out.mono ?_
          rintro e w' ⟨rfl, rfl⟩
          by_cases he : er = 0
          · have HE3 := Lib.hid (HE2.out he)
            subst he
            clear HE2 HED CU'
            go_wp2
            go_roundw
            case rel => exact ⟨j + 1, by omega, by go_num, by rw [hnx], HE3, HG2, HM2⟩
            case measure => (try simp [intOf]) <;> (try omega)
          · have hfin := HRD.out _ _ (HST.out.bad (by rw [HL.out]; exact hlt) (by rw [HED.out _ he]; exact he)) (by rw [HED.out _ he]; exact he)
            rw [HED.out _ he] at hfin
            have HF := Lib.hid hfin
            clear hfin HE2 HED CU'
            go_wp2
            go_ret2
            rw [HF.out]
            exact RReadEnds.bad HBW.out
        · obtain rfl : j = 3 := by omega
          obtain ⟨q, hq, hq1, hq2, hb0, hb1, hb2⟩ := pos_nat HE.out
          have HEN := Lib.hid (show entRd xs (lastK (psOf rs)) k = _ from ent_go HE.out)
          obtain ⟨g0, _⟩ := arr_cell (i := 0) (by omega) HG.out
          obtain ⟨g1, _⟩ := arr_cell (i := 1) (by omega) HG.out
          obtain ⟨g2, _⟩ := arr_cell (i := 2) (by omega) HG.out
          rw [if_pos (by omega)] at g0 g1 g2
          rw [hq] at HEN ⊢
          have HEN2 := HEN
          rw [Int.toNat_natCast] at HEN2
          clear HE HEN hq
          generalize valU xs k 0 = v0 at *
          generalize valU xs k 1 = v1 at *
          generalize hv2 : valU xs k 2 = v2 at *
          have HV2 := Lib.hid hv2
          clear hv2
          rw [HL.out] at hq2
          have BAD : Hid (∀ e : Int, (entRd xs (lastK (psOf rs)) k).1 = e → e ≠ 0 → RR = ([], e)) := Lib.hid fun e he h0 => by
            have := HST.out.bad (by rw [HL.out]; exact hlt) (by rw [he]; exact h0)
            rw [he] at this
            exact HRD.out _ _ this h0
          rw [HEN2.out] at BAD
          generalize hX : lastK (psOf rs) = X at *
          have hxs : ByteArray.size ⟨X.toArray⟩ = X.length := by simp [ByteArray.size]
          have hx200 := HLX.out
          have HOJ := Lib.hid (HO.out.below (hgs ▸ HM.out))
          by_cases c0 : X.length < v0
          · have HF := Lib.hid (BAD.out 11 (by unfold entKey; rw [if_pos c0]) (by omega))
            clear BAD
            go_wp2
            go_ret2
            rw [HF.out]
            exact RReadEnds.bad HBW.out
          · by_cases c1 : 200 < v1 ∨ 200 < v0 + v1 ∨ 4096 < v2
            · have HF := Lib.hid (BAD.out 3 (by unfold entKey; rw [if_neg c0, if_pos c1]) (by omega))
              clear BAD
              by_cases d1 : 200 < v1
              · go_wp2
                go_ret2
                rw [HF.out]
                exact RReadEnds.bad HBW.out
              · by_cases d2 : 200 < v0 + v1
                · go_wp2
                  go_ret2
                  rw [HF.out]
                  exact RReadEnds.bad HBW.out
                · have d3 : 4096 < v2 := by omega
                  go_wp2
                  go_ret2
                  rw [HF.out]
                  exact RReadEnds.bad HBW.out
            · have e1 : ¬ 200 < v1 := by omega
              have e2 : ¬ 200 < v0 + v1 := by omega
              have e3 : ¬ 4096 < v2 := by omega
              by_cases c2 : n - q < v1 + v2
              · have HF := Lib.hid (BAD.out 10 (by unfold entKey; rw [if_neg c0, if_neg c1, if_pos (by rw [HL.out]; exact c2)]) (by omega))
                have hsub : ((n : Int) - (q : Int)) = ((n - q : Nat) : Int) := by omega
                clear BAD c1
                go_wp2
                go_ret2
                rw [HF.out]
                exact RReadEnds.bad HBW.out
              · have hsub : ((n : Int) - (q : Int)) = ((n - q : Nat) : Int) := by omega
                have hss := str_to X v0 (by omega)
                obtain ⟨A2, s2, r2⟩ := cut_lh HXJ.out c hc q (q + v1) (by omega) (by omega) (q : Int) ((q : Int) + (v1 : Int)) rfl (by omega)
                rw [Nat.add_sub_cancel_left] at s2 r2
                have k2 := fun m => (r2.drewN m).conv (P := Try.prog) (src := 24) (dst := 9) Try.underlying24 Try.underlying5 Try.underlying9 (c - q)
                have hcat := str_cat (X.take v0) ((xs.drop q).take v1)
                have HKL : Hid ((X.take v0 ++ (xs.drop q).take v1).length = v0 + v1) := Lib.hid (by
                  rw [List.length_append, r2.len, List.length_take]; omega)
                have HVR := Lib.hid (show entKey xs X v0 v1 v2 q = if lessL X (X.take v0 ++ (xs.drop q).take v1) ≠ -1 ∨ com X (X.take v0 ++ (xs.drop q).take v1) ≠ v0 then (11, ⟨[], []⟩, 0) else (0, ⟨X.take v0 ++ (xs.drop q).take v1, (xs.drop (q + v1)).take v2⟩, q + v1 + v2) by
                  unfold entKey
                  rw [if_neg c0, if_neg c1, if_neg (by rw [HL.out]; exact c2)])
                generalize X.take v0 ++ (xs.drop q).take v1 = K at *
                have hw1 : IntKind.i64.wrap (v1 : Int) = (v1 : Int) := by rw [IntKind.wrap_i64]; omega
                have hw2 : IntKind.i64.wrap ((q : Int) + (v1 : Int)) = (q : Int) + (v1 : Int) := by rw [IntKind.wrap_i64]; omega
                clear r2
                go_upto_region 20 with (fail)
                go_quiet (fail)
                have HBQ := Lib.hid (below_drewN HBW.out nq)
                have HXQ := Lib.hid (HXJ.out.drewN nq)
                have HGQ : Hid ((wj.drewN nq).heap[g]? = some (.cells (arrU xs k 3) 58 (0, 0))) := HG
                have HOQ := Lib.hid (HOJ.out.below (below_drewN (Below.refl wj.heap.size wj) nq))
                have g0q : (wj.drewN nq).cell? ⟨g, 0, none⟩ = some (.int .u64 (v0 : Int)) := g0
                have g1q : (wj.drewN nq).cell? ⟨g, 1, none⟩ = some (.int .u64 (v1 : Int)) := g1
                have g2q : (wj.drewN nq).cell? ⟨g, 2, none⟩ = some (.int .u64 (v2 : Int)) := g2
                clear g0 g1 g2 HBW HXJ HG HOJ k2 hcat s2 hss
                generalize wj.drewN nq = wq at *
                go_upto_region 22 with (fail)
                have hKn := HKL.out
                have LS := Lib.hid (fun W => Less_q ⟨X.toArray⟩ ⟨K.toArray⟩ W (by simp [ByteArray.size]; omega) (by simp [ByteArray.size]; omega))
                have SS := Lib.hid (fun W => refShared_any ⟨X.toArray⟩ ⟨K.toArray⟩ W (by simp [ByteArray.size]; omega) (by simp [ByteArray.size]; omega))
                have hcl := (com_le X K).1
                have hw0 : IntKind.i64.wrap (v0 : Int) = (v0 : Int) := by rw [IntKind.wrap_i64]; omega
                have HXN : Hid (rs.length = 0 → X = []) := Lib.hid fun h => by
                  rw [← hX, List.eq_nil_of_length_eq_zero h]
                  rfl
                have HLV := Lib.hid (lessL_vals X K)
                go_cut [108] (fun t wx => t = .bool (decide (lessL X K ≠ -1 ∨ com X K ≠ v0)) ∧ Dr wq wx)
                case first =>
                  by_cases hK : K = []
                  · have hbad := Lib.hid (show decide (lessL X K ≠ -1 ∨ com X K ≠ v0) = true from decide_eq_true (.inl (by rw [hK]; have := lessL_nil X; omega)))
                    subst hK
                    clear LS SS
                    go_quiet (fail)
                    go_wp2
                    go_meet
                    exact ⟨by rw [hbad.out], _, rfl⟩
                  · have hKe : (K == []) = false := by rw [beq_eq_false_iff_ne]; exact hK
                    have hKd : decide (K = []) = false := decide_eq_false hK
                    have hd0 := Lib.hid (show (((com X K : Nat) : Int) == (v0 : Int)) = decide (com X K = v0) by
                      rw [Bool.eq_iff_iff, beq_iff_eq, decide_eq_true_eq]
                      omega)
                    by_cases hr0 : 0 < rs.length
                    · have hr1 : 0 < rs.length := hr0
                      by_cases hless : lessL X K = -1
                      · have hgd := Lib.hid (show decide (lessL X K ≠ -1 ∨ com X K ≠ v0) = !(decide (com X K = v0)) by simp [hless])
                        simp only [List.toList_toArray, hless] at LS
                        generalize com X K = cm at *
                        go_quiet (first | (go_at_call 24; refine Calls.quiet_of (LS.out _)) | (go_at_call 25; refine Calls.quiet_of (SS.out _)))
                        go_wp2
                        go_meet
                        exact ⟨by rw [hgd.out, ← hd0.out]; rfl, _, rfl⟩
                      · have hbad := Lib.hid (show decide (lessL X K ≠ -1 ∨ com X K ≠ v0) = true from decide_eq_true (.inl hless))
                        have h0 : 0 ≤ lessL X K := by rcases HLV.out with h | h | h <;> omega
                        clear hless SS HLV
                        generalize hLC : lessL X K = C at *
                        go_quiet (first | (go_at_call 24; refine Calls.quiet_of (LS.out _)))
                        go_wp2
                        go_meet
                        exact ⟨by rw [hbad.out], _, rfl⟩
                    · obtain rfl := HXN.out (by omega)
                      have hless : lessL [] K = -1 := by
                        cases K with
                        | nil => exact absurd rfl hK
                        | cons a l => rfl
                      have hgd := Lib.hid (show decide (lessL [] K ≠ -1 ∨ com [] K ≠ v0) = !(decide (com [] K = v0)) by simp [hless])
                      generalize com [] K = cm at *
                      go_quiet (first | (go_at_call 25; refine Calls.quiet_of (SS.out _)))
                      go_wp2
                      go_meet
                      exact ⟨by rw [hgd.out, ← hd0.out]; rfl, _, rfl⟩
                case rest =>
                  obtain ⟨rfl, hdr⟩ := hcut
                  obtain ⟨wx, rfl, _⟩ : ∃ x, x = _ ∧ Dr wq x := ⟨_, rfl, hdr⟩
                  have HBX := Lib.hid (HBQ.out.trans (hdr.below.mono HBQ.out.size))
                  have HXX := Lib.hid (HXQ.out.below hdr.below)
                  have HGX := Lib.hid ((hdr.below.block g (heap_lt' HGQ.out)).trans HGQ.out)
                  have HOX := Lib.hid (HOQ.out.below hdr.below)
                  clear hdr HBQ HXQ HGQ HOQ g0q g1q g2q LS SS
                  by_cases hbad : lessL X K ≠ -1 ∨ com X K ≠ v0
                  · have HF := Lib.hid (BAD.out 11 (by rw [HVR.out, if_pos hbad]) (by omega))
                    have hd : decide (lessL X K ≠ -1 ∨ com X K ≠ v0) = true := decide_eq_true hbad
                    generalize decide (lessL X K ≠ -1 ∨ com X K ≠ v0) = tb at *
                    subst hd
                    clear BAD HVR hbad
                    go_wp2
                    go_ret2
                    rw [HF.out]
                    exact RReadEnds.bad HBX.out
                  · have hd : decide (lessL X K ≠ -1 ∨ com X K ≠ v0) = false := decide_eq_false hbad
                    have HEK : Hid (entRd xs X k = (0, ⟨K, (xs.drop (q + v1)).take v2⟩, q + v1 + v2)) := Lib.hid (by rw [HEN2.out, HVR.out, if_neg hbad])
                    generalize decide (lessL X K ≠ -1 ∨ com X K ≠ v0) = tb at *
                    subst hd
                    clear BAD HVR hbad HEN2
                    subst hX
                    by_cases hm4 : rs.length = 4096
                    · have HF := Lib.hid (HRD.out _ _ (HST.out.many (by rw [HL.out]; exact hlt) (by rw [HEK.out]) (by rw [psOf_len]; exact hm4)) (by omega))
                      clear HEK
                      go_wp2
                      go_ret2
                      rw [HF.out]
                      exact RReadEnds.bad HBX.out
                    · have HS2 := HST.out.step (by rw [HL.out]; exact hlt) (by rw [HEK.out]) (by rw [psOf_len]; exact hm4)
                      rw [HEK.out] at HS2
                      have HS3 := Lib.hid HS2
                      clear HS2 HEK HST
                      obtain ⟨cap, wk, hcap, hcv, hnew, hbk⟩ := conv_new wx K
                      have hKn2 := HKL.out
                      have HNK := Lib.hid (hnew w.heap.size HBX.out.size)
                      clear hnew
                      have hbk' : Below w.heap.size w wk := HBX.out.trans (hbk.mono HBX.out.size)
                      have hxk := (HXX.out.below hbk).alloc e0
                      obtain ⟨A3, s3, r3⟩ := cut_lh hxk c hc (q + v1) (q + v1 + v2) (by omega) (by omega) ((q : Int) + (v1 : Int)) ((q : Int) + (v1 : Int) + (v2 : Int)) (by omega) (by omega)
                      rw [Nat.add_sub_cancel_left] at s3 r3
                      obtain ⟨g2, _⟩ := arr_cell (i := 2) (by omega) ((((Below.refl _ _).alloc (Nat.le_refl _) e0).block g (heap_lt' ((hbk.block g (heap_lt' HGX.out)).trans HGX.out))).trans ((hbk.block g (heap_lt' HGX.out)).trans HGX.out))
                      rw [if_pos (by omega), HV2.out] at g2
                      have hw3 : IntKind.i64.wrap (v2 : Int) = (v2 : Int) := by rw [IntKind.wrap_i64]; omega
                      have hw4 : IntKind.i64.wrap ((q : Int) + (v1 : Int) + (v2 : Int)) = (q : Int) + (v1 : Int) + (v2 : Int) := by rw [IntKind.wrap_i64]; omega
                      have HGK := Lib.hid ((hbk.block g (heap_lt' HGX.out)).trans HGX.out)
                      have HOK := Lib.hid (HOX.out.below hbk)
                      have HBK := Lib.hid hbk'
                      have hrl' : rs.length ≤ 4096 := hrl
                      clear hxk hbk' hbk HXX HXN HLV hcl hKn hKn2
                      generalize (xs.drop (q + v1)).take v2 = V at *
                      go_wp2_with (at_builtin; refine app_u8 rfl _ _ rfl wk.heap.size _ [] rfl (OwnB.empty wk (Nat.le_refl _)) A3 v2 (c - (q + v1)) V rfl r3 ?c1 ?c2 ?_)
                      case c1 => omega
                      rintro v6 w6 hv6 hb6 -
                      have HB6 : Hid (Below wk.heap.size wk w6) := Lib.hid (((Below.refl _ _).alloc (Nat.le_refl _) _).trans hb6)
                      have HBW6 := Lib.hid (HBK.out.trans (HB6.out.mono HBK.out.size))
                      have HV6 := Lib.hid ((OwnB.mono hv6 HBK.out.size).newS)
                      obtain ⟨A6, m6, c6, rfl, _⟩ := hv6.form
                      have HNK6 := Lib.hid (HNK.out.below HB6.out)
                      have HOK6 := Lib.hid (HOK.out.below HB6.out)
                      have HG6 := Lib.hid ((HB6.out.block g (heap_lt' HGK.out)).trans HGK.out)
                      clear hv6 hb6 g2 HNK HOK HGK r3
                      go_wp2_with (at_builtin; go_loud (refine app_r (w := w6) rfl _ _ rfl w.heap.size (.slice Av0 rs.length cv0) rs rfl HOK6.out ⟨.slice (some ⟨wx.heap.size, 0, none⟩) K.length cap, .slice A6 m6 c6, ⟨K, V⟩⟩ HNK6.out HV6.out rfl (by omega) HBW6.out.size ?_))
                      rintro v7 w7 hv7 hb7 hs7
                      have HO7 := Lib.hid hv7
                      have HB7 := Lib.hid (HBW6.out.trans hb7)
                      have HG7 := hs7 g _ _ _ _ HG6.out (by decide)
                      obtain ⟨g2, _⟩ := arr_cell (i := 2) (by omega) HG7
                      rw [if_pos (by omega), HV2.out] at g2
                      clear hv7 hb7 hs7 HG7
                      go_wp2
                      go_roundw
                      case rel =>
                        exact ⟨rs ++ [⟨_, _, ⟨K, V⟩⟩], q + v1 + v2, by rw [psOf_snoc, lastK_snoc], by go_num, by omega, by simp; omega, Lib.hid (by rw [psOf_snoc]; exact HS3.out), Lib.hid (by rw [psOf_snoc, lastK_snoc]; show K.length ≤ 200; rw [HKL.out]; omega), HO7, HB7⟩
                      case measure => (try simp [intOf]) <;> (try omega)
    · obtain rfl : k = n := by omega
      have HF := Lib.hid (HRG.out _ (HST.out.done HL.out.symm))
      go_wp2
      go_ret2
      rw [HF.out]
      exact ⟨_, rs, rfl, rfl, HO.out, HB.out⟩
end Go.Proofs.Ythaciglechijkaa
