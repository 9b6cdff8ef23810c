/-
  The walks of Close, Postings, Trial at any journal, and of do. No statement is proved here.
-/
import Derived.StillTailTactics
import Derived.Test.YtpmbbhefcejjlaaLedR
namespace Go.Proofs.Ytpmbbhefcejjlaa
open Go.RowKit
set_option linter.unusedVariables false

/-- Calls of a journal in a row. -/
structure RdAc (w : World) (A : Option Addr) (n : Nat) (acs : List Ac) : Prop where
  len : acs.length = n
  ex : 0 < n → ∃ b off, A = some ⟨b, off, none⟩ ∧ ∀ j (hj : j < acs.length), ∀ i u, (acCells acs[j])[i]? = some u → w.cell? ⟨b, off + j * 28 + i, none⟩ = some u
theorem RdAc.below {w w' : World} {A : Option Addr} {n : Nat} {acs : List Ac} (h : RdAc w A n acs) (hb : Below w.heap.size w w') : RdAc w' A n acs := by
  refine ⟨h.len, fun hn => ?_⟩
  obtain ⟨b, off, e, hc⟩ := h.ex hn
  exact ⟨b, off, e, fun j hj i u hu => (hb.cell (p := ⟨b, off + j * 28 + i, none⟩) (World.block_lt_of_cell? w _ (hc j hj i u hu))).trans (hc j hj i u hu)⟩
/-- What stays: the blocks below base, and those from lo to hi. -/
structure Win (base lo hi : Nat) (w w' : World) : Prop where
  os : w'.os = w.os
  tape : w'.tape = w.tape
  output : w'.output = w.output
  size : w.heap.size ≤ w'.heap.size
  block : ∀ k, (k < base ∨ (lo ≤ k ∧ k < hi)) → k < w.heap.size → w'.heap[k]? = w.heap[k]?
theorem Win.refl (base lo hi : Nat) (w : World) : Win base lo hi w w := ⟨rfl, rfl, rfl, Nat.le_refl _, fun _ _ _ => rfl⟩
theorem Win.trans {base lo hi : Nat} {a b c : World} (h : Win base lo hi a b) (k : Win base lo hi b c) : Win base lo hi a c :=
  ⟨k.os.trans h.os, k.tape.trans h.tape, k.output.trans h.output, Nat.le_trans h.size k.size, fun i hi hlt => (k.block i hi (Nat.lt_of_lt_of_le hlt h.size)).trans (h.block i hi hlt)⟩
theorem Win.below {base lo hi : Nat} {w w' : World} (h : Win base lo hi w w') (hb : base ≤ w.heap.size) : Below base w w' := ⟨h.os, h.tape, h.output, h.size, fun k hk => h.block k (.inl hk) (by omega)⟩
theorem winB {base lo hi : Nat} {w w' : World} (h : Below w.heap.size w w') : Win base lo hi w w' := ⟨h.os, h.tape, h.output, h.size, fun k _ hk => h.block k hk⟩
/-- A journal none of whose blocks lies from lo to hi. -/
structure JW (w : World) (g base lo hi : Nat) (ps : List PV) (cl : Int) : Prop where
  ex : ∃ v qs, Jn w g base v qs cl ∧ pvs qs = ps ∧ ∀ k, (k = g ∨ Blk v qs k) → ¬ (lo ≤ k ∧ k < hi)
  len : ps.length ≤ 65536
  lines : ∀ p ∈ ps, p.lines.length ≤ 7
  cls : -719163 ≤ cl ∧ cl ≤ 2932896
theorem Jn.same {w w' : World} {g base : Nat} {v : Value} {qs : List PR} {cl : Int} (h : Jn w g base v qs cl) (hs : ∀ k, (k = g ∨ Blk v qs k) → w'.heap[k]? = w.heap[k]?) : Jn w' g base v qs cl :=
  ⟨(hs g (.inl rfl)).trans h.cell, h.own.same fun k hk => hs k (.inr hk), h.low⟩
theorem Jn.lt {w : World} {g base : Nat} {v : Value} {qs : List PR} {cl : Int} (h : Jn w g base v qs cl) {k : Nat} (hk : k = g ∨ Blk v qs k) : base ≤ k ∧ k < w.heap.size := by
  rcases hk with rfl | hk
  · exact ⟨h.low, heap_lt' h.cell⟩
  · exact h.own.blk hk
theorem JW.below {w w' : World} {g base lo hi : Nat} {ps : List PV} {cl : Int} (h : JW w g base lo hi ps cl) (hb : Below w.heap.size w w') : JW w' g base lo hi ps cl := by
  obtain ⟨v, qs, hJ, hp, ha⟩ := h.ex
  exact ⟨⟨v, qs, hJ.same fun k hk => hb.block k (hJ.lt hk).2, hp, ha⟩, h.len, h.lines, h.cls⟩
theorem JW.window {w : World} {g base lo hi lo' hi' : Nat} {ps : List PV} {cl : Int} (h : JW w g base lo hi ps cl) (hlo : w.heap.size ≤ lo') : JW w g base lo' hi' ps cl := by
  obtain ⟨v, qs, hJ, hp, ha⟩ := h.ex
  exact ⟨⟨v, qs, hJ, hp, fun k hk hh => by have := (hJ.lt hk).2; omega⟩, h.len, h.lines, h.cls⟩
theorem JW.rd {w : World} {g base lo hi : Nat} {ps : List PV} {cl : Int} (h : JW w g base lo hi ps cl) : ∃ A c, w.heap[g]? = some (.cells #[.slice A ps.length c, .int .i64 cl] 70 (0, 0)) ∧ RdP w A ps.length ps := by
  obtain ⟨v, qs, hJ, hp, _⟩ := h.ex
  obtain ⟨A, c, rfl, hc, hr, _⟩ := hJ.own.form
  have e : qs.length = ps.length := by rw [← hp, pvs_len]
  have hcell := hJ.cell
  rw [hp, e] at hr
  rw [e] at hcell
  exact ⟨A, c, hcell, hr⟩
/-- One call, and all. -/
def actR (r : List PV × Int) (a : Ac) : List PV × Int :=
  if a.kind.tmod 4 = 2 then (if -719162 ≤ a.day ∧ a.day ≤ 2932896 ∧ r.2 < a.day then (r.1, a.day) else r)
  else match (postR r.1.length r.2 a.day a.loan a.was a.now).2 with
    | none => r
    | some p => (r.1 ++ [p], r.2)
theorem Close_jw (w : World) (g base lo hi : Nat) (ps : List PV) (cl d : Int) (h : JW w g base lo hi ps cl) :
    Calls Try.prog 21 #[.pointer (some ⟨g, 0, none⟩), .int .i64 d] w fun e w' => (∃ v, e = .returned v) ∧ JW w' g base lo hi ps (if -719162 ≤ d ∧ d ≤ 2932896 ∧ cl < d then d else cl) ∧ Win base lo hi w w' := by
  obtain ⟨v, qs, hJ, hp, ha⟩ := h.ex
  by_cases h1 : -719162 ≤ d ∧ d ≤ 2932896
  · by_cases h2 : cl < d
    · rw [if_pos ⟨h1.1, h1.2, h2⟩]
      refine (Close_ok w g v cl d h1.1 h1.2 h2 hJ.cell).mono ?_
      rintro e w' ⟨rfl, rfl⟩
      have hg := heap_lt' hJ.cell
      refine ⟨⟨_, rfl⟩, ⟨⟨v, qs, ⟨setRow_heap _ _ _ _ _ _ hJ.cell, hJ.own.same fun k hk => setRow_other _ _ _ _ (fun e => ?_), hJ.low⟩, hp, ha⟩, h.len, h.lines, by omega⟩, ?_⟩
      · subst e
        exact hJ.own.other hJ.cell hk
      · refine ⟨rfl, rfl, rfl, by rw [setRow_size]; exact Nat.le_refl _, fun k hk _ => setRow_other _ _ _ _ (fun e => ?_)⟩
        subst e
        rcases hk with hk | hk
        · have := hJ.low; omega
        · exact ha k (.inl rfl) hk
    · rw [if_neg (fun h => h2 h.2.2)]
      refine (Close_late w g v cl d h1.1 h1.2 (by omega) hJ.cell).mono ?_
      rintro e w' ⟨rfl, rfl⟩
      exact ⟨⟨_, rfl⟩, h, Win.refl _ _ _ _⟩
  · rw [if_neg (fun h => h1 ⟨h.1, h.2.1⟩)]
    refine (Close_date w g d (by omega)).mono ?_
    rintro e w' ⟨rfl, rfl⟩
    exact ⟨⟨_, rfl⟩, h, Win.refl _ _ _ _⟩
theorem postR_lines {n : Nat} {cl day : Int} {loan : ByteArray} {s t : St} {p : PV} (h : (postR n cl day loan s t).2 = some p) : n ≠ 65536 ∧ p = ⟨(n : Int) + 1, max day (cl + 1), loan, (linesAt s t).1⟩ ∧ p.lines.length ≤ 7 := by
  unfold postR at h
  split at h
  · cases h
  · split at h
    · cases h
    · split at h
      · cases h
      · split at h
        · cases h
        · split at h
          · cases h
          · split at h
            · cases h
            · obtain rfl := Option.some.inj h
              exact ⟨by assumption, rfl, lines_len s t⟩
theorem Post_jw (s t : St) (w : World) (g base lo hi : Nat) (ps : List PV) (cl day : Int) (loan : ByteArray) (h : JW w g base lo hi ps cl) (hhi : hi ≤ w.heap.size) :
    Calls Try.prog 19 #[.pointer (some ⟨g, 0, none⟩), .int .i64 day, .string loan, .agg (stCells s), .agg (stCells t)] w fun e w' => (∃ v, e = .returned v) ∧
      (match (postR ps.length cl day loan s t).2 with | none => JW w' g base lo hi ps cl | some p => JW w' g base lo hi (ps ++ [p]) cl) ∧ Win base lo hi w w' := by
  obtain ⟨v, qs, hJ, hp, ha⟩ := h.ex
  have e : qs.length = ps.length := by rw [← hp, pvs_len]
  have hP := Post_any s t g base w v qs cl day loan hJ h.cls (by rw [e]; exact h.len)
  rw [e] at hP
  refine hP.mono ?_
  rintro e w' ⟨pn, pd, pl, vl, rfl, h1, h2⟩
  cases hr : (postR ps.length cl day loan s t).2 with
  | none =>
    obtain ⟨hb, _⟩ := h1 hr
    exact ⟨⟨_, rfl⟩, h.below hb, winB hb⟩
  | some p =>
    obtain ⟨_, _, _, m, v', q, rfl, hm, _, _, hJ', hB, hK⟩ := h2 p hr
    obtain ⟨h3, _, h4⟩ := postR_lines hr
    refine ⟨⟨_, rfl⟩, ⟨⟨v', qs ++ [q], hJ', by rw [pvs_snoc, hp], fun k hk hh => ?_⟩, ?_, fun p hp => ?_, h.cls⟩, ⟨hK.os, hK.tape, hK.output, hK.size, fun k hk hlt => hK.block k hlt (fun e => ?_)⟩⟩
    · rcases hk with rfl | hk
      · exact ha k (.inl rfl) hh
      · rcases hB k hk with h5 | h5
        · exact ha k (.inr h5) hh
        · omega
    · have := h.len
      simp
      omega
    · rcases List.mem_append.1 hp with h5 | h5
      · exact h.lines p h5
      · obtain rfl := List.mem_singleton.1 h5
        exact h4
    · have hh : k = g ∨ Blk v qs k := e.imp id .inl
      rcases hk with hk | hk
      · have := (hJ.lt hh).1
        omega
      · exact ha k hh hk
section
variable {P : Program}
/-- A whole value out of the midst of a row, where a region stays. -/
theorem still_mid {ops : Array Oper} {rest : List Oper} {o : Oper} {a : Act} {w : World} {Q : Act → Prop} (hgd : o.guard = none) (ty : TypeId) (x : Operand) (ho : o.op = .load ty x)
    (g off : Nat) (hx : a.eval x = .pointer (some ⟨g, off, none⟩)) (cs : Array Value) (d : TypeDesc) (hc : ∀ j u, cs.toList[j]? = some u → w.cell? ⟨g, off + j, none⟩ = some u)
    (hu : P.underlying ty = some d) (hd : (match d with | .struct _ | .array _ _ => true | _ => false) = true) (hi : (P.info? ty).map (·.size) = some cs.size)
    (h : wpStill P ops w Q rest (a.put o.dst (.agg cs))) : wpStill P ops w Q (o :: rest) a := by
  refine wpStill_step fun K hK => ?_
  have hw : Region.wanted o (yielded ops a.tmps) = true := by simp [Region.wanted, hgd]
  rw [if_pos hw]
  have hl : (loadCells ⟨g, off, none⟩ cs.toList.length).run P w = .ok cs.toList.toArray w :=
    run_loadCells_list (P := P) w ⟨g, off, none⟩ cs.toList (fun j v hv => by
      have hadd : (⟨g, off, none⟩ : Addr).add j = ⟨g, off + j, none⟩ := by unfold Addr.add; split <;> simp_all
      rw [hadd]
      exact hc j v hv)
  have hrun : (execOp a.eval o).run P w = .ok (.value (.agg cs)) w := by
    cases hq : P.info? ty with
    | none => simp [hq] at hi
    | some i =>
      have hs : i.size = cs.size := by simpa [hq] using hi
      have hagg : (isAgg ty).run P w = .ok true w := by
        unfold isAgg
        rw [Sem.run_bind, run_underlying hu w]
        cases d <;> simp_all
      simp only [Array.length_toList, Array.toArray_toList] at hl
      simp [execOp, ho, hx, Instr.loadAt, Instr.sureAddr, loadVar, Sem.run_bind, hagg, sizeOf, typeInfo, hq, hs, hl]
  unfold Oper.still
  rw [hrun]
  exact ⟨rfl, hK _ h⟩
end
set_option maxRecDepth 100000 in
set_option maxHeartbeats 2000000 in
theorem do_any (A : Option Addr) (n c : Nat) (acs : List Ac) (w : World) (g base lo hi : Nat) (ps : List PV) (cl : Int) (h : RdAc w A n acs) (hJ : JW w g base lo hi ps cl) (hhi : hi ≤ w.heap.size) (hbase : 0 < n → ∀ a, A = some a → a.block < base) (hn : n ≤ 140737488351232) :
    Calls Try.prog 14 #[.pointer (some ⟨g, 0, none⟩), .slice A n c] w fun e w' => (∃ v, e = .returned v) ∧ JW w' g base lo hi (acs.foldl actR (ps, cl)).1 (acs.foldl actR (ps, cl)).2 ∧ Win base lo hi w w' := by
  have HX := Lib.hid h
  have HJ := Lib.hid hJ
  have HN : Hid (acs.length = n) := Lib.hid h.len
  have HBS := Lib.hid hbase
  clear h hJ hbase
  go_enter Try.func14, Try.ntmps14
  go_wp2_with fail
  go_loopw [7] (fun t wr => ∃ k : Nat, k ≤ n ∧ t = .int .i64 k ∧ Hid (JW wr g base lo hi ((acs.take k).foldl actR (ps, cl)).1 ((acs.take k).foldl actR (ps, cl)).2) ∧ Hid (Win base lo hi w wr)) (fun t _ => n - (intOf t).toNat)
  case atStart => exact ⟨0, Nat.zero_le _, rfl, HJ, Lib.hid (Win.refl _ _ _ _)⟩
  case round =>
    clear HJ
    obtain ⟨k, hk, rfl, HJ, HW⟩ := hrel
    obtain ⟨wa, rfl⟩ : ∃ x, x = wr := ⟨_, rfl⟩
    by_cases hlt : k < n
    · have hkl : k < acs.length := by rw [HN.out]; exact hlt
      obtain ⟨b, off, rfl, hc⟩ := HX.out.ex (by omega)
      have hbl : b < base := HBS.out (by omega) _ rfl
      have HC : Hid (∀ i u, (acCells acs[k])[i]? = some u → wa.cell? ⟨b, off + k * 28 + i, none⟩ = some u) := Lib.hid fun i u hu => by
        have h1 := hc k hkl i u hu
        have h2 := World.block_lt_of_cell? w _ h1
        exact (World.cell?_of_block (HW.out.block b (.inl hbl) h2)).trans h1
      have HS : Hid ((acs.take (k + 1)).foldl actR (ps, cl) = actR ((acs.take k).foldl actR (ps, cl)) acs[k]) := Lib.hid (by rw [take_snoc' acs k hkl, List.foldl_append]; rfl)
      have hhi2 : hi ≤ wa.heap.size := Nat.le_trans hhi HW.out.size
      clear hc
      generalize acs[k] = ac at *
      generalize (acs.take k).foldl actR (ps, cl) = R at *
      obtain ⟨rp, rc⟩ := R
      obtain ⟨a1, a2, a3⟩ := ac_heads ac
      have c0 := HC.out 0 _ (show (acCells ac)[0]? = some (.int .i64 ac.kind) by unfold acCells; rw [Array.append_assoc, Array.getElem?_append_left (by simp)]; rfl)
      have c1 := HC.out 1 _ a1
      have c3 := HC.out 3 _ a3
      rw [Nat.add_zero] at c0
      obtain ⟨ks, hks⟩ : ∃ ks, ac.kind.tmod 4 = ks := ⟨_, rfl⟩
      dsimp only at HJ
      by_cases h2 : ks = 2
      · subst h2
        have CL := Lib.hid (Close_jw wa g base lo hi rp rc ac.day HJ.out)
        have HS2 : Hid ((acs.take (k + 1)).foldl actR (ps, cl) = (rp, if -719162 ≤ ac.day ∧ ac.day ≤ 2932896 ∧ rc < ac.day then ac.day else rc)) := Lib.hid (by
          rw [HS.out]
          unfold actR
          rw [if_pos hks]
          dsimp only
          split <;> rfl)
        clear HS a1 a2 a3
        go_wp2_with fail
        refine CL.out.mono ?_
        rintro e w5 ⟨⟨ve, rfl⟩, hj5, hw5⟩
        have HJ5 : Hid (JW w5 g base lo hi ((acs.take (k + 1)).foldl actR (ps, cl)).1 ((acs.take (k + 1)).foldl actR (ps, cl)).2) := Lib.hid (by rw [HS2.out]; exact hj5)
        have HW5 := Lib.hid (HW.out.trans hw5)
        clear hj5 hw5 CL HS2 c0 c1 c3 HC
        go_wp2
        go_roundw
        case rel => exact ⟨k + 1, by omega, by go_num, HJ5, HW5⟩
        case measure => (try simp [intOf]) <;> (try omega)
      · have hkb : (ks == 2) = false := by rw [beq_eq_false_iff_ne]; exact h2
        have hiS := st_info ac.was
        have hiT := st_info ac.now
        have HSC := Lib.hid (fun j u (h : (stCells ac.was).toList[j]? = some u) => HC.out (4 + j) u (ac_was ac j u h))
        have HTC := Lib.hid (fun j u (h : (stCells ac.now).toList[j]? = some u) => HC.out (16 + j) u (ac_now ac j u h))
        have PC := Lib.hid (fun W (hW : JW W g base lo hi rp rc) hh => Post_jw ac.was ac.now W g base lo hi rp rc ac.day ac.loan hW hh)
        have HS2 : Hid ((acs.take (k + 1)).foldl actR (ps, cl) = (match (postR rp.length rc ac.day ac.loan ac.was ac.now).2 with | none => (rp, rc) | some p => (rp ++ [p], rc))) := Lib.hid (by
          rw [HS.out]
          unfold actR
          rw [if_neg (by rw [hks]; exact h2)])
        clear HS a1 a2 a3 HC
        generalize (postR rp.length rc ac.day ac.loan ac.was ac.now).2 = RR at *
        generalize stCells ac.was = S at *
        generalize stCells ac.now = T at *
        go_upto_region 5 with (fail)
        go_still_tail 21, (by kernel_rfl)
        refine still_mid rfl 23 (.tmp 38) rfl b (off + k * 28 + 4) rfl S _ (fun j u h => by have h5 := HSC.out j u h; rw [← Nat.add_assoc] at h5; exact h5) Try.underlying23 rfl hiS ?_
        repeat still_step
        refine still_mid rfl 23 (.tmp 43) rfl b (off + k * 28 + 16) rfl T _ (fun j u h => by have h5 := HTC.out j u h; rw [← Nat.add_assoc] at h5; exact h5) Try.underlying23 rfl hiT ?_
        try refine wpStill_nil ?_
        change wpList _ _ _ _ _ wa.drew
        have hbd : Below wa.heap.size wa wa.drew := (Below.refl _ _).drew
        have HJD := Lib.hid (HJ.out.below hbd)
        have HWD : Hid (Win base lo hi w wa.drew) := Lib.hid (HW.out.trans (winB hbd))
        have hhd : hi ≤ wa.drew.heap.size := hhi2
        clear c0 c1 c3 hbd HJ HW hhi2 HSC HTC
        generalize wa.drew = wd at *
        go_wp2_with fail
        refine (PC.out wd HJD.out hhd).mono ?_
        rintro e w5 ⟨⟨ve, rfl⟩, hj5, hw5⟩
        have HJ5 : Hid (JW w5 g base lo hi ((acs.take (k + 1)).foldl actR (ps, cl)).1 ((acs.take (k + 1)).foldl actR (ps, cl)).2) := Lib.hid (by
          rw [HS2.out]
          cases RR with
          | none => exact hj5
          | some p => exact hj5)
        have HW5 := Lib.hid (HWD.out.trans hw5)
        clear hj5 hw5 PC HS2
        go_wp2
        go_roundw
        case rel => exact ⟨k + 1, by omega, by go_num, HJ5, HW5⟩
        case measure => (try simp [intOf]) <;> (try omega)
    · have htk : acs.take k = acs := List.take_of_length_le (by rw [HN.out]; omega)
      rw [htk] at HJ
      go_wp2
      exact bodyPost_end (results_none rfl _ _ _) rfl ⟨⟨_, rfl⟩, HJ.out, HW.out⟩
end Go.Proofs.Ytpmbbhefcejjlaa
