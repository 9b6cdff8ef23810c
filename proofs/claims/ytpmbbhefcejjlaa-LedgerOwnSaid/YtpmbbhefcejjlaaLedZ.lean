/-
  The reference's Postings, Sums and Balance. No statement is proved here.
-/
import Derived.Lib.SlicesS
import Derived.Test.YtpmbbhefcejjlaaLedY
namespace Go.Proofs.Ytpmbbhefcejjlaa
open Go.RowKit
set_option linter.unusedVariables false

theorem OwnJ.at {w : World} {base n c : Nat} {A : Option Addr} {qs : List PR} (h : OwnJ w base (.slice A n c) qs) (j : Nat) (hj : j < qs.length) :
    ∃ g Al ml cl, A = some ⟨g, 0, none⟩ ∧ qs[j].lv = .slice Al ml cl ∧ w.cell? ⟨g, j * 4, none⟩ = some (.int .i64 qs[j].p.num) ∧ w.cell? ⟨g, j * 4 + 1, none⟩ = some (.int .i64 qs[j].p.day) ∧ w.cell? ⟨g, j * 4 + 2, none⟩ = some (.string qs[j].p.loan) ∧ w.cell? ⟨g, j * 4 + 3, none⟩ = some (.slice Al ml cl) ∧ RdL w Al ml qs[j].p.lines ∧ ml ≤ cl := by
  rcases h.row.2 with ⟨e, hn⟩ | ⟨g, cap, cur, e, hg, hh, hc, hm, r⟩
  · omega
  · injection e with e1 e2 e3
    subst e1
    have hrd : Rd w 4 (some ⟨g, 0, none⟩) qs.length (prows qs) := Rd.of_own (c := cap) (by
      have := h.row
      rw [e2, e3] at this
      exact this)
    obtain ⟨b, off, e, hcl⟩ := hrd.2 (by rw [prows_len]; omega)
    injection e with e
    injection e with e1 e4
    subst e1 e4
    obtain ⟨c0, c1, c2, c3⟩ := prows_at qs j hj
    obtain ⟨Al, ml, cl, el, _, hl, _, hrl, _⟩ := (h.each qs[j] (List.getElem_mem hj)).form
    have e0 := hcl _ _ c0
    have e1 := hcl _ _ c1
    have e2 := hcl _ _ c2
    have e3 := hcl _ _ c3
    rw [el] at e3
    rw [Nat.zero_add] at e0 e1 e2 e3
    exact ⟨g, Al, ml, cl, rfl, el, e0, e1, e2, e3, hrl, hl⟩
/-- append, of one posting, onto postings of the call's own; what else is written. -/
theorem app_jf {ops : Array Oper} {rest : List Oper} {o : Oper} {a : Act} {Q : Exit → Act → World → Prop} {w : World} (hgd : o.guard = none) (s x : Operand)
    (ho : o.op = .call { callee := .builtin .append, args := #[s, x], argTypes := #[42, 42] })
    (base : Nat) (v : Value) (qs : List PR) (hs : a.eval s = v) (hown : OwnJ w base v qs) (q : PR) (hl : OwnL w base q.lv q.p.lines)
    (hx : a.eval x = .slice (some ⟨w.heap.size, 0, none⟩) 1 1) (hlen : qs.length ≤ 900000) (hbase : base ≤ w.heap.size)
    (h : ∀ v' w', OwnJ w' base v' (qs ++ [q]) → Kept (fun k => v.ownBlock = some k) w w' → (∀ k, v'.ownBlock = some k → v.ownBlock = some k ∨ w.heap.size ≤ k) → wpList Try.prog ops Q rest (a.put o.dst v') w') : wpList Try.prog ops Q (o :: rest) a (w.alloc (.cells #[.int .i64 q.p.num, .int .i64 q.p.day, .string q.p.loan, q.lv] 49)) := by
  have hba : Below w.heap.size w (w.alloc (.cells #[.int .i64 q.p.num, .int .i64 q.p.day, .string q.p.loan, q.lv] 49)) := (Below.refl _ _).alloc (Nat.le_refl _) _
  have hrow := (hown.below hba).row
  have hown2 := hown.below hba
  have hl2 : OwnL _ base q.lv q.p.lines := hl.below hba
  obtain ⟨i0, hi, hz0, hz1, hz2⟩ := info_parts infoPost
  refine wpList_append_rd _ hgd s x 42 ho base 49 i0 (.agg #[.int .i64 0, .int .i64 0, .string ⟨#[]⟩, .slice none 0 0]) 4 56 Try.underlying42 hi hz0 hz1 hz2 rfl (by decide) v qs.length (prows qs) hs hrow _ 1 1 (prow q) hx (rd_lit w 4 1 _ rfl _) (prow_one hl) (by unfold maxLen; omega) (by omega) (by simp; omega) fun v' w' hown' hg hb => ?_
  refine h v' w' ⟨?_, fun r hr => ?_⟩ ?_ (fun k hk => ?_)
  · rw [List.length_append, prows_snoc]; exact hown'
  · rcases List.mem_append.1 hr with h1 | h1
    · exact (hown2.each r h1).grown hrow hg
    · obtain rfl : r = q := by simpa using h1
      exact hl2.grown hrow hg
  · have hg2 := Below.grown (B := 0) (Below.refl 0 _) hg (Nat.zero_le _) (fun _ _ => Nat.zero_le _)
    refine ⟨hg2.os.trans hba.os, hg2.tape.trans hba.tape, hg2.output.trans hba.output, Nat.le_trans hba.size hg2.size, fun k hk hne => ?_⟩
    exact (hg.block k (Nat.lt_of_lt_of_le hk hba.size) (fun e => hne e.symm)).trans (hba.block k hk)
  · rcases hb with h1 | h1
    · exact .inl (by rw [← h1]; exact hk)
    · rw [hk] at h1
      injection h1 with h1
      simp at h1
      exact .inr (by omega)
theorem kept_below {w a b : World} {v : Value} (h : Below w.heap.size w a) (k : Kept (fun k => v.ownBlock = some k) a b) (hv : ∀ i, v.ownBlock = some i → w.heap.size ≤ i) : Below w.heap.size w b :=
  ⟨k.os.trans h.os, k.tape.trans h.tape, k.output.trans h.output, Nat.le_trans h.size k.size, fun i hi => (k.block i (Nat.lt_of_lt_of_le hi h.size) (fun e => by have := hv i e; omega)).trans (h.block i hi)⟩
theorem take_filterR (qs : List PR) (k : Nat) (hk : k < qs.length) (f : PR → Bool) : (qs.take (k + 1)).filter f = (qs.take k).filter f ++ (if f qs[k] then [qs[k]] else []) := by
  rw [take_snoc' qs k hk, List.filter_append]
  by_cases h : f qs[k] <;> simp [h]
set_option maxRecDepth 100000 in
set_option maxHeartbeats 4000000 in
theorem rPostings_any (base : Nat) (A : Option Addr) (n c : Nat) (qs : List PR) (a b : Int) (w : World) (h : OwnJ w base (.slice A n c) qs) (hqn : qs.length = n) (hn : n ≤ 900000) (hbase : base ≤ w.heap.size) :
    Calls Try.prog 37 #[.slice A n c, .int .i64 a, .int .i64 b] w fun e w' => ∃ v, e = .returned v ∧ OwnJ w' base v (qs.filter fun q => inDays a b q.p) ∧ (∀ k, v.ownBlock = some k → w.heap.size ≤ k) ∧ Below w.heap.size w w' := by
  have HX := Lib.hid h
  have HN : Hid (qs.length = n) := Lib.hid hqn
  have HBS := Lib.hid hbase
  clear h hqn hbase
  go_enter Try.func37, Try.ntmps37
  go_wp2_with fail
  go_loopw [7, 11] (fun v t wr => ∃ (k : Nat) (rs : List PR), k ≤ n ∧ rs.length ≤ k ∧ t = .int .i64 k ∧ Hid (rs = (qs.take k).filter fun q => inDays a b q.p) ∧ Hid (OwnJ wr base v rs) ∧ Hid (∀ i, v.ownBlock = some i → w.heap.size ≤ i) ∧ Hid (Below w.heap.size w wr)) (fun _ t _ => n - (intOf t).toNat)
  case atStart => exact ⟨0, [], Nat.zero_le _, Nat.zero_le _, rfl, Lib.hid rfl, Lib.hid (OwnJ.nil _ _), Lib.hid (fun i hi => by simp [Value.ownBlock] at hi), Lib.hid (Below.refl _ _)⟩
  case round =>
    obtain ⟨k, rs, hk, hq, rfl, HP, HO, HF, HB⟩ := hrel
    obtain ⟨wa, rfl⟩ : ∃ x, x = wr := ⟨_, rfl⟩
    by_cases hlt : k < n
    · have hkl : k < qs.length := by rw [HN.out]; exact hlt
      obtain ⟨g, Al, ml, cl, rfl, hlv, p0, p1, p2, p3, _, _⟩ := (HX.out.below HB.out).at k hkl
      have HLV : Hid (OwnL wa base qs[k].lv qs[k].p.lines) := Lib.hid ((HX.out.below HB.out).each _ (List.getElem_mem hkl))
      have HS := Lib.hid (take_filterR qs k hkl (fun q => inDays a b q.p))
      generalize qs[k] = q at *
      obtain ⟨lv, p⟩ := q
      dsimp only at *
      subst hlv
      obtain ⟨Av0, cv0, rfl, _⟩ := HO.out.form
      by_cases hin : inDays a b p = true
      · have hin2 : (decide (a ≤ p.day) && decide (p.day ≤ b)) = true := hin
        have h1 : a ≤ p.day := by simp at hin2; exact hin2.1
        have h2 : p.day ≤ b := by simp at hin2; exact hin2.2
        have HS2 : Hid (rs ++ [⟨.slice Al ml cl, p⟩] = (qs.take (k + 1)).filter fun q => inDays a b q.p) := Lib.hid (by rw [HS.out, if_pos hin, HP.out])
        have hbw : base ≤ wa.heap.size := Nat.le_trans HBS.out HB.out.size
        clear hin hin2 HS
        go_wp2_with (at_builtin; refine app_jf rfl _ _ rfl base (.slice Av0 rs.length cv0) rs rfl HO.out ⟨.slice Al ml cl, p⟩ HLV.out rfl (by omega) hbw ?_)
        rintro v6 w6 hv6 hk6 hf6
        have HO6 := Lib.hid hv6
        have HB6 : Hid (Below w.heap.size w w6) := Lib.hid (kept_below HB.out hk6 HF.out)
        have HF6 : Hid (∀ i, v6.ownBlock = some i → w.heap.size ≤ i) := Lib.hid fun i hi => by
          rcases hf6 i hi with h3 | h3
          · exact HF.out i h3
          · exact Nat.le_trans HB.out.size h3
        clear hv6 hk6 hf6 p0 p1 p2 p3
        go_wp2
        go_roundw
        case rel => exact ⟨k + 1, rs ++ [⟨.slice Al ml cl, p⟩], by omega, by simp; omega, by go_num, HS2, HO6, HF6, HB6⟩
        case measure => (try simp [intOf]) <;> (try omega)
      · have hin2 : ¬ (a ≤ p.day ∧ p.day ≤ b) := by
          intro ⟨h1, h2⟩
          exact hin (by unfold inDays; simp [h1, h2])
        have HS2 : Hid (rs = (qs.take (k + 1)).filter fun q => inDays a b q.p) := Lib.hid (by rw [HS.out, if_neg hin, List.append_nil]; exact HP.out)
        clear hin HS
        by_cases h1 : a ≤ p.day
        · have h2 : ¬ p.day ≤ b := fun h => hin2 ⟨h1, h⟩
          clear hin2
          go_wp2
          go_roundw
          case rel => exact ⟨k + 1, rs, by omega, by omega, by go_num, HS2, HO, HF, HB⟩
          case measure => (try simp [intOf]) <;> (try omega)
        · clear hin2
          go_wp2
          go_roundw
          case rel => exact ⟨k + 1, rs, by omega, by omega, by go_num, HS2, HO, HF, HB⟩
          case measure => (try simp [intOf]) <;> (try omega)
    · have htk : qs.take k = qs := List.take_of_length_le (by rw [HN.out]; omega)
      rw [htk] at HP
      go_wp2
      go_ret
      exact ⟨_, rfl, by rw [← HP.out]; exact HO.out, HF.out, HB.out⟩
def fold1 (a : Int) (ls : List (Int × Int)) : Int := ls.foldl (fun n x => if x.1 = a then w64 (n + x.2) else n) 0
theorem fold1_snoc (a : Int) (ls : List (Int × Int)) (x : Int × Int) : fold1 a (ls ++ [x]) = if x.1 = a then w64 (fold1 a ls + x.2) else fold1 a ls := by simp [fold1]
theorem tot_fold (a : Int) (ls : List (Int × Int)) : totF ls a = fold1 a ls := by
  unfold totF fold1
  generalize hf : (fun _ : Int => (0 : Int)) = f
  have h0 : (0 : Int) = f a := by rw [← hf]
  rw [h0]
  clear hf h0
  induction ls generalizing f with
  | nil => rfl
  | cons x ls ih =>
    rw [List.foldl_cons, List.foldl_cons, ih]
    congr 1
    unfold addT
    by_cases h : a = x.1
    · rw [if_pos h, if_pos h.symm]
    · rw [if_neg h, if_neg (fun e => h e.symm)]
set_option maxRecDepth 100000 in
set_option maxHeartbeats 4000000 in
theorem rSums_any (A : Option Addr) (n c : Nat) (ps : List PV) (w : World) (h : RdP w A n ps) (hn : n ≤ 900000) (hlen : ∀ p ∈ ps, p.lines.length ≤ 4398046511104) :
    Calls Try.prog 38 #[.slice A n c] w fun e w' => ∃ v, e = .returned v ∧ OwnL w' w.heap.size v (sumsOf ps) ∧ Below w.heap.size w w' := by
  have HX := Lib.hid h
  have HL := Lib.hid hlen
  have HN : Hid (ps.length = n) := Lib.hid h.len
  obtain ⟨F, hF⟩ : ∃ F, F = totF (flatL ps) := ⟨_, rfl⟩
  have HSO : Hid (sumsOf ps = rowsT F 7) := Lib.hid (by rw [hF]; rfl)
  have HFF : Hid (∀ a, F a = fold1 a (flatL ps)) := Lib.hid (fun a => by rw [hF]; exact tot_fold a _)
  have HRS := Lib.hid (rowsT_step F)
  clear h hlen hF
  go_enter Try.func38, Try.ntmps38
  go_wp2_with fail
  go_loopw [3, 4] (fun v i wr => ∃ r : Nat, r ≤ 7 ∧ i = .int .i64 ((r : Int) + 1) ∧ Hid (OwnL wr w.heap.size v (rowsT F r)) ∧ Hid (Below w.heap.size w wr)) (fun _ i _ => 8 - (intOf i).toNat)
  case atStart => exact ⟨0, by omega, rfl, Lib.hid (OwnL.empty2 _ _), Lib.hid (Below.refl _ _)⟩
  case round =>
    obtain ⟨r, hr, rfl, HO, HB⟩ := hrel
    obtain ⟨wc, rfl⟩ : ∃ x, x = wr := ⟨_, rfl⟩
    by_cases hlt7 : r < 7
    · have hle : ((r : Int) + 1) ≤ 7 := by omega
      have HS7 := Lib.hid (HRS.out r)
      have HRL7 := Lib.hid (rowsT_len F r)
      have HFA := Lib.hid (HFF.out ((r : Int) + 1))
      obtain ⟨ac, hac⟩ : ∃ ac, ac = (r : Int) + 1 := ⟨_, rfl⟩
      have HAC := Lib.hid hac
      rw [← hac] at HS7 HFA hle ⊢
      have hac1 : 1 ≤ ac := by have := HAC.out; omega
      clear hac
      go_wp2_with fail
      go_loopw [5, 14] (fun nv t wq => ∃ k : Nat, k ≤ n ∧ t = .int .i64 k ∧ nv = .int .i64 (fold1 ac (flatL (ps.take k))) ∧ wq = wc) (fun _ t _ => n - (intOf t).toNat)
      case atStart => exact ⟨0, Nat.zero_le _, rfl, rfl, rfl⟩
      case round =>
        obtain ⟨k, hk, rfl, rfl, rfl⟩ := hrel
        by_cases hlt : k < n
        · have hkl : k < ps.length := by rw [HN.out]; exact hlt
          obtain ⟨b0, off, rfl, hc⟩ := (HX.out.below HB.out).ex (by omega)
          obtain ⟨Al, ml, cl, p0, p1, p2, p3, hrl, hml⟩ := hc k hkl
          have hll := HL.out _ (List.getElem_mem hkl)
          have HS : Hid (flatL (ps.take (k + 1)) = flatL (ps.take k) ++ ps[k].lines) := Lib.hid (by rw [take_snoc' ps k hkl, flatL_snoc])
          have HML : Hid (ps[k].lines.length = ml) := Lib.hid hrl.len
          have hmlb : ml ≤ 4398046511104 := by have := HML.out; omega
          clear hc hll p0 p1 p2
          generalize ps[k] = p at *
          have HRL := Lib.hid hrl
          clear hrl
          generalize flatL (ps.take k) = fl at *
          go_wp2_with fail
          go_loopw [5, 23] (fun nv t wq => ∃ j : Nat, j ≤ ml ∧ t = .int .i64 j ∧ nv = .int .i64 (fold1 ac (fl ++ p.lines.take j)) ∧ wq = wr) (fun _ t _ => ml - (intOf t).toNat)
          case atStart => exact ⟨0, Nat.zero_le _, rfl, by rw [List.take_zero, List.append_nil], by first | trivial | rfl⟩
          case round =>
            obtain ⟨j, hj, rfl, rfl, rfl⟩ := hrel
            by_cases hltj : j < ml
            · have hjl : j < p.lines.length := by rw [HML.out]; exact hltj
              obtain ⟨bl, ol, rfl⟩ := HRL.out.addr (by omega)
              obtain ⟨c0, c1⟩ := HRL.out.cells j hjl
              rw [← Nat.add_assoc] at c1
              have HSJ : Hid (fold1 ac (fl ++ p.lines.take (j + 1)) = if p.lines[j].1 = ac then w64 (fold1 ac (fl ++ p.lines.take j) + p.lines[j].2) else fold1 ac (fl ++ p.lines.take j)) := Lib.hid (by rw [take_snoc' p.lines j hjl, ← List.append_assoc, fold1_snoc])
              generalize p.lines[j] = x at *
              obtain ⟨x1, x2⟩ := x
              dsimp only at *
              generalize fold1 ac (fl ++ p.lines.take j) = V at *
              by_cases hx : x1 = ac
              · have hxb : (x1 == ac) = true := by rw [beq_iff_eq]; exact hx
                have HSK : Hid (fold1 ac (fl ++ p.lines.take (j + 1)) = w64 (V + x2)) := Lib.hid (by rw [HSJ.out, if_pos hx])
                clear HSJ
                unfold w64 at HSK
                generalize hz : IntKind.i64.wrap (V + x2) = z at *
                go_wp2
                go_roundw
                case rel => exact ⟨j + 1, by omega, by go_num, by rw [HSK.out], by first | trivial | rfl⟩
                case measure => (try simp [intOf]) <;> (try omega)
              · have hxb : (x1 == ac) = false := by rw [beq_eq_false_iff_ne]; exact hx
                have HSK : Hid (fold1 ac (fl ++ p.lines.take (j + 1)) = V) := Lib.hid (by rw [HSJ.out, if_neg hx])
                clear HSJ
                go_wp2
                go_roundw
                case rel => exact ⟨j + 1, by omega, by go_num, by rw [HSK.out], by first | trivial | rfl⟩
                case measure => (try simp [intOf]) <;> (try omega)
            · have hta : p.lines.take j = p.lines := List.take_of_length_le (by rw [HML.out]; omega)
              have HSK : Hid (fold1 ac (flatL (ps.take (k + 1))) = fold1 ac (fl ++ p.lines.take j)) := Lib.hid (by rw [HS.out, hta])
              generalize fold1 ac (fl ++ p.lines.take j) = V at *
              clear hj hta
              go_wp2
              go_roundw
              case rel => exact ⟨k + 1, by omega, by go_num, by rw [HSK.out], by first | trivial | rfl⟩
              case measure => (try simp [intOf]) <;> (try omega)
        · have htk : ps.take k = ps := List.take_of_length_le (by rw [HN.out]; omega)
          rw [htk, ← HFA.out]
          generalize F ac = z at *
          clear hk htk
          obtain ⟨Av0, mv0, cv0, rfl, HMV, _, _, _, _⟩ := HO.out.form
          by_cases h0 : z = 0
          · subst h0
            have HS8 : Hid (rowsT F (r + 1) = rowsT F r) := Lib.hid (by rw [HS7.out]; simp)
            clear HS7
            go_wp2
            go_roundw
            case rel => exact ⟨r + 1, by omega, by have := HAC.out; first | (go_num; done) | (subst this; go_num; done) | (rw [this]; go_num), by rw [HS8.out]; exact HO, HB⟩
            case measure =>
              have h7 : IntKind.i64.wrap (ac + 1) = ac + 1 := by rw [IntKind.wrap_i64]; omega
              (try simp [intOf]) <;> (try omega)
          · have hb0 : (z != 0) = true := by rw [bne_iff_ne]; exact h0
            have HS8 : Hid (rowsT F (r + 1) = rowsT F r ++ [(ac, z)]) := Lib.hid (by rw [HS7.out, if_pos hb0, HAC.out])
            clear HS7
            go_wp2_with (at_builtin; refine app_line rfl _ _ rfl w.heap.size _ (rowsT F r) rfl (HO.out.alloc _) _ 1 1 [(ac, z)] rfl (RdL.lit _ _ _ rfl 1 rfl _) ?c1 ?c2 ?_)
            case c1 => have := HRL7.out; omega
            case c2 => have := HB.out.size; simp; omega
            intro v6 w6 hv6 hb6 hg6
            have HO6 : Hid (OwnL w6 w.heap.size v6 (rowsT F (r + 1))) := Lib.hid (by rw [HS8.out]; exact hv6)
            have HB6 := Lib.hid ((HB.out.alloc HB.out.size _).trans hb6)
            clear hv6 hb6 hg6
            go_wp2
            go_roundw
            case rel => exact ⟨r + 1, by omega, by have := HAC.out; first | (go_num; done) | (subst this; go_num; done) | (rw [this]; go_num), HO6, HB6⟩
            case measure =>
              have h7 : IntKind.i64.wrap (ac + 1) = ac + 1 := by rw [IntKind.wrap_i64]; omega
              (try simp [intOf]) <;> (try omega)
    · obtain rfl : r = 7 := by omega
      go_wp2
      go_ret
      exact ⟨_, rfl, by rw [HSO.out]; exact HO.out, HB.out⟩
set_option maxRecDepth 100000 in
set_option maxHeartbeats 4000000 in
theorem rBalance_any (base : Nat) (A : Option Addr) (n c : Nat) (qs : List PR) (L : ByteArray) (w : World) (h : OwnJ w base (.slice A n c) qs) (hqn : qs.length = n) (hn : n ≤ 900000) (hll : ∀ q ∈ qs, q.p.lines.length ≤ 4398046511104) (hbase : base ≤ w.heap.size) :
    Calls Try.prog 39 #[.slice A n c, .string L] w fun e w' => ∃ v, e = .returned v ∧ OwnL w' w.heap.size v (sumsOf ((pvs qs).filter fun p => decide (p.loan = L))) ∧ Below w.heap.size w w' := by
  have HX := Lib.hid h
  have HN : Hid (qs.length = n) := Lib.hid hqn
  have HBS := Lib.hid hbase
  have HLL := Lib.hid hll
  clear h hqn hbase hll
  go_enter Try.func39, Try.ntmps39
  go_wp2_with fail
  go_loopw [5, 9] (fun v t wr => ∃ (k : Nat) (rs : List PR), k ≤ n ∧ rs.length ≤ k ∧ t = .int .i64 k ∧ Hid (rs = (qs.take k).filter fun q => decide (q.p.loan = L)) ∧ Hid (OwnJ wr base v rs) ∧ Hid (∀ i, v.ownBlock = some i → w.heap.size ≤ i) ∧ Hid (Below w.heap.size w wr)) (fun _ t _ => n - (intOf t).toNat)
  case atStart => exact ⟨0, [], Nat.zero_le _, Nat.zero_le _, rfl, Lib.hid rfl, Lib.hid (OwnJ.nil _ _), Lib.hid (fun i hi => by simp [Value.ownBlock] at hi), Lib.hid (Below.refl _ _)⟩
  case round =>
    obtain ⟨k, rs, hk, hq, rfl, HP, HO, HF, HB⟩ := hrel
    obtain ⟨wa, rfl⟩ : ∃ x, x = wr := ⟨_, rfl⟩
    by_cases hlt : k < n
    · have hkl : k < qs.length := by rw [HN.out]; exact hlt
      obtain ⟨g, Al, ml, cl, rfl, hlv, p0, p1, p2, p3, _, _⟩ := (HX.out.below HB.out).at k hkl
      have HLV : Hid (OwnL wa base qs[k].lv qs[k].p.lines) := Lib.hid ((HX.out.below HB.out).each _ (List.getElem_mem hkl))
      have HS := Lib.hid (take_filterR qs k hkl (fun q => decide (q.p.loan = L)))
      generalize qs[k] = q at *
      obtain ⟨lv, p⟩ := q
      dsimp only at *
      subst hlv
      obtain ⟨Av0, cv0, rfl, _⟩ := HO.out.form
      by_cases hin : p.loan = L
      · have HS2 : Hid (rs ++ [⟨.slice Al ml cl, p⟩] = (qs.take (k + 1)).filter fun q => decide (q.p.loan = L)) := Lib.hid (by rw [HS.out, if_pos (decide_eq_true hin), HP.out])
        subst hin
        have hbw : base ≤ wa.heap.size := Nat.le_trans HBS.out HB.out.size
        clear HS
        go_wp2_with (at_builtin; refine app_jf rfl _ _ rfl base (.slice Av0 rs.length cv0) rs rfl HO.out ⟨.slice Al ml cl, p⟩ HLV.out rfl (by omega) hbw ?_)
        rintro v6 w6 hv6 hk6 hf6
        have HO6 := Lib.hid hv6
        have HB6 : Hid (Below w.heap.size w w6) := Lib.hid (kept_below HB.out hk6 HF.out)
        have HF6 : Hid (∀ i, v6.ownBlock = some i → w.heap.size ≤ i) := Lib.hid fun i hi => by
          rcases hf6 i hi with h3 | h3
          · exact HF.out i h3
          · exact Nat.le_trans HB.out.size h3
        clear hv6 hk6 hf6 p0 p1 p2 p3
        go_wp2
        go_roundw
        case rel => exact ⟨k + 1, rs ++ [⟨.slice Al ml cl, p⟩], by omega, by simp; omega, by go_num, HS2, HO6, HF6, HB6⟩
        case measure => (try simp [intOf]) <;> (try omega)
      · have HS2 : Hid (rs = (qs.take (k + 1)).filter fun q => decide (q.p.loan = L)) := Lib.hid (by rw [HS.out, if_neg (by simpa using hin), List.append_nil]; exact HP.out)
        have hb1 : (p.loan.toList == L.toList) = false := (Lib.bytes_beq_false_iff _ _).2 hin
        have hb2 : ¬ p.loan.toList = L.toList := by rw [beq_eq_false_iff_ne] at hb1; exact hb1
        clear HS
        go_wp2
        go_roundw
        case rel => exact ⟨k + 1, rs, by omega, by omega, by go_num, HS2, HO, HF, HB⟩
        case measure => (try simp [intOf]) <;> (try omega)
    · have htk : qs.take k = qs := List.take_of_length_le (by rw [HN.out]; omega)
      rw [htk] at HP
      have hps : pvs rs = (pvs qs).filter fun p => decide (p.loan = L) := by
        rw [HP.out]
        unfold pvs
        rw [List.filter_map]
        rfl
      obtain ⟨A2, c2, rfl, _, hr2, _⟩ := HO.out.form
      rw [hps] at hr2
      have hrl : rs.length ≤ 900000 := by omega
      have HSU := Lib.hid (rSums_any A2 rs.length c2 _ wa hr2 hrl (fun p hp => by
        obtain ⟨q, hq, e⟩ := List.mem_map.1 (List.mem_filter.1 hp).1
        rw [← e]
        exact HLL.out q hq))
      clear hr2 hps
      go_wp2_with fail
      refine HSU.out.mono ?_
      rintro e w4 ⟨v4, rfl, hv4, hb4⟩
      go_wp2
      go_ret
      exact ⟨v4, rfl, OwnL.lower hv4 HB.out.size, HB.out.trans (hb4.mono HB.out.size)⟩
end Go.Proofs.Ytpmbbhefcejjlaa
