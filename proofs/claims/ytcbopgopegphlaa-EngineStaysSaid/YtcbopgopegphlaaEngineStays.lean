/-
  The walk of EngineStays (printed by gen_stays.py).
-/
import Derived.Deep.CutBlock
import Derived.Deep.CutRange
import Derived.Test.YtcbopgopegphlaaEnX
namespace Go.Proofs.Ytcbopgopegphlaa
open Go.RowKit
set_option linter.unusedVariables false
def GS (w4 : World) (base top ge : Nat) (p : Prod) (l : List Ev) (rs : List Tld) (v1 v2 v3 : Value) (_ : Nat → Bool) (v : World) : Prop := InSt w4 base top ge p l rs v1 v2 v3 v
/-- A state's new row. -/
def BoxAt (S Z : Array Value) (top : Nat) (v1 : Value) (b : Bool) (u : Value) (v : World) : Prop := ∃ g, u = .pointer (some ⟨g, 0, none⟩) ∧ top ≤ g ∧ v1.ownBlock ≠ some g ∧ v.heap[g]? = some (.cells (if b = true then S else Z) 40 (0, 0))
theorem BoxAt.ek {S Z : Array Value} {top base : Nat} {v1 : Value} {b : Bool} {u : Value} {v v' : World} (h : BoxAt S Z top v1 b u v) (hk : EK base v v') : BoxAt S Z top v1 b u v' := by
  obtain ⟨g, h1, h2, h3, h4⟩ := h
  exact ⟨g, h1, h2, h3, (hk.rows _ _ _ _ h4 (by decide) (by decide)).trans h4⟩
/-- A slice of one value. -/
def LitAt (t : TypeId) (cs : Array Value) (u : Value) (v : World) : Prop := ∃ g, u = .slice (some ⟨g, 0, none⟩) 1 1 ∧ v.heap[g]? = some (.cells cs t (0, 0))
theorem LitAt.below {t : TypeId} {cs : Array Value} {u : Value} {v v' : World} (h : LitAt t cs u v) (hb : Below v.heap.size v v') : LitAt t cs u v' := by
  obtain ⟨g, h1, h2⟩ := h
  exact ⟨g, h1, (hb.block _ (Array.getElem?_eq_some_iff.1 h2).1).trans h2⟩
theorem LitAt.apart {t t2 : TypeId} {cs : Array Value} {u : Value} {v v' : World} {b2 sz2 n2 : Nat} {v2 : Value} {xs2 : List Value} (h : LitAt t cs u v) (ho : v.ownsRow b2 t2 sz2 v2 n2 xs2) (ht : t ≠ t2) (hg : v.grownBy v' v2.ownBlock) : LitAt t cs u v' := by
  obtain ⟨g, h1, h2⟩ := h
  exact ⟨g, h1, cells_apart h2 ho ht hg⟩
theorem own_below {w w' : World} {b sz n : Nat} {t : TypeId} {v : Value} {xs : List Value} (h : w.ownsRow b t sz v n xs) (hb : Below w.heap.size w w') : w'.ownsRow b t sz v n xs := ownE_keep h fun g hg => hb.block _ (ownE_block h hg).1
theorem own_len {w : World} {b sz n k : Nat} {t : TypeId} {v : Value} {xs : List Value} (h : w.ownsRow b t sz v n xs) (hk : n ≤ k) : n ≤ k := hk
def T18 (ge : Nat) (tp : Value) (S Z : Array Value) (top : Nat) (v1 : Value) (dv dp lv lp : Value) (k d j q e : Int) (L : Nat → Bool) (i : Nat) (u : Value) (v : World) : Prop :=
  match i with
  | 0 => u = .pointer (some ⟨ge, 0, none⟩)
  | 1 => u = dv
  | 2 => u = .int .i64 k
  | 3 => u = dp
  | 4 => u = .int .i64 d
  | 5 => u = lv
  | 6 => u = .int .i64 j
  | 7 => u = lp
  | 8 => u = lp
  | 9 => u = .int .i64 q
  | 10 => u = tp
  | 11 => u = tp
  | 12 => u = .agg S
  | 13 => u = .int .i64 e
  | 14 => BoxAt S Z top v1 (L 15) u v
  | 16 => u = .int .i64 e
  | _ => True
theorem T18_keep {ge : Nat} {tp : Value} {S Z : Array Value} {top base : Nat} {v1 : Value} {dv dp lv lp : Value} {k d j q e : Int} {L : Nat → Bool} {ii jj : Nat} {u : Value} {v v2 : World} (hi : ii ≠ 15) (hb : EK base v v2) (h : T18 ge tp S Z top v1 dv dp lv lp k d j q e L jj u v) : T18 ge tp S Z top v1 dv dp lv lp k d j q e (upd L ii) jj u v2 := by
  unfold T18 at h ⊢
  split at h <;> try exact h
  rw [upd_other (fun e => hi e.symm)]
  exact h.ek hb
def T25 (ge : Nat) (tp : Value) (S Z : Array Value) (top : Nat) (v1 : Value) (dv dp lp : Value) (k d q e : Int) (L : Nat → Bool) (i : Nat) (u : Value) (v : World) : Prop :=
  match i with
  | 0 => u = .pointer (some ⟨ge, 0, none⟩)
  | 1 => u = dv
  | 2 => u = .int .i64 k
  | 3 => u = dp
  | 4 => u = dp
  | 5 => u = .int .i64 d
  | 6 => u = dv
  | 7 => u = .int .i64 k
  | 8 => u = dp
  | 9 => u = lp
  | 10 => u = .int .i64 q
  | 11 => u = tp
  | 12 => u = tp
  | 13 => u = .agg S
  | 14 => u = .int .i64 e
  | 15 => BoxAt S Z top v1 (L 16) u v
  | 17 => u = .int .i64 e
  | _ => True
theorem T25_keep {ge : Nat} {tp : Value} {S Z : Array Value} {top base : Nat} {v1 : Value} {dv dp lp : Value} {k d q e : Int} {L : Nat → Bool} {ii jj : Nat} {u : Value} {v v2 : World} (hi : ii ≠ 16) (hb : EK base v v2) (h : T25 ge tp S Z top v1 dv dp lp k d q e L jj u v) : T25 ge tp S Z top v1 dv dp lp k d q e (upd L ii) jj u v2 := by
  unfold T25 at h ⊢
  split at h <;> try exact h
  rw [upd_other (fun e => hi e.symm)]
  exact h.ek hb
def T19 (S : Array Value) (top n : Nat) (x1 x2 x3 : List Value) (v1 v2 v3 dv dp lv lp : Value) (k d j q e : Int) (L : Nat → Bool) (i : Nat) (u : Value) (v : World) : Prop :=
  match i with
  | 0 => u = v1
  | 1 => u = .agg S
  | 2 => L 3 = false → LitAt 40 S u v
  | 3 => v.ownsRow top 40 12 u (n + 1) (x1 ++ S.toList)
  | 4 => u = v2
  | 5 => u = .int .i64 e
  | 6 => L 7 = false → LitAt 29 #[.int .i64 e] u v
  | 7 => v.ownsRow top 29 1 u (n + 1) (x2 ++ [.int .i64 e])
  | 8 => u = v3
  | 9 => u = dv
  | 10 => u = .int .i64 k
  | 11 => u = dp
  | 12 => u = .int .i64 d
  | 13 => u = lv
  | 14 => u = .int .i64 j
  | 15 => u = lp
  | 16 => u = lp
  | 17 => u = .int .i64 q
  | 18 => u = .agg #[.int .i64 d, .int .i64 q]
  | 19 => L 20 = false → LitAt 43 #[.int .i64 d, .int .i64 q] u v
  | 20 => v.ownsRow top 43 2 u (n + 1) (x3 ++ [.int .i64 d, .int .i64 q])
  | 21 => v.ownsRow top 40 12 u (n + 1) (x1 ++ S.toList)
  | 22 => v.ownsRow top 29 1 u (n + 1) (x2 ++ [.int .i64 e])
  | 23 => v.ownsRow top 43 2 u (n + 1) (x3 ++ [.int .i64 d, .int .i64 q])
  | _ => True
theorem T19_keep {S : Array Value} {top n : Nat} {x1 x2 x3 : List Value} {v1 v2 v3 dv dp lv lp : Value} {k d j q e : Int} {L : Nat → Bool} {i jj : Nat} {u : Value} {v w2 : World} (hb : Below v.heap.size v w2) (h : T19 S top n x1 x2 x3 v1 v2 v3 dv dp lv lp k d j q e L jj u v) : T19 S top n x1 x2 x3 v1 v2 v3 dv dp lv lp k d j q e (upd L i) jj u w2 := by
  unfold T19 at h ⊢
  split at h <;> first
    | exact h
    | exact own_below h hb
    | exact fun h0 => (h (upd_false h0)).below hb
theorem Rows3.snoc {w : World} {top : Nat} {rs : List Tld} {v1 v2 v3 : Value} {s : St} {e d q : Int} (h1 : w.ownsRow top 40 12 v1 (rs.length + 1) (flatS rs ++ (stCells s).toList)) (h2 : w.ownsRow top 29 1 v2 (rs.length + 1) (flatX rs ++ [.int .i64 e])) (h3 : w.ownsRow top 43 2 v3 (rs.length + 1) (flatA rs ++ [.int .i64 d, .int .i64 q])) : Rows3 w top (rs ++ [⟨s, e, d, q⟩]) v1 v2 v3 :=
  ⟨by simpa [flatS] using h1, by simpa [flatX] using h2, by simpa [flatA] using h3⟩
structure G19 (w4 : World) (base top ge : Nat) (p : Prod) (l : List Ev) (n : Nat) (x1 x2 x3 : List Value) (v1 v2 v3 : Value) (S : Array Value) (g : Nat) (L : Nat → Bool) (v : World) : Prop where
  en : EnB v base top ge p l
  low : Below base w4 v
  le : top ≤ v.heap.size
  bt : base ≤ top
  r1 : L 3 = false → v.ownsRow top 40 12 v1 n x1
  r2 : L 7 = false → v.ownsRow top 29 1 v2 n x2
  r3 : L 20 = false → v.ownsRow top 43 2 v3 n x3
  row : L 1 = false → v.heap[g]? = some (.cells S 40 (0, 0))
theorem G19.start {w4 : World} {base top ge : Nat} {p : Prod} {l : List Ev} {rs : List Tld} {v1 v2 v3 : Value} {S : Array Value} {g : Nat} {v : World} (h : InSt w4 base top ge p l rs v1 v2 v3 v) (hr : v.heap[g]? = some (.cells S 40 (0, 0))) : G19 w4 base top ge p l rs.length (flatS rs) (flatX rs) (flatA rs) v1 v2 v3 S g (fun _ => false) v :=
  ⟨h.en, h.low, h.le, h.bt, fun _ => h.rows.st, fun _ => h.rows.er, fun _ => h.rows.at_, fun _ => hr⟩
theorem G19.still {w4 : World} {base top ge : Nat} {p : Prod} {l : List Ev} {n : Nat} {x1 x2 x3 : List Value} {v1 v2 v3 : Value} {S : Array Value} {g : Nat} {L : Nat → Bool} {v : World} (h : G19 w4 base top ge p l n x1 x2 x3 v1 v2 v3 S g L v) (i : Nat) : G19 w4 base top ge p l n x1 x2 x3 v1 v2 v3 S g (upd L i) v :=
  ⟨h.en, h.low, h.le, h.bt, fun h0 => h.r1 (upd_false h0), fun h0 => h.r2 (upd_false h0), fun h0 => h.r3 (upd_false h0), fun h0 => h.row (upd_false h0)⟩
theorem G19.below {w4 : World} {base top ge : Nat} {p : Prod} {l : List Ev} {n : Nat} {x1 x2 x3 : List Value} {v1 v2 v3 : Value} {S : Array Value} {g : Nat} {L : Nat → Bool} {v v' : World} (h : G19 w4 base top ge p l n x1 x2 x3 v1 v2 v3 S g L v) (hb : Below v.heap.size v v') (i : Nat) : G19 w4 base top ge p l n x1 x2 x3 v1 v2 v3 S g (upd L i) v' :=
  ⟨h.en.below hb, h.low.trans (hb.mono (by have := h.le; have := h.bt; omega)), by have := hb.size; have := h.le; omega, h.bt, fun h0 => own_below (h.r1 (upd_false h0)) hb, fun h0 => own_below (h.r2 (upd_false h0)) hb, fun h0 => own_below (h.r3 (upd_false h0)) hb, fun h0 => (hb.block _ (Array.getElem?_eq_some_iff.1 (h.row (upd_false h0))).1).trans (h.row (upd_false h0))⟩
set_option maxRecDepth 100000 in
set_option maxHeartbeats 4000000 in
theorem EngineStays_walk (p : Prod) (A : Option Addr) (n c : Nat) (E : Option Addr) (m ce : Nat) (l : List Ev) (D : Option Addr) (nd cd : Nat) (days : List Int) (w : World) (hA : RdI w A n p.bounds) (hs : p.name.size ≤ 140737488351232) (hn : n ≤ c) (hc : c * 8 ≤ 140737488351232) (hE : RdE w E m l) (hm : m ≤ ce) (hce : ce * 56 ≤ 140737488351232) (he : ∀ e ∈ l, e.loan.size ≤ 140737488351232 ∧ (-9223372036854775808 ≤ e.day ∧ e.day ≤ 9223372036854775807) ∧ (-9223372036854775808 ≤ e.seq ∧ e.seq ≤ 9223372036854775807)) (hD : RdI w D nd days) (hdn : nd ≤ cd) (hdc : cd * 8 ≤ 140737488351232) :
    Calls Try.prog 3 #[p.val (.slice A n c), .slice E m ce, .slice D nd cd] w fun e w' => e = .returned (.bool true) ∧ Below w.heap.size w w' := by
  have WK := Lib.hid wakes_any
  have CP := Lib.hid fun W (h : RdI W A n p.bounds) => Copy_any p A n c W h (by omega)
  have HA := Lib.hid hA
  have HE := Lib.hid hE
  have HD := Lib.hid hD
  have hlm := Lib.hid hE.1
  have hld := Lib.hid hD.len
  have hm12 : m ≤ 1000000000000000 := by omega
  have hn12 : n ≤ 17592186044416 := by omega
  have hd12 : nd ≤ 1000000000000000 := by omega
  have hiP : (Try.prog.info? 25).map (·.size) = some (pCells p (.slice A n c)).size := info_prod _ _
  unfold Prod.val at CP ⊢
  generalize hPC : pCells p (.slice A n c) = PC at *
  have HPC := Lib.hid hPC
  clear hPC hA hE he hD
  obtain ⟨w1, hw1⟩ : ∃ w1, w1 = w.alloc (.cells PC 25) := ⟨_, rfl⟩
  have hz1 : w1.heap.size = w.heap.size + 1 := by rw [hw1]; simp
  have hb1 : Below w.heap.size w w1 := by rw [hw1]; exact (Below.refl _ _).alloc (Nat.le_refl _) _
  have hP1 : w1.heap[w.heap.size]? = some (.cells PC 25 (0, 0)) := by rw [hw1]; exact heap_alloc_new _ _
  go_enter Try.func3, Try.ntmps3
  go_upto_region 1 with (fail)
  rw [← hw1]
  clear hw1
  go_upto_region 3 with (first
    | (go_at_call 6; refine (WK.out _).mono ?_; rintro e w2 ⟨rfl, hb2⟩))
  have hb02 := hb1.trans (hb2.mono hb1.size)
  have hP2 := (hb2.block _ (by omega)).trans hP1
  have hs2 : w.heap.size + 1 ≤ w2.heap.size := by have := hb2.size; omega
  clear hP1 hb1 hb2 WK
  go_upto_region 4 with (first
    | (refine wpList_load_row rfl 25 _ rfl _ rfl _ _ _ _ hP2 Try.underlying25 rfl hiP ?_)
    | (go_at_call 8; refine (CP.out _ (HA.out.below hb02)).mono ?_; rintro e w3 ⟨⟨A3, c3, rfl, hA3⟩, hb3⟩))
  go_at_call 7
  refine (New_b p A3 n c3 w3 hA3 (by omega)).mono ?_
  rintro e w4 ⟨hb4, hcase⟩
  have hb24 : Below w2.heap.size w2 w4 := hb3.trans (hb4.mono hb3.size)
  have hs4 := hb24.size
  rcases hcase with ⟨hno, rfl⟩ | ⟨hok, ge, rfl, hEn⟩
  · clear CP HPC hP2
    go_wp2_with fail
    go_ret
    exact ⟨rfl, hb02.trans (hb24.mono (by omega))⟩
  have hE4 := HE.out.below (hb02.trans (hb24.mono (by omega)))
  have hD4 := HD.out.below (hb02.trans (hb24.mono (by omega)))
  have HEn := Lib.hid hEn
  have hbase : w2.heap.size ≤ w3.heap.size := hb3.size
  have hb43 := hb4.size
  have HB4 := Lib.hid (hb02.trans (hb24.mono (by omega)))
  clear hb24 hb02 hb3 hb4 hP2 hA3 hEn
  generalize hbs : w3.heap.size = base at *
  obtain ⟨top, htop⟩ : ∃ top, top = w4.heap.size := ⟨_, rfl⟩
  have HTOP := Lib.hid htop
  rw [← htop] at HEn hb43
  have HS0 : Hid (InSt w4 base top ge p [] [] (.slice none 0 0) (.slice none 0 0) (.slice none 0 0) w4) := Lib.hid ⟨HEn.out, Below.refl _ _, Rows3.nil _ _, by rw [← htop]; exact Nat.le_refl _, hb43⟩
  have HKEEP : Hid (∀ W, Below base w4 W → RdE W E m l ∧ RdI W D nd days ∧ Below w.heap.size w W) := Lib.hid fun W hW => by
    refine ⟨rdE_keep hE4 fun hn ad e => hW.block _ (by have := rdE_lt HE.out hn ad e; omega), rdI_keep hD4 fun hn ad e => hW.block _ (by have := rdI_lt HD.out hn ad e; omega), HB4.out.trans (hW.mono (by omega))⟩
  have HZ : Hid (∀ v, (zeroValue 40).run Try.prog v = .ok (.agg (stCells St.zero)) v) := Lib.hid fun v => by kernel_rfl
  clear hE4 hD4 htop HEn
  go_upto_block 0 with (fail)
  go_cut [9, 10, 11, 12, 13, 14, 15] from 33 to 88 (fun v1 v2 v3 _ _ _ _ wx => ∃ lst rs, List.length rs ≤ 130 ∧ Hid (InSt w4 base top ge p lst rs v1 v2 v3 wx ∧ StayOk p lst rs))
  case first =>
    go_wp2
    go_loopw [33, 9, 10, 11] (fun t v1 v2 v3 wr => ∃ (j : Nat) (lst : List Ev) (rs : List Tld), j ≤ m ∧ j ≤ 26 ∧ rs.length ≤ j * 5 ∧ t = .int .i64 (j : Int) ∧ Hid (InSt w4 base top ge p lst rs v1 v2 v3 wr ∧ StayOk p lst rs)) (fun t _ _ _ _ => m - (intOf t).toNat)
    case atStart => exact ⟨0, [], [], Nat.zero_le _, Nat.zero_le _, Nat.le_refl _, rfl, Lib.hid ⟨HS0.out, StayOk.nil _ _⟩⟩
    case round =>
      obtain ⟨j, lst, rs, hj, hj26, hrl, rfl, HST⟩ := hrel
      obtain ⟨w5, rfl⟩ : ∃ x, x = wr := ⟨_, rfl⟩
      obtain ⟨v1, rfl⟩ : ∃ x, x = u9 := ⟨_, rfl⟩
      obtain ⟨v2, rfl⟩ : ∃ x, x = u10 := ⟨_, rfl⟩
      obtain ⟨v3, rfl⟩ : ∃ x, x = u11 := ⟨_, rfl⟩
      by_cases hlt : j < m
      · by_cases h25 : (25 : Int) < (j : Int)
        · go_wp2_with fail
          go_meet
          exact ⟨lst, rs, by omega, HST⟩
        · obtain ⟨hrd, _, _⟩ := HKEEP.out w5 HST.out.1.low
          obtain ⟨bE, oE, rfl, hcs⟩ := hrd.2 (by omega)
          have hjl : j < l.length := by have := hlm.out; omega
          have hrow := hcs j hjl
          have ADD := Lib.hid (Add_b HST.out.1.en l[j] (by have := HST.out.1.le; have := HST.out.1.bt; omega))
          have HSO := Lib.hid (HST.out.2.add l[j])
          have hie := info_ev l[j]
          have hmid : w5.rangeAt bE (oE + j * 6) (evCells l[j]).toList := fun q u hu => hrow q u (by simpa using hu)
          have hi6 : (Try.prog.info? 38).map (·.size) = some (evCells l[j]).toList.length := by rw [show (evCells l[j]).toList.length = 6 from rfl]; kernel_rfl
          have HQS : Hid (addAns lst l[j] = 0 → l[j].seq ≤ lastSeq (addTo lst l[j])) := Lib.hid fun h => by unfold addTo; rw [if_pos h, lastSeq_snoc]; exact Int.le_refl _
          have HSEQ : Hid (∀ W, Below base w4 W → W.cell? ⟨bE, oE + j * 6, none⟩ = some (.int .i64 l[j].seq)) := Lib.hid fun W hW => by
            obtain ⟨hrd, _, _⟩ := HKEEP.out W hW
            obtain ⟨b0, o0, e0, hcs⟩ := hrd.2 (by omega)
            injection e0 with e0
            injection e0 with e1 e2
            subst e1 e2
            exact hcs j hjl 0 _ rfl
          clear hrd hcs hrow
          unfold Ev.val at ADD
          obtain ⟨q, hq⟩ : ∃ q, q = l[j].seq := ⟨_, rfl⟩
          rw [← hq] at HQS HSEQ
          clear hq
          generalize l[j] = e at *
          generalize hl2 : addTo lst e = l2 at *
          generalize hr2 : addAns lst e = r at *
          clear hl2 hr2
          rcases (show r = 0 ∨ (r != 0) = true by by_cases h : r = 0; exact .inl h; exact .inr (by simpa using h)) with rfl | hrc
          · go_upto_region 14 with (first
              | (refine wpList_load_mid rfl 38 _ rfl bE (oE + j * 6) rfl (evCells e).toList _ hmid Try.underlying38 rfl hi6 ?_)
              | (go_at_call 9; refine ADD.out.mono ?_; rintro x w6 ⟨rfl, hk6, hE6⟩))
            have HS6 : Hid (InSt w4 base top ge p l2 rs v1 v2 v3 w6 ∧ StayOk p l2 rs) := Lib.hid ⟨HST.out.1.ek hk6 hE6, HSO.out⟩
            clear ADD hk6 hE6 hmid hi6 hie HST HSO
            go_upto_block 2 with (fail)
            go_wp2
            go_loopw [47, 9, 10, 11] (fun t v1 v2 v3 wr => ∃ (k : Nat) (rs' : List Tld), k ≤ nd ∧ k ≤ 5 ∧ rs'.length ≤ rs.length + k ∧ t = .int .i64 (k : Int) ∧ Hid (InSt w4 base top ge p l2 rs' v1 v2 v3 wr ∧ StayOk p l2 rs')) (fun t _ _ _ _ => nd - (intOf t).toNat)
            case atStart => exact ⟨0, rs, Nat.zero_le _, Nat.zero_le _, Nat.le_refl _, rfl, HS6⟩
            case round =>
              clear HS6
              obtain ⟨rs0, hrs0⟩ : ∃ x : Nat, x = rs.length := ⟨_, rfl⟩
              rw [← hrs0] at hrl
              obtain ⟨k, rs', hk, hk5, hrl', rfl, HST'⟩ := hrel
              rw [← hrs0] at hrl'
              obtain ⟨w7, rfl⟩ : ∃ x, x = wr := ⟨_, rfl⟩
              obtain ⟨y1, rfl⟩ : ∃ x, x = u9 := ⟨_, rfl⟩
              obtain ⟨y2, rfl⟩ : ∃ x, x = u10 := ⟨_, rfl⟩
              obtain ⟨y3, rfl⟩ : ∃ x, x = u11 := ⟨_, rfl⟩
              by_cases hlt2 : k < nd
              · by_cases h4 : (4 : Int) < (k : Int)
                · go_wp2_with fail
                  go_roundw
                  case rel => exact ⟨j + 1, l2, rs', by omega, by omega, by omega, by go_num, HST'⟩
                  case measure => simp [intOf]; omega
                · obtain ⟨_, hrD, _⟩ := HKEEP.out w7 HST'.out.1.low
                  have hkl : k < days.length := by have := hld.out; omega
                  obtain ⟨bD, oD, rfl, _⟩ := hrD.2 (by rw [List.length_map]; omega)
                  obtain ⟨d, hd⟩ : ∃ d, d = days[k] := ⟨_, rfl⟩
                  have HIN : Hid (∀ W, Below base w4 W → W.cell? ⟨bD, oD + k, none⟩ = some (.int .i64 d) ∧ W.cell? ⟨bE, oE + j * 6, none⟩ = some (.int .i64 q)) := Lib.hid fun W hW => by
                    obtain ⟨_, hrD, _⟩ := HKEEP.out W hW
                    obtain ⟨b0, o0, e0, hcs⟩ := hrD.2 (by rw [List.length_map]; omega)
                    injection e0 with e0
                    injection e0 with e1 e2
                    subst e1 e2
                    exact ⟨hcs k _ (by rw [hd]; simp [hkl]), HSEQ.out W hW⟩
                  have AS0 := fun W (hW : EnB W base top ge p l2) => AsOf_b hW d q
                  obtain ⟨s, er, hans⟩ : ∃ s e, replayAns p (knownOf l2 q) d = (s, e) := ⟨_, _, rfl⟩
                  simp only [hans] at AS0
                  unfold St.val at AS0
                  have AS := Lib.hid AS0
                  have HANS := Lib.hid hans
                  have hsi := info_st s
                  have hso := st_one s
                  have hso1 : ∀ u ∈ (stCells s).toList, u.oneCell' = true := fun u hu => by
                    have := Array.all_eq_true'.1 hso u (by simpa using hu)
                    exact this
                  have HZS : Hid ((stCells St.zero).size = (stCells s).size) := Lib.hid rfl
                  have HLS := Lib.hid fun v => lit_st s v
                  have HS12 : Hid ((stCells s).size = 12) := Lib.hid rfl
                  have HSNOC := Lib.hid fun w (v1 v2 v3 : Value) => @Rows3.snoc w top rs' v1 v2 v3 s er d q
                  have HOK : Hid (StayOk p l2 (rs' ++ [⟨s, er, d, q⟩])) := Lib.hid (HST'.out.2.snoc ⟨s, er, d, q⟩ hans (HQS.out trivial))
                  have hlen : rs'.length ≤ 1000000 := by omega
                  have HS7 := Lib.hid HST'.out.1
                  clear hd AS0 hrD hans HST'
                  generalize hSC : stCells s = S at *
                  generalize hZC : stCells St.zero = Z at *
                  clear hSC hZC
                  go_upto_region 18 with (fail)
                  go_cut [14, 15] from 52 to 65 (fun t14 t15 wx => ∃ g : Nat, t14 = .pointer (some ⟨g, 0, none⟩) ∧ t15 = .int .i64 er ∧ Hid (InSt w4 base top ge p l2 rs' y1 y2 y3 wx) ∧ Hid (wx.heap[g]? = some (.cells S 40 (0, 0))))
                  case first =>
                    refine region_letters fun a Q ha hQ => ?_
                    have HA' := Lib.hid ha
                    have HQ := Lib.hid hQ
                    have e7 : a.eval (.tmp 7) = .pointer (some ⟨ge, 0, none⟩) := by rw [ha]; rfl
                    have e2 : a.eval (.tmp 2) = .slice (some ⟨bD, oD, none⟩) nd cd := by rw [ha]; rfl
                    have e13 : a.eval (.tmp 13) = .int .i64 (k : Int) := by rw [ha]; rfl
                    have e1 : a.eval (.tmp 1) = .slice (some ⟨bE, oE, none⟩) m ce := by rw [ha]; rfl
                    have e12 : a.eval (.tmp 12) = .int .i64 (j : Int) := by rw [ha]; rfl
                    have hszA : a.tmps.size = 124 := by rw [ha]; rfl
                    clear ha hQ
                    refine region_opsN (by kernel_rfl) [53, 54, 55, 56, 57, 58, 59, 60, 61, 62, 63, 52, 64, 65, 14, 15] (GS w4 base top ge p l2 rs' y1 y2 y3) (T18 ge (.tuple #[.agg S, .int .i64 er]) S Z top y1 (.slice (some ⟨bD, oD, none⟩) nd cd) (.pointer (some ⟨bD, oD + k, none⟩)) (.slice (some ⟨bE, oE, none⟩) m ce) (.pointer (some ⟨bE, oE + j * 6, none⟩)) k d j q er) (by kernel_rfl) (fun t h => by rw [hszA] at h; simp; omega) (HS7.out.below ((Below.refl _ _).drew)) ⟨?_, ?_, ?_, ?_, ?_, ?_, ?_, ?_, ?_, ?_, ?_, ?_, ?_, ?_, ?_, ?_, ?_, trivial⟩ ?_
                    · intro L b v hi hdep hcl hf hn hg ht
                      have hg : InSt w4 base top ge p l2 rs' y1 y2 y3 v := hg
                      have x0 : b.eval (.tmp 7) = .pointer (some ⟨ge, 0, none⟩) := by rw [hf.eval (by decide)]; exact e7
                      exact still_ok (.pointer (some ⟨ge, 0, none⟩)) (by rw [exec_move (.tmp 7) rfl, x0]) (hg) (rfl) (fun j oj d hoj hd hji hlj h => T18_keep (base := base) (show (0 : Nat) ≠ 15 by decide) (EK.of_below (Below.refl _ _)) h)
                    · intro L b v hi hdep hcl hf hn hg ht
                      have hg : InSt w4 base top ge p l2 rs' y1 y2 y3 v := hg
                      have x0 : b.eval (.tmp 2) = .slice (some ⟨bD, oD, none⟩) nd cd := by rw [hf.eval (by decide)]; exact e2
                      exact still_ok (.slice (some ⟨bD, oD, none⟩) nd cd) (by rw [exec_move (.tmp 2) rfl, x0]) (hg) (rfl) (fun j oj d hoj hd hji hlj h => T18_keep (base := base) (show (1 : Nat) ≠ 15 by decide) (EK.of_below (Below.refl _ _)) h)
                    · intro L b v hi hdep hcl hf hn hg ht
                      have hg : InSt w4 base top ge p l2 rs' y1 y2 y3 v := hg
                      have x0 : b.eval (.tmp 13) = .int .i64 (k : Int) := by rw [hf.eval (by decide)]; exact e13
                      exact still_ok (.int .i64 (k : Int)) (by rw [exec_move (.tmp 13) rfl, x0]) (hg) (rfl) (fun j oj d hoj hd hji hlj h => T18_keep (base := base) (show (2 : Nat) ≠ 15 by decide) (EK.of_below (Below.refl _ _)) h)
                    · intro L b v hi hdep hcl hf hn hg ht
                      have hg : InSt w4 base top ge p l2 rs' y1 y2 y3 v := hg
                      have x0 : b.eval (.tmp 54) = .slice (some ⟨bD, oD, none⟩) nd cd := ht 1 _ 54 rfl rfl (hdep 1 (by decide))
                      have x1 : b.eval (.tmp 55) = .int .i64 (k : Int) := ht 2 _ 55 rfl rfl (hdep 2 (by decide))
                      exact still_ok (.pointer (some ⟨bD, oD + k, none⟩)) (by unfold execOp; simp only [x0, x1]; go_simp) (hg) (rfl) (fun j oj d hoj hd hji hlj h => T18_keep (base := base) (show (3 : Nat) ≠ 15 by decide) (EK.of_below (Below.refl _ _)) h)
                    · intro L b v hi hdep hcl hf hn hg ht
                      have hg : InSt w4 base top ge p l2 rs' y1 y2 y3 v := hg
                      have x0 : b.eval (.tmp 56) = .pointer (some ⟨bD, oD + k, none⟩) := ht 3 _ 56 rfl rfl (hdep 3 (by decide))
                      have hc := HIN.out v hg.low
                      have hc' := hc.1
                      exact still_ok (.int .i64 d) (by unfold execOp; simp only [x0]; go_simp) (hg) (rfl) (fun j oj d hoj hd hji hlj h => T18_keep (base := base) (show (4 : Nat) ≠ 15 by decide) (EK.of_below (Below.refl _ _)) h)
                    · intro L b v hi hdep hcl hf hn hg ht
                      have hg : InSt w4 base top ge p l2 rs' y1 y2 y3 v := hg
                      have x0 : b.eval (.tmp 1) = .slice (some ⟨bE, oE, none⟩) m ce := by rw [hf.eval (by decide)]; exact e1
                      exact still_ok (.slice (some ⟨bE, oE, none⟩) m ce) (by rw [exec_move (.tmp 1) rfl, x0]) (hg) (rfl) (fun j oj d hoj hd hji hlj h => T18_keep (base := base) (show (5 : Nat) ≠ 15 by decide) (EK.of_below (Below.refl _ _)) h)
                    · intro L b v hi hdep hcl hf hn hg ht
                      have hg : InSt w4 base top ge p l2 rs' y1 y2 y3 v := hg
                      have x0 : b.eval (.tmp 12) = .int .i64 (j : Int) := by rw [hf.eval (by decide)]; exact e12
                      exact still_ok (.int .i64 (j : Int)) (by rw [exec_move (.tmp 12) rfl, x0]) (hg) (rfl) (fun j oj d hoj hd hji hlj h => T18_keep (base := base) (show (6 : Nat) ≠ 15 by decide) (EK.of_below (Below.refl _ _)) h)
                    · intro L b v hi hdep hcl hf hn hg ht
                      have hg : InSt w4 base top ge p l2 rs' y1 y2 y3 v := hg
                      have x0 : b.eval (.tmp 58) = .slice (some ⟨bE, oE, none⟩) m ce := ht 5 _ 58 rfl rfl (hdep 5 (by decide))
                      have x1 : b.eval (.tmp 59) = .int .i64 (j : Int) := ht 6 _ 59 rfl rfl (hdep 6 (by decide))
                      exact still_ok (.pointer (some ⟨bE, oE + j * 6, none⟩)) (by unfold execOp; simp only [x0, x1]; go_simp) (hg) (rfl) (fun j oj d hoj hd hji hlj h => T18_keep (base := base) (show (7 : Nat) ≠ 15 by decide) (EK.of_below (Below.refl _ _)) h)
                    · intro L b v hi hdep hcl hf hn hg ht
                      have hg : InSt w4 base top ge p l2 rs' y1 y2 y3 v := hg
                      have x0 : b.eval (.tmp 60) = .pointer (some ⟨bE, oE + j * 6, none⟩) := ht 7 _ 60 rfl rfl (hdep 7 (by decide))
                      exact still_ok (.pointer (some ⟨bE, oE + j * 6, none⟩)) (by unfold execOp; simp only [x0]; go_simp) (hg) (rfl) (fun j oj d hoj hd hji hlj h => T18_keep (base := base) (show (8 : Nat) ≠ 15 by decide) (EK.of_below (Below.refl _ _)) h)
                    · intro L b v hi hdep hcl hf hn hg ht
                      have hg : InSt w4 base top ge p l2 rs' y1 y2 y3 v := hg
                      have x0 : b.eval (.tmp 61) = .pointer (some ⟨bE, oE + j * 6, none⟩) := ht 8 _ 61 rfl rfl (hdep 8 (by decide))
                      have hc := HIN.out v hg.low
                      have hc' := hc.2
                      exact still_ok (.int .i64 q) (by unfold execOp; simp only [x0]; go_simp) (hg) (rfl) (fun j oj d hoj hd hji hlj h => T18_keep (base := base) (show (9 : Nat) ≠ 15 by decide) (EK.of_below (Below.refl _ _)) h)
                    · intro L b v hi hdep hcl hf hn hg ht
                      have hg : InSt w4 base top ge p l2 rs' y1 y2 y3 v := hg
                      have x0 : b.eval (.tmp 53) = .pointer (some ⟨ge, 0, none⟩) := ht 0 _ 53 rfl rfl (hdep 0 (by decide))
                      have x1 : b.eval (.tmp 57) = .int .i64 d := ht 4 _ 57 rfl rfl (hdep 4 (by decide))
                      have x2 : b.eval (.tmp 62) = .int .i64 q := ht 9 _ 62 rfl rfl (hdep 9 (by decide))
                      refine call_ok 10 #[.tmp 53, .tmp 57, .tmp 62] _ rfl #[.pointer (some ⟨ge, 0, none⟩), .int .i64 d, .int .i64 q] (by simp [x0, x1, x2]) (enters_of Try.func10 (by kernel_rfl) rfl) ((AS.out v hg.en).mono ?_)
                      rintro r w2 ⟨rfl, hk2, hE2⟩
                      exact ⟨_, rfl, hg.ek hk2 hE2, rfl, fun j oj d hoj hd hji hlj h => T18_keep (show (10 : Nat) ≠ 15 by decide) hk2 h⟩
                    · intro L b v hi hdep hcl hf hn hg ht
                      have hg : InSt w4 base top ge p l2 rs' y1 y2 y3 v := hg
                      have x0 : b.eval (.tmp 63) = .tuple #[.agg S, .int .i64 er] := ht 10 _ 63 rfl rfl (hdep 10 (by decide))
                      exact still_ok (.tuple #[.agg S, .int .i64 er]) (by rw [exec_move (.tmp 63) rfl, x0]) (hg) (rfl) (fun j oj d hoj hd hji hlj h => T18_keep (base := base) (show (11 : Nat) ≠ 15 by decide) (EK.of_below (Below.refl _ _)) h)
                    · intro L b v hi hdep hcl hf hn hg ht
                      have hg : InSt w4 base top ge p l2 rs' y1 y2 y3 v := hg
                      have x0 : b.eval (.tmp 52) = .tuple #[.agg S, .int .i64 er] := ht 11 _ 52 rfl rfl (hdep 11 (by decide))
                      exact still_ok (.agg S) (exec_extract (.tmp 52) 0 rfl _ _ x0 rfl) (hg) (rfl) (fun j oj d hoj hd hji hlj h => T18_keep (base := base) (show (12 : Nat) ≠ 15 by decide) (EK.of_below (Below.refl _ _)) h)
                    · intro L b v hi hdep hcl hf hn hg ht
                      have hg : InSt w4 base top ge p l2 rs' y1 y2 y3 v := hg
                      have x0 : b.eval (.tmp 52) = .tuple #[.agg S, .int .i64 er] := ht 11 _ 52 rfl rfl (hdep 11 (by decide))
                      exact still_ok (.int .i64 er) (exec_extract (.tmp 52) 1 rfl _ _ x0 rfl) (hg) (rfl) (fun j oj d hoj hd hji hlj h => T18_keep (base := base) (show (13 : Nat) ≠ 15 by decide) (EK.of_below (Below.refl _ _)) h)
                    · intro L b v hi hdep hcl hf hn hg ht
                      have hg : InSt w4 base top ge p l2 rs' y1 y2 y3 v := hg
                      have hb2 : Below v.heap.size v (v.alloc (.cells Z 40)) := (Below.refl _ _).alloc (Nat.le_refl _) _
                      have hst : L 15 = false := by
                        cases h : L 15 with
                        | false => rfl
                        | true => rw [hcl 15 _ 14 rfl h (by decide)] at hi; cases hi
                      refine makes_ok _ (exec_alloc 40 rfl Z (HZ.out v)) (hg.below hb2) ⟨v.heap.size, rfl, hg.le, ?_, ?_⟩ (fun j oj d hoj hd hji hlj h => ?_)
                      · exact fun h0 => by have := (ownE_block hg.rows.st h0).1; omega
                      · rw [upd_other (by decide), hst]; exact heap_alloc_new _ _
                      · by_cases h7 : j = 14
                        · exact absurd h7 hji
                        · unfold T18 at h ⊢
                          split at h <;> first | exact h | exact absurd rfl h7
                    · intro L b v hi hdep hcl hf hn hg ht
                      have hg : InSt w4 base top ge p l2 rs' y1 y2 y3 v := hg
                      have x0 : b.eval (.tmp 64) = .agg S := ht 12 _ 64 rfl rfl (hdep 12 (by decide))
                      have x1 : BoxAt S Z top y1 (L 15) (b.eval (.tmp 14)) v := ht 14 _ 14 rfl rfl (hdep 14 (by decide))
                      obtain ⟨g, x1, hgt, hne, hrg⟩ := x1
                      rw [hi] at hrg
                      refine skip_ok (exec_store_row 40 (.tmp 14) (.tmp 64) rfl g S x1 x0 _ _ hrg hsi HZS.out hso) (hg.setSt hgt hne hrg) trivial ?_
                      intro j oj d hoj hd hj _ h
                      unfold T18 at h ⊢
                      split at h <;> try exact h
                      obtain rfl : d = 14 := by
                        have h7 : (some 14 : Option Nat) = some d := dst_at hoj hd rfl
                        injection h7 with h7
                        exact h7.symm
                      refine ⟨g, x1, hgt, hne, ?_⟩
                      rw [upd_self, if_pos rfl]
                      exact setRow_heap _ _ _ _ _ _ hrg
                    · intro L b v hi hdep hcl hf hn hg ht
                      have hg : InSt w4 base top ge p l2 rs' y1 y2 y3 v := hg
                      have x0 : b.eval (.tmp 65) = .int .i64 er := ht 13 _ 65 rfl rfl (hdep 13 (by decide))
                      exact still_ok (.int .i64 er) (by rw [exec_assign (.tmp 65) rfl, x0]) (hg) (rfl) (fun j oj d hoj hd hji hlj h => T18_keep (base := base) (show (16 : Nat) ≠ 15 by decide) (EK.of_below (Below.refl _ _)) h)
                    · intro b v hf hg ht
                      have hg : InSt w4 base top ge p l2 rs' y1 y2 y3 v := hg
                      obtain ⟨g, x1, hgt, hne, hrg⟩ : BoxAt S Z top y1 (decide (15 < 17)) (b.eval (.tmp 14)) v := ht 14 _ 14 rfl rfl
                      have x2 : b.eval (.tmp 15) = .int .i64 er := ht 16 _ 15 rfl rfl
                      refine HQ.out b v ?_
                      rw [hf.out]
                      simp only [List.foldl_cons, List.foldl_nil, x1, x2]
                      rw [HA'.out]
                      generalize b.eval (.tmp 53) = u53
                      generalize b.eval (.tmp 54) = u54
                      generalize b.eval (.tmp 55) = u55
                      generalize b.eval (.tmp 56) = u56
                      generalize b.eval (.tmp 57) = u57
                      generalize b.eval (.tmp 58) = u58
                      generalize b.eval (.tmp 59) = u59
                      generalize b.eval (.tmp 60) = u60
                      generalize b.eval (.tmp 61) = u61
                      generalize b.eval (.tmp 62) = u62
                      generalize b.eval (.tmp 63) = u63
                      generalize b.eval (.tmp 52) = u52
                      generalize b.eval (.tmp 64) = u64
                      generalize b.eval (.tmp 65) = u65
                      simp only [Act.put, List.setIfInBounds_toArray, List.set_cons_succ, List.set_cons_zero]
                      go_wp2_with fail
                      go_meet
                      exact ⟨g, rfl, rfl, Lib.hid hg, Lib.hid (by simpa using hrg)⟩
                  case rest =>
                    obtain ⟨g, rfl, rfl, HS8, HR8⟩ := hcut
                    obtain ⟨w8, rfl⟩ : ∃ x, x = wc := ⟨_, rfl⟩
                    clear HS7 AS
                    go_upto_region 19 with (fail)
                    refine region_letters fun a Q ha hQ => ?_
                    have HA' := Lib.hid ha
                    have HQ := Lib.hid hQ
                    have e2 : a.eval (.tmp 2) = .slice (some ⟨bD, oD, none⟩) nd cd := by rw [ha]; rfl
                    have e13 : a.eval (.tmp 13) = .int .i64 (k : Int) := by rw [ha]; rfl
                    have e1 : a.eval (.tmp 1) = .slice (some ⟨bE, oE, none⟩) m ce := by rw [ha]; rfl
                    have e12 : a.eval (.tmp 12) = .int .i64 (j : Int) := by rw [ha]; rfl
                    have e9 : a.eval (.tmp 9) = y1 := by rw [ha]; rfl
                    have e10 : a.eval (.tmp 10) = y2 := by rw [ha]; rfl
                    have e11 : a.eval (.tmp 11) = y3 := by rw [ha]; rfl
                    have e14 : a.eval (.tmp 14) = .pointer (some ⟨g, 0, none⟩) := by rw [ha]; rfl
                    have e15 : a.eval (.tmp 15) = .int .i64 er := by rw [ha]; rfl
                    have hszA : a.tmps.size = 124 := by rw [ha]; rfl
                    clear ha hQ
                    refine region_opsN (by kernel_rfl) [66, 67, 68, 69, 70, 71, 72, 73, 74, 75, 76, 77, 78, 79, 80, 81, 82, 83, 84, 85, 86, 9, 10, 11] (G19 w4 base top ge p l2 rs'.length (flatS rs') (flatX rs') (flatA rs') y1 y2 y3 S g) (T19 S top rs'.length (flatS rs') (flatX rs') (flatA rs') y1 y2 y3 (.slice (some ⟨bD, oD, none⟩) nd cd) (.pointer (some ⟨bD, oD + k, none⟩)) (.slice (some ⟨bE, oE, none⟩) m ce) (.pointer (some ⟨bE, oE + j * 6, none⟩)) k d j q er) (by kernel_rfl) (fun t h => by rw [hszA] at h; simp; omega) (G19.start (HS8.out.below ((Below.refl _ _).drew)) HR8.out) ⟨?_, ?_, ?_, ?_, ?_, ?_, ?_, ?_, ?_, ?_, ?_, ?_, ?_, ?_, ?_, ?_, ?_, ?_, ?_, ?_, ?_, ?_, ?_, ?_, trivial⟩ ?_
                    · intro L b v hi hdep hcl hf hn hg ht
                      have hg : G19 w4 base top ge p l2 rs'.length (flatS rs') (flatX rs') (flatA rs') y1 y2 y3 S g L v := hg
                      have x0 : b.eval (.tmp 9) = y1 := by
                        have h1 : L 21 = false := by
                          cases h0 : L 21 with
                          | false => rfl
                          | true => exact absurd (hcl 3 _ 0 rfl (hcl 21 _ 3 rfl (h0) (by decide)) (by decide)) (by rw [hi]; decide)
                        rw [hn 21 _ 9 rfl rfl h1]; exact e9
                      exact still_ok (y1) (by rw [exec_move (.tmp 9) rfl, x0]) (hg.still _) (rfl) (fun j oj d hoj hd hji hlj h => T19_keep (Below.refl _ _) h)
                    · intro L b v hi hdep hcl hf hn hg ht
                      have hg : G19 w4 base top ge p l2 rs'.length (flatS rs') (flatX rs') (flatA rs') y1 y2 y3 S g L v := hg
                      have x0 : b.eval (.tmp 14) = .pointer (some ⟨g, 0, none⟩) := by rw [hf.eval (by decide)]; exact e14
                      exact still_ok (.agg S) (exec_row 40 (.tmp 14) rfl g x0 _ _ _ _ (hg.row hi) Try.underlying40 rfl hsi) (hg.still _) rfl (fun j oj d hoj hd hji hlj h => T19_keep (Below.refl _ _) h)
                    · intro L b v hi hdep hcl hf hn hg ht
                      have hg : G19 w4 base top ge p l2 rs'.length (flatS rs') (flatX rs') (flatA rs') y1 y2 y3 S g L v := hg
                      have x0 : b.eval (.tmp 67) = .agg S := ht 1 _ 67 rfl rfl (hdep 1 (by decide))
                      have hb2 : Below v.heap.size v (v.alloc (.cells S 40)) := (Below.refl _ _).alloc (Nat.le_refl _) _
                      exact makes_ok _ (exec_lit1 33 (.tmp 67) rfl _ _ x0 (HLS.out v)) (hg.below hb2 _) (fun _ => ⟨v.heap.size, rfl, heap_alloc_new _ _⟩) (fun j oj d hoj hd hji hlj h => T19_keep hb2 h)
                    · intro L b v hi hdep hcl hf hn hg ht
                      have hg : G19 w4 base top ge p l2 rs'.length (flatS rs') (flatX rs') (flatA rs') y1 y2 y3 S g L v := hg
                      have x0 : b.eval (.tmp 66) = y1 := ht 0 _ 66 rfl rfl (hdep 0 (by decide))
                      have x1 : L 3 = false → LitAt 40 S (b.eval (.tmp 68)) v := ht 2 _ 68 rfl rfl (hdep 2 (by decide))
                      obtain ⟨g1, x1, hr1⟩ := x1 hi
                      have ho := hg.r1 hi
                      obtain ⟨u, w2, hrun, hown, hgr⟩ := app_row infoStZ Try.underlying33 rfl (by decide) (by decide) ho hr1 HS12.out hso1 hlen (by have := hg.le; omega)
                      have hb2 : Below base w4 w2 := below_grown hg.low ho hg.bt hgr (by have := hg.le; have := hg.bt; omega)
                      have hse := hgr.size
                      refine makes_ok u (exec_append (.tmp 66) (.tmp 68) 33 rfl _ _ u x0 x1 hrun) ⟨hg.en.grown ho (Nat.le_refl _) (by decide) (by decide) hgr, hb2, by have := hg.le; omega, hg.bt, (fun h0 => by rw [upd_self] at h0; cases h0), (fun h0 => own_apart (hg.r2 (upd_false h0)) ho (by decide) hgr), (fun h0 => own_apart (hg.r3 (upd_false h0)) ho (by decide) hgr), (fun h0 => absurd (hcl 2 _ 1 rfl (hdep 2 (by decide)) (by decide)) (by rw [upd_false h0]; decide))⟩ hown (fun jj oj d hoj hd hji hlj h => ?_)
                      unfold T19 at h ⊢
                      split at h <;> first
                        | exact h
                        | exact absurd rfl hji
                        | exact own_apart h ho (by decide) hgr
                        | exact fun h0 => (h (upd_false h0)).apart ho (by decide) hgr
                        | (intro h0; rw [upd_self] at h0; cases h0)
                        | exact absurd (hcl 21 _ 3 rfl hlj (by decide)) (by rw [hi]; decide)
                    · intro L b v hi hdep hcl hf hn hg ht
                      have hg : G19 w4 base top ge p l2 rs'.length (flatS rs') (flatX rs') (flatA rs') y1 y2 y3 S g L v := hg
                      have x0 : b.eval (.tmp 10) = y2 := by
                        have h1 : L 22 = false := by
                          cases h0 : L 22 with
                          | false => rfl
                          | true => exact absurd (hcl 7 _ 4 rfl (hcl 22 _ 7 rfl (h0) (by decide)) (by decide)) (by rw [hi]; decide)
                        rw [hn 22 _ 10 rfl rfl h1]; exact e10
                      exact still_ok (y2) (by rw [exec_move (.tmp 10) rfl, x0]) (hg.still _) (rfl) (fun j oj d hoj hd hji hlj h => T19_keep (Below.refl _ _) h)
                    · intro L b v hi hdep hcl hf hn hg ht
                      have hg : G19 w4 base top ge p l2 rs'.length (flatS rs') (flatX rs') (flatA rs') y1 y2 y3 S g L v := hg
                      have x0 : b.eval (.tmp 15) = .int .i64 er := by rw [hf.eval (by decide)]; exact e15
                      exact still_ok (.int .i64 er) (by rw [exec_move (.tmp 15) rfl, x0]) (hg.still _) (rfl) (fun j oj d hoj hd hji hlj h => T19_keep (Below.refl _ _) h)
                    · intro L b v hi hdep hcl hf hn hg ht
                      have hg : G19 w4 base top ge p l2 rs'.length (flatS rs') (flatX rs') (flatA rs') y1 y2 y3 S g L v := hg
                      have x0 : b.eval (.tmp 71) = .int .i64 er := ht 5 _ 71 rfl rfl (hdep 5 (by decide))
                      have hb2 : Below v.heap.size v (v.alloc (.cells #[.int .i64 er] 29)) := (Below.refl _ _).alloc (Nat.le_refl _) _
                      exact makes_ok _ (exec_lit1 34 (.tmp 71) rfl _ _ x0 (lit_er er v)) (hg.below hb2 _) (fun _ => ⟨v.heap.size, rfl, heap_alloc_new _ _⟩) (fun j oj d hoj hd hji hlj h => T19_keep hb2 h)
                    · intro L b v hi hdep hcl hf hn hg ht
                      have hg : G19 w4 base top ge p l2 rs'.length (flatS rs') (flatX rs') (flatA rs') y1 y2 y3 S g L v := hg
                      have x0 : b.eval (.tmp 70) = y2 := ht 4 _ 70 rfl rfl (hdep 4 (by decide))
                      have x1 : L 7 = false → LitAt 29 #[.int .i64 er] (b.eval (.tmp 72)) v := ht 6 _ 72 rfl rfl (hdep 6 (by decide))
                      obtain ⟨g1, x1, hr1⟩ := x1 hi
                      have ho := hg.r2 hi
                      obtain ⟨u, w2, hrun, hown, hgr⟩ := app_row infoErr Try.underlying34 rfl (by decide) (by decide) ho hr1 rfl (by simp [Value.oneCell']) hlen (by have := hg.le; omega)
                      have hb2 : Below base w4 w2 := below_grown hg.low ho hg.bt hgr (by have := hg.le; have := hg.bt; omega)
                      have hse := hgr.size
                      refine makes_ok u (exec_append (.tmp 70) (.tmp 72) 34 rfl _ _ u x0 x1 hrun) ⟨hg.en.grown ho (Nat.le_refl _) (by decide) (by decide) hgr, hb2, by have := hg.le; omega, hg.bt, (fun h0 => own_apart (hg.r1 (upd_false h0)) ho (by decide) hgr), (fun h0 => by rw [upd_self] at h0; cases h0), (fun h0 => own_apart (hg.r3 (upd_false h0)) ho (by decide) hgr), (fun h0 => cells_apart (hg.row (upd_false h0)) ho (by decide) hgr)⟩ hown (fun jj oj d hoj hd hji hlj h => ?_)
                      unfold T19 at h ⊢
                      split at h <;> first
                        | exact h
                        | exact absurd rfl hji
                        | exact own_apart h ho (by decide) hgr
                        | exact fun h0 => (h (upd_false h0)).apart ho (by decide) hgr
                        | (intro h0; rw [upd_self] at h0; cases h0)
                        | exact absurd (hcl 22 _ 7 rfl hlj (by decide)) (by rw [hi]; decide)
                    · intro L b v hi hdep hcl hf hn hg ht
                      have hg : G19 w4 base top ge p l2 rs'.length (flatS rs') (flatX rs') (flatA rs') y1 y2 y3 S g L v := hg
                      have x0 : b.eval (.tmp 11) = y3 := by
                        have h1 : L 23 = false := by
                          cases h0 : L 23 with
                          | false => rfl
                          | true => exact absurd (hcl 20 _ 8 rfl (hcl 23 _ 20 rfl (h0) (by decide)) (by decide)) (by rw [hi]; decide)
                        rw [hn 23 _ 11 rfl rfl h1]; exact e11
                      exact still_ok (y3) (by rw [exec_move (.tmp 11) rfl, x0]) (hg.still _) (rfl) (fun j oj d hoj hd hji hlj h => T19_keep (Below.refl _ _) h)
                    · intro L b v hi hdep hcl hf hn hg ht
                      have hg : G19 w4 base top ge p l2 rs'.length (flatS rs') (flatX rs') (flatA rs') y1 y2 y3 S g L v := hg
                      have x0 : b.eval (.tmp 2) = .slice (some ⟨bD, oD, none⟩) nd cd := by rw [hf.eval (by decide)]; exact e2
                      exact still_ok (.slice (some ⟨bD, oD, none⟩) nd cd) (by rw [exec_move (.tmp 2) rfl, x0]) (hg.still _) (rfl) (fun j oj d hoj hd hji hlj h => T19_keep (Below.refl _ _) h)
                    · intro L b v hi hdep hcl hf hn hg ht
                      have hg : G19 w4 base top ge p l2 rs'.length (flatS rs') (flatX rs') (flatA rs') y1 y2 y3 S g L v := hg
                      have x0 : b.eval (.tmp 13) = .int .i64 (k : Int) := by rw [hf.eval (by decide)]; exact e13
                      exact still_ok (.int .i64 (k : Int)) (by rw [exec_move (.tmp 13) rfl, x0]) (hg.still _) (rfl) (fun j oj d hoj hd hji hlj h => T19_keep (Below.refl _ _) h)
                    · intro L b v hi hdep hcl hf hn hg ht
                      have hg : G19 w4 base top ge p l2 rs'.length (flatS rs') (flatX rs') (flatA rs') y1 y2 y3 S g L v := hg
                      have x0 : b.eval (.tmp 75) = .slice (some ⟨bD, oD, none⟩) nd cd := ht 9 _ 75 rfl rfl (hdep 9 (by decide))
                      have x1 : b.eval (.tmp 76) = .int .i64 (k : Int) := ht 10 _ 76 rfl rfl (hdep 10 (by decide))
                      exact still_ok (.pointer (some ⟨bD, oD + k, none⟩)) (by unfold execOp; simp only [x0, x1]; go_simp) (hg.still _) (rfl) (fun j oj d hoj hd hji hlj h => T19_keep (Below.refl _ _) h)
                    · intro L b v hi hdep hcl hf hn hg ht
                      have hg : G19 w4 base top ge p l2 rs'.length (flatS rs') (flatX rs') (flatA rs') y1 y2 y3 S g L v := hg
                      have x0 : b.eval (.tmp 77) = .pointer (some ⟨bD, oD + k, none⟩) := ht 11 _ 77 rfl rfl (hdep 11 (by decide))
                      have hc := HIN.out v hg.low
                      have hc' := hc.1
                      exact still_ok (.int .i64 d) (by unfold execOp; simp only [x0]; go_simp) (hg.still _) (rfl) (fun j oj d hoj hd hji hlj h => T19_keep (Below.refl _ _) h)
                    · intro L b v hi hdep hcl hf hn hg ht
                      have hg : G19 w4 base top ge p l2 rs'.length (flatS rs') (flatX rs') (flatA rs') y1 y2 y3 S g L v := hg
                      have x0 : b.eval (.tmp 1) = .slice (some ⟨bE, oE, none⟩) m ce := by rw [hf.eval (by decide)]; exact e1
                      exact still_ok (.slice (some ⟨bE, oE, none⟩) m ce) (by rw [exec_move (.tmp 1) rfl, x0]) (hg.still _) (rfl) (fun j oj d hoj hd hji hlj h => T19_keep (Below.refl _ _) h)
                    · intro L b v hi hdep hcl hf hn hg ht
                      have hg : G19 w4 base top ge p l2 rs'.length (flatS rs') (flatX rs') (flatA rs') y1 y2 y3 S g L v := hg
                      have x0 : b.eval (.tmp 12) = .int .i64 (j : Int) := by rw [hf.eval (by decide)]; exact e12
                      exact still_ok (.int .i64 (j : Int)) (by rw [exec_move (.tmp 12) rfl, x0]) (hg.still _) (rfl) (fun j oj d hoj hd hji hlj h => T19_keep (Below.refl _ _) h)
                    · intro L b v hi hdep hcl hf hn hg ht
                      have hg : G19 w4 base top ge p l2 rs'.length (flatS rs') (flatX rs') (flatA rs') y1 y2 y3 S g L v := hg
                      have x0 : b.eval (.tmp 79) = .slice (some ⟨bE, oE, none⟩) m ce := ht 13 _ 79 rfl rfl (hdep 13 (by decide))
                      have x1 : b.eval (.tmp 80) = .int .i64 (j : Int) := ht 14 _ 80 rfl rfl (hdep 14 (by decide))
                      exact still_ok (.pointer (some ⟨bE, oE + j * 6, none⟩)) (by unfold execOp; simp only [x0, x1]; go_simp) (hg.still _) (rfl) (fun j oj d hoj hd hji hlj h => T19_keep (Below.refl _ _) h)
                    · intro L b v hi hdep hcl hf hn hg ht
                      have hg : G19 w4 base top ge p l2 rs'.length (flatS rs') (flatX rs') (flatA rs') y1 y2 y3 S g L v := hg
                      have x0 : b.eval (.tmp 81) = .pointer (some ⟨bE, oE + j * 6, none⟩) := ht 15 _ 81 rfl rfl (hdep 15 (by decide))
                      exact still_ok (.pointer (some ⟨bE, oE + j * 6, none⟩)) (by unfold execOp; simp only [x0]; go_simp) (hg.still _) (rfl) (fun j oj d hoj hd hji hlj h => T19_keep (Below.refl _ _) h)
                    · intro L b v hi hdep hcl hf hn hg ht
                      have hg : G19 w4 base top ge p l2 rs'.length (flatS rs') (flatX rs') (flatA rs') y1 y2 y3 S g L v := hg
                      have x0 : b.eval (.tmp 82) = .pointer (some ⟨bE, oE + j * 6, none⟩) := ht 16 _ 82 rfl rfl (hdep 16 (by decide))
                      have hc := HIN.out v hg.low
                      have hc' := hc.2
                      exact still_ok (.int .i64 q) (by unfold execOp; simp only [x0]; go_simp) (hg.still _) (rfl) (fun j oj d hoj hd hji hlj h => T19_keep (Below.refl _ _) h)
                    · intro L b v hi hdep hcl hf hn hg ht
                      have hg : G19 w4 base top ge p l2 rs'.length (flatS rs') (flatX rs') (flatA rs') y1 y2 y3 S g L v := hg
                      have x0 : b.eval (.tmp 78) = .int .i64 d := ht 12 _ 78 rfl rfl (hdep 12 (by decide))
                      have x1 : b.eval (.tmp 83) = .int .i64 q := ht 17 _ 83 rfl rfl (hdep 17 (by decide))
                      exact still_ok (.agg #[.int .i64 d, .int .i64 q]) (exec_build2 43 (.tmp 78) (.tmp 83) rfl _ _ x0 x1 _ (built_two d q)) (hg.still _) (rfl) (fun j oj d hoj hd hji hlj h => T19_keep (Below.refl _ _) h)
                    · intro L b v hi hdep hcl hf hn hg ht
                      have hg : G19 w4 base top ge p l2 rs'.length (flatS rs') (flatX rs') (flatA rs') y1 y2 y3 S g L v := hg
                      have x0 : b.eval (.tmp 84) = .agg #[.int .i64 d, .int .i64 q] := ht 18 _ 84 rfl rfl (hdep 18 (by decide))
                      have hb2 : Below v.heap.size v (v.alloc (.cells #[.int .i64 d, .int .i64 q] 43)) := (Below.refl _ _).alloc (Nat.le_refl _) _
                      exact makes_ok _ (exec_lit1 35 (.tmp 84) rfl _ _ x0 (lit_at d q v)) (hg.below hb2 _) (fun _ => ⟨v.heap.size, rfl, heap_alloc_new _ _⟩) (fun j oj d hoj hd hji hlj h => T19_keep hb2 h)
                    · intro L b v hi hdep hcl hf hn hg ht
                      have hg : G19 w4 base top ge p l2 rs'.length (flatS rs') (flatX rs') (flatA rs') y1 y2 y3 S g L v := hg
                      have x0 : b.eval (.tmp 74) = y3 := ht 8 _ 74 rfl rfl (hdep 8 (by decide))
                      have x1 : L 20 = false → LitAt 43 #[.int .i64 d, .int .i64 q] (b.eval (.tmp 85)) v := ht 19 _ 85 rfl rfl (hdep 19 (by decide))
                      obtain ⟨g1, x1, hr1⟩ := x1 hi
                      have ho := hg.r3 hi
                      obtain ⟨u, w2, hrun, hown, hgr⟩ := app_row infoTwo Try.underlying35 rfl (by decide) (by decide) ho hr1 rfl (by simp [Value.oneCell']) hlen (by have := hg.le; omega)
                      have hb2 : Below base w4 w2 := below_grown hg.low ho hg.bt hgr (by have := hg.le; have := hg.bt; omega)
                      have hse := hgr.size
                      refine makes_ok u (exec_append (.tmp 74) (.tmp 85) 35 rfl _ _ u x0 x1 hrun) ⟨hg.en.grown ho (Nat.le_refl _) (by decide) (by decide) hgr, hb2, by have := hg.le; omega, hg.bt, (fun h0 => own_apart (hg.r1 (upd_false h0)) ho (by decide) hgr), (fun h0 => own_apart (hg.r2 (upd_false h0)) ho (by decide) hgr), (fun h0 => by rw [upd_self] at h0; cases h0), (fun h0 => cells_apart (hg.row (upd_false h0)) ho (by decide) hgr)⟩ hown (fun jj oj d hoj hd hji hlj h => ?_)
                      unfold T19 at h ⊢
                      split at h <;> first
                        | exact h
                        | exact absurd rfl hji
                        | exact own_apart h ho (by decide) hgr
                        | exact fun h0 => (h (upd_false h0)).apart ho (by decide) hgr
                        | (intro h0; rw [upd_self] at h0; cases h0)
                        | exact absurd (hcl 23 _ 20 rfl hlj (by decide)) (by rw [hi]; decide)
                    · intro L b v hi hdep hcl hf hn hg ht
                      have hg : G19 w4 base top ge p l2 rs'.length (flatS rs') (flatX rs') (flatA rs') y1 y2 y3 S g L v := hg
                      have x0 : v.ownsRow top 40 12 (b.eval (.tmp 69)) (rs'.length + 1) (flatS rs' ++ S.toList) := ht 3 _ 69 rfl rfl (hdep 3 (by decide))
                      exact still_ok _ (exec_assign (.tmp 69) rfl) (hg.still _) x0 (fun j oj d hoj hd hji hlj h => T19_keep (Below.refl _ _) h)
                    · intro L b v hi hdep hcl hf hn hg ht
                      have hg : G19 w4 base top ge p l2 rs'.length (flatS rs') (flatX rs') (flatA rs') y1 y2 y3 S g L v := hg
                      have x0 : v.ownsRow top 29 1 (b.eval (.tmp 73)) (rs'.length + 1) (flatX rs' ++ [.int .i64 er]) := ht 7 _ 73 rfl rfl (hdep 7 (by decide))
                      exact still_ok _ (exec_assign (.tmp 73) rfl) (hg.still _) x0 (fun j oj d hoj hd hji hlj h => T19_keep (Below.refl _ _) h)
                    · intro L b v hi hdep hcl hf hn hg ht
                      have hg : G19 w4 base top ge p l2 rs'.length (flatS rs') (flatX rs') (flatA rs') y1 y2 y3 S g L v := hg
                      have x0 : v.ownsRow top 43 2 (b.eval (.tmp 86)) (rs'.length + 1) (flatA rs' ++ [.int .i64 d, .int .i64 q]) := ht 20 _ 86 rfl rfl (hdep 20 (by decide))
                      exact still_ok _ (exec_assign (.tmp 86) rfl) (hg.still _) x0 (fun j oj d hoj hd hji hlj h => T19_keep (Below.refl _ _) h)
                    · intro b v hf hg ht
                      have hg : G19 w4 base top ge p l2 rs'.length (flatS rs') (flatX rs') (flatA rs') y1 y2 y3 S g (fun i => decide (i < 24)) v := hg
                      have r1 : v.ownsRow top 40 12 (b.eval (.tmp 9)) (rs'.length + 1) (flatS rs' ++ S.toList) := ht 21 _ 9 rfl rfl
                      have r2 : v.ownsRow top 29 1 (b.eval (.tmp 10)) (rs'.length + 1) (flatX rs' ++ [.int .i64 er]) := ht 22 _ 10 rfl rfl
                      have r3 : v.ownsRow top 43 2 (b.eval (.tmp 11)) (rs'.length + 1) (flatA rs' ++ [.int .i64 d, .int .i64 q]) := ht 23 _ 11 rfl rfl
                      have hr := HSNOC.out v _ _ _ r1 r2 r3
                      clear r1 r2 r3
                      refine HQ.out b v ?_
                      rw [hf.out]
                      simp only [List.foldl_cons, List.foldl_nil]
                      rw [HA'.out]
                      generalize b.eval (.tmp 66) = u66
                      generalize b.eval (.tmp 67) = u67
                      generalize b.eval (.tmp 68) = u68
                      generalize b.eval (.tmp 69) = u69
                      generalize b.eval (.tmp 70) = u70
                      generalize b.eval (.tmp 71) = u71
                      generalize b.eval (.tmp 72) = u72
                      generalize b.eval (.tmp 73) = u73
                      generalize b.eval (.tmp 74) = u74
                      generalize b.eval (.tmp 75) = u75
                      generalize b.eval (.tmp 76) = u76
                      generalize b.eval (.tmp 77) = u77
                      generalize b.eval (.tmp 78) = u78
                      generalize b.eval (.tmp 79) = u79
                      generalize b.eval (.tmp 80) = u80
                      generalize b.eval (.tmp 81) = u81
                      generalize b.eval (.tmp 82) = u82
                      generalize b.eval (.tmp 83) = u83
                      generalize b.eval (.tmp 84) = u84
                      generalize b.eval (.tmp 85) = u85
                      generalize b.eval (.tmp 86) = u86
                      generalize b.eval (.tmp 9) = u9 at hr ⊢
                      generalize b.eval (.tmp 10) = u10 at hr ⊢
                      generalize b.eval (.tmp 11) = u11 at hr ⊢
                      simp only [Act.put, List.setIfInBounds_toArray, List.set_cons_succ, List.set_cons_zero]
                      go_wp2_with fail
                      go_roundw
                      case rel => exact ⟨k + 1, rs' ++ [⟨s, er, d, q⟩], by omega, by omega, by simp; omega, by go_num, Lib.hid ⟨⟨hg.en, hg.low, hr, hg.le, hg.bt⟩, HOK.out⟩⟩
                      case measure => simp [intOf]; omega
              · go_wp2_with fail
                go_roundw
                case rel => exact ⟨j + 1, l2, rs', by omega, by omega, by omega, by go_num, HST'⟩
                case measure => simp [intOf]; omega
          · go_wp2_with (first
              | (refine wpList_load_mid rfl 38 _ rfl bE (oE + j * 6) rfl (evCells e).toList _ hmid Try.underlying38 rfl hi6 ?_)
              | (go_at_call 9; refine ADD.out.mono ?_; rintro x w6 ⟨rfl, hk6, hE6⟩))
            go_roundw
            case rel => exact ⟨j + 1, l2, rs, by omega, by omega, by omega, by go_num, Lib.hid ⟨HST.out.1.ek hk6 hE6, HSO.out⟩⟩
            case measure => simp [intOf]; omega
      · go_wp2_with fail
        go_meet
        exact ⟨lst, rs, by omega, HST⟩
  case rest =>
    obtain ⟨lst, rs, hr130, HST⟩ := hcut
    obtain ⟨w5, rfl⟩ : ∃ x, x = wc := ⟨_, rfl⟩
    obtain ⟨v1, rfl⟩ : ∃ x, x = u9 := ⟨_, rfl⟩
    obtain ⟨v2, rfl⟩ : ∃ x, x = u10 := ⟨_, rfl⟩
    obtain ⟨v3, rfl⟩ : ∃ x, x = u11 := ⟨_, rfl⟩
    clear CP
    obtain ⟨A1, c1, rfl⟩ := own_slice HST.out.1.rows.st
    obtain ⟨A2, c2, rfl⟩ := own_slice HST.out.1.rows.er
    obtain ⟨A3', c3', rfl⟩ := own_slice HST.out.1.rows.at_
    have HS5 := Lib.hid HST.out.1
    have HOK := Lib.hid HST.out.2
    clear HST
    go_upto_block 4 with (fail)
    go_wp2
    go_loopw [91] (fun t wr => ∃ i : Nat, i ≤ rs.length ∧ t = .int .i64 (i : Int) ∧ Hid (InSt w4 base top ge p lst rs (.slice A1 rs.length c1) (.slice A2 rs.length c2) (.slice A3' rs.length c3') wr)) (fun t _ => rs.length - (intOf t).toNat)
    case atStart => exact ⟨0, Nat.zero_le _, rfl, HS5⟩
    case round =>
      obtain ⟨i, hi, rfl, HS6⟩ := hrel
      obtain ⟨w6, rfl⟩ : ∃ x, x = wr := ⟨_, rfl⟩
      by_cases hlt : i < rs.length
      · have hpos : 0 < rs.length := by omega
        obtain ⟨b1, rfl, _⟩ := own_cells HS6.out.rows.st hpos
        obtain ⟨b2, rfl, _⟩ := own_cells HS6.out.rows.er hpos
        obtain ⟨b3, rfl, _⟩ := own_cells HS6.out.rows.at_ hpos
        have hok := HOK.out rs[i] (List.getElem_mem hlt)
        have HIN : Hid (∀ W, Rows3 W top rs (.slice (some ⟨b1, 0, none⟩) rs.length c1) (.slice (some ⟨b2, 0, none⟩) rs.length c2) (.slice (some ⟨b3, 0, none⟩) rs.length c3') → (W.cell? ⟨b3, i * 2, none⟩ = some (.int .i64 rs[i].d) ∧ W.cell? ⟨b3, i * 2 + 1, none⟩ = some (.int .i64 rs[i].q)) ∧ W.cell? ⟨b2, i, none⟩ = some (.int .i64 rs[i].e) ∧ ∀ j u, (stCells rs[i].s).toList[j]? = some u → W.cell? ⟨b1, i * 12 + j, none⟩ = some u) := Lib.hid fun W hW => by
          obtain ⟨g1, e1, k1⟩ := own_cells hW.st hpos
          obtain ⟨g2, e2, k2⟩ := own_cells hW.er hpos
          obtain ⟨g3, e3, k3⟩ := own_cells hW.at_ hpos
          injection e1 with e1; injection e1 with e1 _
          injection e2 with e2; injection e2 with e2 _
          injection e3 with e3; injection e3 with e3 _
          subst e1 e2 e3
          have f3 := flat_get (fun r : Tld => [Value.int .i64 r.d, .int .i64 r.q]) 2 (fun _ => rfl) rs
          have f1 := flat_get (fun r : Tld => (stCells r.s).toList) 12 (fun _ => rfl) rs
          refine ⟨⟨k3 _ _ (by unfold flatA; have := f3 i 0 hlt (by omega); simpa using this), k3 _ _ (by unfold flatA; have := f3 i 1 hlt (by omega); simpa using this)⟩, k2 _ _ (by unfold flatX; rw [List.getElem?_map, List.getElem?_eq_getElem hlt]; rfl), fun j u hu => k1 _ _ ?_⟩
          have hj : j < 12 := (List.getElem?_eq_some_iff.1 hu).1
          exact (f1 i j hlt hj).trans hu
        generalize rs[i] = r at *
        obtain ⟨s, er, d, q⟩ := r
        obtain ⟨hans, _⟩ := hok
        dsimp only at hans HIN
        have AS0 := fun W (hW : EnB W base top ge p lst) => AsOf_b hW d q
        simp only [hans] at AS0
        unfold St.val at AS0
        have AS := Lib.hid AS0
        have hsi := info_st s
        have hso := st_one s
        have HZS : Hid ((stCells St.zero).size = (stCells s).size) := Lib.hid rfl
        have heq : ∀ W, (Op.equalIn 10000 40 (.agg (stCells s)) (.agg (stCells s))).run Try.prog W = .ok true W := fun W => st_equal s W
        have g40 : Try.prog.eqGuardType Try.prog.depth 40 = false := by kernel_rfl
        clear AS0 hans
        generalize hSC : stCells s = S at *
        generalize hZC : stCells St.zero = Z at *
        clear hSC hZC
        go_upto_region 25 with (fail)
        go_cut [17, 18] from 94 to 108 (fun t17 t18 wx => ∃ g : Nat, t17 = .pointer (some ⟨g, 0, none⟩) ∧ t18 = .int .i64 er ∧ Hid (InSt w4 base top ge p lst rs (.slice (some ⟨b1, 0, none⟩) rs.length c1) (.slice (some ⟨b2, 0, none⟩) rs.length c2) (.slice (some ⟨b3, 0, none⟩) rs.length c3') wx) ∧ Hid (wx.heap[g]? = some (.cells S 40 (0, 0))))
        case first =>
          refine region_letters fun a Q ha hQ => ?_
          have HA' := Lib.hid ha
          have HQ := Lib.hid hQ
          have e7 : a.eval (.tmp 7) = .pointer (some ⟨ge, 0, none⟩) := by rw [ha]; rfl
          have e11 : a.eval (.tmp 11) = .slice (some ⟨b3, 0, none⟩) rs.length c3' := by rw [ha]; rfl
          have e16 : a.eval (.tmp 16) = .int .i64 (i : Int) := by rw [ha]; rfl
          have hszA : a.tmps.size = 124 := by rw [ha]; rfl
          clear ha hQ
          refine region_opsN (by kernel_rfl) [95, 96, 97, 98, 99, 100, 101, 102, 103, 104, 105, 106, 94, 107, 108, 17, 18] (GS w4 base top ge p lst rs (.slice (some ⟨b1, 0, none⟩) rs.length c1) (.slice (some ⟨b2, 0, none⟩) rs.length c2) (.slice (some ⟨b3, 0, none⟩) rs.length c3')) (T25 ge (.tuple #[.agg S, .int .i64 er]) S Z top (.slice (some ⟨b1, 0, none⟩) rs.length c1) (.slice (some ⟨b3, 0, none⟩) rs.length c3') (.pointer (some ⟨b3, i * 2, none⟩)) (.pointer (some ⟨b3, i * 2 + 1, none⟩)) i d q er) (by kernel_rfl) (fun t h => by rw [hszA] at h; simp; omega) (HS6.out.below ((Below.refl _ _).drew)) ⟨?_, ?_, ?_, ?_, ?_, ?_, ?_, ?_, ?_, ?_, ?_, ?_, ?_, ?_, ?_, ?_, ?_, ?_, trivial⟩ ?_
          · intro L b v hi hdep hcl hf hn hg ht
            have hg : InSt w4 base top ge p lst rs (.slice (some ⟨b1, 0, none⟩) rs.length c1) (.slice (some ⟨b2, 0, none⟩) rs.length c2) (.slice (some ⟨b3, 0, none⟩) rs.length c3') v := hg
            have x0 : b.eval (.tmp 7) = .pointer (some ⟨ge, 0, none⟩) := by rw [hf.eval (by decide)]; exact e7
            exact still_ok (.pointer (some ⟨ge, 0, none⟩)) (by rw [exec_move (.tmp 7) rfl, x0]) (hg) (rfl) (fun j oj d hoj hd hji hlj h => T25_keep (base := base) (show (0 : Nat) ≠ 16 by decide) (EK.of_below (Below.refl _ _)) h)
          · intro L b v hi hdep hcl hf hn hg ht
            have hg : InSt w4 base top ge p lst rs (.slice (some ⟨b1, 0, none⟩) rs.length c1) (.slice (some ⟨b2, 0, none⟩) rs.length c2) (.slice (some ⟨b3, 0, none⟩) rs.length c3') v := hg
            have x0 : b.eval (.tmp 11) = .slice (some ⟨b3, 0, none⟩) rs.length c3' := by rw [hf.eval (by decide)]; exact e11
            exact still_ok (.slice (some ⟨b3, 0, none⟩) rs.length c3') (by rw [exec_move (.tmp 11) rfl, x0]) (hg) (rfl) (fun j oj d hoj hd hji hlj h => T25_keep (base := base) (show (1 : Nat) ≠ 16 by decide) (EK.of_below (Below.refl _ _)) h)
          · intro L b v hi hdep hcl hf hn hg ht
            have hg : InSt w4 base top ge p lst rs (.slice (some ⟨b1, 0, none⟩) rs.length c1) (.slice (some ⟨b2, 0, none⟩) rs.length c2) (.slice (some ⟨b3, 0, none⟩) rs.length c3') v := hg
            have x0 : b.eval (.tmp 16) = .int .i64 (i : Int) := by rw [hf.eval (by decide)]; exact e16
            exact still_ok (.int .i64 (i : Int)) (by rw [exec_move (.tmp 16) rfl, x0]) (hg) (rfl) (fun j oj d hoj hd hji hlj h => T25_keep (base := base) (show (2 : Nat) ≠ 16 by decide) (EK.of_below (Below.refl _ _)) h)
          · intro L b v hi hdep hcl hf hn hg ht
            have hg : InSt w4 base top ge p lst rs (.slice (some ⟨b1, 0, none⟩) rs.length c1) (.slice (some ⟨b2, 0, none⟩) rs.length c2) (.slice (some ⟨b3, 0, none⟩) rs.length c3') v := hg
            have x0 : b.eval (.tmp 96) = .slice (some ⟨b3, 0, none⟩) rs.length c3' := ht 1 _ 96 rfl rfl (hdep 1 (by decide))
            have x1 : b.eval (.tmp 97) = .int .i64 (i : Int) := ht 2 _ 97 rfl rfl (hdep 2 (by decide))
            exact still_ok (.pointer (some ⟨b3, i * 2, none⟩)) (by unfold execOp; simp only [x0, x1]; go_simp) (hg) (rfl) (fun j oj d hoj hd hji hlj h => T25_keep (base := base) (show (3 : Nat) ≠ 16 by decide) (EK.of_below (Below.refl _ _)) h)
          · intro L b v hi hdep hcl hf hn hg ht
            have hg : InSt w4 base top ge p lst rs (.slice (some ⟨b1, 0, none⟩) rs.length c1) (.slice (some ⟨b2, 0, none⟩) rs.length c2) (.slice (some ⟨b3, 0, none⟩) rs.length c3') v := hg
            have x0 : b.eval (.tmp 98) = .pointer (some ⟨b3, i * 2, none⟩) := ht 3 _ 98 rfl rfl (hdep 3 (by decide))
            exact still_ok (.pointer (some ⟨b3, i * 2, none⟩)) (by unfold execOp; simp only [x0]; go_simp) (hg) (rfl) (fun j oj d hoj hd hji hlj h => T25_keep (base := base) (show (4 : Nat) ≠ 16 by decide) (EK.of_below (Below.refl _ _)) h)
          · intro L b v hi hdep hcl hf hn hg ht
            have hg : InSt w4 base top ge p lst rs (.slice (some ⟨b1, 0, none⟩) rs.length c1) (.slice (some ⟨b2, 0, none⟩) rs.length c2) (.slice (some ⟨b3, 0, none⟩) rs.length c3') v := hg
            have x0 : b.eval (.tmp 99) = .pointer (some ⟨b3, i * 2, none⟩) := ht 4 _ 99 rfl rfl (hdep 4 (by decide))
            have hc := HIN.out v hg.rows
            have hc' := hc.1.1
            exact still_ok (.int .i64 d) (by unfold execOp; simp only [x0]; go_simp) (hg) (rfl) (fun j oj d hoj hd hji hlj h => T25_keep (base := base) (show (5 : Nat) ≠ 16 by decide) (EK.of_below (Below.refl _ _)) h)
          · intro L b v hi hdep hcl hf hn hg ht
            have hg : InSt w4 base top ge p lst rs (.slice (some ⟨b1, 0, none⟩) rs.length c1) (.slice (some ⟨b2, 0, none⟩) rs.length c2) (.slice (some ⟨b3, 0, none⟩) rs.length c3') v := hg
            have x0 : b.eval (.tmp 11) = .slice (some ⟨b3, 0, none⟩) rs.length c3' := by rw [hf.eval (by decide)]; exact e11
            exact still_ok (.slice (some ⟨b3, 0, none⟩) rs.length c3') (by rw [exec_move (.tmp 11) rfl, x0]) (hg) (rfl) (fun j oj d hoj hd hji hlj h => T25_keep (base := base) (show (6 : Nat) ≠ 16 by decide) (EK.of_below (Below.refl _ _)) h)
          · intro L b v hi hdep hcl hf hn hg ht
            have hg : InSt w4 base top ge p lst rs (.slice (some ⟨b1, 0, none⟩) rs.length c1) (.slice (some ⟨b2, 0, none⟩) rs.length c2) (.slice (some ⟨b3, 0, none⟩) rs.length c3') v := hg
            have x0 : b.eval (.tmp 16) = .int .i64 (i : Int) := by rw [hf.eval (by decide)]; exact e16
            exact still_ok (.int .i64 (i : Int)) (by rw [exec_move (.tmp 16) rfl, x0]) (hg) (rfl) (fun j oj d hoj hd hji hlj h => T25_keep (base := base) (show (7 : Nat) ≠ 16 by decide) (EK.of_below (Below.refl _ _)) h)
          · intro L b v hi hdep hcl hf hn hg ht
            have hg : InSt w4 base top ge p lst rs (.slice (some ⟨b1, 0, none⟩) rs.length c1) (.slice (some ⟨b2, 0, none⟩) rs.length c2) (.slice (some ⟨b3, 0, none⟩) rs.length c3') v := hg
            have x0 : b.eval (.tmp 101) = .slice (some ⟨b3, 0, none⟩) rs.length c3' := ht 6 _ 101 rfl rfl (hdep 6 (by decide))
            have x1 : b.eval (.tmp 102) = .int .i64 (i : Int) := ht 7 _ 102 rfl rfl (hdep 7 (by decide))
            exact still_ok (.pointer (some ⟨b3, i * 2, none⟩)) (by unfold execOp; simp only [x0, x1]; go_simp) (hg) (rfl) (fun j oj d hoj hd hji hlj h => T25_keep (base := base) (show (8 : Nat) ≠ 16 by decide) (EK.of_below (Below.refl _ _)) h)
          · intro L b v hi hdep hcl hf hn hg ht
            have hg : InSt w4 base top ge p lst rs (.slice (some ⟨b1, 0, none⟩) rs.length c1) (.slice (some ⟨b2, 0, none⟩) rs.length c2) (.slice (some ⟨b3, 0, none⟩) rs.length c3') v := hg
            have x0 : b.eval (.tmp 103) = .pointer (some ⟨b3, i * 2, none⟩) := ht 8 _ 103 rfl rfl (hdep 8 (by decide))
            exact still_ok (.pointer (some ⟨b3, i * 2 + 1, none⟩)) (by unfold execOp; simp only [x0]; go_simp) (hg) (rfl) (fun j oj d hoj hd hji hlj h => T25_keep (base := base) (show (9 : Nat) ≠ 16 by decide) (EK.of_below (Below.refl _ _)) h)
          · intro L b v hi hdep hcl hf hn hg ht
            have hg : InSt w4 base top ge p lst rs (.slice (some ⟨b1, 0, none⟩) rs.length c1) (.slice (some ⟨b2, 0, none⟩) rs.length c2) (.slice (some ⟨b3, 0, none⟩) rs.length c3') v := hg
            have x0 : b.eval (.tmp 104) = .pointer (some ⟨b3, i * 2 + 1, none⟩) := ht 9 _ 104 rfl rfl (hdep 9 (by decide))
            have hc := HIN.out v hg.rows
            have hc' := hc.1.2
            exact still_ok (.int .i64 q) (by unfold execOp; simp only [x0]; go_simp) (hg) (rfl) (fun j oj d hoj hd hji hlj h => T25_keep (base := base) (show (10 : Nat) ≠ 16 by decide) (EK.of_below (Below.refl _ _)) h)
          · intro L b v hi hdep hcl hf hn hg ht
            have hg : InSt w4 base top ge p lst rs (.slice (some ⟨b1, 0, none⟩) rs.length c1) (.slice (some ⟨b2, 0, none⟩) rs.length c2) (.slice (some ⟨b3, 0, none⟩) rs.length c3') v := hg
            have x0 : b.eval (.tmp 95) = .pointer (some ⟨ge, 0, none⟩) := ht 0 _ 95 rfl rfl (hdep 0 (by decide))
            have x1 : b.eval (.tmp 100) = .int .i64 d := ht 5 _ 100 rfl rfl (hdep 5 (by decide))
            have x2 : b.eval (.tmp 105) = .int .i64 q := ht 10 _ 105 rfl rfl (hdep 10 (by decide))
            refine call_ok 10 #[.tmp 95, .tmp 100, .tmp 105] _ rfl #[.pointer (some ⟨ge, 0, none⟩), .int .i64 d, .int .i64 q] (by simp [x0, x1, x2]) (enters_of Try.func10 (by kernel_rfl) rfl) ((AS.out v hg.en).mono ?_)
            rintro r w2 ⟨rfl, hk2, hE2⟩
            exact ⟨_, rfl, hg.ek hk2 hE2, rfl, fun j oj d hoj hd hji hlj h => T25_keep (show (11 : Nat) ≠ 16 by decide) hk2 h⟩
          · intro L b v hi hdep hcl hf hn hg ht
            have hg : InSt w4 base top ge p lst rs (.slice (some ⟨b1, 0, none⟩) rs.length c1) (.slice (some ⟨b2, 0, none⟩) rs.length c2) (.slice (some ⟨b3, 0, none⟩) rs.length c3') v := hg
            have x0 : b.eval (.tmp 106) = .tuple #[.agg S, .int .i64 er] := ht 11 _ 106 rfl rfl (hdep 11 (by decide))
            exact still_ok (.tuple #[.agg S, .int .i64 er]) (by rw [exec_move (.tmp 106) rfl, x0]) (hg) (rfl) (fun j oj d hoj hd hji hlj h => T25_keep (base := base) (show (12 : Nat) ≠ 16 by decide) (EK.of_below (Below.refl _ _)) h)
          · intro L b v hi hdep hcl hf hn hg ht
            have hg : InSt w4 base top ge p lst rs (.slice (some ⟨b1, 0, none⟩) rs.length c1) (.slice (some ⟨b2, 0, none⟩) rs.length c2) (.slice (some ⟨b3, 0, none⟩) rs.length c3') v := hg
            have x0 : b.eval (.tmp 94) = .tuple #[.agg S, .int .i64 er] := ht 12 _ 94 rfl rfl (hdep 12 (by decide))
            exact still_ok (.agg S) (exec_extract (.tmp 94) 0 rfl _ _ x0 rfl) (hg) (rfl) (fun j oj d hoj hd hji hlj h => T25_keep (base := base) (show (13 : Nat) ≠ 16 by decide) (EK.of_below (Below.refl _ _)) h)
          · intro L b v hi hdep hcl hf hn hg ht
            have hg : InSt w4 base top ge p lst rs (.slice (some ⟨b1, 0, none⟩) rs.length c1) (.slice (some ⟨b2, 0, none⟩) rs.length c2) (.slice (some ⟨b3, 0, none⟩) rs.length c3') v := hg
            have x0 : b.eval (.tmp 94) = .tuple #[.agg S, .int .i64 er] := ht 12 _ 94 rfl rfl (hdep 12 (by decide))
            exact still_ok (.int .i64 er) (exec_extract (.tmp 94) 1 rfl _ _ x0 rfl) (hg) (rfl) (fun j oj d hoj hd hji hlj h => T25_keep (base := base) (show (14 : Nat) ≠ 16 by decide) (EK.of_below (Below.refl _ _)) h)
          · intro L b v hi hdep hcl hf hn hg ht
            have hg : InSt w4 base top ge p lst rs (.slice (some ⟨b1, 0, none⟩) rs.length c1) (.slice (some ⟨b2, 0, none⟩) rs.length c2) (.slice (some ⟨b3, 0, none⟩) rs.length c3') v := hg
            have hb2 : Below v.heap.size v (v.alloc (.cells Z 40)) := (Below.refl _ _).alloc (Nat.le_refl _) _
            have hst : L 16 = false := by
              cases h : L 16 with
              | false => rfl
              | true => rw [hcl 16 _ 15 rfl h (by decide)] at hi; cases hi
            refine makes_ok _ (exec_alloc 40 rfl Z (HZ.out v)) (hg.below hb2) ⟨v.heap.size, rfl, hg.le, ?_, ?_⟩ (fun j oj d hoj hd hji hlj h => ?_)
            · exact fun h0 => by have := (ownE_block hg.rows.st h0).1; omega
            · rw [upd_other (by decide), hst]; exact heap_alloc_new _ _
            · by_cases h7 : j = 15
              · exact absurd h7 hji
              · unfold T25 at h ⊢
                split at h <;> first | exact h | exact absurd rfl h7
          · intro L b v hi hdep hcl hf hn hg ht
            have hg : InSt w4 base top ge p lst rs (.slice (some ⟨b1, 0, none⟩) rs.length c1) (.slice (some ⟨b2, 0, none⟩) rs.length c2) (.slice (some ⟨b3, 0, none⟩) rs.length c3') v := hg
            have x0 : b.eval (.tmp 107) = .agg S := ht 13 _ 107 rfl rfl (hdep 13 (by decide))
            have x1 : BoxAt S Z top (.slice (some ⟨b1, 0, none⟩) rs.length c1) (L 16) (b.eval (.tmp 17)) v := ht 15 _ 17 rfl rfl (hdep 15 (by decide))
            obtain ⟨g, x1, hgt, hne, hrg⟩ := x1
            rw [hi] at hrg
            refine skip_ok (exec_store_row 40 (.tmp 17) (.tmp 107) rfl g S x1 x0 _ _ hrg hsi HZS.out hso) (hg.setSt hgt hne hrg) trivial ?_
            intro j oj d hoj hd hj _ h
            unfold T25 at h ⊢
            split at h <;> try exact h
            obtain rfl : d = 17 := by
              have h7 : (some 17 : Option Nat) = some d := dst_at hoj hd rfl
              injection h7 with h7
              exact h7.symm
            refine ⟨g, x1, hgt, hne, ?_⟩
            rw [upd_self, if_pos rfl]
            exact setRow_heap _ _ _ _ _ _ hrg
          · intro L b v hi hdep hcl hf hn hg ht
            have hg : InSt w4 base top ge p lst rs (.slice (some ⟨b1, 0, none⟩) rs.length c1) (.slice (some ⟨b2, 0, none⟩) rs.length c2) (.slice (some ⟨b3, 0, none⟩) rs.length c3') v := hg
            have x0 : b.eval (.tmp 108) = .int .i64 er := ht 14 _ 108 rfl rfl (hdep 14 (by decide))
            exact still_ok (.int .i64 er) (by rw [exec_assign (.tmp 108) rfl, x0]) (hg) (rfl) (fun j oj d hoj hd hji hlj h => T25_keep (base := base) (show (17 : Nat) ≠ 16 by decide) (EK.of_below (Below.refl _ _)) h)
          · intro b v hf hg ht
            have hg : InSt w4 base top ge p lst rs (.slice (some ⟨b1, 0, none⟩) rs.length c1) (.slice (some ⟨b2, 0, none⟩) rs.length c2) (.slice (some ⟨b3, 0, none⟩) rs.length c3') v := hg
            obtain ⟨g, x1, hgt, hne, hrg⟩ : BoxAt S Z top (.slice (some ⟨b1, 0, none⟩) rs.length c1) (decide (16 < 18)) (b.eval (.tmp 17)) v := ht 15 _ 17 rfl rfl
            have x2 : b.eval (.tmp 18) = .int .i64 er := ht 17 _ 18 rfl rfl
            refine HQ.out b v ?_
            rw [hf.out]
            simp only [List.foldl_cons, List.foldl_nil, x1, x2]
            rw [HA'.out]
            generalize b.eval (.tmp 95) = u95
            generalize b.eval (.tmp 96) = u96
            generalize b.eval (.tmp 97) = u97
            generalize b.eval (.tmp 98) = u98
            generalize b.eval (.tmp 99) = u99
            generalize b.eval (.tmp 100) = u100
            generalize b.eval (.tmp 101) = u101
            generalize b.eval (.tmp 102) = u102
            generalize b.eval (.tmp 103) = u103
            generalize b.eval (.tmp 104) = u104
            generalize b.eval (.tmp 105) = u105
            generalize b.eval (.tmp 106) = u106
            generalize b.eval (.tmp 94) = u94
            generalize b.eval (.tmp 107) = u107
            generalize b.eval (.tmp 108) = u108
            simp only [Act.put, List.setIfInBounds_toArray, List.set_cons_succ, List.set_cons_zero]
            go_wp2_with fail
            go_meet
            exact ⟨g, rfl, rfl, Lib.hid hg, Lib.hid (by simpa using hrg)⟩
        case rest =>
          obtain ⟨g, rfl, rfl, HS8, HR8⟩ := hcut
          obtain ⟨w8, rfl⟩ : ∃ x, x = wc := ⟨_, rfl⟩
          obtain ⟨_, x2, x1⟩ := HIN.out w8 HS8.out.rows
          have hr8 := HR8.out
          have X1 := Lib.hid x1
          clear HS6 AS x1
          go_upto_region 26 with (fail)
          refine wp_region_still_lit (by kernel_rfl) (by kernel_rfl) ?_
          refine still_mid rfl 40 (.tmp 17) rfl g 0 rfl S _ (fun j u h => by show w8.cell? _ = _; rw [cell_of_row _ _ _ _ _ _ hr8, Nat.zero_add]; simpa using h) Try.underlying40 rfl hsi ?_
          still_step
          still_step
          still_step
          refine still_mid rfl 40 (.tmp 112) rfl b1 (i * 12) rfl S _ (fun j u h => X1.out j u h) Try.underlying40 rfl hsi ?_
          repeat still_step
          refine wpStill_nil ?_
          go_wp2_with fail
          go_roundw
          case rel => exact ⟨i + 1, Nat.succ_le_of_lt hlt, by go_num, Lib.hid (HS8.out.below ((Below.refl _ _).drew))⟩
          case measure => simp [intOf]; omega
      · obtain ⟨_, _, hbl⟩ := HKEEP.out w6 HS6.out.low
        go_wp2_with fail
        go_ret
        exact ⟨rfl, hbl⟩
end Go.Proofs.Ytcbopgopegphlaa
