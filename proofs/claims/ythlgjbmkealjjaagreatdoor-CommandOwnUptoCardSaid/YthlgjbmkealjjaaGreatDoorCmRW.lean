/-
  The walk of the reference's Write. No statement is proved here.
-/
import Derived.Test.YthlgjbmkealjjaaGreatDoorCmL
import Derived.Test.YthlgjbmkealjjaaGreatDoorCmA
namespace Go.Proofs.YthlgjbmkealjjaaGreatDoor
open Go.RowKit
set_option linter.unusedVariables false
theorem line_snoc (c : Cm) (ws : List (List UInt8)) (x : List UInt8) : bs (lineW c ws) ++ (⟨#[32]⟩ ++ bs x) = bs (lineW c (ws ++ [x])) := by
  apply ByteArray.ext
  unfold lineW bs
  rw [Lib.join_cons, Lib.join_cons]
  simp [Lib.joinTail, ByteArray.data_append]
theorem line_nil (c : Cm) : bs (lineW c []) = c.op := by
  unfold lineW
  rw [Lib.join_one]
  exact bs_data _
open Classical in
theorem lens_texts (c : Cm) : ∀ (f : List Kd) (zs : List Int) (ws : List (List UInt8)), (∀ z ∈ zs, -9223372036854775808 ≤ z ∧ z ≤ 9223372036854775807) → once .n f → once .t f → textsR c f zs = some ws → ws.length = f.length ∧ Lib.lens ws ≤ (if Kd.n ∈ f then c.name.size else 0) + (if Kd.t ∈ f then c.text.size else 0) + 24 * f.length := by
  intro f
  induction f with
  | nil => intro zs ws _ _ _ h; injection h with h; subst h; exact ⟨rfl, by simp [Lib.lens]⟩
  | cons k f ih =>
    intro zs ws hz hn ht h
    rw [textsR_cons] at h
    split at h
    · rename_i hk
      cases zs with
      | nil => cases h
      | cons z zs =>
        dsimp only at h
        split at h
        · cases h
        · cases hr : textsR c f zs with
          | none => rw [hr] at h; cases h
          | some xs =>
            rw [hr] at h
            injection h with h
            subst h
            obtain ⟨h1, h2⟩ := ih zs xs (fun y hy => hz y (List.mem_cons_of_mem _ hy)) hn.2 ht.2 hr
            obtain ⟨z0, z1⟩ := hz z List.mem_cons_self
            have hw : (wordT k c z).length ≤ 24 := by
              cases k with
              | n => cases hk
              | t => cases hk
              | d => exact Nat.le_trans (civT_len z) (by omega)
              | m => exact textL_len z z0 z1
              | i => exact Nat.le_trans (itoa_len z z0 z1) (by omega)
            have e : Lib.lens (wordT k c z :: xs) = (wordT k c z).length + Lib.lens xs := by simp [Lib.lens]
            have m1 : (Kd.n ∈ k :: f) = (Kd.n ∈ f) := propext ⟨fun hm => by
              rcases List.mem_cons.1 hm with e | e
              · subst e; cases hk
              · exact e, List.mem_cons_of_mem _⟩
            have m2 : (Kd.t ∈ k :: f) = (Kd.t ∈ f) := propext ⟨fun hm => by
              rcases List.mem_cons.1 hm with e | e
              · subst e; cases hk
              · exact e, List.mem_cons_of_mem _⟩
            refine ⟨by simp [h1], ?_⟩
            rw [e]
            simp only [m1, m2, List.length_cons]
            omega
    · rename_i hk
      cases hr : textsR c f zs with
      | none => rw [hr] at h; cases h
      | some xs =>
        rw [hr] at h
        injection h with h
        subst h
        obtain ⟨h1, h2⟩ := ih zs xs hz hn.2 ht.2 hr
        have e : Lib.lens (wordT k c 0 :: xs) = (wordT k c 0).length + Lib.lens xs := by simp [Lib.lens]
        refine ⟨by simp [h1], ?_⟩
        rw [e, List.length_cons]
        cases k with
        | n =>
          have hnn := hn.1 rfl
          have hw : (wordT .n c 0).length = c.name.size := by simp [wordT]
          have m2 : (Kd.t ∈ Kd.n :: f) = (Kd.t ∈ f) := propext ⟨fun hm => by
            rcases List.mem_cons.1 hm with e | e
            · cases e
            · exact e, List.mem_cons_of_mem _⟩
          rw [if_neg hnn] at h2
          rw [if_pos List.mem_cons_self, hw]
          simp only [m2]
          omega
        | t =>
          have hnn := ht.1 rfl
          have hw : (wordT .t c 0).length = c.text.size := by simp [wordT]
          have m2 : (Kd.n ∈ Kd.t :: f) = (Kd.n ∈ f) := propext ⟨fun hm => by
            rcases List.mem_cons.1 hm with e | e
            · cases e
            · exact e, List.mem_cons_of_mem _⟩
          rw [if_neg hnn] at h2
          rw [if_pos (show Kd.t ∈ Kd.t :: f from List.mem_cons_self), hw]
          simp only [m2]
          omega
        | d => exact absurd rfl hk
        | m => exact absurd rfl hk
        | i => exact absurd rfl hk
open Classical in
theorem line_len (c : Cm) (f : List Kd) (zs : List Int) (ws : List (List UInt8)) (hz : ∀ z ∈ zs, -9223372036854775808 ≤ z ∧ z ≤ 9223372036854775807) (hn : once .n f) (ht : once .t f) (h : textsR c f zs = some ws) : (lineW c ws).length ≤ c.op.size + c.name.size + c.text.size + 25 * f.length := by
  obtain ⟨h1, h2⟩ := lens_texts c f zs ws hz hn ht h
  unfold lineW
  rw [Lib.join_length]
  have e : Lib.lens (c.op.data.toList :: ws) = c.op.size + Lib.lens ws := by simp [Lib.lens]
  rw [e, h1]
  have i1 : (if Kd.n ∈ f then c.name.size else 0) ≤ c.name.size := by split <;> omega
  have i2 : (if Kd.t ∈ f then c.text.size else 0) ≤ c.text.size := by split <;> omega
  simp only [List.length_cons, List.length_nil]
  omega
-- THE WALK
set_option maxRecDepth 100000 in
set_option maxHeartbeats 4000000 in
theorem refWrite_any (c : Cm) (A : Option Addr) (n k : Nat) (w : World) (hn : Hid (c.args.length = n)) (hr : Rd w 1 A n (c.args.map (Value.int .i64))) (hm : n * 8 ≤ 140737488355328) (hb : ∀ z ∈ c.args, -9223372036854775808 ≤ z ∧ z ≤ 9223372036854775807)
    (h1 : c.op.size + c.name.size + c.text.size ≤ 140737488355328) :
    Calls Tryz.prog 13 #[.agg (cmCells c (.slice A n k))] w fun e w' => (∃ x er, e = .returned (.tuple #[.string x, .int .i64 er]) ∧ WSays c x er) ∧ Below w.heap.size w w' := by
  have HR := Lib.hid hr
  have HBD := Lib.hid hb
  obtain ⟨Nc, hNc⟩ : ∃ Nc, Nc = w.heap.size := ⟨_, rfl⟩
  have HFO := Lib.hid (fun w => refForm_any c.op w)
  clear hr hb
  have HNC := Lib.hid hNc
  obtain ⟨W0, hW0⟩ : ∃ W0, W0 = w.alloc (.cells (cmCells c (.slice A n k)) 25) := ⟨_, rfl⟩
  have HC0 : Hid (W0.heap[Nc]? = some (.cells #[.string c.op, .string c.name, .slice A n k, .string c.text] 25 (0, 0))) := Lib.hid (by rw [hW0, hNc]; exact heap_alloc_new _ _)
  have HB0 : Hid (Below Nc w W0) := Lib.hid (by rw [hW0, hNc]; exact (Below.refl _ _).alloc (Nat.le_refl _) _)
  have HR0 : Hid (Rd W0 1 A n (c.args.map (Value.int .i64))) := Lib.hid (by rw [hW0]; exact HR.out.alloc _)
  have hnw : Nc < W0.heap.size := (Array.getElem?_eq_some_iff.1 HC0.out).1
  have HBW : Hid (∀ W, Below W0.heap.size W0 W → Below Nc w W) := Lib.hid fun W hW => HB0.out.trans (hW.mono (by omega))
  have hq := cells4 HC0.out
  unfold cmCells at hW0 ⊢
  rw [← hNc]
  go_enter Tryz.func13, Tryz.ntmps13
  go_upto_region 1 with (fail)
  rw [← hW0, ← hNc]
  clear hW0 hNc HR HB0
  go_wp2_with fail
  refine (HFO.out _).mono ?_
  rintro e w' ⟨rfl, rfl⟩
  have hcc := code_cases c.op.data.toList
  generalize codeOf c.op.data.toList = C at *
  have HCC := Lib.hid hcc
  clear hcc HFO
  go_upto_if 17 with (fail)
  go_cut [4] from 17 to 25 (fun t wx => ∃ G : List UInt8, t = .string (bs G) ∧ wx = W0 ∧ G.length ≤ n + 3 ∧ Hid ((∃ f : List Kd, G = f.map kch ∧ once .n f ∧ once .t f ∧ ∀ M, Wr1 c M → ∃ ws, textsR c f c.args = some ws ∧ M = lineW c ws) ∨ (G = [63] ∧ ∀ M, ¬ Wr1 c M)))
  case first =>
    rcases HCC.out with ⟨hop, rfl⟩ | ⟨hop, hft, rfl⟩ | ⟨hop, f, hft, rfl⟩
    · have hq2 : ((bs [110, 42]).toList == [110, 42]) = true := by decide +kernel
      rw [hq2]
      have HG : Hid (∀ M, Wr1 c M → ∃ ws, textsR c (.n :: List.replicate n .i) c.args = some ws ∧ M = lineW c ws) := Lib.hid fun M h => by
        obtain ⟨f, ws, a1, a2, a3⟩ := canon2 h
        rw [hn.out] at a1
        by_cases hc : 7 ≤ (n : Int) ∧ (n : Int) ≤ 15
        · unfold formOf at a1
          rw [if_pos ⟨hop, hc.1, hc.2⟩] at a1
          injection a1 with a1
          subst a1
          exact ⟨ws, by rw [← a2]; rfl, a3⟩
        · rw [form_off (fun h => hc h.2), hop] at a1
          exact absurd a1 (by simp [formTab, prodB])
      clear hq2 HCC hop
      go_wp2_with fail
      go_loopw [4, 21] (fun t u wr => ∃ i : Nat, i ≤ n ∧ u = .int .i64 i ∧ t = .string (bs (110 :: List.replicate i 105)) ∧ wr = W0) (fun _ u _ => n - (intOf u).toNat)
      case atStart => exact ⟨0, Nat.zero_le _, rfl, rfl, rfl⟩
      case round =>
        obtain ⟨i, hi, rfl, rfl, rfl⟩ := hrel
        by_cases h2 : i < n
        · have hbs : (bs (110 :: List.replicate i 105)).size = i + 1 := by rw [bs_size]; simp
          have hap : bs (110 :: List.replicate i 105) ++ ⟨#[105]⟩ = bs (110 :: List.replicate (i + 1) 105) := by
            rw [List.replicate_succ']
            apply ByteArray.ext
            simp [bs]
          have HAP := Lib.hid hap
          clear hap
          generalize bs (110 :: List.replicate i 105) = X at *
          have hi2 : (i : Int) < (n : Int) := by omega
          go_wp2
          go_roundw
          case rel => exact ⟨i + 1, by omega, by go_num, by rw [HAP.out], trivial⟩
          case measure =>
            simp only [intOf]
            omega
        · have hi2 : i = n := by omega
          subst hi2
          go_wp2
          go_meet
          exact ⟨_, rfl, rfl, by simp, Lib.hid (.inl ⟨.n :: List.replicate i .i, by simp [kch], ⟨fun _ => (once_rep .n i (by intro h; cases h)).2, (once_rep .n i (by intro h; cases h)).1⟩, ⟨(fun e => by cases e), (once_rep .t i (by intro h; cases h)).1⟩, HG.out⟩)⟩
    · have hq2 : ((bs [63]).toList == [110, 42]) = false := by decide +kernel
      rw [hq2]
      have HG : Hid (∀ M, ¬ Wr1 c M) := Lib.hid fun M h => by
        obtain ⟨f, ws, a1, _⟩ := canon2 h
        rw [form_off (fun h => hop h.1), hft] at a1
        cases a1
      clear hq2 HCC hop hft
      go_wp2
      go_meet
      exact ⟨[63], rfl, rfl, by simp, Lib.hid (.inr ⟨rfl, HG.out⟩)⟩
    · obtain ⟨hn1, hn2⟩ := codes_ne f
      have hq2 : ((bs (f.map kch)).toList == [110, 42]) = false := by rw [ByteArray.toList_eq, bs_list]; exact beq_eq_false_iff_ne.2 hn2
      rw [hq2]
      have hfo : formOf c.op.data.toList (n : Int) = some f := by rw [form_off (fun h => hop h.1), hft]
      have hon := once_form hfo
      have hfl := formTab_len hft
      have HG : Hid (∀ M, Wr1 c M → ∃ ws, textsR c f c.args = some ws ∧ M = lineW c ws) := Lib.hid fun M h => by
        obtain ⟨g, ws, a1, a2, a3⟩ := canon2 h
        rw [hn.out, hfo] at a1
        injection a1 with a1
        subst a1
        exact ⟨ws, a2, a3⟩
      have HON := Lib.hid hon
      clear hq2 HCC hop hft hn1 hn2 hfo hon
      go_wp2
      go_meet
      exact ⟨_, rfl, rfl, by rw [List.length_map]; omega, Lib.hid (.inl ⟨f, rfl, HON.out.1, HON.out.2, HG.out⟩)⟩
  case rest =>
    clear HCC
    obtain ⟨G, rfl, hwc, hgl, HG⟩ := hcut
    have hwc2 := hwc.symm
    subst hwc2
    obtain ⟨F, hF⟩ : ∃ F, F = bs G := ⟨_, rfl⟩
    rw [← hF]
    have HFG := Lib.hid hF
    clear hF
    go_upto_block 2 with (fail)
    go_cut [5, 6, 7, 8, 9, 10] from 28 to 96 (fun t t6 t7 t8 t9 t10 wx => ∃ L, t = .string (bs L) ∧ Hid (∀ M, Wr1 c M → M = L) ∧ Hid (Below W0.heap.size W0 wx))
    case first =>
      have e0 : Hid (Below W0.heap.size W0 W0) := Lib.hid (Below.refl _ _)
      rcases HG.out with ⟨f, hG, hon, hot, hM⟩ | ⟨hG, hM⟩
      · have hlf : f.length = G.length := by rw [hG, List.length_map]
        have HM := Lib.hid hM
        have HON := Lib.hid hon
        have HOT := Lib.hid hot
        have HF : Hid (F = bs (f.map kch)) := Lib.hid (by rw [HFG.out, hG])
        have hfn : f.length ≤ n + 3 := by omega
        have HFs : Hid (F.size = f.length) := Lib.hid (by rw [HFG.out, bs_size, hG, List.length_map])
        have HL0 := Lib.hid (line_nil c)
        clear hG hM hon hot HG hlf hgl
        go_wp2_with fail
        go_loopg [5, 6, 7, 8, 9, 10] f.length (fun kx t5 t6 t7 t8 t9 t10 wr => ∃ (f1 f2 : List Kd) (ws : List (List UInt8)) (zs1 zs2 : List Int), t7 = .int .i64 f1.length ∧ t6 = .int .i64 zs1.length ∧ t5 = .string (bs (lineW c ws)) ∧ f1.length ≤ f.length ∧ f.length - f1.length ≤ kx ∧ Hid (f = f1 ++ f2) ∧ Hid (c.args = zs1 ++ zs2) ∧ Hid ((f1.filter argK).length = zs1.length) ∧ Hid (textsR c f1 zs1 = some ws) ∧ Hid (Below W0.heap.size W0 wr))
        case atStart => exact ⟨[], f, [], [], c.args, rfl, rfl, by rw [HL0.out], Nat.zero_le _, Nat.le_refl _, Lib.hid rfl, Lib.hid rfl, Lib.hid rfl, Lib.hid rfl, e0⟩
        case round =>
          obtain ⟨f1, f2, ws, zs1, zs2, rfl, rfl, rfl, hf1, hkx, HFF, HAR, HCN, HTX, HBL⟩ := hrel
          have hcx := (HBL.out.block _ hnw).trans HC0.out
          have hqx := cells4 hcx
          obtain ⟨X, hX⟩ : ∃ X, X = bs (lineW c ws) := ⟨_, rfl⟩
          rw [← hX]
          cases f2 with
          | nil =>
            have hfe : f1.length = f.length := by rw [HFF.out, List.append_nil]
            have hfe2 : ¬ ((f1.length : Int) < (F.size : Int)) := by have := HFs.out; omega
            have HU : Hid (∀ M, Wr1 c M → M = lineW c ws) := Lib.hid fun M h => by
              obtain ⟨vs, h2, h3⟩ := HM.out M h
              rw [HFF.out, HAR.out, textsR_append c _ _ _ _ _ HCN.out HTX.out] at h2
              have : vs = ws := by simpa [textsR] using h2.symm
              rw [h3, this]
            have HX := Lib.hid hX
            clear hX HM hcx
            go_wp2
            go_meet
            case rel => exact ⟨lineW c ws, by rw [HX.out], HU, HBL⟩
          | cons kd f2 =>
            have hf2 : f1.length < f.length := by rw [HFF.out]; simp
            have hFi : f1.length < F.size := by have := HFs.out; omega
            have hFx : F[f1.length]'hFi = kch kd := by
              have := bs_get F (f.map kch) HF.out f1.length hFi
              rw [this, List.getElem_map]
              congr 1
              simp [HFF.out]
            have HNX : Hid (f = (f1 ++ [kd]) ++ f2) := Lib.hid (by rw [HFF.out]; simp)
            have hFi2 : (f1.length : Int) < (F.size : Int) := by omega
            have hXs : X.size ≤ c.op.size + c.name.size + c.text.size + 25 * f1.length := by
              have hon1 : once .n f1 := once_pre (g := kd :: f2) (by rw [← HFF.out]; exact HON.out)
              have hot1 : once .t f1 := once_pre (g := kd :: f2) (by rw [← HFF.out]; exact HOT.out)
              rw [hX, bs_size]
              exact line_len c f1 zs1 ws (fun z hz => HBD.out z (by rw [HAR.out]; exact List.mem_append_left _ hz)) hon1 hot1 HTX.out
            clear hcx
            cases kd with
            | n =>
              have hx1 : F[f1.length]'hFi = 110 := hFx
              clear hFx
              have HST : Hid (textsR c (f1 ++ [Kd.n]) zs1 = some (ws ++ [wordT .n c 0])) := Lib.hid (by
                have h := textsR_append c [Kd.n] [] f1 zs1 ws HCN.out HTX.out
                rw [List.append_nil] at h
                rw [h]
                rfl)
              have HCN2 : Hid (((f1 ++ [Kd.n]).filter argK).length = zs1.length) := Lib.hid (by rw [List.filter_append, List.length_append, HCN.out]; simp [argK])
              have hjn : X ++ (⟨#[32]⟩ ++ c.name) = bs (lineW c (ws ++ [wordT .n c 0])) := by
                rw [hX, ← line_snoc]
                show _ = _ ++ (_ ++ bs c.name.data.toList)
                rw [bs_data]
              have HJN := Lib.hid hjn
              have hs2 : ((⟨#[32]⟩ : ByteArray) ++ c.name).size = 1 + c.name.size := by rw [ByteArray.size_append]; rfl
              have hsN : c.name.size ≤ 140737488355328 := by omega
              clear hX hjn HM
              go_wp2
              go_roundg (f.length - (f1.length + 1))
              case measure => omega
              case rel => exact ⟨f1 ++ [Kd.n], f2, ws ++ [wordT .n c 0], zs1, zs2, by rw [List.length_append]; go_num, rfl, by rw [← HJN.out], by rw [List.length_append]; simp; omega, by rw [List.length_append]; exact Nat.le_refl _, HNX, HAR, HCN2, HST, HBL⟩
            | t =>
              have hx1 : F[f1.length]'hFi = 116 := hFx
              clear hFx
              have HST : Hid (textsR c (f1 ++ [Kd.t]) zs1 = some (ws ++ [wordT .t c 0])) := Lib.hid (by
                have h := textsR_append c [Kd.t] [] f1 zs1 ws HCN.out HTX.out
                rw [List.append_nil] at h
                rw [h]
                rfl)
              have HCN2 : Hid (((f1 ++ [Kd.t]).filter argK).length = zs1.length) := Lib.hid (by rw [List.filter_append, List.length_append, HCN.out]; simp [argK])
              have hjn : X ++ (⟨#[32]⟩ ++ c.text) = bs (lineW c (ws ++ [wordT .t c 0])) := by
                rw [hX, ← line_snoc]
                show _ = _ ++ (_ ++ bs c.text.data.toList)
                rw [bs_data]
              have HJN := Lib.hid hjn
              have hs2 : ((⟨#[32]⟩ : ByteArray) ++ c.text).size = 1 + c.text.size := by rw [ByteArray.size_append]; rfl
              have hsN : c.text.size ≤ 140737488355328 := by omega
              clear hX hjn HM
              go_wp2
              go_roundg (f.length - (f1.length + 1))
              case measure => omega
              case rel => exact ⟨f1 ++ [Kd.t], f2, ws ++ [wordT .t c 0], zs1, zs2, by rw [List.length_append]; go_num, rfl, by rw [← HJN.out], by rw [List.length_append]; simp; omega, by rw [List.length_append]; exact Nat.le_refl _, HNX, HAR, HCN2, HST, HBL⟩
            | d =>
              have hx1 : F[f1.length]'hFi = 100 := hFx
              clear hFx
              cases zs2 with
              | nil =>
                have hat : zs1.length = n := by rw [← hn.out, HAR.out, List.append_nil]
                have HNO : Hid (∀ M, ¬ Wr1 c M) := Lib.hid fun M h => by
                  obtain ⟨vs, h2, _⟩ := HM.out M h
                  rw [HFF.out, HAR.out, textsR_append c _ _ _ _ _ HCN.out HTX.out] at h2
                  cases h2
                have hge : (n : Int) ≤ (zs1.length : Int) := by omega
                clear hX HM hat
                go_wp2
                go_ret2
                exact ⟨⟨_, _, rfl, .inr ⟨rfl, rfl, HNO.out⟩⟩, HBW.out _ HBL.out⟩
              | cons z zs2 =>
                have hz : z ∈ c.args := by rw [HAR.out]; simp
                obtain ⟨z0, z1⟩ := HBD.out z hz
                have hat : zs1.length < c.args.length := by rw [HAR.out]; simp
                have hatn : zs1.length < n := by rw [← hn.out]; exact hat
                have hlt : (zs1.length : Int) < (n : Int) := by omega
                have hgz : c.args[zs1.length] = z := by simp [HAR.out]
                obtain ⟨b8, off8, rfl, hz8⟩ := rdI_at (HR0.out.below HBL.out) zs1.length hat
                rw [hgz] at hz8
                have HAR2 : Hid (c.args = (zs1 ++ [z]) ++ zs2) := Lib.hid (by rw [HAR.out]; simp)
                have HCN2 : Hid (((f1 ++ [Kd.d]).filter argK).length = (zs1 ++ [z]).length) := Lib.hid (by rw [List.filter_append, List.length_append, List.length_append, HCN.out]; rfl)
                by_cases hzr : z < -719162 ∨ 2932896 < z
                · have HNO : Hid (∀ M, ¬ Wr1 c M) := Lib.hid fun M h => by
                    obtain ⟨vs, h2, _⟩ := HM.out M h
                    rw [HFF.out, HAR.out, textsR_append c _ _ _ _ _ HCN.out HTX.out] at h2
                    simp [textsR, argK, isD, hzr] at h2
                  clear hX HM hgz HAR2 HCN2
                  rcases hzr with hzr | hzr
                  all_goals
                    go_wp2
                    go_ret2
                    exact ⟨⟨_, _, rfl, .inr ⟨rfl, rfl, HNO.out⟩⟩, HBW.out _ HBL.out⟩
                · have hzr1 : ¬ z < -719162 := by omega
                  have hzr2 : ¬ 2932896 < z := by omega
                  have HST : Hid (textsR c (f1 ++ [Kd.d]) (zs1 ++ [z]) = some (ws ++ [wordT .d c z])) := Lib.hid (by
                    rw [textsR_append c [Kd.d] [z] f1 zs1 ws HCN.out HTX.out]
                    simp [textsR, argK, isD, hzr])
                  have hjn : X ++ (⟨#[32]⟩ ++ bs (wordT .d c z)) = bs (lineW c (ws ++ [wordT .d c z])) := by rw [hX, ← line_snoc]
                  have HJN := Lib.hid hjn
                  have hw24 : (bs (wordT .d c z)).size ≤ 24 := by rw [bs_size]; exact Nat.le_trans (civT_len z) (by omega)
                  have hs2 : ((⟨#[32]⟩ : ByteArray) ++ bs (wordT .d c z)).size = 1 + (bs (wordT .d c z)).size := by rw [ByteArray.size_append]; rfl
                  have CT : Hid (∀ W, Calls Tryz.prog 25 #[.int .i64 z] W fun e w' => e = .returned (.tuple #[.string (bs (wordT .d c z)), .int .i64 0]) ∧ Below W.heap.size W w') := Lib.hid fun W => by
                    refine (refText_in z W (by omega) (by omega)).mono ?_
                    rintro e w' ⟨⟨y, mo, da, hv, hd, rfl⟩, hb⟩
                    refine ⟨?_, hb⟩
                    show _ = Ending.returned (.tuple #[.string (bs (civT z)), _])
                    rw [civT_eq hv hd]
                    rfl
                  clear hzr
                  generalize bs (wordT .d c z) = T at *
                  clear hX hjn HM hgz
                  go_wp2_with (go_at_call 25; refine (CT.out _).mono ?_; rintro e W5 ⟨rfl, hb5⟩; have HB5 : Hid (Below W0.heap.size W0 W5) := Lib.hid (HBL.out.trans (hb5.mono HBL.out.size)))
                  go_roundg (f.length - (f1.length + 1))
                  case measure => omega
                  case rel => exact ⟨f1 ++ [Kd.d], f2, ws ++ [wordT .d c z], zs1 ++ [z], zs2, by rw [List.length_append]; go_num, by rw [List.length_append]; go_num, by rw [← HJN.out], by rw [List.length_append]; simp; omega, by rw [List.length_append]; exact Nat.le_refl _, HNX, HAR2, HCN2, HST, HB5⟩
            | m =>
              have hx1 : F[f1.length]'hFi = 109 := hFx
              clear hFx
              cases zs2 with
              | nil =>
                have hat : zs1.length = n := by rw [← hn.out, HAR.out, List.append_nil]
                have HNO : Hid (∀ M, ¬ Wr1 c M) := Lib.hid fun M h => by
                  obtain ⟨vs, h2, _⟩ := HM.out M h
                  rw [HFF.out, HAR.out, textsR_append c _ _ _ _ _ HCN.out HTX.out] at h2
                  cases h2
                have hge : (n : Int) ≤ (zs1.length : Int) := by omega
                clear hX HM hat
                go_wp2
                go_ret2
                exact ⟨⟨_, _, rfl, .inr ⟨rfl, rfl, HNO.out⟩⟩, HBW.out _ HBL.out⟩
              | cons z zs2 =>
                have hz : z ∈ c.args := by rw [HAR.out]; simp
                obtain ⟨z0, z1⟩ := HBD.out z hz
                have hat : zs1.length < c.args.length := by rw [HAR.out]; simp
                have hatn : zs1.length < n := by rw [← hn.out]; exact hat
                have hlt : (zs1.length : Int) < (n : Int) := by omega
                have hgz : c.args[zs1.length] = z := by simp [HAR.out]
                obtain ⟨b8, off8, rfl, hz8⟩ := rdI_at (HR0.out.below HBL.out) zs1.length hat
                rw [hgz] at hz8
                have HAR2 : Hid (c.args = (zs1 ++ [z]) ++ zs2) := Lib.hid (by rw [HAR.out]; simp)
                have HCN2 : Hid (((f1 ++ [Kd.m]).filter argK).length = (zs1 ++ [z]).length) := Lib.hid (by rw [List.filter_append, List.length_append, List.length_append, HCN.out]; rfl)
                have HST : Hid (textsR c (f1 ++ [Kd.m]) (zs1 ++ [z]) = some (ws ++ [wordT .m c z])) := Lib.hid (by
                  rw [textsR_append c [Kd.m] [z] f1 zs1 ws HCN.out HTX.out]
                  simp [textsR, argK, isD])
                have hjn : X ++ (⟨#[32]⟩ ++ bs (wordT .m c z)) = bs (lineW c (ws ++ [wordT .m c z])) := by rw [hX, ← line_snoc]
                have HJN := Lib.hid hjn
                have hw24 : (bs (wordT .m c z)).size ≤ 24 := by rw [bs_size]; exact textL_len z z0 z1
                have hs2 : ((⟨#[32]⟩ : ByteArray) ++ bs (wordT .m c z)).size = 1 + (bs (wordT .m c z)).size := by rw [ByteArray.size_append]; rfl
                have CT : Hid (∀ W, Calls Tryz.prog 26 #[.int .i64 z] W fun e w' => e = .returned (.string (bs (wordT .m c z))) ∧ Below W.heap.size W w') := Lib.hid fun W => refText_any z W z0 z1
                generalize bs (wordT .m c z) = T at *
                clear hX hjn HM hgz
                go_wp2_with (go_at_call 26; refine (CT.out _).mono ?_; rintro e W5 ⟨rfl, hb5⟩; have HB5 : Hid (Below W0.heap.size W0 W5) := Lib.hid (HBL.out.trans (hb5.mono HBL.out.size)))
                go_roundg (f.length - (f1.length + 1))
                case measure => omega
                case rel => exact ⟨f1 ++ [Kd.m], f2, ws ++ [wordT .m c z], zs1 ++ [z], zs2, by rw [List.length_append]; go_num, by rw [List.length_append]; go_num, by rw [← HJN.out], by rw [List.length_append]; simp; omega, by rw [List.length_append]; exact Nat.le_refl _, HNX, HAR2, HCN2, HST, HB5⟩
            | i =>
              have hx1 : F[f1.length]'hFi = 105 := hFx
              clear hFx
              cases zs2 with
              | nil =>
                have hat : zs1.length = n := by rw [← hn.out, HAR.out, List.append_nil]
                have HNO : Hid (∀ M, ¬ Wr1 c M) := Lib.hid fun M h => by
                  obtain ⟨vs, h2, _⟩ := HM.out M h
                  rw [HFF.out, HAR.out, textsR_append c _ _ _ _ _ HCN.out HTX.out] at h2
                  cases h2
                have hge : (n : Int) ≤ (zs1.length : Int) := by omega
                clear hX HM hat
                go_wp2
                go_ret2
                exact ⟨⟨_, _, rfl, .inr ⟨rfl, rfl, HNO.out⟩⟩, HBW.out _ HBL.out⟩
              | cons z zs2 =>
                have hz : z ∈ c.args := by rw [HAR.out]; simp
                obtain ⟨z0, z1⟩ := HBD.out z hz
                have hat : zs1.length < c.args.length := by rw [HAR.out]; simp
                have hatn : zs1.length < n := by rw [← hn.out]; exact hat
                have hlt : (zs1.length : Int) < (n : Int) := by omega
                have hgz : c.args[zs1.length] = z := by simp [HAR.out]
                obtain ⟨b8, off8, rfl, hz8⟩ := rdI_at (HR0.out.below HBL.out) zs1.length hat
                rw [hgz] at hz8
                have HAR2 : Hid (c.args = (zs1 ++ [z]) ++ zs2) := Lib.hid (by rw [HAR.out]; simp)
                have HCN2 : Hid (((f1 ++ [Kd.i]).filter argK).length = (zs1 ++ [z]).length) := Lib.hid (by rw [List.filter_append, List.length_append, List.length_append, HCN.out]; rfl)
                have HST : Hid (textsR c (f1 ++ [Kd.i]) (zs1 ++ [z]) = some (ws ++ [wordT .i c z])) := Lib.hid (by
                  rw [textsR_append c [Kd.i] [z] f1 zs1 ws HCN.out HTX.out]
                  simp [textsR, argK, isD])
                have hjn : X ++ (⟨#[32]⟩ ++ bs (wordT .i c z)) = bs (lineW c (ws ++ [wordT .i c z])) := by rw [hX, ← line_snoc]
                have HJN := Lib.hid hjn
                have hw24 : (bs (wordT .i c z)).size ≤ 24 := by rw [bs_size]; exact Nat.le_trans (itoa_len z z0 z1) (by omega)
                have hs2 : ((⟨#[32]⟩ : ByteArray) ++ bs (wordT .i c z)).size = 1 + (bs (wordT .i c z)).size := by rw [ByteArray.size_append]; rfl
                have CT : Hid (∀ W, Calls Tryz.prog 27 #[.int .i64 z] W fun e w' => e = .returned (.string (bs (wordT .i c z))) ∧ Below W.heap.size W w') := Lib.hid fun W => refDec_any z W z0 z1
                generalize bs (wordT .i c z) = T at *
                clear hX hjn HM hgz
                go_wp2_with (go_at_call 27; refine (CT.out _).mono ?_; rintro e W5 ⟨rfl, hb5⟩; have HB5 : Hid (Below W0.heap.size W0 W5) := Lib.hid (HBL.out.trans (hb5.mono HBL.out.size)))
                go_roundg (f.length - (f1.length + 1))
                case measure => omega
                case rel => exact ⟨f1 ++ [Kd.i], f2, ws ++ [wordT .i c z], zs1 ++ [z], zs2, by rw [List.length_append]; go_num, by rw [List.length_append]; go_num, by rw [← HJN.out], by rw [List.length_append]; simp; omega, by rw [List.length_append]; exact Nat.le_refl _, HNX, HAR2, HCN2, HST, HB5⟩
      · subst hG
        have HFs : Hid (F.size = 1) := Lib.hid (by rw [HFG.out]; rfl)
        have hF0 : 0 < F.size := by rw [HFs.out]; omega
        have hFx : F[0]'hF0 = 63 := bs_get F [63] HFG.out 0 hF0
        have hF0i : (0 : Int) < (F.size : Int) := by omega
        have HM := Lib.hid hM
        clear hM HG hgl
        go_wp2_with fail
        go_loopw [5, 6, 7, 8, 9, 10] (fun t5 t6 t7 t8 t9 t10 wr => ∃ i : Nat, i ≤ 1 ∧ t7 = .int .i64 i ∧ t5 = .string c.op ∧ Hid (i = 0 → t6 = .int .i64 0) ∧ wr = W0) (fun _ _ t7 _ _ _ _ => 1 - (intOf t7).toNat)
        case atStart => exact ⟨0, Nat.zero_le _, rfl, rfl, Lib.hid (fun _ => rfl), rfl⟩
        case round =>
          obtain ⟨i, hi, rfl, rfl, h6, rfl⟩ := hrel
          rcases (show i = 0 ∨ i = 1 by omega) with h | h
          · subst h
            have h6 := h6.out rfl
            subst h6
            have hqx := cells4 HC0.out
            by_cases hn0 : n = 0
            · subst hn0
              go_wp2
              go_ret2
              exact ⟨⟨_, _, rfl, .inr ⟨rfl, rfl, HM.out⟩⟩, HBW.out _ e0.out⟩
            · have hn1 : (0 : Int) < (n : Int) := by omega
              obtain ⟨b8, off8, rfl, hz8⟩ := rdI_at HR0.out 0 (by rw [hn.out]; omega)
              rw [Nat.add_zero] at hz8
              generalize c.args[0]'(by rw [hn.out]; omega) = z at *
              go_wp2
              go_roundw
              case rel => exact ⟨1, Nat.le_refl _, rfl, rfl, Lib.hid (fun h => by cases h), trivial⟩
              case measure =>
                simp only [intOf]
                omega
          · subst h
            have hF1 : ¬ ((1 : Int) < (F.size : Int)) := by have := HFs.out; omega
            go_wp2
            go_meet
            case rel => exact ⟨c.op.data.toList, by rw [bs_data], Lib.hid (fun M h => absurd h (HM.out M)), e0⟩
    case rest =>
      obtain ⟨L, rfl, HU, HBL⟩ := hcut
      have PA := Lib.hid (refParse_b L)
      have hal := parse_args_len L
      have HG1 : Hid ((parseAns L).2 = 0 → sameC (parseAns L).1 c → WSays c (bs L) 0) := Lib.hid fun h h2 => .inl ⟨rfl, L, rfl, h, h2⟩
      have HG2 : Hid (¬ ((parseAns L).2 = 0 ∧ sameC (parseAns L).1 c) → WSays c ⟨#[]⟩ 7) := Lib.hid fun h => .inr ⟨rfl, rfl, fun M hM => h (by have e := HU.out M hM; subst e; exact hM)⟩
      clear HU HG HFG
      generalize parseAns L = Q at *
      obtain ⟨⟨yo, yn, yt, ya⟩, er⟩ := Q
      dsimp only at *
      obtain ⟨q, hq⟩ : ∃ q, q = ya.length := ⟨_, rfl⟩
      have HQ : Hid (ya.length = q) := Lib.hid hq.symm
      rw [← hq] at PA hal
      clear hq
      go_wp2_with fail
      refine (PA.out _).mono ?_
      rintro e w7 ⟨hb7, A7, c7, rfl, ho7⟩
      have HK7 : Hid (Below W0.heap.size W0 w7) := Lib.hid (HBL.out.trans (hb7.mono HBL.out.size))
      have HR7 := Lib.hid (Rd.of_own ho7)
      clear hb7 ho7 PA
      go_upto_region 33 with (fail)
      obtain ⟨W7, hW7⟩ : ∃ W7, W7 = w7.alloc (.cells #[.string yo, .string yn, .slice A7 q c7, .string yt] 25) := ⟨_, rfl⟩
      rw [← hW7]
      obtain ⟨B7, hB7⟩ : ∃ B7, B7 = w7.heap.size := ⟨_, rfl⟩
      rw [← hB7]
      have h7 : W7.heap[B7]? = some (.cells #[.string yo, .string yn, .slice A7 q c7, .string yt] 25 (0, 0)) := by rw [hW7, hB7]; exact heap_alloc_new _ _
      have HK8 : Hid (Below W0.heap.size W0 W7) := Lib.hid (by rw [hW7]; exact HK7.out.alloc HK7.out.size _)
      have HR8 : Hid (Rd W7 1 A7 q (ya.map (Value.int .i64))) := Lib.hid (by rw [hW7]; exact HR7.out.alloc _)
      have hq7 := cells4 h7
      have hq8 := cells4 ((HK8.out.block _ hnw).trans HC0.out)
      have SM : Hid (Calls Tryz.prog 10 #[.agg #[.string c.op, .string c.name, .slice A n k, .string c.text], .agg #[.string yo, .string yn, .slice A7 q c7, .string yt]] W7 fun e w' => e = .returned (.bool (decide (sameC c ⟨yo, yn, yt, ya⟩))) ∧ Below W7.heap.size W7 w') := Lib.hid (refSame_any c ⟨yo, yn, yt, ya⟩ A n k A7 q c7 W7 hn HQ (HR0.out.below HK8.out) HR8.out (by omega) (by omega))
      clear hW7 hB7 h7
      by_cases her : er = 0
      · subst her
        by_cases hsm : sameC c ⟨yo, yn, yt, ya⟩
        · rw [decide_eq_true hsm] at SM
          have HS := Lib.hid (HG1.out rfl ⟨hsm.1.symm, hsm.2.1.symm, hsm.2.2.1.symm, hsm.2.2.2.symm⟩)
          clear HG1 HG2 hsm
          go_wp2_with (go_at_call 10; refine SM.out.mono ?_; rintro e w9 ⟨rfl, hb9⟩)
          go_ret2
          exact ⟨⟨_, _, rfl, HS.out⟩, HBW.out _ (HK8.out.trans (hb9.mono HK8.out.size))⟩
        · rw [decide_eq_false hsm] at SM
          have HS := Lib.hid (HG2.out (fun h => hsm ⟨h.2.1.symm, h.2.2.1.symm, h.2.2.2.1.symm, h.2.2.2.2.symm⟩))
          clear HG1 HG2 hsm
          go_wp2_with (go_at_call 10; refine SM.out.mono ?_; rintro e w9 ⟨rfl, hb9⟩)
          go_ret2
          exact ⟨⟨_, _, rfl, HS.out⟩, HBW.out _ (HK8.out.trans (hb9.mono HK8.out.size))⟩
      · have herb : (er == 0) = false := by rw [beq_eq_false_iff_ne]; exact her
        have HS := Lib.hid (HG2.out (fun h => her h.1))
        clear HG1 HG2
        go_wp2
        go_ret2
        exact ⟨⟨_, _, rfl, HS.out⟩, HBW.out _ HK8.out⟩
end Go.Proofs.YthlgjbmkealjjaaGreatDoor
