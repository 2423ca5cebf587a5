/-
  ExtentNeeds: the walk.
-/
import Derived.Test.YtjmafegckfijbaaLawExtRe
import Derived.Test.YtjmafegckfijbaaLaidW
import Derived.Test.YtjmafegckfijbaaFrameOf
import Derived.BigQuiet
namespace Go.Proofs.Ytjmafegckfijbaa
open Go.RowKit
set_option linter.unusedVariables false
set_option linter.unusedSimpArgs false
set_option maxRecDepth 100000
theorem RowAt.int3n {w : World} {B : Nat} {A : Option Addr} (h : RowAt w B A [.int .i64 1, .int .i64 2, .int .i64 3]) : ∃ b o, A = some ⟨b, o, none⟩ ∧ b < B ∧ w.cell? ⟨b, o, none⟩ = some (.int .i64 1) ∧ w.cell? ⟨b, o + 1, none⟩ = some (.int .i64 2) ∧ w.cell? ⟨b, o + 2, none⟩ = some (.int .i64 3) := by
  obtain ⟨b, o, hA, hb, hc⟩ := h.at_ (by decide)
  exact ⟨b, o, hA, hb, hc 0 _ rfl, hc 1 _ rfl, hc 2 _ rfl⟩
theorem isB_cases (off n k : Nat) : (0 < n ∧ off / 128 ≤ k ∧ k ≤ (off + n - 1) / 128 ∧ isB off n k = true) ∨ (n = 0 ∧ isB off n k = false) ∨ (0 < n ∧ k < off / 128 ∧ isB off n k = false) ∨ (0 < n ∧ off / 128 ≤ k ∧ (off + n - 1) / 128 < k ∧ isB off n k = false) := by
  unfold isB
  by_cases h1 : 0 < n
  · by_cases h2 : off / 128 ≤ k
    · by_cases h3 : k ≤ (off + n - 1) / 128
      · exact .inl ⟨h1, h2, h3, by simp [h1, h2, h3]⟩
      · exact .inr (.inr (.inr ⟨h1, h2, by omega, by simp [h3]⟩))
    · exact .inr (.inr (.inl ⟨h1, by omega, by simp [h2]⟩))
  · exact .inr (.inl ⟨by omega, by simp [h1]⟩)
theorem atI_pos {b : Nat} : (0 : Int) ≤ atI b ↔ b ≠ 0 := by
  unfold atI
  by_cases h : b = 0
  · rw [if_pos h]; simp [h]
  · rw [if_neg h]; simp [h]
theorem intsC_get {l : List Int} {f : Nat → Int} {n k : Nat} (h : l = (List.range n).map f) (hk : k < n) : (intsC l)[k]? = some (.int .i64 (f k)) := by
  subst h
  unfold intsC
  simp [hk]
theorem haveN_mono {V : List ByteArray} {a b : Nat} (h : a ≤ b) : haveN V a ≤ haveN V b := by
  induction b with
  | zero => rw [show a = 0 by omega]; exact Nat.le_refl _
  | succ b ih =>
    by_cases e : a = b + 1
    · rw [e]; exact Nat.le_refl _
    · have := ih (by omega)
      rw [haveN_succ]; omega
theorem haveN_le (V : List ByteArray) (k : Nat) : haveN V k ≤ k := by
  unfold haveN
  exact Nat.le_trans (List.length_filter_le _ _) (by simp)
theorem freshN_le (V : List ByteArray) (off n k : Nat) : freshN V off n k ≤ k := by
  unfold freshN
  exact Nat.le_trans (List.length_filter_le _ _) (by simp)
theorem lv_room : roomR (fmtV 40 4) ≤ 40 := Nat.le_of_ble_eq_true (by kernel_rfl)
/-- what the region of the two calls yields -/
def needS (A2 A4 A3 : Option Addr) (c2 c4 c3 : Nat) (hv hw : List Int) (bn on : Nat) (i : Nat) (v : Value) (w : World) : Prop :=
  match i with
  | 0 => v = .slice A2 40 c2
  | 1 => v = .slice (some ⟨bn, on, none⟩) 3 c3
  | 2 => v = .pointer (some ⟨bn, on + 1, none⟩)
  | 3 => v = .int .i64 2
  | 4 => ∃ A c, v = .slice A hv.length c ∧ RowAt w w.heap.size A (intsC hv)
  | 5 => v = .slice A4 40 c4
  | 6 => v = .slice (some ⟨bn, on, none⟩) 3 c3
  | 7 => v = .pointer (some ⟨bn, on + 1, none⟩)
  | 8 => v = .int .i64 2
  | 9 => ∃ A c, v = .slice A hw.length c ∧ RowAt w w.heap.size A (intsC hw)
  | _ => True
theorem needS_mono (A2 A4 A3 : Option Addr) (c2 c4 c3 : Nat) (hv hw : List Int) (bn on : Nat) (i : Nat) (v : Value) (w w' : World) (h : needS A2 A4 A3 c2 c4 c3 hv hw bn on i v w) (hb : Below w.heap.size w w') : needS A2 A4 A3 c2 c4 c3 hv hw bn on i v w' := by
  unfold needS at h ⊢
  split at h <;> first
    | exact h
    | (obtain ⟨A, c, hv, hr⟩ := h; exact ⟨A, c, hv, (hr.below hb).mono hb.size⟩)
    | trivial
set_option maxHeartbeats 8000000 in
theorem law_needs (A : Option Addr) (c : Nat) (l : List ActV) (p : Nat) (s : ByteArray) (w : World) (hp : p < 65536) (hl : l.length ≤ maxLen) (hd : ∀ a ∈ l, ActOk a ∧ a.data.size ≤ 140737488355328) (h : ActsAt w w.heap.size A l) :
    Calls Try.prog 12 #[.slice A l.length c, .int .u16 p, .string s] w fun e w' => e = .returned (.bool true) ∧ Below w.heap.size w w' := by
  have H0 := Lib.hid h
  have CG := Lib.hid (lgreat_any A c l w hl h)
  have CL := Lib.hid (fun w h => laid_any A c l w hl hd h)
  unfold LaidPost at CL
  have HS := Lib.hid (laidV_laid l)
  generalize laidV l = V at *
  clear h hd hl
  by_cases hg : 1000 < s.size
  · have j1 : 1000 < (s.size : Int) := by omega
    go_enter Try.func12, Try.ntmps12
    go_wp2_with fail
    refine CG.out.mono ?_
    rintro e w1 ⟨⟨bg, rfl⟩, hb1⟩
    have B1 := Lib.hid hb1
    clear hb1 CG
    cases bg with
    | true =>
      go_wp2_with fail
      refine (fixed19_any _).mono ?_
      rintro e w2 ⟨rfl, hb2⟩
      have B2 := Lib.hid (B1.out.trans (hb2.mono B1.out.size))
      clear hb2
      go_wp2
      go_ret
      exact ⟨rfl, B2.out⟩
    | false =>
      go_wp2_with fail
      refine (fixed19_any _).mono ?_
      rintro e w2 ⟨rfl, hb2⟩
      have B2 := Lib.hid (B1.out.trans (hb2.mono B1.out.size))
      clear hb2
      go_wp2
      go_ret
      exact ⟨rfl, B2.out⟩
  · have j1 : ¬ (1000 < (s.size : Int)) := by omega
    obtain ⟨off, hoff⟩ : ∃ off, p % 9000 = off := ⟨_, rfl⟩
    have a1 : IntKind.i64.wrap (p : Int) = (p : Int) := IntWalk.i64_in _ (by omega)
    have a2 : (p : Int).tmod 9000 = (off : Int) := by rw [← hoff]; rfl
    have a3 : IntKind.i64.wrap (off : Int) = (off : Int) := IntWalk.i64_in _ (by omega)
    have a4 : (p : Int) % 9000 = (off : Int) := by omega
    have hal : s.data.toList.length = s.size := by rw [Array.length_toList]; rfl
    have hoff9 : off < 9000 := by omega
    have PL := reads_plain HS.out off s.data.toList
    have PN := fun h0 => needs_plain HS.out (at' := off) (d := s.data.toList) h0
    rw [hal] at PL PN
    have CW1 := Lib.hid (fun A c w hr => by have := write_any A c V 2 off s w (by rw [HS.out.len]; decide) (by omega) (by omega) hr; rwa [HS.out.len] at this)
    generalize writeO V 2 off s.data.toList = r1 at *
    obtain ⟨W, cw⟩ := r1
    dsimp only at *
    have HPL := Lib.hid PL
    have HPN := Lib.hid PN
    have HL0 := Lib.hid HS.out.len
    clear PL PN hoff hal
    go_enter Try.func12, Try.ntmps12
    go_wp2_with fail
    refine CG.out.mono ?_
    rintro e w1 ⟨⟨bg, rfl⟩, hb1⟩
    have B1 := Lib.hid hb1
    have H1 := Lib.hid ((H0.out.below hb1).mono hb1.size)
    clear hb1 CG
    cases bg with
    | true =>
      go_wp2_with fail
      refine (fixed19_any _).mono ?_
      rintro e w2 ⟨rfl, hb2⟩
      have B2 := Lib.hid (B1.out.trans (hb2.mono B1.out.size))
      clear hb2
      go_wp2
      go_ret
      exact ⟨rfl, B2.out⟩
    | false =>
      go_wp2_with fail
      refine (CL.out _ H1.out).mono ?_
      rintro e w2 ⟨⟨A2, c2, A3, c3, rfl, hr2, hr3⟩, hb2⟩
      have B2 := Lib.hid (B1.out.trans (hb2.mono B1.out.size))
      have R2 := Lib.hid hr2
      obtain ⟨bn, on, rfl, hbn, n1', n2, n3⟩ := hr3.int3n
      have HN : Hid (bn < w2.heap.size) := hbn
      have N2 : Hid (∀ W, Below w2.heap.size w2 W → W.cell? ⟨bn, on + 1, none⟩ = some (.int .i64 2)) := fun W hb => (hb.cell (p := ⟨bn, _, none⟩) hbn).trans n2
      have k2 := N2.out _ (Below.refl _ _)
      clear hb2 hr2 hr3 n1' n2 n3 hbn B1 H1 CL
      go_wp2_with fail
      refine (CW1.out _ _ _ R2.out).mono ?_
      rintro e w3 ⟨⟨v3, rfl, hn3⟩, hb3⟩
      have D3 := Lib.hid hb3
      have R3 := Lib.hid ((R2.out.below hb3).mono hb3.size)
      have NN3 := Lib.hid hn3
      clear hb3 hn3 k2 R2 CW1
      by_cases hc : cw = 0
      · subst hc
        obtain ⟨nv, nw, NS⟩ := HPN.out rfl
        have HLW := Lib.hid NS.laid.len
        have HNS := Lib.hid NS
        obtain ⟨A4, c4, rfl, hr4⟩ := NN3.out.read40 HLW.out
        have R4 := Lib.hid hr4
        clear hr4 NN3 HPL HPN NS
        obtain ⟨hv, hhv⟩ : ∃ hv, blocksO V 2 = hv := ⟨_, rfl⟩
        obtain ⟨hw, hhw⟩ : ∃ hw, blocksO W 2 = hw := ⟨_, rfl⟩
        have CB1 := Lib.hid (fun A c w hr => by have := blocks_any A c V 2 w (by rw [HL0.out]; decide) hr; rwa [HL0.out, hhv] at this)
        have CB2 := Lib.hid (fun A c w hr => by have := blocks_any A c W 2 w (by rw [HLW.out]; decide) hr; rwa [HLW.out, hhw] at this)
        have CC := Lib.hid (fun A c w hr => by have := count_any A c V 2 w (by rw [HL0.out]; decide) hr; rwa [HL0.out] at this)
        have EV : Hid (hv = (List.range nv).map fun k => atI (atX V 4 (getR V 2) k)) := by rw [← hhv]; exact HNS.out.hv
        have EW : Hid (hw = (List.range nw).map fun k => atI (atX W 4 (getR W 2) k)) := by rw [← hhw]; exact HNS.out.hw
        have EVl : Hid (hv.length = nv) := by rw [EV.out, List.length_map, List.length_range]; exact rfl
        have EWl : Hid (hw.length = nw) := by rw [EW.out, List.length_map, List.length_range]; exact rfl
        clear hhv hhw
        go_wp2
        refine wp_region_inv 10 (needS A2 A4 none c2 c4 c3 hv hw bn on) (by kernel_rfl) (by kernel_rfl) (needS_mono A2 A4 none c2 c4 c3 hv hw bn on) ?_ ?_
        · intro i o a' w' hi ho hb hag
          have ev : ∀ t, Operand.tmp t ∈ o.op.operands → ∀ (j : Nat) (oj : Oper), _ → oj.dst = some t → needS A2 A4 none c2 c4 c3 hv hw bn on j (a'.eval (.tmp t)) w' := fun t ht j oj hj hd => (hag t ht).1 j oj hj hd
          have eb : ∀ t, Operand.tmp t ∈ o.op.operands → _ → a'.eval (.tmp t) = _ := fun t ht h => (hag t ht).2 h
          have hcell := N2.out w' (D3.out.trans (hb.mono D3.out.size))
          obtain rfl | rfl | rfl | rfl | rfl | rfl | rfl | rfl | rfl | rfl : i = 0 ∨ i = 1 ∨ i = 2 ∨ i = 3 ∨ i = 4 ∨ i = 5 ∨ i = 6 ∨ i = 7 ∨ i = 8 ∨ i = 9 := by omega
          · cases ho
            have e := eb 7 (by simp [Op.operands]) (notDstQ rfl)
            refine step_val (v := .slice A2 40 c2) (w' := w') ?_ rfl (Below.refl _ _)
            unfold execOp
            simp only [e, Sem.run_pure]
            rfl
          · cases ho
            have e := eb 8 (by simp [Op.operands]) (notDstQ rfl)
            refine step_val (v := .slice (some ⟨bn, on, none⟩) 3 c3) (w' := w') ?_ rfl (Below.refl _ _)
            unfold execOp
            simp only [e, Sem.run_pure]
            rfl
          · cases ho
            have e : a'.eval (.tmp 58) = .slice (some ⟨bn, on, none⟩) 3 c3 := ev 58 (by simp [Op.operands]) 1 _ rfl rfl
            refine step_val (v := .pointer (some ⟨bn, on + 1, none⟩)) (w' := w') ?_ rfl (Below.refl _ _)
            unfold execOp
            have e' : a'.tmps[58]?.getD undef = .slice (some ⟨bn, on, none⟩) 3 c3 := by rw [← Array.getD_eq_getD_getElem?]; exact e
            simp [go_sem, e']
          · cases ho
            have e : a'.eval (.tmp 59) = .pointer (some ⟨bn, on + 1, none⟩) := ev 59 (by simp [Op.operands]) 2 _ rfl rfl
            refine step_val (v := .int .i64 2) (w' := w') ?_ rfl (Below.refl _ _)
            unfold execOp
            have e' : a'.tmps[59]?.getD undef = .pointer (some ⟨bn, on + 1, none⟩) := by rw [← Array.getD_eq_getD_getElem?]; exact e
            simp [go_sem, e', hcell]
          · cases ho
            have e1 : a'.eval (.tmp 57) = .slice A2 40 c2 := ev 57 (by simp [Op.operands, Call.operands]) 0 _ rfl rfl
            have e2 : a'.eval (.tmp 60) = .int .i64 2 := ev 60 (by simp [Op.operands, Call.operands]) 3 _ rfl rfl
            have e1' : a'.tmps[57]?.getD undef = .slice A2 40 c2 := by rw [← Array.getD_eq_getD_getElem?]; exact e1
            have e2' : a'.tmps[60]?.getD undef = .int .i64 2 := by rw [← Array.getD_eq_getD_getElem?]; exact e2
            refine step_call (f := 18) (args := #[.slice A2 40 c2, .int .i64 2]) ?_ ?_
            · unfold execOp
              simp [go_sem, e1', e2']
            · refine (CB1.out A2 c2 w' ((R3.out.below hb).mono hb.size)).mono ?_
              rintro e w2 ⟨⟨v, rfl, hn⟩, hb2⟩
              obtain ⟨A', c', rfl, hr⟩ := OwnInts.read hn
              exact ⟨_, rfl, ⟨A', c', rfl, hr⟩, hb2⟩
          · cases ho
            have e := eb 10 (by simp [Op.operands]) (notDstQ rfl)
            refine step_val (v := .slice A4 40 c4) (w' := w') ?_ rfl (Below.refl _ _)
            unfold execOp
            simp only [e, Sem.run_pure]
            rfl
          · cases ho
            have e := eb 8 (by simp [Op.operands]) (notDstQ rfl)
            refine step_val (v := .slice (some ⟨bn, on, none⟩) 3 c3) (w' := w') ?_ rfl (Below.refl _ _)
            unfold execOp
            simp only [e, Sem.run_pure]
            rfl
          · cases ho
            have e : a'.eval (.tmp 63) = .slice (some ⟨bn, on, none⟩) 3 c3 := ev 63 (by simp [Op.operands]) 6 _ rfl rfl
            refine step_val (v := .pointer (some ⟨bn, on + 1, none⟩)) (w' := w') ?_ rfl (Below.refl _ _)
            unfold execOp
            have e' : a'.tmps[63]?.getD undef = .slice (some ⟨bn, on, none⟩) 3 c3 := by rw [← Array.getD_eq_getD_getElem?]; exact e
            simp [go_sem, e']
          · cases ho
            have e : a'.eval (.tmp 64) = .pointer (some ⟨bn, on + 1, none⟩) := ev 64 (by simp [Op.operands]) 7 _ rfl rfl
            refine step_val (v := .int .i64 2) (w' := w') ?_ rfl (Below.refl _ _)
            unfold execOp
            have e' : a'.tmps[64]?.getD undef = .pointer (some ⟨bn, on + 1, none⟩) := by rw [← Array.getD_eq_getD_getElem?]; exact e
            simp [go_sem, e', hcell]
          · cases ho
            have e1 : a'.eval (.tmp 62) = .slice A4 40 c4 := ev 62 (by simp [Op.operands, Call.operands]) 5 _ rfl rfl
            have e2 : a'.eval (.tmp 65) = .int .i64 2 := ev 65 (by simp [Op.operands, Call.operands]) 8 _ rfl rfl
            have e1' : a'.tmps[62]?.getD undef = .slice A4 40 c4 := by rw [← Array.getD_eq_getD_getElem?]; exact e1
            have e2' : a'.tmps[65]?.getD undef = .int .i64 2 := by rw [← Array.getD_eq_getD_getElem?]; exact e2
            refine step_call (f := 18) (args := #[.slice A4 40 c4, .int .i64 2]) ?_ ?_
            · unfold execOp
              simp [go_sem, e1', e2']
            · refine (CB2.out A4 c4 w' ((R4.out.below hb).mono hb.size)).mono ?_
              rintro e w2 ⟨⟨v, rfl, hn⟩, hb2⟩
              obtain ⟨A', c', rfl, hr⟩ := OwnInts.read hn
              exact ⟨_, rfl, ⟨A', c', rfl, hr⟩, hb2⟩
        · intro a' w4 hb4 hdf hsz hsp hrest
          have hf := frame_of [57, 58, 59, 60, 61, 62, 63, 64, 65, 66] hdf hsz (fun t ht => hrest t (notDst_of rfl ht))
          have v57 : a'.tmps.getD 57 undef = .slice A2 40 c2 := hsp 0 _ 57 (by decide) rfl rfl
          have v58 : a'.tmps.getD 58 undef = .slice (some ⟨bn, on, none⟩) 3 c3 := hsp 1 _ 58 (by decide) rfl rfl
          have v59 : a'.tmps.getD 59 undef = .pointer (some ⟨bn, on + 1, none⟩) := hsp 2 _ 59 (by decide) rfl rfl
          have v60 : a'.tmps.getD 60 undef = .int .i64 2 := hsp 3 _ 60 (by decide) rfl rfl
          obtain ⟨A5, c5, v61, hr5⟩ := hsp 4 _ 61 (by decide) rfl rfl
          have v62 : a'.tmps.getD 62 undef = .slice A4 40 c4 := hsp 5 _ 62 (by decide) rfl rfl
          have v63 : a'.tmps.getD 63 undef = .slice (some ⟨bn, on, none⟩) 3 c3 := hsp 6 _ 63 (by decide) rfl rfl
          have v64 : a'.tmps.getD 64 undef = .pointer (some ⟨bn, on + 1, none⟩) := hsp 7 _ 64 (by decide) rfl rfl
          have v65 : a'.tmps.getD 65 undef = .int .i64 2 := hsp 8 _ 65 (by decide) rfl rfl
          obtain ⟨A6, c6, v66, hr6⟩ := hsp 9 _ 66 (by decide) rfl rfl
          simp only [List.map_cons, List.map_nil, putsD] at hf
          rw [v57, v58, v59, v60, v61, v62, v63, v64, v65, v66] at hf
          clear hsp hrest hdf hsz v57 v58 v59 v60 v61 v62 v63 v64 v65 v66
          subst hf
          simp only [List.drop_succ_cons, List.drop_zero]
          have D4 := Lib.hid (D3.out.trans (hb4.mono D3.out.size))
          have RV4 := Lib.hid ((R3.out.below hb4).mono hb4.size)
          have RW4 := Lib.hid ((R4.out.below hb4).mono hb4.size)
          have RB5 := Lib.hid hr5
          have RB6 := Lib.hid hr6
          clear hb4 hr5 hr6 D3 R3 R4 CB1 CB2
          rw [EVl.out, EWl.out]
          have k2 := N2.out _ D4.out
          go_frame
          go_wp2_with fail
          refine (CC.out _ _ _ RV4.out).mono ?_
          rintro e w5 ⟨rfl, hb5⟩
          obtain ⟨ind, hind⟩ : ∃ ind : Nat, (if slotX V 4 (getR V 2) 70 ≠ 0 then 1 else 0) = ind := ⟨_, rfl⟩
          have hct : countO V 2 = haveN V nv + ind := by
            have := HNS.out.count
            rw [hind] at this
            omega
          rw [hct]
          have D5 := Lib.hid (D4.out.trans (hb5.mono D4.out.size))
          have RV5 := Lib.hid ((RV4.out.below hb5).mono hb5.size)
          have RW5 := Lib.hid ((RW4.out.below hb5).mono hb5.size)
          replace RB5 := Lib.hid ((RB5.out.below hb5).mono hb5.size)
          replace RB6 := Lib.hid ((RB6.out.below hb5).mono hb5.size)
          have HIND := Lib.hid hind
          have h70 := HNS.out.nv70
          have h71 := HNS.out.nw70
          have HC : Hid (ind ≤ 1) := by
            show ind ≤ 1
            rw [← hind]; split <;> omega
          clear hb5 hct hind D4 RV4 RW4 k2 CC
          go_wp2
          go_loopw [16, 74] (fun v i wr => ∃ (k f : Nat), k ≤ nv ∧ i = .int .i64 (k : Int) ∧ v = .int .i64 (f : Int) ∧ Hid (f + haveN V k = haveN V nv + ind) ∧ wr = w5) (fun _ i _ => nv - (intOf i).toNat)
          case atStart => exact ⟨0, haveN V nv + ind, Nat.zero_le _, rfl, rfl, Lib.hid (by unfold haveN; simp), rfl⟩
          case round =>
            obtain ⟨k, f, hk, rfl, rfl, HF, hwr⟩ := hrel
            replace hwr := hwr.symm
            subst hwr
            by_cases hlt : k < nv
            · obtain ⟨b5, o5, rfl, hb5, hc5⟩ := RB5.out.at_ (by unfold intsC; rw [List.length_map, EVl.out]; omega)
              obtain ⟨z, hz⟩ : ∃ z, atI (atX V 4 (getR V 2) k) = z := ⟨_, rfl⟩
              have q1 := hc5 k _ (intsC_get EV.out hlt)
              rw [hz] at q1
              have hp := atI_pos (b := atX V 4 (getR V 2) k)
              rw [hz] at hp
              have hs := haveN_succ V k
              have i2 : (k : Int) < (nv : Int) := by omega
              cases hw1 : wasB V k with
              | true =>
                have hz1 : (0 : Int) ≤ z := hp.2 (by unfold wasB at hw1; exact bne_iff_ne.1 hw1)
                rw [hw1] at hs
                have hm := haveN_mono (V := V) (show k + 1 ≤ nv from hlt)
                have hf0 := HF.out
                have hle := haveN_le V nv
                have hc1 := HC.out
                simp only [if_true] at hs
                obtain ⟨f', rfl⟩ : ∃ f', f = f' + 1 := ⟨f - 1, by omega⟩
                have w1 : IntKind.i64.wrap (((f' + 1 : Nat) : Int) - 1) = (f' : Int) := by
                  have : IntKind.i64.wrap (((f' + 1 : Nat) : Int) - 1) = ((f' + 1 : Nat) : Int) - 1 := IntWalk.i64_in _ (by omega)
                  rw [this]; omega
                have hfb : f' ≤ 71 := by omega
                have HR : Hid (f' + haveN V (k + 1) = haveN V nv + ind) := by show _ = _; omega
                clear hp hw1 hs hm hf0 hle hc1 hz HF hc5
                go_wp2
                go_roundw
                case rel => exact ⟨k + 1, f', by omega, by go_num, by go_num, HR, trivial⟩
                case measure => simp [intOf]; omega
              | false =>
                have hz1 : ¬ (0 : Int) ≤ z := fun h => by
                  have := hp.1 h
                  unfold wasB at hw1
                  exact (bne_iff_ne.2 this |>.symm.trans hw1 |> fun h => by cases h)
                rw [hw1] at hs
                have HR : Hid (f + haveN V (k + 1) = haveN V nv + ind) := by
                  have := HF.out
                  show _ = _
                  simp only [Bool.false_eq_true, if_false] at hs
                  omega
                clear hp hw1 hs hz HF hc5
                go_wp2
                go_roundw
                case rel => exact ⟨k + 1, f, by omega, by go_num, rfl, HR, trivial⟩
                case measure => simp [intOf]; omega
            · have : k = nv := by omega
              subst this
              have hf : f = ind := by have := HF.out; omega
              subst hf
              clear HF hk
              have HFR : Hid (∀ k, k < nw → ∃ z, (intsC hw)[k]? = some (.int .i64 z) ∧ ((0 : Int) ≤ z ↔ (isB off s.size k || wasB V k) = true)) := fun k hk => by
                refine ⟨_, intsC_get EW.out hk, ?_⟩
                rw [← HNS.out.now k hk, decide_eq_true_iff]
                exact atI_pos
              have HVR : Hid (∀ k', k' < k → ∃ z, (intsC hv)[k']? = some (.int .i64 z) ∧ ((0 : Int) ≤ z ↔ wasB V k' = true)) := fun k' hk => by
                refine ⟨_, intsC_get EV.out hk, ?_⟩
                rw [atI_pos]
                unfold wasB
                exact bne_iff_ne.symm
              obtain ⟨q1, hq1⟩ : ∃ q1, off / 128 = q1 := ⟨_, rfl⟩
              obtain ⟨n2, hn2⟩ : ∃ n2, off + s.size - 1 = n2 := ⟨_, rfl⟩
              obtain ⟨q2, hq2⟩ : ∃ q2, n2 / 128 = q2 := ⟨_, rfl⟩
              have HISB : Hid (∀ k, (0 < s.size ∧ q1 ≤ k ∧ k ≤ q2 ∧ isB off s.size k = true) ∨ (s.size = 0 ∧ isB off s.size k = false) ∨ (0 < s.size ∧ k < q1 ∧ isB off s.size k = false) ∨ (0 < s.size ∧ q1 ≤ k ∧ q2 < k ∧ isB off s.size k = false)) := fun k => by
                have := isB_cases off s.size k
                rwa [hn2, hq1, hq2] at this
              have d1 : (off : Int).tdiv 128 = (q1 : Int) := by rw [← hq1]; rfl
              have d2 : IntKind.i64.wrap (q1 : Int) = (q1 : Int) := IntWalk.i64_in _ (by omega)
              have d3 : (off : Int) / 128 = (q1 : Int) := by omega
              have d4 : IntKind.i64.wrap ((off : Int) + (s.size : Int)) = (off : Int) + (s.size : Int) := IntWalk.i64_in _ (by omega)
              have d5 : 0 < s.size → IntKind.i64.wrap ((off : Int) + (s.size : Int) - 1) = (n2 : Int) := fun h => by
                have : IntKind.i64.wrap ((off : Int) + (s.size : Int) - 1) = (off : Int) + (s.size : Int) - 1 := IntWalk.i64_in _ (by omega)
                rw [this]; omega
              have d6 : (n2 : Int).tdiv 128 = (q2 : Int) := by rw [← hq2]; rfl
              have d7 : IntKind.i64.wrap (q2 : Int) = (q2 : Int) := IntWalk.i64_in _ (by omega)
              have d8 : (n2 : Int) / 128 = (q2 : Int) := by omega
              have D5f := Lib.hid d5
              clear hq1 hn2 hq2 d5
              go_wp2
              go_loopw [14, 15, 85] (fun v b i wr => ∃ j : Nat, j ≤ nw ∧ i = .int .i64 (j : Int) ∧ v = .int .i64 (freshN V off s.size j : Int) ∧ b = .bool (beyondB V off s.size j) ∧ wr = w5) (fun _ _ i _ => nw - (intOf i).toNat)
              case atStart => exact ⟨0, Nat.zero_le _, rfl, rfl, rfl, rfl⟩
              case round =>
                obtain ⟨j, hj, rfl, rfl, rfl, hwr⟩ := hrel
                replace hwr := hwr.symm
                subst hwr
                by_cases hlt : j < nw
                · obtain ⟨z, qz, hz⟩ := HFR.out j hlt
                  obtain ⟨b6, o6, rfl, hb6, hc6⟩ := RB6.out.at_ (by unfold intsC; rw [List.length_map, EWl.out]; omega)
                  have q6 := hc6 j _ qz
                  have i2 : (j : Int) < (nw : Int) := by omega
                  have i3 : (0 : Int) ≤ (j : Int) := by omega
                  have ISC : ((0 : Int) < (s.size : Int) ∧ (q1 : Int) ≤ (j : Int) ∧ (j : Int) ≤ (q2 : Int) ∧ IntKind.i64.wrap ((off : Int) + (s.size : Int) - 1) = (n2 : Int) ∧ isB off s.size j = true) ∨ (¬ (0 : Int) < (s.size : Int) ∧ isB off s.size j = false) ∨ ((0 : Int) < (s.size : Int) ∧ ¬ (q1 : Int) ≤ (j : Int) ∧ isB off s.size j = false) ∨ ((0 : Int) < (s.size : Int) ∧ (q1 : Int) ≤ (j : Int) ∧ ¬ (j : Int) ≤ (q2 : Int) ∧ IntKind.i64.wrap ((off : Int) + (s.size : Int) - 1) = (n2 : Int) ∧ isB off s.size j = false) := by
                    rcases HISB.out j with ⟨h1, h2, h3, h4⟩ | ⟨h1, h4⟩ | ⟨h1, h2, h4⟩ | ⟨h1, h2, h3, h4⟩
                    · exact .inl ⟨by omega, by omega, by omega, D5f.out h1, h4⟩
                    · exact .inr (.inl ⟨by omega, h4⟩)
                    · exact .inr (.inr (.inl ⟨by omega, by omega, h4⟩))
                    · exact .inr (.inr (.inr ⟨by omega, by omega, by omega, D5f.out h1, h4⟩))
                  have WASC : ((j : Int) < (k : Int) ∧ ∃ y b5 o5, A5 = some ⟨b5, o5, none⟩ ∧ w5.cell? ⟨b5, o5 + j, none⟩ = some (.int .i64 y) ∧ (0 : Int) ≤ y ∧ wasB V j = true) ∨ ((j : Int) < (k : Int) ∧ ∃ y b5 o5, A5 = some ⟨b5, o5, none⟩ ∧ w5.cell? ⟨b5, o5 + j, none⟩ = some (.int .i64 y) ∧ ¬ (0 : Int) ≤ y ∧ wasB V j = false) ∨ (¬ (j : Int) < (k : Int) ∧ wasB V j = false) := by
                    by_cases hjk : j < k
                    · obtain ⟨y, qy, hy⟩ := HVR.out j hjk
                      obtain ⟨b5, o5, hA, hb5, hc5⟩ := RB5.out.at_ (by unfold intsC; rw [List.length_map, EVl.out]; omega)
                      cases hwb : wasB V j with
                      | true => exact .inl ⟨by omega, y, b5, o5, hA, hc5 j _ qy, hy.2 hwb, rfl⟩
                      | false => exact .inr (.inl ⟨by omega, y, b5, o5, hA, hc5 j _ qy, (fun h => by have := hy.1 h; rw [hwb] at this; cases this), rfl⟩)
                    · exact .inr (.inr ⟨by omega, HNS.out.was j (by omega) (by omega)⟩)
                  have hfle := freshN_le V off s.size j
                  obtain ⟨fj, hfj⟩ : ∃ fj, freshN V off s.size j = fj := ⟨_, rfl⟩
                  obtain ⟨bj, hbj⟩ : ∃ bj, beyondB V off s.size j = bj := ⟨_, rfl⟩
                  rw [hfj] at hfle
                  rw [hfj, hbj]
                  have HFJ := Lib.hid hfj
                  have HBJ := Lib.hid hbj
                  clear hfj hbj qz hc6
                  -- ROUND2
                  rcases ISC with ⟨s1, s2, s3, d5, hi⟩ | ⟨s1, hi⟩ | ⟨s1, s2, hi⟩ | ⟨s1, s2, s3, d5, hi⟩
                  · rcases WASC with ⟨t1, y, b5, o5, rfl, t2, t3, hw⟩ | ⟨t1, y, b5, o5, rfl, t2, t3, hw⟩ | ⟨t1, hw⟩
                    · have hz1 : (0 : Int) ≤ z := hz.2 (by rw [hi, hw]; rfl)
                      have hf : freshB V off s.size j = false := by unfold freshB; rw [hi, hw]; rfl
                      have e1 : freshN V off s.size (j + 1) = fj := by rw [freshN_succ, hf, HFJ.out]; rfl
                      have e2 : beyondB V off s.size (j + 1) = bj := by rw [beyondB_succ, hf, HBJ.out]; simp
                      have E1 := Lib.hid e1
                      have E2 := Lib.hid e2
                      clear hz hf e1 e2 hi hw
                      go_wp2
                      go_roundw
                      case rel => exact ⟨j + 1, by omega, by go_num, by rw [E1.out], by rw [E2.out], trivial⟩
                      case measure => simp [intOf]; omega
                    · by_cases h6 : (6 : Int) ≤ (j : Int)
                      · cases bj with
                        | true =>
                          have hz1 : (0 : Int) ≤ z := hz.2 (by rw [hi, hw]; rfl)
                          have hf : freshB V off s.size j = true := by unfold freshB; rw [hi, hw]; rfl
                          have e1 : freshN V off s.size (j + 1) = fj + 1 := by rw [freshN_succ, hf, HFJ.out]; rfl
                          have e2 : beyondB V off s.size (j + 1) = true := by
                            rw [beyondB_succ, hf, HBJ.out]
                            have h7 :  6 ≤ j := by omega
                            simp [h7]
                          have E1 := Lib.hid e1
                          have E2 := Lib.hid e2
                          clear hz hf e1 e2 hi hw
                          go_wp2
                          go_roundw
                          case rel => exact ⟨j + 1, by omega, by go_num, by rw [E1.out]; go_num, by rw [E2.out], trivial⟩
                          case measure => simp [intOf]; omega
                        | false =>
                          have hz1 : (0 : Int) ≤ z := hz.2 (by rw [hi, hw]; rfl)
                          have hf : freshB V off s.size j = true := by unfold freshB; rw [hi, hw]; rfl
                          have e1 : freshN V off s.size (j + 1) = fj + 1 := by rw [freshN_succ, hf, HFJ.out]; rfl
                          have e2 : beyondB V off s.size (j + 1) = true := by
                            rw [beyondB_succ, hf, HBJ.out]
                            have h7 :  6 ≤ j := by omega
                            simp [h7]
                          have E1 := Lib.hid e1
                          have E2 := Lib.hid e2
                          clear hz hf e1 e2 hi hw
                          go_wp2
                          go_roundw
                          case rel => exact ⟨j + 1, by omega, by go_num, by rw [E1.out]; go_num, by rw [E2.out], trivial⟩
                          case measure => simp [intOf]; omega
                      · cases bj with
                        | true =>
                          have hz1 : (0 : Int) ≤ z := hz.2 (by rw [hi, hw]; rfl)
                          have hf : freshB V off s.size j = true := by unfold freshB; rw [hi, hw]; rfl
                          have e1 : freshN V off s.size (j + 1) = fj + 1 := by rw [freshN_succ, hf, HFJ.out]; rfl
                          have e2 : beyondB V off s.size (j + 1) = true := by
                            rw [beyondB_succ, hf, HBJ.out]
                            have h7 : ¬ 6 ≤ j := by omega
                            simp [h7]
                          have E1 := Lib.hid e1
                          have E2 := Lib.hid e2
                          clear hz hf e1 e2 hi hw
                          go_wp2
                          go_roundw
                          case rel => exact ⟨j + 1, by omega, by go_num, by rw [E1.out]; go_num, by rw [E2.out], trivial⟩
                          case measure => simp [intOf]; omega
                        | false =>
                          have hz1 : (0 : Int) ≤ z := hz.2 (by rw [hi, hw]; rfl)
                          have hf : freshB V off s.size j = true := by unfold freshB; rw [hi, hw]; rfl
                          have e1 : freshN V off s.size (j + 1) = fj + 1 := by rw [freshN_succ, hf, HFJ.out]; rfl
                          have e2 : beyondB V off s.size (j + 1) = false := by
                            rw [beyondB_succ, hf, HBJ.out]
                            have h7 : ¬ 6 ≤ j := by omega
                            simp [h7]
                          have E1 := Lib.hid e1
                          have E2 := Lib.hid e2
                          clear hz hf e1 e2 hi hw
                          go_wp2
                          go_roundw
                          case rel => exact ⟨j + 1, by omega, by go_num, by rw [E1.out]; go_num, by rw [E2.out], trivial⟩
                          case measure => simp [intOf]; omega
                    · by_cases h6 : (6 : Int) ≤ (j : Int)
                      · cases bj with
                        | true =>
                          have hz1 : (0 : Int) ≤ z := hz.2 (by rw [hi, hw]; rfl)
                          have hf : freshB V off s.size j = true := by unfold freshB; rw [hi, hw]; rfl
                          have e1 : freshN V off s.size (j + 1) = fj + 1 := by rw [freshN_succ, hf, HFJ.out]; rfl
                          have e2 : beyondB V off s.size (j + 1) = true := by
                            rw [beyondB_succ, hf, HBJ.out]
                            have h7 :  6 ≤ j := by omega
                            simp [h7]
                          have E1 := Lib.hid e1
                          have E2 := Lib.hid e2
                          clear hz hf e1 e2 hi hw
                          go_wp2
                          go_roundw
                          case rel => exact ⟨j + 1, by omega, by go_num, by rw [E1.out]; go_num, by rw [E2.out], trivial⟩
                          case measure => simp [intOf]; omega
                        | false =>
                          have hz1 : (0 : Int) ≤ z := hz.2 (by rw [hi, hw]; rfl)
                          have hf : freshB V off s.size j = true := by unfold freshB; rw [hi, hw]; rfl
                          have e1 : freshN V off s.size (j + 1) = fj + 1 := by rw [freshN_succ, hf, HFJ.out]; rfl
                          have e2 : beyondB V off s.size (j + 1) = true := by
                            rw [beyondB_succ, hf, HBJ.out]
                            have h7 :  6 ≤ j := by omega
                            simp [h7]
                          have E1 := Lib.hid e1
                          have E2 := Lib.hid e2
                          clear hz hf e1 e2 hi hw
                          go_wp2
                          go_roundw
                          case rel => exact ⟨j + 1, by omega, by go_num, by rw [E1.out]; go_num, by rw [E2.out], trivial⟩
                          case measure => simp [intOf]; omega
                      · cases bj with
                        | true =>
                          have hz1 : (0 : Int) ≤ z := hz.2 (by rw [hi, hw]; rfl)
                          have hf : freshB V off s.size j = true := by unfold freshB; rw [hi, hw]; rfl
                          have e1 : freshN V off s.size (j + 1) = fj + 1 := by rw [freshN_succ, hf, HFJ.out]; rfl
                          have e2 : beyondB V off s.size (j + 1) = true := by
                            rw [beyondB_succ, hf, HBJ.out]
                            have h7 : ¬ 6 ≤ j := by omega
                            simp [h7]
                          have E1 := Lib.hid e1
                          have E2 := Lib.hid e2
                          clear hz hf e1 e2 hi hw
                          go_wp2
                          go_roundw
                          case rel => exact ⟨j + 1, by omega, by go_num, by rw [E1.out]; go_num, by rw [E2.out], trivial⟩
                          case measure => simp [intOf]; omega
                        | false =>
                          have hz1 : (0 : Int) ≤ z := hz.2 (by rw [hi, hw]; rfl)
                          have hf : freshB V off s.size j = true := by unfold freshB; rw [hi, hw]; rfl
                          have e1 : freshN V off s.size (j + 1) = fj + 1 := by rw [freshN_succ, hf, HFJ.out]; rfl
                          have e2 : beyondB V off s.size (j + 1) = false := by
                            rw [beyondB_succ, hf, HBJ.out]
                            have h7 : ¬ 6 ≤ j := by omega
                            simp [h7]
                          have E1 := Lib.hid e1
                          have E2 := Lib.hid e2
                          clear hz hf e1 e2 hi hw
                          go_wp2
                          go_roundw
                          case rel => exact ⟨j + 1, by omega, by go_num, by rw [E1.out]; go_num, by rw [E2.out], trivial⟩
                          case measure => simp [intOf]; omega
                  · rcases WASC with ⟨t1, y, b5, o5, rfl, t2, t3, hw⟩ | ⟨t1, y, b5, o5, rfl, t2, t3, hw⟩ | ⟨t1, hw⟩
                    · have hz1 : (0 : Int) ≤ z := hz.2 (by rw [hi, hw]; rfl)
                      have hf : freshB V off s.size j = false := by unfold freshB; rw [hi, hw]; rfl
                      have e1 : freshN V off s.size (j + 1) = fj := by rw [freshN_succ, hf, HFJ.out]; rfl
                      have e2 : beyondB V off s.size (j + 1) = bj := by rw [beyondB_succ, hf, HBJ.out]; simp
                      have E1 := Lib.hid e1
                      have E2 := Lib.hid e2
                      clear hz hf e1 e2 hi hw
                      go_wp2
                      go_roundw
                      case rel => exact ⟨j + 1, by omega, by go_num, by rw [E1.out], by rw [E2.out], trivial⟩
                      case measure => simp [intOf]; omega
                    · have hz1 : ¬ (0 : Int) ≤ z := fun h => by have := hz.1 h; rw [hi, hw] at this; cases this
                      have hf : freshB V off s.size j = false := by unfold freshB; rw [hi, hw]; rfl
                      have e1 : freshN V off s.size (j + 1) = fj := by rw [freshN_succ, hf, HFJ.out]; rfl
                      have e2 : beyondB V off s.size (j + 1) = bj := by rw [beyondB_succ, hf, HBJ.out]; simp
                      have E1 := Lib.hid e1
                      have E2 := Lib.hid e2
                      clear hz hf e1 e2 hi hw
                      go_wp2
                      go_roundw
                      case rel => exact ⟨j + 1, by omega, by go_num, by rw [E1.out], by rw [E2.out], trivial⟩
                      case measure => simp [intOf]; omega
                    · have hz1 : ¬ (0 : Int) ≤ z := fun h => by have := hz.1 h; rw [hi, hw] at this; cases this
                      have hf : freshB V off s.size j = false := by unfold freshB; rw [hi, hw]; rfl
                      have e1 : freshN V off s.size (j + 1) = fj := by rw [freshN_succ, hf, HFJ.out]; rfl
                      have e2 : beyondB V off s.size (j + 1) = bj := by rw [beyondB_succ, hf, HBJ.out]; simp
                      have E1 := Lib.hid e1
                      have E2 := Lib.hid e2
                      clear hz hf e1 e2 hi hw
                      go_wp2
                      go_roundw
                      case rel => exact ⟨j + 1, by omega, by go_num, by rw [E1.out], by rw [E2.out], trivial⟩
                      case measure => simp [intOf]; omega
                  · rcases WASC with ⟨t1, y, b5, o5, rfl, t2, t3, hw⟩ | ⟨t1, y, b5, o5, rfl, t2, t3, hw⟩ | ⟨t1, hw⟩
                    · have hz1 : (0 : Int) ≤ z := hz.2 (by rw [hi, hw]; rfl)
                      have hf : freshB V off s.size j = false := by unfold freshB; rw [hi, hw]; rfl
                      have e1 : freshN V off s.size (j + 1) = fj := by rw [freshN_succ, hf, HFJ.out]; rfl
                      have e2 : beyondB V off s.size (j + 1) = bj := by rw [beyondB_succ, hf, HBJ.out]; simp
                      have E1 := Lib.hid e1
                      have E2 := Lib.hid e2
                      clear hz hf e1 e2 hi hw
                      go_wp2
                      go_roundw
                      case rel => exact ⟨j + 1, by omega, by go_num, by rw [E1.out], by rw [E2.out], trivial⟩
                      case measure => simp [intOf]; omega
                    · have hz1 : ¬ (0 : Int) ≤ z := fun h => by have := hz.1 h; rw [hi, hw] at this; cases this
                      have hf : freshB V off s.size j = false := by unfold freshB; rw [hi, hw]; rfl
                      have e1 : freshN V off s.size (j + 1) = fj := by rw [freshN_succ, hf, HFJ.out]; rfl
                      have e2 : beyondB V off s.size (j + 1) = bj := by rw [beyondB_succ, hf, HBJ.out]; simp
                      have E1 := Lib.hid e1
                      have E2 := Lib.hid e2
                      clear hz hf e1 e2 hi hw
                      go_wp2
                      go_roundw
                      case rel => exact ⟨j + 1, by omega, by go_num, by rw [E1.out], by rw [E2.out], trivial⟩
                      case measure => simp [intOf]; omega
                    · have hz1 : ¬ (0 : Int) ≤ z := fun h => by have := hz.1 h; rw [hi, hw] at this; cases this
                      have hf : freshB V off s.size j = false := by unfold freshB; rw [hi, hw]; rfl
                      have e1 : freshN V off s.size (j + 1) = fj := by rw [freshN_succ, hf, HFJ.out]; rfl
                      have e2 : beyondB V off s.size (j + 1) = bj := by rw [beyondB_succ, hf, HBJ.out]; simp
                      have E1 := Lib.hid e1
                      have E2 := Lib.hid e2
                      clear hz hf e1 e2 hi hw
                      go_wp2
                      go_roundw
                      case rel => exact ⟨j + 1, by omega, by go_num, by rw [E1.out], by rw [E2.out], trivial⟩
                      case measure => simp [intOf]; omega
                  · rcases WASC with ⟨t1, y, b5, o5, rfl, t2, t3, hw⟩ | ⟨t1, y, b5, o5, rfl, t2, t3, hw⟩ | ⟨t1, hw⟩
                    · have hz1 : (0 : Int) ≤ z := hz.2 (by rw [hi, hw]; rfl)
                      have hf : freshB V off s.size j = false := by unfold freshB; rw [hi, hw]; rfl
                      have e1 : freshN V off s.size (j + 1) = fj := by rw [freshN_succ, hf, HFJ.out]; rfl
                      have e2 : beyondB V off s.size (j + 1) = bj := by rw [beyondB_succ, hf, HBJ.out]; simp
                      have E1 := Lib.hid e1
                      have E2 := Lib.hid e2
                      clear hz hf e1 e2 hi hw
                      go_wp2
                      go_roundw
                      case rel => exact ⟨j + 1, by omega, by go_num, by rw [E1.out], by rw [E2.out], trivial⟩
                      case measure => simp [intOf]; omega
                    · have hz1 : ¬ (0 : Int) ≤ z := fun h => by have := hz.1 h; rw [hi, hw] at this; cases this
                      have hf : freshB V off s.size j = false := by unfold freshB; rw [hi, hw]; rfl
                      have e1 : freshN V off s.size (j + 1) = fj := by rw [freshN_succ, hf, HFJ.out]; rfl
                      have e2 : beyondB V off s.size (j + 1) = bj := by rw [beyondB_succ, hf, HBJ.out]; simp
                      have E1 := Lib.hid e1
                      have E2 := Lib.hid e2
                      clear hz hf e1 e2 hi hw
                      go_wp2
                      go_roundw
                      case rel => exact ⟨j + 1, by omega, by go_num, by rw [E1.out], by rw [E2.out], trivial⟩
                      case measure => simp [intOf]; omega
                    · have hz1 : ¬ (0 : Int) ≤ z := fun h => by have := hz.1 h; rw [hi, hw] at this; cases this
                      have hf : freshB V off s.size j = false := by unfold freshB; rw [hi, hw]; rfl
                      have e1 : freshN V off s.size (j + 1) = fj := by rw [freshN_succ, hf, HFJ.out]; rfl
                      have e2 : beyondB V off s.size (j + 1) = bj := by rw [beyondB_succ, hf, HBJ.out]; simp
                      have E1 := Lib.hid e1
                      have E2 := Lib.hid e2
                      clear hz hf e1 e2 hi hw
                      go_wp2
                      go_roundw
                      case rel => exact ⟨j + 1, by omega, by go_num, by rw [E1.out], by rw [E2.out], trivial⟩
                      case measure => simp [intOf]; omega
                  -- END2
                · have : j = nw := by omega
                  subst this
                  clear hj
                  have CO := Lib.hid (fun A c w hr => by have := rof_any A c W w (by rw [HLW.out]; decide) hr; rwa [HLW.out] at this)
                  have CR1 := Lib.hid (fun A c w hr => by have := room_any A c V w (by rw [HL0.out]; decide) hr; rwa [HL0.out] at this)
                  have CR2 := Lib.hid (fun A c w hr => by have := room_any A c W w (by rw [HLW.out]; decide) hr; rwa [HLW.out] at this)
                  have HOF : Hid (ofR W = some 4) := ofR_some.2 HNS.out.laid.snd.vol
                  have hroom := HNS.out.room
                  have hind := HIND.out
                  have hrv : roomR V ≤ 40 := by
                    have h1 := HS.out.room
                    have h2 := lv_room
                    omega
                  have hrw : roomR W ≤ 40 := by
                    have h1 := HNS.out.laid.room
                    have h2 := lv_room
                    omega
                  have hfle := freshN_le V off s.size j
                  obtain ⟨fj, hfj⟩ : ∃ fj, freshN V off s.size j = fj := ⟨_, rfl⟩
                  obtain ⟨bj, hbj⟩ : ∃ bj, beyondB V off s.size j = bj := ⟨_, rfl⟩
                  rw [hfj] at hfle
                  rw [hfj, hbj] at hroom
                  rw [hfj, hbj]
                  obtain ⟨rv, hrv2⟩ : ∃ rv, roomR V = rv := ⟨_, rfl⟩
                  obtain ⟨rw_, hrw2⟩ : ∃ rw_, roomR W = rw_ := ⟨_, rfl⟩
                  rw [hrv2] at hrv hroom CR1
                  rw [hrw2] at hrw hroom CR2
                  have FC : (f = 1 ∧ (rv : Int) - (rw_ : Int) = ((fj : Nat) : Int)) ∨ (f = 0 ∧ bj = true ∧ (rv : Int) - (rw_ : Int) = ((fj + 1 : Nat) : Int)) ∨ (f = 0 ∧ bj = false ∧ (rv : Int) - (rw_ : Int) = ((fj : Nat) : Int)) := by
                    by_cases hz : slotX V 4 (getR V 2) 70 = 0
                    · rw [if_neg (show ¬ slotX V 4 (getR V 2) 70 ≠ 0 from fun h => h hz)] at hind
                      cases bj with
                      | true => rw [if_pos ⟨hz, rfl⟩] at hroom; exact .inr (.inl ⟨hind.symm, rfl, hroom⟩)
                      | false => rw [if_neg (show ¬ (slotX V 4 (getR V 2) 70 = 0 ∧ false = true) from fun h => by cases h.2)] at hroom; exact .inr (.inr ⟨hind.symm, rfl, hroom⟩)
                    · rw [if_pos hz] at hind
                      rw [if_neg (fun h => hz h.1)] at hroom
                      exact .inl ⟨hind.symm, hroom⟩
                  have wr1 : IntKind.i64.wrap ((rv : Int) - (rw_ : Int)) = (rv : Int) - (rw_ : Int) := IntWalk.i64_in _ (by omega)
                  have wr2 : IntKind.i64.wrap ((fj : Int) + 1) = (fj : Int) + 1 := IntWalk.i64_in _ (by omega)
                  clear hroom hind hfj hbj hrv2 hrw2 HISB HFR HVR HIND HNS EV EW EVl EWl RB5 RB6 D5f HC N2 d1 d2 d3 d4 d6 d7 d8
                  rcases FC with ⟨rfl, hq⟩ | ⟨rfl, rfl, hq⟩ | ⟨rfl, rfl, hq⟩
                  all_goals
                    rw [hq] at wr1
                    have HQ := Lib.hid hq
                    clear hq
                    go_wp2_with fail
                    refine (CO.out _ _ _ RW5.out).mono ?_
                    rintro e w6 ⟨rfl, hb6⟩
                    rw [HOF.out, HLW.out]
                    unfold ofE
                    dsimp only
                    have hb7 : Below w6.heap.size w6 (w6.alloc (.cells #[.int .i64 ((40 : Nat) : Int), .int .i64 ((4 : Nat) : Int), .int .i64 1, .int .i64 2, .int .i64 3, .int .i64 (dataN 4 : Nat)] 66)) := (Below.refl _ _).alloc (Nat.le_refl _) _
                    have hg7 := Blk.new w6 66 #[.int .i64 ((40 : Nat) : Int), .int .i64 ((4 : Nat) : Int), .int .i64 1, .int .i64 2, .int .i64 3, .int .i64 (dataN 4 : Nat)]
                    go_wp2_with fail
                    generalize World.alloc _ _ = w7 at *
                    have D7 := Lib.hid (D5.out.trans ((hb6.trans (hb7.mono hb6.size)).mono D5.out.size))
                    have RV7 := Lib.hid ((((RV5.out.below hb6).mono hb6.size).below hb7).mono hb7.size)
                    have RW7 := Lib.hid ((((RW5.out.below hb6).mono hb6.size).below hb7).mono hb7.size)
                    have G7 := Lib.hid hg7
                    clear hb6 hb7 hg7 RV5 RW5 CO D5
                    refine (fixed19_any _).mono ?_
                    rintro e w8 ⟨rfl, hb8⟩
                    have D8 := Lib.hid (D7.out.trans (hb8.mono D7.out.size))
                    have RV8 := Lib.hid ((RV7.out.below hb8).mono hb8.size)
                    have RW8 := Lib.hid ((RW7.out.below hb8).mono hb8.size)
                    have k0 := (G7.out.below hb8 G7.out.lt).cell 0 rfl
                    clear hb8 D7 RV7 RW7
                    go_wp2_with fail
                    refine (CR1.out _ _ _ RV8.out).mono ?_
                    rintro e w9 ⟨rfl, hb9⟩
                    have D9 := Lib.hid (D8.out.trans (hb9.mono D8.out.size))
                    have RW9 := Lib.hid ((RW8.out.below hb9).mono hb9.size)
                    clear hb9 D8 RV8 RW8 k0
                    go_wp2_with fail
                    refine (CR2.out _ _ _ RW9.out).mono ?_
                    rintro e w10 ⟨rfl, hb10⟩
                    have D10 := Lib.hid (D9.out.trans (hb10.mono D9.out.size))
                    clear hb10 D9 RW9
                    go_wp2
                    go_ret
                    exact ⟨by have h := HQ.out; simp; omega, B2.out.trans (D10.out.mono B2.out.size)⟩
      · have hc1 : (cw != 0) = true := by simpa using hc
        have hc2 : ¬ cw = 0 := hc
        clear HPL HPN
        go_wp2_with fail
        refine (fixed19_any _).mono ?_
        rintro e w4 ⟨rfl, hb4⟩
        have D4 := Lib.hid (D3.out.trans (hb4.mono D3.out.size))
        clear hb4
        go_wp2
        go_ret
        exact ⟨rfl, B2.out.trans (D4.out.mono B2.out.size)⟩
end Go.Proofs.Ytjmafegckfijbaa
