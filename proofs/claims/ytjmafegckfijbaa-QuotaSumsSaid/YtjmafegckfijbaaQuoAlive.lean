/-
  law22's alive.
-/
import Derived.Test.YtjmafegckfijbaaQuoAl
import Derived.Test.YtjmafegckfijbaaQuoC
import Derived.Test.YtjmafegckfijbaaLaw18
namespace Go.Proofs.Ytjmafegckfijbaa
open Go.RowKit
set_option linter.unusedVariables false
set_option linter.unusedSimpArgs false
set_option maxRecDepth 100000
theorem al_plan : planE (24 : Nat) (8 : Nat) = 0 := by decide
theorem al_new : newO (fmtV 24 8) 1 3 = (alV, 1, 0) := by
  unfold newO
  rw [ofR_some.2 (fmtV_vol al_plan)]
  dsimp only
  rw [if_neg (by decide), al_free]
  rfl
theorem al_volV : IsVol alV 8 := (fmtV_vol al_plan).putI (by decide) (by decide) _
theorem al_getV : getR alV 1 = newL 1 3 := get_put_same (fmtV_vol al_plan) (n := 1) (by decide) (by decide) (newL_fit (by decide) (by decide))
theorem al_okV : OkS 24 8 (alV, newL 1 3) := ⟨al_volV, (putV_length _ _ _).trans (fmtV_length _ _), newL_fit (by decide) (by decide)⟩
theorem al_write : writeO alV 1 100 alD = (alX, 0) := by
  unfold writeO
  rw [if_neg (by rw [show ((1 : Int)) = ((1 : Nat) : Int) from rfl, inoE_zero al_volV (by decide) (by decide)]; simp), if_neg (by decide), if_neg (by decide), mO_vol al_volV, al_getV]
  rw [show wriG noK alV 8 (newL 1 3) (Int.toNat 100) alD = alS from rfl]
  have h := al_some
  unfold alX
  cases hs : alS with
  | none => rw [hs] at h; cases h
  | some s => rfl
theorem al_volX : IsVol alX 8 ∧ alX.length = 24 := by
  have h := al_some
  unfold alX
  cases hs : alS with
  | none => rw [hs] at h; cases h
  | some s =>
    have ok := wriG_ok (noK_ok 8) al_okV (by decide) hs
    exact ⟨ok.vol.putI (by decide) (by decide) _, (putV_length _ _ _).trans ok.len⟩
theorem al_used : usedO alX 3 = 2 := by
  have hv := al_volX.1
  unfold usedO allO
  rw [ofR_some.2 hv]
  dsimp only
  rw [al_all]
  have e1 : getR alX ((1 : Nat) : Int) = inoR (blkL alX (blkN 1)) (atN 1) := getR_vol hv (by decide) (by decide)
  unfold usedL hisB
  rw [List.filter_cons, if_pos (by rw [e1, al_own]; decide)]
  simp only [List.filter_nil, List.map_cons, List.map_nil, List.sum_cons, List.sum_nil]
  unfold countO
  rw [if_neg (by rw [inoE_zero hv (by decide) (by decide)]; simp), mO_vol hv, e1, al_cnt]
  rfl
theorem al_quo : quoE alX 3 = 0 := by unfold quoE; rw [ofR_some.2 al_volX.1]; rfl
theorem al_set1 : setO alX 3 1 = ([], 13) := by
  unfold setO overB
  rw [al_quo, al_used]
  rfl
theorem al_set2 : setO alX 3 2 = (layX alX 1 6 (putL 2 2), 0) := by
  unfold setO overB
  rw [al_quo, al_used]
  rfl
theorem layX_one {xs : List ByteArray} {m p : Nat} {d : List UInt8} (h : IsVol xs m) (hp : p + d.length ≤ 128) : IsVol (layX xs 1 p d) m := by
  have hl := h.len
  have hs := h.size 1 (by omega)
  have hz : (layB (xs.getD 1 ⟨#[]⟩) p d).size = 128 := by rw [layB_size _ _ _ (by omega), hs]
  refine ⟨fun t ht => ?_, by rw [layX_length]; exact h.2.1, ?_, ?_⟩
  · rcases List.mem_or_eq_of_mem_set ht with a | a
    · exact h.1 t a
    · rw [a]; exact hz
  · rw [layX_length]
    unfold layX
    rw [getD_set' _ _ _ _ (by omega), if_neg (by omega)]; exact h.2.2.1
  · rw [layX_length, layX_blk 1 p d (by omega) 2, if_neg (by omega)]; exact h.2.2.2
theorem al_limit : limitO (layX alX 1 6 (putL 2 2)) 3 = (2, 0) := by
  have hv : IsVol (layX alX 1 6 (putL 2 2)) 8 := layX_one al_volX.1 (by rw [putL_length]; omega)
  have hq : quoE (layX alX 1 6 (putL 2 2)) 3 = 0 := by unfold quoE; rw [ofR_some.2 hv]; rfl
  unfold limitO
  rw [hq, if_pos rfl]
  show (((numAt (blkL (layX alX 1 6 (putL 2 2)) 1) 6 2 : Nat) : Int), (0 : Int)) = _
  rw [al_lim]
  rfl
set_option maxHeartbeats 4000000 in
theorem alive22_any (w : World) : Calls Try.prog 24 #[] w fun e w' => e = .returned (.bool true) ∧ Below w.heap.size w w' := by
  have C2 : Hid (∀ w, Calls Try.prog 48 #[.int .i64 24, .int .i64 8] w fun e w' => (∃ v, e = .returned (.tuple #[v, .int .i64 0]) ∧ NewRow (fmtV 24 8) w v w') ∧ Below w.heap.size w w') := fun w => (format_any 24 8 w).mono fun e w' h => by
    unfold FmtPost at h
    rw [if_pos (show planE 24 8 = 0 by decide)] at h
    exact ⟨h.2, h.1⟩
  have C3 : Hid (∀ A c w, RowAt w w.heap.size A ((fmtV 24 8).map .string) → Calls Try.prog 34 #[.slice A (fmtV 24 8).length c, .int .i64 1, .int .i64 3] w fun e w' => (∃ v, e = .returned (.tuple #[v, .int .i64 1, .int .i64 0]) ∧ OwnRow alV w v w') ∧ Below w.heap.size w w') := fun A c w hr => by
    have := new_ino A c (fmtV 24 8) 1 3 w (by rw [fmtV_length]; decide) hr
    rw [al_new] at this
    exact this
  have HL : Hid (alV.length = 24 ∧ alX.length = 24 ∧ (layX alX 1 6 (putL 2 2)).length = 24) := ⟨al_okV.len, al_volX.2, by rw [layX_length]; exact al_volX.2⟩
  have C4 : Hid (∀ A c w, RowAt w w.heap.size A (alV.map .string) → Calls Try.prog 35 #[.slice A alV.length c, .int .i64 1, .int .i64 100, .string ⟨#[48, 49, 50, 51, 52, 53, 54, 55, 56, 57, 48, 49, 50, 51, 52, 53, 54, 55, 56, 57, 48, 49, 50, 51, 52, 53, 54, 55, 56, 57, 48, 49, 50, 51, 52, 53, 54, 55, 56, 57]⟩] w (RowCode alX 0 w)) := fun A c w hr => by
    have := write_any A c alV 1 100 ⟨#[48, 49, 50, 51, 52, 53, 54, 55, 56, 57, 48, 49, 50, 51, 52, 53, 54, 55, 56, 57, 48, 49, 50, 51, 52, 53, 54, 55, 56, 57, 48, 49, 50, 51, 52, 53, 54, 55, 56, 57]⟩ w (by rw [HL.out.1]; decide) (by decide) (by decide) hr
    rw [show (⟨#[48, 49, 50, 51, 52, 53, 54, 55, 56, 57, 48, 49, 50, 51, 52, 53, 54, 55, 56, 57, 48, 49, 50, 51, 52, 53, 54, 55, 56, 57, 48, 49, 50, 51, 52, 53, 54, 55, 56, 57]⟩ : ByteArray).data.toList = alD from rfl, al_write] at this
    exact this
  have C5 : Hid (∀ A c w, RowAt w w.heap.size A (alX.map .string) → Calls Try.prog 26 #[.slice A alX.length c, .int .i64 3, .int .i64 1] w (RowCode [] 13 w)) := fun A c w hr => by
    have := set_quo A c alX 3 1 w (by rw [HL.out.2.1]; decide) hr
    rw [al_set1] at this
    exact this
  have C6 : Hid (∀ A c w, RowAt w w.heap.size A (alX.map .string) → Calls Try.prog 26 #[.slice A alX.length c, .int .i64 3, .int .i64 2] w (RowCode (layX alX 1 6 (putL 2 2)) 0 w)) := fun A c w hr => by
    have := set_quo A c alX 3 2 w (by rw [HL.out.2.1]; decide) hr
    rw [al_set2] at this
    exact this
  have C7 : Hid (∀ A c w, RowAt w w.heap.size A ((layX alX 1 6 (putL 2 2)).map .string) → Calls Try.prog 29 #[.slice A (layX alX 1 6 (putL 2 2)).length c, .int .i64 3] w fun e w' => e = .returned (.tuple #[.int .i64 2, .int .i64 0]) ∧ Below w.heap.size w w') := fun A c w hr => by
    have := quo_limit A c (layX alX 1 6 (putL 2 2)) 3 w (by rw [HL.out.2.2]; decide) hr
    rw [al_limit] at this
    exact this
  have C8 : Hid (∀ A c w, RowAt w w.heap.size A (alX.map .string) → Calls Try.prog 30 #[.slice A alX.length c, .int .i64 3] w fun e w' => e = .returned (.int .i64 2) ∧ Below w.heap.size w w') := fun A c w hr => by
    have := used_quo A c alX 3 w (by rw [HL.out.2.1]; decide) hr
    rw [al_used] at this
    exact this
  have HF : Hid ((fmtV 24 8).length ≤ maxLen) := by show _ ≤ _; rw [fmtV_length]; decide
  generalize fmtV 24 8 = f at *
  generalize alV = g at *
  generalize layX alX 1 6 (putL 2 2) = y at *
  generalize alX = x at *
  go_enter Try.func24, Try.ntmps24
  go_wp2_with fail
  refine (C2.out _).mono ?_
  rintro e w1 ⟨⟨v, rfl, hn⟩, hb1⟩
  obtain ⟨A1, c1, rfl, hr1⟩ := (hn.own HF.out).read
  have B1 := Lib.hid hb1
  have R1 := Lib.hid hr1
  clear hn hb1 hr1
  go_wp2_with fail
  refine (C3.out _ _ _ R1.out).mono ?_
  rintro e w2 ⟨⟨v, rfl, hn⟩, hb2⟩
  obtain ⟨A2, c2, rfl, hr2⟩ := hn.read
  have B2 := Lib.hid (B1.out.trans (hb2.mono B1.out.size))
  have R2 := Lib.hid hr2
  clear hn hb2 hr2
  go_wp2_with fail
  refine (C4.out _ _ _ R2.out).mono ?_
  rintro e w3 ⟨⟨v, rfl, hn⟩, hb3⟩
  obtain ⟨A3, c3, rfl, hr3⟩ := hn.read
  have B3 := Lib.hid (B2.out.trans (hb3.mono B2.out.size))
  have R3 := Lib.hid hr3
  clear hn hb3 hr3
  go_wp2_with fail
  refine (C5.out _ _ _ R3.out).mono ?_
  rintro e w4 ⟨⟨v, rfl, hn⟩, hb4⟩
  have B4 := Lib.hid (B3.out.trans (hb4.mono B3.out.size))
  have R4 := Lib.hid ((R3.out.below hb4).mono hb4.size)
  clear hn hb4
  go_wp2_with fail
  refine (C6.out _ _ _ R4.out).mono ?_
  rintro e w5 ⟨⟨v5, rfl, hn⟩, hb5⟩
  obtain ⟨A5, c5, rfl, hr5⟩ := hn.read
  have B5 := Lib.hid (B4.out.trans (hb5.mono B4.out.size))
  have R5 := Lib.hid hr5
  have R5x := Lib.hid ((R4.out.below hb5).mono hb5.size)
  clear hn hb5 hr5
  go_wp2_with fail
  refine (C7.out _ _ _ R5.out).mono ?_
  rintro e w6 ⟨rfl, hb6⟩
  have B6 := Lib.hid (B5.out.trans (hb6.mono B5.out.size))
  have R6x := Lib.hid ((R5x.out.below hb6).mono hb6.size)
  clear hb6
  go_wp2_with fail
  refine (C8.out _ _ _ R6x.out).mono ?_
  rintro e w7 ⟨rfl, hb7⟩
  have B7 := Lib.hid (B6.out.trans (hb7.mono B6.out.size))
  clear hb7
  go_wp2
  go_ret
  exact ⟨rfl, B7.out⟩
end Go.Proofs.Ytjmafegckfijbaa
