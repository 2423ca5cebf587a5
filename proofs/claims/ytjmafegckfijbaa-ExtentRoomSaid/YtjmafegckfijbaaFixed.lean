/-
  law19's fixed and Great.
-/
import Derived.Test.YtjmafegckfijbaaFixAl
import Derived.Test.YtjmafegckfijbaaExtW
import Derived.Test.YtjmafegckfijbaaExtBl
import Derived.Test.YtjmafegckfijbaaInoC
import Derived.Test.YtjmafegckfijbaaLaw18
namespace Go.Proofs.Ytjmafegckfijbaa
open Go.RowKit
set_option linter.unusedVariables false
set_option linter.unusedSimpArgs false
set_option maxRecDepth 100000
theorem fx_plan : planE (24 : Nat) (4 : Nat) = 0 := by decide
theorem fx_new : newO (fmtV 24 4) 1 0 = (fxV, 1, 0) := by
  unfold newO
  rw [ofR_some.2 (fmtV_vol fx_plan)]
  dsimp only
  rw [if_neg (by decide), fx_free]
  rfl
theorem fx_volV : IsVol fxV 4 := (fmtV_vol fx_plan).putI (by decide) (by decide) _
theorem fx_getV : getR fxV 1 = newL 1 0 := get_put_same (fmtV_vol fx_plan) (n := 1) (by decide) (by decide) (newL_fit (by decide) (by decide))
theorem fx_okV : OkS 24 4 (fxV, newL 1 0) := ⟨fx_volV, (putV_length _ _ _).trans (fmtV_length _ _), newL_fit (by decide) (by decide)⟩
theorem fx_write : writeO fxV 1 300 fxD = (fxX, 0) := by
  unfold writeO
  rw [if_neg (by rw [show ((1 : Int)) = ((1 : Nat) : Int) from rfl, inoE_zero fx_volV (by decide) (by decide)]; simp), if_neg (by decide), if_neg (by decide), mO_vol fx_volV, fx_getV]
  rw [show wriG noK fxV 4 (newL 1 0) (Int.toNat 300) fxD = fxS from rfl]
  have h := fx_some
  unfold fxX
  cases hs : fxS with
  | none => rw [hs] at h; cases h
  | some s => rfl
theorem fx_volX : IsVol fxX 4 ∧ fxX.length = 24 := by
  have h := fx_some
  unfold fxX
  cases hs : fxS with
  | none => rw [hs] at h; cases h
  | some s =>
    have ok := wriG_ok (noK_ok 4) fx_okV (by decide) hs
    exact ⟨ok.vol.putI (by decide) (by decide) _, (putV_length _ _ _).trans ok.len⟩
theorem fx_blocks : blocksO fxX 1 = [-1, -1, 5] := by
  have hv := fx_volX.1
  have e1 : getR fxX ((1 : Nat) : Int) = inoR (blkL fxX (blkN 1)) (atN 1) := getR_vol hv (by decide) (by decide)
  show blocksO fxX ((1 : Nat) : Int) = _
  unfold blocksO
  rw [if_neg (by rw [inoE_zero hv (by decide) (by decide)]; simp), mO_vol hv, e1, fx_inoB]
theorem fx_count : countO fxX 1 = 1 := by
  have hv := fx_volX.1
  have e1 : getR fxX ((1 : Nat) : Int) = inoR (blkL fxX (blkN 1)) (atN 1) := getR_vol hv (by decide) (by decide)
  show countO fxX ((1 : Nat) : Int) = _
  unfold countO
  rw [if_neg (by rw [inoE_zero hv (by decide) (by decide)]; simp), mO_vol hv, e1, fx_cnt]
set_option maxHeartbeats 4000000 in
theorem fixed19_any (w : World) : Calls Try.prog 17 #[] w fun e w' => e = .returned (.bool true) ∧ Below w.heap.size w w' := by
  have C2 : Hid (∀ w, Calls Try.prog 48 #[.int .i64 24, .int .i64 4] w fun e w' => (∃ v, e = .returned (.tuple #[v, .int .i64 0]) ∧ NewRow (fmtV 24 4) w v w') ∧ Below w.heap.size w w') := fun w => (format_any 24 4 w).mono fun e w' h => by
    unfold FmtPost at h
    rw [if_pos (show planE 24 4 = 0 by decide)] at h
    exact ⟨h.2, h.1⟩
  have C3 : Hid (∀ A c w, RowAt w w.heap.size A ((fmtV 24 4).map .string) → Calls Try.prog 34 #[.slice A (fmtV 24 4).length c, .int .i64 1, .int .i64 0] w fun e w' => (∃ v, e = .returned (.tuple #[v, .int .i64 1, .int .i64 0]) ∧ OwnRow fxV w v w') ∧ Below w.heap.size w w') := fun A c w hr => by
    have := new_ino A c (fmtV 24 4) 1 0 w (by rw [fmtV_length]; decide) hr
    rw [fx_new] at this
    exact this
  have HL : Hid (fxV.length = 24 ∧ fxX.length = 24) := ⟨fx_okV.len, fx_volX.2⟩
  have C4 : Hid (∀ A c w, RowAt w w.heap.size A (fxV.map .string) → Calls Try.prog 35 #[.slice A fxV.length c, .int .i64 1, .int .i64 300, .string ⟨#[120]⟩] w (RowCode fxX 0 w)) := fun A c w hr => by
    have := write_any A c fxV 1 300 ⟨#[120]⟩ w (by rw [HL.out.1]; decide) (by decide) (by decide) hr
    rw [show (⟨#[120]⟩ : ByteArray).data.toList = fxD from rfl, fx_write] at this
    exact this
  have C5 : Hid (∀ A c w, RowAt w w.heap.size A (fxX.map .string) → Calls Try.prog 18 #[.slice A fxX.length c, .int .i64 1] w fun e w' => (∃ v, e = .returned v ∧ OwnInts [-1, -1, 5] w v w') ∧ Below w.heap.size w w') := fun A c w hr => by
    have := blocks_any A c fxX 1 w (by rw [HL.out.2]; decide) hr
    rw [fx_blocks] at this
    exact this
  have C6 : Hid (∀ A c w, RowAt w w.heap.size A (fxX.map .string) → Calls Try.prog 22 #[.slice A fxX.length c, .int .i64 1] w fun e w' => e = .returned (.int .i64 1) ∧ Below w.heap.size w w') := fun A c w hr => by
    have := count_any A c fxX 1 w (by rw [HL.out.2]; decide) hr
    rw [fx_count] at this
    exact this
  have HF : Hid ((fmtV 24 4).length ≤ maxLen) := by show _ ≤ _; rw [fmtV_length]; decide
  generalize fmtV 24 4 = f at *
  generalize fxV = g at *
  generalize fxX = x at *
  go_enter Try.func17, Try.ntmps17
  go_wp2_with fail
  refine (C2.out _).mono ?_
  rintro e w1 ⟨⟨v, rfl, hn⟩, hb1⟩
  obtain ⟨A1, c1, rfl, hr1⟩ := (hn.own HF.out).read
  have B1 := Lib.hid hb1
  have R1 := Lib.hid hr1
  clear hn hb1 hr1
  go_wp2_with fail
  refine (C3.out _ _ _ R1.out).mono ?_
  rintro e w2 ⟨⟨v, rfl, hn⟩, hb2⟩
  obtain ⟨A2, c2, rfl, hr2⟩ := hn.read
  have B2 := Lib.hid (B1.out.trans (hb2.mono B1.out.size))
  have R2 := Lib.hid hr2
  clear hn hb2 hr2
  go_wp2_with fail
  refine (C4.out _ _ _ R2.out).mono ?_
  rintro e w3 ⟨⟨v, rfl, hn⟩, hb3⟩
  obtain ⟨A3, c3, rfl, hr3⟩ := hn.read
  have B3 := Lib.hid (B2.out.trans (hb3.mono B2.out.size))
  have R3 := Lib.hid hr3
  clear hn hb3 hr3
  go_wp2_with fail
  refine (C5.out _ _ _ R3.out).mono ?_
  rintro e w4 ⟨⟨v, rfl, hn⟩, hb4⟩
  obtain ⟨A4, c4, rfl, hr4⟩ := OwnInts.read hn
  obtain ⟨bb, oo, rfl, hbb, hrow⟩ := hr4.at_ (by decide)
  have k0 : w4.cell? ⟨bb, oo + 0, none⟩ = some (.int .i64 (-1)) := hrow 0 _ rfl
  have k1 : w4.cell? ⟨bb, oo + 1, none⟩ = some (.int .i64 (-1)) := hrow 1 _ rfl
  have k2 : w4.cell? ⟨bb, oo + 2, none⟩ = some (.int .i64 5) := hrow 2 _ rfl
  rw [Nat.add_zero] at k0
  have B4 := Lib.hid (B3.out.trans (hb4.mono B3.out.size))
  have R4 := Lib.hid ((R3.out.below hb4).mono hb4.size)
  clear hn hb4 hr4 hrow
  rw [show ([-1, -1, 5] : List Int).length = 3 from rfl]
  go_wp2_with fail
  refine (C6.out _ _ _ R4.out).mono ?_
  rintro e w5 ⟨rfl, hb5⟩
  have B5 := Lib.hid (B4.out.trans (hb5.mono B4.out.size))
  clear hb5
  go_wp2
  go_ret
  exact ⟨rfl, B5.out⟩
set_option maxHeartbeats 1000000 in
theorem great19_any (A : Option Addr) (c : Nat) (xs : List ByteArray) (w : World) (hx : xs.length ≤ maxLen) (hs : ∀ s ∈ xs, s.size ≤ 9223372036854775807) (h : RowAt w w.heap.size A (xs.map .string)) :
    Calls Try.prog 16 #[.slice A xs.length c] w (GreatPost xs.length w) := by
  unfold maxLen at hx
  have HR := Lib.hid h
  have HS : Hid (∀ j (hj : j < xs.length), xs[j].size ≤ 9223372036854775807) := fun j hj => hs _ (List.getElem_mem hj)
  clear h hs
  by_cases h64 : xs.length ≤ 64
  · have g1 : ¬ (64 : Int) < (xs.length : Int) := by omega
    have h80 : xs.length ≤ 80 := by omega
    go_enter Try.func16, Try.ntmps16
    go_wp2
    go_loop [10] (fun i => ∃ k : Nat, k ≤ xs.length ∧ i = .int .i64 k) (fun i => xs.length - (intOf i).toNat)
    case atStart => exact ⟨0, Nat.zero_le _, rfl⟩
    case round =>
      obtain ⟨k, hk, rfl⟩ := hrel
      by_cases hlt : k < xs.length
      · obtain ⟨b, o, rfl, hb, hc⟩ := row_get HR.out k hlt
        rw [getD_eq xs k hlt] at hc
        have hsz := HS.out k hlt
        generalize xs[k] = s at *
        by_cases h300 : 300 < s.size
        · have h2 : (300 : Int) < (s.size : Int) := by omega
          go_wp2
          go_ret
          exact ⟨⟨1, rfl, .inl rfl⟩, rfl⟩
        · have h2 : ¬ (300 : Int) < (s.size : Int) := by omega
          go_wp2
          go_round
          case rel => exact ⟨k + 1, by omega, by go_num⟩
          case measure => simp [intOf]; omega
      · go_wp2
        go_ret
        exact ⟨⟨0, rfl, .inr ⟨rfl, h80⟩⟩, rfl⟩
  · have g1 : (64 : Int) < (xs.length : Int) := by omega
    go_enter Try.func16, Try.ntmps16
    go_wp2
    go_ret
    exact ⟨⟨1, rfl, .inl rfl⟩, rfl⟩
end Go.Proofs.Ytjmafegckfijbaa
