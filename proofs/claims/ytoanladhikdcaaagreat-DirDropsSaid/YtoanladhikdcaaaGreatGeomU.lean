/-
  What geom.Take, Give, Used and Room do.
-/
import Derived.Test.YtoanladhikdcaaaGreatGeomT
namespace Go.Proofs.YtoanladhikdcaaaGreat
open Go.RowKit
set_option linter.unusedVariables false
set_option linter.unusedSimpArgs false
set_option maxRecDepth 100000

theorem ones_pop (b : UInt8) : Lib.onesCount b.toNat = pop8 b := by
  have h : ∀ b : Fin 256, Lib.onesCount b.val = ((List.range 8).filter fun i => b.val.testBit i).length := by decide +kernel
  exact h ⟨b.toNat, b.toNat_lt⟩
theorem pop8_le (b : UInt8) : pop8 b ≤ 8 := by
  unfold pop8
  have := List.length_filter_le (fun i => b.toNat.testBit i) (List.range 8)
  simpa using this
theorem pops_le (l : List UInt8) (k : Nat) : ((l.take k).map pop8).sum ≤ 8 * k := by
  induction k generalizing l with
  | zero => simp
  | succ k ih =>
    cases l with
    | nil => simp
    | cons b l =>
      have := ih l
      have := pop8_le b
      simp only [List.take_succ_cons, List.map_cons, List.sum_cons]
      omega
def TakePost (xs : List ByteArray) (w : World) (e : Ending) (w' : World) : Prop := Below w.heap.size w w' ∧
  match ofR xs with
  | none => e = .returned (.tuple #[.slice none 0 0, .int .i64 0, .int .i64 3])
  | some m => match freeR xs m with
    | none => e = .returned (.tuple #[.slice none 0 0, .int .i64 0, .int .i64 10])
    | some i => ∃ v, e = .returned (.tuple #[v, .int .i64 i, .int .i64 0]) ∧ NewRow (takeV xs i) w v w'
def GivePost (xs : List ByteArray) (i : Int) (w : World) (e : Ending) (w' : World) : Prop := Below w.heap.size w w' ∧
  match ofR xs with
  | none => e = .returned (.tuple #[.slice none 0 0, .int .i64 3])
  | some m => if i < (dataN m : Int) ∨ (xs.length : Int) ≤ i then e = .returned (.tuple #[.slice none 0 0, .int .i64 2])
    else if bitL (blkL xs 2) i.toNat = false then e = .returned (.tuple #[.slice none 0 0, .int .i64 9])
    else ∃ v, e = .returned (.tuple #[v, .int .i64 0]) ∧ NewRow (turnV xs i.toNat) w v w'
theorem NewRow.alloc_base {ys : List ByteArray} {w0 w : World} {v : Value} {w' : World} (h : NewRow ys w v w') (hz : w0.heap.size ≤ w.heap.size) : NewRow ys w0 v w' := by
  obtain ⟨g, a, b, c⟩ := h
  exact ⟨g, a, Nat.le_trans hz b, c⟩
set_option maxHeartbeats 2000000 in
theorem give_any (A : Option Addr) (c : Nat) (xs : List ByteArray) (i : Int) (w : World) (hx : xs.length ≤ 1000000) (h : RowAt w w.heap.size A (xs.map .string)) :
    Calls Tryz.prog 96 #[.slice A xs.length c, .int .i64 i] w (GivePost xs i w) := by
  have HR := Lib.hid h
  clear h
  go_enter Tryz.func96, Tryz.ntmps96
  go_wp2_with fail
  refine (of_any A c xs _ hx HR.out).mono ?_
  rintro e w1 ⟨rfl, hb1⟩
  have B := Lib.hid hb1
  clear hb1
  have hz := B.out.size
  cases ho : ofR xs with
  | none =>
    have HO := Lib.hid ho
    clear ho
    unfold ofE
    go_wp2
    go_ret2
    unfold GivePost
    rw [HO.out]
    exact ⟨B.out.alloc hz _, rfl⟩
  | some m =>
    have hv := ofR_some.1 ho
    have hl := hv.len
    have HO := Lib.hid ho
    have HV := Lib.hid hv
    clear ho hv
    unfold ofE
    dsimp only
    have R1 := Lib.hid (((HR.out.below B.out).mono B.out.size).below ((Below.refl w1.heap.size w1).alloc (Nat.le_refl _) (.cells #[.int .i64 xs.length, .int .i64 m, .int .i64 1, .int .i64 2, .int .i64 3, .int .i64 (dataN m : Nat)] 54)))
    generalize hd : dataN m = d at *
    have HD := Lib.hid hd
    clear hd
    by_cases h1 : i < (d : Int)
    · go_wp2
      go_ret2
      unfold GivePost
      rw [HO.out]
      dsimp only
      rw [HD.out, if_pos (Or.inl h1)]
      exact ⟨B.out.alloc hz _, rfl⟩
    have g1 : decide (i < (d : Int)) = false := by simpa using h1
    by_cases h2 : (xs.length : Int) ≤ i
    · go_wp2
      go_ret2
      unfold GivePost
      rw [HO.out]
      dsimp only
      rw [HD.out, if_pos (Or.inr h2)]
      exact ⟨B.out.alloc hz _, rfl⟩
    have g2 : decide ((xs.length : Int) ≤ i) = false := by simpa using h2
    obtain ⟨i, rfl⟩ := Int.eq_ofNat_of_zero_le (show 0 ≤ i by omega)
    have H12 : Hid (¬ ((i : Int) < (d : Int) ∨ (xs.length : Int) ≤ (i : Int))) := by intro hh; omega
    have g1' : decide (i < d) = false := by simp; omega
    have g2' : decide (xs.length ≤ i) = false := by simp; omega
    go_wp2_with fail
    refine (bit_any A c xs i _ (by omega) hx (HV.out.size 2 (by omega)) (by omega) (R1.out.mono (by simp))).mono ?_
    rintro e w' ⟨rfl, rfl⟩
    cases hb : bitL (blkL xs 2) i with
    | false =>
      have HB := Lib.hid hb
      clear hb
      go_wp2
      go_ret2
      unfold GivePost
      rw [HO.out]
      dsimp only
      rw [HD.out, if_neg H12.out, Int.toNat_natCast, if_pos HB.out]
      exact ⟨B.out.alloc hz _, rfl⟩
    | true =>
      have HB := Lib.hid hb
      clear hb
      go_wp2_with fail
      refine (turned_any A c xs i _ (by omega) hx (HV.out.size 2 (by omega)) (by omega) (R1.out.mono (by simp))).mono ?_
      rintro e w2 ⟨v, rfl, hn, hb2⟩
      have N := Lib.hid hn
      have B2 := Lib.hid ((B.out.alloc hz _).trans (hb2.mono (by simp; omega)))
      clear hn hb2
      go_wp2
      go_ret2
      unfold GivePost
      rw [HO.out]
      dsimp only
      rw [HD.out, if_neg H12.out, Int.toNat_natCast, if_neg (by rw [HB.out]; simp)]
      exact ⟨B2.out, v, rfl, N.out.alloc_base (by simp; omega)⟩
set_option maxHeartbeats 2000000 in
theorem take_any (A : Option Addr) (c : Nat) (xs : List ByteArray) (w : World) (hx : xs.length ≤ 1000000) (h : RowAt w w.heap.size A (xs.map .string)) :
    Calls Tryz.prog 94 #[.slice A xs.length c] w (TakePost xs w) := by
  have HR := Lib.hid h
  clear h
  go_enter Tryz.func94, Tryz.ntmps94
  go_wp2_with fail
  refine (of_any A c xs _ hx HR.out).mono ?_
  rintro e w1 ⟨rfl, hb1⟩
  have B := Lib.hid hb1
  clear hb1
  have hz := B.out.size
  cases ho : ofR xs with
  | none =>
    have HO := Lib.hid ho
    clear ho
    unfold ofE
    go_wp2
    go_ret3
    unfold TakePost
    rw [HO.out]
    exact ⟨B.out.alloc hz _, rfl⟩
  | some m =>
    have hv := ofR_some.1 ho
    have hl := hv.len
    have HO := Lib.hid ho
    have HV := Lib.hid hv
    clear ho hv
    unfold ofE
    dsimp only
    have R1 := Lib.hid (((HR.out.below B.out).mono B.out.size).below ((Below.refl w1.heap.size w1).alloc (Nat.le_refl _) (.cells #[.int .i64 xs.length, .int .i64 m, .int .i64 1, .int .i64 2, .int .i64 3, .int .i64 (dataN m : Nat)] 54)))
    generalize hd : dataN m = d at *
    have HD := Lib.hid hd
    clear hd
    have HDL : Hid (dataN m ≤ xs.length) := by show dataN m ≤ _; rw [HD.out]; omega
    go_wp2
    go_loop [7] (fun i => ∃ k : Nat, d ≤ k ∧ k ≤ xs.length ∧ i = .int .i64 k ∧ Hid (∀ j, d ≤ j → j < k → bitL (blkL xs 2) j = true)) (fun i => xs.length - (intOf i).toNat)
    case atStart => exact ⟨d, Nat.le_refl _, by omega, rfl, fun j a b => by omega⟩
    case round =>
      obtain ⟨k, hk1, hk2, rfl, HK⟩ := hrel
      by_cases hlt : k < xs.length
      · go_wp2_with fail
        refine (bit_any A c xs k _ (by omega) hx (HV.out.size 2 (by omega)) (by omega) (R1.out.mono (by simp))).mono ?_
        rintro e w' ⟨rfl, rfl⟩
        cases hb : bitL (blkL xs 2) k with
        | true =>
          have HB := Lib.hid hb
          clear hb
          go_wp2
          go_round
          case rel => exact ⟨k + 1, by omega, by omega, by go_num, fun j a b => by
            by_cases e : j = k
            · rw [e]; exact HB.out
            · exact HK.out j a (by omega)⟩
          case measure => simp [intOf]; omega
        | false =>
          have HF : Hid (freeR xs m = some k) := (freeR_some HDL.out).2 ⟨by rw [HD.out]; exact hk1, hlt, hb, fun j a b => HK.out j (by rw [← HD.out]; exact a) b⟩
          clear hb
          go_wp2_with fail
          refine (turned_any A c xs k _ (by omega) hx (HV.out.size 2 (by omega)) (by omega) (R1.out.mono (by simp))).mono ?_
          rintro e w2 ⟨v, rfl, ⟨g, rfl, hg, hn⟩, hb2⟩
          rw [turnV_length]
          have N := Lib.hid hn
          have B2 := Lib.hid ((B.out.alloc hz _).trans (hb2.mono (by simp; omega)))
          have hg' : w.heap.size ≤ g := by simp at hg; omega
          clear hn hb2 hg
          go_wp2_with fail
          refine (zeros_any _).mono ?_
          rintro e w3 ⟨rfl, hb3⟩
          have N := Lib.hid (N.out.below hb3 N.out.lt)
          have B3 := Lib.hid (B2.out.trans (hb3.mono B2.out.size))
          have hkt : k < (turnV xs k).length := by rw [turnV_length]; exact hlt
          have hc : ∃ s, w3.cell? ⟨g, k, none⟩ = some (.string s) := ⟨(turnV xs k)[k], N.out.cell k (by simp only [List.getElem?_toArray, List.getElem?_map, List.getElem?_eq_getElem hkt]; rfl)⟩
          obtain ⟨s, hc⟩ := hc
          have hf := N.out.frozen k
          have i1 : (0 : Int) ≤ (k : Int) := by omega
          have i2 : (k : Int) < (xs.length : Int) := by omega
          clear hb3 hkt
          go_wp2
          go_ret3
          unfold TakePost
          rw [HO.out]
          dsimp only
          rw [HF.out]
          refine ⟨B3.out.setCell hg' _, _, rfl, g, by rw [takeV_length]; rfl, hg', ?_⟩
          have := N.out.set_ k (.string (zerosB 128))
          rw [List.setIfInBounds_toArray, ← List.map_set] at this
          exact this
      · have HF : Hid (freeR xs m = none) := (freeR_none HDL.out).2 fun j a b => HK.out j (by rw [← HD.out]; exact a) (by omega)
        go_wp2
        go_ret3
        unfold TakePost
        rw [HO.out]
        dsimp only
        rw [HF.out]
        exact ⟨B.out.alloc hz _, rfl⟩
end Go.Proofs.YtoanladhikdcaaaGreat
