/-
  What the document's Used, Give, Take and Room of layer 17 do.
-/
import Derived.Test.YtoanladhikdcaaaGreatRGeomOf
import Derived.Test.YtoanladhikdcaaaGreatGeomU
namespace Go.Proofs.YtoanladhikdcaaaGreat
open Go.RowKit
set_option linter.unusedVariables false
set_option linter.unusedSimpArgs false
set_option maxRecDepth 100000
theorem OwnRow.read {ys : List ByteArray} {w w' : World} {v : Value} (h : OwnRow ys w v w') : ∃ A c, v = .slice A ys.length c ∧ RowAt w' w'.heap.size A (ys.map .string) := by
  unfold OwnRow at h
  by_cases hy : ys = []
  · subst hy
    rcases Go.Joins.ownsRow_forms h with ⟨e, _⟩ | ⟨g, cap, e⟩
    · exact ⟨none, 0, e, RowAt.nil⟩
    · exact ⟨_, cap, e, RowAt.nil⟩
  · have hl : 0 < ys.length := List.length_pos_iff.2 hy
    obtain ⟨g, cap, rfl⟩ := Go.Joins.ownsRow_form h hl
    refine ⟨_, cap, rfl, .inr ⟨g, 0, rfl, (h.lt g rfl).2, fun j u hu => ?_⟩⟩
    have hj : j < ys.length := by
      have := (List.getElem?_eq_some_iff.1 hu).1
      simpa using this
    rw [Nat.zero_add, h.cellAt j (by omega)]
    exact hu
theorem OwnRow.base {ys : List ByteArray} {w0 w w' : World} {v : Value} (h : OwnRow ys w v w') (hz : w0.heap.size ≤ w.heap.size) : OwnRow ys w0 v w' := Go.Joins.ownsRow_le h hz
def RTakePost (xs : List ByteArray) (w : World) (e : Ending) (w' : World) : Prop := Below w.heap.size w w' ∧
  match ofR xs with
  | none => e = .returned (.tuple #[.slice none 0 0, .int .i64 0, .int .i64 3])
  | some m => match freeR xs m with
    | none => e = .returned (.tuple #[.slice none 0 0, .int .i64 0, .int .i64 10])
    | some i => ∃ v, e = .returned (.tuple #[v, .int .i64 i, .int .i64 0]) ∧ OwnRow (takeV xs i) w v w'
def RGivePost (xs : List ByteArray) (i : Int) (w : World) (e : Ending) (w' : World) : Prop := Below w.heap.size w w' ∧
  match ofR xs with
  | none => e = .returned (.tuple #[.slice none 0 0, .int .i64 3])
  | some m => if i < (dataN m : Int) ∨ (xs.length : Int) ≤ i then e = .returned (.tuple #[.slice none 0 0, .int .i64 2])
    else if bitL (blkL xs 2) i.toNat = false then e = .returned (.tuple #[.slice none 0 0, .int .i64 9])
    else ∃ v, e = .returned (.tuple #[v, .int .i64 0]) ∧ OwnRow (turnV xs i.toNat) w v w'
set_option maxHeartbeats 2000000 in
theorem rgive_any (A : Option Addr) (c : Nat) (xs : List ByteArray) (i : Int) (w : World) (hx : xs.length ≤ 1000000) (h : RowAt w w.heap.size A (xs.map .string)) :
    Calls Tryz.prog 53 #[.slice A xs.length c, .int .i64 i] w (RGivePost xs i w) := by
  have HR := Lib.hid h
  clear h
  go_enter Tryz.func53, Tryz.ntmps53
  go_wp2_with fail
  refine (rof_any A c xs _ hx HR.out).mono ?_
  rintro e w1 ⟨rfl, hb1⟩
  have B := Lib.hid hb1
  clear hb1
  have hz := B.out.size
  cases ho : ofR xs with
  | none =>
    have HO := Lib.hid ho
    clear ho
    unfold ofE
    go_wp2
    go_ret2
    unfold RGivePost
    rw [HO.out]
    exact ⟨B.out.alloc hz _, rfl⟩
  | some m =>
    have hv := ofR_some.1 ho
    have hl := hv.len
    have HO := Lib.hid ho
    have HV := Lib.hid hv
    clear ho hv
    unfold ofE
    dsimp only
    have R1 := Lib.hid (((HR.out.below B.out).mono B.out.size).below ((Below.refl w1.heap.size w1).alloc (Nat.le_refl _) (.cells #[.int .i64 xs.length, .int .i64 m, .int .i64 1, .int .i64 2, .int .i64 3, .int .i64 (dataN m : Nat)] 54)))
    generalize hd : dataN m = d at *
    have HD := Lib.hid hd
    clear hd
    by_cases h1 : i < (d : Int)
    · go_wp2
      go_ret2
      unfold RGivePost
      rw [HO.out]
      dsimp only
      rw [HD.out, if_pos (Or.inl h1)]
      exact ⟨B.out.alloc hz _, rfl⟩
    have g1 : decide (i < (d : Int)) = false := by simpa using h1
    by_cases h2 : (xs.length : Int) ≤ i
    · go_wp2
      go_ret2
      unfold RGivePost
      rw [HO.out]
      dsimp only
      rw [HD.out, if_pos (Or.inr h2)]
      exact ⟨B.out.alloc hz _, rfl⟩
    have g2 : decide ((xs.length : Int) ≤ i) = false := by simpa using h2
    obtain ⟨i, rfl⟩ := Int.eq_ofNat_of_zero_le (show 0 ≤ i by omega)
    have H12 : Hid (¬ ((i : Int) < (d : Int) ∨ (xs.length : Int) ≤ (i : Int))) := by intro hh; omega
    have g1' : decide (i < d) = false := by simp; omega
    have g2' : decide (xs.length ≤ i) = false := by simp; omega
    obtain ⟨b, o, rfl, hb, hc⟩ := row_get R1.out 2 (by omega)
    have HS : Hid ((xs.getD 2 ⟨#[]⟩).size = 128) := HV.out.size 2 (by omega)
    have HE : Hid (blkL xs 2 = (xs.getD 2 ⟨#[]⟩).data.toList) := rfl
    have HT : Hid (turnV xs i = xs.set 2 (turnB (xs.getD 2 ⟨#[]⟩) i)) := rfl
    generalize xs.getD 2 ⟨#[]⟩ = s at HS HE HT hc
    have l2 : (2 : Int) < (xs.length : Int) := by omega
    go_wp2_with fail
    refine (rbit_any s i _ HS.out (by omega)).mono ?_
    rintro e w' ⟨rfl, rfl⟩
    cases hb : bitL s.data.toList i with
    | false =>
      have HB := Lib.hid hb
      clear hb
      go_wp2
      go_ret2
      unfold RGivePost
      rw [HO.out]
      dsimp only
      rw [HD.out, if_neg H12.out, Int.toNat_natCast, if_pos (by rw [HE.out]; exact HB.out)]
      exact ⟨B.out.alloc hz _, rfl⟩
    | true =>
      have HB := Lib.hid hb
      clear hb
      go_wp2_with fail
      refine (rturn_any s i _ HS.out (by omega)).mono ?_
      rintro e w2 ⟨rfl, hb2⟩
      have B2 := Lib.hid ((B.out.alloc hz _).trans (hb2.mono (by simp; omega)))
      have R2 := Lib.hid ((HR.out.below B2.out).mono B2.out.size)
      clear hb2
      go_wp2_with fail
      refine (with_any _ c xs 2 (turnB s i) _ (by omega) hx R2.out).mono ?_
      rintro e w3 ⟨v, rfl, hn, hb3⟩
      have N := Lib.hid (hn.base B2.out.size)
      have B3 := Lib.hid (B2.out.trans (hb3.mono B2.out.size))
      clear hn hb3
      go_wp2
      go_ret2
      unfold RGivePost
      rw [HO.out]
      dsimp only
      rw [HD.out, if_neg H12.out, Int.toNat_natCast, if_neg (by rw [HE.out, HB.out]; simp), HT.out]
      exact ⟨B3.out, v, rfl, N.out⟩
set_option maxHeartbeats 2000000 in
theorem rtake_any (A : Option Addr) (c : Nat) (xs : List ByteArray) (w : World) (hx : xs.length ≤ 1000000) (h : RowAt w w.heap.size A (xs.map .string)) :
    Calls Tryz.prog 100 #[.slice A xs.length c] w (RTakePost xs w) := by
  have HR := Lib.hid h
  clear h
  go_enter Tryz.func100, Tryz.ntmps100
  go_wp2_with fail
  refine (rof_any A c xs _ hx HR.out).mono ?_
  rintro e w1 ⟨rfl, hb1⟩
  have B := Lib.hid hb1
  clear hb1
  have hz := B.out.size
  cases ho : ofR xs with
  | none =>
    have HO := Lib.hid ho
    clear ho
    unfold ofE
    go_wp2
    go_ret3
    unfold RTakePost
    rw [HO.out]
    exact ⟨B.out.alloc hz _, rfl⟩
  | some m =>
    have hv := ofR_some.1 ho
    have hl := hv.len
    have HO := Lib.hid ho
    have HV := Lib.hid hv
    clear ho hv
    unfold ofE
    dsimp only
    have R1 := Lib.hid (((HR.out.below B.out).mono B.out.size).below ((Below.refl w1.heap.size w1).alloc (Nat.le_refl _) (.cells #[.int .i64 xs.length, .int .i64 m, .int .i64 1, .int .i64 2, .int .i64 3, .int .i64 (dataN m : Nat)] 54)))
    generalize hd : dataN m = d at *
    have HD := Lib.hid hd
    clear hd
    have HDL : Hid (dataN m ≤ xs.length) := by show dataN m ≤ _; rw [HD.out]; omega
    obtain ⟨b, o, rfl, hb, hc⟩ := row_get R1.out 2 (by omega)
    have HS : Hid ((xs.getD 2 ⟨#[]⟩).size = 128) := HV.out.size 2 (by omega)
    have HE : Hid (blkL xs 2 = (xs.getD 2 ⟨#[]⟩).data.toList) := rfl
    have HT : Hid (∀ i, turnV xs i = xs.set 2 (turnB (xs.getD 2 ⟨#[]⟩) i)) := fun _ => rfl
    generalize xs.getD 2 ⟨#[]⟩ = s at HS HE HT hc
    have l2 : (2 : Int) < (xs.length : Int) := by omega
    go_wp2
    go_loop [7] (fun i => ∃ k : Nat, d ≤ k ∧ k ≤ xs.length ∧ i = .int .i64 k ∧ Hid (∀ j, d ≤ j → j < k → bitL (blkL xs 2) j = true)) (fun i => xs.length - (intOf i).toNat)
    case atStart => exact ⟨d, Nat.le_refl _, by omega, rfl, fun j a b => by omega⟩
    case round =>
      obtain ⟨k, hk1, hk2, rfl, HK⟩ := hrel
      by_cases hlt : k < xs.length
      · go_wp2_with fail
        refine (rbit_any s k _ HS.out (by omega)).mono ?_
        rintro e w' ⟨rfl, rfl⟩
        cases hb : bitL s.data.toList k with
        | true =>
          have HB := Lib.hid hb
          clear hb
          go_wp2
          go_round
          case rel => exact ⟨k + 1, by omega, by omega, by go_num, fun j a b => by
            by_cases e : j = k
            · rw [e, HE.out]; exact HB.out
            · exact HK.out j a (by omega)⟩
          case measure => simp [intOf]; omega
        | false =>
          have HF : Hid (freeR xs m = some k) := (freeR_some HDL.out).2 ⟨by rw [HD.out]; exact hk1, hlt, by rw [HE.out]; exact hb, fun j a b => HK.out j (by rw [← HD.out]; exact a) b⟩
          clear hb
          go_wp2_with fail
          refine (rturn_any s k _ HS.out (by omega)).mono ?_
          rintro e w2 ⟨rfl, hb2⟩
          have B2 := Lib.hid ((B.out.alloc hz _).trans (hb2.mono (by simp; omega)))
          have R2 := Lib.hid ((HR.out.below B2.out).mono B2.out.size)
          clear hb2
          go_wp2_with fail
          refine (with_any _ c xs 2 (turnB s k) _ (by omega) hx R2.out).mono ?_
          rintro e w3 ⟨v, rfl, hn, hb3⟩
          have B3 := Lib.hid (B2.out.trans (hb3.mono B2.out.size))
          rw [← HT.out k] at hn
          obtain ⟨A2, c2, rfl, hr2⟩ := hn.read
          have R3 := Lib.hid hr2
          rw [turnV_length]
          have hlt' : k < (turnV xs k).length := by rw [turnV_length]; exact hlt
          have W2 := Lib.hid (fun w (hr : RowAt w w.heap.size A2 ((turnV xs k).map .string)) => with_any A2 c2 (turnV xs k) k (zerosB 128) w hlt' (by rw [turnV_length]; exact hx) hr)
          rw [turnV_length] at W2
          clear hn hb3 hr2 hlt'
          go_wp2_with fail
          refine (rzeros_any 128 _ (by omega)).mono ?_
          rintro e w' ⟨rfl, rfl⟩
          go_wp2_with fail
          refine (W2.out _ R3.out).mono ?_
          rintro e w4 ⟨v, rfl, hn, hb4⟩
          have N := Lib.hid (hn.base B3.out.size)
          have B4 := Lib.hid (B3.out.trans (hb4.mono B3.out.size))
          clear hn hb4
          go_wp2
          go_ret3
          unfold RTakePost
          rw [HO.out]
          dsimp only
          rw [HF.out]
          exact ⟨B4.out, v, rfl, N.out⟩
      · have HF : Hid (freeR xs m = none) := (freeR_none HDL.out).2 fun j a b => HK.out j (by rw [← HD.out]; exact a) (by omega)
        go_wp2
        go_ret3
        unfold RTakePost
        rw [HO.out]
        dsimp only
        rw [HF.out]
        exact ⟨B.out.alloc hz _, rfl⟩
end Go.Proofs.YtoanladhikdcaaaGreat
