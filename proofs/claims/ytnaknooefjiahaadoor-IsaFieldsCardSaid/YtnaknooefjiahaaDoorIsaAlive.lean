/-
  The chapter's examples: alive answers true.
-/
import Derived.Test.YtnaknooefjiahaaDoorText
namespace Go.Proofs.YtnaknooefjiahaaDoor
open Go.RowKit
set_option linter.unusedVariables false
set_option linter.unusedSimpArgs false

theorem enc_ex1 (w : World) : Calls Tryd.prog 11 #[.agg #[.int .u8 1, .int .u8 1, .int .u8 2, .int .u8 3, .int .i32 0]] w fun e w' => e = .returned (.tuple #[.int .u32 71876608, .int .i64 0]) ∧ Below w.heap.size w w' :=
  (enc_any ⟨1, 1, 2, 3, 0⟩ w (by decide)).mono fun e w' ⟨he, hb⟩ => ⟨by rw [he, show encR ⟨1, 1, 2, 3, 0⟩ = (71876608, 0) by decide +kernel]; rfl, hb⟩
theorem enc_ex2 (w : World) : Calls Tryd.prog 11 #[.agg #[.int .u8 31, .int .u8 0, .int .u8 0, .int .u8 0, .int .i32 5]] w fun e w' => e = .returned (.tuple #[.int .u32 2080374789, .int .i64 0]) ∧ Below w.heap.size w w' :=
  (enc_any ⟨31, 0, 0, 0, 5⟩ w (by decide)).mono fun e w' ⟨he, hb⟩ => ⟨by rw [he, show encR ⟨31, 0, 0, 0, 5⟩ = (2080374789, 0) by decide +kernel]; rfl, hb⟩
theorem dec_ex (w : World) : Calls Tryd.prog 13 #[.int .u32 0] w fun e w' => e = .returned (.tuple #[.agg #[.int .u8 0, .int .u8 0, .int .u8 0, .int .u8 0, .int .i32 0], .bool false]) ∧ Below w.heap.size w w' :=
  (dec_any 0 w (by decide)).mono fun e w' ⟨he, hb⟩ => ⟨by rw [he, show decR 0 = none by unfold decR; rw [if_pos (by decide)]]; rfl, hb⟩
theorem txt_ex : txtB ⟨20, 1, 2, 0, 4⟩ = ⟨#[108, 119, 32, 114, 49, 44, 32, 52, 40, 114, 50, 41]⟩ := by
  have h : ¬ (encR ⟨20, 1, 2, 0, 4⟩).2 ≠ 0 := by decide +kernel
  have e1 : regB 1 = ⟨#[114, 49]⟩ := by unfold regB; rw [Lib.decDigits_one (by omega)]; rfl
  have e2 : regB 2 = ⟨#[114, 50]⟩ := by unfold regB; rw [Lib.decDigits_one (by omega)]; rfl
  have e3 : numB 4 = ⟨#[52]⟩ := by unfold numB; rw [show (4 : Int) = ((4 : Nat) : Int) by rfl, Lib.itoa_nonneg, Lib.decDigits_one (by omega)]; rfl
  unfold txtB
  rw [if_neg h, if_neg (by decide), if_pos (by decide), e1, e2, e3]
  decide +kernel
theorem text_ex (w : World) (hl : Laid w) : Calls Tryd.prog 15 #[.agg #[.int .u8 20, .int .u8 1, .int .u8 2, .int .u8 0, .int .i32 4]] w fun e w' => e = .returned (.string ⟨#[108, 119, 32, 114, 49, 44, 32, 52, 40, 114, 50, 41]⟩) ∧ Below w.heap.size w w' :=
  (text_any ⟨20, 1, 2, 0, 4⟩ w hl (by decide)).mono fun e w' ⟨he, hb⟩ => ⟨by rw [he, txt_ex], hb⟩

set_option maxHeartbeats 400000 in
theorem alive_any (w : World) (hl : Laid w) : Calls Tryd.prog 10 #[] w fun e w' => e = .returned (.bool true) ∧ Below w.heap.size w w' := by
  have L := Lib.hid hl
  clear hl
  go_enter Tryd.func10, Tryd.ntmps10
  go_wp2_with fail
  refine (enc_ex1 _).mono ?_
  rintro e w1 ⟨rfl, hb1⟩
  have B := Lib.hid hb1
  clear hb1
  go_wp2_with fail
  refine (enc_ex2 _).mono ?_
  rintro e w2 ⟨rfl, hb2⟩
  have B := Lib.hid (B.out.trans (hb2.mono B.out.size))
  clear hb2
  go_wp2_with fail
  refine (dec_ex _).mono ?_
  rintro e w3 ⟨rfl, hb3⟩
  have B := Lib.hid (B.out.trans (hb3.mono B.out.size))
  clear hb3
  go_wp2_with fail
  refine (text_ex _ (L.out.later (B.out.alloc B.out.size _))).mono ?_
  rintro e w4 ⟨rfl, hb4⟩
  have B := Lib.hid ((B.out.alloc B.out.size _).trans (hb4.mono (by have := B.out.size; simp; omega)))
  clear hb4
  go_wp2
  go_ret
  exact ⟨rfl, B.out⟩
end Go.Proofs.YtnaknooefjiahaaDoor
