/-
  The walk of the law IsaEnc.
-/
import Derived.Test.YtnaknooefjiahaaDoorIsaAlive
import Derived.Test.YtnaknooefjiahaaDoorInsEq
import Derived.Test.YtnaknooefjiahaaDoorRDec
namespace Go.Proofs.YtnaknooefjiahaaDoor
open Go.RowKit
set_option linter.unusedVariables false
set_option linter.unusedSimpArgs false

theorem enc_word_lt (x : Ins) : (encR x).1 < 4294967296 := by
  by_cases h : (encR x).2 = 0
  · rw [(enc_ok h).2.2.2.2.2.2]; exact enc_lt h
  · unfold encR at h ⊢
    repeat' split
    all_goals (try simp_all)
set_option maxHeartbeats 1000000 in
theorem law_enc (op a b c : Nat) (imm : Int) (w : World) (hl : Laid w) (ho : op < 256) (hi1 : -2147483648 ≤ imm) (hi2 : imm < 2147483648) :
    Calls Tryd.prog 3 #[.agg #[.int .u8 op, .int .u8 a, .int .u8 b, .int .u8 c, .int .i32 imm]] w fun e w' => e = .returned (.bool true) ∧ Below w.heap.size w w' := by
  have L := Lib.hid hl
  have HO := Lib.hid ho
  have H1 := Lib.hid hi1
  have H2 := Lib.hid hi2
  cases hr : encR ⟨op, a, b, c, imm⟩ with | mk v en
  have HV : Hid (v < 4294967296) := by have := enc_word_lt ⟨op, a, b, c, imm⟩; rw [hr] at this; exact this
  have HD : Hid (en = 0 → decR v = some ⟨op, a, b, c, imm⟩) := by
    intro h
    have := dec_enc (x := ⟨op, a, b, c, imm⟩) (by rw [hr]; exact h)
    rw [hr] at this; exact this
  have HR := Lib.hid hr
  clear hl ho hi1 hi2 hr
  go_enter Tryd.func3, Tryd.ntmps3
  go_wp2_with fail
  refine (alive_any _ (L.out.later ((Below.refl _ _).alloc (Nat.le_refl _) _))).mono ?_
  rintro e w1 ⟨rfl, hb1⟩
  have G : Hid (Blk w1 w.heap.size 23 #[.int .u8 op, .int .u8 a, .int .u8 b, .int .u8 c, .int .i32 imm]) := (Blk.new w _ _).below hb1 (by simp)
  have B : Hid (Below w.heap.size w w1) := ((Below.refl _ _).alloc (Nat.le_refl _) _).trans (hb1.mono (by simp))
  clear hb1
  have q0 : w1.cell? ⟨w.heap.size, 0, none⟩ = some (.int .u8 op) := G.out.cell 0 rfl
  have q1 : w1.cell? ⟨w.heap.size, 1, none⟩ = some (.int .u8 a) := G.out.cell 1 rfl
  have q2 : w1.cell? ⟨w.heap.size, 2, none⟩ = some (.int .u8 b) := G.out.cell 2 rfl
  have q3 : w1.cell? ⟨w.heap.size, 3, none⟩ = some (.int .u8 c) := G.out.cell 3 rfl
  have q4 : w1.cell? ⟨w.heap.size, 4, none⟩ = some (.int .i32 imm) := G.out.cell 4 rfl
  go_wp2_with fail
  refine (enc_any ⟨op, a, b, c, imm⟩ _ HO.out).mono ?_
  rintro e w2 ⟨rfl, hb2⟩
  rw [HR.out]; unfold encE
  have G := Lib.hid (G.out.below hb2 G.out.lt)
  have B := Lib.hid (B.out.trans (hb2.mono B.out.size))
  clear hb2 q0 q1 q2 q3 q4
  have q0 : w2.cell? ⟨w.heap.size, 0, none⟩ = some (.int .u8 op) := G.out.cell 0 rfl
  have q1 : w2.cell? ⟨w.heap.size, 1, none⟩ = some (.int .u8 a) := G.out.cell 1 rfl
  have q2 : w2.cell? ⟨w.heap.size, 2, none⟩ = some (.int .u8 b) := G.out.cell 2 rfl
  have q3 : w2.cell? ⟨w.heap.size, 3, none⟩ = some (.int .u8 c) := G.out.cell 3 rfl
  have q4 : w2.cell? ⟨w.heap.size, 4, none⟩ = some (.int .i32 imm) := G.out.cell 4 rfl
  go_wp2_with fail
  refine (renc_any ⟨op, a, b, c, imm⟩ _ HO.out H1.out H2.out).mono ?_
  rintro e w3 ⟨rfl, hb3⟩
  rw [HR.out]; unfold encE
  have G := Lib.hid (G.out.below hb3 G.out.lt)
  have B := Lib.hid (B.out.trans (hb3.mono B.out.size))
  clear hb3 q0 q1 q2 q3 q4
  go_wp2_with fail
  refine (dec_any v _ HV.out).mono ?_
  rintro e w4 ⟨rfl, hb4⟩
  have G := Lib.hid (G.out.below hb4 G.out.lt)
  have B := Lib.hid (B.out.trans (hb4.mono B.out.size))
  clear hb4
  have hz := B.out.size
  have hg := G.out.lt
  have q0 : w4.cell? ⟨w.heap.size, 0, none⟩ = some (.int .u8 op) := G.out.cell 0 rfl
  have q1 : w4.cell? ⟨w.heap.size, 1, none⟩ = some (.int .u8 a) := G.out.cell 1 rfl
  have q2 : w4.cell? ⟨w.heap.size, 2, none⟩ = some (.int .u8 b) := G.out.cell 2 rfl
  have q3 : w4.cell? ⟨w.heap.size, 3, none⟩ = some (.int .u8 c) := G.out.cell 3 rfl
  have q4 : w4.cell? ⟨w.heap.size, 4, none⟩ = some (.int .i32 imm) := G.out.cell 4 rfl
  by_cases h0 : en = 0
  · rw [HD.out h0]
    subst h0
    unfold decE insE
    dsimp only
    go_wp2
    go_ret
    exact ⟨rfl, B.out.alloc hz _⟩
  · have h1 : (en != 0) = true := by simpa using h0
    clear h0
    cases hd : decR v with
    | none =>
      clear hd
      unfold decE insE
      dsimp only
      go_wp2
      go_ret
      exact ⟨rfl, B.out.alloc hz _⟩
    | some y =>
      clear hd
      obtain ⟨p1, p2, p3, p4, p5⟩ := y
      unfold decE insE
      dsimp only
      go_wp2
      go_ret
      exact ⟨rfl, B.out.alloc hz _⟩
end Go.Proofs.YtnaknooefjiahaaDoor
