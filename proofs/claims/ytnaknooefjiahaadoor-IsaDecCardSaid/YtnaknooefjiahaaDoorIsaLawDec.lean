/-
  The walk of the law IsaDec.
-/
import Derived.Test.YtnaknooefjiahaaDoorIsaAlive
import Derived.Test.YtnaknooefjiahaaDoorInsEq
import Derived.Test.YtnaknooefjiahaaDoorRDec
namespace Go.Proofs.YtnaknooefjiahaaDoor
open Go.RowKit
set_option linter.unusedVariables false
set_option linter.unusedSimpArgs false

set_option maxHeartbeats 1000000 in
theorem law_dec (n : Nat) (w : World) (hl : Laid w) (hn : n < 4294967296) :
    Calls Tryd.prog 4 #[.int .u32 n] w fun e w' => e = .returned (.bool true) ∧ Below w.heap.size w w' := by
  have L := Lib.hid hl
  have HN := Lib.hid hn
  clear hl hn
  go_enter Tryd.func4, Tryd.ntmps4
  go_wp2_with fail
  refine (alive_any _ L.out).mono ?_
  rintro e w1 ⟨rfl, hb1⟩
  have B := Lib.hid hb1
  clear hb1
  go_wp2_with fail
  refine (dec_any n _ HN.out).mono ?_
  rintro e w2 ⟨rfl, hb2⟩
  have B := Lib.hid (B.out.trans (hb2.mono B.out.size))
  clear hb2
  cases hd : decR n with
  | none =>
    have HD := Lib.hid hd
    clear hd
    unfold decE insE
    dsimp only
    go_wp2_with fail
    refine (rdec_any n _ HN.out).mono ?_
    rintro e w3 ⟨rfl, hb3⟩
    rw [HD.out]
    unfold decE insE
    dsimp only
    have G : Hid (Blk w3 w2.heap.size 23 #[.int .u8 0, .int .u8 0, .int .u8 0, .int .u8 0, .int .i32 0]) := (Blk.new w2 _ _).below hb3 (by simp)
    have B := Lib.hid ((B.out.alloc B.out.size _).trans (hb3.mono (by have := B.out.size; simp; omega)))
    clear hb3
    have hz := B.out.size
    have hg := G.out.lt
    generalize w2.heap.size = g2 at *
    have p0 : w3.cell? ⟨g2, 0, none⟩ = some (.int .u8 0) := G.out.cell 0 rfl
    have p1 : w3.cell? ⟨g2, 1, none⟩ = some (.int .u8 0) := G.out.cell 1 rfl
    have p2 : w3.cell? ⟨g2, 2, none⟩ = some (.int .u8 0) := G.out.cell 2 rfl
    have p3 : w3.cell? ⟨g2, 3, none⟩ = some (.int .u8 0) := G.out.cell 3 rfl
    have p4 : w3.cell? ⟨g2, 4, none⟩ = some (.int .i32 0) := G.out.cell 4 rfl
    go_wp2_with fail
    refine (enc_any ⟨0, 0, 0, 0, 0⟩ _ (by decide)).mono ?_
    rintro e w4 ⟨rfl, hb4⟩
    have B := Lib.hid ((B.out.alloc hz _).trans (hb4.mono (by simp; omega)))
    have G := Lib.hid ((G.out.alloc _).below hb4 (by simp; omega))
    clear hb4 p0 p1 p2 p3 p4
    unfold encE
    have p0 : w4.cell? ⟨g2, 0, none⟩ = some (.int .u8 0) := G.out.cell 0 rfl
    have p1 : w4.cell? ⟨g2, 1, none⟩ = some (.int .u8 0) := G.out.cell 1 rfl
    have p2 : w4.cell? ⟨g2, 2, none⟩ = some (.int .u8 0) := G.out.cell 2 rfl
    have p3 : w4.cell? ⟨g2, 3, none⟩ = some (.int .u8 0) := G.out.cell 3 rfl
    have p4 : w4.cell? ⟨g2, 4, none⟩ = some (.int .i32 0) := G.out.cell 4 rfl
    go_wp2
    go_ret
    exact ⟨rfl, B.out⟩
  | some x =>
    have HD := Lib.hid hd
    have HE := Lib.hid (dec_some hd)
    have HX := Lib.hid (dec_bounds hd)
    clear hd
    obtain ⟨op, a, b, c, imm⟩ := x
    unfold decE insE
    dsimp only
    go_wp2_with fail
    refine (rdec_any n _ HN.out).mono ?_
    rintro e w3 ⟨rfl, hb3⟩
    rw [HD.out]
    unfold decE insE
    dsimp only
    have G : Hid (Blk w3 w2.heap.size 23 #[.int .u8 op, .int .u8 a, .int .u8 b, .int .u8 c, .int .i32 imm]) := (Blk.new w2 _ _).below hb3 (by simp)
    have B := Lib.hid ((B.out.alloc B.out.size _).trans (hb3.mono (by have := B.out.size; simp; omega)))
    clear hb3
    have hz := B.out.size
    have hg := G.out.lt
    generalize w2.heap.size = g2 at *
    have p0 : w3.cell? ⟨g2, 0, none⟩ = some (.int .u8 op) := G.out.cell 0 rfl
    have p1 : w3.cell? ⟨g2, 1, none⟩ = some (.int .u8 a) := G.out.cell 1 rfl
    have p2 : w3.cell? ⟨g2, 2, none⟩ = some (.int .u8 b) := G.out.cell 2 rfl
    have p3 : w3.cell? ⟨g2, 3, none⟩ = some (.int .u8 c) := G.out.cell 3 rfl
    have p4 : w3.cell? ⟨g2, 4, none⟩ = some (.int .i32 imm) := G.out.cell 4 rfl
    go_wp2_with fail
    refine (enc_any ⟨op, a, b, c, imm⟩ _ (by have := HX.out.1; dsimp only at this ⊢; omega)).mono ?_
    rintro e w4 ⟨rfl, hb4⟩
    rw [HE.out]
    have B := Lib.hid ((B.out.alloc hz _).trans (hb4.mono (by simp; omega)))
    clear hb4
    unfold encE
    go_wp2
    go_ret
    exact ⟨rfl, B.out⟩
end Go.Proofs.YtnaknooefjiahaaDoor
