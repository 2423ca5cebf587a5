/-
  The walk of the law IsaUnlike.
-/
import Derived.Test.YtnaknooefjiahaaDoorIsaAlive
import Derived.Test.YtnaknooefjiahaaDoorInsEq
import Derived.Test.YtnaknooefjiahaaDoorTextPlain
namespace Go.Proofs.YtnaknooefjiahaaDoor
open Go.RowKit
set_option linter.unusedVariables false
set_option linter.unusedSimpArgs false
theorem txt_none {x : Ins} (h : (encR x).2 ≠ 0) : txtB x = ⟨#[]⟩ := by unfold txtB; rw [if_pos h]
theorem str_beq_false {a b : ByteArray} (h : a ≠ b) : (a.toList == b.toList) = false := by
  simp only [beq_eq_false_iff_ne]
  intro e
  rw [Lib.toList_data, Lib.toList_data] at e
  exact h (WideShapes.bytes_inj e)
theorem str_beq_true (a : ByteArray) : (a.toList == a.toList) = true := by simp
theorem text_x (x : Ins) (w : World) (hl : Laid w) (ho : x.op < 256) : Calls Tryd.prog 15 #[.agg #[.int .u8 x.op, .int .u8 x.a, .int .u8 x.b, .int .u8 x.c, .int .i32 x.imm]] w fun e w' => e = .returned (.string (txtB x)) ∧ Below w.heap.size w w' := text_any x w hl ho
set_option maxHeartbeats 1000000 in
theorem law_unlike (x y : Ins) (w : World) (hl : Laid w) (ho : x.op < 256) (ho2 : y.op < 256) :
    Calls Tryd.prog 5 #[.agg #[.int .u8 x.op, .int .u8 x.a, .int .u8 x.b, .int .u8 x.c, .int .i32 x.imm], .agg #[.int .u8 y.op, .int .u8 y.a, .int .u8 y.b, .int .u8 y.c, .int .i32 y.imm]] w fun e w' => e = .returned (.bool true) ∧ Below w.heap.size w w' := by
  have L := Lib.hid hl
  have HO := Lib.hid ho
  have HO2 := Lib.hid ho2
  cases hr : encR x with | mk v en
  cases hr2 : encR y with | mk v2 en2
  have HR := Lib.hid hr
  have HR2 := Lib.hid hr2
  clear hl ho ho2 hr hr2
  go_enter Tryd.func5, Tryd.ntmps5
  go_wp2_with fail
  refine (alive_any _ (L.out.later (((Below.refl _ _).alloc (Nat.le_refl _) _).alloc (by simp) _))).mono ?_
  rintro e w1 ⟨rfl, hb1⟩
  have G : Hid (Blk w1 w.heap.size 23 #[.int .u8 x.op, .int .u8 x.a, .int .u8 x.b, .int .u8 x.c, .int .i32 x.imm]) := ((Blk.new w _ _).alloc _).below hb1 (by simp; omega)
  have G2 : Hid (Blk w1 (w.heap.size + 1) 23 #[.int .u8 y.op, .int .u8 y.a, .int .u8 y.b, .int .u8 y.c, .int .i32 y.imm]) := by
    have := Blk.new (w.alloc (.cells #[.int .u8 x.op, .int .u8 x.a, .int .u8 x.b, .int .u8 x.c, .int .i32 x.imm] 23)) 23 #[.int .u8 y.op, .int .u8 y.a, .int .u8 y.b, .int .u8 y.c, .int .i32 y.imm]
    have := this.below hb1 (by simp)
    show Blk w1 (w.heap.size + 1) _ _
    simpa using this
  have B : Hid (Below w.heap.size w w1) := (((Below.refl _ _).alloc (Nat.le_refl _) _).alloc (by simp) _).trans (hb1.mono (by simp; omega))
  clear hb1
  have q0 : w1.cell? ⟨w.heap.size, 0, none⟩ = some (.int .u8 x.op) := G.out.cell 0 rfl
  have q1 : w1.cell? ⟨w.heap.size, 1, none⟩ = some (.int .u8 x.a) := G.out.cell 1 rfl
  have q2 : w1.cell? ⟨w.heap.size, 2, none⟩ = some (.int .u8 x.b) := G.out.cell 2 rfl
  have q3 : w1.cell? ⟨w.heap.size, 3, none⟩ = some (.int .u8 x.c) := G.out.cell 3 rfl
  have q4 : w1.cell? ⟨w.heap.size, 4, none⟩ = some (.int .i32 x.imm) := G.out.cell 4 rfl
  go_wp2_with fail
  refine (enc_any x _ HO.out).mono ?_
  rintro e w2 ⟨rfl, hb2⟩
  rw [HR.out]; unfold encE
  have G := Lib.hid (G.out.below hb2 G.out.lt)
  have G2 := Lib.hid (G2.out.below hb2 G2.out.lt)
  have B := Lib.hid (B.out.trans (hb2.mono B.out.size))
  clear hb2 q0 q1 q2 q3 q4
  have p0 : w2.cell? ⟨w.heap.size + 1, 0, none⟩ = some (.int .u8 y.op) := G2.out.cell 0 rfl
  have p1 : w2.cell? ⟨w.heap.size + 1, 1, none⟩ = some (.int .u8 y.a) := G2.out.cell 1 rfl
  have p2 : w2.cell? ⟨w.heap.size + 1, 2, none⟩ = some (.int .u8 y.b) := G2.out.cell 2 rfl
  have p3 : w2.cell? ⟨w.heap.size + 1, 3, none⟩ = some (.int .u8 y.c) := G2.out.cell 3 rfl
  have p4 : w2.cell? ⟨w.heap.size + 1, 4, none⟩ = some (.int .i32 y.imm) := G2.out.cell 4 rfl
  go_wp2_with fail
  refine (enc_any y _ HO2.out).mono ?_
  rintro e w3 ⟨rfl, hb3⟩
  rw [HR2.out]; unfold encE
  have G := Lib.hid (G.out.below hb3 G.out.lt)
  have G2 := Lib.hid (G2.out.below hb3 G2.out.lt)
  have B := Lib.hid (B.out.trans (hb3.mono B.out.size))
  have L := Lib.hid (L.out.later B.out)
  clear hb3 p0 p1 p2 p3 p4
  have q0 : w3.cell? ⟨w.heap.size, 0, none⟩ = some (.int .u8 x.op) := G.out.cell 0 rfl
  have q1 : w3.cell? ⟨w.heap.size, 1, none⟩ = some (.int .u8 x.a) := G.out.cell 1 rfl
  have q2 : w3.cell? ⟨w.heap.size, 2, none⟩ = some (.int .u8 x.b) := G.out.cell 2 rfl
  have q3 : w3.cell? ⟨w.heap.size, 3, none⟩ = some (.int .u8 x.c) := G.out.cell 3 rfl
  have q4 : w3.cell? ⟨w.heap.size, 4, none⟩ = some (.int .i32 x.imm) := G.out.cell 4 rfl
  by_cases h0 : en = 0
  case neg =>
    have h1 : (en != 0) = true := by simpa using h0
    have h2 : (en == 0) = false := by simpa using h0
    have HT := Lib.hid (txt_none (x := x) (by rw [HR.out]; exact h0))
    clear h0
    go_wp2_with fail
    refine (text_x x _ L.out HO.out).mono ?_
    rintro e w4 ⟨rfl, hb4⟩
    rw [HT.out]
    have B := Lib.hid (B.out.trans (hb4.mono B.out.size))
    clear hb4
    go_wp2
    go_ret
    exact ⟨rfl, B.out⟩
  subst h0
  by_cases h0 : en2 = 0
  case neg =>
    have h1 : (en2 != 0) = true := by simpa using h0
    clear h0
    go_wp2
    go_ret
    exact ⟨rfl, B.out⟩
  subst h0
  have q0 : ∀ u : Ext w3, u.val.cell? ⟨w.heap.size, 0, none⟩ = some (.int .u8 x.op) := fun u => u.cell (G.out.cell 0 rfl)
  have q1 : ∀ u : Ext w3, u.val.cell? ⟨w.heap.size, 1, none⟩ = some (.int .u8 x.a) := fun u => u.cell (G.out.cell 1 rfl)
  have q2 : ∀ u : Ext w3, u.val.cell? ⟨w.heap.size, 2, none⟩ = some (.int .u8 x.b) := fun u => u.cell (G.out.cell 2 rfl)
  have q3 : ∀ u : Ext w3, u.val.cell? ⟨w.heap.size, 3, none⟩ = some (.int .u8 x.c) := fun u => u.cell (G.out.cell 3 rfl)
  have q4 : ∀ u : Ext w3, u.val.cell? ⟨w.heap.size, 4, none⟩ = some (.int .i32 x.imm) := fun u => u.cell (G.out.cell 4 rfl)
  have p0 : ∀ u : Ext w3, u.val.cell? ⟨w.heap.size + 1, 0, none⟩ = some (.int .u8 y.op) := fun u => u.cell (G2.out.cell 0 rfl)
  have p1 : ∀ u : Ext w3, u.val.cell? ⟨w.heap.size + 1, 1, none⟩ = some (.int .u8 y.a) := fun u => u.cell (G2.out.cell 1 rfl)
  have p2 : ∀ u : Ext w3, u.val.cell? ⟨w.heap.size + 1, 2, none⟩ = some (.int .u8 y.b) := fun u => u.cell (G2.out.cell 2 rfl)
  have p3 : ∀ u : Ext w3, u.val.cell? ⟨w.heap.size + 1, 3, none⟩ = some (.int .u8 y.c) := fun u => u.cell (G2.out.cell 3 rfl)
  have p4 : ∀ u : Ext w3, u.val.cell? ⟨w.heap.size + 1, 4, none⟩ = some (.int .i32 y.imm) := fun u => u.cell (G2.out.cell 4 rfl)
  have hE : ∀ w, (binOp .eql 23 (.agg #[.int .u8 x.op, .int .u8 x.a, .int .u8 x.b, .int .u8 x.c, .int .i32 x.imm]) (.agg #[.int .u8 y.op, .int .u8 y.a, .int .u8 y.b, .int .u8 y.c, .int .i32 y.imm])).run Tryd.prog w = .ok (.bool (insB x y)) w := fun w => ins_eql x y w
  have hb : ((v : Int) == (v2 : Int)) = insB x y ∧ ((txtB x).toList == (txtB y).toList) = insB x y := by
    cases h : insB x y with
    | true =>
      have e := insB_iff.1 h
      subst e
      have := HR2.out
      rw [HR.out] at this
      injection this with e _
      subst e
      simp
    | false =>
      have e : x ≠ y := fun e => by rw [insB_iff.2 e] at h; cases h
      refine ⟨?_, str_beq_false fun t => e (txt_inj (by rw [HR.out]) (by rw [HR2.out]) t)⟩
      simp only [beq_eq_false_iff_ne, ne_eq, Int.natCast_inj]
      intro ev
      exact e (enc_inj (by rw [HR.out]) (by rw [HR2.out]) (by rw [HR.out, HR2.out]; exact ev))
  obtain ⟨hb1, hb2⟩ := hb
  generalize insB x y = bb at hb1 hb2 hE
  go_wp2
  refine wp_region_ext (by kernel_rfl) (by kernel_rfl) ?_
  repeat (go_big_quiet_step (first
    | (go_at_call 15; with_reducible exact Ext.call (text_x x _ (L.out.later (Ext.below _)) HO.out))
    | (go_at_call 15; with_reducible exact Ext.call (text_x y _ (L.out.later (Ext.below _)) HO2.out))))
  refine wpQuiet_nil ?_
  rintro _ ⟨u, rfl⟩
  go_wp2
  go_ret
  exact ⟨rfl, B.out.trans (u.below.mono B.out.size)⟩
end Go.Proofs.YtnaknooefjiahaaDoor
