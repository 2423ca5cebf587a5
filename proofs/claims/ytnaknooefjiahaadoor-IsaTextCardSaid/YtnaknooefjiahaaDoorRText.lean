/-
  What hibernacleref10.Text computes: the same line.
-/
import Derived.Test.YtnaknooefjiahaaDoorRTextA
import Derived.Deep.RegionWith
namespace Go.Proofs.YtnaknooefjiahaaDoor
open Go.RowKit
set_option linter.unusedVariables false
set_option linter.unusedSimpArgs false
set_option maxRecDepth 100000
theorem below_undrew {a w : World} (h : Below a.drew.heap.size a.drew w) : Below a.heap.size a w := ⟨h.os, h.tape, h.output, h.size, h.block⟩
set_option maxHeartbeats 1000000 in
theorem rtext_1 (op a b c : Nat) (imm : Int) (w : World) (h1 : 1 ≤ op) (h2 : op ≤ 31) (ha : a ≤ 15) (hb : b ≤ 15) (hc : c ≤ 15) (im1 : -32768 ≤ imm) (im2 : imm ≤ 65535) (hform : ∀ w, Calls Tryd.prog 21 #[.int .u8 op] w fun e w' => e = .returned (.int .i64 1) ∧ w = w') (v : Nat) (he : encR ⟨op, a, b, c, imm⟩ = (v, 0)) (ht : txtB ⟨op, a, b, c, imm⟩ = nmB op ++ ⟨#[32]⟩ ++ regB a ++ ⟨#[44, 32]⟩ ++ regB b ++ ⟨#[44, 32]⟩ ++ regB c) :
    Calls Tryd.prog 16 #[.agg #[.int .u8 op, .int .u8 a, .int .u8 b, .int .u8 c, .int .i32 imm]] w (TextPost ⟨op, a, b, c, imm⟩ w) := by
  have HE := Lib.hid he
  have HT := Lib.hid ht
  have HO : Hid (op < 256) := by show op < 256; omega
  have HI1 := Lib.hid im1
  have HI2 := Lib.hid im2
  have HA := Lib.hid ha
  have HB := Lib.hid hb
  have HC := Lib.hid hc
  have HG := Lib.hid (nmR_get op h1 h2)
  have s0 := nm_le op
  have s1 := num_size im1 im2
  have s2 := reg_size ha
  have s3 := reg_size hb
  have s4 := reg_size hc
  have ad0 := fun (w : World) => run_string_add_sum (P := Tryd.prog) (w := w) (nmB op) (⟨#[32]⟩) (by (try simp only [ByteArray.size_append]); have e1 : (⟨#[32]⟩ : ByteArray).size = 1 := rfl; have e2 : (⟨#[44, 32]⟩ : ByteArray).size = 2 := rfl; have e3 : (⟨#[40]⟩ : ByteArray).size = 1 := rfl; have e4 : (⟨#[41]⟩ : ByteArray).size = 1 := rfl; omega)
  have ad1 := fun (w : World) => run_string_add_sum (P := Tryd.prog) (w := w) (nmB op ++ ⟨#[32]⟩) (regB a) (by (try simp only [ByteArray.size_append]); have e1 : (⟨#[32]⟩ : ByteArray).size = 1 := rfl; have e2 : (⟨#[44, 32]⟩ : ByteArray).size = 2 := rfl; have e3 : (⟨#[40]⟩ : ByteArray).size = 1 := rfl; have e4 : (⟨#[41]⟩ : ByteArray).size = 1 := rfl; omega)
  have ad2 := fun (w : World) => run_string_add_sum (P := Tryd.prog) (w := w) (nmB op ++ ⟨#[32]⟩ ++ regB a) (⟨#[44, 32]⟩) (by (try simp only [ByteArray.size_append]); have e1 : (⟨#[32]⟩ : ByteArray).size = 1 := rfl; have e2 : (⟨#[44, 32]⟩ : ByteArray).size = 2 := rfl; have e3 : (⟨#[40]⟩ : ByteArray).size = 1 := rfl; have e4 : (⟨#[41]⟩ : ByteArray).size = 1 := rfl; omega)
  have ad3 := fun (w : World) => run_string_add_sum (P := Tryd.prog) (w := w) (nmB op ++ ⟨#[32]⟩ ++ regB a ++ ⟨#[44, 32]⟩) (regB b) (by (try simp only [ByteArray.size_append]); have e1 : (⟨#[32]⟩ : ByteArray).size = 1 := rfl; have e2 : (⟨#[44, 32]⟩ : ByteArray).size = 2 := rfl; have e3 : (⟨#[40]⟩ : ByteArray).size = 1 := rfl; have e4 : (⟨#[41]⟩ : ByteArray).size = 1 := rfl; omega)
  have ad4 := fun (w : World) => run_string_add_sum (P := Tryd.prog) (w := w) (nmB op ++ ⟨#[32]⟩ ++ regB a ++ ⟨#[44, 32]⟩ ++ regB b) (⟨#[44, 32]⟩) (by (try simp only [ByteArray.size_append]); have e1 : (⟨#[32]⟩ : ByteArray).size = 1 := rfl; have e2 : (⟨#[44, 32]⟩ : ByteArray).size = 2 := rfl; have e3 : (⟨#[40]⟩ : ByteArray).size = 1 := rfl; have e4 : (⟨#[41]⟩ : ByteArray).size = 1 := rfl; omega)
  have ad5 := fun (w : World) => run_string_add_sum (P := Tryd.prog) (w := w) (nmB op ++ ⟨#[32]⟩ ++ regB a ++ ⟨#[44, 32]⟩ ++ regB b ++ ⟨#[44, 32]⟩) (regB c) (by (try simp only [ByteArray.size_append]); have e1 : (⟨#[32]⟩ : ByteArray).size = 1 := rfl; have e2 : (⟨#[44, 32]⟩ : ByteArray).size = 2 := rfl; have e3 : (⟨#[40]⟩ : ByteArray).size = 1 := rfl; have e4 : (⟨#[41]⟩ : ByteArray).size = 1 := rfl; omega)
  have i0 : (0 : Int) ≤ (op : Int) - 1 := by omega
  have i1 : (op : Int) - 1 < 31 := by omega
  have i2 : (1 : Int) ≤ (op : Int) := by omega
  have i3 : ((op : Int) - 1).toNat = op - 1 := by omega
  have i4 : IntKind.u8.wrap ((op : Int) - 1) = (op : Int) - 1 := IntWalk.u8_in _ (by omega)
  clear he ht s0 s1 s2 s3 s4 im1 im2
  go_enter Tryd.func16, Tryd.ntmps16
  go_wp2_with fail
  refine (renc_any ⟨op, a, b, c, imm⟩ _ HO.out (by have := HI1.out; dsimp only; omega) (by have := HI2.out; dsimp only; omega)).mono ?_
  rintro e w1 ⟨rfl, hb1⟩
  rw [HE.out]
  unfold encE
  have G : Hid (Blk w1 w.heap.size 23 #[.int .u8 op, .int .u8 a, .int .u8 b, .int .u8 c, .int .i32 imm]) := (Blk.new w _ _).below hb1 (by simp)
  have B : Hid (Below w.heap.size w w1) := ((Below.refl _ _).alloc (Nat.le_refl _) _).trans (hb1.mono (by simp))
  clear hb1
  have p0 : w1.cell? ⟨w.heap.size, 0, none⟩ = some (.int .u8 op) := G.out.cell 0 rfl
  have hS : w.heap.size < w1.heap.size := G.out.lt
  go_wp2
  go_region_with (go_at_call 27; refine (names_any _).mono ?_; rintro e w6 ⟨g6, rfl, hg6, G6, hb6⟩; have hS6 : w6.cell? ⟨w.heap.size, 0, none⟩ = some (.int .u8 op) := (hb6.cell (p := ⟨w.heap.size, 0, none⟩) hS).trans p0; have hN6 : w6.cell? ⟨g6, op - 1, none⟩ = some (.string (nmB op)) := G6.cell _ HG.out; have HB6 := Lib.hid hb6; clear hb6 G6 hg6)
  clear i4
  all_goals
    have HB7 := Lib.hid (below_undrew HB6.out)
    have G2 := Lib.hid (G.out.below HB7.out G.out.lt)
    have B2 := Lib.hid (B.out.trans (HB7.out.mono B.out.size))
    have r0 : w6.cell? ⟨w.heap.size, 0, none⟩ = some (.int .u8 op) := G2.out.cell 0 rfl
    have r1 : w6.cell? ⟨w.heap.size, 1, none⟩ = some (.int .u8 a) := G2.out.cell 1 rfl
    have r2 : w6.cell? ⟨w.heap.size, 2, none⟩ = some (.int .u8 b) := G2.out.cell 2 rfl
    have r3 : w6.cell? ⟨w.heap.size, 3, none⟩ = some (.int .u8 c) := G2.out.cell 3 rfl
    have r4 : w6.cell? ⟨w.heap.size, 4, none⟩ = some (.int .i32 imm) := G2.out.cell 4 rfl
    go_wp2_with fail
    refine (hform _).mono ?_
    rintro e w' ⟨rfl, rfl⟩
    go_wp2
    have u0 : ∀ u : Ext w6, u.val.cell? ⟨w.heap.size, 0, none⟩ = some (.int .u8 op) := fun u => u.cell (G2.out.cell 0 rfl)
    have u1 : ∀ u : Ext w6, u.val.cell? ⟨w.heap.size, 1, none⟩ = some (.int .u8 a) := fun u => u.cell (G2.out.cell 1 rfl)
    have u2 : ∀ u : Ext w6, u.val.cell? ⟨w.heap.size, 2, none⟩ = some (.int .u8 b) := fun u => u.cell (G2.out.cell 2 rfl)
    have u3 : ∀ u : Ext w6, u.val.cell? ⟨w.heap.size, 3, none⟩ = some (.int .u8 c) := fun u => u.cell (G2.out.cell 3 rfl)
    have u4 : ∀ u : Ext w6, u.val.cell? ⟨w.heap.size, 4, none⟩ = some (.int .i32 imm) := fun u => u.cell (G2.out.cell 4 rfl)
    refine wp_region_ext (by kernel_rfl) (by kernel_rfl) ?_
    repeat (go_big_quiet_step (first
      | (go_at_call 28; with_reducible exact Ext.call_same (rreg_any a _ HA.out))
      | (go_at_call 28; with_reducible exact Ext.call_same (rreg_any b _ HB.out))
      | (go_at_call 28; with_reducible exact Ext.call_same (rreg_any c _ HC.out))
      | (go_at_call 29; with_reducible exact Ext.call_same (rdig_any imm _ HI1.out HI2.out))))
    refine wpQuiet_nil ?_
    rintro _ ⟨u, rfl⟩
    go_wp2
    go_ret
    unfold TextPost; rw [HT.out]
    exact ⟨rfl, B2.out.trans (u.below.mono B2.out.size)⟩

set_option maxHeartbeats 1000000 in
theorem rtext_2 (op a b c : Nat) (imm : Int) (w : World) (h1 : 1 ≤ op) (h2 : op ≤ 31) (ha : a ≤ 15) (hb : b ≤ 15) (hc : c ≤ 15) (im1 : -32768 ≤ imm) (im2 : imm ≤ 65535) (hform : ∀ w, Calls Tryd.prog 21 #[.int .u8 op] w fun e w' => e = .returned (.int .i64 2) ∧ w = w') (v : Nat) (he : encR ⟨op, a, b, c, imm⟩ = (v, 0)) (ht : txtB ⟨op, a, b, c, imm⟩ = nmB op ++ ⟨#[32]⟩ ++ regB a ++ ⟨#[44, 32]⟩ ++ regB b ++ ⟨#[44, 32]⟩ ++ numB imm) :
    Calls Tryd.prog 16 #[.agg #[.int .u8 op, .int .u8 a, .int .u8 b, .int .u8 c, .int .i32 imm]] w (TextPost ⟨op, a, b, c, imm⟩ w) := by
  have HE := Lib.hid he
  have HT := Lib.hid ht
  have HO : Hid (op < 256) := by show op < 256; omega
  have HI1 := Lib.hid im1
  have HI2 := Lib.hid im2
  have HA := Lib.hid ha
  have HB := Lib.hid hb
  have HC := Lib.hid hc
  have HG := Lib.hid (nmR_get op h1 h2)
  have s0 := nm_le op
  have s1 := num_size im1 im2
  have s2 := reg_size ha
  have s3 := reg_size hb
  have s4 := reg_size hc
  have ad0 := fun (w : World) => run_string_add_sum (P := Tryd.prog) (w := w) (nmB op) (⟨#[32]⟩) (by (try simp only [ByteArray.size_append]); have e1 : (⟨#[32]⟩ : ByteArray).size = 1 := rfl; have e2 : (⟨#[44, 32]⟩ : ByteArray).size = 2 := rfl; have e3 : (⟨#[40]⟩ : ByteArray).size = 1 := rfl; have e4 : (⟨#[41]⟩ : ByteArray).size = 1 := rfl; omega)
  have ad1 := fun (w : World) => run_string_add_sum (P := Tryd.prog) (w := w) (nmB op ++ ⟨#[32]⟩) (regB a) (by (try simp only [ByteArray.size_append]); have e1 : (⟨#[32]⟩ : ByteArray).size = 1 := rfl; have e2 : (⟨#[44, 32]⟩ : ByteArray).size = 2 := rfl; have e3 : (⟨#[40]⟩ : ByteArray).size = 1 := rfl; have e4 : (⟨#[41]⟩ : ByteArray).size = 1 := rfl; omega)
  have ad2 := fun (w : World) => run_string_add_sum (P := Tryd.prog) (w := w) (nmB op ++ ⟨#[32]⟩ ++ regB a) (⟨#[44, 32]⟩) (by (try simp only [ByteArray.size_append]); have e1 : (⟨#[32]⟩ : ByteArray).size = 1 := rfl; have e2 : (⟨#[44, 32]⟩ : ByteArray).size = 2 := rfl; have e3 : (⟨#[40]⟩ : ByteArray).size = 1 := rfl; have e4 : (⟨#[41]⟩ : ByteArray).size = 1 := rfl; omega)
  have ad3 := fun (w : World) => run_string_add_sum (P := Tryd.prog) (w := w) (nmB op ++ ⟨#[32]⟩ ++ regB a ++ ⟨#[44, 32]⟩) (regB b) (by (try simp only [ByteArray.size_append]); have e1 : (⟨#[32]⟩ : ByteArray).size = 1 := rfl; have e2 : (⟨#[44, 32]⟩ : ByteArray).size = 2 := rfl; have e3 : (⟨#[40]⟩ : ByteArray).size = 1 := rfl; have e4 : (⟨#[41]⟩ : ByteArray).size = 1 := rfl; omega)
  have ad4 := fun (w : World) => run_string_add_sum (P := Tryd.prog) (w := w) (nmB op ++ ⟨#[32]⟩ ++ regB a ++ ⟨#[44, 32]⟩ ++ regB b) (⟨#[44, 32]⟩) (by (try simp only [ByteArray.size_append]); have e1 : (⟨#[32]⟩ : ByteArray).size = 1 := rfl; have e2 : (⟨#[44, 32]⟩ : ByteArray).size = 2 := rfl; have e3 : (⟨#[40]⟩ : ByteArray).size = 1 := rfl; have e4 : (⟨#[41]⟩ : ByteArray).size = 1 := rfl; omega)
  have ad5 := fun (w : World) => run_string_add_sum (P := Tryd.prog) (w := w) (nmB op ++ ⟨#[32]⟩ ++ regB a ++ ⟨#[44, 32]⟩ ++ regB b ++ ⟨#[44, 32]⟩) (numB imm) (by (try simp only [ByteArray.size_append]); have e1 : (⟨#[32]⟩ : ByteArray).size = 1 := rfl; have e2 : (⟨#[44, 32]⟩ : ByteArray).size = 2 := rfl; have e3 : (⟨#[40]⟩ : ByteArray).size = 1 := rfl; have e4 : (⟨#[41]⟩ : ByteArray).size = 1 := rfl; omega)
  have i0 : (0 : Int) ≤ (op : Int) - 1 := by omega
  have i1 : (op : Int) - 1 < 31 := by omega
  have i2 : (1 : Int) ≤ (op : Int) := by omega
  have i3 : ((op : Int) - 1).toNat = op - 1 := by omega
  have i4 : IntKind.u8.wrap ((op : Int) - 1) = (op : Int) - 1 := IntWalk.u8_in _ (by omega)
  clear he ht s0 s1 s2 s3 s4 im1 im2
  go_enter Tryd.func16, Tryd.ntmps16
  go_wp2_with fail
  refine (renc_any ⟨op, a, b, c, imm⟩ _ HO.out (by have := HI1.out; dsimp only; omega) (by have := HI2.out; dsimp only; omega)).mono ?_
  rintro e w1 ⟨rfl, hb1⟩
  rw [HE.out]
  unfold encE
  have G : Hid (Blk w1 w.heap.size 23 #[.int .u8 op, .int .u8 a, .int .u8 b, .int .u8 c, .int .i32 imm]) := (Blk.new w _ _).below hb1 (by simp)
  have B : Hid (Below w.heap.size w w1) := ((Below.refl _ _).alloc (Nat.le_refl _) _).trans (hb1.mono (by simp))
  clear hb1
  have p0 : w1.cell? ⟨w.heap.size, 0, none⟩ = some (.int .u8 op) := G.out.cell 0 rfl
  have hS : w.heap.size < w1.heap.size := G.out.lt
  go_wp2
  go_region_with (go_at_call 27; refine (names_any _).mono ?_; rintro e w6 ⟨g6, rfl, hg6, G6, hb6⟩; have hS6 : w6.cell? ⟨w.heap.size, 0, none⟩ = some (.int .u8 op) := (hb6.cell (p := ⟨w.heap.size, 0, none⟩) hS).trans p0; have hN6 : w6.cell? ⟨g6, op - 1, none⟩ = some (.string (nmB op)) := G6.cell _ HG.out; have HB6 := Lib.hid hb6; clear hb6 G6 hg6)
  clear i4
  all_goals
    have HB7 := Lib.hid (below_undrew HB6.out)
    have G2 := Lib.hid (G.out.below HB7.out G.out.lt)
    have B2 := Lib.hid (B.out.trans (HB7.out.mono B.out.size))
    have r0 : w6.cell? ⟨w.heap.size, 0, none⟩ = some (.int .u8 op) := G2.out.cell 0 rfl
    have r1 : w6.cell? ⟨w.heap.size, 1, none⟩ = some (.int .u8 a) := G2.out.cell 1 rfl
    have r2 : w6.cell? ⟨w.heap.size, 2, none⟩ = some (.int .u8 b) := G2.out.cell 2 rfl
    have r3 : w6.cell? ⟨w.heap.size, 3, none⟩ = some (.int .u8 c) := G2.out.cell 3 rfl
    have r4 : w6.cell? ⟨w.heap.size, 4, none⟩ = some (.int .i32 imm) := G2.out.cell 4 rfl
    go_wp2_with fail
    refine (hform _).mono ?_
    rintro e w' ⟨rfl, rfl⟩
    go_wp2
    have u0 : ∀ u : Ext w6, u.val.cell? ⟨w.heap.size, 0, none⟩ = some (.int .u8 op) := fun u => u.cell (G2.out.cell 0 rfl)
    have u1 : ∀ u : Ext w6, u.val.cell? ⟨w.heap.size, 1, none⟩ = some (.int .u8 a) := fun u => u.cell (G2.out.cell 1 rfl)
    have u2 : ∀ u : Ext w6, u.val.cell? ⟨w.heap.size, 2, none⟩ = some (.int .u8 b) := fun u => u.cell (G2.out.cell 2 rfl)
    have u3 : ∀ u : Ext w6, u.val.cell? ⟨w.heap.size, 3, none⟩ = some (.int .u8 c) := fun u => u.cell (G2.out.cell 3 rfl)
    have u4 : ∀ u : Ext w6, u.val.cell? ⟨w.heap.size, 4, none⟩ = some (.int .i32 imm) := fun u => u.cell (G2.out.cell 4 rfl)
    refine wp_region_ext (by kernel_rfl) (by kernel_rfl) ?_
    repeat (go_big_quiet_step (first
      | (go_at_call 28; with_reducible exact Ext.call_same (rreg_any a _ HA.out))
      | (go_at_call 28; with_reducible exact Ext.call_same (rreg_any b _ HB.out))
      | (go_at_call 28; with_reducible exact Ext.call_same (rreg_any c _ HC.out))
      | (go_at_call 29; with_reducible exact Ext.call_same (rdig_any imm _ HI1.out HI2.out))))
    refine wpQuiet_nil ?_
    rintro _ ⟨u, rfl⟩
    go_wp2
    go_ret
    unfold TextPost; rw [HT.out]
    exact ⟨rfl, B2.out.trans (u.below.mono B2.out.size)⟩

set_option maxHeartbeats 1000000 in
theorem rtext_3 (op a b c : Nat) (imm : Int) (w : World) (h1 : 1 ≤ op) (h2 : op ≤ 31) (ha : a ≤ 15) (hb : b ≤ 15) (hc : c ≤ 15) (im1 : -32768 ≤ imm) (im2 : imm ≤ 65535) (hform : ∀ w, Calls Tryd.prog 21 #[.int .u8 op] w fun e w' => e = .returned (.int .i64 3) ∧ w = w') (v : Nat) (he : encR ⟨op, a, b, c, imm⟩ = (v, 0)) (ht : txtB ⟨op, a, b, c, imm⟩ = nmB op ++ ⟨#[32]⟩ ++ regB a ++ ⟨#[44, 32]⟩ ++ numB imm) :
    Calls Tryd.prog 16 #[.agg #[.int .u8 op, .int .u8 a, .int .u8 b, .int .u8 c, .int .i32 imm]] w (TextPost ⟨op, a, b, c, imm⟩ w) := by
  have HE := Lib.hid he
  have HT := Lib.hid ht
  have HO : Hid (op < 256) := by show op < 256; omega
  have HI1 := Lib.hid im1
  have HI2 := Lib.hid im2
  have HA := Lib.hid ha
  have HB := Lib.hid hb
  have HC := Lib.hid hc
  have HG := Lib.hid (nmR_get op h1 h2)
  have s0 := nm_le op
  have s1 := num_size im1 im2
  have s2 := reg_size ha
  have s3 := reg_size hb
  have s4 := reg_size hc
  have ad0 := fun (w : World) => run_string_add_sum (P := Tryd.prog) (w := w) (nmB op) (⟨#[32]⟩) (by (try simp only [ByteArray.size_append]); have e1 : (⟨#[32]⟩ : ByteArray).size = 1 := rfl; have e2 : (⟨#[44, 32]⟩ : ByteArray).size = 2 := rfl; have e3 : (⟨#[40]⟩ : ByteArray).size = 1 := rfl; have e4 : (⟨#[41]⟩ : ByteArray).size = 1 := rfl; omega)
  have ad1 := fun (w : World) => run_string_add_sum (P := Tryd.prog) (w := w) (nmB op ++ ⟨#[32]⟩) (regB a) (by (try simp only [ByteArray.size_append]); have e1 : (⟨#[32]⟩ : ByteArray).size = 1 := rfl; have e2 : (⟨#[44, 32]⟩ : ByteArray).size = 2 := rfl; have e3 : (⟨#[40]⟩ : ByteArray).size = 1 := rfl; have e4 : (⟨#[41]⟩ : ByteArray).size = 1 := rfl; omega)
  have ad2 := fun (w : World) => run_string_add_sum (P := Tryd.prog) (w := w) (nmB op ++ ⟨#[32]⟩ ++ regB a) (⟨#[44, 32]⟩) (by (try simp only [ByteArray.size_append]); have e1 : (⟨#[32]⟩ : ByteArray).size = 1 := rfl; have e2 : (⟨#[44, 32]⟩ : ByteArray).size = 2 := rfl; have e3 : (⟨#[40]⟩ : ByteArray).size = 1 := rfl; have e4 : (⟨#[41]⟩ : ByteArray).size = 1 := rfl; omega)
  have ad3 := fun (w : World) => run_string_add_sum (P := Tryd.prog) (w := w) (nmB op ++ ⟨#[32]⟩ ++ regB a ++ ⟨#[44, 32]⟩) (numB imm) (by (try simp only [ByteArray.size_append]); have e1 : (⟨#[32]⟩ : ByteArray).size = 1 := rfl; have e2 : (⟨#[44, 32]⟩ : ByteArray).size = 2 := rfl; have e3 : (⟨#[40]⟩ : ByteArray).size = 1 := rfl; have e4 : (⟨#[41]⟩ : ByteArray).size = 1 := rfl; omega)
  have i0 : (0 : Int) ≤ (op : Int) - 1 := by omega
  have i1 : (op : Int) - 1 < 31 := by omega
  have i2 : (1 : Int) ≤ (op : Int) := by omega
  have i3 : ((op : Int) - 1).toNat = op - 1 := by omega
  have i4 : IntKind.u8.wrap ((op : Int) - 1) = (op : Int) - 1 := IntWalk.u8_in _ (by omega)
  clear he ht s0 s1 s2 s3 s4 im1 im2
  go_enter Tryd.func16, Tryd.ntmps16
  go_wp2_with fail
  refine (renc_any ⟨op, a, b, c, imm⟩ _ HO.out (by have := HI1.out; dsimp only; omega) (by have := HI2.out; dsimp only; omega)).mono ?_
  rintro e w1 ⟨rfl, hb1⟩
  rw [HE.out]
  unfold encE
  have G : Hid (Blk w1 w.heap.size 23 #[.int .u8 op, .int .u8 a, .int .u8 b, .int .u8 c, .int .i32 imm]) := (Blk.new w _ _).below hb1 (by simp)
  have B : Hid (Below w.heap.size w w1) := ((Below.refl _ _).alloc (Nat.le_refl _) _).trans (hb1.mono (by simp))
  clear hb1
  have p0 : w1.cell? ⟨w.heap.size, 0, none⟩ = some (.int .u8 op) := G.out.cell 0 rfl
  have hS : w.heap.size < w1.heap.size := G.out.lt
  go_wp2
  go_region_with (go_at_call 27; refine (names_any _).mono ?_; rintro e w6 ⟨g6, rfl, hg6, G6, hb6⟩; have hS6 : w6.cell? ⟨w.heap.size, 0, none⟩ = some (.int .u8 op) := (hb6.cell (p := ⟨w.heap.size, 0, none⟩) hS).trans p0; have hN6 : w6.cell? ⟨g6, op - 1, none⟩ = some (.string (nmB op)) := G6.cell _ HG.out; have HB6 := Lib.hid hb6; clear hb6 G6 hg6)
  clear i4
  all_goals
    have HB7 := Lib.hid (below_undrew HB6.out)
    have G2 := Lib.hid (G.out.below HB7.out G.out.lt)
    have B2 := Lib.hid (B.out.trans (HB7.out.mono B.out.size))
    have r0 : w6.cell? ⟨w.heap.size, 0, none⟩ = some (.int .u8 op) := G2.out.cell 0 rfl
    have r1 : w6.cell? ⟨w.heap.size, 1, none⟩ = some (.int .u8 a) := G2.out.cell 1 rfl
    have r2 : w6.cell? ⟨w.heap.size, 2, none⟩ = some (.int .u8 b) := G2.out.cell 2 rfl
    have r3 : w6.cell? ⟨w.heap.size, 3, none⟩ = some (.int .u8 c) := G2.out.cell 3 rfl
    have r4 : w6.cell? ⟨w.heap.size, 4, none⟩ = some (.int .i32 imm) := G2.out.cell 4 rfl
    go_wp2_with fail
    refine (hform _).mono ?_
    rintro e w' ⟨rfl, rfl⟩
    go_wp2
    have u0 : ∀ u : Ext w6, u.val.cell? ⟨w.heap.size, 0, none⟩ = some (.int .u8 op) := fun u => u.cell (G2.out.cell 0 rfl)
    have u1 : ∀ u : Ext w6, u.val.cell? ⟨w.heap.size, 1, none⟩ = some (.int .u8 a) := fun u => u.cell (G2.out.cell 1 rfl)
    have u2 : ∀ u : Ext w6, u.val.cell? ⟨w.heap.size, 2, none⟩ = some (.int .u8 b) := fun u => u.cell (G2.out.cell 2 rfl)
    have u3 : ∀ u : Ext w6, u.val.cell? ⟨w.heap.size, 3, none⟩ = some (.int .u8 c) := fun u => u.cell (G2.out.cell 3 rfl)
    have u4 : ∀ u : Ext w6, u.val.cell? ⟨w.heap.size, 4, none⟩ = some (.int .i32 imm) := fun u => u.cell (G2.out.cell 4 rfl)
    refine wp_region_ext (by kernel_rfl) (by kernel_rfl) ?_
    repeat (go_big_quiet_step (first
      | (go_at_call 28; with_reducible exact Ext.call_same (rreg_any a _ HA.out))
      | (go_at_call 28; with_reducible exact Ext.call_same (rreg_any b _ HB.out))
      | (go_at_call 28; with_reducible exact Ext.call_same (rreg_any c _ HC.out))
      | (go_at_call 29; with_reducible exact Ext.call_same (rdig_any imm _ HI1.out HI2.out))))
    refine wpQuiet_nil ?_
    rintro _ ⟨u, rfl⟩
    go_wp2
    go_ret
    unfold TextPost; rw [HT.out]
    exact ⟨rfl, B2.out.trans (u.below.mono B2.out.size)⟩

set_option maxHeartbeats 1000000 in
theorem rtext_4 (op a b c : Nat) (imm : Int) (w : World) (h1 : 1 ≤ op) (h2 : op ≤ 31) (ha : a ≤ 15) (hb : b ≤ 15) (hc : c ≤ 15) (im1 : -32768 ≤ imm) (im2 : imm ≤ 65535) (hform : ∀ w, Calls Tryd.prog 21 #[.int .u8 op] w fun e w' => e = .returned (.int .i64 4) ∧ w = w') (v : Nat) (he : encR ⟨op, a, b, c, imm⟩ = (v, 0)) (ht : txtB ⟨op, a, b, c, imm⟩ = nmB op ++ ⟨#[32]⟩ ++ regB a ++ ⟨#[44, 32]⟩ ++ numB imm ++ ⟨#[40]⟩ ++ regB b ++ ⟨#[41]⟩) :
    Calls Tryd.prog 16 #[.agg #[.int .u8 op, .int .u8 a, .int .u8 b, .int .u8 c, .int .i32 imm]] w (TextPost ⟨op, a, b, c, imm⟩ w) := by
  have HE := Lib.hid he
  have HT := Lib.hid ht
  have HO : Hid (op < 256) := by show op < 256; omega
  have HI1 := Lib.hid im1
  have HI2 := Lib.hid im2
  have HA := Lib.hid ha
  have HB := Lib.hid hb
  have HC := Lib.hid hc
  have HG := Lib.hid (nmR_get op h1 h2)
  have s0 := nm_le op
  have s1 := num_size im1 im2
  have s2 := reg_size ha
  have s3 := reg_size hb
  have s4 := reg_size hc
  have ad0 := fun (w : World) => run_string_add_sum (P := Tryd.prog) (w := w) (nmB op) (⟨#[32]⟩) (by (try simp only [ByteArray.size_append]); have e1 : (⟨#[32]⟩ : ByteArray).size = 1 := rfl; have e2 : (⟨#[44, 32]⟩ : ByteArray).size = 2 := rfl; have e3 : (⟨#[40]⟩ : ByteArray).size = 1 := rfl; have e4 : (⟨#[41]⟩ : ByteArray).size = 1 := rfl; omega)
  have ad1 := fun (w : World) => run_string_add_sum (P := Tryd.prog) (w := w) (nmB op ++ ⟨#[32]⟩) (regB a) (by (try simp only [ByteArray.size_append]); have e1 : (⟨#[32]⟩ : ByteArray).size = 1 := rfl; have e2 : (⟨#[44, 32]⟩ : ByteArray).size = 2 := rfl; have e3 : (⟨#[40]⟩ : ByteArray).size = 1 := rfl; have e4 : (⟨#[41]⟩ : ByteArray).size = 1 := rfl; omega)
  have ad2 := fun (w : World) => run_string_add_sum (P := Tryd.prog) (w := w) (nmB op ++ ⟨#[32]⟩ ++ regB a) (⟨#[44, 32]⟩) (by (try simp only [ByteArray.size_append]); have e1 : (⟨#[32]⟩ : ByteArray).size = 1 := rfl; have e2 : (⟨#[44, 32]⟩ : ByteArray).size = 2 := rfl; have e3 : (⟨#[40]⟩ : ByteArray).size = 1 := rfl; have e4 : (⟨#[41]⟩ : ByteArray).size = 1 := rfl; omega)
  have ad3 := fun (w : World) => run_string_add_sum (P := Tryd.prog) (w := w) (nmB op ++ ⟨#[32]⟩ ++ regB a ++ ⟨#[44, 32]⟩) (numB imm) (by (try simp only [ByteArray.size_append]); have e1 : (⟨#[32]⟩ : ByteArray).size = 1 := rfl; have e2 : (⟨#[44, 32]⟩ : ByteArray).size = 2 := rfl; have e3 : (⟨#[40]⟩ : ByteArray).size = 1 := rfl; have e4 : (⟨#[41]⟩ : ByteArray).size = 1 := rfl; omega)
  have ad4 := fun (w : World) => run_string_add_sum (P := Tryd.prog) (w := w) (nmB op ++ ⟨#[32]⟩ ++ regB a ++ ⟨#[44, 32]⟩ ++ numB imm) (⟨#[40]⟩) (by (try simp only [ByteArray.size_append]); have e1 : (⟨#[32]⟩ : ByteArray).size = 1 := rfl; have e2 : (⟨#[44, 32]⟩ : ByteArray).size = 2 := rfl; have e3 : (⟨#[40]⟩ : ByteArray).size = 1 := rfl; have e4 : (⟨#[41]⟩ : ByteArray).size = 1 := rfl; omega)
  have ad5 := fun (w : World) => run_string_add_sum (P := Tryd.prog) (w := w) (nmB op ++ ⟨#[32]⟩ ++ regB a ++ ⟨#[44, 32]⟩ ++ numB imm ++ ⟨#[40]⟩) (regB b) (by (try simp only [ByteArray.size_append]); have e1 : (⟨#[32]⟩ : ByteArray).size = 1 := rfl; have e2 : (⟨#[44, 32]⟩ : ByteArray).size = 2 := rfl; have e3 : (⟨#[40]⟩ : ByteArray).size = 1 := rfl; have e4 : (⟨#[41]⟩ : ByteArray).size = 1 := rfl; omega)
  have ad6 := fun (w : World) => run_string_add_sum (P := Tryd.prog) (w := w) (nmB op ++ ⟨#[32]⟩ ++ regB a ++ ⟨#[44, 32]⟩ ++ numB imm ++ ⟨#[40]⟩ ++ regB b) (⟨#[41]⟩) (by (try simp only [ByteArray.size_append]); have e1 : (⟨#[32]⟩ : ByteArray).size = 1 := rfl; have e2 : (⟨#[44, 32]⟩ : ByteArray).size = 2 := rfl; have e3 : (⟨#[40]⟩ : ByteArray).size = 1 := rfl; have e4 : (⟨#[41]⟩ : ByteArray).size = 1 := rfl; omega)
  have i0 : (0 : Int) ≤ (op : Int) - 1 := by omega
  have i1 : (op : Int) - 1 < 31 := by omega
  have i2 : (1 : Int) ≤ (op : Int) := by omega
  have i3 : ((op : Int) - 1).toNat = op - 1 := by omega
  have i4 : IntKind.u8.wrap ((op : Int) - 1) = (op : Int) - 1 := IntWalk.u8_in _ (by omega)
  clear he ht s0 s1 s2 s3 s4 im1 im2
  go_enter Tryd.func16, Tryd.ntmps16
  go_wp2_with fail
  refine (renc_any ⟨op, a, b, c, imm⟩ _ HO.out (by have := HI1.out; dsimp only; omega) (by have := HI2.out; dsimp only; omega)).mono ?_
  rintro e w1 ⟨rfl, hb1⟩
  rw [HE.out]
  unfold encE
  have G : Hid (Blk w1 w.heap.size 23 #[.int .u8 op, .int .u8 a, .int .u8 b, .int .u8 c, .int .i32 imm]) := (Blk.new w _ _).below hb1 (by simp)
  have B : Hid (Below w.heap.size w w1) := ((Below.refl _ _).alloc (Nat.le_refl _) _).trans (hb1.mono (by simp))
  clear hb1
  have p0 : w1.cell? ⟨w.heap.size, 0, none⟩ = some (.int .u8 op) := G.out.cell 0 rfl
  have hS : w.heap.size < w1.heap.size := G.out.lt
  go_wp2
  go_region_with (go_at_call 27; refine (names_any _).mono ?_; rintro e w6 ⟨g6, rfl, hg6, G6, hb6⟩; have hS6 : w6.cell? ⟨w.heap.size, 0, none⟩ = some (.int .u8 op) := (hb6.cell (p := ⟨w.heap.size, 0, none⟩) hS).trans p0; have hN6 : w6.cell? ⟨g6, op - 1, none⟩ = some (.string (nmB op)) := G6.cell _ HG.out; have HB6 := Lib.hid hb6; clear hb6 G6 hg6)
  clear i4
  all_goals
    have HB7 := Lib.hid (below_undrew HB6.out)
    have G2 := Lib.hid (G.out.below HB7.out G.out.lt)
    have B2 := Lib.hid (B.out.trans (HB7.out.mono B.out.size))
    have r0 : w6.cell? ⟨w.heap.size, 0, none⟩ = some (.int .u8 op) := G2.out.cell 0 rfl
    have r1 : w6.cell? ⟨w.heap.size, 1, none⟩ = some (.int .u8 a) := G2.out.cell 1 rfl
    have r2 : w6.cell? ⟨w.heap.size, 2, none⟩ = some (.int .u8 b) := G2.out.cell 2 rfl
    have r3 : w6.cell? ⟨w.heap.size, 3, none⟩ = some (.int .u8 c) := G2.out.cell 3 rfl
    have r4 : w6.cell? ⟨w.heap.size, 4, none⟩ = some (.int .i32 imm) := G2.out.cell 4 rfl
    go_wp2_with fail
    refine (hform _).mono ?_
    rintro e w' ⟨rfl, rfl⟩
    go_wp2
    have u0 : ∀ u : Ext w6, u.val.cell? ⟨w.heap.size, 0, none⟩ = some (.int .u8 op) := fun u => u.cell (G2.out.cell 0 rfl)
    have u1 : ∀ u : Ext w6, u.val.cell? ⟨w.heap.size, 1, none⟩ = some (.int .u8 a) := fun u => u.cell (G2.out.cell 1 rfl)
    have u2 : ∀ u : Ext w6, u.val.cell? ⟨w.heap.size, 2, none⟩ = some (.int .u8 b) := fun u => u.cell (G2.out.cell 2 rfl)
    have u3 : ∀ u : Ext w6, u.val.cell? ⟨w.heap.size, 3, none⟩ = some (.int .u8 c) := fun u => u.cell (G2.out.cell 3 rfl)
    have u4 : ∀ u : Ext w6, u.val.cell? ⟨w.heap.size, 4, none⟩ = some (.int .i32 imm) := fun u => u.cell (G2.out.cell 4 rfl)
    refine wp_region_ext (by kernel_rfl) (by kernel_rfl) ?_
    repeat (go_big_quiet_step (first
      | (go_at_call 28; with_reducible exact Ext.call_same (rreg_any a _ HA.out))
      | (go_at_call 28; with_reducible exact Ext.call_same (rreg_any b _ HB.out))
      | (go_at_call 28; with_reducible exact Ext.call_same (rreg_any c _ HC.out))
      | (go_at_call 29; with_reducible exact Ext.call_same (rdig_any imm _ HI1.out HI2.out))))
    refine wpQuiet_nil ?_
    rintro _ ⟨u, rfl⟩
    go_wp2
    go_ret
    unfold TextPost; rw [HT.out]
    exact ⟨rfl, B2.out.trans (u.below.mono B2.out.size)⟩

set_option maxHeartbeats 1000000 in
theorem rtext_5 (op a b c : Nat) (imm : Int) (w : World) (h1 : 1 ≤ op) (h2 : op ≤ 31) (ha : a ≤ 15) (hb : b ≤ 15) (hc : c ≤ 15) (im1 : -32768 ≤ imm) (im2 : imm ≤ 65535) (hform : ∀ w, Calls Tryd.prog 21 #[.int .u8 op] w fun e w' => e = .returned (.int .i64 5) ∧ w = w') (v : Nat) (he : encR ⟨op, a, b, c, imm⟩ = (v, 0)) (ht : txtB ⟨op, a, b, c, imm⟩ = nmB op ++ ⟨#[32]⟩ ++ numB imm) :
    Calls Tryd.prog 16 #[.agg #[.int .u8 op, .int .u8 a, .int .u8 b, .int .u8 c, .int .i32 imm]] w (TextPost ⟨op, a, b, c, imm⟩ w) := by
  have HE := Lib.hid he
  have HT := Lib.hid ht
  have HO : Hid (op < 256) := by show op < 256; omega
  have HI1 := Lib.hid im1
  have HI2 := Lib.hid im2
  have HA := Lib.hid ha
  have HB := Lib.hid hb
  have HC := Lib.hid hc
  have HG := Lib.hid (nmR_get op h1 h2)
  have s0 := nm_le op
  have s1 := num_size im1 im2
  have s2 := reg_size ha
  have s3 := reg_size hb
  have s4 := reg_size hc
  have ad0 := fun (w : World) => run_string_add_sum (P := Tryd.prog) (w := w) (nmB op) (⟨#[32]⟩) (by (try simp only [ByteArray.size_append]); have e1 : (⟨#[32]⟩ : ByteArray).size = 1 := rfl; have e2 : (⟨#[44, 32]⟩ : ByteArray).size = 2 := rfl; have e3 : (⟨#[40]⟩ : ByteArray).size = 1 := rfl; have e4 : (⟨#[41]⟩ : ByteArray).size = 1 := rfl; omega)
  have ad1 := fun (w : World) => run_string_add_sum (P := Tryd.prog) (w := w) (nmB op ++ ⟨#[32]⟩) (numB imm) (by (try simp only [ByteArray.size_append]); have e1 : (⟨#[32]⟩ : ByteArray).size = 1 := rfl; have e2 : (⟨#[44, 32]⟩ : ByteArray).size = 2 := rfl; have e3 : (⟨#[40]⟩ : ByteArray).size = 1 := rfl; have e4 : (⟨#[41]⟩ : ByteArray).size = 1 := rfl; omega)
  have i0 : (0 : Int) ≤ (op : Int) - 1 := by omega
  have i1 : (op : Int) - 1 < 31 := by omega
  have i2 : (1 : Int) ≤ (op : Int) := by omega
  have i3 : ((op : Int) - 1).toNat = op - 1 := by omega
  have i4 : IntKind.u8.wrap ((op : Int) - 1) = (op : Int) - 1 := IntWalk.u8_in _ (by omega)
  clear he ht s0 s1 s2 s3 s4 im1 im2
  go_enter Tryd.func16, Tryd.ntmps16
  go_wp2_with fail
  refine (renc_any ⟨op, a, b, c, imm⟩ _ HO.out (by have := HI1.out; dsimp only; omega) (by have := HI2.out; dsimp only; omega)).mono ?_
  rintro e w1 ⟨rfl, hb1⟩
  rw [HE.out]
  unfold encE
  have G : Hid (Blk w1 w.heap.size 23 #[.int .u8 op, .int .u8 a, .int .u8 b, .int .u8 c, .int .i32 imm]) := (Blk.new w _ _).below hb1 (by simp)
  have B : Hid (Below w.heap.size w w1) := ((Below.refl _ _).alloc (Nat.le_refl _) _).trans (hb1.mono (by simp))
  clear hb1
  have p0 : w1.cell? ⟨w.heap.size, 0, none⟩ = some (.int .u8 op) := G.out.cell 0 rfl
  have hS : w.heap.size < w1.heap.size := G.out.lt
  go_wp2
  go_region_with (go_at_call 27; refine (names_any _).mono ?_; rintro e w6 ⟨g6, rfl, hg6, G6, hb6⟩; have hS6 : w6.cell? ⟨w.heap.size, 0, none⟩ = some (.int .u8 op) := (hb6.cell (p := ⟨w.heap.size, 0, none⟩) hS).trans p0; have hN6 : w6.cell? ⟨g6, op - 1, none⟩ = some (.string (nmB op)) := G6.cell _ HG.out; have HB6 := Lib.hid hb6; clear hb6 G6 hg6)
  clear i4
  all_goals
    have HB7 := Lib.hid (below_undrew HB6.out)
    have G2 := Lib.hid (G.out.below HB7.out G.out.lt)
    have B2 := Lib.hid (B.out.trans (HB7.out.mono B.out.size))
    have r0 : w6.cell? ⟨w.heap.size, 0, none⟩ = some (.int .u8 op) := G2.out.cell 0 rfl
    have r1 : w6.cell? ⟨w.heap.size, 1, none⟩ = some (.int .u8 a) := G2.out.cell 1 rfl
    have r2 : w6.cell? ⟨w.heap.size, 2, none⟩ = some (.int .u8 b) := G2.out.cell 2 rfl
    have r3 : w6.cell? ⟨w.heap.size, 3, none⟩ = some (.int .u8 c) := G2.out.cell 3 rfl
    have r4 : w6.cell? ⟨w.heap.size, 4, none⟩ = some (.int .i32 imm) := G2.out.cell 4 rfl
    go_wp2_with fail
    refine (hform _).mono ?_
    rintro e w' ⟨rfl, rfl⟩
    go_wp2_with fail
    refine (rdig_any imm _ HI1.out HI2.out).mono ?_
    rintro e w' ⟨rfl, rfl⟩
    go_wp2
    go_ret
    unfold TextPost; rw [HT.out]
    exact ⟨rfl, B2.out⟩

theorem bytes_list {s t : ByteArray} (h : s.data.toList = t.data.toList) : s = t := WideShapes.bytes_inj h
set_option maxHeartbeats 1000000 in
theorem rtext_none (x : Ins) (w : World) (ho : x.op < 256) (hi1 : -2147483648 ≤ x.imm) (hi2 : x.imm < 2147483648) (h : (encR x).2 ≠ 0) : Calls Tryd.prog 16 #[insE x] w (TextPost x w) := by
  obtain ⟨op, a, b, c, imm⟩ := x
  have HO : Hid (op < 256) := ho
  have HI1 := Lib.hid hi1
  have HI2 := Lib.hid hi2
  have HT := Lib.hid (show txtB ⟨op, a, b, c, imm⟩ = ⟨#[]⟩ by unfold txtB; rw [if_pos h])
  show Calls Tryd.prog 16 #[.agg #[.int .u8 op, .int .u8 a, .int .u8 b, .int .u8 c, .int .i32 imm]] w (TextPost ⟨op, a, b, c, imm⟩ w)
  cases hr : encR ⟨op, a, b, c, imm⟩ with | mk v en
  rw [hr] at h
  have h1 : (en != 0) = true := by simpa using h
  have HR := Lib.hid hr
  clear h hr ho hi1 hi2
  go_enter Tryd.func16, Tryd.ntmps16
  go_wp2_with fail
  refine (renc_any ⟨op, a, b, c, imm⟩ _ HO.out HI1.out HI2.out).mono ?_
  rintro e w1 ⟨rfl, hb1⟩
  rw [HR.out]
  unfold encE
  have B : Hid (Below w.heap.size w w1) := ((Below.refl _ _).alloc (Nat.le_refl _) _).trans (hb1.mono (by simp))
  clear hb1
  go_wp2
  go_ret
  unfold TextPost; rw [HT.out]
  exact ⟨rfl, B.out⟩
theorem rtext_any (x : Ins) (w : World) (ho : x.op < 256) (hi1 : -2147483648 ≤ x.imm) (hi2 : x.imm < 2147483648) : Calls Tryd.prog 16 #[insE x] w (TextPost x w) := by
  by_cases h : (encR x).2 = 0
  case neg => exact rtext_none x w ho hi1 hi2 h
  obtain ⟨h1, h2, h3, h4, _⟩ := enc_parts h
  obtain ⟨i1, i2⟩ := imm_ok h
  have h7 := (enc_ok h).2.2.2.2.2.2
  have ht := txt_list h
  obtain ⟨op, a, b, c, imm⟩ := x
  have hl : ∀ xs : List ByteArray, lineB (nmB op) xs = nmB op ++ ⟨#[32]⟩ ++ ⟨(Lib.join (xs.map (·.data.toList)) [44, 32]).toArray⟩ := fun _ => rfl
  dsimp only at *
  have go : ∀ t : ByteArray, t.data.toList = nmT.getD op [] ++ 32 :: tailL ⟨op, a, b, c, imm⟩ → txtB ⟨op, a, b, c, imm⟩ = t := fun t e => bytes_list (ht.trans e.symm)
  by_cases c1 : op ≤ 13
  · have hf := f_one h1 c1
    exact rtext_1 op a b c imm w h1 h2 h3 h4 (by omega) i1 i2 (fun w => form_1 op w h1 c1) _ h7 (go _ (by unfold tailL; rw [if_pos hf.2.2.1]; simp [nmB, regB_list]))
  have c1' : ¬ fC op = true := by simp only [fC, decide_eq_true_eq]; omega
  by_cases c2 : 20 ≤ op ∧ op ≤ 24 ∨ op = 30
  · have hm : fM op = true := by simp only [fM, decide_eq_true_eq]; omega
    refine rtext_4 op a b c imm w h1 h2 h3 h4 (by omega) i1 i2 (fun w => ?_) _ h7 (go _ (by unfold tailL; rw [if_neg c1', if_pos hm]; simp [nmB, regB_list, numB_list]))
    rcases c2 with c2 | c2
    · exact form_20 op w c2.1 c2.2
    · subst c2; exact form_30 w
  have hm : ¬ fM op = true := by simp only [fM, decide_eq_true_eq]; omega
  by_cases c3 : op = 19 ∨ op = 29
  · have hf := f_three c3
    refine rtext_3 op a b c imm w h1 h2 h3 h4 (by omega) i1 i2 (fun w => ?_) _ h7 (go _ (by unfold tailL; rw [if_neg c1', if_neg hm, if_neg (by simp [hf.2.1]), if_pos hf.1]; simp [nmB, regB_list, numB_list]))
    rcases c3 with c3 | c3
    · subst c3; exact form_19 w
    · subst c3; exact form_29 w
  by_cases c4 : op = 31
  · have hf : fA op = false ∧ fB op = false ∧ fC op = false ∧ fI op = true ∧ fOk op = true := by rw [c4]; exact f_sys
    refine rtext_5 op a b c imm w h1 h2 h3 h4 (by omega) i1 i2 (fun w => ?_) _ h7 (go _ (by unfold tailL; rw [if_neg c1', if_neg hm, if_neg (by simp [hf.2.1]), if_neg (by simp [hf.1])]; simp [nmB, numB_list]))
    subst c4; exact form_31 w
  · have hf := f_two (op := op) (by omega) (by omega) (by omega) (by omega)
    refine rtext_2 op a b c imm w h1 h2 h3 h4 (by omega) i1 i2 (fun w => ?_) _ h7 (go _ (by unfold tailL; rw [if_neg c1', if_neg hm, if_pos hf.2.1]; simp [nmB, regB_list, numB_list]))
    by_cases c5 : op ≤ 18
    · exact form_14 op w (by omega) c5
    · exact form_25 op w (by omega) (by omega)
end Go.Proofs.YtnaknooefjiahaaDoor
