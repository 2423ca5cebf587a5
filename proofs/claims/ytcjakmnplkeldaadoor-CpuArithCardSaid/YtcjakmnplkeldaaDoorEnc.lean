/-
  What isa.Enc computes.
-/
import Derived.Test.YtcjakmnplkeldaaDoorIsa
namespace Go.Proofs.YtcjakmnplkeldaaDoor
open Go.RowKit
set_option linter.unusedVariables false
set_option linter.unusedSimpArgs false

/-- an instruction -/
structure Ins where
  op : Nat
  a : Nat
  b : Nat
  c : Nat
  imm : Int
abbrev insV (x : Ins) : Value := .agg #[.int .u8 x.op, .int .u8 x.a, .int .u8 x.b, .int .u8 x.c, .int .i32 x.imm]
def encW (x : Ins) : Nat := x.op * 67108864 + x.a * 4194304 + x.b * 262144 + x.c * 16384 + (x.imm % 65536).toNat
def viol (x : Ins) : Bool := (!fA x.op && decide (x.a ≠ 0)) || (!fB x.op && decide (x.b ≠ 0)) || (!fC x.op && decide (x.c ≠ 0)) || (!fI x.op && decide (x.imm ≠ 0))
def encR (x : Ins) : Nat × Int :=
  if fOk x.op = false then (0, 16)
  else if 15 < x.a ∨ 15 < x.b ∨ 15 < x.c then (0, 1)
  else if viol x = true then (0, 1)
  else if fI x.op = true ∧ fits x.op x.imm = false then (0, 2)
  else (encW x, 0)
def encE (r : Nat × Int) : Ending := .returned (.tuple #[.int .u32 (r.1 : Nat), .int .i64 r.2])
def EncPost (x : Ins) (w : World) (e : Ending) (w' : World) : Prop := e = encE (encR x) ∧ Below w.heap.size w w'

theorem enc_none {x : Ins} (h : fOk x.op = false) : encR x = (0, 16) := if_pos h
theorem enc_bad {x : Ins} (h : fOk x.op = true) (h2 : 15 < x.a ∨ 15 < x.b ∨ 15 < x.c) : encR x = (0, 1) := by unfold encR; rw [if_neg (by simp [h]), if_pos h2]
theorem enc_viol {x : Ins} (h : fOk x.op = true) (h2 : x.a ≤ 15 ∧ x.b ≤ 15 ∧ x.c ≤ 15) (h3 : viol x = true) : encR x = (0, 1) := by unfold encR; rw [if_neg (by simp [h]), if_neg (by omega), if_pos h3]
theorem enc_range {x : Ins} (h : fOk x.op = true) (h2 : x.a ≤ 15 ∧ x.b ≤ 15 ∧ x.c ≤ 15) (h3 : viol x = false) (h4 : fI x.op = true) (h5 : fits x.op x.imm = false) : encR x = (0, 2) := by
  unfold encR; rw [if_neg (by simp [h]), if_neg (by omega), if_neg (by simp [h3]), if_pos ⟨h4, h5⟩]
theorem enc_good {x : Ins} (h : fOk x.op = true) (h2 : x.a ≤ 15 ∧ x.b ≤ 15 ∧ x.c ≤ 15) (h3 : viol x = false) (h4 : fI x.op = false ∨ fits x.op x.imm = true) : encR x = (encW x, 0) := by
  unfold encR; rw [if_neg (by simp [h]), if_neg (by omega), if_neg (by simp [h3]), if_neg (by rintro ⟨a, b⟩; rcases h4 with h | h <;> simp_all)]

/-- the word: fields that don't meet are summed -/
theorem enc_word (op a b c : Nat) (imm : Int) (ho : op ≤ 31) (ha : a ≤ 15) (hb : b ≤ 15) (hc : c ≤ 15) (h : c = 0 ∨ imm = 0) :
    bits .or .u32 (bits .or .u32 (bits .or .u32 (bits .or .u32 ((op : Int) * 67108864) ((a : Int) * 4194304)) ((b : Int) * 262144)) ((c : Int) * 16384)) (bits .and .u32 (imm % 4294967296) 65535) = (encW ⟨op, a, b, c, imm⟩ : Nat) := by
  have e1 : ((op : Int) * 67108864) = ((op * 67108864 : Nat) : Int) := by omega
  have e2 : ((a : Int) * 4194304) = ((a * 4194304 : Nat) : Int) := by omega
  have e3 : ((b : Int) * 262144) = ((b * 262144 : Nat) : Int) := by omega
  have e4 : ((c : Int) * 16384) = ((c * 16384 : Nat) : Int) := by omega
  have e5 : bits .and .u32 (imm % 4294967296) 65535 = (((imm % 65536).toNat : Nat) : Int) := by
    rw [u32_and _ _ (by omega) (by omega) (by omega) (by omega)]
    rw [show (65535 : Int).toNat = 2 ^ 16 - 1 by rfl, Nat.and_two_pow_sub_one_eq_mod]
    omega
  rw [e1, e2, e3, e4, e5]
  rw [u32_or_nat _ _ (by omega) (by omega), nat_join 26 _ _ (by omega) (by omega)]
  rw [u32_or_nat _ _ (by omega) (by omega), nat_join 22 _ _ (by omega) (by omega)]
  rw [u32_or_nat _ _ (by omega) (by omega), nat_join 18 _ _ (by omega) (by omega)]
  rcases h with rfl | rfl
  · rw [u32_or_nat _ _ (by omega) (by omega), nat_join 18 _ _ (by omega) (by omega)]
    unfold encW; simp
  · rw [u32_or_nat _ _ (by omega) (by omega), nat_join 14 _ _ (by omega) (by omega)]
    unfold encW; simp

/-- facts that a leaf starts from -/
theorem regs_ok {a : Nat} (h : a ≤ 15) : decide ((15 : Int) < (a : Int)) = false := by simp; omega

set_option maxHeartbeats 4000000 in
theorem enc_none_any (op a b c : Nat) (imm : Int) (w : World) (ho : op < 256) (h : op < 1 ∨ 31 < op) :
    Calls Tryd.prog 18 #[.agg #[.int .u8 op, .int .u8 a, .int .u8 b, .int .u8 c, .int .i32 imm]] w (EncPost ⟨op, a, b, c, imm⟩ w) := by
  have HF := Lib.hid (f_none h)
  have HR := Lib.hid (enc_none (x := ⟨op, a, b, c, imm⟩) HF.out.2.2.2.2)
  clear h
  go_enter Tryd.func18, Tryd.ntmps18
  go_wp2_with fail
  refine (fields_any op _ ho).mono ?_
  rintro e w1 ⟨rfl, hb1⟩
  have g1 := (Blk.new w 41 #[.int .u8 op, .int .u8 a, .int .u8 b, .int .u8 c, .int .i32 imm]).below hb1 (by simp)
  have q0 : w1.cell? ⟨w.heap.size, 0, none⟩ = some (.int .u8 op) := g1.cell 0 rfl
  have q1 : w1.cell? ⟨w.heap.size, 1, none⟩ = some (.int .u8 a) := g1.cell 1 rfl
  have q2 : w1.cell? ⟨w.heap.size, 2, none⟩ = some (.int .u8 b) := g1.cell 2 rfl
  have q3 : w1.cell? ⟨w.heap.size, 3, none⟩ = some (.int .u8 c) := g1.cell 3 rfl
  have q4 : w1.cell? ⟨w.heap.size, 4, none⟩ = some (.int .i32 imm) := g1.cell 4 rfl
  have hz := g1.lt
  have B1 : Hid (Below w.heap.size w w1) := ((Below.refl _ _).alloc (Nat.le_refl _) _).trans (hb1.mono (by simp))
  have hbz := B1.out.size
  clear g1 hb1
  obtain ⟨e1, e2, e3, e4, e5⟩ := HF.out
  rw [e1, e2, e3, e4, e5]
  clear e1 e2 e3 e4 e5 ho
  go_wp2
  go_ret2
  unfold EncPost; rw [HR.out]
  exact ⟨rfl, B1.out.alloc hbz _⟩

set_option maxHeartbeats 4000000 in
theorem enc_bad_any (op a b c : Nat) (imm : Int) (A B C I : Bool) (w : World) (ho : op < 256) (hf : fA op = A ∧ fB op = B ∧ fC op = C ∧ fI op = I ∧ fOk op = true) (h : 15 < a ∨ 15 < b ∨ 15 < c) :
    Calls Tryd.prog 18 #[.agg #[.int .u8 op, .int .u8 a, .int .u8 b, .int .u8 c, .int .i32 imm]] w (EncPost ⟨op, a, b, c, imm⟩ w) := by
  have HF := Lib.hid hf
  have HR := Lib.hid (enc_bad (x := ⟨op, a, b, c, imm⟩) HF.out.2.2.2.2 h)
  clear hf
  by_cases ha : 15 < a
  · have ga : (15 : Int) < (a : Int) := by omega
    clear h ha
    go_enter Tryd.func18, Tryd.ntmps18
    go_wp2_with fail
    refine (fields_any op _ ho).mono ?_
    rintro e w1 ⟨rfl, hb1⟩
    have g1 := (Blk.new w 41 #[.int .u8 op, .int .u8 a, .int .u8 b, .int .u8 c, .int .i32 imm]).below hb1 (by simp)
    have q0 : w1.cell? ⟨w.heap.size, 0, none⟩ = some (.int .u8 op) := g1.cell 0 rfl
    have q1 : w1.cell? ⟨w.heap.size, 1, none⟩ = some (.int .u8 a) := g1.cell 1 rfl
    have q2 : w1.cell? ⟨w.heap.size, 2, none⟩ = some (.int .u8 b) := g1.cell 2 rfl
    have q3 : w1.cell? ⟨w.heap.size, 3, none⟩ = some (.int .u8 c) := g1.cell 3 rfl
    have q4 : w1.cell? ⟨w.heap.size, 4, none⟩ = some (.int .i32 imm) := g1.cell 4 rfl
    have hz := g1.lt
    have B1 : Hid (Below w.heap.size w w1) := ((Below.refl _ _).alloc (Nat.le_refl _) _).trans (hb1.mono (by simp))
    have hbz := B1.out.size
    clear g1 hb1
    obtain ⟨e1, e2, e3, e4, e5⟩ := HF.out
    rw [e1, e2, e3, e4, e5]
    clear e1 e2 e3 e4 e5 ho
    go_wp2
    go_ret2
    unfold EncPost; rw [HR.out]
    exact ⟨rfl, B1.out.alloc hbz _⟩
  have ga := regs_ok (a := a) (by omega)
  by_cases hb : 15 < b
  · have gb : (15 : Int) < (b : Int) := by omega
    clear h ha hb
    go_enter Tryd.func18, Tryd.ntmps18
    go_wp2_with fail
    refine (fields_any op _ ho).mono ?_
    rintro e w1 ⟨rfl, hb1⟩
    have g1 := (Blk.new w 41 #[.int .u8 op, .int .u8 a, .int .u8 b, .int .u8 c, .int .i32 imm]).below hb1 (by simp)
    have q0 : w1.cell? ⟨w.heap.size, 0, none⟩ = some (.int .u8 op) := g1.cell 0 rfl
    have q1 : w1.cell? ⟨w.heap.size, 1, none⟩ = some (.int .u8 a) := g1.cell 1 rfl
    have q2 : w1.cell? ⟨w.heap.size, 2, none⟩ = some (.int .u8 b) := g1.cell 2 rfl
    have q3 : w1.cell? ⟨w.heap.size, 3, none⟩ = some (.int .u8 c) := g1.cell 3 rfl
    have q4 : w1.cell? ⟨w.heap.size, 4, none⟩ = some (.int .i32 imm) := g1.cell 4 rfl
    have hz := g1.lt
    have B1 : Hid (Below w.heap.size w w1) := ((Below.refl _ _).alloc (Nat.le_refl _) _).trans (hb1.mono (by simp))
    have hbz := B1.out.size
    clear g1 hb1
    obtain ⟨e1, e2, e3, e4, e5⟩ := HF.out
    rw [e1, e2, e3, e4, e5]
    clear e1 e2 e3 e4 e5 ho
    go_wp2
    go_ret2
    unfold EncPost; rw [HR.out]
    exact ⟨rfl, B1.out.alloc hbz _⟩
  have gb := regs_ok (a := b) (by omega)
  have gc : (15 : Int) < (c : Int) := by omega
  clear h ha hb
  go_enter Tryd.func18, Tryd.ntmps18
  go_wp2_with fail
  refine (fields_any op _ ho).mono ?_
  rintro e w1 ⟨rfl, hb1⟩
  have g1 := (Blk.new w 41 #[.int .u8 op, .int .u8 a, .int .u8 b, .int .u8 c, .int .i32 imm]).below hb1 (by simp)
  have q0 : w1.cell? ⟨w.heap.size, 0, none⟩ = some (.int .u8 op) := g1.cell 0 rfl
  have q1 : w1.cell? ⟨w.heap.size, 1, none⟩ = some (.int .u8 a) := g1.cell 1 rfl
  have q2 : w1.cell? ⟨w.heap.size, 2, none⟩ = some (.int .u8 b) := g1.cell 2 rfl
  have q3 : w1.cell? ⟨w.heap.size, 3, none⟩ = some (.int .u8 c) := g1.cell 3 rfl
  have q4 : w1.cell? ⟨w.heap.size, 4, none⟩ = some (.int .i32 imm) := g1.cell 4 rfl
  have hz := g1.lt
  have B1 : Hid (Below w.heap.size w w1) := ((Below.refl _ _).alloc (Nat.le_refl _) _).trans (hb1.mono (by simp))
  have hbz := B1.out.size
  clear g1 hb1
  obtain ⟨e1, e2, e3, e4, e5⟩ := HF.out
  rw [e1, e2, e3, e4, e5]
  clear e1 e2 e3 e4 e5 ho
  go_wp2
  go_ret2
  unfold EncPost; rw [HR.out]
  exact ⟨rfl, B1.out.alloc hbz _⟩

set_option maxHeartbeats 4000000 in
theorem enc_one_any (op a b c : Nat) (imm : Int) (w : World) (ho : op < 256) (hf : fA op = true ∧ fB op = true ∧ fC op = true ∧ fI op = false ∧ fOk op = true) (ha : a ≤ 15) (hb : b ≤ 15) (hc : c ≤ 15) :
    Calls Tryd.prog 18 #[.agg #[.int .u8 op, .int .u8 a, .int .u8 b, .int .u8 c, .int .i32 imm]] w (EncPost ⟨op, a, b, c, imm⟩ w) := by
  have HF := Lib.hid hf
  have HO := Lib.hid ho
  have HB : Hid (a ≤ 15 ∧ b ≤ 15 ∧ c ≤ 15) := ⟨ha, hb, hc⟩
  have ga := regs_ok ha
  have gb := regs_ok hb
  have gc := regs_ok hc
  have HOP := Lib.hid (show op ≤ 31 by have := hf.2.2.2.2; simp only [fOk, decide_eq_true_eq] at this; exact this.2)
  have hop' : (op : Int) ≤ 31 := by have := HOP.out; omega
  have ha' : (a : Int) ≤ 15 := by omega
  have hb' : (b : Int) ≤ 15 := by omega
  have hc' : (c : Int) ≤ 15 := by omega
  obtain ⟨f1, f2, f3, f4, f5⟩ := hf
  by_cases zimm : imm = 0
  case neg =>
    have HR := Lib.hid (enc_viol (x := ⟨op, a, b, c, imm⟩) f5 HB.out (by simp [viol, f1, f2, f3, f4, zimm]))
    have yimm : (imm != 0) = true := by simp [zimm]
    clear f1 f2 f3 f4 f5 zimm ha hb hc
    go_enter Tryd.func18, Tryd.ntmps18
    go_wp2_with fail
    refine (fields_any op _ ho).mono ?_
    rintro e w1 ⟨rfl, hb1⟩
    have g1 := (Blk.new w 41 #[.int .u8 op, .int .u8 a, .int .u8 b, .int .u8 c, .int .i32 imm]).below hb1 (by simp)
    have q0 : w1.cell? ⟨w.heap.size, 0, none⟩ = some (.int .u8 op) := g1.cell 0 rfl
    have q1 : w1.cell? ⟨w.heap.size, 1, none⟩ = some (.int .u8 a) := g1.cell 1 rfl
    have q2 : w1.cell? ⟨w.heap.size, 2, none⟩ = some (.int .u8 b) := g1.cell 2 rfl
    have q3 : w1.cell? ⟨w.heap.size, 3, none⟩ = some (.int .u8 c) := g1.cell 3 rfl
    have q4 : w1.cell? ⟨w.heap.size, 4, none⟩ = some (.int .i32 imm) := g1.cell 4 rfl
    have hz := g1.lt
    have B1 : Hid (Below w.heap.size w w1) := ((Below.refl _ _).alloc (Nat.le_refl _) _).trans (hb1.mono (by simp))
    have hbz := B1.out.size
    clear g1 hb1
    obtain ⟨e1, e2, e3, e4, e5⟩ := HF.out
    rw [e1, e2, e3, e4, e5]
    clear e1 e2 e3 e4 e5 ho
    go_wp2
    go_ret2
    unfold EncPost; rw [HR.out]
    exact ⟨rfl, B1.out.alloc hbz _⟩
  have yimm : (imm != 0) = false := by simp [zimm]
  have HV := Lib.hid (show viol ⟨op, a, b, c, imm⟩ = false by simp [viol, f1, f2, f3, f4, zimm])
  have HR := Lib.hid (enc_good (x := ⟨op, a, b, c, imm⟩) f5 HB.out HV.out (Or.inl f4))
  have HW := Lib.hid (enc_word op a b c imm HOP.out HB.out.1 HB.out.2.1 HB.out.2.2 (Or.inr zimm))
  clear f1 f2 f3 f4 f5 zimm ha hb hc
  go_enter Tryd.func18, Tryd.ntmps18
  go_wp2_with fail
  refine (fields_any op _ ho).mono ?_
  rintro e w1 ⟨rfl, hb1⟩
  have g1 := (Blk.new w 41 #[.int .u8 op, .int .u8 a, .int .u8 b, .int .u8 c, .int .i32 imm]).below hb1 (by simp)
  have q0 : w1.cell? ⟨w.heap.size, 0, none⟩ = some (.int .u8 op) := g1.cell 0 rfl
  have q1 : w1.cell? ⟨w.heap.size, 1, none⟩ = some (.int .u8 a) := g1.cell 1 rfl
  have q2 : w1.cell? ⟨w.heap.size, 2, none⟩ = some (.int .u8 b) := g1.cell 2 rfl
  have q3 : w1.cell? ⟨w.heap.size, 3, none⟩ = some (.int .u8 c) := g1.cell 3 rfl
  have q4 : w1.cell? ⟨w.heap.size, 4, none⟩ = some (.int .i32 imm) := g1.cell 4 rfl
  have hz := g1.lt
  have B1 : Hid (Below w.heap.size w w1) := ((Below.refl _ _).alloc (Nat.le_refl _) _).trans (hb1.mono (by simp))
  have hbz := B1.out.size
  clear g1 hb1
  obtain ⟨e1, e2, e3, e4, e5⟩ := HF.out
  rw [e1, e2, e3, e4, e5]
  clear e1 e2 e3 e4 e5 ho
  go_wp2
  go_ret2
  unfold EncPost; rw [HR.out]
  exact ⟨congrArg (fun z => Ending.returned (.tuple #[.int .u32 z, .int .i64 0])) HW.out, B1.out.alloc hbz _⟩

set_option maxHeartbeats 4000000 in
theorem enc_two_any (op a b c : Nat) (imm : Int) (w : World) (ho : op < 256) (hf : fA op = true ∧ fB op = true ∧ fC op = false ∧ fI op = true ∧ fOk op = true) (ha : a ≤ 15) (hb : b ≤ 15) (hc : c ≤ 15) :
    Calls Tryd.prog 18 #[.agg #[.int .u8 op, .int .u8 a, .int .u8 b, .int .u8 c, .int .i32 imm]] w (EncPost ⟨op, a, b, c, imm⟩ w) := by
  have HF := Lib.hid hf
  have HO := Lib.hid ho
  have HB : Hid (a ≤ 15 ∧ b ≤ 15 ∧ c ≤ 15) := ⟨ha, hb, hc⟩
  have ga := regs_ok ha
  have gb := regs_ok hb
  have gc := regs_ok hc
  have HOP := Lib.hid (show op ≤ 31 by have := hf.2.2.2.2; simp only [fOk, decide_eq_true_eq] at this; exact this.2)
  have hop' : (op : Int) ≤ 31 := by have := HOP.out; omega
  have ha' : (a : Int) ≤ 15 := by omega
  have hb' : (b : Int) ≤ 15 := by omega
  have hc' : (c : Int) ≤ 15 := by omega
  obtain ⟨f1, f2, f3, f4, f5⟩ := hf
  by_cases zc : c = 0
  case neg =>
    have HR := Lib.hid (enc_viol (x := ⟨op, a, b, c, imm⟩) f5 HB.out (by simp [viol, f1, f2, f3, f4, zc]))
    have yc : ((c : Int) != 0) = true := by simp [zc]
    clear f1 f2 f3 f4 f5 zc ha hb hc
    go_enter Tryd.func18, Tryd.ntmps18
    go_wp2_with fail
    refine (fields_any op _ ho).mono ?_
    rintro e w1 ⟨rfl, hb1⟩
    have g1 := (Blk.new w 41 #[.int .u8 op, .int .u8 a, .int .u8 b, .int .u8 c, .int .i32 imm]).below hb1 (by simp)
    have q0 : w1.cell? ⟨w.heap.size, 0, none⟩ = some (.int .u8 op) := g1.cell 0 rfl
    have q1 : w1.cell? ⟨w.heap.size, 1, none⟩ = some (.int .u8 a) := g1.cell 1 rfl
    have q2 : w1.cell? ⟨w.heap.size, 2, none⟩ = some (.int .u8 b) := g1.cell 2 rfl
    have q3 : w1.cell? ⟨w.heap.size, 3, none⟩ = some (.int .u8 c) := g1.cell 3 rfl
    have q4 : w1.cell? ⟨w.heap.size, 4, none⟩ = some (.int .i32 imm) := g1.cell 4 rfl
    have hz := g1.lt
    have B1 : Hid (Below w.heap.size w w1) := ((Below.refl _ _).alloc (Nat.le_refl _) _).trans (hb1.mono (by simp))
    have hbz := B1.out.size
    clear g1 hb1
    obtain ⟨e1, e2, e3, e4, e5⟩ := HF.out
    rw [e1, e2, e3, e4, e5]
    clear e1 e2 e3 e4 e5 ho
    go_wp2
    go_ret2
    unfold EncPost; rw [HR.out]
    exact ⟨rfl, B1.out.alloc hbz _⟩
  have yc : ((c : Int) != 0) = false := by simp [zc]
  have HV := Lib.hid (show viol ⟨op, a, b, c, imm⟩ = false by simp [viol, f1, f2, f3, f4, zc])
  have HC0 : Hid (c = 0 ∨ imm = 0) := Or.inl zc
  cases hfit : fits op imm with
  | false =>
    have HR := Lib.hid (enc_range (x := ⟨op, a, b, c, imm⟩) f5 HB.out HV.out f4 hfit)
    have HFIT := Lib.hid hfit
    clear f1 f2 f3 f4 f5 zc ha hb hc hfit
    go_enter Tryd.func18, Tryd.ntmps18
    go_wp2_with fail
    refine (fields_any op _ ho).mono ?_
    rintro e w1 ⟨rfl, hb1⟩
    have g1 := (Blk.new w 41 #[.int .u8 op, .int .u8 a, .int .u8 b, .int .u8 c, .int .i32 imm]).below hb1 (by simp)
    have q0 : w1.cell? ⟨w.heap.size, 0, none⟩ = some (.int .u8 op) := g1.cell 0 rfl
    have q1 : w1.cell? ⟨w.heap.size, 1, none⟩ = some (.int .u8 a) := g1.cell 1 rfl
    have q2 : w1.cell? ⟨w.heap.size, 2, none⟩ = some (.int .u8 b) := g1.cell 2 rfl
    have q3 : w1.cell? ⟨w.heap.size, 3, none⟩ = some (.int .u8 c) := g1.cell 3 rfl
    have q4 : w1.cell? ⟨w.heap.size, 4, none⟩ = some (.int .i32 imm) := g1.cell 4 rfl
    have hz := g1.lt
    have B1 : Hid (Below w.heap.size w w1) := ((Below.refl _ _).alloc (Nat.le_refl _) _).trans (hb1.mono (by simp))
    have hbz := B1.out.size
    clear g1 hb1
    obtain ⟨e1, e2, e3, e4, e5⟩ := HF.out
    rw [e1, e2, e3, e4, e5]
    clear e1 e2 e3 e4 e5 ho
    go_wp2_with fail
    refine (fits_any op imm _ HO.out).mono ?_
    rintro e w' ⟨rfl, rfl⟩
    rw [HFIT.out]
    go_wp2
    go_ret2
    unfold EncPost; rw [HR.out]
    exact ⟨rfl, B1.out.alloc hbz _⟩
  | true =>
    have HR := Lib.hid (enc_good (x := ⟨op, a, b, c, imm⟩) f5 HB.out HV.out (Or.inr hfit))
    have HW := Lib.hid (enc_word op a b c imm HOP.out HB.out.1 HB.out.2.1 HB.out.2.2 HC0.out)
    have HFIT := Lib.hid hfit
    clear f1 f2 f3 f4 f5 zc ha hb hc hfit
    go_enter Tryd.func18, Tryd.ntmps18
    go_wp2_with fail
    refine (fields_any op _ ho).mono ?_
    rintro e w1 ⟨rfl, hb1⟩
    have g1 := (Blk.new w 41 #[.int .u8 op, .int .u8 a, .int .u8 b, .int .u8 c, .int .i32 imm]).below hb1 (by simp)
    have q0 : w1.cell? ⟨w.heap.size, 0, none⟩ = some (.int .u8 op) := g1.cell 0 rfl
    have q1 : w1.cell? ⟨w.heap.size, 1, none⟩ = some (.int .u8 a) := g1.cell 1 rfl
    have q2 : w1.cell? ⟨w.heap.size, 2, none⟩ = some (.int .u8 b) := g1.cell 2 rfl
    have q3 : w1.cell? ⟨w.heap.size, 3, none⟩ = some (.int .u8 c) := g1.cell 3 rfl
    have q4 : w1.cell? ⟨w.heap.size, 4, none⟩ = some (.int .i32 imm) := g1.cell 4 rfl
    have hz := g1.lt
    have B1 : Hid (Below w.heap.size w w1) := ((Below.refl _ _).alloc (Nat.le_refl _) _).trans (hb1.mono (by simp))
    have hbz := B1.out.size
    clear g1 hb1
    obtain ⟨e1, e2, e3, e4, e5⟩ := HF.out
    rw [e1, e2, e3, e4, e5]
    clear e1 e2 e3 e4 e5 ho
    go_wp2_with fail
    refine (fits_any op imm _ HO.out).mono ?_
    rintro e w' ⟨rfl, rfl⟩
    rw [HFIT.out]
    go_wp2
    go_ret2
    unfold EncPost; rw [HR.out]
    exact ⟨congrArg (fun z => Ending.returned (.tuple #[.int .u32 z, .int .i64 0])) HW.out, B1.out.alloc hbz _⟩

set_option maxHeartbeats 4000000 in
theorem enc_three_any (op a b c : Nat) (imm : Int) (w : World) (ho : op < 256) (hf : fA op = true ∧ fB op = false ∧ fC op = false ∧ fI op = true ∧ fOk op = true) (ha : a ≤ 15) (hb : b ≤ 15) (hc : c ≤ 15) :
    Calls Tryd.prog 18 #[.agg #[.int .u8 op, .int .u8 a, .int .u8 b, .int .u8 c, .int .i32 imm]] w (EncPost ⟨op, a, b, c, imm⟩ w) := by
  have HF := Lib.hid hf
  have HO := Lib.hid ho
  have HB : Hid (a ≤ 15 ∧ b ≤ 15 ∧ c ≤ 15) := ⟨ha, hb, hc⟩
  have ga := regs_ok ha
  have gb := regs_ok hb
  have gc := regs_ok hc
  have HOP := Lib.hid (show op ≤ 31 by have := hf.2.2.2.2; simp only [fOk, decide_eq_true_eq] at this; exact this.2)
  have hop' : (op : Int) ≤ 31 := by have := HOP.out; omega
  have ha' : (a : Int) ≤ 15 := by omega
  have hb' : (b : Int) ≤ 15 := by omega
  have hc' : (c : Int) ≤ 15 := by omega
  obtain ⟨f1, f2, f3, f4, f5⟩ := hf
  by_cases zb : b = 0
  case neg =>
    have HR := Lib.hid (enc_viol (x := ⟨op, a, b, c, imm⟩) f5 HB.out (by simp [viol, f1, f2, f3, f4, zb]))
    have yb : ((b : Int) != 0) = true := by simp [zb]
    clear f1 f2 f3 f4 f5 zb ha hb hc
    go_enter Tryd.func18, Tryd.ntmps18
    go_wp2_with fail
    refine (fields_any op _ ho).mono ?_
    rintro e w1 ⟨rfl, hb1⟩
    have g1 := (Blk.new w 41 #[.int .u8 op, .int .u8 a, .int .u8 b, .int .u8 c, .int .i32 imm]).below hb1 (by simp)
    have q0 : w1.cell? ⟨w.heap.size, 0, none⟩ = some (.int .u8 op) := g1.cell 0 rfl
    have q1 : w1.cell? ⟨w.heap.size, 1, none⟩ = some (.int .u8 a) := g1.cell 1 rfl
    have q2 : w1.cell? ⟨w.heap.size, 2, none⟩ = some (.int .u8 b) := g1.cell 2 rfl
    have q3 : w1.cell? ⟨w.heap.size, 3, none⟩ = some (.int .u8 c) := g1.cell 3 rfl
    have q4 : w1.cell? ⟨w.heap.size, 4, none⟩ = some (.int .i32 imm) := g1.cell 4 rfl
    have hz := g1.lt
    have B1 : Hid (Below w.heap.size w w1) := ((Below.refl _ _).alloc (Nat.le_refl _) _).trans (hb1.mono (by simp))
    have hbz := B1.out.size
    clear g1 hb1
    obtain ⟨e1, e2, e3, e4, e5⟩ := HF.out
    rw [e1, e2, e3, e4, e5]
    clear e1 e2 e3 e4 e5 ho
    go_wp2
    go_ret2
    unfold EncPost; rw [HR.out]
    exact ⟨rfl, B1.out.alloc hbz _⟩
  have yb : ((b : Int) != 0) = false := by simp [zb]
  by_cases zc : c = 0
  case neg =>
    have HR := Lib.hid (enc_viol (x := ⟨op, a, b, c, imm⟩) f5 HB.out (by simp [viol, f1, f2, f3, f4, zc]))
    have yc : ((c : Int) != 0) = true := by simp [zc]
    clear f1 f2 f3 f4 f5 zc ha hb hc zb
    go_enter Tryd.func18, Tryd.ntmps18
    go_wp2_with fail
    refine (fields_any op _ ho).mono ?_
    rintro e w1 ⟨rfl, hb1⟩
    have g1 := (Blk.new w 41 #[.int .u8 op, .int .u8 a, .int .u8 b, .int .u8 c, .int .i32 imm]).below hb1 (by simp)
    have q0 : w1.cell? ⟨w.heap.size, 0, none⟩ = some (.int .u8 op) := g1.cell 0 rfl
    have q1 : w1.cell? ⟨w.heap.size, 1, none⟩ = some (.int .u8 a) := g1.cell 1 rfl
    have q2 : w1.cell? ⟨w.heap.size, 2, none⟩ = some (.int .u8 b) := g1.cell 2 rfl
    have q3 : w1.cell? ⟨w.heap.size, 3, none⟩ = some (.int .u8 c) := g1.cell 3 rfl
    have q4 : w1.cell? ⟨w.heap.size, 4, none⟩ = some (.int .i32 imm) := g1.cell 4 rfl
    have hz := g1.lt
    have B1 : Hid (Below w.heap.size w w1) := ((Below.refl _ _).alloc (Nat.le_refl _) _).trans (hb1.mono (by simp))
    have hbz := B1.out.size
    clear g1 hb1
    obtain ⟨e1, e2, e3, e4, e5⟩ := HF.out
    rw [e1, e2, e3, e4, e5]
    clear e1 e2 e3 e4 e5 ho
    go_wp2
    go_ret2
    unfold EncPost; rw [HR.out]
    exact ⟨rfl, B1.out.alloc hbz _⟩
  have yc : ((c : Int) != 0) = false := by simp [zc]
  have HV := Lib.hid (show viol ⟨op, a, b, c, imm⟩ = false by simp [viol, f1, f2, f3, f4, zb, zc])
  have HC0 : Hid (c = 0 ∨ imm = 0) := Or.inl zc
  cases hfit : fits op imm with
  | false =>
    have HR := Lib.hid (enc_range (x := ⟨op, a, b, c, imm⟩) f5 HB.out HV.out f4 hfit)
    have HFIT := Lib.hid hfit
    clear f1 f2 f3 f4 f5 zb zc ha hb hc hfit
    go_enter Tryd.func18, Tryd.ntmps18
    go_wp2_with fail
    refine (fields_any op _ ho).mono ?_
    rintro e w1 ⟨rfl, hb1⟩
    have g1 := (Blk.new w 41 #[.int .u8 op, .int .u8 a, .int .u8 b, .int .u8 c, .int .i32 imm]).below hb1 (by simp)
    have q0 : w1.cell? ⟨w.heap.size, 0, none⟩ = some (.int .u8 op) := g1.cell 0 rfl
    have q1 : w1.cell? ⟨w.heap.size, 1, none⟩ = some (.int .u8 a) := g1.cell 1 rfl
    have q2 : w1.cell? ⟨w.heap.size, 2, none⟩ = some (.int .u8 b) := g1.cell 2 rfl
    have q3 : w1.cell? ⟨w.heap.size, 3, none⟩ = some (.int .u8 c) := g1.cell 3 rfl
    have q4 : w1.cell? ⟨w.heap.size, 4, none⟩ = some (.int .i32 imm) := g1.cell 4 rfl
    have hz := g1.lt
    have B1 : Hid (Below w.heap.size w w1) := ((Below.refl _ _).alloc (Nat.le_refl _) _).trans (hb1.mono (by simp))
    have hbz := B1.out.size
    clear g1 hb1
    obtain ⟨e1, e2, e3, e4, e5⟩ := HF.out
    rw [e1, e2, e3, e4, e5]
    clear e1 e2 e3 e4 e5 ho
    go_wp2_with fail
    refine (fits_any op imm _ HO.out).mono ?_
    rintro e w' ⟨rfl, rfl⟩
    rw [HFIT.out]
    go_wp2
    go_ret2
    unfold EncPost; rw [HR.out]
    exact ⟨rfl, B1.out.alloc hbz _⟩
  | true =>
    have HR := Lib.hid (enc_good (x := ⟨op, a, b, c, imm⟩) f5 HB.out HV.out (Or.inr hfit))
    have HW := Lib.hid (enc_word op a b c imm HOP.out HB.out.1 HB.out.2.1 HB.out.2.2 HC0.out)
    have HFIT := Lib.hid hfit
    clear f1 f2 f3 f4 f5 zb zc ha hb hc hfit
    go_enter Tryd.func18, Tryd.ntmps18
    go_wp2_with fail
    refine (fields_any op _ ho).mono ?_
    rintro e w1 ⟨rfl, hb1⟩
    have g1 := (Blk.new w 41 #[.int .u8 op, .int .u8 a, .int .u8 b, .int .u8 c, .int .i32 imm]).below hb1 (by simp)
    have q0 : w1.cell? ⟨w.heap.size, 0, none⟩ = some (.int .u8 op) := g1.cell 0 rfl
    have q1 : w1.cell? ⟨w.heap.size, 1, none⟩ = some (.int .u8 a) := g1.cell 1 rfl
    have q2 : w1.cell? ⟨w.heap.size, 2, none⟩ = some (.int .u8 b) := g1.cell 2 rfl
    have q3 : w1.cell? ⟨w.heap.size, 3, none⟩ = some (.int .u8 c) := g1.cell 3 rfl
    have q4 : w1.cell? ⟨w.heap.size, 4, none⟩ = some (.int .i32 imm) := g1.cell 4 rfl
    have hz := g1.lt
    have B1 : Hid (Below w.heap.size w w1) := ((Below.refl _ _).alloc (Nat.le_refl _) _).trans (hb1.mono (by simp))
    have hbz := B1.out.size
    clear g1 hb1
    obtain ⟨e1, e2, e3, e4, e5⟩ := HF.out
    rw [e1, e2, e3, e4, e5]
    clear e1 e2 e3 e4 e5 ho
    go_wp2_with fail
    refine (fits_any op imm _ HO.out).mono ?_
    rintro e w' ⟨rfl, rfl⟩
    rw [HFIT.out]
    go_wp2
    go_ret2
    unfold EncPost; rw [HR.out]
    exact ⟨congrArg (fun z => Ending.returned (.tuple #[.int .u32 z, .int .i64 0])) HW.out, B1.out.alloc hbz _⟩

set_option maxHeartbeats 4000000 in
theorem enc_sys_any (op a b c : Nat) (imm : Int) (w : World) (ho : op < 256) (hf : fA op = false ∧ fB op = false ∧ fC op = false ∧ fI op = true ∧ fOk op = true) (ha : a ≤ 15) (hb : b ≤ 15) (hc : c ≤ 15) :
    Calls Tryd.prog 18 #[.agg #[.int .u8 op, .int .u8 a, .int .u8 b, .int .u8 c, .int .i32 imm]] w (EncPost ⟨op, a, b, c, imm⟩ w) := by
  have HF := Lib.hid hf
  have HO := Lib.hid ho
  have HB : Hid (a ≤ 15 ∧ b ≤ 15 ∧ c ≤ 15) := ⟨ha, hb, hc⟩
  have ga := regs_ok ha
  have gb := regs_ok hb
  have gc := regs_ok hc
  have HOP := Lib.hid (show op ≤ 31 by have := hf.2.2.2.2; simp only [fOk, decide_eq_true_eq] at this; exact this.2)
  have hop' : (op : Int) ≤ 31 := by have := HOP.out; omega
  have ha' : (a : Int) ≤ 15 := by omega
  have hb' : (b : Int) ≤ 15 := by omega
  have hc' : (c : Int) ≤ 15 := by omega
  obtain ⟨f1, f2, f3, f4, f5⟩ := hf
  by_cases za : a = 0
  case neg =>
    have HR := Lib.hid (enc_viol (x := ⟨op, a, b, c, imm⟩) f5 HB.out (by simp [viol, f1, f2, f3, f4, za]))
    have ya : ((a : Int) != 0) = true := by simp [za]
    clear f1 f2 f3 f4 f5 za ha hb hc
    go_enter Tryd.func18, Tryd.ntmps18
    go_wp2_with fail
    refine (fields_any op _ ho).mono ?_
    rintro e w1 ⟨rfl, hb1⟩
    have g1 := (Blk.new w 41 #[.int .u8 op, .int .u8 a, .int .u8 b, .int .u8 c, .int .i32 imm]).below hb1 (by simp)
    have q0 : w1.cell? ⟨w.heap.size, 0, none⟩ = some (.int .u8 op) := g1.cell 0 rfl
    have q1 : w1.cell? ⟨w.heap.size, 1, none⟩ = some (.int .u8 a) := g1.cell 1 rfl
    have q2 : w1.cell? ⟨w.heap.size, 2, none⟩ = some (.int .u8 b) := g1.cell 2 rfl
    have q3 : w1.cell? ⟨w.heap.size, 3, none⟩ = some (.int .u8 c) := g1.cell 3 rfl
    have q4 : w1.cell? ⟨w.heap.size, 4, none⟩ = some (.int .i32 imm) := g1.cell 4 rfl
    have hz := g1.lt
    have B1 : Hid (Below w.heap.size w w1) := ((Below.refl _ _).alloc (Nat.le_refl _) _).trans (hb1.mono (by simp))
    have hbz := B1.out.size
    clear g1 hb1
    obtain ⟨e1, e2, e3, e4, e5⟩ := HF.out
    rw [e1, e2, e3, e4, e5]
    clear e1 e2 e3 e4 e5 ho
    go_wp2
    go_ret2
    unfold EncPost; rw [HR.out]
    exact ⟨rfl, B1.out.alloc hbz _⟩
  have ya : ((a : Int) != 0) = false := by simp [za]
  by_cases zb : b = 0
  case neg =>
    have HR := Lib.hid (enc_viol (x := ⟨op, a, b, c, imm⟩) f5 HB.out (by simp [viol, f1, f2, f3, f4, zb]))
    have yb : ((b : Int) != 0) = true := by simp [zb]
    clear f1 f2 f3 f4 f5 zb ha hb hc za
    go_enter Tryd.func18, Tryd.ntmps18
    go_wp2_with fail
    refine (fields_any op _ ho).mono ?_
    rintro e w1 ⟨rfl, hb1⟩
    have g1 := (Blk.new w 41 #[.int .u8 op, .int .u8 a, .int .u8 b, .int .u8 c, .int .i32 imm]).below hb1 (by simp)
    have q0 : w1.cell? ⟨w.heap.size, 0, none⟩ = some (.int .u8 op) := g1.cell 0 rfl
    have q1 : w1.cell? ⟨w.heap.size, 1, none⟩ = some (.int .u8 a) := g1.cell 1 rfl
    have q2 : w1.cell? ⟨w.heap.size, 2, none⟩ = some (.int .u8 b) := g1.cell 2 rfl
    have q3 : w1.cell? ⟨w.heap.size, 3, none⟩ = some (.int .u8 c) := g1.cell 3 rfl
    have q4 : w1.cell? ⟨w.heap.size, 4, none⟩ = some (.int .i32 imm) := g1.cell 4 rfl
    have hz := g1.lt
    have B1 : Hid (Below w.heap.size w w1) := ((Below.refl _ _).alloc (Nat.le_refl _) _).trans (hb1.mono (by simp))
    have hbz := B1.out.size
    clear g1 hb1
    obtain ⟨e1, e2, e3, e4, e5⟩ := HF.out
    rw [e1, e2, e3, e4, e5]
    clear e1 e2 e3 e4 e5 ho
    go_wp2
    go_ret2
    unfold EncPost; rw [HR.out]
    exact ⟨rfl, B1.out.alloc hbz _⟩
  have yb : ((b : Int) != 0) = false := by simp [zb]
  by_cases zc : c = 0
  case neg =>
    have HR := Lib.hid (enc_viol (x := ⟨op, a, b, c, imm⟩) f5 HB.out (by simp [viol, f1, f2, f3, f4, zc]))
    have yc : ((c : Int) != 0) = true := by simp [zc]
    clear f1 f2 f3 f4 f5 zc ha hb hc za zb
    go_enter Tryd.func18, Tryd.ntmps18
    go_wp2_with fail
    refine (fields_any op _ ho).mono ?_
    rintro e w1 ⟨rfl, hb1⟩
    have g1 := (Blk.new w 41 #[.int .u8 op, .int .u8 a, .int .u8 b, .int .u8 c, .int .i32 imm]).below hb1 (by simp)
    have q0 : w1.cell? ⟨w.heap.size, 0, none⟩ = some (.int .u8 op) := g1.cell 0 rfl
    have q1 : w1.cell? ⟨w.heap.size, 1, none⟩ = some (.int .u8 a) := g1.cell 1 rfl
    have q2 : w1.cell? ⟨w.heap.size, 2, none⟩ = some (.int .u8 b) := g1.cell 2 rfl
    have q3 : w1.cell? ⟨w.heap.size, 3, none⟩ = some (.int .u8 c) := g1.cell 3 rfl
    have q4 : w1.cell? ⟨w.heap.size, 4, none⟩ = some (.int .i32 imm) := g1.cell 4 rfl
    have hz := g1.lt
    have B1 : Hid (Below w.heap.size w w1) := ((Below.refl _ _).alloc (Nat.le_refl _) _).trans (hb1.mono (by simp))
    have hbz := B1.out.size
    clear g1 hb1
    obtain ⟨e1, e2, e3, e4, e5⟩ := HF.out
    rw [e1, e2, e3, e4, e5]
    clear e1 e2 e3 e4 e5 ho
    go_wp2
    go_ret2
    unfold EncPost; rw [HR.out]
    exact ⟨rfl, B1.out.alloc hbz _⟩
  have yc : ((c : Int) != 0) = false := by simp [zc]
  have HV := Lib.hid (show viol ⟨op, a, b, c, imm⟩ = false by simp [viol, f1, f2, f3, f4, za, zb, zc])
  have HC0 : Hid (c = 0 ∨ imm = 0) := Or.inl zc
  cases hfit : fits op imm with
  | false =>
    have HR := Lib.hid (enc_range (x := ⟨op, a, b, c, imm⟩) f5 HB.out HV.out f4 hfit)
    have HFIT := Lib.hid hfit
    clear f1 f2 f3 f4 f5 za zb zc ha hb hc hfit
    go_enter Tryd.func18, Tryd.ntmps18
    go_wp2_with fail
    refine (fields_any op _ ho).mono ?_
    rintro e w1 ⟨rfl, hb1⟩
    have g1 := (Blk.new w 41 #[.int .u8 op, .int .u8 a, .int .u8 b, .int .u8 c, .int .i32 imm]).below hb1 (by simp)
    have q0 : w1.cell? ⟨w.heap.size, 0, none⟩ = some (.int .u8 op) := g1.cell 0 rfl
    have q1 : w1.cell? ⟨w.heap.size, 1, none⟩ = some (.int .u8 a) := g1.cell 1 rfl
    have q2 : w1.cell? ⟨w.heap.size, 2, none⟩ = some (.int .u8 b) := g1.cell 2 rfl
    have q3 : w1.cell? ⟨w.heap.size, 3, none⟩ = some (.int .u8 c) := g1.cell 3 rfl
    have q4 : w1.cell? ⟨w.heap.size, 4, none⟩ = some (.int .i32 imm) := g1.cell 4 rfl
    have hz := g1.lt
    have B1 : Hid (Below w.heap.size w w1) := ((Below.refl _ _).alloc (Nat.le_refl _) _).trans (hb1.mono (by simp))
    have hbz := B1.out.size
    clear g1 hb1
    obtain ⟨e1, e2, e3, e4, e5⟩ := HF.out
    rw [e1, e2, e3, e4, e5]
    clear e1 e2 e3 e4 e5 ho
    go_wp2_with fail
    refine (fits_any op imm _ HO.out).mono ?_
    rintro e w' ⟨rfl, rfl⟩
    rw [HFIT.out]
    go_wp2
    go_ret2
    unfold EncPost; rw [HR.out]
    exact ⟨rfl, B1.out.alloc hbz _⟩
  | true =>
    have HR := Lib.hid (enc_good (x := ⟨op, a, b, c, imm⟩) f5 HB.out HV.out (Or.inr hfit))
    have HW := Lib.hid (enc_word op a b c imm HOP.out HB.out.1 HB.out.2.1 HB.out.2.2 HC0.out)
    have HFIT := Lib.hid hfit
    clear f1 f2 f3 f4 f5 za zb zc ha hb hc hfit
    go_enter Tryd.func18, Tryd.ntmps18
    go_wp2_with fail
    refine (fields_any op _ ho).mono ?_
    rintro e w1 ⟨rfl, hb1⟩
    have g1 := (Blk.new w 41 #[.int .u8 op, .int .u8 a, .int .u8 b, .int .u8 c, .int .i32 imm]).below hb1 (by simp)
    have q0 : w1.cell? ⟨w.heap.size, 0, none⟩ = some (.int .u8 op) := g1.cell 0 rfl
    have q1 : w1.cell? ⟨w.heap.size, 1, none⟩ = some (.int .u8 a) := g1.cell 1 rfl
    have q2 : w1.cell? ⟨w.heap.size, 2, none⟩ = some (.int .u8 b) := g1.cell 2 rfl
    have q3 : w1.cell? ⟨w.heap.size, 3, none⟩ = some (.int .u8 c) := g1.cell 3 rfl
    have q4 : w1.cell? ⟨w.heap.size, 4, none⟩ = some (.int .i32 imm) := g1.cell 4 rfl
    have hz := g1.lt
    have B1 : Hid (Below w.heap.size w w1) := ((Below.refl _ _).alloc (Nat.le_refl _) _).trans (hb1.mono (by simp))
    have hbz := B1.out.size
    clear g1 hb1
    obtain ⟨e1, e2, e3, e4, e5⟩ := HF.out
    rw [e1, e2, e3, e4, e5]
    clear e1 e2 e3 e4 e5 ho
    go_wp2_with fail
    refine (fits_any op imm _ HO.out).mono ?_
    rintro e w' ⟨rfl, rfl⟩
    rw [HFIT.out]
    go_wp2
    go_ret2
    unfold EncPost; rw [HR.out]
    exact ⟨congrArg (fun z => Ending.returned (.tuple #[.int .u32 z, .int .i64 0])) HW.out, B1.out.alloc hbz _⟩

theorem enc_any (x : Ins) (w : World) (ho : x.op < 256) : Calls Tryd.prog 18 #[.agg #[.int .u8 x.op, .int .u8 x.a, .int .u8 x.b, .int .u8 x.c, .int .i32 x.imm]] w (EncPost x w) := by
  obtain ⟨op, a, b, c, imm⟩ := x
  show Calls Tryd.prog 18 #[.agg #[.int .u8 op, .int .u8 a, .int .u8 b, .int .u8 c, .int .i32 imm]] w (EncPost ⟨op, a, b, c, imm⟩ w)
  have ho : op < 256 := ho
  by_cases h1 : op < 1 ∨ 31 < op
  · exact enc_none_any op a b c imm w ho h1
  have cls : ∃ A B C I, fA op = A ∧ fB op = B ∧ fC op = C ∧ fI op = I ∧ fOk op = true := ⟨_, _, _, _, rfl, rfl, rfl, rfl, by simp only [fOk, decide_eq_true_eq]; omega⟩
  by_cases h2 : 15 < a ∨ 15 < b ∨ 15 < c
  · obtain ⟨A, B, C, I, hf⟩ := cls
    exact enc_bad_any op a b c imm A B C I w ho hf h2
  by_cases h3 : op ≤ 13
  · exact enc_one_any op a b c imm w ho (f_one (by omega) h3) (by omega) (by omega) (by omega)
  by_cases h4 : op = 19 ∨ op = 29
  · exact enc_three_any op a b c imm w ho (f_three h4) (by omega) (by omega) (by omega)
  by_cases h5 : op = 31
  · subst h5; exact enc_sys_any 31 a b c imm w ho f_sys (by omega) (by omega) (by omega)
  · exact enc_two_any op a b c imm w ho (f_two (by omega) (by omega) (by omega) (by omega)) (by omega) (by omega) (by omega)
end Go.Proofs.YtcjakmnplkeldaaDoor
