/-
  What isa.Dec computes.
-/
import Derived.Test.YtcjakmnplkeldaaDoorEnc
import Derived.Test.YtcjakmnplkeldaaDoorResults
namespace Go.Proofs.YtcjakmnplkeldaaDoor
open Go.RowKit
set_option linter.unusedVariables false
set_option linter.unusedSimpArgs false

def sx16 (n : Nat) : Int := if n < 32768 then n else (n : Int) - 65536
def decX (w : Nat) : Ins :=
  ⟨w / 67108864, w / 4194304 % 16, w / 262144 % 16, if fC (w / 67108864) = true then w / 16384 % 16 else 0,
    if fI (w / 67108864) = true then (if fU (w / 67108864) = true then (w % 65536 : Nat) else sx16 (w % 65536)) else 0⟩
def decR (w : Nat) : Option Ins :=
  if fOk (w / 67108864) = false then none
  else if encR (decX w) = (w, 0) then some (decX w) else none
def insE (x : Ins) : Value := .agg #[.int .u8 x.op, .int .u8 x.a, .int .u8 x.b, .int .u8 x.c, .int .i32 x.imm]
def decE : Option Ins → Ending
  | some x => .returned (.tuple #[insE x, .bool true])
  | none => .returned (.tuple #[insE ⟨0, 0, 0, 0, 0⟩, .bool false])
def DecPost (n : Nat) (w : World) (e : Ending) (w' : World) : Prop := e = decE (decR n) ∧ Below w.heap.size w w'

theorem u32_and15 (z : Int) (h0 : 0 ≤ z) (h : z < 4294967296) : bits .and .u32 z 15 = z % 16 := by
  rw [u32_and _ _ (by omega) (by omega) (by omega) (by omega)]
  rw [show (15 : Int).toNat = 2 ^ 4 - 1 by rfl, Nat.and_two_pow_sub_one_eq_mod]
  omega
theorem u32_and65535 (z : Int) (h0 : 0 ≤ z) (h : z < 4294967296) : bits .and .u32 z 65535 = z % 65536 := by
  rw [u32_and _ _ (by omega) (by omega) (by omega) (by omega)]
  rw [show (65535 : Int).toNat = 2 ^ 16 - 1 by rfl, Nat.and_two_pow_sub_one_eq_mod]
  omega

theorem u32_is : (Tryd.prog.underlying 22).isSome = true := by rw [Tryd.underlying22]; rfl
theorem i16_kind : Tryd.prog.intKind 56 = .i16 := by kernel_rfl
theorem wrap16 (m : Nat) (h : m < 65536) : IntKind.i16.wrap (m : Int) = sx16 m := by
  simp [IntKind.wrap, IntKind.bits, IntKind.signed, sx16]; omega

set_option maxHeartbeats 1000000 in
theorem dec_none_any (n : Nat) (w : World) (hn : n < 4294967296) (h : n / 67108864 < 1 ∨ 31 < n / 67108864) :
    Calls Tryd.prog 23 #[.int .u32 n] w (DecPost n w) := by
  have HF := Lib.hid (f_none h)
  have HR := Lib.hid (show decR n = none by unfold decR; rw [if_pos HF.out.2.2.2.2])
  have hn' : (n : Int) < 4294967296 := by omega
  obtain ⟨op, hop⟩ : ∃ op : Nat, n / 67108864 = op := ⟨_, rfl⟩
  rw [hop] at HF
  have hop' : (n : Int) / 67108864 = (op : Int) := by omega
  have HO := Lib.hid (show op < 256 by omega)
  have hol : (op : Int) < 256 := by omega
  clear h hn hop
  go_enter Tryd.func23, Tryd.ntmps23
  go_wp2_with fail
  refine (fields_any op _ HO.out).mono ?_
  rintro e w1 ⟨rfl, hb1⟩
  have B1 : Hid (Below w.heap.size w w1) := (((Below.refl _ _).alloc (Nat.le_refl _) _).alloc (by simp) _).trans (hb1.mono (by simp; omega))
  have g0 := (((Blk.new w 41 #[.int .u8 0, .int .u8 0, .int .u8 0, .int .u8 0, .int .i32 0]).alloc (.cells #[.int .u8 op, .int .u8 0, .int .u8 0, .int .u8 0, .int .i32 0] 41)).below hb1 (by simp; omega))
  have p0 : w1.cell? ⟨w.heap.size, 0, none⟩ = some (.int .u8 0) := g0.cell 0 rfl
  have f0 : w1.frozen? ⟨w.heap.size, 0, none⟩ = false := g0.frozen 0
  have p1 : w1.cell? ⟨w.heap.size, 1, none⟩ = some (.int .u8 0) := g0.cell 1 rfl
  have f1 : w1.frozen? ⟨w.heap.size, 1, none⟩ = false := g0.frozen 1
  have p2 : w1.cell? ⟨w.heap.size, 2, none⟩ = some (.int .u8 0) := g0.cell 2 rfl
  have f2 : w1.frozen? ⟨w.heap.size, 2, none⟩ = false := g0.frozen 2
  have p3 : w1.cell? ⟨w.heap.size, 3, none⟩ = some (.int .u8 0) := g0.cell 3 rfl
  have f3 : w1.frozen? ⟨w.heap.size, 3, none⟩ = false := g0.frozen 3
  have p4 : w1.cell? ⟨w.heap.size, 4, none⟩ = some (.int .i32 0) := g0.cell 4 rfl
  have f4 : w1.frozen? ⟨w.heap.size, 4, none⟩ = false := g0.frozen 4
  have hz := g0.lt
  have G0 := Lib.hid g0
  clear g0
  clear hb1
  obtain ⟨e1, e2, e3, e4, e5⟩ := HF.out
  rw [e1, e2, e3, e4, e5]
  clear e1 e2 e3 e4 e5 hop'
  go_wp2
  refine bodyPost_ret (results_ct rfl rfl rfl ((((((G0.out.set_ 0 _).set_ 1 _).set_ 2 _).set_ 3 _).set_ 4 _).alloc _) Tryd.underlying41 rfl (by kernel_rfl)) rfl ?_
  have hbz := B1.out.size
  unfold DecPost; rw [HR.out]
  exact ⟨rfl, (((((B1.out.setCell (Nat.le_refl _) _).setCell (Nat.le_refl _) _).setCell (Nat.le_refl _) _).setCell (Nat.le_refl _) _).setCell (Nat.le_refl _) _).alloc (by simp; omega) _⟩

set_option maxHeartbeats 2000000 in
theorem dec_c_any (n : Nat) (w : World) (hn : n < 4294967296) (A B : Bool) (hf : fA (n / 67108864) = A ∧ fB (n / 67108864) = B ∧ fC (n / 67108864) = true ∧ fI (n / 67108864) = false ∧ fOk (n / 67108864) = true) :
    Calls Tryd.prog 23 #[.int .u32 n] w (DecPost n w) := by
  have hn' : (n : Int) < 4294967296 := by omega
  obtain ⟨op, hop⟩ : ∃ op : Nat, n / 67108864 = op := ⟨_, rfl⟩
  rw [hop] at hf
  have HF := Lib.hid hf
  clear hf
  have hop' : (n : Int) / 67108864 = (op : Int) := by omega
  have HO := Lib.hid (show op < 256 by omega)
  have hol : (op : Int) < 256 := by omega
  obtain ⟨a, ha⟩ : ∃ a : Nat, n / 4194304 % 16 = a := ⟨_, rfl⟩
  obtain ⟨b, hb⟩ : ∃ a : Nat, n / 262144 % 16 = a := ⟨_, rfl⟩
  obtain ⟨c, hc⟩ : ∃ a : Nat, n / 16384 % 16 = a := ⟨_, rfl⟩
  obtain ⟨m, hm⟩ : ∃ a : Nat, n % 65536 = a := ⟨_, rfl⟩
  have ha' : bits .and .u32 ((n : Int) / 4194304) 15 = (a : Int) := by rw [u32_and15 _ (by omega) (by omega)]; omega
  have hb' : bits .and .u32 ((n : Int) / 262144) 15 = (b : Int) := by rw [u32_and15 _ (by omega) (by omega)]; omega
  have hc' : bits .and .u32 ((n : Int) / 16384) 15 = (c : Int) := by rw [u32_and15 _ (by omega) (by omega)]; omega
  have hm' : bits .and .u32 (n : Int) 65535 = (m : Int) := by rw [u32_and65535 _ (by omega) (by omega)]; omega
  have hal : (a : Int) < 16 := by omega
  have hbl : (b : Int) < 16 := by omega
  have hcl : (c : Int) < 16 := by omega
  have hml : (m : Int) < 65536 := by omega
  have HX := Lib.hid (show decX n = ⟨op, a, b, c, 0⟩ by unfold decX; rw [hop, ha, hb, hc, HF.out.2.2.1, HF.out.2.2.2.1]; rfl)
  clear hm'
  have HK := Lib.hid (show fOk (n / 67108864) = true by rw [hop]; exact HF.out.2.2.2.2)
  clear hn hop ha hb hc hm
  go_enter Tryd.func23, Tryd.ntmps23
  go_wp2_with fail
  refine (fields_any op _ HO.out).mono ?_
  rintro e w1 ⟨rfl, hb1⟩
  have B1 : Hid (Below w.heap.size w w1) := (((Below.refl _ _).alloc (Nat.le_refl _) _).alloc (by simp) _).trans (hb1.mono (by simp; omega))
  have g1 := (Blk.new (w.alloc (.cells #[.int .u8 0, .int .u8 0, .int .u8 0, .int .u8 0, .int .i32 0] 41)) 41 #[.int .u8 op, .int .u8 0, .int .u8 0, .int .u8 0, .int .i32 0]).below hb1 (by simp)
  rw [show (w.alloc (.cells #[.int .u8 0, .int .u8 0, .int .u8 0, .int .u8 0, .int .i32 0] 41)).heap.size = w.heap.size + 1 by simp] at g1
  have q0 : w1.cell? ⟨w.heap.size + 1, 0, none⟩ = some (.int .u8 op) := g1.cell 0 rfl
  have r0 : w1.frozen? ⟨w.heap.size + 1, 0, none⟩ = false := g1.frozen 0
  have q1 : w1.cell? ⟨w.heap.size + 1, 1, none⟩ = some (.int .u8 0) := g1.cell 1 rfl
  have r1 : w1.frozen? ⟨w.heap.size + 1, 1, none⟩ = false := g1.frozen 1
  have q2 : w1.cell? ⟨w.heap.size + 1, 2, none⟩ = some (.int .u8 0) := g1.cell 2 rfl
  have r2 : w1.frozen? ⟨w.heap.size + 1, 2, none⟩ = false := g1.frozen 2
  have q3 : w1.cell? ⟨w.heap.size + 1, 3, none⟩ = some (.int .u8 0) := g1.cell 3 rfl
  have r3 : w1.frozen? ⟨w.heap.size + 1, 3, none⟩ = false := g1.frozen 3
  have q4 : w1.cell? ⟨w.heap.size + 1, 4, none⟩ = some (.int .i32 0) := g1.cell 4 rfl
  have r4 : w1.frozen? ⟨w.heap.size + 1, 4, none⟩ = false := g1.frozen 4
  have hz1 := g1.lt
  have G1 := Lib.hid g1
  have G0 := Lib.hid (((Blk.new w 41 #[.int .u8 0, .int .u8 0, .int .u8 0, .int .u8 0, .int .i32 0]).alloc (.cells #[.int .u8 op, .int .u8 0, .int .u8 0, .int .u8 0, .int .i32 0] 41)).below hb1 (by simp; omega))
  clear hb1 g1
  obtain ⟨e1, e2, e3, e4, e5⟩ := HF.out
  rw [e1, e2, e3, e4, e5]
  clear e1 e2 e3 e4 e5 hop'
  go_wp2_with fail
  refine (enc_any ⟨op, a, b, c, 0⟩ _ HO.out).mono ?_
  rintro e w2 ⟨rfl, hb2⟩
  have hz0 := B1.out.size
  have B2 : Hid (Below w.heap.size w w2) := ((((B1.out.setCell (p := ⟨w.heap.size + 1, 1, none⟩) (by show w.heap.size ≤ w.heap.size + 1; omega) _).setCell (p := ⟨w.heap.size + 1, 2, none⟩) (by show w.heap.size ≤ w.heap.size + 1; omega) _).setCell (p := ⟨w.heap.size + 1, 3, none⟩) (by show w.heap.size ≤ w.heap.size + 1; omega) _).alloc (by simp; omega) _).trans (hb2.mono (by simp; omega))
  have G2 : Hid (Blk w2 (w.heap.size + 1) 41 #[.int .u8 op, .int .u8 a, .int .u8 b, .int .u8 c, .int .i32 0]) := ((((G1.out.set_ 1 _).set_ 2 _).set_ 3 _).alloc _).below hb2 (by simp; omega)
  have G3 : Hid (Blk w2 w.heap.size 41 #[.int .u8 0, .int .u8 0, .int .u8 0, .int .u8 0, .int .i32 0]) := ((((G0.out.far (p := ⟨w.heap.size + 1, 1, none⟩) (by show w.heap.size ≠ w.heap.size + 1; omega) _).far (p := ⟨w.heap.size + 1, 2, none⟩) (by show w.heap.size ≠ w.heap.size + 1; omega) _).far (p := ⟨w.heap.size + 1, 3, none⟩) (by show w.heap.size ≠ w.heap.size + 1; omega) _).alloc _).below hb2 (by simp; omega)
  clear hb2
  clear q0 r0 q1 r1 q2 r2 q3 r3 q4 r4 G0 G1 B1 hz1 hz0
  have q0 : w2.cell? ⟨w.heap.size + 1, 0, none⟩ = some (.int .u8 op) := G2.out.cell 0 rfl
  have p0 : w2.cell? ⟨w.heap.size, 0, none⟩ = some (.int .u8 0) := G3.out.cell 0 rfl
  have f0 : w2.frozen? ⟨w.heap.size, 0, none⟩ = false := G3.out.frozen 0
  have q1 : w2.cell? ⟨w.heap.size + 1, 1, none⟩ = some (.int .u8 a) := G2.out.cell 1 rfl
  have p1 : w2.cell? ⟨w.heap.size, 1, none⟩ = some (.int .u8 0) := G3.out.cell 1 rfl
  have f1 : w2.frozen? ⟨w.heap.size, 1, none⟩ = false := G3.out.frozen 1
  have q2 : w2.cell? ⟨w.heap.size + 1, 2, none⟩ = some (.int .u8 b) := G2.out.cell 2 rfl
  have p2 : w2.cell? ⟨w.heap.size, 2, none⟩ = some (.int .u8 0) := G3.out.cell 2 rfl
  have f2 : w2.frozen? ⟨w.heap.size, 2, none⟩ = false := G3.out.frozen 2
  have q3 : w2.cell? ⟨w.heap.size + 1, 3, none⟩ = some (.int .u8 c) := G2.out.cell 3 rfl
  have p3 : w2.cell? ⟨w.heap.size, 3, none⟩ = some (.int .u8 0) := G3.out.cell 3 rfl
  have f3 : w2.frozen? ⟨w.heap.size, 3, none⟩ = false := G3.out.frozen 3
  have q4 : w2.cell? ⟨w.heap.size + 1, 4, none⟩ = some (.int .i32 0) := G2.out.cell 4 rfl
  have p4 : w2.cell? ⟨w.heap.size, 4, none⟩ = some (.int .i32 0) := G3.out.cell 4 rfl
  have f4 : w2.frozen? ⟨w.heap.size, 4, none⟩ = false := G3.out.frozen 4
  have hz := G3.out.lt
  have hz1 := G2.out.lt
  cases hr : encR ⟨op, a, b, c, 0⟩ with | mk v en
  have HD := Lib.hid (show decR n = if (v, en) = (n, 0) then some ⟨op, a, b, c, 0⟩ else none by unfold decR; rw [if_neg (by rw [HK.out]; simp), HX.out, hr])
  clear hr
  unfold encE
  by_cases h1 : en = 0
  case neg =>
    have HR := Lib.hid (show decR n = none by rw [HD.out, if_neg (by simp [h1])])
    have h1' : (en != 0) = true := by simp [h1]
    clear h1
    go_wp2
    refine bodyPost_ret (results_ct rfl rfl rfl (((((G3.out.set_ 0 _).set_ 1 _).set_ 2 _).set_ 3 _).set_ 4 _) Tryd.underlying41 rfl (by kernel_rfl)) rfl ?_
    unfold DecPost; rw [HR.out]
    exact ⟨rfl, (((((B2.out.setCell (Nat.le_refl _) _).setCell (Nat.le_refl _) _).setCell (Nat.le_refl _) _).setCell (Nat.le_refl _) _).setCell (Nat.le_refl _) _)⟩
  by_cases h2 : v = n
  case neg =>
    have HR := Lib.hid (show decR n = none by rw [HD.out, if_neg (by simp [h2])])
    have h1' : (en != 0) = false := by simp [h1]
    have h2' : ((v : Int) != (n : Int)) = true := by simp; omega
    clear h1 h2
    go_wp2
    refine bodyPost_ret (results_ct rfl rfl rfl (((((G3.out.set_ 0 _).set_ 1 _).set_ 2 _).set_ 3 _).set_ 4 _) Tryd.underlying41 rfl (by kernel_rfl)) rfl ?_
    unfold DecPost; rw [HR.out]
    exact ⟨rfl, (((((B2.out.setCell (Nat.le_refl _) _).setCell (Nat.le_refl _) _).setCell (Nat.le_refl _) _).setCell (Nat.le_refl _) _).setCell (Nat.le_refl _) _)⟩
  case pos =>
    have HR := Lib.hid (show decR n = some ⟨op, a, b, c, 0⟩ by rw [HD.out, if_pos (by simp [h1, h2])])
    have h1' : (en != 0) = false := by simp [h1]
    have h2' : ((v : Int) != (n : Int)) = false := by simp; omega
    clear h1 h2
    go_wp2
    refine bodyPost_ret (results_ct rfl rfl rfl (((((G3.out.set_ 0 _).set_ 1 _).set_ 2 _).set_ 3 _).set_ 4 _) Tryd.underlying41 rfl (by kernel_rfl)) rfl ?_
    unfold DecPost; rw [HR.out]
    exact ⟨rfl, (((((B2.out.setCell (Nat.le_refl _) _).setCell (Nat.le_refl _) _).setCell (Nat.le_refl _) _).setCell (Nat.le_refl _) _).setCell (Nat.le_refl _) _)⟩

set_option maxHeartbeats 2000000 in
theorem dec_u_any (n : Nat) (w : World) (hn : n < 4294967296) (A B : Bool) (hf : fA (n / 67108864) = A ∧ fB (n / 67108864) = B ∧ fC (n / 67108864) = false ∧ fI (n / 67108864) = true ∧ fOk (n / 67108864) = true) (hu : fU (n / 67108864) = true) :
    Calls Tryd.prog 23 #[.int .u32 n] w (DecPost n w) := by
  have hn' : (n : Int) < 4294967296 := by omega
  obtain ⟨op, hop⟩ : ∃ op : Nat, n / 67108864 = op := ⟨_, rfl⟩
  rw [hop] at hf
  have HF := Lib.hid hf
  clear hf
  have hop' : (n : Int) / 67108864 = (op : Int) := by omega
  have HO := Lib.hid (show op < 256 by omega)
  have hol : (op : Int) < 256 := by omega
  obtain ⟨a, ha⟩ : ∃ a : Nat, n / 4194304 % 16 = a := ⟨_, rfl⟩
  obtain ⟨b, hb⟩ : ∃ a : Nat, n / 262144 % 16 = a := ⟨_, rfl⟩
  obtain ⟨c, hc⟩ : ∃ a : Nat, n / 16384 % 16 = a := ⟨_, rfl⟩
  obtain ⟨m, hm⟩ : ∃ a : Nat, n % 65536 = a := ⟨_, rfl⟩
  have ha' : bits .and .u32 ((n : Int) / 4194304) 15 = (a : Int) := by rw [u32_and15 _ (by omega) (by omega)]; omega
  have hb' : bits .and .u32 ((n : Int) / 262144) 15 = (b : Int) := by rw [u32_and15 _ (by omega) (by omega)]; omega
  have hc' : bits .and .u32 ((n : Int) / 16384) 15 = (c : Int) := by rw [u32_and15 _ (by omega) (by omega)]; omega
  have hm' : bits .and .u32 (n : Int) 65535 = (m : Int) := by rw [u32_and65535 _ (by omega) (by omega)]; omega
  have hal : (a : Int) < 16 := by omega
  have hbl : (b : Int) < 16 := by omega
  have hcl : (c : Int) < 16 := by omega
  have hml : (m : Int) < 65536 := by omega
  have HX := Lib.hid (show decX n = ⟨op, a, b, 0, (m : Nat)⟩ by unfold decX; rw [hop, ha, hb, hm, HF.out.2.2.1, HF.out.2.2.2.1, ← hop, hu]; rfl)
  rw [hop] at hu
  have HU := Lib.hid hu
  clear hu hc'
  have HK := Lib.hid (show fOk (n / 67108864) = true by rw [hop]; exact HF.out.2.2.2.2)
  clear hn hop ha hb hc hm
  go_enter Tryd.func23, Tryd.ntmps23
  go_wp2_with fail
  refine (fields_any op _ HO.out).mono ?_
  rintro e w1 ⟨rfl, hb1⟩
  have B1 : Hid (Below w.heap.size w w1) := (((Below.refl _ _).alloc (Nat.le_refl _) _).alloc (by simp) _).trans (hb1.mono (by simp; omega))
  have g1 := (Blk.new (w.alloc (.cells #[.int .u8 0, .int .u8 0, .int .u8 0, .int .u8 0, .int .i32 0] 41)) 41 #[.int .u8 op, .int .u8 0, .int .u8 0, .int .u8 0, .int .i32 0]).below hb1 (by simp)
  rw [show (w.alloc (.cells #[.int .u8 0, .int .u8 0, .int .u8 0, .int .u8 0, .int .i32 0] 41)).heap.size = w.heap.size + 1 by simp] at g1
  have q0 : w1.cell? ⟨w.heap.size + 1, 0, none⟩ = some (.int .u8 op) := g1.cell 0 rfl
  have r0 : w1.frozen? ⟨w.heap.size + 1, 0, none⟩ = false := g1.frozen 0
  have q1 : w1.cell? ⟨w.heap.size + 1, 1, none⟩ = some (.int .u8 0) := g1.cell 1 rfl
  have r1 : w1.frozen? ⟨w.heap.size + 1, 1, none⟩ = false := g1.frozen 1
  have q2 : w1.cell? ⟨w.heap.size + 1, 2, none⟩ = some (.int .u8 0) := g1.cell 2 rfl
  have r2 : w1.frozen? ⟨w.heap.size + 1, 2, none⟩ = false := g1.frozen 2
  have q3 : w1.cell? ⟨w.heap.size + 1, 3, none⟩ = some (.int .u8 0) := g1.cell 3 rfl
  have r3 : w1.frozen? ⟨w.heap.size + 1, 3, none⟩ = false := g1.frozen 3
  have q4 : w1.cell? ⟨w.heap.size + 1, 4, none⟩ = some (.int .i32 0) := g1.cell 4 rfl
  have r4 : w1.frozen? ⟨w.heap.size + 1, 4, none⟩ = false := g1.frozen 4
  have hz1 := g1.lt
  have G1 := Lib.hid g1
  have G0 := Lib.hid (((Blk.new w 41 #[.int .u8 0, .int .u8 0, .int .u8 0, .int .u8 0, .int .i32 0]).alloc (.cells #[.int .u8 op, .int .u8 0, .int .u8 0, .int .u8 0, .int .i32 0] 41)).below hb1 (by simp; omega))
  clear hb1 g1
  obtain ⟨e1, e2, e3, e4, e5⟩ := HF.out
  rw [e1, e2, e3, e4, e5]
  clear e1 e2 e3 e4 e5 hop'
  go_wp2_with fail
  refine (unsigned_any op _ HO.out).mono ?_
  rintro e w' ⟨rfl, rfl⟩
  rw [HU.out]
  go_wp2_with fail
  refine (enc_any ⟨op, a, b, 0, m⟩ _ HO.out).mono ?_
  rintro e w2 ⟨rfl, hb2⟩
  have hz0 := B1.out.size
  have B2 : Hid (Below w.heap.size w w2) := ((((B1.out.setCell (p := ⟨w.heap.size + 1, 1, none⟩) (by show w.heap.size ≤ w.heap.size + 1; omega) _).setCell (p := ⟨w.heap.size + 1, 2, none⟩) (by show w.heap.size ≤ w.heap.size + 1; omega) _).setCell (p := ⟨w.heap.size + 1, 4, none⟩) (by show w.heap.size ≤ w.heap.size + 1; omega) _).alloc (by simp; omega) _).trans (hb2.mono (by simp; omega))
  have G2 : Hid (Blk w2 (w.heap.size + 1) 41 #[.int .u8 op, .int .u8 a, .int .u8 b, .int .u8 0, .int .i32 m]) := ((((G1.out.set_ 1 _).set_ 2 _).set_ 4 _).alloc _).below hb2 (by simp; omega)
  have G3 : Hid (Blk w2 w.heap.size 41 #[.int .u8 0, .int .u8 0, .int .u8 0, .int .u8 0, .int .i32 0]) := ((((G0.out.far (p := ⟨w.heap.size + 1, 1, none⟩) (by show w.heap.size ≠ w.heap.size + 1; omega) _).far (p := ⟨w.heap.size + 1, 2, none⟩) (by show w.heap.size ≠ w.heap.size + 1; omega) _).far (p := ⟨w.heap.size + 1, 4, none⟩) (by show w.heap.size ≠ w.heap.size + 1; omega) _).alloc _).below hb2 (by simp; omega)
  clear hb2
  clear q0 r0 q1 r1 q2 r2 q3 r3 q4 r4 G0 G1 B1 hz1 hz0
  have q0 : w2.cell? ⟨w.heap.size + 1, 0, none⟩ = some (.int .u8 op) := G2.out.cell 0 rfl
  have p0 : w2.cell? ⟨w.heap.size, 0, none⟩ = some (.int .u8 0) := G3.out.cell 0 rfl
  have f0 : w2.frozen? ⟨w.heap.size, 0, none⟩ = false := G3.out.frozen 0
  have q1 : w2.cell? ⟨w.heap.size + 1, 1, none⟩ = some (.int .u8 a) := G2.out.cell 1 rfl
  have p1 : w2.cell? ⟨w.heap.size, 1, none⟩ = some (.int .u8 0) := G3.out.cell 1 rfl
  have f1 : w2.frozen? ⟨w.heap.size, 1, none⟩ = false := G3.out.frozen 1
  have q2 : w2.cell? ⟨w.heap.size + 1, 2, none⟩ = some (.int .u8 b) := G2.out.cell 2 rfl
  have p2 : w2.cell? ⟨w.heap.size, 2, none⟩ = some (.int .u8 0) := G3.out.cell 2 rfl
  have f2 : w2.frozen? ⟨w.heap.size, 2, none⟩ = false := G3.out.frozen 2
  have q3 : w2.cell? ⟨w.heap.size + 1, 3, none⟩ = some (.int .u8 0) := G2.out.cell 3 rfl
  have p3 : w2.cell? ⟨w.heap.size, 3, none⟩ = some (.int .u8 0) := G3.out.cell 3 rfl
  have f3 : w2.frozen? ⟨w.heap.size, 3, none⟩ = false := G3.out.frozen 3
  have q4 : w2.cell? ⟨w.heap.size + 1, 4, none⟩ = some (.int .i32 m) := G2.out.cell 4 rfl
  have p4 : w2.cell? ⟨w.heap.size, 4, none⟩ = some (.int .i32 0) := G3.out.cell 4 rfl
  have f4 : w2.frozen? ⟨w.heap.size, 4, none⟩ = false := G3.out.frozen 4
  have hz := G3.out.lt
  have hz1 := G2.out.lt
  cases hr : encR ⟨op, a, b, 0, m⟩ with | mk v en
  have HD := Lib.hid (show decR n = if (v, en) = (n, 0) then some ⟨op, a, b, 0, m⟩ else none by unfold decR; rw [if_neg (by rw [HK.out]; simp), HX.out, hr])
  clear hr
  unfold encE
  by_cases h1 : en = 0
  case neg =>
    have HR := Lib.hid (show decR n = none by rw [HD.out, if_neg (by simp [h1])])
    have h1' : (en != 0) = true := by simp [h1]
    clear h1
    go_wp2
    refine bodyPost_ret (results_ct rfl rfl rfl (((((G3.out.set_ 0 _).set_ 1 _).set_ 2 _).set_ 3 _).set_ 4 _) Tryd.underlying41 rfl (by kernel_rfl)) rfl ?_
    unfold DecPost; rw [HR.out]
    exact ⟨rfl, (((((B2.out.setCell (Nat.le_refl _) _).setCell (Nat.le_refl _) _).setCell (Nat.le_refl _) _).setCell (Nat.le_refl _) _).setCell (Nat.le_refl _) _)⟩
  by_cases h2 : v = n
  case neg =>
    have HR := Lib.hid (show decR n = none by rw [HD.out, if_neg (by simp [h2])])
    have h1' : (en != 0) = false := by simp [h1]
    have h2' : ((v : Int) != (n : Int)) = true := by simp; omega
    clear h1 h2
    go_wp2
    refine bodyPost_ret (results_ct rfl rfl rfl (((((G3.out.set_ 0 _).set_ 1 _).set_ 2 _).set_ 3 _).set_ 4 _) Tryd.underlying41 rfl (by kernel_rfl)) rfl ?_
    unfold DecPost; rw [HR.out]
    exact ⟨rfl, (((((B2.out.setCell (Nat.le_refl _) _).setCell (Nat.le_refl _) _).setCell (Nat.le_refl _) _).setCell (Nat.le_refl _) _).setCell (Nat.le_refl _) _)⟩
  case pos =>
    have HR := Lib.hid (show decR n = some ⟨op, a, b, 0, m⟩ by rw [HD.out, if_pos (by simp [h1, h2])])
    have h1' : (en != 0) = false := by simp [h1]
    have h2' : ((v : Int) != (n : Int)) = false := by simp; omega
    clear h1 h2
    go_wp2
    refine bodyPost_ret (results_ct rfl rfl rfl (((((G3.out.set_ 0 _).set_ 1 _).set_ 2 _).set_ 3 _).set_ 4 _) Tryd.underlying41 rfl (by kernel_rfl)) rfl ?_
    unfold DecPost; rw [HR.out]
    exact ⟨rfl, (((((B2.out.setCell (Nat.le_refl _) _).setCell (Nat.le_refl _) _).setCell (Nat.le_refl _) _).setCell (Nat.le_refl _) _).setCell (Nat.le_refl _) _)⟩

set_option maxHeartbeats 2000000 in
theorem dec_s_any (n : Nat) (w : World) (hn : n < 4294967296) (A B : Bool) (hf : fA (n / 67108864) = A ∧ fB (n / 67108864) = B ∧ fC (n / 67108864) = false ∧ fI (n / 67108864) = true ∧ fOk (n / 67108864) = true) (hu : fU (n / 67108864) = false) :
    Calls Tryd.prog 23 #[.int .u32 n] w (DecPost n w) := by
  have hn' : (n : Int) < 4294967296 := by omega
  obtain ⟨op, hop⟩ : ∃ op : Nat, n / 67108864 = op := ⟨_, rfl⟩
  rw [hop] at hf
  have HF := Lib.hid hf
  clear hf
  have hop' : (n : Int) / 67108864 = (op : Int) := by omega
  have HO := Lib.hid (show op < 256 by omega)
  have hol : (op : Int) < 256 := by omega
  obtain ⟨a, ha⟩ : ∃ a : Nat, n / 4194304 % 16 = a := ⟨_, rfl⟩
  obtain ⟨b, hb⟩ : ∃ a : Nat, n / 262144 % 16 = a := ⟨_, rfl⟩
  obtain ⟨c, hc⟩ : ∃ a : Nat, n / 16384 % 16 = a := ⟨_, rfl⟩
  obtain ⟨m, hm⟩ : ∃ a : Nat, n % 65536 = a := ⟨_, rfl⟩
  have ha' : bits .and .u32 ((n : Int) / 4194304) 15 = (a : Int) := by rw [u32_and15 _ (by omega) (by omega)]; omega
  have hb' : bits .and .u32 ((n : Int) / 262144) 15 = (b : Int) := by rw [u32_and15 _ (by omega) (by omega)]; omega
  have hc' : bits .and .u32 ((n : Int) / 16384) 15 = (c : Int) := by rw [u32_and15 _ (by omega) (by omega)]; omega
  have hm' : bits .and .u32 (n : Int) 65535 = (m : Int) := by rw [u32_and65535 _ (by omega) (by omega)]; omega
  have hal : (a : Int) < 16 := by omega
  have hbl : (b : Int) < 16 := by omega
  have hcl : (c : Int) < 16 := by omega
  have hml : (m : Int) < 65536 := by omega
  obtain ⟨sx, hsx⟩ : ∃ sx : Int, sx16 m = sx := ⟨_, rfl⟩
  have HX := Lib.hid (show decX n = ⟨op, a, b, 0, sx⟩ by unfold decX; rw [hop, ha, hb, hm, HF.out.2.2.1, HF.out.2.2.2.1, ← hop, hu, hsx]; rfl)
  have hsx' : IntKind.i16.wrap (m : Int) = sx := by rw [← hsx]; exact wrap16 m (by omega)
  have hs1 : -32768 ≤ sx := by rw [← hsx]; unfold sx16; split <;> omega
  have hs2 : sx < 32768 := by rw [← hsx]; unfold sx16; split <;> omega
  rw [hop] at hu
  have HU := Lib.hid hu
  have HS := Lib.hid hsx'
  clear hu hc' hsx hsx'
  have HK := Lib.hid (show fOk (n / 67108864) = true by rw [hop]; exact HF.out.2.2.2.2)
  clear hn hop ha hb hc hm
  go_enter Tryd.func23, Tryd.ntmps23
  go_wp2_with fail
  refine (fields_any op _ HO.out).mono ?_
  rintro e w1 ⟨rfl, hb1⟩
  have B1 : Hid (Below w.heap.size w w1) := (((Below.refl _ _).alloc (Nat.le_refl _) _).alloc (by simp) _).trans (hb1.mono (by simp; omega))
  have g1 := (Blk.new (w.alloc (.cells #[.int .u8 0, .int .u8 0, .int .u8 0, .int .u8 0, .int .i32 0] 41)) 41 #[.int .u8 op, .int .u8 0, .int .u8 0, .int .u8 0, .int .i32 0]).below hb1 (by simp)
  rw [show (w.alloc (.cells #[.int .u8 0, .int .u8 0, .int .u8 0, .int .u8 0, .int .i32 0] 41)).heap.size = w.heap.size + 1 by simp] at g1
  have q0 : w1.cell? ⟨w.heap.size + 1, 0, none⟩ = some (.int .u8 op) := g1.cell 0 rfl
  have r0 : w1.frozen? ⟨w.heap.size + 1, 0, none⟩ = false := g1.frozen 0
  have q1 : w1.cell? ⟨w.heap.size + 1, 1, none⟩ = some (.int .u8 0) := g1.cell 1 rfl
  have r1 : w1.frozen? ⟨w.heap.size + 1, 1, none⟩ = false := g1.frozen 1
  have q2 : w1.cell? ⟨w.heap.size + 1, 2, none⟩ = some (.int .u8 0) := g1.cell 2 rfl
  have r2 : w1.frozen? ⟨w.heap.size + 1, 2, none⟩ = false := g1.frozen 2
  have q3 : w1.cell? ⟨w.heap.size + 1, 3, none⟩ = some (.int .u8 0) := g1.cell 3 rfl
  have r3 : w1.frozen? ⟨w.heap.size + 1, 3, none⟩ = false := g1.frozen 3
  have q4 : w1.cell? ⟨w.heap.size + 1, 4, none⟩ = some (.int .i32 0) := g1.cell 4 rfl
  have r4 : w1.frozen? ⟨w.heap.size + 1, 4, none⟩ = false := g1.frozen 4
  have hz1 := g1.lt
  have G1 := Lib.hid g1
  have G0 := Lib.hid (((Blk.new w 41 #[.int .u8 0, .int .u8 0, .int .u8 0, .int .u8 0, .int .i32 0]).alloc (.cells #[.int .u8 op, .int .u8 0, .int .u8 0, .int .u8 0, .int .i32 0] 41)).below hb1 (by simp; omega))
  clear hb1 g1
  obtain ⟨e1, e2, e3, e4, e5⟩ := HF.out
  rw [e1, e2, e3, e4, e5]
  clear e1 e2 e3 e4 e5 hop'
  go_wp2_with fail
  refine (unsigned_any op _ HO.out).mono ?_
  rintro e w3 ⟨rfl, hw3⟩
  rw [HU.out]
  have hz0 := B1.out.size
  have B3 : Hid (Below w.heap.size w w3) := hw3 ▸ ((((B1.out.setCell (p := ⟨w.heap.size + 1, 1, none⟩) (by show w.heap.size ≤ w.heap.size + 1; omega) _).setCell (p := ⟨w.heap.size + 1, 2, none⟩) (by show w.heap.size ≤ w.heap.size + 1; omega) _).setCell (p := ⟨w.heap.size + 1, 4, none⟩) (by show w.heap.size ≤ w.heap.size + 1; omega) _).alloc (by simp; omega) _)
  have G2 : Hid (Blk w3 (w.heap.size + 1) 41 #[.int .u8 op, .int .u8 a, .int .u8 b, .int .u8 0, .int .i32 m]) := hw3 ▸ ((((G1.out.set_ 1 _).set_ 2 _).set_ 4 _).alloc _)
  have G3 : Hid (Blk w3 w.heap.size 41 #[.int .u8 0, .int .u8 0, .int .u8 0, .int .u8 0, .int .i32 0]) := hw3 ▸ ((((G0.out.far (p := ⟨w.heap.size + 1, 1, none⟩) (by show w.heap.size ≠ w.heap.size + 1; omega) _).far (p := ⟨w.heap.size + 1, 2, none⟩) (by show w.heap.size ≠ w.heap.size + 1; omega) _).far (p := ⟨w.heap.size + 1, 4, none⟩) (by show w.heap.size ≠ w.heap.size + 1; omega) _).alloc _)
  clear hw3
  clear q0 r0 q1 r1 q2 r2 q3 r3 q4 r4 G0 G1 B1 hz1 hz0
  have q0 : w3.cell? ⟨w.heap.size + 1, 0, none⟩ = some (.int .u8 op) := G2.out.cell 0 rfl
  have r0 : w3.frozen? ⟨w.heap.size + 1, 0, none⟩ = false := G2.out.frozen 0
  have q1 : w3.cell? ⟨w.heap.size + 1, 1, none⟩ = some (.int .u8 a) := G2.out.cell 1 rfl
  have r1 : w3.frozen? ⟨w.heap.size + 1, 1, none⟩ = false := G2.out.frozen 1
  have q2 : w3.cell? ⟨w.heap.size + 1, 2, none⟩ = some (.int .u8 b) := G2.out.cell 2 rfl
  have r2 : w3.frozen? ⟨w.heap.size + 1, 2, none⟩ = false := G2.out.frozen 2
  have q3 : w3.cell? ⟨w.heap.size + 1, 3, none⟩ = some (.int .u8 0) := G2.out.cell 3 rfl
  have r3 : w3.frozen? ⟨w.heap.size + 1, 3, none⟩ = false := G2.out.frozen 3
  have q4 : w3.cell? ⟨w.heap.size + 1, 4, none⟩ = some (.int .i32 m) := G2.out.cell 4 rfl
  have r4 : w3.frozen? ⟨w.heap.size + 1, 4, none⟩ = false := G2.out.frozen 4
  have hz1 := G2.out.lt
  have G1 := G2
  have G0 := G3
  have B1 := B3
  clear G2 G3 B3
  dsimp only
  iterate 15 go_step
  refine conv_int .i16 .u32 m sx _ _ _ rfl rfl rfl u32_is i16_kind Tryd.underlying56 HS.out ?_
  go_simp
  go_wp2_with fail
  refine (enc_any ⟨op, a, b, 0, sx⟩ _ HO.out).mono ?_
  rintro e w2 ⟨rfl, hb2⟩
  have hz0 := B1.out.size
  have B2 : Hid (Below w.heap.size w w2) := ((B1.out.setCell (p := ⟨w.heap.size + 1, 4, none⟩) (by show w.heap.size ≤ w.heap.size + 1; omega) _)).trans (hb2.mono (by simp; omega))
  have G2 : Hid (Blk w2 (w.heap.size + 1) 41 #[.int .u8 op, .int .u8 a, .int .u8 b, .int .u8 0, .int .i32 sx]) := ((G1.out.set_ 4 _)).below hb2 (by simp; omega)
  have G3 : Hid (Blk w2 w.heap.size 41 #[.int .u8 0, .int .u8 0, .int .u8 0, .int .u8 0, .int .i32 0]) := ((G0.out.far (p := ⟨w.heap.size + 1, 4, none⟩) (by show w.heap.size ≠ w.heap.size + 1; omega) _)).below hb2 (by simp; omega)
  clear hb2
  clear q0 r0 q1 r1 q2 r2 q3 r3 q4 r4 G0 G1 B1 hz1 hz0
  have q0 : w2.cell? ⟨w.heap.size + 1, 0, none⟩ = some (.int .u8 op) := G2.out.cell 0 rfl
  have p0 : w2.cell? ⟨w.heap.size, 0, none⟩ = some (.int .u8 0) := G3.out.cell 0 rfl
  have f0 : w2.frozen? ⟨w.heap.size, 0, none⟩ = false := G3.out.frozen 0
  have q1 : w2.cell? ⟨w.heap.size + 1, 1, none⟩ = some (.int .u8 a) := G2.out.cell 1 rfl
  have p1 : w2.cell? ⟨w.heap.size, 1, none⟩ = some (.int .u8 0) := G3.out.cell 1 rfl
  have f1 : w2.frozen? ⟨w.heap.size, 1, none⟩ = false := G3.out.frozen 1
  have q2 : w2.cell? ⟨w.heap.size + 1, 2, none⟩ = some (.int .u8 b) := G2.out.cell 2 rfl
  have p2 : w2.cell? ⟨w.heap.size, 2, none⟩ = some (.int .u8 0) := G3.out.cell 2 rfl
  have f2 : w2.frozen? ⟨w.heap.size, 2, none⟩ = false := G3.out.frozen 2
  have q3 : w2.cell? ⟨w.heap.size + 1, 3, none⟩ = some (.int .u8 0) := G2.out.cell 3 rfl
  have p3 : w2.cell? ⟨w.heap.size, 3, none⟩ = some (.int .u8 0) := G3.out.cell 3 rfl
  have f3 : w2.frozen? ⟨w.heap.size, 3, none⟩ = false := G3.out.frozen 3
  have q4 : w2.cell? ⟨w.heap.size + 1, 4, none⟩ = some (.int .i32 sx) := G2.out.cell 4 rfl
  have p4 : w2.cell? ⟨w.heap.size, 4, none⟩ = some (.int .i32 0) := G3.out.cell 4 rfl
  have f4 : w2.frozen? ⟨w.heap.size, 4, none⟩ = false := G3.out.frozen 4
  have hz := G3.out.lt
  have hz1 := G2.out.lt
  cases hr : encR ⟨op, a, b, 0, sx⟩ with | mk v en
  have HD := Lib.hid (show decR n = if (v, en) = (n, 0) then some ⟨op, a, b, 0, sx⟩ else none by unfold decR; rw [if_neg (by rw [HK.out]; simp), HX.out, hr])
  clear hr
  unfold encE
  by_cases h1 : en = 0
  case neg =>
    have HR := Lib.hid (show decR n = none by rw [HD.out, if_neg (by simp [h1])])
    have h1' : (en != 0) = true := by simp [h1]
    clear h1
    go_wp2
    refine bodyPost_ret (results_ct rfl rfl rfl (((((G3.out.set_ 0 _).set_ 1 _).set_ 2 _).set_ 3 _).set_ 4 _) Tryd.underlying41 rfl (by kernel_rfl)) rfl ?_
    unfold DecPost; rw [HR.out]
    exact ⟨rfl, (((((B2.out.setCell (Nat.le_refl _) _).setCell (Nat.le_refl _) _).setCell (Nat.le_refl _) _).setCell (Nat.le_refl _) _).setCell (Nat.le_refl _) _)⟩
  by_cases h2 : v = n
  case neg =>
    have HR := Lib.hid (show decR n = none by rw [HD.out, if_neg (by simp [h2])])
    have h1' : (en != 0) = false := by simp [h1]
    have h2' : ((v : Int) != (n : Int)) = true := by simp; omega
    clear h1 h2
    go_wp2
    refine bodyPost_ret (results_ct rfl rfl rfl (((((G3.out.set_ 0 _).set_ 1 _).set_ 2 _).set_ 3 _).set_ 4 _) Tryd.underlying41 rfl (by kernel_rfl)) rfl ?_
    unfold DecPost; rw [HR.out]
    exact ⟨rfl, (((((B2.out.setCell (Nat.le_refl _) _).setCell (Nat.le_refl _) _).setCell (Nat.le_refl _) _).setCell (Nat.le_refl _) _).setCell (Nat.le_refl _) _)⟩
  case pos =>
    have HR := Lib.hid (show decR n = some ⟨op, a, b, 0, sx⟩ by rw [HD.out, if_pos (by simp [h1, h2])])
    have h1' : (en != 0) = false := by simp [h1]
    have h2' : ((v : Int) != (n : Int)) = false := by simp; omega
    clear h1 h2
    go_wp2
    refine bodyPost_ret (results_ct rfl rfl rfl (((((G3.out.set_ 0 _).set_ 1 _).set_ 2 _).set_ 3 _).set_ 4 _) Tryd.underlying41 rfl (by kernel_rfl)) rfl ?_
    unfold DecPost; rw [HR.out]
    exact ⟨rfl, (((((B2.out.setCell (Nat.le_refl _) _).setCell (Nat.le_refl _) _).setCell (Nat.le_refl _) _).setCell (Nat.le_refl _) _).setCell (Nat.le_refl _) _)⟩

theorem dec_any (n : Nat) (w : World) (hn : n < 4294967296) : Calls Tryd.prog 23 #[.int .u32 n] w (DecPost n w) := by
  by_cases h1 : n / 67108864 < 1 ∨ 31 < n / 67108864
  · exact dec_none_any n w hn h1
  have hk : fOk (n / 67108864) = true := by simp only [fOk, decide_eq_true_eq]; omega
  by_cases h2 : n / 67108864 ≤ 13
  · exact dec_c_any n w hn _ _ (f_one (by omega) h2)
  have hi : fI (n / 67108864) = true := by simp only [fI, decide_eq_true_eq]; omega
  have hc : fC (n / 67108864) = false := by simp only [fC, decide_eq_false_iff_not]; omega
  cases hu : fU (n / 67108864) with
  | true => exact dec_u_any n w hn _ _ ⟨rfl, rfl, hc, hi, hk⟩ hu
  | false => exact dec_s_any n w hn _ _ ⟨rfl, rfl, hc, hi, hk⟩ hu
end Go.Proofs.YtcjakmnplkeldaaDoor
