/-
  What the document's Dec computes.
-/
import Derived.Test.YtcjakmnplkeldaaDoorREnc
import Derived.Test.YtcjakmnplkeldaaDoorDec
namespace Go.Proofs.YtcjakmnplkeldaaDoor
open Go.RowKit
set_option linter.unusedVariables false
set_option linter.unusedSimpArgs false

set_option maxHeartbeats 2000000 in
theorem rdec_c (n op a b c m : Nat) (w : World) (hn : n < 4294967296) (hop : n / 67108864 = op) (ha : n / 4194304 % 16 = a) (hb : n / 262144 % 16 = b) (hc : n / 16384 % 16 = c) (hm : n % 65536 = m) (hf : ∀ w, Calls Tryd.prog 35 #[.int .u8 op] w fun e w' => e = .returned (.int .i64 1) ∧ w = w')
    (hd : decR n = if encR ⟨op, a, b, c, 0⟩ = (n, 0) then some ⟨op, a, b, c, 0⟩ else none) :
    Calls Tryd.prog 29 #[.int .u32 n] w (DecPost n w) := by
  have hn' : (n : Int) < 4294967296 := by omega
  have hop' : (n : Int) / 67108864 = (op : Int) := by omega
  have ha' : (n : Int) / 4194304 % 16 = (a : Int) := by omega
  have hb' : (n : Int) / 262144 % 16 = (b : Int) := by omega
  have HO := Lib.hid (show op < 256 by omega)
  have hol : (op : Int) < 256 := by omega
  have hal : (a : Int) < 16 := by omega
  have hbl : (b : Int) < 16 := by omega
  have HF := Lib.hid hf
  have HDX := Lib.hid hd
  have hc' : (n : Int) / 16384 % 16 = (c : Int) := by omega
  have hcl : (c : Int) < 16 := by omega
  clear hn hop ha hb hc hm hf hd
  go_enter Tryd.func29, Tryd.ntmps29
  go_wp2_with fail
  refine (HF.out _).mono ?_
  rintro e w1 ⟨rfl, hw1⟩
  have B1 : Hid (Below w.heap.size w w1) := hw1 ▸ (((Below.refl _ _).alloc (Nat.le_refl _) _).alloc (by simp) _)
  have g1 := Blk.new (w.alloc (.cells #[.int .u8 0, .int .u8 0, .int .u8 0, .int .u8 0, .int .i32 0] 41)) 41 #[.int .u8 op, .int .u8 a, .int .u8 b, .int .u8 0, .int .i32 0]
  rw [show (w.alloc (.cells #[.int .u8 0, .int .u8 0, .int .u8 0, .int .u8 0, .int .i32 0] 41)).heap.size = w.heap.size + 1 by simp] at g1
  have G1 : Hid (Blk w1 (w.heap.size + 1) 41 #[.int .u8 op, .int .u8 a, .int .u8 b, .int .u8 0, .int .i32 0]) := hw1 ▸ g1
  have G0 : Hid (Blk w1 w.heap.size 41 #[.int .u8 0, .int .u8 0, .int .u8 0, .int .u8 0, .int .i32 0]) := hw1 ▸ ((Blk.new w 41 #[.int .u8 0, .int .u8 0, .int .u8 0, .int .u8 0, .int .i32 0]).alloc (.cells #[.int .u8 op, .int .u8 a, .int .u8 b, .int .u8 0, .int .i32 0] 41))
  have hz1 := G1.out.lt
  clear hw1 g1 hop' ha' hb'
  have q0 : w1.cell? ⟨w.heap.size + 1, 0, none⟩ = some (.int .u8 op) := G1.out.cell 0 rfl
  have r0 : w1.frozen? ⟨w.heap.size + 1, 0, none⟩ = false := G1.out.frozen 0
  have q1 : w1.cell? ⟨w.heap.size + 1, 1, none⟩ = some (.int .u8 a) := G1.out.cell 1 rfl
  have r1 : w1.frozen? ⟨w.heap.size + 1, 1, none⟩ = false := G1.out.frozen 1
  have q2 : w1.cell? ⟨w.heap.size + 1, 2, none⟩ = some (.int .u8 b) := G1.out.cell 2 rfl
  have r2 : w1.frozen? ⟨w.heap.size + 1, 2, none⟩ = false := G1.out.frozen 2
  have q3 : w1.cell? ⟨w.heap.size + 1, 3, none⟩ = some (.int .u8 0) := G1.out.cell 3 rfl
  have r3 : w1.frozen? ⟨w.heap.size + 1, 3, none⟩ = false := G1.out.frozen 3
  have q4 : w1.cell? ⟨w.heap.size + 1, 4, none⟩ = some (.int .i32 0) := G1.out.cell 4 rfl
  have r4 : w1.frozen? ⟨w.heap.size + 1, 4, none⟩ = false := G1.out.frozen 4
  go_wp2_with fail
  refine (renc_any ⟨op, a, b, c, 0⟩ _ HO.out (by show -2147483648 ≤ (0 : Int); omega) (by show (0 : Int) < 2147483648; omega)).mono ?_
  rintro e w2 ⟨rfl, hb2⟩
  have hz0 := B1.out.size
  have B2 : Hid (Below w.heap.size w w2) := ((B1.out.setCell (p := ⟨w.heap.size + 1, 3, none⟩) (by show w.heap.size ≤ w.heap.size + 1; omega) _)).trans (hb2.mono (by (try simp); omega))
  have G2 : Hid (Blk w2 (w.heap.size + 1) 41 #[.int .u8 op, .int .u8 a, .int .u8 b, .int .u8 c, .int .i32 0]) := ((G1.out.set_ 3 _)).below hb2 (by (try simp); omega)
  have G3 : Hid (Blk w2 w.heap.size 41 #[.int .u8 0, .int .u8 0, .int .u8 0, .int .u8 0, .int .i32 0]) := ((G0.out.far (p := ⟨w.heap.size + 1, 3, none⟩) (by show w.heap.size ≠ w.heap.size + 1; omega) _)).below hb2 (by (try simp); omega)
  clear hb2
  clear q0 r0 q1 r1 q2 r2 q3 r3 q4 r4 G0 G1 B1 hz1 hz0
  have q0 : w2.cell? ⟨w.heap.size + 1, 0, none⟩ = some (.int .u8 op) := G2.out.cell 0 rfl
  have p0 : w2.cell? ⟨w.heap.size, 0, none⟩ = some (.int .u8 0) := G3.out.cell 0 rfl
  have f0 : w2.frozen? ⟨w.heap.size, 0, none⟩ = false := G3.out.frozen 0
  have q1 : w2.cell? ⟨w.heap.size + 1, 1, none⟩ = some (.int .u8 a) := G2.out.cell 1 rfl
  have p1 : w2.cell? ⟨w.heap.size, 1, none⟩ = some (.int .u8 0) := G3.out.cell 1 rfl
  have f1 : w2.frozen? ⟨w.heap.size, 1, none⟩ = false := G3.out.frozen 1
  have q2 : w2.cell? ⟨w.heap.size + 1, 2, none⟩ = some (.int .u8 b) := G2.out.cell 2 rfl
  have p2 : w2.cell? ⟨w.heap.size, 2, none⟩ = some (.int .u8 0) := G3.out.cell 2 rfl
  have f2 : w2.frozen? ⟨w.heap.size, 2, none⟩ = false := G3.out.frozen 2
  have q3 : w2.cell? ⟨w.heap.size + 1, 3, none⟩ = some (.int .u8 c) := G2.out.cell 3 rfl
  have p3 : w2.cell? ⟨w.heap.size, 3, none⟩ = some (.int .u8 0) := G3.out.cell 3 rfl
  have f3 : w2.frozen? ⟨w.heap.size, 3, none⟩ = false := G3.out.frozen 3
  have q4 : w2.cell? ⟨w.heap.size + 1, 4, none⟩ = some (.int .i32 0) := G2.out.cell 4 rfl
  have p4 : w2.cell? ⟨w.heap.size, 4, none⟩ = some (.int .i32 0) := G3.out.cell 4 rfl
  have f4 : w2.frozen? ⟨w.heap.size, 4, none⟩ = false := G3.out.frozen 4
  have hz := G3.out.lt
  have hz1 := G2.out.lt
  cases hr : encR ⟨op, a, b, c, 0⟩ with | mk v en
  have HD := Lib.hid (show decR n = if (v, en) = (n, 0) then some ⟨op, a, b, c, 0⟩ else none by rw [HDX.out, hr])
  clear hr HDX
  unfold encE
  by_cases h1 : en = 0
  case neg =>
    have HR := Lib.hid (show decR n = none by rw [HD.out, if_neg (by simp [h1])])
    have h1' : (en != 0) = true := by simp [h1]
    clear h1
    go_wp2
    refine bodyPost_ret (results_ct rfl rfl rfl (((((G3.out.set_ 0 _).set_ 1 _).set_ 2 _).set_ 3 _).set_ 4 _) Tryd.underlying41 rfl (by kernel_rfl)) rfl ?_
    unfold DecPost; rw [HR.out]
    exact ⟨rfl, (((((B2.out.setCell (Nat.le_refl _) _).setCell (Nat.le_refl _) _).setCell (Nat.le_refl _) _).setCell (Nat.le_refl _) _).setCell (Nat.le_refl _) _)⟩
  by_cases h2 : v = n
  case neg =>
    have HR := Lib.hid (show decR n = none by rw [HD.out, if_neg (by simp [h2])])
    have h1' : (en != 0) = false := by simp [h1]
    have h2' : ((v : Int) != (n : Int)) = true := by simp; omega
    clear h1 h2
    go_wp2
    refine bodyPost_ret (results_ct rfl rfl rfl (((((G3.out.set_ 0 _).set_ 1 _).set_ 2 _).set_ 3 _).set_ 4 _) Tryd.underlying41 rfl (by kernel_rfl)) rfl ?_
    unfold DecPost; rw [HR.out]
    exact ⟨rfl, (((((B2.out.setCell (Nat.le_refl _) _).setCell (Nat.le_refl _) _).setCell (Nat.le_refl _) _).setCell (Nat.le_refl _) _).setCell (Nat.le_refl _) _)⟩
  case pos =>
    have HR := Lib.hid (show decR n = some ⟨op, a, b, c, 0⟩ by rw [HD.out, if_pos (by simp [h1, h2])])
    have h1' : (en != 0) = false := by simp [h1]
    have h2' : ((v : Int) != (n : Int)) = false := by simp; omega
    clear h1 h2
    go_wp2
    refine bodyPost_ret (results_ct rfl rfl rfl (((((G3.out.set_ 0 _).set_ 1 _).set_ 2 _).set_ 3 _).set_ 4 _) Tryd.underlying41 rfl (by kernel_rfl)) rfl ?_
    unfold DecPost; rw [HR.out]
    exact ⟨rfl, (((((B2.out.setCell (Nat.le_refl _) _).setCell (Nat.le_refl _) _).setCell (Nat.le_refl _) _).setCell (Nat.le_refl _) _).setCell (Nat.le_refl _) _)⟩

set_option maxHeartbeats 2000000 in
theorem rdec_low (n op a b c m : Nat) (w : World) (hn : n < 4294967296) (hop : n / 67108864 = op) (ha : n / 4194304 % 16 = a) (hb : n / 262144 % 16 = b) (hc : n / 16384 % 16 = c) (hm : n % 65536 = m) (fm : Nat) (hfm : fm ≠ 1) (hlow : m ≤ 32767) (hf : ∀ w, Calls Tryd.prog 35 #[.int .u8 op] w fun e w' => e = .returned (.int .i64 fm) ∧ w = w')
    (hd : decR n = if encR ⟨op, a, b, 0, m⟩ = (n, 0) then some ⟨op, a, b, 0, m⟩ else none) :
    Calls Tryd.prog 29 #[.int .u32 n] w (DecPost n w) := by
  have hn' : (n : Int) < 4294967296 := by omega
  have hop' : (n : Int) / 67108864 = (op : Int) := by omega
  have ha' : (n : Int) / 4194304 % 16 = (a : Int) := by omega
  have hb' : (n : Int) / 262144 % 16 = (b : Int) := by omega
  have HO := Lib.hid (show op < 256 by omega)
  have hol : (op : Int) < 256 := by omega
  have hal : (a : Int) < 16 := by omega
  have hbl : (b : Int) < 16 := by omega
  have HF := Lib.hid hf
  have HDX := Lib.hid hd
  have hm' : (n : Int) % 65536 = (m : Int) := by omega
  have hml : (m : Int) < 65536 := by omega
  have hfm' : ((fm : Int) == 1) = false := by simp; omega
  clear hfm
  have hlow' : decide ((32767 : Int) < (m : Int)) = false := by simp; omega
  clear hlow
  clear hn hop ha hb hc hm hf hd
  go_enter Tryd.func29, Tryd.ntmps29
  go_wp2_with fail
  refine (HF.out _).mono ?_
  rintro e w1 ⟨rfl, hw1⟩
  have B1 : Hid (Below w.heap.size w w1) := hw1 ▸ (((Below.refl _ _).alloc (Nat.le_refl _) _).alloc (by simp) _)
  have g1 := Blk.new (w.alloc (.cells #[.int .u8 0, .int .u8 0, .int .u8 0, .int .u8 0, .int .i32 0] 41)) 41 #[.int .u8 op, .int .u8 a, .int .u8 b, .int .u8 0, .int .i32 0]
  rw [show (w.alloc (.cells #[.int .u8 0, .int .u8 0, .int .u8 0, .int .u8 0, .int .i32 0] 41)).heap.size = w.heap.size + 1 by simp] at g1
  have G1 : Hid (Blk w1 (w.heap.size + 1) 41 #[.int .u8 op, .int .u8 a, .int .u8 b, .int .u8 0, .int .i32 0]) := hw1 ▸ g1
  have G0 : Hid (Blk w1 w.heap.size 41 #[.int .u8 0, .int .u8 0, .int .u8 0, .int .u8 0, .int .i32 0]) := hw1 ▸ ((Blk.new w 41 #[.int .u8 0, .int .u8 0, .int .u8 0, .int .u8 0, .int .i32 0]).alloc (.cells #[.int .u8 op, .int .u8 a, .int .u8 b, .int .u8 0, .int .i32 0] 41))
  have hz1 := G1.out.lt
  clear hw1 g1 hop' ha' hb'
  have q0 : w1.cell? ⟨w.heap.size + 1, 0, none⟩ = some (.int .u8 op) := G1.out.cell 0 rfl
  have r0 : w1.frozen? ⟨w.heap.size + 1, 0, none⟩ = false := G1.out.frozen 0
  have q1 : w1.cell? ⟨w.heap.size + 1, 1, none⟩ = some (.int .u8 a) := G1.out.cell 1 rfl
  have r1 : w1.frozen? ⟨w.heap.size + 1, 1, none⟩ = false := G1.out.frozen 1
  have q2 : w1.cell? ⟨w.heap.size + 1, 2, none⟩ = some (.int .u8 b) := G1.out.cell 2 rfl
  have r2 : w1.frozen? ⟨w.heap.size + 1, 2, none⟩ = false := G1.out.frozen 2
  have q3 : w1.cell? ⟨w.heap.size + 1, 3, none⟩ = some (.int .u8 0) := G1.out.cell 3 rfl
  have r3 : w1.frozen? ⟨w.heap.size + 1, 3, none⟩ = false := G1.out.frozen 3
  have q4 : w1.cell? ⟨w.heap.size + 1, 4, none⟩ = some (.int .i32 0) := G1.out.cell 4 rfl
  have r4 : w1.frozen? ⟨w.heap.size + 1, 4, none⟩ = false := G1.out.frozen 4
  go_wp2_with fail
  refine (renc_any ⟨op, a, b, 0, m⟩ _ HO.out (by show -2147483648 ≤ (m : Int); omega) (by show (m : Int) < 2147483648; omega)).mono ?_
  rintro e w2 ⟨rfl, hb2⟩
  have hz0 := B1.out.size
  have B2 : Hid (Below w.heap.size w w2) := ((B1.out.setCell (p := ⟨w.heap.size + 1, 4, none⟩) (by show w.heap.size ≤ w.heap.size + 1; omega) _)).trans (hb2.mono (by (try simp); omega))
  have G2 : Hid (Blk w2 (w.heap.size + 1) 41 #[.int .u8 op, .int .u8 a, .int .u8 b, .int .u8 0, .int .i32 m]) := ((G1.out.set_ 4 _)).below hb2 (by (try simp); omega)
  have G3 : Hid (Blk w2 w.heap.size 41 #[.int .u8 0, .int .u8 0, .int .u8 0, .int .u8 0, .int .i32 0]) := ((G0.out.far (p := ⟨w.heap.size + 1, 4, none⟩) (by show w.heap.size ≠ w.heap.size + 1; omega) _)).below hb2 (by (try simp); omega)
  clear hb2
  clear q0 r0 q1 r1 q2 r2 q3 r3 q4 r4 G0 G1 B1 hz1 hz0
  have q0 : w2.cell? ⟨w.heap.size + 1, 0, none⟩ = some (.int .u8 op) := G2.out.cell 0 rfl
  have p0 : w2.cell? ⟨w.heap.size, 0, none⟩ = some (.int .u8 0) := G3.out.cell 0 rfl
  have f0 : w2.frozen? ⟨w.heap.size, 0, none⟩ = false := G3.out.frozen 0
  have q1 : w2.cell? ⟨w.heap.size + 1, 1, none⟩ = some (.int .u8 a) := G2.out.cell 1 rfl
  have p1 : w2.cell? ⟨w.heap.size, 1, none⟩ = some (.int .u8 0) := G3.out.cell 1 rfl
  have f1 : w2.frozen? ⟨w.heap.size, 1, none⟩ = false := G3.out.frozen 1
  have q2 : w2.cell? ⟨w.heap.size + 1, 2, none⟩ = some (.int .u8 b) := G2.out.cell 2 rfl
  have p2 : w2.cell? ⟨w.heap.size, 2, none⟩ = some (.int .u8 0) := G3.out.cell 2 rfl
  have f2 : w2.frozen? ⟨w.heap.size, 2, none⟩ = false := G3.out.frozen 2
  have q3 : w2.cell? ⟨w.heap.size + 1, 3, none⟩ = some (.int .u8 0) := G2.out.cell 3 rfl
  have p3 : w2.cell? ⟨w.heap.size, 3, none⟩ = some (.int .u8 0) := G3.out.cell 3 rfl
  have f3 : w2.frozen? ⟨w.heap.size, 3, none⟩ = false := G3.out.frozen 3
  have q4 : w2.cell? ⟨w.heap.size + 1, 4, none⟩ = some (.int .i32 m) := G2.out.cell 4 rfl
  have p4 : w2.cell? ⟨w.heap.size, 4, none⟩ = some (.int .i32 0) := G3.out.cell 4 rfl
  have f4 : w2.frozen? ⟨w.heap.size, 4, none⟩ = false := G3.out.frozen 4
  have hz := G3.out.lt
  have hz1 := G2.out.lt
  cases hr : encR ⟨op, a, b, 0, m⟩ with | mk v en
  have HD := Lib.hid (show decR n = if (v, en) = (n, 0) then some ⟨op, a, b, 0, m⟩ else none by rw [HDX.out, hr])
  clear hr HDX
  unfold encE
  by_cases h1 : en = 0
  case neg =>
    have HR := Lib.hid (show decR n = none by rw [HD.out, if_neg (by simp [h1])])
    have h1' : (en != 0) = true := by simp [h1]
    clear h1
    go_wp2
    refine bodyPost_ret (results_ct rfl rfl rfl (((((G3.out.set_ 0 _).set_ 1 _).set_ 2 _).set_ 3 _).set_ 4 _) Tryd.underlying41 rfl (by kernel_rfl)) rfl ?_
    unfold DecPost; rw [HR.out]
    exact ⟨rfl, (((((B2.out.setCell (Nat.le_refl _) _).setCell (Nat.le_refl _) _).setCell (Nat.le_refl _) _).setCell (Nat.le_refl _) _).setCell (Nat.le_refl _) _)⟩
  by_cases h2 : v = n
  case neg =>
    have HR := Lib.hid (show decR n = none by rw [HD.out, if_neg (by simp [h2])])
    have h1' : (en != 0) = false := by simp [h1]
    have h2' : ((v : Int) != (n : Int)) = true := by simp; omega
    clear h1 h2
    go_wp2
    refine bodyPost_ret (results_ct rfl rfl rfl (((((G3.out.set_ 0 _).set_ 1 _).set_ 2 _).set_ 3 _).set_ 4 _) Tryd.underlying41 rfl (by kernel_rfl)) rfl ?_
    unfold DecPost; rw [HR.out]
    exact ⟨rfl, (((((B2.out.setCell (Nat.le_refl _) _).setCell (Nat.le_refl _) _).setCell (Nat.le_refl _) _).setCell (Nat.le_refl _) _).setCell (Nat.le_refl _) _)⟩
  case pos =>
    have HR := Lib.hid (show decR n = some ⟨op, a, b, 0, m⟩ by rw [HD.out, if_pos (by simp [h1, h2])])
    have h1' : (en != 0) = false := by simp [h1]
    have h2' : ((v : Int) != (n : Int)) = false := by simp; omega
    clear h1 h2
    go_wp2
    refine bodyPost_ret (results_ct rfl rfl rfl (((((G3.out.set_ 0 _).set_ 1 _).set_ 2 _).set_ 3 _).set_ 4 _) Tryd.underlying41 rfl (by kernel_rfl)) rfl ?_
    unfold DecPost; rw [HR.out]
    exact ⟨rfl, (((((B2.out.setCell (Nat.le_refl _) _).setCell (Nat.le_refl _) _).setCell (Nat.le_refl _) _).setCell (Nat.le_refl _) _).setCell (Nat.le_refl _) _)⟩

set_option maxHeartbeats 2000000 in
theorem rdec_u (n op a b c m : Nat) (w : World) (hn : n < 4294967296) (hop : n / 67108864 = op) (ha : n / 4194304 % 16 = a) (hb : n / 262144 % 16 = b) (hc : n / 16384 % 16 = c) (hm : n % 65536 = m) (fm : Nat) (hfm : fm ≠ 1) (hlow : 32767 < m) (hu : fU op = true) (hf : ∀ w, Calls Tryd.prog 35 #[.int .u8 op] w fun e w' => e = .returned (.int .i64 fm) ∧ w = w')
    (hd : decR n = if encR ⟨op, a, b, 0, m⟩ = (n, 0) then some ⟨op, a, b, 0, m⟩ else none) :
    Calls Tryd.prog 29 #[.int .u32 n] w (DecPost n w) := by
  have hn' : (n : Int) < 4294967296 := by omega
  have hop' : (n : Int) / 67108864 = (op : Int) := by omega
  have ha' : (n : Int) / 4194304 % 16 = (a : Int) := by omega
  have hb' : (n : Int) / 262144 % 16 = (b : Int) := by omega
  have HO := Lib.hid (show op < 256 by omega)
  have hol : (op : Int) < 256 := by omega
  have hal : (a : Int) < 16 := by omega
  have hbl : (b : Int) < 16 := by omega
  have HF := Lib.hid hf
  have HDX := Lib.hid hd
  have hm' : (n : Int) % 65536 = (m : Int) := by omega
  have hml : (m : Int) < 65536 := by omega
  have hfm' : ((fm : Int) == 1) = false := by simp; omega
  clear hfm
  have hlow' : (32767 : Int) < (m : Int) := by omega
  have HU := Lib.hid hu
  clear hlow hu
  clear hn hop ha hb hc hm hf hd
  go_enter Tryd.func29, Tryd.ntmps29
  go_wp2_with fail
  refine (HF.out _).mono ?_
  rintro e w1 ⟨rfl, hw1⟩
  have B1 : Hid (Below w.heap.size w w1) := hw1 ▸ (((Below.refl _ _).alloc (Nat.le_refl _) _).alloc (by simp) _)
  have g1 := Blk.new (w.alloc (.cells #[.int .u8 0, .int .u8 0, .int .u8 0, .int .u8 0, .int .i32 0] 41)) 41 #[.int .u8 op, .int .u8 a, .int .u8 b, .int .u8 0, .int .i32 0]
  rw [show (w.alloc (.cells #[.int .u8 0, .int .u8 0, .int .u8 0, .int .u8 0, .int .i32 0] 41)).heap.size = w.heap.size + 1 by simp] at g1
  have G1 : Hid (Blk w1 (w.heap.size + 1) 41 #[.int .u8 op, .int .u8 a, .int .u8 b, .int .u8 0, .int .i32 0]) := hw1 ▸ g1
  have G0 : Hid (Blk w1 w.heap.size 41 #[.int .u8 0, .int .u8 0, .int .u8 0, .int .u8 0, .int .i32 0]) := hw1 ▸ ((Blk.new w 41 #[.int .u8 0, .int .u8 0, .int .u8 0, .int .u8 0, .int .i32 0]).alloc (.cells #[.int .u8 op, .int .u8 a, .int .u8 b, .int .u8 0, .int .i32 0] 41))
  have hz1 := G1.out.lt
  clear hw1 g1 hop' ha' hb'
  have q0 : w1.cell? ⟨w.heap.size + 1, 0, none⟩ = some (.int .u8 op) := G1.out.cell 0 rfl
  have r0 : w1.frozen? ⟨w.heap.size + 1, 0, none⟩ = false := G1.out.frozen 0
  have q1 : w1.cell? ⟨w.heap.size + 1, 1, none⟩ = some (.int .u8 a) := G1.out.cell 1 rfl
  have r1 : w1.frozen? ⟨w.heap.size + 1, 1, none⟩ = false := G1.out.frozen 1
  have q2 : w1.cell? ⟨w.heap.size + 1, 2, none⟩ = some (.int .u8 b) := G1.out.cell 2 rfl
  have r2 : w1.frozen? ⟨w.heap.size + 1, 2, none⟩ = false := G1.out.frozen 2
  have q3 : w1.cell? ⟨w.heap.size + 1, 3, none⟩ = some (.int .u8 0) := G1.out.cell 3 rfl
  have r3 : w1.frozen? ⟨w.heap.size + 1, 3, none⟩ = false := G1.out.frozen 3
  have q4 : w1.cell? ⟨w.heap.size + 1, 4, none⟩ = some (.int .i32 0) := G1.out.cell 4 rfl
  have r4 : w1.frozen? ⟨w.heap.size + 1, 4, none⟩ = false := G1.out.frozen 4
  go_wp2_with fail
  refine (plain_any op _ HO.out).mono ?_
  rintro e w3 ⟨rfl, hw3⟩
  rw [HU.out]
  have B3 : Hid (Below w.heap.size w w3) := hw3 ▸ ((B1.out.setCell (p := ⟨w.heap.size + 1, 4, none⟩) (by show w.heap.size ≤ w.heap.size + 1; omega) _))
  have G2 : Hid (Blk w3 (w.heap.size + 1) 41 #[.int .u8 op, .int .u8 a, .int .u8 b, .int .u8 0, .int .i32 m]) := hw3 ▸ ((G1.out.set_ 4 _))
  have G3 : Hid (Blk w3 w.heap.size 41 #[.int .u8 0, .int .u8 0, .int .u8 0, .int .u8 0, .int .i32 0]) := hw3 ▸ ((G0.out.far (p := ⟨w.heap.size + 1, 4, none⟩) (by show w.heap.size ≠ w.heap.size + 1; omega) _))
  clear hw3
  clear q0 r0 q1 r1 q2 r2 q3 r3 q4 r4 G0 G1 B1 hz1
  have q0 : w3.cell? ⟨w.heap.size + 1, 0, none⟩ = some (.int .u8 op) := G2.out.cell 0 rfl
  have r0 : w3.frozen? ⟨w.heap.size + 1, 0, none⟩ = false := G2.out.frozen 0
  have q1 : w3.cell? ⟨w.heap.size + 1, 1, none⟩ = some (.int .u8 a) := G2.out.cell 1 rfl
  have r1 : w3.frozen? ⟨w.heap.size + 1, 1, none⟩ = false := G2.out.frozen 1
  have q2 : w3.cell? ⟨w.heap.size + 1, 2, none⟩ = some (.int .u8 b) := G2.out.cell 2 rfl
  have r2 : w3.frozen? ⟨w.heap.size + 1, 2, none⟩ = false := G2.out.frozen 2
  have q3 : w3.cell? ⟨w.heap.size + 1, 3, none⟩ = some (.int .u8 0) := G2.out.cell 3 rfl
  have r3 : w3.frozen? ⟨w.heap.size + 1, 3, none⟩ = false := G2.out.frozen 3
  have q4 : w3.cell? ⟨w.heap.size + 1, 4, none⟩ = some (.int .i32 m) := G2.out.cell 4 rfl
  have r4 : w3.frozen? ⟨w.heap.size + 1, 4, none⟩ = false := G2.out.frozen 4
  have hz1 := G2.out.lt
  have G1 := G2
  have G0 := G3
  have B1 := B3
  clear G2 G3 B3
  go_wp2_with fail
  refine (renc_any ⟨op, a, b, 0, m⟩ _ HO.out (by show -2147483648 ≤ (m : Int); omega) (by show (m : Int) < 2147483648; omega)).mono ?_
  rintro e w2 ⟨rfl, hb2⟩
  have hz0 := B1.out.size
  have B2 : Hid (Below w.heap.size w w2) := (B1.out).trans (hb2.mono (by (try simp); omega))
  have G2 : Hid (Blk w2 (w.heap.size + 1) 41 #[.int .u8 op, .int .u8 a, .int .u8 b, .int .u8 0, .int .i32 m]) := (G1.out).below hb2 (by (try simp); omega)
  have G3 : Hid (Blk w2 w.heap.size 41 #[.int .u8 0, .int .u8 0, .int .u8 0, .int .u8 0, .int .i32 0]) := (G0.out).below hb2 (by (try simp); omega)
  clear hb2
  clear q0 r0 q1 r1 q2 r2 q3 r3 q4 r4 G0 G1 B1 hz1 hz0
  have q0 : w2.cell? ⟨w.heap.size + 1, 0, none⟩ = some (.int .u8 op) := G2.out.cell 0 rfl
  have p0 : w2.cell? ⟨w.heap.size, 0, none⟩ = some (.int .u8 0) := G3.out.cell 0 rfl
  have f0 : w2.frozen? ⟨w.heap.size, 0, none⟩ = false := G3.out.frozen 0
  have q1 : w2.cell? ⟨w.heap.size + 1, 1, none⟩ = some (.int .u8 a) := G2.out.cell 1 rfl
  have p1 : w2.cell? ⟨w.heap.size, 1, none⟩ = some (.int .u8 0) := G3.out.cell 1 rfl
  have f1 : w2.frozen? ⟨w.heap.size, 1, none⟩ = false := G3.out.frozen 1
  have q2 : w2.cell? ⟨w.heap.size + 1, 2, none⟩ = some (.int .u8 b) := G2.out.cell 2 rfl
  have p2 : w2.cell? ⟨w.heap.size, 2, none⟩ = some (.int .u8 0) := G3.out.cell 2 rfl
  have f2 : w2.frozen? ⟨w.heap.size, 2, none⟩ = false := G3.out.frozen 2
  have q3 : w2.cell? ⟨w.heap.size + 1, 3, none⟩ = some (.int .u8 0) := G2.out.cell 3 rfl
  have p3 : w2.cell? ⟨w.heap.size, 3, none⟩ = some (.int .u8 0) := G3.out.cell 3 rfl
  have f3 : w2.frozen? ⟨w.heap.size, 3, none⟩ = false := G3.out.frozen 3
  have q4 : w2.cell? ⟨w.heap.size + 1, 4, none⟩ = some (.int .i32 m) := G2.out.cell 4 rfl
  have p4 : w2.cell? ⟨w.heap.size, 4, none⟩ = some (.int .i32 0) := G3.out.cell 4 rfl
  have f4 : w2.frozen? ⟨w.heap.size, 4, none⟩ = false := G3.out.frozen 4
  have hz := G3.out.lt
  have hz1 := G2.out.lt
  cases hr : encR ⟨op, a, b, 0, m⟩ with | mk v en
  have HD := Lib.hid (show decR n = if (v, en) = (n, 0) then some ⟨op, a, b, 0, m⟩ else none by rw [HDX.out, hr])
  clear hr HDX
  unfold encE
  by_cases h1 : en = 0
  case neg =>
    have HR := Lib.hid (show decR n = none by rw [HD.out, if_neg (by simp [h1])])
    have h1' : (en != 0) = true := by simp [h1]
    clear h1
    go_wp2
    refine bodyPost_ret (results_ct rfl rfl rfl (((((G3.out.set_ 0 _).set_ 1 _).set_ 2 _).set_ 3 _).set_ 4 _) Tryd.underlying41 rfl (by kernel_rfl)) rfl ?_
    unfold DecPost; rw [HR.out]
    exact ⟨rfl, (((((B2.out.setCell (Nat.le_refl _) _).setCell (Nat.le_refl _) _).setCell (Nat.le_refl _) _).setCell (Nat.le_refl _) _).setCell (Nat.le_refl _) _)⟩
  by_cases h2 : v = n
  case neg =>
    have HR := Lib.hid (show decR n = none by rw [HD.out, if_neg (by simp [h2])])
    have h1' : (en != 0) = false := by simp [h1]
    have h2' : ((v : Int) != (n : Int)) = true := by simp; omega
    clear h1 h2
    go_wp2
    refine bodyPost_ret (results_ct rfl rfl rfl (((((G3.out.set_ 0 _).set_ 1 _).set_ 2 _).set_ 3 _).set_ 4 _) Tryd.underlying41 rfl (by kernel_rfl)) rfl ?_
    unfold DecPost; rw [HR.out]
    exact ⟨rfl, (((((B2.out.setCell (Nat.le_refl _) _).setCell (Nat.le_refl _) _).setCell (Nat.le_refl _) _).setCell (Nat.le_refl _) _).setCell (Nat.le_refl _) _)⟩
  case pos =>
    have HR := Lib.hid (show decR n = some ⟨op, a, b, 0, m⟩ by rw [HD.out, if_pos (by simp [h1, h2])])
    have h1' : (en != 0) = false := by simp [h1]
    have h2' : ((v : Int) != (n : Int)) = false := by simp; omega
    clear h1 h2
    go_wp2
    refine bodyPost_ret (results_ct rfl rfl rfl (((((G3.out.set_ 0 _).set_ 1 _).set_ 2 _).set_ 3 _).set_ 4 _) Tryd.underlying41 rfl (by kernel_rfl)) rfl ?_
    unfold DecPost; rw [HR.out]
    exact ⟨rfl, (((((B2.out.setCell (Nat.le_refl _) _).setCell (Nat.le_refl _) _).setCell (Nat.le_refl _) _).setCell (Nat.le_refl _) _).setCell (Nat.le_refl _) _)⟩

set_option maxHeartbeats 2000000 in
theorem rdec_s (n op a b c m : Nat) (w : World) (hn : n < 4294967296) (hop : n / 67108864 = op) (ha : n / 4194304 % 16 = a) (hb : n / 262144 % 16 = b) (hc : n / 16384 % 16 = c) (hm : n % 65536 = m) (fm : Nat) (hfm : fm ≠ 1) (hlow : 32767 < m) (hu : fU op = false) (hf : ∀ w, Calls Tryd.prog 35 #[.int .u8 op] w fun e w' => e = .returned (.int .i64 fm) ∧ w = w')
    (hd : decR n = if encR ⟨op, a, b, 0, ((m : Int) - 65536)⟩ = (n, 0) then some ⟨op, a, b, 0, ((m : Int) - 65536)⟩ else none) :
    Calls Tryd.prog 29 #[.int .u32 n] w (DecPost n w) := by
  have hn' : (n : Int) < 4294967296 := by omega
  have hop' : (n : Int) / 67108864 = (op : Int) := by omega
  have ha' : (n : Int) / 4194304 % 16 = (a : Int) := by omega
  have hb' : (n : Int) / 262144 % 16 = (b : Int) := by omega
  have HO := Lib.hid (show op < 256 by omega)
  have hol : (op : Int) < 256 := by omega
  have hal : (a : Int) < 16 := by omega
  have hbl : (b : Int) < 16 := by omega
  have HF := Lib.hid hf
  have HDX := Lib.hid hd
  have hm' : (n : Int) % 65536 = (m : Int) := by omega
  have hml : (m : Int) < 65536 := by omega
  have hfm' : ((fm : Int) == 1) = false := by simp; omega
  clear hfm
  have hlow' : (32767 : Int) < (m : Int) := by omega
  have HU := Lib.hid hu
  clear hlow hu
  clear hn hop ha hb hc hm hf hd
  go_enter Tryd.func29, Tryd.ntmps29
  go_wp2_with fail
  refine (HF.out _).mono ?_
  rintro e w1 ⟨rfl, hw1⟩
  have B1 : Hid (Below w.heap.size w w1) := hw1 ▸ (((Below.refl _ _).alloc (Nat.le_refl _) _).alloc (by simp) _)
  have g1 := Blk.new (w.alloc (.cells #[.int .u8 0, .int .u8 0, .int .u8 0, .int .u8 0, .int .i32 0] 41)) 41 #[.int .u8 op, .int .u8 a, .int .u8 b, .int .u8 0, .int .i32 0]
  rw [show (w.alloc (.cells #[.int .u8 0, .int .u8 0, .int .u8 0, .int .u8 0, .int .i32 0] 41)).heap.size = w.heap.size + 1 by simp] at g1
  have G1 : Hid (Blk w1 (w.heap.size + 1) 41 #[.int .u8 op, .int .u8 a, .int .u8 b, .int .u8 0, .int .i32 0]) := hw1 ▸ g1
  have G0 : Hid (Blk w1 w.heap.size 41 #[.int .u8 0, .int .u8 0, .int .u8 0, .int .u8 0, .int .i32 0]) := hw1 ▸ ((Blk.new w 41 #[.int .u8 0, .int .u8 0, .int .u8 0, .int .u8 0, .int .i32 0]).alloc (.cells #[.int .u8 op, .int .u8 a, .int .u8 b, .int .u8 0, .int .i32 0] 41))
  have hz1 := G1.out.lt
  clear hw1 g1 hop' ha' hb'
  have q0 : w1.cell? ⟨w.heap.size + 1, 0, none⟩ = some (.int .u8 op) := G1.out.cell 0 rfl
  have r0 : w1.frozen? ⟨w.heap.size + 1, 0, none⟩ = false := G1.out.frozen 0
  have q1 : w1.cell? ⟨w.heap.size + 1, 1, none⟩ = some (.int .u8 a) := G1.out.cell 1 rfl
  have r1 : w1.frozen? ⟨w.heap.size + 1, 1, none⟩ = false := G1.out.frozen 1
  have q2 : w1.cell? ⟨w.heap.size + 1, 2, none⟩ = some (.int .u8 b) := G1.out.cell 2 rfl
  have r2 : w1.frozen? ⟨w.heap.size + 1, 2, none⟩ = false := G1.out.frozen 2
  have q3 : w1.cell? ⟨w.heap.size + 1, 3, none⟩ = some (.int .u8 0) := G1.out.cell 3 rfl
  have r3 : w1.frozen? ⟨w.heap.size + 1, 3, none⟩ = false := G1.out.frozen 3
  have q4 : w1.cell? ⟨w.heap.size + 1, 4, none⟩ = some (.int .i32 0) := G1.out.cell 4 rfl
  have r4 : w1.frozen? ⟨w.heap.size + 1, 4, none⟩ = false := G1.out.frozen 4
  go_wp2_with fail
  refine (plain_any op _ HO.out).mono ?_
  rintro e w3 ⟨rfl, hw3⟩
  rw [HU.out]
  have B3 : Hid (Below w.heap.size w w3) := hw3 ▸ ((B1.out.setCell (p := ⟨w.heap.size + 1, 4, none⟩) (by show w.heap.size ≤ w.heap.size + 1; omega) _))
  have G2 : Hid (Blk w3 (w.heap.size + 1) 41 #[.int .u8 op, .int .u8 a, .int .u8 b, .int .u8 0, .int .i32 m]) := hw3 ▸ ((G1.out.set_ 4 _))
  have G3 : Hid (Blk w3 w.heap.size 41 #[.int .u8 0, .int .u8 0, .int .u8 0, .int .u8 0, .int .i32 0]) := hw3 ▸ ((G0.out.far (p := ⟨w.heap.size + 1, 4, none⟩) (by show w.heap.size ≠ w.heap.size + 1; omega) _))
  clear hw3
  clear q0 r0 q1 r1 q2 r2 q3 r3 q4 r4 G0 G1 B1 hz1
  have q0 : w3.cell? ⟨w.heap.size + 1, 0, none⟩ = some (.int .u8 op) := G2.out.cell 0 rfl
  have r0 : w3.frozen? ⟨w.heap.size + 1, 0, none⟩ = false := G2.out.frozen 0
  have q1 : w3.cell? ⟨w.heap.size + 1, 1, none⟩ = some (.int .u8 a) := G2.out.cell 1 rfl
  have r1 : w3.frozen? ⟨w.heap.size + 1, 1, none⟩ = false := G2.out.frozen 1
  have q2 : w3.cell? ⟨w.heap.size + 1, 2, none⟩ = some (.int .u8 b) := G2.out.cell 2 rfl
  have r2 : w3.frozen? ⟨w.heap.size + 1, 2, none⟩ = false := G2.out.frozen 2
  have q3 : w3.cell? ⟨w.heap.size + 1, 3, none⟩ = some (.int .u8 0) := G2.out.cell 3 rfl
  have r3 : w3.frozen? ⟨w.heap.size + 1, 3, none⟩ = false := G2.out.frozen 3
  have q4 : w3.cell? ⟨w.heap.size + 1, 4, none⟩ = some (.int .i32 m) := G2.out.cell 4 rfl
  have r4 : w3.frozen? ⟨w.heap.size + 1, 4, none⟩ = false := G2.out.frozen 4
  have hz1 := G2.out.lt
  have G1 := G2
  have G0 := G3
  have B1 := B3
  clear G2 G3 B3
  go_wp2_with fail
  refine (renc_any ⟨op, a, b, 0, ((m : Int) - 65536)⟩ _ HO.out (by show -2147483648 ≤ (((m : Int) - 65536) : Int); omega) (by show (((m : Int) - 65536) : Int) < 2147483648; omega)).mono ?_
  rintro e w2 ⟨rfl, hb2⟩
  have hz0 := B1.out.size
  have B2 : Hid (Below w.heap.size w w2) := ((B1.out.setCell (p := ⟨w.heap.size + 1, 4, none⟩) (by show w.heap.size ≤ w.heap.size + 1; omega) _)).trans (hb2.mono (by (try simp); omega))
  have G2 : Hid (Blk w2 (w.heap.size + 1) 41 #[.int .u8 op, .int .u8 a, .int .u8 b, .int .u8 0, .int .i32 ((m : Int) - 65536)]) := ((G1.out.set_ 4 _)).below hb2 (by (try simp); omega)
  have G3 : Hid (Blk w2 w.heap.size 41 #[.int .u8 0, .int .u8 0, .int .u8 0, .int .u8 0, .int .i32 0]) := ((G0.out.far (p := ⟨w.heap.size + 1, 4, none⟩) (by show w.heap.size ≠ w.heap.size + 1; omega) _)).below hb2 (by (try simp); omega)
  clear hb2
  clear q0 r0 q1 r1 q2 r2 q3 r3 q4 r4 G0 G1 B1 hz1 hz0
  have q0 : w2.cell? ⟨w.heap.size + 1, 0, none⟩ = some (.int .u8 op) := G2.out.cell 0 rfl
  have p0 : w2.cell? ⟨w.heap.size, 0, none⟩ = some (.int .u8 0) := G3.out.cell 0 rfl
  have f0 : w2.frozen? ⟨w.heap.size, 0, none⟩ = false := G3.out.frozen 0
  have q1 : w2.cell? ⟨w.heap.size + 1, 1, none⟩ = some (.int .u8 a) := G2.out.cell 1 rfl
  have p1 : w2.cell? ⟨w.heap.size, 1, none⟩ = some (.int .u8 0) := G3.out.cell 1 rfl
  have f1 : w2.frozen? ⟨w.heap.size, 1, none⟩ = false := G3.out.frozen 1
  have q2 : w2.cell? ⟨w.heap.size + 1, 2, none⟩ = some (.int .u8 b) := G2.out.cell 2 rfl
  have p2 : w2.cell? ⟨w.heap.size, 2, none⟩ = some (.int .u8 0) := G3.out.cell 2 rfl
  have f2 : w2.frozen? ⟨w.heap.size, 2, none⟩ = false := G3.out.frozen 2
  have q3 : w2.cell? ⟨w.heap.size + 1, 3, none⟩ = some (.int .u8 0) := G2.out.cell 3 rfl
  have p3 : w2.cell? ⟨w.heap.size, 3, none⟩ = some (.int .u8 0) := G3.out.cell 3 rfl
  have f3 : w2.frozen? ⟨w.heap.size, 3, none⟩ = false := G3.out.frozen 3
  have q4 : w2.cell? ⟨w.heap.size + 1, 4, none⟩ = some (.int .i32 ((m : Int) - 65536)) := G2.out.cell 4 rfl
  have p4 : w2.cell? ⟨w.heap.size, 4, none⟩ = some (.int .i32 0) := G3.out.cell 4 rfl
  have f4 : w2.frozen? ⟨w.heap.size, 4, none⟩ = false := G3.out.frozen 4
  have hz := G3.out.lt
  have hz1 := G2.out.lt
  cases hr : encR ⟨op, a, b, 0, ((m : Int) - 65536)⟩ with | mk v en
  have HD := Lib.hid (show decR n = if (v, en) = (n, 0) then some ⟨op, a, b, 0, ((m : Int) - 65536)⟩ else none by rw [HDX.out, hr])
  clear hr HDX
  unfold encE
  by_cases h1 : en = 0
  case neg =>
    have HR := Lib.hid (show decR n = none by rw [HD.out, if_neg (by simp [h1])])
    have h1' : (en != 0) = true := by simp [h1]
    clear h1
    go_wp2
    refine bodyPost_ret (results_ct rfl rfl rfl (((((G3.out.set_ 0 _).set_ 1 _).set_ 2 _).set_ 3 _).set_ 4 _) Tryd.underlying41 rfl (by kernel_rfl)) rfl ?_
    unfold DecPost; rw [HR.out]
    exact ⟨rfl, (((((B2.out.setCell (Nat.le_refl _) _).setCell (Nat.le_refl _) _).setCell (Nat.le_refl _) _).setCell (Nat.le_refl _) _).setCell (Nat.le_refl _) _)⟩
  by_cases h2 : v = n
  case neg =>
    have HR := Lib.hid (show decR n = none by rw [HD.out, if_neg (by simp [h2])])
    have h1' : (en != 0) = false := by simp [h1]
    have h2' : ((v : Int) != (n : Int)) = true := by simp; omega
    clear h1 h2
    go_wp2
    refine bodyPost_ret (results_ct rfl rfl rfl (((((G3.out.set_ 0 _).set_ 1 _).set_ 2 _).set_ 3 _).set_ 4 _) Tryd.underlying41 rfl (by kernel_rfl)) rfl ?_
    unfold DecPost; rw [HR.out]
    exact ⟨rfl, (((((B2.out.setCell (Nat.le_refl _) _).setCell (Nat.le_refl _) _).setCell (Nat.le_refl _) _).setCell (Nat.le_refl _) _).setCell (Nat.le_refl _) _)⟩
  case pos =>
    have HR := Lib.hid (show decR n = some ⟨op, a, b, 0, ((m : Int) - 65536)⟩ by rw [HD.out, if_pos (by simp [h1, h2])])
    have h1' : (en != 0) = false := by simp [h1]
    have h2' : ((v : Int) != (n : Int)) = false := by simp; omega
    clear h1 h2
    go_wp2
    refine bodyPost_ret (results_ct rfl rfl rfl (((((G3.out.set_ 0 _).set_ 1 _).set_ 2 _).set_ 3 _).set_ 4 _) Tryd.underlying41 rfl (by kernel_rfl)) rfl ?_
    unfold DecPost; rw [HR.out]
    exact ⟨rfl, (((((B2.out.setCell (Nat.le_refl _) _).setCell (Nat.le_refl _) _).setCell (Nat.le_refl _) _).setCell (Nat.le_refl _) _).setCell (Nat.le_refl _) _)⟩


theorem rdec_imm (n : Nat) (w : World) (fm : Nat) (hfm : fm ≠ 1) (hn : n < 4294967296) (hf : ∀ w, Calls Tryd.prog 35 #[.int .u8 (n / 67108864 : Nat)] w fun e w' => e = .returned (.int .i64 fm) ∧ w = w')
    (hd : ∀ imm, imm = (if fU (n / 67108864) = true then ((n % 65536 : Nat) : Int) else sx16 (n % 65536)) → decR n = if encR ⟨n / 67108864, n / 4194304 % 16, n / 262144 % 16, 0, imm⟩ = (n, 0) then some ⟨n / 67108864, n / 4194304 % 16, n / 262144 % 16, 0, imm⟩ else none) :
    Calls Tryd.prog 29 #[.int .u32 n] w (DecPost n w) := by
  by_cases hlow : n % 65536 ≤ 32767
  · refine rdec_low n _ _ _ _ _ w hn rfl rfl rfl rfl rfl fm hfm hlow hf (hd _ ?_)
    split
    · rfl
    · unfold sx16; rw [if_pos (by omega)]
  · cases hu : fU (n / 67108864) with
    | true => exact rdec_u n _ _ _ _ _ w hn rfl rfl rfl rfl rfl fm hfm (by omega) hu hf (hd _ (by rw [if_pos hu]))
    | false => exact rdec_s n _ _ _ _ _ w hn rfl rfl rfl rfl rfl fm hfm (by omega) hu hf (hd _ (by rw [if_neg (by simp [hu])]; unfold sx16; rw [if_neg (by omega)]))
theorem rdec_any (n : Nat) (w : World) (hn : n < 4294967296) : Calls Tryd.prog 29 #[.int .u32 n] w (DecPost n w) := by
  have hnone : fOk (n / 67108864) = false → ∀ imm, decR n = if encR ⟨n / 67108864, n / 4194304 % 16, n / 262144 % 16, 0, imm⟩ = (n, 0) then some ⟨n / 67108864, n / 4194304 % 16, n / 262144 % 16, 0, imm⟩ else none := by
    intro h imm
    rw [enc_none h, if_neg (by simp)]
    unfold decR; rw [if_pos h]
  have hgood : fC (n / 67108864) = false ∧ fI (n / 67108864) = true ∧ fOk (n / 67108864) = true → ∀ imm, imm = (if fU (n / 67108864) = true then ((n % 65536 : Nat) : Int) else sx16 (n % 65536)) → decR n = if encR ⟨n / 67108864, n / 4194304 % 16, n / 262144 % 16, 0, imm⟩ = (n, 0) then some ⟨n / 67108864, n / 4194304 % 16, n / 262144 % 16, 0, imm⟩ else none := by
    rintro ⟨h1, h2, h3⟩ imm rfl
    have hx : decX n = ⟨n / 67108864, n / 4194304 % 16, n / 262144 % 16, 0, if fU (n / 67108864) = true then ((n % 65536 : Nat) : Int) else sx16 (n % 65536)⟩ := by
      unfold decX; rw [h1, h2]; rfl
    unfold decR; rw [if_neg (by simp [h3]), hx]
  by_cases h : n / 67108864 = 0
  · exact rdec_imm n w 0 (by omega) hn (fun w => by rw [h]; exact form_0 w) (fun imm _ => hnone (f_none (by omega)).2.2.2.2 imm)
  by_cases h : 1 ≤ n / 67108864 ∧ n / 67108864 ≤ 13
  · have hh := f_one h.1 h.2
    refine rdec_c n _ _ _ _ _ w hn rfl rfl rfl rfl rfl (fun w => form_1 _ w h.1 h.2) ?_
    have hx : decX n = ⟨n / 67108864, n / 4194304 % 16, n / 262144 % 16, n / 16384 % 16, 0⟩ := by
      unfold decX; rw [hh.2.2.1, hh.2.2.2.1]; rfl
    unfold decR; rw [if_neg (by simp [hh.2.2.2.2]), hx]
  by_cases h : 14 ≤ n / 67108864 ∧ n / 67108864 ≤ 18
  · exact rdec_imm n w 2 (by omega) hn (fun w => form_14 _ w h.1 h.2) (hgood (by simp only [fC, fI, fOk, decide_eq_false_iff_not, decide_eq_true_eq]; omega))
  by_cases h : n / 67108864 = 19
  · exact rdec_imm n w 3 (by omega) hn (fun w => by rw [h]; exact form_19 w) (hgood (by simp only [fC, fI, fOk, decide_eq_false_iff_not, decide_eq_true_eq]; omega))
  by_cases h : 20 ≤ n / 67108864 ∧ n / 67108864 ≤ 24
  · exact rdec_imm n w 4 (by omega) hn (fun w => form_20 _ w h.1 h.2) (hgood (by simp only [fC, fI, fOk, decide_eq_false_iff_not, decide_eq_true_eq]; omega))
  by_cases h : 25 ≤ n / 67108864 ∧ n / 67108864 ≤ 28
  · exact rdec_imm n w 2 (by omega) hn (fun w => form_25 _ w h.1 h.2) (hgood (by simp only [fC, fI, fOk, decide_eq_false_iff_not, decide_eq_true_eq]; omega))
  by_cases h : n / 67108864 = 29
  · exact rdec_imm n w 3 (by omega) hn (fun w => by rw [h]; exact form_29 w) (hgood (by simp only [fC, fI, fOk, decide_eq_false_iff_not, decide_eq_true_eq]; omega))
  by_cases h : n / 67108864 = 30
  · exact rdec_imm n w 4 (by omega) hn (fun w => by rw [h]; exact form_30 w) (hgood (by simp only [fC, fI, fOk, decide_eq_false_iff_not, decide_eq_true_eq]; omega))
  by_cases h : n / 67108864 = 31
  · exact rdec_imm n w 5 (by omega) hn (fun w => by rw [h]; exact form_31 w) (hgood (by simp only [fC, fI, fOk, decide_eq_false_iff_not, decide_eq_true_eq]; omega))
  have h : 32 ≤ n / 67108864 ∧ n / 67108864 ≤ 255 := by omega
  exact rdec_imm n w 0 (by omega) hn (fun w => form_32 _ w h.1 h.2) (fun imm _ => hnone (f_none (by omega)).2.2.2.2 imm)
end Go.Proofs.YtcjakmnplkeldaaDoor
