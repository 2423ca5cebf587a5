/-
  The walk of the law IsaBits.
-/
import Derived.Test.YtnaknooefjiahaaDoorIsaAlive
import Derived.Test.YtnaknooefjiahaaDoorInsEq
namespace Go.Proofs.YtnaknooefjiahaaDoor
open Go.RowKit
set_option linter.unusedVariables false
set_option linter.unusedSimpArgs false
theorem xor_bit (n k : Nat) (hn : n < 4294967296) : ∃ m : Nat, bits .xor .u32 (n : Int) (2 ^ (k % 32) % 4294967296) = (m : Int) ∧ m < 4294967296 ∧ m ≠ n := by
  have hp : (2 : Nat) ^ (k % 32) < 2 ^ 32 := Nat.pow_lt_pow_right (by omega) (by omega)
  have e : ((2 : Int) ^ (k % 32) % 4294967296) = ((2 ^ (k % 32) : Nat) : Int) := by
    have : ((2 : Int) ^ (k % 32)) = ((2 ^ (k % 32) : Nat) : Int) := by simp
    rw [this]
    generalize (2 : Nat) ^ (k % 32) = q at hp
    omega
  refine ⟨n ^^^ 2 ^ (k % 32), ?_, Nat.xor_lt_two_pow (n := 32) hn hp, fun h => ?_⟩
  · rw [e, u32_xor_nat _ _ hn (by omega)]
  · have h2 := congrArg (n ^^^ ·) h
    simp only [← Nat.xor_assoc, Nat.xor_self, Nat.zero_xor] at h2
    have := Nat.two_pow_pos (k % 32)
    omega
set_option maxHeartbeats 1000000 in
theorem law_bits (n k : Nat) (w : World) (hl : Laid w) (hn : n < 4294967296) (hk : k < 256) :
    Calls Tryd.prog 6 #[.int .u32 n, .int .u8 k] w fun e w' => e = .returned (.bool true) ∧ Below w.heap.size w w' := by
  have L := Lib.hid hl
  have HN := Lib.hid hn
  obtain ⟨m, hm, hm1, hm2⟩ := xor_bit n k hn
  have HM := Lib.hid hm
  have HM1 := Lib.hid hm1
  have HU : Hid (∀ x y, decR n = some x → decR m = some y → insB x y = false) := by
    intro x y hx hy
    cases h : insB x y with
    | false => rfl
    | true =>
      have h1 := dec_some hx
      rw [insB_iff.1 h, dec_some hy] at h1
      injection h1 with h1
      exact absurd h1 hm2
  clear hl hn hm hm1 hm2
  go_enter Tryd.func6, Tryd.ntmps6
  go_wp2_with fail
  refine (alive_any _ L.out).mono ?_
  rintro e w1 ⟨rfl, hb1⟩
  have B := Lib.hid hb1
  clear hb1
  go_wp2_with fail
  refine (dec_any n _ HN.out).mono ?_
  rintro e w2 ⟨rfl, hb2⟩
  have B := Lib.hid (B.out.trans (hb2.mono B.out.size))
  clear hb2
  cases hd : decR n with
  | none =>
    clear hd
    unfold decE insE
    dsimp only
    go_wp2_with fail
    rw [HM.out]
    refine (dec_any m _ HM1.out).mono ?_
    rintro e w3 ⟨rfl, hb3⟩
    have B := Lib.hid ((B.out.alloc B.out.size _).trans (hb3.mono (by have := B.out.size; simp; omega)))
    clear hb3
    have hz := B.out.size
    cases hd2 : decR m with
    | none =>
      clear hd2
      unfold decE insE
      dsimp only
      go_wp2
      go_ret
      exact ⟨rfl, B.out.alloc hz _⟩
    | some y =>
      clear hd2
      unfold decE insE
      dsimp only
      go_wp2
      go_ret
      exact ⟨rfl, B.out.alloc hz _⟩
  | some x =>
    have HD := Lib.hid hd
    clear hd
    unfold decE insE
    dsimp only
    go_wp2_with fail
    rw [HM.out]
    refine (dec_any m _ HM1.out).mono ?_
    rintro e w3 ⟨rfl, hb3⟩
    have G : Hid (Blk w3 w2.heap.size 23 #[.int .u8 x.op, .int .u8 x.a, .int .u8 x.b, .int .u8 x.c, .int .i32 x.imm]) := (Blk.new w2 _ _).below hb3 (by simp)
    have B := Lib.hid ((B.out.alloc B.out.size _).trans (hb3.mono (by have := B.out.size; simp; omega)))
    clear hb3
    have hz := B.out.size
    have hg := G.out.lt
    generalize w2.heap.size = g2 at *
    have p0 : w3.cell? ⟨g2, 0, none⟩ = some (.int .u8 x.op) := G.out.cell 0 rfl
    have p1 : w3.cell? ⟨g2, 1, none⟩ = some (.int .u8 x.a) := G.out.cell 1 rfl
    have p2 : w3.cell? ⟨g2, 2, none⟩ = some (.int .u8 x.b) := G.out.cell 2 rfl
    have p3 : w3.cell? ⟨g2, 3, none⟩ = some (.int .u8 x.c) := G.out.cell 3 rfl
    have p4 : w3.cell? ⟨g2, 4, none⟩ = some (.int .i32 x.imm) := G.out.cell 4 rfl
    cases hd2 : decR m with
    | none =>
      clear hd2
      unfold decE insE
      dsimp only
      go_wp2
      go_ret
      exact ⟨rfl, B.out.alloc hz _⟩
    | some y =>
      have hn := fun w => ins_neq x y w
      rw [HU.out x y HD.out hd2] at hn
      clear hd2
      unfold decE insE
      dsimp only
      go_wp2
      go_ret
      exact ⟨rfl, B.out.alloc hz _⟩
end Go.Proofs.YtnaknooefjiahaaDoor
