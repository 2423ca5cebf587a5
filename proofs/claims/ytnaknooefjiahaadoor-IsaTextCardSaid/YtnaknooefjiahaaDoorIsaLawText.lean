/-
  The walk of the law IsaText.
-/
import Derived.Test.YtnaknooefjiahaaDoorIsaAlive
import Derived.Test.YtnaknooefjiahaaDoorRText
import Derived.Test.YtnaknooefjiahaaDoorIsaOp
namespace Go.Proofs.YtnaknooefjiahaaDoor
open Go.RowKit
set_option linter.unusedVariables false
set_option linter.unusedSimpArgs false
theorem nmB_ne_nil : ∀ j, 1 ≤ j → j ≤ 31 → nmB j ≠ ⟨#[]⟩ := by
  intro j h1 h2 e
  have h : ∀ j : Fin 32, 1 ≤ j.val → nmT.getD j.val [] ≠ [] := by decide +kernel
  apply h ⟨j, by omega⟩ h1
  have := congrArg (fun b : ByteArray => b.data.toList) e
  simpa [nmB] using this
/-- a line up to its first space -/
theorem txt_word (x : Ins) : ∃ m : Nat, m ≤ (txtB x).size ∧ (∀ j (h : j < (txtB x).size), j < m → (txtB x)[j].toNat ≠ 32) ∧ (∀ h : m < (txtB x).size, (txtB x)[m].toNat = 32) ∧
    (txtB x = ⟨#[]⟩ ∧ OpIs ((txtB x).extract 0 m) 0 ∨ (txtB x).toList.isEmpty = false ∧ OpIs ((txtB x).extract 0 m) x.op ∧ 1 ≤ x.op) := by
  by_cases h : (encR x).2 = 0
  · have ht := txt_list h
    obtain ⟨h1, h2, _⟩ := enc_parts h
    generalize txtB x = s at ht
    have hno := nm_no' x.op
    have hnb : (nmB x.op).data.toList = nmT.getD x.op [] := by simp [nmB]
    generalize nmT.getD x.op [] = nm at ht hno hnb
    have hsz : s.size = nm.length + 1 + (tailL x).length := by
      have := congrArg List.length ht
      simp at this
      omega
    have hat : ∀ j (hj : j < s.size), s[j] = (nm ++ 32 :: tailL x)[j]'(by simp; omega) := by
      intro j hj
      have : s.data.toList[j]'(by simpa using hj) = s[j] := rfl
      rw [← this]
      simp only [ht]
    refine ⟨nm.length, by omega, fun j hj hl => ?_, fun hj => ?_, .inr ⟨?_, .inl ⟨h1, h2, ?_⟩, h1⟩⟩
    · rw [hat j hj, List.getElem_append_left hl]
      intro e
      have hm := List.getElem_mem hl
      have : nm[j] = 32 := UInt8.toNat_inj.1 e
      rw [this] at hm
      exact hno hm
    · rw [hat _ hj, List.getElem_append_right (Nat.le_refl _)]
      simp
    · rw [Lib.toList_data, ht]
      cases nm <;> simp
    · apply WideShapes.bytes_inj
      rw [hnb, Lib.extract_data, ht]
      simp
  · have e := show txtB x = ⟨#[]⟩ by unfold txtB; rw [if_pos h]
    rw [e]
    refine ⟨0, Nat.zero_le _, fun j h => absurd h (Nat.not_lt_zero _), fun h => absurd h (Nat.not_lt_zero _), .inl ⟨rfl, .inr ⟨rfl, fun j a b => ?_⟩⟩⟩
    exact nmB_ne_nil j a b
theorem txt_small (x : Ins) : (txtB x).size ≤ 1000000 := by
  by_cases h : (encR x).2 = 0
  · have ht := txt_list h
    obtain ⟨h1, h2, h3, h4, h5, _⟩ := enc_parts h
    obtain ⟨i1, i2⟩ := imm_ok h
    have n0 := nm_le x.op
    have n0' : (nmT.getD x.op []).length ≤ 10 := by rw [← List.size_toArray]; exact n0
    generalize nmT.getD x.op [] = nm at ht n0'
    have n1 := reg_le (n := x.a) h3
    have n2 := reg_le (n := x.b) h4
    have n3 := reg_le (n := x.c) h5
    have n4 := num_le i1 i2
    rw [regB_list] at n1 n2 n3
    rw [numB_list] at n4
    have hsz : (txtB x).size = nm.length + 1 + (tailL x).length := by
      have := congrArg List.length ht
      simp at this
      omega
    have ht2 : (tailL x).length ≤ 200000 := by
      unfold tailL
      split
      · simp; omega
      · split
        · simp; omega
        · split
          · simp; omega
          · split
            · simp; omega
            · omega
    omega
  · have e := show txtB x = ⟨#[]⟩ by unfold txtB; rw [if_pos h]
    rw [e]; exact Nat.zero_le _
set_option maxHeartbeats 1000000 in
theorem law_text (op a b c : Nat) (imm : Int) (w : World) (hl : Laid w) (ho : op < 256) (hi1 : -2147483648 ≤ imm) (hi2 : imm < 2147483648) :
    Calls Tryd.prog 8 #[.agg #[.int .u8 op, .int .u8 a, .int .u8 b, .int .u8 c, .int .i32 imm]] w fun e w' => e = .returned (.bool true) ∧ Below w.heap.size w w' := by
  have L := Lib.hid hl
  have HO := Lib.hid ho
  have H1 := Lib.hid hi1
  have H2 := Lib.hid hi2
  have hsm := txt_small ⟨op, a, b, c, imm⟩
  obtain ⟨m, hm, hw1, hw2, hw3⟩ := txt_word ⟨op, a, b, c, imm⟩
  have HT := Lib.hid (Eq.refl (txtB ⟨op, a, b, c, imm⟩))
  generalize hs : txtB ⟨op, a, b, c, imm⟩ = s at hm hw1 hw2 hw3 hsm
  have HS := Lib.hid hs
  have W1 := Lib.hid hw1
  have W2 := Lib.hid hw2
  have W3 := Lib.hid hw3
  clear hl ho hi1 hi2 hs hw1 hw2 hw3 HT
  go_enter Tryd.func8, Tryd.ntmps8
  go_wp2_with fail
  refine (alive_any _ (L.out.later ((Below.refl _ _).alloc (Nat.le_refl _) _))).mono ?_
  rintro e w1 ⟨rfl, hb1⟩
  have G : Hid (Blk w1 w.heap.size 23 #[.int .u8 op, .int .u8 a, .int .u8 b, .int .u8 c, .int .i32 imm]) := (Blk.new w _ _).below hb1 (by simp)
  have B : Hid (Below w.heap.size w w1) := ((Below.refl _ _).alloc (Nat.le_refl _) _).trans (hb1.mono (by simp))
  clear hb1
  have q0 : w1.cell? ⟨w.heap.size, 0, none⟩ = some (.int .u8 op) := G.out.cell 0 rfl
  have q1 : w1.cell? ⟨w.heap.size, 1, none⟩ = some (.int .u8 a) := G.out.cell 1 rfl
  have q2 : w1.cell? ⟨w.heap.size, 2, none⟩ = some (.int .u8 b) := G.out.cell 2 rfl
  have q3 : w1.cell? ⟨w.heap.size, 3, none⟩ = some (.int .u8 c) := G.out.cell 3 rfl
  have q4 : w1.cell? ⟨w.heap.size, 4, none⟩ = some (.int .i32 imm) := G.out.cell 4 rfl
  go_wp2_with fail
  refine (text_any ⟨op, a, b, c, imm⟩ _ (L.out.later B.out) HO.out).mono ?_
  rintro e w2 ⟨rfl, hb2⟩
  rw [HS.out]
  have G := Lib.hid (G.out.below hb2 G.out.lt)
  have B := Lib.hid (B.out.trans (hb2.mono B.out.size))
  clear hb2 q0 q1 q2 q3 q4
  have q0 : w2.cell? ⟨w.heap.size, 0, none⟩ = some (.int .u8 op) := G.out.cell 0 rfl
  have q1 : w2.cell? ⟨w.heap.size, 1, none⟩ = some (.int .u8 a) := G.out.cell 1 rfl
  have q2 : w2.cell? ⟨w.heap.size, 2, none⟩ = some (.int .u8 b) := G.out.cell 2 rfl
  have q3 : w2.cell? ⟨w.heap.size, 3, none⟩ = some (.int .u8 c) := G.out.cell 3 rfl
  have q4 : w2.cell? ⟨w.heap.size, 4, none⟩ = some (.int .i32 imm) := G.out.cell 4 rfl
  go_wp2_with fail
  refine (rtext_any ⟨op, a, b, c, imm⟩ _ HO.out H1.out H2.out).mono ?_
  rintro e w3 ⟨rfl, hb3⟩
  rw [HS.out]
  have G := Lib.hid (G.out.below hb3 G.out.lt)
  have B := Lib.hid (B.out.trans (hb3.mono B.out.size))
  clear hb3 q0 q1 q2 q3 q4
  have hse := str_eq s
  have q0 : w3.cell? ⟨w.heap.size, 0, none⟩ = some (.int .u8 op) := G.out.cell 0 rfl
  go_wp2
  go_loop [4] (fun i => ∃ k : Nat, k ≤ m ∧ i = .int .i64 k) (fun i => m - (intOf i).toNat)
  case atStart => exact ⟨0, by omega, rfl⟩
  case round =>
    obtain ⟨k, hk, rfl⟩ := hrel
    by_cases hlt : k < m
    · have h1 : k < s.size := by omega
      have h2 : ((s[k].toNat : Int) != 32) = true := by have := W1.out k h1 hlt; simp; omega
      go_wp2
      go_round
      case rel => exact ⟨k + 1, by omega, by go_num⟩
      case measure => simp [intOf]; omega
    · obtain rfl : k = m := by omega
      clear hk hlt
      by_cases h1 : k < s.size
      · have h2 : ((s[k].toNat : Int) != 32) = false := by have := W2.out h1; simp; omega
        go_wp2_with fail
        refine (op_any _ _ (L.out.later B.out)).mono ?_
        rintro e w4 ⟨n, hn, hn31, rfl, hb4⟩
        have B := Lib.hid (B.out.trans (hb4.mono B.out.size))
        have G := Lib.hid (G.out.below hb4 G.out.lt)
        have q0 : w4.cell? ⟨w.heap.size, 0, none⟩ = some (.int .u8 op) := G.out.cell 0 rfl
        rcases W3.out with ⟨rfl, h3⟩ | ⟨h3, h4, h5⟩
        · exact absurd h1 (Nat.not_lt_zero _)
        · obtain rfl := hn.det h4
          have h6 : decide (0 < n) = true := by simp; omega
          clear hn h4 hb4
          go_wp2
          go_ret
          exact ⟨rfl, B.out⟩
      · have h2 : decide (k < s.size) = false := by simpa using h1
        go_wp2_with fail
        refine (op_any _ _ (L.out.later B.out)).mono ?_
        rintro e w4 ⟨n, hn, hn31, rfl, hb4⟩
        have B := Lib.hid (B.out.trans (hb4.mono B.out.size))
        have G := Lib.hid (G.out.below hb4 G.out.lt)
        have q0 : w4.cell? ⟨w.heap.size, 0, none⟩ = some (.int .u8 op) := G.out.cell 0 rfl
        rcases W3.out with ⟨rfl, h3⟩ | ⟨h3, h4, h5⟩
        · obtain rfl := hn.det h3
          clear hn h3 hb4
          go_wp2
          go_ret
          exact ⟨rfl, B.out⟩
        · obtain rfl := hn.det h4
          have h6 : decide (0 < n) = true := by simp; omega
          clear hn h4 hb4
          go_wp2
          go_ret
          exact ⟨rfl, B.out⟩
end Go.Proofs.YtnaknooefjiahaaDoor
