/-
  Plain laws of CpuMemory: what is stored by sw is loaded by lw, lb and lbu.
-/
import Derived.Test.YtcjakmnplkeldaaDoorCpuPlain
namespace Go.Proofs.YtcjakmnplkeldaaDoor
set_option linter.unusedVariables false
set_option linter.unusedSimpArgs false
def swI : Ins := ⟨23, 1, 2, 0, 0⟩
def lwI : Ins := ⟨20, 3, 2, 0, 0⟩
def lbI (n : Nat) : Ins := ⟨21, 4, 2, 0, n⟩
def lbuI (n : Nat) : Ins := ⟨22, 5, 2, 0, n⟩
def memW (n : Nat) : List Nat := [(encR swI).1, (encR lwI).1, (encR (lbI n)).1, (encR (lbuI n)).1]
theorem enc_lb {n : Nat} (h : n < 4) : (encR (lbI n)).2 = 0 := by
  obtain rfl | rfl | rfl | rfl : n = 0 ∨ n = 1 ∨ n = 2 ∨ n = 3 := by omega
  all_goals decide
theorem enc_lbu {n : Nat} (h : n < 4) : (encR (lbuI n)).2 = 0 := by
  obtain rfl | rfl | rfl | rfl : n = 0 ∨ n = 1 ∨ n = 2 ∨ n = 3 := by omega
  all_goals decide
/-- the second page, behind the store -/
def memP (q v : Nat) : ByteArray := putB (zeros 128) (4 * q) ⟨(putL v 4).toArray⟩
def memR (q v : Nat) : List Nat := [0, v, 128 + 4 * q] ++ List.replicate 13 0
theorem zeros_size (n : Nat) : (zeros n).size = n := by
  show (List.replicate n (0 : UInt8)).toArray.size = n
  simp
theorem find_at {q n sz : Nat} {wr : Bool} (hq : q < 32) (hn : n < 4) (hs : sz = 1 ∨ sz = 4 ∧ n = 0) : findR onePages (128 + 4 * q + n) sz wr = some (1, 4 * q + n) := by
  unfold findR
  rw [show (128 + 4 * q + n) / 128 = 1 by omega]
  show (if 128 + 4 * q + n < 2048 ∧ (128 + 4 * q + n) % sz = 0 ∧ true = true ∧ (wr = true → true = true) then some ((1 : Int), (128 + 4 * q + n) % 128) else none) = _
  have hm : (128 + 4 * q + n) % sz = 0 := by
    rcases hs with rfl | ⟨rfl, rfl⟩ <;> omega
  rw [if_pos ⟨by omega, hm, rfl, fun _ => rfl⟩, show (128 + 4 * q + n) % 128 = 4 * q + n by omega]
theorem frame_one {p z : ByteArray} (h : z.size = 128) : frame [p, z] 1 = some z := by
  unfold frame
  rw [if_pos (by decide)]
  show (if z.size = 128 then some z else none) = _
  rw [if_pos h]
theorem memP_list {q v : Nat} (hq : q < 32) : (memP q v).data.toList = List.replicate (4 * q) 0 ++ putL v 4 ++ List.replicate (124 - 4 * q) 0 := by
  unfold memP putB
  have hp : (⟨(putL v 4).toArray⟩ : ByteArray).size = 4 := by show (putL v 4).toArray.size = 4; rw [List.size_toArray, putL_length]
  rw [hp]
  simp only [ByteArray.data_append, Array.toList_append]
  rw [Lib.extract_data, Lib.extract_data]
  have hz : (zeros 128).data.toList = List.replicate 128 0 := by simp [zeros]
  rw [hz, zeros_size]
  congr 1
  · congr 1
    rw [List.drop_zero, List.take_replicate]
    congr 1
    omega
  · rw [List.drop_replicate, List.take_replicate]
    congr 1
    omega
theorem memP_size {q v : Nat} (hq : q < 32) : (memP q v).size = 128 := by
  show (memP q v).data.size = 128
  rw [← Array.length_toList, memP_list hq]
  simp [putL_length]
  omega
theorem store_mem {p : ByteArray} {q v : Nat} (hq : q < 32) (hv : v < 4294967296) : storeR [p, zeros 128] onePages (128 + 4 * q) 4 v = some [p, memP q v] := by
  unfold storeR
  have := find_at (q := q) (n := 0) (sz := 4) (wr := true) hq (by decide) (.inr ⟨rfl, rfl⟩)
  rw [Nat.add_zero, Nat.add_zero] at this
  rw [this]
  dsimp only
  rw [frame_one (zeros_size 128)]
  rfl
theorem load_mem4 {p : ByteArray} {q v : Nat} (hq : q < 32) (hv : v < 4294967296) : loadR [p, memP q v] onePages (128 + 4 * q) 4 = some v := by
  unfold loadR
  have := find_at (q := q) (n := 0) (sz := 4) (wr := false) hq (by decide) (.inr ⟨rfl, rfl⟩)
  rw [Nat.add_zero, Nat.add_zero] at this
  rw [this]
  dsimp only
  rw [frame_one (memP_size hq)]
  dsimp only
  rw [memP_list hq, List.append_assoc, List.drop_append_of_le_length (by simp), List.drop_of_length_le (by simp), List.nil_append, List.take_append_of_le_length (by rw [putL_length]; exact Nat.le_refl _), List.take_of_length_le (by rw [putL_length]; exact Nat.le_refl _), leN_putL, Nat.mod_eq_of_lt (by omega)]
theorem load_mem1 {p : ByteArray} {q v n : Nat} (hq : q < 32) (hn : n < 4) : loadR [p, memP q v] onePages (128 + 4 * q + n) 1 = some (bt v n) := by
  unfold loadR
  rw [find_at (q := q) (n := n) (sz := 1) (wr := false) hq hn (.inl rfl)]
  dsimp only
  rw [frame_one (memP_size hq)]
  dsimp only
  have hd : ∀ X : List UInt8, (List.replicate (4 * q) 0 ++ X).drop (4 * q) = X := fun X => by rw [List.drop_append_of_le_length (by simp), List.drop_of_length_le (by simp), List.nil_append]
  rw [memP_list hq, List.append_assoc, ← List.drop_drop, hd]
  have e : ((putL v 4 ++ List.replicate (124 - 4 * q) 0).drop n).take 1 = [UInt8.ofNat (bt v n)] := by
    have hl : n < (putL v 4 ++ List.replicate (124 - 4 * q) (0 : UInt8)).length := by rw [List.length_append, putL_length]; omega
    rw [List.drop_eq_getElem_cons hl, List.take_succ_cons, List.take_zero, List.getElem_append_left (by rw [putL_length]; exact hn)]
    simp [putL]
  rw [e]
  have hb : bt v n < 256 := Nat.mod_lt _ (by decide)
  simp [leN, Nat.mod_eq_of_lt hb]
/-- the four steps -/
def memS (q v n j : Nat) : List Nat :=
  let R := memR q v
  if j ≤ 1 then R else if j = 2 then R.set 3 v else if j = 3 then (R.set 3 v).set 4 (sx8 (bt v n)) else ((R.set 3 v).set 4 (sx8 (bt v n))).set 5 (bt v n)
def memM (q v n j : Nat) : List ByteArray := if j = 0 then [pgB (memW n), zeros 128] else [pgB (memW n), memP q v]
theorem mem_word (n j : Nat) (hn : n < 4) (hj : j < 4) (z : ByteArray) : loadR [pgB (memW n), z] onePages (4 * j) 4 = some ((memW n).getD j 0) :=
  load_page z (by omega) (by
    obtain rfl | rfl | rfl | rfl : j = 0 ∨ j = 1 ∨ j = 2 ∨ j = 3 := by omega
    all_goals exact encR_lt _)
theorem mem_step {q v n j : Nat} (hq : q < 32) (hv : v < 4294967296) (hn : n < 4) (hj : j < 4) : stepR (memS q v n j) (4 * j) onePages (memM q v n j) = ⟨memS q v n (j + 1), 4 * (j + 1), memM q v n (j + 1), 0, 0⟩ := by
  have hat : (128 + 4 * q + (n : Int) % 4294967296).toNat = 128 + 4 * q + n := by omega
  obtain rfl | rfl | rfl | rfl : j = 0 ∨ j = 1 ∨ j = 2 ∨ j = 3 := by omega
  · refine (step_of (xs := memM q v n 0) (x := swI) (show loadR (memM q v n 0) onePages (4 * 0) 4 = _ from mem_word n 0 hn (by decide) _) (by decide)).trans ?_
    unfold stDo swI
    dsimp only
    rw [if_neg (by decide), if_neg (by decide), if_neg (by decide), if_neg (by decide), if_pos (by decide)]
    have e : storeR (memM q v n 0) onePages ((((memS q v n 0).set 0 0).getD 2 0 + (0 % 4294967296 : Int).toNat) % 4294967296) (if (23 : Nat) = 24 then 1 else 4) (((memS q v n 0).set 0 0).getD 1 0) = some [pgB (memW n), memP q v] := by
      show storeR [pgB (memW n), zeros 128] onePages ((128 + 4 * q + 0) % 4294967296) 4 v = _
      rw [show (128 + 4 * q + 0) % 4294967296 = 128 + 4 * q by omega]
      exact store_mem hq hv
    rw [e]
    rfl
  · refine (step_of (xs := memM q v n 1) (x := lwI) (show loadR (memM q v n 1) onePages (4 * 1) 4 = _ from mem_word n 1 hn (by decide) _) (by decide)).trans ?_
    unfold stDo lwI
    dsimp only
    rw [if_neg (by decide), if_neg (by decide), if_neg (by decide), if_pos (by decide)]
    have e : ldR 20 (memM q v n 1) onePages ((((memS q v n 1).set 0 0).getD 2 0 + (0 % 4294967296 : Int).toNat) % 4294967296) = some v := by
      show loadR [pgB (memW n), memP q v] onePages ((128 + 4 * q + 0) % 4294967296) 4 = _
      rw [show (128 + 4 * q + 0) % 4294967296 = 128 + 4 * q by omega]
      exact load_mem4 hq hv
    rw [e]
    rfl
  · refine (step_of (xs := memM q v n 2) (x := lbI n) (show loadR (memM q v n 2) onePages (4 * 2) 4 = _ from mem_word n 2 hn (by decide) _) (enc_lb hn)).trans ?_
    unfold stDo lbI
    dsimp only
    rw [if_neg (by decide), if_neg (by decide), if_neg (by decide), if_pos (by decide)]
    have e : ldR 21 (memM q v n 2) onePages ((((memS q v n 2).set 0 0).getD 2 0 + ((n : Int) % 4294967296).toNat) % 4294967296) = some (sx8 (bt v n)) := by
      show (loadR [pgB (memW n), memP q v] onePages ((128 + 4 * q + ((n : Int) % 4294967296).toNat) % 4294967296) 1).map (fun v => if (21 : Nat) = 21 then sx8 v else v) = _
      rw [show (128 + 4 * q + ((n : Int) % 4294967296).toNat) % 4294967296 = 128 + 4 * q + n by omega, load_mem1 hq hn]
      rfl
    rw [e]
    rfl
  · refine (step_of (xs := memM q v n 3) (x := lbuI n) (show loadR (memM q v n 3) onePages (4 * 3) 4 = _ from mem_word n 3 hn (by decide) _) (enc_lbu hn)).trans ?_
    unfold stDo lbuI
    dsimp only
    rw [if_neg (by decide), if_neg (by decide), if_neg (by decide), if_pos (by decide)]
    have e : ldR 22 (memM q v n 3) onePages ((((memS q v n 3).set 0 0).getD 2 0 + ((n : Int) % 4294967296).toNat) % 4294967296) = some (bt v n) := by
      show (loadR [pgB (memW n), memP q v] onePages ((128 + 4 * q + ((n : Int) % 4294967296).toNat) % 4294967296) 1).map (fun v => if (22 : Nat) = 21 then sx8 v else v) = _
      rw [show (128 + 4 * q + ((n : Int) % 4294967296).toNat) % 4294967296 = 128 + 4 * q + n by omega, load_mem1 hq hn]
      rfl
    rw [e]
    rfl
end Go.Proofs.YtcjakmnplkeldaaDoor
