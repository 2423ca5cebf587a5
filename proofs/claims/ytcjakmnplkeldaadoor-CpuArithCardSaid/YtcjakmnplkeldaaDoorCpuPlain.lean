/-
  Plain laws of a step: an instruction that stands in a page.
-/
import Derived.Test.YtcjakmnplkeldaaDoorOne
namespace Go.Proofs.YtcjakmnplkeldaaDoor
set_option linter.unusedVariables false
set_option linter.unusedSimpArgs false
theorem pgL_length (ws : List Nat) : (pgL ws).length = 128 := by simp [pgL]
theorem pgB_size (ws : List Nat) : (pgB ws).size = 128 := by
  show (pgL ws).toArray.size = 128
  rw [List.size_toArray, pgL_length]
theorem pgL_word (ws : List Nat) (j : Nat) (hj : j < 32) : ((pgL ws).drop (4 * j)).take 4 = putL (ws.getD j 0) 4 := by
  apply List.ext_getElem
  · simp [pgL_length, putL_length]; omega
  · intro q h1 h2
    rw [putL_length] at h2
    simp only [List.getElem_take, List.getElem_drop, pgL, putL, List.getElem_map, List.getElem_range]
    rw [show (4 * j + q) / 4 = j by omega, show (4 * j + q) % 4 = q by omega]
theorem load_page {ws : List Nat} {j : Nat} (z : ByteArray) (hj : j < 32) (hw : ws.getD j 0 < 4294967296) : loadR [pgB ws, z] onePages (4 * j) 4 = some (ws.getD j 0) := by
  unfold loadR
  have hf : findR onePages (4 * j) 4 false = some (0, 4 * j) := by
    unfold findR
    rw [show 4 * j / 128 = 0 by omega]
    show (if 4 * j < 2048 ∧ 4 * j % 4 = 0 ∧ true = true ∧ (false = true → false = true) then some ((0 : Int), 4 * j % 128) else none) = _
    rw [if_pos ⟨by omega, by omega, rfl, fun h => h⟩, show 4 * j % 128 = 4 * j by omega]
  rw [hf]
  dsimp only
  have hfr : frame [pgB ws, z] 0 = some (pgB ws) := by
    unfold frame
    rw [if_pos (Int.le_refl 0)]
    show (if (pgB ws).size = 128 then some (pgB ws) else none) = _
    rw [if_pos (pgB_size ws)]
  rw [hfr]
  dsimp only
  rw [show (pgB ws).data.toList = pgL ws from by simp [pgB], pgL_word ws j hj, leN_putL]
  rw [Nat.mod_eq_of_lt (by omega)]
/-- an instruction that is loaded is done -/
theorem step_of {R : List Nat} {pc : Nat} {l : List Pte} {xs : List ByteArray} {x : Ins} (h : loadR xs l pc 4 = some (encR x).1) (he : (encR x).2 = 0) :
    stepR R pc l xs = stDo R pc l xs x ((R.set 0 0).getD x.a 0) ((R.set 0 0).getD x.b 0) (x.imm % 4294967296).toNat ((pc + 4) % 4294967296) (R.set 0 0) := by
  unfold stepR
  rw [h]
  dsimp only
  rw [dec_enc he]
theorem enc_jal {r : Nat} {n : Int} (hr : r ≤ 15) (h1 : -32768 ≤ n) (h2 : n ≤ 32767) : (encR ⟨29, r, 0, 0, n⟩).2 = 0 := by
  rw [enc_good (x := ⟨29, r, 0, 0, n⟩) rfl ⟨hr, Nat.zero_le _, Nat.zero_le _⟩ rfl (.inr (by show decide (-32768 ≤ n ∧ n ≤ 32767) = true; simp; omega))]
theorem enc_jalr {r : Nat} (hr : r ≤ 15) : (encR ⟨30, 0, r, 0, 0⟩).2 = 0 := by
  rw [enc_good (x := ⟨30, 0, r, 0, 0⟩) rfl ⟨Nat.zero_le _, hr, Nat.zero_le _⟩ rfl (.inr rfl)]
/-- a call, and back -/
def retW (i k c b : Nat) : List Nat := ((List.replicate 32 0).set i c).set k b
theorem retW_get {i k c b : Nat} (hi : i < 32) (hk : k < 32) (hik : i ≠ k) : (retW i k c b).getD i 0 = c ∧ (retW i k c b).getD k 0 = b := by
  unfold retW
  constructor
  · simp [List.getD_eq_getElem?_getD, List.getElem?_set, hi, hk, Ne.symm hik]
  · simp [List.getD_eq_getElem?_getD, List.getElem?_set, hi, hk]
def retR (i r : Nat) : List Nat := ((List.replicate 16 0).set r (4 * i + 4)).set 0 0
theorem ret_call {i k r c b : Nat} (z : ByteArray) (hi : i < 32) (hk : k < 32) (hik : i ≠ k) (hr1 : 1 ≤ r) (hr : r ≤ 14) (hc : (encR ⟨29, r, 0, 0, (k : Int) - i - 1⟩).1 = c) :
    stepR (List.replicate 16 0) (4 * i) onePages [pgB (retW i k c b), z] = ⟨retR i r, 4 * k, [pgB (retW i k c b), z], 0, 0⟩ := by
  have hl := load_page (ws := retW i k c b) z hi (by rw [(retW_get hi hk hik).1, ← hc]; exact encR_lt _)
  rw [(retW_get hi hk hik).1] at hl
  have hl2 : loadR [pgB (retW i k c b), z] onePages (4 * i) 4 = some (encR ⟨29, r, 0, 0, (k : Int) - i - 1⟩).1 := by rw [hl, hc]
  rw [step_of hl2 (enc_jal (by omega) (by omega) (by omega))]
  unfold stDo
  dsimp only
  rw [if_neg (by decide), if_neg (by decide), if_neg (by decide), if_neg (by decide), if_neg (by decide), if_neg (by decide), if_pos rfl]
  have e1 : (4 * i + 4) % 4294967296 = 4 * i + 4 := by omega
  rw [e1]
  have e2 : (4 * i + 4 + 4 * (((k : Int) - i - 1) % 4294967296).toNat) % 4294967296 = 4 * k := by omega
  rw [e2]
  rfl
theorem ret_back {i k r c b : Nat} (z : ByteArray) (hi : i < 32) (hk : k < 32) (hik : i ≠ k) (hr1 : 1 ≤ r) (hr : r ≤ 14) (hb : (encR ⟨30, 0, r, 0, 0⟩).1 = b) :
    stepR (retR i r) (4 * k) onePages [pgB (retW i k c b), z] = ⟨retR i r, 4 * i + 4, [pgB (retW i k c b), z], 0, 0⟩ := by
  have hl := load_page (ws := retW i k c b) z hk (by rw [(retW_get hi hk hik).2, ← hb]; exact encR_lt _)
  rw [(retW_get hi hk hik).2] at hl
  have hl2 : loadR [pgB (retW i k c b), z] onePages (4 * k) 4 = some (encR ⟨30, 0, r, 0, 0⟩).1 := by rw [hl, hb]
  rw [step_of hl2 (enc_jalr (by omega))]
  unfold stDo
  dsimp only
  rw [if_neg (by decide), if_neg (by decide), if_neg (by decide), if_neg (by decide), if_neg (by decide), if_neg (by decide), if_neg (by decide), if_pos rfl]
  have e1 : ((retR i r).set 0 0).getD r 0 = 4 * i + 4 := by
    unfold retR
    simp [List.getD_eq_getElem?_getD, List.getElem?_set, show ¬ 0 = r by omega, show r < 16 by omega]
  rw [e1]
  have e2 : (4 * i + 4 + (0 % 4294967296 : Int).toNat) % 4294967296 = 4 * i + 4 := by
    show (4 * i + 4 + 0) % 4294967296 = 4 * i + 4
    omega
  rw [e2]
  unfold retR
  simp [List.set_set]
end Go.Proofs.YtcjakmnplkeldaaDoor
