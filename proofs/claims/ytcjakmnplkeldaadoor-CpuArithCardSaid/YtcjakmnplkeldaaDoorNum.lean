/-
  What num.Get and num.Put compute.
-/
import Derived.Test.YtcjakmnplkeldaaDoorRows
import Derived.Test.YtcjakmnplkeldaaDoorBase
namespace Go.Proofs.YtcjakmnplkeldaaDoor
open Go.RowKit
set_option linter.unusedVariables false
set_option linter.unusedSimpArgs false

/-- the number of bytes, the lowest first -/
def leN : List UInt8 → Nat
  | [] => 0
  | b :: l => b.toNat + 256 * leN l
theorem leN_lt : ∀ l : List UInt8, leN l < 256 ^ l.length
  | [] => by simp [leN]
  | b :: l => by have := leN_lt l; have hb := b.toNat_lt; simp only [leN, List.length_cons, Nat.pow_succ]; omega
theorem leN_snoc : ∀ (l : List UInt8) (b : UInt8), leN (l ++ [b]) = leN l + 256 ^ l.length * b.toNat
  | [], b => by simp [leN]
  | c :: l, b => by
    simp only [List.cons_append, leN, leN_snoc l b, List.length_cons, Nat.pow_succ]
    rw [Nat.mul_add, Nat.mul_comm (256 ^ l.length) 256, ← Nat.mul_assoc]; omega

theorem get_step (a b k : Nat) (ha : a < 256 ^ k) (hb : b < 256) (hk : k < 8) : bits .or .u64 (a : Int) (IntKind.u64.wrap (IntKind.u64.wrap (b : Int) * 2 ^ (8 * k))) = ((a + 256 ^ k * b : Nat) : Int) := by
  have e256 : (256 : Nat) ^ k = 2 ^ (8 * k) := by rw [Nat.pow_mul]
  have hp : (2 : Nat) ^ (8 * k) ≤ 2 ^ 56 := Nat.pow_le_pow_right (by omega) (by omega)
  rw [e256] at ha ⊢
  have hbp : b * 2 ^ (8 * k) ≤ 255 * 2 ^ 56 := Nat.mul_le_mul (by omega) hp
  have w1 : IntKind.u64.wrap (b : Int) = (b : Int) := IntWalk.u64_in _ (by omega)
  have w2 : (b : Int) * 2 ^ (8 * k) = ((b * 2 ^ (8 * k) : Nat) : Int) := by simp
  have w3 : IntKind.u64.wrap ((b * 2 ^ (8 * k) : Nat) : Int) = ((b * 2 ^ (8 * k) : Nat) : Int) := IntWalk.u64_in _ (by omega)
  rw [w1, w2, w3, u64_or_nat _ _ (by omega) (by omega), Nat.or_comm, nat_join (8 * k) _ _ (by simp) ha, Nat.add_comm, Nat.mul_comm b]
theorem take_one (s : ByteArray) (k : Nat) (h : k < s.size) : s.data.toList.take (k + 1) = s.data.toList.take k ++ [s[k]] := by
  rw [List.take_succ_eq_append_getElem (by simpa using h)]; rfl
theorem get_next (s : ByteArray) (k : Nat) (h : k < s.size) (hk : k < 8) :
    bits .or .u64 (leN (s.data.toList.take k) : Int) (IntKind.u64.wrap (IntKind.u64.wrap (s[k].toNat : Int) * 2 ^ (8 * k))) = (leN (s.data.toList.take (k + 1)) : Int) := by
  have hl : (s.data.toList.take k).length = k := by simp; omega
  have h1 := leN_lt (s.data.toList.take k)
  rw [hl] at h1
  rw [get_step _ _ k h1 (s[k].toNat_lt) hk, take_one s k h, leN_snoc, hl]

set_option maxHeartbeats 400000 in
theorem get_any (s : ByteArray) (w : World) (hs : s.size ≤ 9223372036854775807) :
    Calls Tryd.prog 41 #[.string s] w fun e w' => e = .returned (.int .u64 (leN (s.data.toList.take 8))) ∧ w = w' := by
  by_cases hm : 8 < s.size
  all_goals
    go_enter Tryd.func41, Tryd.ntmps41
    go_wp2
    go_loop [3, 8] (fun n i => ∃ k : Nat, k ≤ min s.size 8 ∧ i = .int .i64 k ∧ n = .int .u64 (leN (s.data.toList.take k))) (fun _ i => 8 - (intOf i).toNat)
    case atStart => exact ⟨0, Nat.zero_le _, rfl, rfl⟩
    case round =>
      obtain ⟨k, hk, rfl, rfl⟩ := hrel
      by_cases hlt : k < min s.size 8
      · have hk8 : k < 8 := by omega
        have hks : k < s.size := by omega
        have HN := Lib.hid (get_next s k hks hk8)
        go_wp2
        go_round
        case rel => exact ⟨k + 1, by omega, by go_num, by rw [HN.out]⟩
        case measure => simp [intOf]; omega
      · go_wp2
        go_ret
        refine ⟨ret_int ?_, rfl⟩
        have hkk : k = min s.size 8 := by omega
        rw [hkk]
        have : s.data.toList.take (min s.size 8) = s.data.toList.take 8 := by
          rw [← List.take_length (l := s.data.toList), List.take_take, List.take_take]; simp [Nat.min_comm]
        rw [this]

/-- byte j of a number -/
def bt (n j : Nat) : Nat := n / 256 ^ j % 256
/-- the lowest k bytes of a number -/
def putL (n k : Nat) : List UInt8 := (List.range k).map fun j => UInt8.ofNat (bt n j)
theorem putL_length (n k : Nat) : (putL n k).length = k := by simp [putL]
theorem bt_succ (n j : Nat) : bt n (j + 1) = bt (n / 256) j := by unfold bt; rw [Nat.pow_succ, Nat.mul_comm, Nat.div_div_eq_div_mul]
theorem putL_succ (n k : Nat) : putL n (k + 1) = UInt8.ofNat (n % 256) :: putL (n / 256) k := by
  unfold putL
  rw [List.range_succ_eq_map]
  simp only [List.map_cons, List.map_map]
  congr 1
  · simp [bt]
  · apply List.map_congr_left; intro j _; simp [bt_succ]
/-- what is put is got -/
theorem leN_putL : ∀ (k n : Nat), leN (putL n k) = n % 256 ^ k
  | 0, n => by simp [putL, leN, Nat.mod_one]
  | k + 1, n => by
    rw [putL_succ]
    simp only [leN, leN_putL k]
    have : (UInt8.ofNat (n % 256)).toNat = n % 256 := by rw [UInt8.toNat_ofNat']; omega
    rw [this, Nat.pow_succ, Nat.mul_comm (256 ^ k) 256, Nat.mod_mul]
theorem putL_leN : ∀ l : List UInt8, putL (leN l) l.length = l
  | [] => rfl
  | b :: l => by
    have hb := b.toNat_lt
    rw [List.length_cons, putL_succ]
    simp only [leN]
    rw [show (b.toNat + 256 * leN l) % 256 = b.toNat by omega, show (b.toNat + 256 * leN l) / 256 = leN l by omega, putL_leN l]
    simp
def putCells (n k : Nat) : List Value := (List.range 8).map fun j => Value.int .u8 (if j < k then (bt n j : Nat) else 0 : Int)
theorem putCells_set (n k : Nat) (hk : k < 8) : (putCells n k).toArray.setIfInBounds k (.int .u8 (bt n k : Nat)) = (putCells n (k + 1)).toArray := by
  rw [List.setIfInBounds_toArray]
  congr 1
  apply List.ext_getElem
  · simp [putCells]
  · intro i h1 h2
    rw [List.getElem_set]
    by_cases e : k = i
    · subst e; simp [putCells]
    · simp only [e, if_false, putCells, List.getElem_map, List.getElem_range]
      by_cases h : i < k
      · simp [h, show i < k + 1 by omega]
      · simp [h, show ¬ i < k + 1 by omega]
theorem putCells_get (n k j : Nat) (hj : j < 8) : (putCells n k).toArray[j]? = some (.int .u8 (if j < k then (bt n j : Nat) else 0 : Int)) := by
  simp [putCells, hj]
theorem put_byte (n k : Nat) (hn : n < 18446744073709551616) (hk : k < 8) : ((n : Int) / 2 ^ (8 * k)) % 256 = (bt n k : Nat) := by
  unfold bt
  have e256 : (256 : Nat) ^ k = 2 ^ (8 * k) := by rw [Nat.pow_mul]
  rw [e256]; simp

theorem strOfNums_put (n j : Nat) : strOfNums ((List.range j).map fun i => ((bt n i : Nat) : Int)) = ⟨(putL n j).toArray⟩ := by
  unfold strOfNums putL
  rw [List.map_map]
  have : ((fun n => UInt8.ofNat n.toNat) ∘ fun i => ((bt n i : Nat) : Int)) = fun j => UInt8.ofNat (bt n j) := by funext i; simp
  rw [this]

set_option maxHeartbeats 400000 in
theorem put_any (n k : Nat) (w : World) (hn : n < 18446744073709551616) (hk : k ≤ 8) :
    Calls Tryd.prog 67 #[.int .u64 n, .int .i64 k] w fun e w' => e = .returned (.string ⟨(putL n k).toArray⟩) ∧ Below w.heap.size w w' := by
  have hmx : ((k : Int) < 0) = False := by simp
  go_enter Tryd.func67, Tryd.ntmps67
  go_wp2
  go_loopw [6, 11] (fun _ i wr => ∃ j : Nat, j ≤ k ∧ i = .int .i64 j ∧ Hid (Blk wr w.heap.size 99 (putCells n j).toArray) ∧ Hid (Below w.heap.size w wr)) (fun _ i _ => k - (intOf i).toNat)
  case atStart => exact ⟨0, Nat.zero_le _, rfl, Blk.new w _ _, (Below.refl _ _).alloc (Nat.le_refl _) _⟩
  case round =>
    obtain ⟨j, hj, rfl, G, B⟩ := hrel
    by_cases hlt : j < k
    · have hj8 : j < 8 := by omega
      have hb := put_byte n j hn hj8
      have HB := Lib.hid hb
      have c1 : ∃ x, wr.cell? ⟨w.heap.size, j, none⟩ = some x := ⟨_, G.out.cell j (putCells_get n j j hj8)⟩
      obtain ⟨x, c1⟩ := c1
      have c2 := G.out.frozen j
      have i1 : (0 : Int) ≤ (j : Int) := by omega
      have i2 : (j : Int) < 8 := by omega
      clear hb
      go_wp2
      go_roundw
      case rel => exact ⟨j + 1, by omega, by go_num, by rw [HB.out, ← putCells_set n j hj8]; exact G.out.set_ j _, B.out.setCell (Nat.le_refl _) _⟩
      case measure => simp [intOf]; omega
    · have hjk : j = k := by omega
      subst hjk
      have hcv : (convert 74 9 (.slice (some ⟨w.heap.size, 0, none⟩) j 8)).run Tryd.prog wr = .ok (.string ⟨(putL n j).toArray⟩) wr := by
        have := run_convert_bytes_arg (P := Tryd.prog) wr 74 5 Tryd.underlying74 Tryd.underlying5 w.heap.size 0 j 8 ((List.range j).map fun i => ((bt n i : Nat) : Int)) (by simp) (fun i hi => by
          rw [Nat.zero_add]
          refine G.out.cell i ?_
          rw [putCells_get n j i (by omega)]
          simp [hi]) 9 Tryd.underlying9
        rw [this, strOfNums_put]
      generalize hst : (⟨(putL n j).toArray⟩ : ByteArray) = st at hcv
      have HST := Lib.hid hst
      clear hst
      have i2 : (j : Int) ≤ 8 := by omega
      have hlt' : ¬ (j : Int) < (j : Int) := by omega
      clear hn hmx hj hlt
      go_wp2
      go_ret
      exact ⟨by rw [HST.out]; rfl, B.out⟩
end Go.Proofs.YtcjakmnplkeldaaDoor
