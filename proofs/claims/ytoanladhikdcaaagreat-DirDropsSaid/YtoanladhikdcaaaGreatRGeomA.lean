/-
  What the document's small functions of layer 17 compute.
-/
import Derived.Test.YtoanladhikdcaaaGreatGeomF
import Derived.Test.YtoanladhikdcaaaGreatInfra
namespace Go.Proofs.YtoanladhikdcaaaGreat
open Go.RowKit
set_option linter.unusedVariables false
set_option linter.unusedSimpArgs false
set_option maxRecDepth 100000
set_option maxHeartbeats 1000000 in
theorem rplan_any (b m : Int) (w : World) : Calls Tryz.prog 97 #[.int .i64 b, .int .i64 m] w (PlanPost b m w) := by
  have hbel := fun (o : Obj) => (Below.refl w.heap.size w).alloc (Nat.le_refl _) o
  have HB := Lib.hid hbel
  clear hbel
  by_cases h1 : b < 16 ∨ 223 < b ∨ m < 4 ∨ 64 < m
  · have HE := Lib.hid (show planE b m = 2 by unfold planE; rw [if_pos h1])
    by_cases a1 : b < 16
    · go_enter Tryz.func97, Tryz.ntmps97
      go_wp2
      exact bodyPost_ret (v := .tuple #[.agg #[.int .i64 0, .int .i64 0, .int .i64 0, .int .i64 0, .int .i64 0, .int .i64 0], .int .i64 2]) (by simp [results, Tryz.results97, go_sem]) rfl (plan_no HE.out (by decide) (HB.out _))
    have a1' : decide (b < 16) = false := by simpa using a1
    by_cases a2 : 223 < b
    · go_enter Tryz.func97, Tryz.ntmps97
      go_wp2
      exact bodyPost_ret (v := .tuple #[.agg #[.int .i64 0, .int .i64 0, .int .i64 0, .int .i64 0, .int .i64 0, .int .i64 0], .int .i64 2]) (by simp [results, Tryz.results97, go_sem]) rfl (plan_no HE.out (by decide) (HB.out _))
    have a2' : decide (223 < b) = false := by simpa using a2
    by_cases a3 : m < 4
    · go_enter Tryz.func97, Tryz.ntmps97
      go_wp2
      exact bodyPost_ret (v := .tuple #[.agg #[.int .i64 0, .int .i64 0, .int .i64 0, .int .i64 0, .int .i64 0, .int .i64 0], .int .i64 2]) (by simp [results, Tryz.results97, go_sem]) rfl (plan_no HE.out (by decide) (HB.out _))
    have a3' : decide (m < 4) = false := by simpa using a3
    have a4 : 64 < m := by omega
    clear h1
    go_enter Tryz.func97, Tryz.ntmps97
    go_wp2
    exact bodyPost_ret (v := .tuple #[.agg #[.int .i64 0, .int .i64 0, .int .i64 0, .int .i64 0, .int .i64 0, .int .i64 0], .int .i64 2]) (by simp [results, Tryz.results97, go_sem]) rfl (plan_no HE.out (by decide) (HB.out _))
  · have a1 : 16 ≤ b := by omega
    have a2 : b ≤ 223 := by omega
    have a3 : 4 ≤ m := by omega
    have a4 : m ≤ 64 := by omega
    have a1' : decide (b < 16) = false := by simp; omega
    have a3' : decide (m < 4) = false := by simp; omega
    have a2' : decide (223 < b) = false := by simp; omega
    have a4' : decide (64 < m) = false := by simp; omega
    by_cases h2 : b ≤ 3 + (m + 1) / 2
    · have HE := Lib.hid (show planE b m = 10 by unfold planE; rw [if_neg h1, if_pos h2])
      clear h1
      go_enter Tryz.func97, Tryz.ntmps97
      go_wp2
      exact bodyPost_ret (v := .tuple #[.agg #[.int .i64 0, .int .i64 0, .int .i64 0, .int .i64 0, .int .i64 0, .int .i64 0], .int .i64 10]) (by simp [results, Tryz.results97, go_sem]) rfl (plan_no HE.out (by decide) ((HB.out _).alloc (by simp) _))
    · have HE := Lib.hid (show planE b m = 0 by unfold planE; rw [if_neg h1, if_neg h2])
      clear h1
      go_enter Tryz.func97, Tryz.ntmps97
      go_wp2
      refine bodyPost_ret (v := .tuple #[.agg #[.int .i64 b, .int .i64 m, .int .i64 1, .int .i64 2, .int .i64 3, .int .i64 (3 + (m + 1) / 2)], .int .i64 0]) (by simp [results, Tryz.results97, go_sem]) rfl ?_
      unfold PlanPost planC
      rw [if_pos HE.out, HE.out]
      exact ⟨rfl, (HB.out _).alloc (by simp) _⟩


theorem zeros_snoc (k : Nat) : zerosB k ++ ⟨#[0]⟩ = zerosB (k + 1) := by
  apply WideShapes.bytes_inj
  simp [zerosB, List.replicate_succ']
set_option maxHeartbeats 400000 in
theorem rzeros_any (n : Nat) (w : World) (hn : n ≤ 1000) : Calls Tryz.prog 108 #[.int .i64 n] w fun e w' => e = .returned (.string (zerosB n)) ∧ w = w' := by
  go_enter Tryz.func108, Tryz.ntmps108
  go_wp2
  go_loop [3, 4] (fun s i => ∃ k : Nat, k ≤ n ∧ i = .int .i64 k ∧ s = .string (zerosB k)) (fun _ i => n - (intOf i).toNat)
  case atStart => exact ⟨0, Nat.zero_le _, rfl, rfl⟩
  case round =>
    obtain ⟨k, hk, rfl, rfl⟩ := hrel
    by_cases hlt : k < n
    · have ad := fun (w : World) => run_string_add_sum (P := Tryz.prog) (w := w) (zerosB k) ⟨#[0]⟩ (by rw [zerosB_size]; show k + 1 ≤ _; omega)
      rw [zeros_snoc] at ad
      go_wp2
      go_round
      case rel => exact ⟨k + 1, by omega, by go_num, rfl⟩
      case measure => simp [intOf]; omega
    · obtain rfl : k = n := by omega
      go_wp2
      go_ret
      exact ⟨rfl, rfl⟩
set_option maxHeartbeats 400000 in
theorem rbit_any (s : ByteArray) (i : Nat) (w : World) (hs : s.size = 128) (hi : i < 1024) :
    Calls Tryz.prog 81 #[.string s, .int .i64 i] w fun e w' => e = .returned (.bool (bitL s.data.toList i)) ∧ w = w' := by
  have h3 : i / 8 < s.size := by omega
  have HB := Lib.hid (bitL_byte s i h3)
  have hlt := s[i / 8].toNat_lt
  have HK := Lib.hid (bit_ask s[i / 8].toNat (i % 8) hlt)
  clear hs hlt
  go_enter Tryz.func81, Tryz.ntmps81
  go_wp2
  go_ret
  exact ⟨ret_bool (by rw [HB.out]; exact HK.out), rfl⟩
theorem drop_byte (s : ByteArray) (k : Nat) (h : k < s.size) : s.data.toList.drop k = s[k] :: s.data.toList.drop (k + 1) := by
  rw [List.drop_eq_getElem_cons (by simpa using h)]; rfl
theorem leN_eight (l : List UInt8) (h : l.length ≤ 8) : leN l < 18446744073709551616 := by
  have h1 := leN_lt l
  have h3 : 256 ^ l.length ≤ 256 ^ 8 := Nat.pow_le_pow_right (by omega) h
  omega
set_option maxHeartbeats 400000 in
theorem rget_any (s : ByteArray) (w : World) (hs : s.size ≤ 8) : Calls Tryz.prog 75 #[.string s] w fun e w' => e = .returned (.int .u64 (leN s.data.toList)) ∧ w = w' := by
  have HB : Hid (∀ k, leN (s.data.toList.drop k) < 18446744073709551616) := fun k => leN_eight _ (by rw [List.length_drop, Array.length_toList]; show s.size - k ≤ 8; omega)
  have HL : Hid (leN (s.data.toList.drop s.size) = 0) := by
    show _ = 0
    rw [List.drop_of_length_le (by rw [Array.length_toList]; exact Nat.le_refl _)]; rfl
  have hz : (0 : Int) ≤ (s.size : Int) := by omega
  go_enter Tryz.func75, Tryz.ntmps75
  go_wp2
  go_loop [3, 4] (fun n i => ∃ k : Nat, k ≤ s.size ∧ i = .int .i64 ((k : Int) - 1) ∧ n = .int .u64 (leN (s.data.toList.drop k) : Nat)) (fun _ i => (intOf i + 1).toNat)
  case atStart => exact ⟨s.size, Nat.le_refl _, rfl, by rw [HL.out]; rfl⟩
  case round =>
    obtain ⟨k, hk, rfl, rfl⟩ := hrel
    cases k with
    | zero =>
      go_wp2
      go_ret
      exact ⟨rfl, rfl⟩
    | succ k =>
      have h1 : k < s.size := by omega
      have hb := HB.out k
      have HD := Lib.hid (drop_byte s k h1)
      have HE : Hid (leN (s.data.toList.drop k) = s[k].toNat + 256 * leN (s.data.toList.drop (k + 1))) := by show _ = _; rw [HD.out]; rfl
      rw [HE.out] at hb
      have e0 : ((k + 1 : Nat) : Int) - 1 = (k : Int) := by omega
      rw [e0]
      have hlt := s[k].toNat_lt
      generalize leN (s.data.toList.drop (k + 1)) = n0 at *
      clear e0
      go_wp2
      go_round
      case rel => exact ⟨k, by omega, rfl, by rw [HE.out]; go_num⟩
      case measure => simp [intOf]
theorem putL_snoc (n k : Nat) : putL n (k + 1) = putL n k ++ [UInt8.ofNat (bt n k)] := by
  unfold putL
  rw [List.range_succ, List.map_append]; rfl
def putB2 (n k : Nat) : ByteArray := ⟨(putL n k).toArray⟩
theorem putB2_size (n k : Nat) : (putB2 n k).size = k := by show (putL n k).toArray.size = k; rw [List.size_toArray, putL_length]
theorem putB2_snoc (n k : Nat) : putB2 n k ++ ⟨#[UInt8.ofNat (bt n k)]⟩ = putB2 n (k + 1) := by
  apply WideShapes.bytes_inj
  simp [putB2, putL_snoc]
set_option maxHeartbeats 1000000 in
theorem rput_any (n k : Nat) (w : World) (hn : n < 18446744073709551616) (hk : k ≤ 8) :
    Calls Tryz.prog 80 #[.int .u64 n, .int .i64 k] w fun e w' => e = .returned (.string (putB2 n k)) ∧ Below w.heap.size w w' := by
  go_enter Tryz.func80, Tryz.ntmps80
  go_wp2
  go_loopw [0, 5, 6] (fun r s i wr => ∃ j : Nat, j ≤ k ∧ i = .int .i64 j ∧ s = .string (putB2 n j) ∧ r = .int .u64 (n / 256 ^ j : Nat) ∧ Hid (Below w.heap.size w wr)) (fun _ _ i _ => k - (intOf i).toNat)
  case atStart => exact ⟨0, Nat.zero_le _, rfl, rfl, by simp, Below.refl _ _⟩
  case round =>
    obtain ⟨j, hj, rfl, rfl, rfl, B⟩ := hrel
    have hq : n / 256 ^ j < 18446744073709551616 := Nat.lt_of_le_of_lt (Nat.div_le_self _ _) hn
    have HQ : Hid (n / 256 ^ (j + 1) = n / 256 ^ j / 256) := by show _ = _; rw [Nat.pow_succ, Nat.div_div_eq_div_mul]
    have HT : Hid (bt n j = n / 256 ^ j % 256) := rfl
    have hz := B.out.size
    by_cases hlt : j < k
    · generalize n / 256 ^ j = q at *
      have hcv := conv_blk (P := Tryz.prog) (w := wr.alloc (.cells #[.int .u8 ((q : Int) % 256)] 5)) (g := wr.heap.size) (t := 5) (st := ⟨#[UInt8.ofNat (bt n j)]⟩) 1 (by
        have := Blk.new wr 5 #[.int .u8 ((q : Int) % 256)]
        have e : (UInt8.ofNat (bt n j)).toNat = q % 256 := by rw [HT.out, UInt8.toNat_ofNat']; omega
        simp only [List.map_cons, List.map_nil, e]
        simpa using this) rfl 1 Tryz.underlying58 Tryz.underlying5 Tryz.underlying9
      have ad := fun (w : World) => run_string_add_sum (P := Tryz.prog) (w := w) (putB2 n j) ⟨#[UInt8.ofNat (bt n j)]⟩ (by rw [putB2_size]; show j + 1 ≤ _; omega)
      rw [putB2_snoc] at ad
      go_wp2
      go_roundw
      case rel => exact ⟨j + 1, by omega, by go_num, rfl, by rw [HQ.out]; go_num, B.out.alloc hz _⟩
      case measure => simp [intOf]; omega
    · obtain rfl : j = k := by omega
      go_wp2
      go_ret
      exact ⟨rfl, B.out⟩
end Go.Proofs.YtoanladhikdcaaaGreat
