/-
  The walk of the law RollGoes.
-/
import Derived.Test.YtfnfkggnkjkapaaAlive
import Derived.Deep.RegionWith
namespace Go.Proofs.Ytfnfkggnkjkapaa
open Go.RowKit
set_option linter.unusedVariables false
set_option linter.unusedSimpArgs false

theorem goes_core (s : ByteArray) (b : Int) (hb0 : 0 ≤ b) (hb1 : b ≤ 255) (h0 : 0 < s.size) (p : Int) (hp : P.pw (s.size - 1) = p) (t : ByteArray) (ht : t.data.toList = [b].map fun n => UInt8.ofNat n.toNat) :
    P.sm (List.take (s.size - 1) s.data.toList.tail ++ t.data.toList) = ((P.sm s.data.toList - (((s[0]'h0).toNat : Int) + 1) * p) * 69069 + b + 1) % 4294967296 := by
  have hl : s.data.toList.length = s.size := by simp
  obtain ⟨c, l, hcl⟩ : ∃ c l, s.data.toList = c :: l := by
    cases h : s.data.toList with
    | nil => rw [h] at hl; simp at hl; omega
    | cons c l => exact ⟨c, l, rfl⟩
  have h0c : s[0]'h0 = c := by
    have : s.data.toList[0]'(by omega) = c := by simp [hcl]
    rw [← this]; simp; rfl
  have hll : l.length = s.size - 1 := by rw [hcl] at hl; simp at hl; omega
  rw [h0c, ht, hcl, List.tail_cons, List.take_of_length_le (by omega)]
  simp only [List.map_cons, List.map_nil]
  rw [P.sm_snoc, P.stp_eq, P.sm_cons, hll, hp]
  have hbb : ((UInt8.ofNat b.toNat).toNat : Int) = b := by
    rw [UInt8.toNat_ofNat']; omega
  rw [hbb]
  generalize ((c.toNat : Int) + 1) * p = X
  omega

set_option maxHeartbeats 800000 in
theorem law_goes (s : ByteArray) (b : Int) (w : World) (hs : s.size ≤ 9223372036854775807) (hb0 : 0 ≤ b) (hb1 : b ≤ 255) :
    Calls Try.prog 5 #[.string s, .int .u8 b] w fun e w' => e = .returned (.bool true) ∧ Below w.heap.size w w' := by
  go_enter Try.func5, Try.ntmps5
  go_wp2_with fail
  refine (alive_any _).mono ?_
  rintro e w1 ⟨rfl, hb1⟩
  have B1 := Lib.hid hb1
  clear hb1
  by_cases h0 : s.size = 0
  · have h0' : ((s.size : Int) == 0) = true := by simp [h0]
    clear h0
    go_wp2
    go_ret
    exact ⟨rfl, B1.out⟩
  have h0' : ((s.size : Int) == 0) = false := by simpa using h0
  have h0'' : 0 < s.size := by omega
  clear h0
  by_cases h1 : 500 < s.size
  · go_wp2
    go_ret
    exact ⟨rfl, B1.out⟩
  go_wp2
  go_loop [5, 19] (fun p i => ∃ k : Nat, k ≤ s.size - 1 ∧ i = .int .i64 k ∧ p = .int .u32 (P.pw k)) (fun _ i => s.size - (intOf i).toNat)
  case atStart => exact ⟨0, Nat.zero_le _, rfl, rfl⟩
  case round =>
    obtain ⟨k, hk, rfl, rfl⟩ := hrel
    by_cases hlt : k < s.size - 1
    · go_wp2
      go_round
      case rel => exact ⟨k + 1, by omega, by go_num, rfl⟩
      case measure => simp [intOf]; omega
    · obtain rfl : k = s.size - 1 := by omega
      generalize hgen : P.pw (s.size - 1) = p
      have HP := Lib.hid hgen
      clear hgen
      have hi0 : (0 : Int) < (s.size : Int) := by omega
      have hi1 : (1 : Int) ≤ (s.size : Int) := by omega
      go_wp2
      have hcv : (convert 38 9 (.slice (some ⟨w1.heap.size, 0, none⟩) 1 1)).run Try.prog (w1.alloc (.cells #[.int .u8 b] 5)).drew = .ok (.string (strOfNums [b])) (w1.alloc (.cells #[.int .u8 b] 5)).drew :=
        run_convert_bytes_arg _ 38 5 Try.underlying38 Try.underlying5 w1.heap.size 0 1 1 [b] rfl (fun i hi => by
          obtain rfl : i = 0 := by omega
          exact (Blk.new w1 5 #[.int .u8 b]).cell 0 rfl) 9 Try.underlying9
      have hts : (strOfNums [b]).size ≤ 1 := by rw [strOfNums_size]; simp
      have HT := Lib.hid (strOfNums_data [b])
      generalize strOfNums [b] = t at hcv hts HT
      go_region_with (first | (go_at_call 15; refine (sum_any _ _ ?_).mono ?_; (first | omega | (simp; omega)); rintro e w' ⟨rfl, rfl⟩))
      all_goals go_wp2
      all_goals go_ret
      all_goals refine ⟨?_, ?_⟩
      all_goals try simp [go_sem]
      all_goals first
        | (rw [goes_core s b hb0 hb1 h0'' p HP.out t HT.out]; simp only [IntKind.wrap_u32]
           have hc : 0 ≤ ((s[0]'h0'').toNat : Int) ∧ ((s[0]'h0'').toNat : Int) ≤ 255 := by have := (s[0]'h0'').toNat_lt; omega
           generalize ((s[0]'h0'').toNat : Int) = c at hc ⊢
           have e1 : (c % 4294967296 + 1) % 4294967296 = c + 1 := by omega
           have e2 : (c + 1) % 4294967296 = c + 1 := by omega
           simp only [e1, e2]
           generalize (c + 1) * p = X
           omega)
        | exact (B1.out.alloc B1.out.size _).drew
end Go.Proofs.Ytfnfkggnkjkapaa
