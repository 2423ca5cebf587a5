/-
  Package dir: May.
-/
import Derived.Test.YtoanladhikdcaaaDirPl
import Derived.Test.YtoanladhikdcaaaBytesRow
namespace Go.Proofs.Ytoanladhikdcaaa
open Go.RowKit
set_option linter.unusedVariables false
set_option linter.unusedSimpArgs false
set_option maxRecDepth 100000
theorem str_data (s : ByteArray) : s.toList = s.data.toList := Lib.toList_data s
theorem may_out {l : List UInt8} (h : l = [] ∨ 24 < l.length ∨ l = [46] ∨ l = [46, 46]) : mayB l = false := by
  unfold mayB
  rw [decide_eq_false, Bool.false_and]
  rintro ⟨h1, h2, h3, h4⟩
  rcases h with h | h | h | h
  · exact h1 h
  · omega
  · exact h3 h
  · exact h4 h
theorem may_in {l : List UInt8} (h1 : ¬ l = []) (h2 : l.length ≤ 24) (h3 : ¬ l = [46]) (h4 : ¬ l = [46, 46]) : mayB l = l.all mayC := by
  unfold mayB
  rw [decide_eq_true ⟨h1, h2, h3, h4⟩, Bool.true_and]
theorem all_out {l : List UInt8} {k : Nat} (hk : k < l.length) (h : mayC (l.getD k 0) = false) : l.all mayC = false := by
  rw [List.all_eq_false]
  refine ⟨l[k], List.getElem_mem hk, ?_⟩
  rw [List.getD_eq_getElem?_getD, List.getElem?_eq_getElem hk] at h
  simpa using h
theorem all_step {l : List UInt8} {k : Nat} (hk : k < l.length) (h : (l.take k).all mayC = true) (hc : mayC (l.getD k 0) = true) : (l.take (k + 1)).all mayC = true := by
  rw [List.getD_eq_getElem?_getD, List.getElem?_eq_getElem hk] at hc
  rw [List.take_succ_eq_append_getElem hk, List.all_append, h]
  simpa using hc
set_option maxHeartbeats 8000000 in
theorem may_any (s : ByteArray) (w : World) (hs : s.size ≤ 140737488355328) : Calls Try.prog 10 #[.string s] w fun e w' => e = .returned (.bool (mayB s.data.toList)) ∧ Below w.heap.size w w' := by
  have hl : s.data.toList.length = s.size := by rw [Array.length_toList]; rfl
  obtain ⟨r, hr⟩ : ∃ r, mayB s.data.toList = r := ⟨_, rfl⟩
  rw [hr]
  by_cases h24 : s.size ≤ 24
  · have e24 : ¬ (24 : Int) < (s.size : Int) := by omega
    by_cases h0 : s.data.toList = []
    · have HW := Lib.hid (hr.symm.trans <| may_out (.inl h0))
      have q1 : s.toList = [] := (str_data s).trans h0
      have q2 : s.toList.isEmpty = true := by rw [q1]; rfl
      clear hr
      go_enter Try.func10, Try.ntmps10
      go_wp2
      go_ret
      exact ⟨ret_bool HW.out.symm, Below.refl _ _⟩
    have q1 : ¬ s.toList = [] := by rw [str_data]; exact h0
    have q2 : s.toList.isEmpty = false := by cases h : s.toList <;> simp_all
    by_cases h1 : s.data.toList = [46]
    · have HW := Lib.hid (hr.symm.trans <| may_out (.inr (.inr (.inl h1))))
      have q3 : s.toList = [46] := (str_data s).trans h1
      have q4 : (s.toList == [46]) = true := by rw [q3]; rfl
      clear hr
      go_enter Try.func10, Try.ntmps10
      go_wp2
      go_ret
      exact ⟨ret_bool HW.out.symm, Below.refl _ _⟩
    have q3 : ¬ s.toList = [46] := by rw [str_data]; exact h1
    have q4 : (s.toList == [46]) = false := by simp [q3]
    by_cases h2 : s.data.toList = [46, 46]
    · have HW := Lib.hid (hr.symm.trans <| may_out (.inr (.inr (.inr h2))))
      have q5 : s.toList = [46, 46] := (str_data s).trans h2
      have q6 : (s.toList == [46, 46]) = true := by rw [q5]; rfl
      clear hr
      go_enter Try.func10, Try.ntmps10
      go_wp2
      go_ret
      exact ⟨ret_bool HW.out.symm, Below.refl _ _⟩
    have q5 : ¬ s.toList = [46, 46] := by rw [str_data]; exact h2
    have q6 : (s.toList == [46, 46]) = false := by simp [q5]
    have HW := Lib.hid (hr.symm.trans (may_in h0 (by omega) h1 h2))
    have HL := Lib.hid hl
    clear h0 h1 h2 hl hr
    go_enter Try.func10, Try.ntmps10
    go_wp2_with (refine bytes_of_str 9 53 (.tmp 20) 5 s rfl rfl rfl Try.underlying9 Try.underlying53 Try.underlying5 ?_; intro w2 cp hcl hb2; have HCL := Lib.hid hcl; have B2 := Lib.hid hb2; clear hcl hb2)
    clear q1 q2 q3 q4 q5 q6
    go_loopw [23] (fun j wr => ∃ k : Nat, k ≤ s.size ∧ j = .int .i64 (k : Int) ∧ wr = w2 ∧ Hid ((s.data.toList.take k).all mayC = true)) (fun j _ => s.size - (intOf j).toNat)
    case atStart => exact ⟨0, Nat.zero_le _, rfl, rfl, rfl⟩
    case round =>
      obtain ⟨k, hk, rfl, rfl, HA⟩ := hrel
      by_cases hlt : k < s.size
      · have i1 : (k : Int) < (s.size : Int) := by omega
        have i2 : (0 : Int) ≤ (k : Int) := by omega
        have cb := HCL.out k hlt
        have HO := Lib.hid (fun h => all_out (l := s.data.toList) (k := k) (by rw [HL.out]; exact hlt) h)
        have HI := Lib.hid (fun h => all_step (l := s.data.toList) (k := k) (by rw [HL.out]; exact hlt) HA.out h)
        have hc : (s.data.toList.getD k 0).toNat < 256 := UInt8.toNat_lt _
        have HM : Hid (mayC (s.data.toList.getD k 0) = decide _) := rfl
        generalize mayC (s.data.toList.getD k 0) = mc at *
        generalize (s.data.toList.getD k 0).toNat = c at *
        clear HA
        go_wp2
        all_goals (try simp only [beq_eq_false_iff_ne, beq_iff_eq, ne_eq] at *)
        all_goals first
          | (go_ret
             refine ⟨ret_bool (HW.out.trans (HO.out (HM.out.trans (decide_eq_false (by omega))))).symm, B2.out⟩)
          | (refine ⟨⟨k + 1, by omega, rfl, trivial, HI.out (HM.out.trans (decide_eq_true (by omega)))⟩, ?_⟩
             simp [intOf]; omega)
      · obtain rfl : k = s.size := by omega
        go_wp2
        go_ret
        refine ⟨ret_bool ?_, B2.out⟩
        have := HA.out
        rw [← HL.out, List.take_length] at this
        exact this.symm.trans HW.out.symm
  · have e24 : (24 : Int) < (s.size : Int) := by omega
    have HW := Lib.hid (hr.symm.trans <| may_out (.inr (.inl (by omega : 24 < s.data.toList.length))))
    by_cases h0 : s.data.toList = []
    · rw [h0] at hl; simp at hl; omega
    have q1 : ¬ s.toList = [] := by rw [str_data]; exact h0
    have q2 : s.toList.isEmpty = false := by cases h : s.toList <;> simp_all
    go_enter Try.func10, Try.ntmps10
    go_wp2
    go_ret
    exact ⟨ret_bool HW.out.symm, Below.refl _ _⟩
end Go.Proofs.Ytoanladhikdcaaa
