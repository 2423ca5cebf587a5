/-
  Room, taking and giving back: plain.
-/
import Derived.Test.YtclmocppphojfaaVolFmt
namespace Go.Proofs.Ytclmocppphojfaa
set_option linter.unusedVariables false
theorem room_vol {xs : List ByteArray} {m : Nat} (hv : IsVol xs m) : roomR xs = xs.length - cntL (blkL xs 2) xs.length := by
  unfold roomR; rw [ofR_some.2 hv]
theorem cntL_pos {l : List UInt8} {i n : Nat} (h : bitL l i = true) (hi : i < n) : 1 ≤ cntL l n := by
  unfold cntL
  exact List.length_pos_of_mem (List.mem_filter.2 ⟨List.mem_range.2 hi, h⟩)
theorem cntL_all {l : List UInt8} {n : Nat} (h : ∀ i, i < n → bitL l i = true) : cntL l n = n := by
  unfold cntL
  rw [List.filter_eq_self.2 (fun i hi => h i (List.mem_range.1 hi)), List.length_range]
theorem room_take {xs : List ByteArray} {m i : Nat} (hv : IsVol xs m) (hf : freeR xs m = some i) : roomR (takeV xs i) + 1 = roomR xs := by
  have hl := hv.len
  obtain ⟨h1, h2, h3, h4⟩ := (freeR_some (by omega)).1 hf
  have hb : i / 8 < (blkL xs 2).length := by rw [hv.blk 2 (by omega)]; omega
  have hc := cntL_turn (blkL xs 2) i hb xs.length
  rw [if_pos h2, h3, if_neg (by simp)] at hc
  have hle := cntL_le (turnL (blkL xs 2) i) xs.length
  rw [room_vol hv, room_vol (hv.take h1 h2), takeV_length, takeV_map (by omega) h2, hc]
  omega
theorem room_give {xs : List ByteArray} {m i : Nat} (hv : IsVol xs m) (h1 : dataN m ≤ i) (h2 : i < xs.length) (h3 : bitL (blkL xs 2) i = true) : roomR (turnV xs i) = roomR xs + 1 := by
  have hl := hv.len
  have hb : i / 8 < (blkL xs 2).length := by rw [hv.blk 2 (by omega)]; omega
  have hc := cntL_turn (blkL xs 2) i hb xs.length
  rw [if_pos h2, h3, if_pos rfl] at hc
  have hle := cntL_le (blkL xs 2) xs.length
  have hp := cntL_pos h3 h2
  rw [room_vol hv, room_vol (hv.turn h1 h2), turnV_length, turnV_map (by omega), hc]
  omega
theorem room_full {xs : List ByteArray} {m : Nat} (hv : IsVol xs m) (hf : freeR xs m = none) : roomR xs = 0 := by
  have hl := hv.len
  have h := (freeR_none (by omega)).1 hf
  rw [room_vol hv, cntL_all (fun i hi => ?_)]
  · omega
  · by_cases hd : dataN m ≤ i
    · exact h i hd hi
    · exact ((bitsOk_iff.1 hv.2.2.2) i (by omega)).1 (by omega)
theorem bit_take {xs : List ByteArray} {m i j : Nat} (hv : IsVol xs m) (hf : freeR xs m = some i) : bitL (blkL (takeV xs i) 2) j = (bitL (blkL xs 2) j || decide (j = i)) := by
  have hl := hv.len
  obtain ⟨h1, h2, h3, h4⟩ := (freeR_some (by omega)).1 hf
  have hb : i / 8 < (blkL xs 2).length := by rw [hv.blk 2 (by omega)]; omega
  rw [takeV_map (by omega) h2, bitL_turn _ _ _ hb]
  by_cases e : j = i
  · subst e; simp [h3]
  · have e2 : ¬ i = j := fun h => e h.symm
    simp [e, e2]
theorem next_free {xs : List ByteArray} {m i j : Nat} (hv : IsVol xs m) (hf : freeR xs m = some i) (hn : freeR (takeV xs i) m = some j) : i < j := by
  have hl := hv.len
  obtain ⟨h1, h2, h3, h4⟩ := (freeR_some (by omega)).1 hf
  obtain ⟨g1, g2, g3, g4⟩ := (freeR_some (by rw [takeV_length]; omega)).1 hn
  rw [bit_take hv hf] at g3
  simp only [Bool.or_eq_false_iff, decide_eq_false_iff_not] at g3
  by_cases hlt : i < j
  · exact hlt
  · exfalso
    have := h4 j g1 (by omega)
    rw [this] at g3
    cases g3.1
end Go.Proofs.Ytclmocppphojfaa
