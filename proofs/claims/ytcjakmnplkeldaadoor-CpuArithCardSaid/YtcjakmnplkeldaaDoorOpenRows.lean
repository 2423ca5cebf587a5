/-
  A slice of strings among the arguments, opened as a row.
-/
import Derived.Test.YtcjakmnplkeldaaDoorShell
import Derived.SliceStrings
import Derived.SizedLaws
namespace Go.Proofs.YtcjakmnplkeldaaDoor
open Go.ChangeShapes Go.WideShapes Go.ChangeAt Go.RowKit
set_option linter.unusedVariables false
set_option linter.unusedSimpArgs false
theorem weightsAll_mem {H : Type} {P : Program} {e : TypeId} : ∀ {l : List (DataW H)} {d : DataW H}, d ∈ l → ∀ n ∈ d.weights P e, n ∈ DataW.weightsAll P e l
  | d' :: r, d, hd, n, hn => by
    simp only [DataW.weightsAll, List.mem_append]
    rcases List.mem_cons.1 hd with rfl | h
    · exact Or.inl hn
    · exact Or.inr (weightsAll_mem h n hn)
theorem block_of_cell {w : World} {b o : Nat} {s : Option Nat} {v : Value} (h : w.cell? ⟨b, o, s⟩ = some v) : b < w.heap.size := by
  unfold World.cell? at h
  dsimp only at h
  cases hb : w.heap[b]? with
  | none => rw [hb] at h; cases h
  | some x => exact (Array.getElem?_eq_some_iff.1 hb).1
theorem open_rows {H : Type} {enc : TypeId × Value → H} {P : Program} {W : World} {r : Reach} {b0 : Nat} {t e : TypeId} {v : Value} {d : DataW H} {ps : List MemPlace} (ht : P.underlying t = some (.slice e)) (he : P.underlying e = some .string) (hc : P.cellsOf e = 1)
    (hv : Value.okWide P W r b0 t v) (h : DataW.Trod enc P W 0 (fun _ => true) true t v d ps) :
    ∃ A c xs, v = .slice A (List.length xs) c ∧ RowAt W W.heap.size A (xs.map .string) ∧ xs.length ≤ maxLen ∧ ∀ s ∈ xs, ByteArray.size s ∈ d.weights P t := by
  obtain ⟨a, len, cap, rfl⟩ := okWide_slice ht hv
  obtain ⟨fuel, hf⟩ := h
  rcases open_strings ht he hc hf with ⟨hcs, hx⟩ | ⟨a', len', cap', ss, hcs, _, hl, hm, hz, hx, hcell, hws⟩
  · simp [Value.cells] at hcs
    obtain ⟨rfl, rfl, rfl⟩ := hcs
    exact ⟨none, 0, [], rfl, RowAt.nil, Nat.zero_le _, fun s hs => by cases hs⟩
  · simp [Value.cells] at hcs
    obtain ⟨rfl, rfl, rfl⟩ := hcs
    simp only [Prod.mk.injEq] at hx
    obtain ⟨rfl, rfl⟩ := hx
    simp only [if_true] at hz
    have hlen : (ss.take len).length = len := by rw [List.length_take]; omega
    refine ⟨some a', cap, ss.take len, by rw [hlen], ?_, by rw [hlen]; omega, fun s hs => ?_⟩
    · by_cases hl0 : len = 0
      · left; rw [hl0]; rfl
      · obtain ⟨b, o, spot⟩ := a'
        have hspot : spot = none := by simpa [Addr.add] using World.cell?_spot (hcell 0 (by omega))
        subst hspot
        refine .inr ⟨b, o, rfl, block_of_cell (o := o) (s := none) (by simpa [Addr.add] using hcell 0 (by omega)), fun j u hu => ?_⟩
        have hj : j < len := by
          have := (List.getElem?_eq_some_iff.1 hu).1
          rw [List.length_map, hlen] at this
          exact this
        have hcj := hcell j (by omega)
        have ea : (⟨b, o, none⟩ : Addr).add j = ⟨b, o + j, none⟩ := by unfold Addr.add; split <;> simp_all
        rw [ea] at hcj
        rw [hcj]
        rw [List.getElem?_map, List.getElem?_take, if_pos hj] at hu
        have hjs : j < ss.length := by omega
        rw [List.getElem?_eq_getElem hjs] at hu
        rw [← hu]
        simp [List.getD, hjs]
    · simp only [DataW.weights, ht]
      refine List.mem_cons_of_mem _ (List.mem_append_left _ (weightsAll_mem (d := .lit (.string s.data.toList)) (List.mem_map.2 ⟨s, hs, rfl⟩) _ ?_))
      simp only [DataW.weights, List.mem_singleton]
      rw [Array.length_toList]; rfl
theorem cells_str : Tryd.prog.cellsOf 9 = 1 := by kernel_rfl
end Go.Proofs.YtcjakmnplkeldaaDoor
