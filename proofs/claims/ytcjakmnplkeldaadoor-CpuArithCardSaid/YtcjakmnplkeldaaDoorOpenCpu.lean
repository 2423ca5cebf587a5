/-
  A cpu and pages among the arguments.
-/
import Derived.Test.YtcjakmnplkeldaaDoorOpenInts
import Derived.Test.YtcjakmnplkeldaaDoorCpuSpec
import Derived.Deep.Strs
namespace Go.Proofs.YtcjakmnplkeldaaDoor
open Go.ChangeShapes Go.WideShapes Go.ChangeAt Go.RowKit
set_option linter.unusedVariables false
set_option linter.unusedSimpArgs false
set_option maxRecDepth 100000
theorem cpuCells : Tryd.prog.cellsOf 25 = 17 := by kernel_rfl
theorem regsCells : Tryd.prog.cellsOf 23 = 16 := by kernel_rfl
theorem u32Cells : Tryd.prog.cellsOf 22 = 1 := by kernel_rfl
theorem spaceCells : Tryd.prog.cellsOf 29 = 48 := by kernel_rfl
theorem pteCells : Tryd.prog.cellsOf 27 = 3 := by kernel_rfl
theorem boolCells : Tryd.prog.cellsOf 4 = 1 := by kernel_rfl
theorem intCells : Tryd.prog.cellsOf 3 = 1 := by kernel_rfl
def natOfV : Value → Nat
  | .int _ z => z.toNat
  | _ => 0
theorem open_cpu {H : Type} {enc : TypeId × Value → H} {W : World} {r : Reach} {base b0 : Nat} {spare : Nat → Bool} {held : Bool} {v : Value} {d : DataW H} {p : List MemPlace}
    (hv : Value.okWide Tryd.prog W r b0 25 v) (h : DataW.Trod enc Tryd.prog W base spare held 25 v d p) :
    ∃ (R : List Nat) (pc : Nat), v = .agg (cpuC R pc) ∧ Regs R ∧ pc < 4294967296 := by
  obtain ⟨cs, n, rfl, hsz, hf⟩ := open_struct Tryd.underlying25 hv h
  rw [cpuCells] at hsz
  obtain ⟨y0, h0⟩ := hf 0 _ rfl
  obtain ⟨y1, h1⟩ := hf 1 _ rfl
  obtain ⟨zp, ep, wp⟩ := field_int Tryd.underlying22 u32Cells h1
  obtain ⟨pc, rfl, hpc⟩ := wf_u32 wp
  obtain ⟨xs, k, hk, _, hl, hn, hi⟩ := DataW.trod_array Tryd.underlying23 h0
  have arr : ∀ j, j < 16 → ∃ z : Nat, cs[j]? = some (.int .u32 (z : Int)) ∧ z < 4294967296 := fun j hj => by
    have := hi j hj
    rw [List.getElem?_eq_getElem (by omega)] at this
    obtain ⟨z, e, _, hw⟩ := DataW.trod_int Tryd.underlying22 this
    obtain ⟨m, rfl, hm⟩ := wf_u32 hw
    refine ⟨m, ?_, hm⟩
    rw [u32Cells] at e
    have := congrArg (·[0]?) e
    simp only [regsCells, List.getElem?_take, List.getElem?_drop] at this
    simp at this
    exact this.2
  refine ⟨(List.range 16).map fun j => natOfV (cs.getD j undef), pc, ?_, ⟨by simp, fun z hz => ?_⟩, hpc⟩
  · congr 1
    apply Array.ext_getElem?
    intro j
    unfold cpuC
    by_cases hj : j < 16
    · obtain ⟨z, e, _⟩ := arr j hj
      have e2 : cs.getD j undef = .int .u32 (z : Int) := by simp [Array.getD_eq_getD_getElem?, e]
      rw [e]
      simp [List.getElem?_append, hj, natOfV, e]
    · by_cases hj2 : j = 16
      · subst hj2
        rw [show cs[16]? = some (.int .u32 (pc : Int)) from ep]
        simp [List.getElem?_append]
      · rw [Array.getElem?_eq_none (by omega)]
        symm
        apply Array.getElem?_eq_none
        simp; omega
  · simp only [List.mem_map, List.mem_range] at hz
    obtain ⟨j, hj, rfl⟩ := hz
    obtain ⟨z, e, hw⟩ := arr j hj
    have e2 : cs.getD j undef = .int .u32 (z : Int) := by simp [Array.getD_eq_getD_getElem?, e]
    rw [e2]
    exact hw
theorem open_none {H : Type} {enc : TypeId × Value → H} {P : Program} {W : World} {t e : TypeId} {n c : Nat} {d : DataW H} {ps : List MemPlace} (ht : P.underlying t = some (.slice e)) (he : P.underlying e = some .string) (hc : P.cellsOf e = 1)
    (h : DataW.Trod enc P W 0 (fun _ => true) true t (.slice none n c) d ps) : n = 0 ∧ c = 0 := by
  obtain ⟨fuel, hf⟩ := h
  rcases open_strings ht he hc hf with ⟨hcs, hx⟩ | ⟨a', len', cap', ss, hcs, _⟩
  · simp [Value.cells] at hcs
    exact hcs
  · simp [Value.cells] at hcs
def boolOfV : Value → Bool
  | .bool b => b
  | _ => false
def intOfV : Value → Int
  | .int _ z => z
  | _ => 0
theorem pteL_of (g : Nat → Pte) (n : Nat) : (pteL ((List.range n).map g)).length = 3 * n ∧ ∀ j, j < n → (pteL ((List.range n).map g))[3 * j]? = some (.bool (g j).is) ∧ (pteL ((List.range n).map g))[3 * j + 1]? = some (.bool (g j).wr) ∧ (pteL ((List.range n).map g))[3 * j + 2]? = some (.int .i64 (g j).fr) := by
  refine ⟨?_, fun j hj => ?_⟩
  · induction n with
    | zero => rfl
    | succ n ih => rw [List.range_succ, List.map_append]; unfold pteL at ih ⊢; rw [List.flatMap_append, List.length_append, ih]; simp; omega
  · have := pteL_get ((List.range n).map g) j (by simpa using hj)
    simpa using this
theorem open_space {H : Type} {enc : TypeId × Value → H} {W : World} {r : Reach} {b0 base : Nat} {spare : Nat → Bool} {held : Bool} {v : Value} {d : DataW H} {p : List MemPlace}
    (hv : Value.okWide Tryd.prog W r b0 29 v) (h : DataW.Trod enc Tryd.prog W base spare held 29 v d p) :
    ∃ l : List Pte, v = .agg (pteL l).toArray ∧ l.length = 16 := by
  obtain ⟨cs, rfl, hs⟩ := okWide_array Tryd.underlying29 hv
  obtain ⟨fuel, hf⟩ := h
  obtain ⟨xs, m, rfl, _, hl, hn, hi⟩ := DataW.trod_array Tryd.underlying29 hf
  rw [spaceCells] at hs
  have key : ∀ j, j < 16 → (∃ b, cs[3 * j]? = some (.bool b)) ∧ (∃ b, cs[3 * j + 1]? = some (.bool b)) ∧ ∃ z, cs[3 * j + 2]? = some (.int .i64 z) := fun j hj => by
    have := hi j hj
    rw [List.getElem?_eq_getElem (by omega)] at this
    obtain ⟨y0, y1, y2, n, _, hc, h0, h1, h2⟩ := Go.Deep.trod_struct3 Tryd.underlying27 this
    obtain ⟨b0, e0, _⟩ := DataW.trod_bool Tryd.underlying4 h0
    obtain ⟨b1, e1, _⟩ := DataW.trod_bool Tryd.underlying4 h1
    obtain ⟨z, e2, _⟩ := DataW.trod_int Tryd.underlying3 h2
    rw [boolCells] at e0 e1
    rw [intCells] at e2
    have f0 := congrArg (·[0]?) e0
    have f1 := congrArg (·[0]?) e1
    have f2 := congrArg (·[0]?) e2
    simp only [pteCells, List.getElem?_take, List.getElem?_drop] at f0 f1 f2
    simp [Value.cells] at f0 f1 f2
    rw [Nat.mul_comm] at f0 f1 f2
    exact ⟨⟨b0, by simpa using f0⟩, ⟨b1, by simpa using f1⟩, ⟨z, by simpa using f2⟩⟩
  refine ⟨(List.range 16).map fun j => ⟨boolOfV (cs.getD (3 * j) undef), boolOfV (cs.getD (3 * j + 1) undef), intOfV (cs.getD (3 * j + 2) undef)⟩, ?_, by simp⟩
  congr 1
  obtain ⟨hlen, hget⟩ := pteL_of (fun j => ⟨boolOfV (cs.getD (3 * j) undef), boolOfV (cs.getD (3 * j + 1) undef), intOfV (cs.getD (3 * j + 2) undef)⟩) 16
  apply Array.ext_getElem?
  intro i
  refine Eq.trans ?_ (List.getElem?_toArray).symm
  by_cases hi : i < 48
  · obtain ⟨g0, g1, g2⟩ := hget (i / 3) (by omega)
    obtain ⟨⟨b0, k0⟩, ⟨b1, k1⟩, ⟨z, k2⟩⟩ := key (i / 3) (by omega)
    have c : i = 3 * (i / 3) ∨ i = 3 * (i / 3) + 1 ∨ i = 3 * (i / 3) + 2 := by omega
    rcases c with c | c | c
    · rw [c, g0, k0]
      simp [Array.getD_eq_getD_getElem?, k0, boolOfV]
    · rw [c, g1, k1]
      simp [Array.getD_eq_getD_getElem?, k1, boolOfV]
    · rw [c, g2, k2]
      simp [Array.getD_eq_getD_getElem?, k2, intOfV]
  · rw [Array.getElem?_eq_none (by omega), List.getElem?_eq_none (by omega)]
end Go.Proofs.YtcjakmnplkeldaaDoor
