/-
  What the rows' list of variables gives: cpu.withNumber.
-/
import Derived.Test.YtcjakmnplkeldaaDoorCards
import Derived.Test.YtcjakmnplkeldaaDoorTie
import Derived.Test.YtcjakmnplkeldaaDoorOpen
import Derived.Test.YtcjakmnplkeldaaDoorCpuSpec
import Derived.Deep.DeepHandedRow
import Derived.Lib.LaidTab
import Derived.Lay
namespace Go.Proofs.YtcjakmnplkeldaaDoor
open Go.ChangeShapes Go.WideShapes Go.ChangeAt Go.RowKit
set_option linter.unusedVariables false
set_option linter.unusedSimpArgs false
theorem wnN : Tryd.prog.globalNamed "hibernacle/cpu.withNumber" = some 0 := by kernel_rfl
theorem wnG : (Tryd.prog.globals[0]?).map (·.type) = some 65 := by kernel_rfl
theorem wnC : Tryd.prog.cellsOf 65 = 5 := by kernel_rfl
theorem wnU : Tryd.prog.cellsOf 5 = 1 := by kernel_rfl
theorem laid_of {W : World} (h : laidMetH Tryd.prog Rows.cpuStepsRow.laid W) : Tab5 W := by
  rw [MakeChecks.laidMetH_plain _ _ _ (by kernel_rfl)] at h
  obtain ⟨ps, ⟨g, t, cs, f, p, q, hg, ht, hv, hd, _, _⟩, _⟩ := h
  obtain rfl := Option.some.inj (wnN.symm.trans hg)
  obtain rfl := Option.some.inj (wnG.symm.trans ht)
  have hT : Lib.TabIs Tryd.prog W "hibernacle/cpu.withNumber" .u8 [1, 6, 7, 8, 12] := by
    unfold Lib.TabIs
    rw [hv]
    have := Lib.cells_of_tab (zs := [1, 6, 7, 8, 12]) Tryd.underlying65 Tryd.underlying5 wnU wnC hd
    rw [← this]
  intro k hk
  have := hT.cell wnN k (by simpa using hk)
  rw [this]
  obtain rfl | rfl | rfl | rfl | rfl : k = 0 ∨ k = 1 ∨ k = 2 ∨ k = 3 ∨ k = 4 := by omega
  all_goals rfl
noncomputable def laidWorld (os : Os) : World := World.laidAll Tryd.prog os Rows.cpuStepsRow.laid
theorem laid_met (os : Os) (args : Array Value) : laidMetH Tryd.prog Rows.cpuStepsRow.laid ((laidWorld os).forCall (fun _ _ => 0) ⟨#[], args, []⟩).memory := by
  rw [MakeChecks.laidMetH_plain _ _ _ (by kernel_rfl)]
  exact laidMet_laidAll _ (by kernel_rfl) (by kernel_rfl)
end Go.Proofs.YtcjakmnplkeldaaDoor
