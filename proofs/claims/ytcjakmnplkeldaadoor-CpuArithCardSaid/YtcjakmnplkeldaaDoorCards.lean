/-
  DERIVED. GIVEN WITH THE SEED: THE CARDS: each row of YtcjakmnplkeldaaDoorRows.lean that lists a variable, with what it lists TIED to the program's text (the seventh form; the later family's looks); each row that meets fmt, with fmt's text TOLD by the authors' own Lean function (tested against real Go, not proved from fmt's source: count such statements apart). THE CARD IS WHAT COUNTS. Prove the row's statement (the work); the ties are given (YtcjakmnplkeldaaDoorTie.lean); close each card by the builder's one call (the guide's Derived/Test/ToyasCard.lean, 'card_holds'). Laid BY PROGRAM, IN A SANDBOX (cutbox-door.mjs). By AI agents, Wed Nov 11 2026. No macro, syntax, notation, axiom, sorry.
-/
import Derived.Test.YtcjakmnplkeldaaDoorRows
import GoSem.ClaimSeven
namespace Go.Proofs.YtcjakmnplkeldaaDoor
namespace Rows

/-- THE TIED CARD OF 'hibernaclelaw14.CpuSteps'. -/
def cpuStepsCard : Claim7 := { stood := { row := cpuStepsRow, standIns := [], harness := (true, "266847dc811edbe318615b4bc5c04143a1e58e8226359f606a9cb4254d6611dd"), looks := false }, kinds := [], alts := [], laidByText := true, laidKinds := [.data], laidTests := true, laidLooks := .later }
def CpuStepsCardSaid : Prop := Claim7.holds Tryd.pinned (.plain (OpenSpec.ofChange cpuStepsSpec)) cpuStepsCard

/-- THE TIED CARD OF 'hibernaclelaw14.CpuRuns'. -/
def cpuRunsCard : Claim7 := { stood := { row := cpuRunsRow, standIns := [], harness := (true, "266847dc811edbe318615b4bc5c04143a1e58e8226359f606a9cb4254d6611dd"), looks := false }, kinds := [], alts := [], laidByText := true, laidKinds := [.data], laidTests := true, laidLooks := .later }
def CpuRunsCardSaid : Prop := Claim7.holds Tryd.pinned (.plain (OpenSpec.ofChange cpuRunsSpec)) cpuRunsCard

/-- THE TIED CARD OF 'hibernaclelaw14.CpuArith'. -/
def cpuArithCard : Claim7 := { stood := { row := cpuArithRow, standIns := [], harness := (true, "266847dc811edbe318615b4bc5c04143a1e58e8226359f606a9cb4254d6611dd"), looks := false }, kinds := [], alts := [], laidByText := true, laidKinds := [.data], laidTests := true, laidLooks := .later }
def CpuArithCardSaid : Prop := Claim7.holds Tryd.pinned (.plain (OpenSpec.ofChange cpuArithSpec)) cpuArithCard

/-- THE TIED CARD OF 'hibernaclelaw14.CpuLittle'. -/
def cpuLittleCard : Claim7 := { stood := { row := cpuLittleRow, standIns := [], harness := (true, "266847dc811edbe318615b4bc5c04143a1e58e8226359f606a9cb4254d6611dd"), looks := false }, kinds := [], alts := [], laidByText := true, laidKinds := [.data], laidTests := true, laidLooks := .later }
def CpuLittleCardSaid : Prop := Claim7.holds Tryd.pinned (.plain (OpenSpec.ofChange cpuLittleSpec)) cpuLittleCard

/-- THE TIED CARD OF 'hibernaclelaw14.CpuApart'. -/
def cpuApartCard : Claim7 := { stood := { row := cpuApartRow, standIns := [], harness := (true, "266847dc811edbe318615b4bc5c04143a1e58e8226359f606a9cb4254d6611dd"), looks := false }, kinds := [], alts := [], laidByText := true, laidKinds := [.data], laidTests := true, laidLooks := .later }
def CpuApartCardSaid : Prop := Claim7.holds Tryd.pinned (.plain (OpenSpec.ofChange cpuApartSpec)) cpuApartCard

/-- THE TIED CARD OF 'hibernaclelaw14.CpuMemory'. -/
def cpuMemoryCard : Claim7 := { stood := { row := cpuMemoryRow, standIns := [], harness := (true, "266847dc811edbe318615b4bc5c04143a1e58e8226359f606a9cb4254d6611dd"), looks := false }, kinds := [], alts := [], laidByText := true, laidKinds := [.data], laidTests := true, laidLooks := .later }
def CpuMemoryCardSaid : Prop := Claim7.holds Tryd.pinned (.plain (OpenSpec.ofChange cpuMemorySpec)) cpuMemoryCard

/-- THE TIED CARD OF 'hibernaclelaw14.CpuBranches'. -/
def cpuBranchesCard : Claim7 := { stood := { row := cpuBranchesRow, standIns := [], harness := (true, "266847dc811edbe318615b4bc5c04143a1e58e8226359f606a9cb4254d6611dd"), looks := false }, kinds := [], alts := [], laidByText := true, laidKinds := [.data], laidTests := true, laidLooks := .later }
def CpuBranchesCardSaid : Prop := Claim7.holds Tryd.pinned (.plain (OpenSpec.ofChange cpuBranchesSpec)) cpuBranchesCard

/-- THE TIED CARD OF 'hibernaclelaw14.CpuReturns'. -/
def cpuReturnsCard : Claim7 := { stood := { row := cpuReturnsRow, standIns := [], harness := (true, "266847dc811edbe318615b4bc5c04143a1e58e8226359f606a9cb4254d6611dd"), looks := false }, kinds := [], alts := [], laidByText := true, laidKinds := [.data], laidTests := true, laidLooks := .later }
def CpuReturnsCardSaid : Prop := Claim7.holds Tryd.pinned (.plain (OpenSpec.ofChange cpuReturnsSpec)) cpuReturnsCard

/-- THE SECOND FORM's CARD OF 'hibernaclelaw14.CpuSteps'. -/
def cpuStepsUptoCard : Claim7 := { stood := { row := cpuStepsUptoRow, standIns := [], harness := (true, "266847dc811edbe318615b4bc5c04143a1e58e8226359f606a9cb4254d6611dd"), looks := false }, kinds := [], alts := [], laidByText := true, laidKinds := [.data], laidTests := true, laidLooks := .later }
def CpuStepsUptoCardSaid : Prop := Claim7.holds Tryd.pinned (.plain (OpenSpec.upto cpuStepsSpec)) cpuStepsUptoCard

/-- THE SECOND FORM's CARD OF 'hibernaclelaw14.CpuRuns'. -/
def cpuRunsUptoCard : Claim7 := { stood := { row := cpuRunsUptoRow, standIns := [], harness := (true, "266847dc811edbe318615b4bc5c04143a1e58e8226359f606a9cb4254d6611dd"), looks := false }, kinds := [], alts := [], laidByText := true, laidKinds := [.data], laidTests := true, laidLooks := .later }
def CpuRunsUptoCardSaid : Prop := Claim7.holds Tryd.pinned (.plain (OpenSpec.upto cpuRunsSpec)) cpuRunsUptoCard

/-- THE SECOND FORM's CARD OF 'hibernaclelaw14.CpuArith'. -/
def cpuArithUptoCard : Claim7 := { stood := { row := cpuArithUptoRow, standIns := [], harness := (true, "266847dc811edbe318615b4bc5c04143a1e58e8226359f606a9cb4254d6611dd"), looks := false }, kinds := [], alts := [], laidByText := true, laidKinds := [.data], laidTests := true, laidLooks := .later }
def CpuArithUptoCardSaid : Prop := Claim7.holds Tryd.pinned (.plain (OpenSpec.upto cpuArithSpec)) cpuArithUptoCard

/-- THE SECOND FORM's CARD OF 'hibernaclelaw14.CpuLittle'. -/
def cpuLittleUptoCard : Claim7 := { stood := { row := cpuLittleUptoRow, standIns := [], harness := (true, "266847dc811edbe318615b4bc5c04143a1e58e8226359f606a9cb4254d6611dd"), looks := false }, kinds := [], alts := [], laidByText := true, laidKinds := [.data], laidTests := true, laidLooks := .later }
def CpuLittleUptoCardSaid : Prop := Claim7.holds Tryd.pinned (.plain (OpenSpec.upto cpuLittleSpec)) cpuLittleUptoCard

/-- THE SECOND FORM's CARD OF 'hibernaclelaw14.CpuApart'. -/
def cpuApartUptoCard : Claim7 := { stood := { row := cpuApartUptoRow, standIns := [], harness := (true, "266847dc811edbe318615b4bc5c04143a1e58e8226359f606a9cb4254d6611dd"), looks := false }, kinds := [], alts := [], laidByText := true, laidKinds := [.data], laidTests := true, laidLooks := .later }
def CpuApartUptoCardSaid : Prop := Claim7.holds Tryd.pinned (.plain (OpenSpec.upto cpuApartSpec)) cpuApartUptoCard

/-- THE SECOND FORM's CARD OF 'hibernaclelaw14.CpuMemory'. -/
def cpuMemoryUptoCard : Claim7 := { stood := { row := cpuMemoryUptoRow, standIns := [], harness := (true, "266847dc811edbe318615b4bc5c04143a1e58e8226359f606a9cb4254d6611dd"), looks := false }, kinds := [], alts := [], laidByText := true, laidKinds := [.data], laidTests := true, laidLooks := .later }
def CpuMemoryUptoCardSaid : Prop := Claim7.holds Tryd.pinned (.plain (OpenSpec.upto cpuMemorySpec)) cpuMemoryUptoCard

/-- THE SECOND FORM's CARD OF 'hibernaclelaw14.CpuBranches'. -/
def cpuBranchesUptoCard : Claim7 := { stood := { row := cpuBranchesUptoRow, standIns := [], harness := (true, "266847dc811edbe318615b4bc5c04143a1e58e8226359f606a9cb4254d6611dd"), looks := false }, kinds := [], alts := [], laidByText := true, laidKinds := [.data], laidTests := true, laidLooks := .later }
def CpuBranchesUptoCardSaid : Prop := Claim7.holds Tryd.pinned (.plain (OpenSpec.upto cpuBranchesSpec)) cpuBranchesUptoCard

/-- THE SECOND FORM's CARD OF 'hibernaclelaw14.CpuReturns'. -/
def cpuReturnsUptoCard : Claim7 := { stood := { row := cpuReturnsUptoRow, standIns := [], harness := (true, "266847dc811edbe318615b4bc5c04143a1e58e8226359f606a9cb4254d6611dd"), looks := false }, kinds := [], alts := [], laidByText := true, laidKinds := [.data], laidTests := true, laidLooks := .later }
def CpuReturnsUptoCardSaid : Prop := Claim7.holds Tryd.pinned (.plain (OpenSpec.upto cpuReturnsSpec)) cpuReturnsUptoCard
end Rows
end Go.Proofs.YtcjakmnplkeldaaDoor
