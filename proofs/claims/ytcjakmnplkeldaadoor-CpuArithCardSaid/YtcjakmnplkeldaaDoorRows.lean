/-
  NARROWER THAN 'FOR EVERY INPUT', by the rows' own cells (each row's printed sentence says how): CpuSteps: laid · CpuRuns: laid · CpuArith: laid · CpuLittle: laid · CpuApart: laid · CpuMemory: laid · CpuBranches: laid · CpuReturns: laid.
  DERIVED. THE GIVEN ROWS OF THIS SEAT. 8 by the template 'for every input the law returns true; each argument reads behind the call as it read before'; 0 by the template 'total and deterministic' (their statements: YtcjakmnplkeldaaDoorTotals.lean).
  GIVEN WITH THE SEED: the statements are not yours to turn. If you find one false, say at which input.
  Laid BY PROGRAM, IN A SANDBOX (cutbox-rows.mjs): the forced cells as the released guide's own fill.sh prints them over the translation 2667e9cad3032eec… (all of the seat's roots in one cut). By AI agents, Wed Nov 11 2026. No macro, syntax, notation, axiom, sorry.
-/
import Derived.Test.YtcjakmnplkeldaaDoorChecked
import GoSem.Claim
import GoSem.ClaimJoined
import GoSem.ClaimMapViews
import Derived.JoinedTies
import Derived.KernelRfl
namespace Go.Proofs.YtcjakmnplkeldaaDoor
/- THE CELL 'sum', in the pinned program and in every row, IS THE sha256 OF THE DUMP (.gsa) THAT YtcjakmnplkeldaaDoorProg.lean LOADS. Nothing in Lean hashes anything: it is a label: what it is worth is what the hold of that sum in a sandbox is worth. -/
noncomputable def Tryd.pinned : Pinned := { name := "ytcjakmnplkeldaadoor", sum := "2667e9cad3032eec96d89648bdc09d8960958e2c45234563246a373d73d4f71f", checked := Tryd.checked }
namespace Rows
def none {H : Type} : Left H := { results := [], args := [] }

/- WHAT THE LISTED PACKAGE-LEVEL VARIABLES READ AS WHEN THE CALL BEGINS. Each datum BY PROGRAM (the guide's laid-datum.mjs) off the statement by which the dump's own 'gosem.cut.vars' lays the variable. In a bare row this is a premise. The card (YtcjakmnplkeldaaDoorCards.lean) ties it to the program's text. -/
def laid_hibernacle_cpu_withNumber {H : Type} : DataW H := .agg [.lit (.int .u8 1), .lit (.int .u8 6), .lit (.int .u8 7), .lit (.int .u8 8), .lit (.int .u8 12)]

/-- 'hibernaclelaw14.CpuSteps': WHATEVER THE INPUT: true; the input reads as it did. -/
def cpuStepsSpec : ChangeSpec := { name := "cpuSteps", fn := fun _ => fun
  | [d1, d2, d3] => { results := [.lit (.bool true)], args := [d1, d2, d3] }
  | _ => none }
def cpuStepsRow : OpenClaim := { program := "ytcjakmnplkeldaadoor", sum := "2667e9cad3032eec96d89648bdc09d8960958e2c45234563246a373d73d4f71f", func := "hibernacle/hibernaclelaw14.CpuSteps", spec := "cpuSteps", unfollowed := true, recurses := true, named := ["hibernacle/cpu.withNumber"], apart := false, laid := [("hibernacle/cpu.withNumber", laid_hibernacle_cpu_withNumber)] }
def CpuStepsSaid : Prop := cpuStepsRow.holds Tryd.pinned (OpenSpec.ofChange cpuStepsSpec)

/-- ITS FALSE NEIGHBOUR: 'it returns false'. Refute it at one input. -/
def cpuStepsWrong : ChangeSpec := { name := "cpuSteps", fn := fun _ => fun
  | [d1, d2, d3] => { results := [.lit (.bool false)], args := [d1, d2, d3] }
  | _ => none }
def CpuStepsWrongFalsely : Prop := cpuStepsRow.holds Tryd.pinned (OpenSpec.ofChange cpuStepsWrong)

/-- 'hibernaclelaw14.CpuRuns': WHATEVER THE INPUT: true; the input reads as it did. -/
def cpuRunsSpec : ChangeSpec := { name := "cpuRuns", fn := fun _ => fun
  | [d1, d2, d3, d4] => { results := [.lit (.bool true)], args := [d1, d2, d3, d4] }
  | _ => none }
def cpuRunsRow : OpenClaim := { program := "ytcjakmnplkeldaadoor", sum := "2667e9cad3032eec96d89648bdc09d8960958e2c45234563246a373d73d4f71f", func := "hibernacle/hibernaclelaw14.CpuRuns", spec := "cpuRuns", unfollowed := true, recurses := true, named := ["hibernacle/cpu.withNumber"], apart := false, laid := [("hibernacle/cpu.withNumber", laid_hibernacle_cpu_withNumber)] }
def CpuRunsSaid : Prop := cpuRunsRow.holds Tryd.pinned (OpenSpec.ofChange cpuRunsSpec)

/-- ITS FALSE NEIGHBOUR: 'it returns false'. Refute it at one input. -/
def cpuRunsWrong : ChangeSpec := { name := "cpuRuns", fn := fun _ => fun
  | [d1, d2, d3, d4] => { results := [.lit (.bool false)], args := [d1, d2, d3, d4] }
  | _ => none }
def CpuRunsWrongFalsely : Prop := cpuRunsRow.holds Tryd.pinned (OpenSpec.ofChange cpuRunsWrong)

/-- 'hibernaclelaw14.CpuArith': WHATEVER THE INPUT: true; the input reads as it did. -/
def cpuArithSpec : ChangeSpec := { name := "cpuArith", fn := fun _ => fun
  | [d1, d2] => { results := [.lit (.bool true)], args := [d1, d2] }
  | _ => none }
def cpuArithRow : OpenClaim := { program := "ytcjakmnplkeldaadoor", sum := "2667e9cad3032eec96d89648bdc09d8960958e2c45234563246a373d73d4f71f", func := "hibernacle/hibernaclelaw14.CpuArith", spec := "cpuArith", unfollowed := true, recurses := true, named := ["hibernacle/cpu.withNumber"], apart := false, laid := [("hibernacle/cpu.withNumber", laid_hibernacle_cpu_withNumber)] }
def CpuArithSaid : Prop := cpuArithRow.holds Tryd.pinned (OpenSpec.ofChange cpuArithSpec)

/-- ITS FALSE NEIGHBOUR: 'it returns false'. Refute it at one input. -/
def cpuArithWrong : ChangeSpec := { name := "cpuArith", fn := fun _ => fun
  | [d1, d2] => { results := [.lit (.bool false)], args := [d1, d2] }
  | _ => none }
def CpuArithWrongFalsely : Prop := cpuArithRow.holds Tryd.pinned (OpenSpec.ofChange cpuArithWrong)

/-- 'hibernaclelaw14.CpuLittle': WHATEVER THE INPUT: true; the input reads as it did. -/
def cpuLittleSpec : ChangeSpec := { name := "cpuLittle", fn := fun _ => fun
  | [d1, d2, d3] => { results := [.lit (.bool true)], args := [d1, d2, d3] }
  | _ => none }
def cpuLittleRow : OpenClaim := { program := "ytcjakmnplkeldaadoor", sum := "2667e9cad3032eec96d89648bdc09d8960958e2c45234563246a373d73d4f71f", func := "hibernacle/hibernaclelaw14.CpuLittle", spec := "cpuLittle", unfollowed := true, recurses := true, named := ["hibernacle/cpu.withNumber"], apart := false, laid := [("hibernacle/cpu.withNumber", laid_hibernacle_cpu_withNumber)] }
def CpuLittleSaid : Prop := cpuLittleRow.holds Tryd.pinned (OpenSpec.ofChange cpuLittleSpec)

/-- ITS FALSE NEIGHBOUR: 'it returns false'. Refute it at one input. -/
def cpuLittleWrong : ChangeSpec := { name := "cpuLittle", fn := fun _ => fun
  | [d1, d2, d3] => { results := [.lit (.bool false)], args := [d1, d2, d3] }
  | _ => none }
def CpuLittleWrongFalsely : Prop := cpuLittleRow.holds Tryd.pinned (OpenSpec.ofChange cpuLittleWrong)

/-- 'hibernaclelaw14.CpuApart': WHATEVER THE INPUT: true; the input reads as it did. -/
def cpuApartSpec : ChangeSpec := { name := "cpuApart", fn := fun _ => fun
  | [d1, d2, d3, d4] => { results := [.lit (.bool true)], args := [d1, d2, d3, d4] }
  | _ => none }
def cpuApartRow : OpenClaim := { program := "ytcjakmnplkeldaadoor", sum := "2667e9cad3032eec96d89648bdc09d8960958e2c45234563246a373d73d4f71f", func := "hibernacle/hibernaclelaw14.CpuApart", spec := "cpuApart", unfollowed := true, recurses := true, named := ["hibernacle/cpu.withNumber"], apart := false, laid := [("hibernacle/cpu.withNumber", laid_hibernacle_cpu_withNumber)] }
def CpuApartSaid : Prop := cpuApartRow.holds Tryd.pinned (OpenSpec.ofChange cpuApartSpec)

/-- ITS FALSE NEIGHBOUR: 'it returns false'. Refute it at one input. -/
def cpuApartWrong : ChangeSpec := { name := "cpuApart", fn := fun _ => fun
  | [d1, d2, d3, d4] => { results := [.lit (.bool false)], args := [d1, d2, d3, d4] }
  | _ => none }
def CpuApartWrongFalsely : Prop := cpuApartRow.holds Tryd.pinned (OpenSpec.ofChange cpuApartWrong)

/-- 'hibernaclelaw14.CpuMemory': WHATEVER THE INPUT: true; the input reads as it did. -/
def cpuMemorySpec : ChangeSpec := { name := "cpuMemory", fn := fun _ => fun
  | [d1, d2, d3] => { results := [.lit (.bool true)], args := [d1, d2, d3] }
  | _ => none }
def cpuMemoryRow : OpenClaim := { program := "ytcjakmnplkeldaadoor", sum := "2667e9cad3032eec96d89648bdc09d8960958e2c45234563246a373d73d4f71f", func := "hibernacle/hibernaclelaw14.CpuMemory", spec := "cpuMemory", unfollowed := true, recurses := true, named := ["hibernacle/cpu.withNumber"], apart := false, laid := [("hibernacle/cpu.withNumber", laid_hibernacle_cpu_withNumber)] }
def CpuMemorySaid : Prop := cpuMemoryRow.holds Tryd.pinned (OpenSpec.ofChange cpuMemorySpec)

/-- ITS FALSE NEIGHBOUR: 'it returns false'. Refute it at one input. -/
def cpuMemoryWrong : ChangeSpec := { name := "cpuMemory", fn := fun _ => fun
  | [d1, d2, d3] => { results := [.lit (.bool false)], args := [d1, d2, d3] }
  | _ => none }
def CpuMemoryWrongFalsely : Prop := cpuMemoryRow.holds Tryd.pinned (OpenSpec.ofChange cpuMemoryWrong)

/-- 'hibernaclelaw14.CpuBranches': WHATEVER THE INPUT: true; the input reads as it did. -/
def cpuBranchesSpec : ChangeSpec := { name := "cpuBranches", fn := fun _ => fun
  | [d1, d2, d3] => { results := [.lit (.bool true)], args := [d1, d2, d3] }
  | _ => none }
def cpuBranchesRow : OpenClaim := { program := "ytcjakmnplkeldaadoor", sum := "2667e9cad3032eec96d89648bdc09d8960958e2c45234563246a373d73d4f71f", func := "hibernacle/hibernaclelaw14.CpuBranches", spec := "cpuBranches", unfollowed := true, recurses := true, named := ["hibernacle/cpu.withNumber"], apart := false, laid := [("hibernacle/cpu.withNumber", laid_hibernacle_cpu_withNumber)] }
def CpuBranchesSaid : Prop := cpuBranchesRow.holds Tryd.pinned (OpenSpec.ofChange cpuBranchesSpec)

/-- ITS FALSE NEIGHBOUR: 'it returns false'. Refute it at one input. -/
def cpuBranchesWrong : ChangeSpec := { name := "cpuBranches", fn := fun _ => fun
  | [d1, d2, d3] => { results := [.lit (.bool false)], args := [d1, d2, d3] }
  | _ => none }
def CpuBranchesWrongFalsely : Prop := cpuBranchesRow.holds Tryd.pinned (OpenSpec.ofChange cpuBranchesWrong)

/-- 'hibernaclelaw14.CpuReturns': WHATEVER THE INPUT: true; the input reads as it did. -/
def cpuReturnsSpec : ChangeSpec := { name := "cpuReturns", fn := fun _ => fun
  | [d1, d2, d3] => { results := [.lit (.bool true)], args := [d1, d2, d3] }
  | _ => none }
def cpuReturnsRow : OpenClaim := { program := "ytcjakmnplkeldaadoor", sum := "2667e9cad3032eec96d89648bdc09d8960958e2c45234563246a373d73d4f71f", func := "hibernacle/hibernaclelaw14.CpuReturns", spec := "cpuReturns", unfollowed := true, recurses := true, named := ["hibernacle/cpu.withNumber"], apart := false, laid := [("hibernacle/cpu.withNumber", laid_hibernacle_cpu_withNumber)] }
def CpuReturnsSaid : Prop := cpuReturnsRow.holds Tryd.pinned (OpenSpec.ofChange cpuReturnsSpec)

/-- ITS FALSE NEIGHBOUR: 'it returns false'. Refute it at one input. -/
def cpuReturnsWrong : ChangeSpec := { name := "cpuReturns", fn := fun _ => fun
  | [d1, d2, d3] => { results := [.lit (.bool false)], args := [d1, d2, d3] }
  | _ => none }
def CpuReturnsWrongFalsely : Prop := cpuReturnsRow.holds Tryd.pinned (OpenSpec.ofChange cpuReturnsWrong)

/- THE SECOND FORM. 'bulk': how many values and letters a reading holds, each counted each time it is reached (what is shared counts as often as it is met; a slice's spare places count too). A statement '..UptoSaid' is the law's where the arguments, and the package variables that the reading takes, are together of bulk at most 1048576: NARROWER than '..Said'. Prove '..Said' where nothing that the law and all that it calls make is longer than what came in: it says more and counts as full. Else prove '..UptoSaid'. A law counts once. -/
mutual
def uptoBulk {H : Type} : DataW H → Nat
  | .lit (.string bytes) => bytes.length + 1
  | .lit _ => 1
  | .nil => 1
  | .ptr d => uptoBulk d + 1
  | .slice elems spare => uptoBulkAll elems + uptoBulkAll spare + 1
  | .agg parts => uptoBulkAll parts + 1
  | .iface _ d => uptoBulk d + 1
  | .map entries => uptoBulkEntries entries + 1
  | .held _ => 1
def uptoBulkAll {H : Type} : List (DataW H) → Nat
  | [] => 0
  | d :: r => uptoBulk d + uptoBulkAll r
def uptoBulkEntries {H : Type} : List (Lit × DataW H) → Nat
  | [] => 0
  | x :: r => uptoBulkEntry x + uptoBulkEntries r
def uptoBulkEntry {H : Type} : Lit × DataW H → Nat
  | (.string bytes, d) => bytes.length + uptoBulk d + 1
  | (_, d) => uptoBulk d + 1
 end
def uptoSmall : (H : Type) → List (DataW H) → Bool := fun _ ds => decide (uptoBulkAll ds ≤ 1048576)
def OpenSpec.upto (s : _root_.Go.ChangeSpec) : _root_.Go.OpenSpec := { _root_.Go.OpenSpec.ofChange s with cond := some uptoSmall }

/-- 'hibernaclelaw14.CpuSteps', WHERE WHAT IT READS IS OF BULK AT MOST 1048576: true; the input reads as it did. -/
def cpuStepsUptoRow : OpenClaim := { program := "ytcjakmnplkeldaadoor", sum := "2667e9cad3032eec96d89648bdc09d8960958e2c45234563246a373d73d4f71f", func := "hibernacle/hibernaclelaw14.CpuSteps", spec := "cpuSteps", unfollowed := true, recurses := true, named := ["hibernacle/cpu.withNumber"], apart := false, laid := [("hibernacle/cpu.withNumber", laid_hibernacle_cpu_withNumber)], narrowed := true }
def CpuStepsUptoSaid : Prop := cpuStepsUptoRow.holds Tryd.pinned (OpenSpec.upto cpuStepsSpec)

/-- 'hibernaclelaw14.CpuRuns', WHERE WHAT IT READS IS OF BULK AT MOST 1048576: true; the input reads as it did. -/
def cpuRunsUptoRow : OpenClaim := { program := "ytcjakmnplkeldaadoor", sum := "2667e9cad3032eec96d89648bdc09d8960958e2c45234563246a373d73d4f71f", func := "hibernacle/hibernaclelaw14.CpuRuns", spec := "cpuRuns", unfollowed := true, recurses := true, named := ["hibernacle/cpu.withNumber"], apart := false, laid := [("hibernacle/cpu.withNumber", laid_hibernacle_cpu_withNumber)], narrowed := true }
def CpuRunsUptoSaid : Prop := cpuRunsUptoRow.holds Tryd.pinned (OpenSpec.upto cpuRunsSpec)

/-- 'hibernaclelaw14.CpuArith', WHERE WHAT IT READS IS OF BULK AT MOST 1048576: true; the input reads as it did. -/
def cpuArithUptoRow : OpenClaim := { program := "ytcjakmnplkeldaadoor", sum := "2667e9cad3032eec96d89648bdc09d8960958e2c45234563246a373d73d4f71f", func := "hibernacle/hibernaclelaw14.CpuArith", spec := "cpuArith", unfollowed := true, recurses := true, named := ["hibernacle/cpu.withNumber"], apart := false, laid := [("hibernacle/cpu.withNumber", laid_hibernacle_cpu_withNumber)], narrowed := true }
def CpuArithUptoSaid : Prop := cpuArithUptoRow.holds Tryd.pinned (OpenSpec.upto cpuArithSpec)

/-- 'hibernaclelaw14.CpuLittle', WHERE WHAT IT READS IS OF BULK AT MOST 1048576: true; the input reads as it did. -/
def cpuLittleUptoRow : OpenClaim := { program := "ytcjakmnplkeldaadoor", sum := "2667e9cad3032eec96d89648bdc09d8960958e2c45234563246a373d73d4f71f", func := "hibernacle/hibernaclelaw14.CpuLittle", spec := "cpuLittle", unfollowed := true, recurses := true, named := ["hibernacle/cpu.withNumber"], apart := false, laid := [("hibernacle/cpu.withNumber", laid_hibernacle_cpu_withNumber)], narrowed := true }
def CpuLittleUptoSaid : Prop := cpuLittleUptoRow.holds Tryd.pinned (OpenSpec.upto cpuLittleSpec)

/-- 'hibernaclelaw14.CpuApart', WHERE WHAT IT READS IS OF BULK AT MOST 1048576: true; the input reads as it did. -/
def cpuApartUptoRow : OpenClaim := { program := "ytcjakmnplkeldaadoor", sum := "2667e9cad3032eec96d89648bdc09d8960958e2c45234563246a373d73d4f71f", func := "hibernacle/hibernaclelaw14.CpuApart", spec := "cpuApart", unfollowed := true, recurses := true, named := ["hibernacle/cpu.withNumber"], apart := false, laid := [("hibernacle/cpu.withNumber", laid_hibernacle_cpu_withNumber)], narrowed := true }
def CpuApartUptoSaid : Prop := cpuApartUptoRow.holds Tryd.pinned (OpenSpec.upto cpuApartSpec)

/-- 'hibernaclelaw14.CpuMemory', WHERE WHAT IT READS IS OF BULK AT MOST 1048576: true; the input reads as it did. -/
def cpuMemoryUptoRow : OpenClaim := { program := "ytcjakmnplkeldaadoor", sum := "2667e9cad3032eec96d89648bdc09d8960958e2c45234563246a373d73d4f71f", func := "hibernacle/hibernaclelaw14.CpuMemory", spec := "cpuMemory", unfollowed := true, recurses := true, named := ["hibernacle/cpu.withNumber"], apart := false, laid := [("hibernacle/cpu.withNumber", laid_hibernacle_cpu_withNumber)], narrowed := true }
def CpuMemoryUptoSaid : Prop := cpuMemoryUptoRow.holds Tryd.pinned (OpenSpec.upto cpuMemorySpec)

/-- 'hibernaclelaw14.CpuBranches', WHERE WHAT IT READS IS OF BULK AT MOST 1048576: true; the input reads as it did. -/
def cpuBranchesUptoRow : OpenClaim := { program := "ytcjakmnplkeldaadoor", sum := "2667e9cad3032eec96d89648bdc09d8960958e2c45234563246a373d73d4f71f", func := "hibernacle/hibernaclelaw14.CpuBranches", spec := "cpuBranches", unfollowed := true, recurses := true, named := ["hibernacle/cpu.withNumber"], apart := false, laid := [("hibernacle/cpu.withNumber", laid_hibernacle_cpu_withNumber)], narrowed := true }
def CpuBranchesUptoSaid : Prop := cpuBranchesUptoRow.holds Tryd.pinned (OpenSpec.upto cpuBranchesSpec)

/-- 'hibernaclelaw14.CpuReturns', WHERE WHAT IT READS IS OF BULK AT MOST 1048576: true; the input reads as it did. -/
def cpuReturnsUptoRow : OpenClaim := { program := "ytcjakmnplkeldaadoor", sum := "2667e9cad3032eec96d89648bdc09d8960958e2c45234563246a373d73d4f71f", func := "hibernacle/hibernaclelaw14.CpuReturns", spec := "cpuReturns", unfollowed := true, recurses := true, named := ["hibernacle/cpu.withNumber"], apart := false, laid := [("hibernacle/cpu.withNumber", laid_hibernacle_cpu_withNumber)], narrowed := true }
def CpuReturnsUptoSaid : Prop := cpuReturnsUptoRow.holds Tryd.pinned (OpenSpec.upto cpuReturnsSpec)

end Rows
end Go.Proofs.YtcjakmnplkeldaaDoor
