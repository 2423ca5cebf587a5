/-
  NARROWER THAN 'FOR EVERY INPUT', by the rows' own cells (each row's printed sentence says how): TopFiles: laid · TopRoom: laid · TopVolume: laid.
  DERIVED. THE GIVEN ROWS OF THIS SEAT. 3 by the template 'for every input the law returns true; each argument reads behind the call as it read before'; 0 by the template 'total and deterministic' (their statements: YtdldlendppkknaaGreatDoorTotals.lean).
  GIVEN WITH THE SEED: the statements are not yours to turn. If you find one false, say at which input.
  Laid BY PROGRAM, IN A SANDBOX (cutbox-rows.mjs): the forced cells as the released guide's own fill.sh prints them over the translation af009079e0a2dd58… (all of the seat's roots in one cut). By AI agents, Wed Nov 11 2026. No macro, syntax, notation, axiom, sorry.
-/
import Derived.Test.YtdldlendppkknaaGreatDoorChecked
import GoSem.Claim
import GoSem.ClaimJoined
import GoSem.ClaimMapViews
import Derived.JoinedTies
import Derived.KernelRfl
namespace Go.Proofs.YtdldlendppkknaaGreatDoor
/- THE CELL 'sum', in the pinned program and in every row, IS THE sha256 OF THE DUMP (.gsa) THAT YtdldlendppkknaaGreatDoorProg.lean LOADS. Nothing in Lean hashes anything: it is a label: what it is worth is what the hold of that sum in a sandbox is worth. -/
noncomputable def Tryz.pinned : Pinned := { name := "ytdldlendppkknaagreatdoor", sum := "af009079e0a2dd5849758bc063977c8ccaa90f4985e678fbe2f4e6d55901493f", checked := Tryz.checked }
namespace Rows
def none {H : Type} : Left H := { results := [], args := [] }

/- WHAT THE LISTED PACKAGE-LEVEL VARIABLES READ AS WHEN THE CALL BEGINS. Each datum BY PROGRAM (the guide's laid-datum.mjs) off the statement by which the dump's own 'gosem.cut.vars' lays the variable. In a bare row this is a premise. The card (YtdldlendppkknaaGreatDoorCards.lean) ties it to the program's text. -/
def laid_hibernacle_isa_names {H : Type} : DataW H := .agg [.lit (.string []), .lit (.string [97, 100, 100]), .lit (.string [115, 117, 98]), .lit (.string [109, 117, 108]), .lit (.string [100, 105, 118]), .lit (.string [114, 101, 109]), .lit (.string [97, 110, 100]), .lit (.string [111, 114]), .lit (.string [120, 111, 114]), .lit (.string [115, 104, 108]), .lit (.string [115, 104, 114]), .lit (.string [115, 97, 114]), .lit (.string [115, 108, 116]), .lit (.string [115, 108, 116, 117]), .lit (.string [97, 100, 100, 105]), .lit (.string [97, 110, 100, 105]), .lit (.string [111, 114, 105]), .lit (.string [120, 111, 114, 105]), .lit (.string [115, 108, 116, 105]), .lit (.string [108, 117, 105]), .lit (.string [108, 119]), .lit (.string [108, 98]), .lit (.string [108, 98, 117]), .lit (.string [115, 119]), .lit (.string [115, 98]), .lit (.string [98, 101, 113]), .lit (.string [98, 110, 101]), .lit (.string [98, 108, 116]), .lit (.string [98, 108, 116, 117]), .lit (.string [106, 97, 108]), .lit (.string [106, 97, 108, 114]), .lit (.string [115, 121, 115])]
def laid_hibernacle_cpu_withNumber {H : Type} : DataW H := .agg [.lit (.int .u8 1), .lit (.int .u8 6), .lit (.int .u8 7), .lit (.int .u8 8), .lit (.int .u8 12)]

/-- 'hibernacletop.TopFiles': WHATEVER THE INPUT: true; the input reads as it did. -/
def topFilesSpec : ChangeSpec := { name := "topFiles", fn := fun _ => fun
  | [d1, d2, d3, d4, d5, d6, d7] => { results := [.lit (.bool true)], args := [d1, d2, d3, d4, d5, d6, d7] }
  | _ => none }
def topFilesRow : OpenClaim := { program := "ytdldlendppkknaagreatdoor", sum := "af009079e0a2dd5849758bc063977c8ccaa90f4985e678fbe2f4e6d55901493f", func := "hibernacle/hibernacletop.TopFiles", spec := "topFiles", inPlace := ["internal/abi.NoEscape", "internal/bytealg.MakeNoZero", "internal/bytealg.IndexByteString", "internal/bytealg.abigen_runtime_cmpstring"], unfollowed := true, recurses := true, named := ["hibernacle/isa.names", "hibernacle/cpu.withNumber"], plainKeys := false, apart := false, laid := [("hibernacle/isa.names", laid_hibernacle_isa_names), ("hibernacle/cpu.withNumber", laid_hibernacle_cpu_withNumber)] }
def TopFilesSaid : Prop := topFilesRow.holds Tryz.pinned (OpenSpec.ofChange topFilesSpec)

/-- ITS FALSE NEIGHBOUR: 'it returns false'. Refute it at one input. -/
def topFilesWrong : ChangeSpec := { name := "topFiles", fn := fun _ => fun
  | [d1, d2, d3, d4, d5, d6, d7] => { results := [.lit (.bool false)], args := [d1, d2, d3, d4, d5, d6, d7] }
  | _ => none }
def TopFilesWrongFalsely : Prop := topFilesRow.holds Tryz.pinned (OpenSpec.ofChange topFilesWrong)

/-- 'hibernacletop.TopRoom': WHATEVER THE INPUT: true; the input reads as it did. -/
def topRoomSpec : ChangeSpec := { name := "topRoom", fn := fun _ => fun
  | [d1, d2, d3] => { results := [.lit (.bool true)], args := [d1, d2, d3] }
  | _ => none }
def topRoomRow : OpenClaim := { program := "ytdldlendppkknaagreatdoor", sum := "af009079e0a2dd5849758bc063977c8ccaa90f4985e678fbe2f4e6d55901493f", func := "hibernacle/hibernacletop.TopRoom", spec := "topRoom", inPlace := ["internal/abi.NoEscape", "internal/bytealg.MakeNoZero", "internal/bytealg.IndexByteString", "internal/bytealg.abigen_runtime_cmpstring"], unfollowed := true, recurses := true, named := ["hibernacle/isa.names", "hibernacle/cpu.withNumber"], plainKeys := false, apart := false, laid := [("hibernacle/isa.names", laid_hibernacle_isa_names), ("hibernacle/cpu.withNumber", laid_hibernacle_cpu_withNumber)] }
def TopRoomSaid : Prop := topRoomRow.holds Tryz.pinned (OpenSpec.ofChange topRoomSpec)

/-- ITS FALSE NEIGHBOUR: 'it returns false'. Refute it at one input. -/
def topRoomWrong : ChangeSpec := { name := "topRoom", fn := fun _ => fun
  | [d1, d2, d3] => { results := [.lit (.bool false)], args := [d1, d2, d3] }
  | _ => none }
def TopRoomWrongFalsely : Prop := topRoomRow.holds Tryz.pinned (OpenSpec.ofChange topRoomWrong)

/-- 'hibernacletop.TopVolume': WHATEVER THE INPUT: true; the input reads as it did. -/
def topVolumeSpec : ChangeSpec := { name := "topVolume", fn := fun _ => fun
  | [d1, d2, d3] => { results := [.lit (.bool true)], args := [d1, d2, d3] }
  | _ => none }
def topVolumeRow : OpenClaim := { program := "ytdldlendppkknaagreatdoor", sum := "af009079e0a2dd5849758bc063977c8ccaa90f4985e678fbe2f4e6d55901493f", func := "hibernacle/hibernacletop.TopVolume", spec := "topVolume", inPlace := ["internal/abi.NoEscape", "internal/bytealg.MakeNoZero", "internal/bytealg.IndexByteString", "internal/bytealg.abigen_runtime_cmpstring"], unfollowed := true, recurses := true, named := ["hibernacle/isa.names", "hibernacle/cpu.withNumber"], plainKeys := false, apart := false, laid := [("hibernacle/isa.names", laid_hibernacle_isa_names), ("hibernacle/cpu.withNumber", laid_hibernacle_cpu_withNumber)] }
def TopVolumeSaid : Prop := topVolumeRow.holds Tryz.pinned (OpenSpec.ofChange topVolumeSpec)

/-- ITS FALSE NEIGHBOUR: 'it returns false'. Refute it at one input. -/
def topVolumeWrong : ChangeSpec := { name := "topVolume", fn := fun _ => fun
  | [d1, d2, d3] => { results := [.lit (.bool false)], args := [d1, d2, d3] }
  | _ => none }
def TopVolumeWrongFalsely : Prop := topVolumeRow.holds Tryz.pinned (OpenSpec.ofChange topVolumeWrong)

/- THE SECOND FORM. 'bulk': how many values and letters a reading holds, each counted each time it is reached (what is shared counts as often as it is met; a slice's spare places count too). A statement '..UptoSaid' is the law's where the arguments, and the package variables that the reading takes, are together of bulk at most 1048576: NARROWER than '..Said'. Prove '..Said' where nothing that the law and all that it calls make is longer than what came in: it says more and counts as full. Else prove '..UptoSaid'. A law counts once. -/
mutual
def uptoBulk {H : Type} : DataW H → Nat
  | .lit (.string bytes) => bytes.length + 1
  | .lit _ => 1
  | .nil => 1
  | .ptr d => uptoBulk d + 1
  | .slice elems spare => uptoBulkAll elems + uptoBulkAll spare + 1
  | .agg parts => uptoBulkAll parts + 1
  | .iface _ d => uptoBulk d + 1
  | .map entries => uptoBulkEntries entries + 1
  | .held _ => 1
def uptoBulkAll {H : Type} : List (DataW H) → Nat
  | [] => 0
  | d :: r => uptoBulk d + uptoBulkAll r
def uptoBulkEntries {H : Type} : List (Lit × DataW H) → Nat
  | [] => 0
  | x :: r => uptoBulkEntry x + uptoBulkEntries r
def uptoBulkEntry {H : Type} : Lit × DataW H → Nat
  | (.string bytes, d) => bytes.length + uptoBulk d + 1
  | (_, d) => uptoBulk d + 1
 end
def uptoSmall : (H : Type) → List (DataW H) → Bool := fun _ ds => decide (uptoBulkAll ds ≤ 1048576)
def OpenSpec.upto (s : _root_.Go.ChangeSpec) : _root_.Go.OpenSpec := { _root_.Go.OpenSpec.ofChange s with cond := some uptoSmall }

/-- 'hibernacletop.TopFiles', WHERE WHAT IT READS IS OF BULK AT MOST 1048576: true; the input reads as it did. -/
def topFilesUptoRow : OpenClaim := { program := "ytdldlendppkknaagreatdoor", sum := "af009079e0a2dd5849758bc063977c8ccaa90f4985e678fbe2f4e6d55901493f", func := "hibernacle/hibernacletop.TopFiles", spec := "topFiles", inPlace := ["internal/abi.NoEscape", "internal/bytealg.MakeNoZero", "internal/bytealg.IndexByteString", "internal/bytealg.abigen_runtime_cmpstring"], unfollowed := true, recurses := true, named := ["hibernacle/isa.names", "hibernacle/cpu.withNumber"], plainKeys := false, apart := false, laid := [("hibernacle/isa.names", laid_hibernacle_isa_names), ("hibernacle/cpu.withNumber", laid_hibernacle_cpu_withNumber)], narrowed := true }
def TopFilesUptoSaid : Prop := topFilesUptoRow.holds Tryz.pinned (OpenSpec.upto topFilesSpec)

/-- 'hibernacletop.TopRoom', WHERE WHAT IT READS IS OF BULK AT MOST 1048576: true; the input reads as it did. -/
def topRoomUptoRow : OpenClaim := { program := "ytdldlendppkknaagreatdoor", sum := "af009079e0a2dd5849758bc063977c8ccaa90f4985e678fbe2f4e6d55901493f", func := "hibernacle/hibernacletop.TopRoom", spec := "topRoom", inPlace := ["internal/abi.NoEscape", "internal/bytealg.MakeNoZero", "internal/bytealg.IndexByteString", "internal/bytealg.abigen_runtime_cmpstring"], unfollowed := true, recurses := true, named := ["hibernacle/isa.names", "hibernacle/cpu.withNumber"], plainKeys := false, apart := false, laid := [("hibernacle/isa.names", laid_hibernacle_isa_names), ("hibernacle/cpu.withNumber", laid_hibernacle_cpu_withNumber)], narrowed := true }
def TopRoomUptoSaid : Prop := topRoomUptoRow.holds Tryz.pinned (OpenSpec.upto topRoomSpec)

/-- 'hibernacletop.TopVolume', WHERE WHAT IT READS IS OF BULK AT MOST 1048576: true; the input reads as it did. -/
def topVolumeUptoRow : OpenClaim := { program := "ytdldlendppkknaagreatdoor", sum := "af009079e0a2dd5849758bc063977c8ccaa90f4985e678fbe2f4e6d55901493f", func := "hibernacle/hibernacletop.TopVolume", spec := "topVolume", inPlace := ["internal/abi.NoEscape", "internal/bytealg.MakeNoZero", "internal/bytealg.IndexByteString", "internal/bytealg.abigen_runtime_cmpstring"], unfollowed := true, recurses := true, named := ["hibernacle/isa.names", "hibernacle/cpu.withNumber"], plainKeys := false, apart := false, laid := [("hibernacle/isa.names", laid_hibernacle_isa_names), ("hibernacle/cpu.withNumber", laid_hibernacle_cpu_withNumber)], narrowed := true }
def TopVolumeUptoSaid : Prop := topVolumeUptoRow.holds Tryz.pinned (OpenSpec.upto topVolumeSpec)

end Rows
end Go.Proofs.YtdldlendppkknaaGreatDoor
