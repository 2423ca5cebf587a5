/-
  No cell of these rows narrows 'for every input' (looked for: loops, veiled, ifaces, maps, wideKeys, modest, calm, conditions, laid).
  DERIVED. THE GIVEN ROWS OF THIS SEAT. 13 by the template 'for every input the law returns true; each argument reads behind the call as it read before'; 0 by the template 'total and deterministic' (their statements: YtjmafegckfijbaaTotals.lean).
  GIVEN WITH THE SEED: the statements are not yours to turn. If you find one false, say at which input.
  Laid BY PROGRAM, IN A SANDBOX (cutbox-rows.mjs): the forced cells as the released guide's own fill.sh prints them over the translation ef4f2e6fc1a83b4e… (all of the seat's roots in one cut). By AI agents, Wed Nov 11 2026. No macro, syntax, notation, axiom, sorry.
-/
import Derived.Test.YtjmafegckfijbaaChecked
import GoSem.Claim
import GoSem.ClaimJoined
import GoSem.ClaimMapViews
import Derived.JoinedTies
import Derived.KernelRfl
namespace Go.Proofs.Ytjmafegckfijbaa
/- THE CELL 'sum', in the pinned program and in every row, IS THE sha256 OF THE DUMP (.gsa) THAT YtjmafegckfijbaaProg.lean LOADS. Nothing in Lean hashes anything: it is a label: what it is worth is what the hold of that sum in a sandbox is worth. -/
noncomputable def Try.pinned : Pinned := { name := "ytjmafegckfijbaa", sum := "ef4f2e6fc1a83b4e37a4e81a92db0ddceb561cdc29059c479d6bd1e773a95fda", checked := Try.checked }
namespace Rows
def none {H : Type} : Left H := { results := [], args := [] }

/-- 'hibernaclelaw19.ExtentTells': WHATEVER THE INPUT: true; the input reads as it did. -/
def extentTellsSpec : ChangeSpec := { name := "extentTells", fn := fun _ => fun
  | [d1, d2, d3] => { results := [.lit (.bool true)], args := [d1, d2, d3] }
  | _ => none }
def extentTellsRow : OpenClaim := { program := "ytjmafegckfijbaa", sum := "ef4f2e6fc1a83b4e37a4e81a92db0ddceb561cdc29059c479d6bd1e773a95fda", func := "hibernacle/hibernaclelaw19.ExtentTells", spec := "extentTells", inPlace := ["internal/abi.NoEscape", "internal/bytealg.MakeNoZero"], unfollowed := true, recurses := true, apart := false }
def ExtentTellsSaid : Prop := extentTellsRow.holds Try.pinned (OpenSpec.ofChange extentTellsSpec)

/-- ITS FALSE NEIGHBOUR: 'it returns false'. Refute it at one input. -/
def extentTellsWrong : ChangeSpec := { name := "extentTells", fn := fun _ => fun
  | [d1, d2, d3] => { results := [.lit (.bool false)], args := [d1, d2, d3] }
  | _ => none }
def ExtentTellsWrongFalsely : Prop := extentTellsRow.holds Try.pinned (OpenSpec.ofChange extentTellsWrong)

/-- 'hibernaclelaw22.QuotaSets': WHATEVER THE INPUT: true; the input reads as it did. -/
def quotaSetsSpec : ChangeSpec := { name := "quotaSets", fn := fun _ => fun
  | [d1, d2, d3] => { results := [.lit (.bool true)], args := [d1, d2, d3] }
  | _ => none }
def quotaSetsRow : OpenClaim := { program := "ytjmafegckfijbaa", sum := "ef4f2e6fc1a83b4e37a4e81a92db0ddceb561cdc29059c479d6bd1e773a95fda", func := "hibernacle/hibernaclelaw22.QuotaSets", spec := "quotaSets", inPlace := ["internal/abi.NoEscape", "internal/bytealg.MakeNoZero"], unfollowed := true, recurses := true, apart := false }
def QuotaSetsSaid : Prop := quotaSetsRow.holds Try.pinned (OpenSpec.ofChange quotaSetsSpec)

/-- ITS FALSE NEIGHBOUR: 'it returns false'. Refute it at one input. -/
def quotaSetsWrong : ChangeSpec := { name := "quotaSets", fn := fun _ => fun
  | [d1, d2, d3] => { results := [.lit (.bool false)], args := [d1, d2, d3] }
  | _ => none }
def QuotaSetsWrongFalsely : Prop := quotaSetsRow.holds Try.pinned (OpenSpec.ofChange quotaSetsWrong)

/-- 'hibernaclelaw22.QuotaBack': WHATEVER THE INPUT: true; the input reads as it did. -/
def quotaBackSpec : ChangeSpec := { name := "quotaBack", fn := fun _ => fun
  | [d1, d2, d3, d4, d5] => { results := [.lit (.bool true)], args := [d1, d2, d3, d4, d5] }
  | _ => none }
def quotaBackRow : OpenClaim := { program := "ytjmafegckfijbaa", sum := "ef4f2e6fc1a83b4e37a4e81a92db0ddceb561cdc29059c479d6bd1e773a95fda", func := "hibernacle/hibernaclelaw22.QuotaBack", spec := "quotaBack", inPlace := ["internal/abi.NoEscape", "internal/bytealg.MakeNoZero"], unfollowed := true, recurses := true, apart := false }
def QuotaBackSaid : Prop := quotaBackRow.holds Try.pinned (OpenSpec.ofChange quotaBackSpec)

/-- ITS FALSE NEIGHBOUR: 'it returns false'. Refute it at one input. -/
def quotaBackWrong : ChangeSpec := { name := "quotaBack", fn := fun _ => fun
  | [d1, d2, d3, d4, d5] => { results := [.lit (.bool false)], args := [d1, d2, d3, d4, d5] }
  | _ => none }
def QuotaBackWrongFalsely : Prop := quotaBackRow.holds Try.pinned (OpenSpec.ofChange quotaBackWrong)

/-- 'hibernaclelaw22.QuotaFits': WHATEVER THE INPUT: true; the input reads as it did. -/
def quotaFitsSpec : ChangeSpec := { name := "quotaFits", fn := fun _ => fun
  | [d1, d2] => { results := [.lit (.bool true)], args := [d1, d2] }
  | _ => none }
def quotaFitsRow : OpenClaim := { program := "ytjmafegckfijbaa", sum := "ef4f2e6fc1a83b4e37a4e81a92db0ddceb561cdc29059c479d6bd1e773a95fda", func := "hibernacle/hibernaclelaw22.QuotaFits", spec := "quotaFits", inPlace := ["internal/abi.NoEscape", "internal/bytealg.MakeNoZero"], unfollowed := true, recurses := true, apart := false }
def QuotaFitsSaid : Prop := quotaFitsRow.holds Try.pinned (OpenSpec.ofChange quotaFitsSpec)

/-- ITS FALSE NEIGHBOUR: 'it returns false'. Refute it at one input. -/
def quotaFitsWrong : ChangeSpec := { name := "quotaFits", fn := fun _ => fun
  | [d1, d2] => { results := [.lit (.bool false)], args := [d1, d2] }
  | _ => none }
def QuotaFitsWrongFalsely : Prop := quotaFitsRow.holds Try.pinned (OpenSpec.ofChange quotaFitsWrong)

/-- 'hibernaclelaw22.QuotaSums': WHATEVER THE INPUT: true; the input reads as it did. -/
def quotaSumsSpec : ChangeSpec := { name := "quotaSums", fn := fun _ => fun
  | [d1, d2, d3] => { results := [.lit (.bool true)], args := [d1, d2, d3] }
  | _ => none }
def quotaSumsRow : OpenClaim := { program := "ytjmafegckfijbaa", sum := "ef4f2e6fc1a83b4e37a4e81a92db0ddceb561cdc29059c479d6bd1e773a95fda", func := "hibernacle/hibernaclelaw22.QuotaSums", spec := "quotaSums", inPlace := ["internal/abi.NoEscape", "internal/bytealg.MakeNoZero"], unfollowed := true, recurses := true, apart := false }
def QuotaSumsSaid : Prop := quotaSumsRow.holds Try.pinned (OpenSpec.ofChange quotaSumsSpec)

/-- ITS FALSE NEIGHBOUR: 'it returns false'. Refute it at one input. -/
def quotaSumsWrong : ChangeSpec := { name := "quotaSums", fn := fun _ => fun
  | [d1, d2, d3] => { results := [.lit (.bool false)], args := [d1, d2, d3] }
  | _ => none }
def QuotaSumsWrongFalsely : Prop := quotaSumsRow.holds Try.pinned (OpenSpec.ofChange quotaSumsWrong)

/-- 'hibernaclelaw19.ExtentPlays': WHATEVER THE INPUT: true; the input reads as it did. -/
def extentPlaysSpec : ChangeSpec := { name := "extentPlays", fn := fun _ => fun
  | [d1, d2] => { results := [.lit (.bool true)], args := [d1, d2] }
  | _ => none }
def extentPlaysRow : OpenClaim := { program := "ytjmafegckfijbaa", sum := "ef4f2e6fc1a83b4e37a4e81a92db0ddceb561cdc29059c479d6bd1e773a95fda", func := "hibernacle/hibernaclelaw19.ExtentPlays", spec := "extentPlays", inPlace := ["internal/abi.NoEscape", "internal/bytealg.MakeNoZero"], unfollowed := true, recurses := true, apart := false }
def ExtentPlaysSaid : Prop := extentPlaysRow.holds Try.pinned (OpenSpec.ofChange extentPlaysSpec)

/-- ITS FALSE NEIGHBOUR: 'it returns false'. Refute it at one input. -/
def extentPlaysWrong : ChangeSpec := { name := "extentPlays", fn := fun _ => fun
  | [d1, d2] => { results := [.lit (.bool false)], args := [d1, d2] }
  | _ => none }
def ExtentPlaysWrongFalsely : Prop := extentPlaysRow.holds Try.pinned (OpenSpec.ofChange extentPlaysWrong)

/-- 'hibernaclelaw19.ExtentSplits': WHATEVER THE INPUT: true; the input reads as it did. -/
def extentSplitsSpec : ChangeSpec := { name := "extentSplits", fn := fun _ => fun
  | [d1, d2, d3] => { results := [.lit (.bool true)], args := [d1, d2, d3] }
  | _ => none }
def extentSplitsRow : OpenClaim := { program := "ytjmafegckfijbaa", sum := "ef4f2e6fc1a83b4e37a4e81a92db0ddceb561cdc29059c479d6bd1e773a95fda", func := "hibernacle/hibernaclelaw19.ExtentSplits", spec := "extentSplits", inPlace := ["internal/abi.NoEscape", "internal/bytealg.MakeNoZero"], unfollowed := true, recurses := true, apart := false }
def ExtentSplitsSaid : Prop := extentSplitsRow.holds Try.pinned (OpenSpec.ofChange extentSplitsSpec)

/-- ITS FALSE NEIGHBOUR: 'it returns false'. Refute it at one input. -/
def extentSplitsWrong : ChangeSpec := { name := "extentSplits", fn := fun _ => fun
  | [d1, d2, d3] => { results := [.lit (.bool false)], args := [d1, d2, d3] }
  | _ => none }
def ExtentSplitsWrongFalsely : Prop := extentSplitsRow.holds Try.pinned (OpenSpec.ofChange extentSplitsWrong)

/-- 'hibernaclelaw22.QuotaTells': WHATEVER THE INPUT: true; the input reads as it did. -/
def quotaTellsSpec : ChangeSpec := { name := "quotaTells", fn := fun _ => fun
  | [d1, d2] => { results := [.lit (.bool true)], args := [d1, d2] }
  | _ => none }
def quotaTellsRow : OpenClaim := { program := "ytjmafegckfijbaa", sum := "ef4f2e6fc1a83b4e37a4e81a92db0ddceb561cdc29059c479d6bd1e773a95fda", func := "hibernacle/hibernaclelaw22.QuotaTells", spec := "quotaTells", inPlace := ["internal/abi.NoEscape", "internal/bytealg.MakeNoZero"], unfollowed := true, recurses := true, apart := false }
def QuotaTellsSaid : Prop := quotaTellsRow.holds Try.pinned (OpenSpec.ofChange quotaTellsSpec)

/-- ITS FALSE NEIGHBOUR: 'it returns false'. Refute it at one input. -/
def quotaTellsWrong : ChangeSpec := { name := "quotaTells", fn := fun _ => fun
  | [d1, d2] => { results := [.lit (.bool false)], args := [d1, d2] }
  | _ => none }
def QuotaTellsWrongFalsely : Prop := quotaTellsRow.holds Try.pinned (OpenSpec.ofChange quotaTellsWrong)

/-- 'hibernaclelaw22.QuotaChecked': WHATEVER THE INPUT: true; the input reads as it did. -/
def quotaCheckedSpec : ChangeSpec := { name := "quotaChecked", fn := fun _ => fun
  | [d1, d2, d3] => { results := [.lit (.bool true)], args := [d1, d2, d3] }
  | _ => none }
def quotaCheckedRow : OpenClaim := { program := "ytjmafegckfijbaa", sum := "ef4f2e6fc1a83b4e37a4e81a92db0ddceb561cdc29059c479d6bd1e773a95fda", func := "hibernacle/hibernaclelaw22.QuotaChecked", spec := "quotaChecked", inPlace := ["internal/abi.NoEscape", "internal/bytealg.MakeNoZero"], unfollowed := true, recurses := true, apart := false }
def QuotaCheckedSaid : Prop := quotaCheckedRow.holds Try.pinned (OpenSpec.ofChange quotaCheckedSpec)

/-- ITS FALSE NEIGHBOUR: 'it returns false'. Refute it at one input. -/
def quotaCheckedWrong : ChangeSpec := { name := "quotaChecked", fn := fun _ => fun
  | [d1, d2, d3] => { results := [.lit (.bool false)], args := [d1, d2, d3] }
  | _ => none }
def QuotaCheckedWrongFalsely : Prop := quotaCheckedRow.holds Try.pinned (OpenSpec.ofChange quotaCheckedWrong)

/-- 'hibernaclelaw19.ExtentNeeds': WHATEVER THE INPUT: true; the input reads as it did. -/
def extentNeedsSpec : ChangeSpec := { name := "extentNeeds", fn := fun _ => fun
  | [d1, d2, d3] => { results := [.lit (.bool true)], args := [d1, d2, d3] }
  | _ => none }
def extentNeedsRow : OpenClaim := { program := "ytjmafegckfijbaa", sum := "ef4f2e6fc1a83b4e37a4e81a92db0ddceb561cdc29059c479d6bd1e773a95fda", func := "hibernacle/hibernaclelaw19.ExtentNeeds", spec := "extentNeeds", inPlace := ["internal/abi.NoEscape", "internal/bytealg.MakeNoZero"], unfollowed := true, recurses := true, apart := false }
def ExtentNeedsSaid : Prop := extentNeedsRow.holds Try.pinned (OpenSpec.ofChange extentNeedsSpec)

/-- ITS FALSE NEIGHBOUR: 'it returns false'. Refute it at one input. -/
def extentNeedsWrong : ChangeSpec := { name := "extentNeeds", fn := fun _ => fun
  | [d1, d2, d3] => { results := [.lit (.bool false)], args := [d1, d2, d3] }
  | _ => none }
def ExtentNeedsWrongFalsely : Prop := extentNeedsRow.holds Try.pinned (OpenSpec.ofChange extentNeedsWrong)

/-- 'hibernaclelaw19.ExtentRoom': WHATEVER THE INPUT: true; the input reads as it did. -/
def extentRoomSpec : ChangeSpec := { name := "extentRoom", fn := fun _ => fun
  | [d] => { results := [.lit (.bool true)], args := [d] }
  | _ => none }
def extentRoomRow : OpenClaim := { program := "ytjmafegckfijbaa", sum := "ef4f2e6fc1a83b4e37a4e81a92db0ddceb561cdc29059c479d6bd1e773a95fda", func := "hibernacle/hibernaclelaw19.ExtentRoom", spec := "extentRoom", inPlace := ["internal/abi.NoEscape", "internal/bytealg.MakeNoZero"], unfollowed := true, recurses := true, apart := false }
def ExtentRoomSaid : Prop := extentRoomRow.holds Try.pinned (OpenSpec.ofChange extentRoomSpec)

/-- ITS FALSE NEIGHBOUR: 'it returns false'. Refute it at one input. -/
def extentRoomWrong : ChangeSpec := { name := "extentRoom", fn := fun _ => fun
  | [d] => { results := [.lit (.bool false)], args := [d] }
  | _ => none }
def ExtentRoomWrongFalsely : Prop := extentRoomRow.holds Try.pinned (OpenSpec.ofChange extentRoomWrong)

/-- 'hibernaclelaw19.ExtentReads': WHATEVER THE INPUT: true; the input reads as it did. -/
def extentReadsSpec : ChangeSpec := { name := "extentReads", fn := fun _ => fun
  | [d1, d2, d3] => { results := [.lit (.bool true)], args := [d1, d2, d3] }
  | _ => none }
def extentReadsRow : OpenClaim := { program := "ytjmafegckfijbaa", sum := "ef4f2e6fc1a83b4e37a4e81a92db0ddceb561cdc29059c479d6bd1e773a95fda", func := "hibernacle/hibernaclelaw19.ExtentReads", spec := "extentReads", inPlace := ["internal/abi.NoEscape", "internal/bytealg.MakeNoZero"], unfollowed := true, recurses := true, apart := false }
def ExtentReadsSaid : Prop := extentReadsRow.holds Try.pinned (OpenSpec.ofChange extentReadsSpec)

/-- ITS FALSE NEIGHBOUR: 'it returns false'. Refute it at one input. -/
def extentReadsWrong : ChangeSpec := { name := "extentReads", fn := fun _ => fun
  | [d1, d2, d3] => { results := [.lit (.bool false)], args := [d1, d2, d3] }
  | _ => none }
def ExtentReadsWrongFalsely : Prop := extentReadsRow.holds Try.pinned (OpenSpec.ofChange extentReadsWrong)

/-- 'hibernaclelaw19.ExtentCuts': WHATEVER THE INPUT: true; the input reads as it did. -/
def extentCutsSpec : ChangeSpec := { name := "extentCuts", fn := fun _ => fun
  | [d1, d2] => { results := [.lit (.bool true)], args := [d1, d2] }
  | _ => none }
def extentCutsRow : OpenClaim := { program := "ytjmafegckfijbaa", sum := "ef4f2e6fc1a83b4e37a4e81a92db0ddceb561cdc29059c479d6bd1e773a95fda", func := "hibernacle/hibernaclelaw19.ExtentCuts", spec := "extentCuts", inPlace := ["internal/abi.NoEscape", "internal/bytealg.MakeNoZero"], unfollowed := true, recurses := true, apart := false }
def ExtentCutsSaid : Prop := extentCutsRow.holds Try.pinned (OpenSpec.ofChange extentCutsSpec)

/-- ITS FALSE NEIGHBOUR: 'it returns false'. Refute it at one input. -/
def extentCutsWrong : ChangeSpec := { name := "extentCuts", fn := fun _ => fun
  | [d1, d2] => { results := [.lit (.bool false)], args := [d1, d2] }
  | _ => none }
def ExtentCutsWrongFalsely : Prop := extentCutsRow.holds Try.pinned (OpenSpec.ofChange extentCutsWrong)

/- THE SECOND FORM. 'bulk': how many values and letters a reading holds, each counted each time it is reached (what is shared counts as often as it is met; a slice's spare places count too). A statement '..UptoSaid' is the law's where the arguments, and the package variables that the reading takes, are together of bulk at most 1048576: NARROWER than '..Said'. Prove '..Said' where nothing that the law and all that it calls make is longer than what came in: it says more and counts as full. Else prove '..UptoSaid'. A law counts once. -/
mutual
def uptoBulk {H : Type} : DataW H → Nat
  | .lit (.string bytes) => bytes.length + 1
  | .lit _ => 1
  | .nil => 1
  | .ptr d => uptoBulk d + 1
  | .slice elems spare => uptoBulkAll elems + uptoBulkAll spare + 1
  | .agg parts => uptoBulkAll parts + 1
  | .iface _ d => uptoBulk d + 1
  | .map entries => uptoBulkEntries entries + 1
  | .held _ => 1
def uptoBulkAll {H : Type} : List (DataW H) → Nat
  | [] => 0
  | d :: r => uptoBulk d + uptoBulkAll r
def uptoBulkEntries {H : Type} : List (Lit × DataW H) → Nat
  | [] => 0
  | x :: r => uptoBulkEntry x + uptoBulkEntries r
def uptoBulkEntry {H : Type} : Lit × DataW H → Nat
  | (.string bytes, d) => bytes.length + uptoBulk d + 1
  | (_, d) => uptoBulk d + 1
 end
def uptoSmall : (H : Type) → List (DataW H) → Bool := fun _ ds => decide (uptoBulkAll ds ≤ 1048576)
def OpenSpec.upto (s : _root_.Go.ChangeSpec) : _root_.Go.OpenSpec := { _root_.Go.OpenSpec.ofChange s with cond := some uptoSmall }

/-- 'hibernaclelaw19.ExtentTells', WHERE WHAT IT READS IS OF BULK AT MOST 1048576: true; the input reads as it did. -/
def extentTellsUptoRow : OpenClaim := { program := "ytjmafegckfijbaa", sum := "ef4f2e6fc1a83b4e37a4e81a92db0ddceb561cdc29059c479d6bd1e773a95fda", func := "hibernacle/hibernaclelaw19.ExtentTells", spec := "extentTells", inPlace := ["internal/abi.NoEscape", "internal/bytealg.MakeNoZero"], unfollowed := true, recurses := true, apart := false, narrowed := true }
def ExtentTellsUptoSaid : Prop := extentTellsUptoRow.holds Try.pinned (OpenSpec.upto extentTellsSpec)

/-- 'hibernaclelaw22.QuotaSets', WHERE WHAT IT READS IS OF BULK AT MOST 1048576: true; the input reads as it did. -/
def quotaSetsUptoRow : OpenClaim := { program := "ytjmafegckfijbaa", sum := "ef4f2e6fc1a83b4e37a4e81a92db0ddceb561cdc29059c479d6bd1e773a95fda", func := "hibernacle/hibernaclelaw22.QuotaSets", spec := "quotaSets", inPlace := ["internal/abi.NoEscape", "internal/bytealg.MakeNoZero"], unfollowed := true, recurses := true, apart := false, narrowed := true }
def QuotaSetsUptoSaid : Prop := quotaSetsUptoRow.holds Try.pinned (OpenSpec.upto quotaSetsSpec)

/-- 'hibernaclelaw22.QuotaBack', WHERE WHAT IT READS IS OF BULK AT MOST 1048576: true; the input reads as it did. -/
def quotaBackUptoRow : OpenClaim := { program := "ytjmafegckfijbaa", sum := "ef4f2e6fc1a83b4e37a4e81a92db0ddceb561cdc29059c479d6bd1e773a95fda", func := "hibernacle/hibernaclelaw22.QuotaBack", spec := "quotaBack", inPlace := ["internal/abi.NoEscape", "internal/bytealg.MakeNoZero"], unfollowed := true, recurses := true, apart := false, narrowed := true }
def QuotaBackUptoSaid : Prop := quotaBackUptoRow.holds Try.pinned (OpenSpec.upto quotaBackSpec)

/-- 'hibernaclelaw22.QuotaFits', WHERE WHAT IT READS IS OF BULK AT MOST 1048576: true; the input reads as it did. -/
def quotaFitsUptoRow : OpenClaim := { program := "ytjmafegckfijbaa", sum := "ef4f2e6fc1a83b4e37a4e81a92db0ddceb561cdc29059c479d6bd1e773a95fda", func := "hibernacle/hibernaclelaw22.QuotaFits", spec := "quotaFits", inPlace := ["internal/abi.NoEscape", "internal/bytealg.MakeNoZero"], unfollowed := true, recurses := true, apart := false, narrowed := true }
def QuotaFitsUptoSaid : Prop := quotaFitsUptoRow.holds Try.pinned (OpenSpec.upto quotaFitsSpec)

/-- 'hibernaclelaw22.QuotaSums', WHERE WHAT IT READS IS OF BULK AT MOST 1048576: true; the input reads as it did. -/
def quotaSumsUptoRow : OpenClaim := { program := "ytjmafegckfijbaa", sum := "ef4f2e6fc1a83b4e37a4e81a92db0ddceb561cdc29059c479d6bd1e773a95fda", func := "hibernacle/hibernaclelaw22.QuotaSums", spec := "quotaSums", inPlace := ["internal/abi.NoEscape", "internal/bytealg.MakeNoZero"], unfollowed := true, recurses := true, apart := false, narrowed := true }
def QuotaSumsUptoSaid : Prop := quotaSumsUptoRow.holds Try.pinned (OpenSpec.upto quotaSumsSpec)

/-- 'hibernaclelaw19.ExtentPlays', WHERE WHAT IT READS IS OF BULK AT MOST 1048576: true; the input reads as it did. -/
def extentPlaysUptoRow : OpenClaim := { program := "ytjmafegckfijbaa", sum := "ef4f2e6fc1a83b4e37a4e81a92db0ddceb561cdc29059c479d6bd1e773a95fda", func := "hibernacle/hibernaclelaw19.ExtentPlays", spec := "extentPlays", inPlace := ["internal/abi.NoEscape", "internal/bytealg.MakeNoZero"], unfollowed := true, recurses := true, apart := false, narrowed := true }
def ExtentPlaysUptoSaid : Prop := extentPlaysUptoRow.holds Try.pinned (OpenSpec.upto extentPlaysSpec)

/-- 'hibernaclelaw19.ExtentSplits', WHERE WHAT IT READS IS OF BULK AT MOST 1048576: true; the input reads as it did. -/
def extentSplitsUptoRow : OpenClaim := { program := "ytjmafegckfijbaa", sum := "ef4f2e6fc1a83b4e37a4e81a92db0ddceb561cdc29059c479d6bd1e773a95fda", func := "hibernacle/hibernaclelaw19.ExtentSplits", spec := "extentSplits", inPlace := ["internal/abi.NoEscape", "internal/bytealg.MakeNoZero"], unfollowed := true, recurses := true, apart := false, narrowed := true }
def ExtentSplitsUptoSaid : Prop := extentSplitsUptoRow.holds Try.pinned (OpenSpec.upto extentSplitsSpec)

/-- 'hibernaclelaw22.QuotaTells', WHERE WHAT IT READS IS OF BULK AT MOST 1048576: true; the input reads as it did. -/
def quotaTellsUptoRow : OpenClaim := { program := "ytjmafegckfijbaa", sum := "ef4f2e6fc1a83b4e37a4e81a92db0ddceb561cdc29059c479d6bd1e773a95fda", func := "hibernacle/hibernaclelaw22.QuotaTells", spec := "quotaTells", inPlace := ["internal/abi.NoEscape", "internal/bytealg.MakeNoZero"], unfollowed := true, recurses := true, apart := false, narrowed := true }
def QuotaTellsUptoSaid : Prop := quotaTellsUptoRow.holds Try.pinned (OpenSpec.upto quotaTellsSpec)

/-- 'hibernaclelaw22.QuotaChecked', WHERE WHAT IT READS IS OF BULK AT MOST 1048576: true; the input reads as it did. -/
def quotaCheckedUptoRow : OpenClaim := { program := "ytjmafegckfijbaa", sum := "ef4f2e6fc1a83b4e37a4e81a92db0ddceb561cdc29059c479d6bd1e773a95fda", func := "hibernacle/hibernaclelaw22.QuotaChecked", spec := "quotaChecked", inPlace := ["internal/abi.NoEscape", "internal/bytealg.MakeNoZero"], unfollowed := true, recurses := true, apart := false, narrowed := true }
def QuotaCheckedUptoSaid : Prop := quotaCheckedUptoRow.holds Try.pinned (OpenSpec.upto quotaCheckedSpec)

/-- 'hibernaclelaw19.ExtentNeeds', WHERE WHAT IT READS IS OF BULK AT MOST 1048576: true; the input reads as it did. -/
def extentNeedsUptoRow : OpenClaim := { program := "ytjmafegckfijbaa", sum := "ef4f2e6fc1a83b4e37a4e81a92db0ddceb561cdc29059c479d6bd1e773a95fda", func := "hibernacle/hibernaclelaw19.ExtentNeeds", spec := "extentNeeds", inPlace := ["internal/abi.NoEscape", "internal/bytealg.MakeNoZero"], unfollowed := true, recurses := true, apart := false, narrowed := true }
def ExtentNeedsUptoSaid : Prop := extentNeedsUptoRow.holds Try.pinned (OpenSpec.upto extentNeedsSpec)

/-- 'hibernaclelaw19.ExtentRoom', WHERE WHAT IT READS IS OF BULK AT MOST 1048576: true; the input reads as it did. -/
def extentRoomUptoRow : OpenClaim := { program := "ytjmafegckfijbaa", sum := "ef4f2e6fc1a83b4e37a4e81a92db0ddceb561cdc29059c479d6bd1e773a95fda", func := "hibernacle/hibernaclelaw19.ExtentRoom", spec := "extentRoom", inPlace := ["internal/abi.NoEscape", "internal/bytealg.MakeNoZero"], unfollowed := true, recurses := true, apart := false, narrowed := true }
def ExtentRoomUptoSaid : Prop := extentRoomUptoRow.holds Try.pinned (OpenSpec.upto extentRoomSpec)

/-- 'hibernaclelaw19.ExtentReads', WHERE WHAT IT READS IS OF BULK AT MOST 1048576: true; the input reads as it did. -/
def extentReadsUptoRow : OpenClaim := { program := "ytjmafegckfijbaa", sum := "ef4f2e6fc1a83b4e37a4e81a92db0ddceb561cdc29059c479d6bd1e773a95fda", func := "hibernacle/hibernaclelaw19.ExtentReads", spec := "extentReads", inPlace := ["internal/abi.NoEscape", "internal/bytealg.MakeNoZero"], unfollowed := true, recurses := true, apart := false, narrowed := true }
def ExtentReadsUptoSaid : Prop := extentReadsUptoRow.holds Try.pinned (OpenSpec.upto extentReadsSpec)

/-- 'hibernaclelaw19.ExtentCuts', WHERE WHAT IT READS IS OF BULK AT MOST 1048576: true; the input reads as it did. -/
def extentCutsUptoRow : OpenClaim := { program := "ytjmafegckfijbaa", sum := "ef4f2e6fc1a83b4e37a4e81a92db0ddceb561cdc29059c479d6bd1e773a95fda", func := "hibernacle/hibernaclelaw19.ExtentCuts", spec := "extentCuts", inPlace := ["internal/abi.NoEscape", "internal/bytealg.MakeNoZero"], unfollowed := true, recurses := true, apart := false, narrowed := true }
def ExtentCutsUptoSaid : Prop := extentCutsUptoRow.holds Try.pinned (OpenSpec.upto extentCutsSpec)

end Rows
end Go.Proofs.Ytjmafegckfijbaa
