/-
  No cell of these rows narrows 'for every input' (looked for: loops, veiled, ifaces, maps, wideKeys, modest, calm, conditions, laid).
  DERIVED. THE GIVEN ROWS OF THIS SEAT. 11 by the template 'for every input the law returns true; each argument reads behind the call as it read before'; 0 by the template 'total and deterministic' (their statements: YtclmocppphojfaaTotals.lean).
  GIVEN WITH THE SEED: the statements are not yours to turn. If you find one false, say at which input.
  Laid BY PROGRAM, IN A SANDBOX (cutbox-rows.mjs): the forced cells as the released guide's own fill.sh prints them over the translation f4be0f5daef0d870… (all of the seat's roots in one cut). By AI agents, Wed Nov 11 2026. No macro, syntax, notation, axiom, sorry.
-/
import Derived.Test.YtclmocppphojfaaChecked
import GoSem.Claim
import GoSem.ClaimJoined
import GoSem.ClaimMapViews
import Derived.JoinedTies
import Derived.KernelRfl
namespace Go.Proofs.Ytclmocppphojfaa
/- THE CELL 'sum', in the pinned program and in every row, IS THE sha256 OF THE DUMP (.gsa) THAT YtclmocppphojfaaProg.lean LOADS. Nothing in Lean hashes anything: it is a label: what it is worth is what the hold of that sum in a sandbox is worth. -/
noncomputable def Try.pinned : Pinned := { name := "ytclmocppphojfaa", sum := "f4be0f5daef0d870294728efae8f4850c1e25bd79f94e05d65159e98433792b1", checked := Try.checked }
namespace Rows
def none {H : Type} : Left H := { results := [], args := [] }

/-- 'hibernaclelaw17.GeomPlans': WHATEVER THE INPUT: true; the input reads as it did. -/
def geomPlansSpec : ChangeSpec := { name := "geomPlans", fn := fun _ => fun
  | [d1, d2] => { results := [.lit (.bool true)], args := [d1, d2] }
  | _ => none }
def geomPlansRow : OpenClaim := { program := "ytclmocppphojfaa", sum := "f4be0f5daef0d870294728efae8f4850c1e25bd79f94e05d65159e98433792b1", func := "hibernacle/hibernaclelaw17.GeomPlans", spec := "geomPlans", inPlace := ["internal/abi.NoEscape", "internal/bytealg.MakeNoZero"], apart := false }
def GeomPlansSaid : Prop := geomPlansRow.holds Try.pinned (OpenSpec.ofChange geomPlansSpec)

/-- ITS FALSE NEIGHBOUR: 'it returns false'. Refute it at one input. -/
def geomPlansWrong : ChangeSpec := { name := "geomPlans", fn := fun _ => fun
  | [d1, d2] => { results := [.lit (.bool false)], args := [d1, d2] }
  | _ => none }
def GeomPlansWrongFalsely : Prop := geomPlansRow.holds Try.pinned (OpenSpec.ofChange geomPlansWrong)

/-- 'hibernaclelaw17.GeomReads': WHATEVER THE INPUT: true; the input reads as it did. -/
def geomReadsSpec : ChangeSpec := { name := "geomReads", fn := fun _ => fun
  | [d1, d2] => { results := [.lit (.bool true)], args := [d1, d2] }
  | _ => none }
def geomReadsRow : OpenClaim := { program := "ytclmocppphojfaa", sum := "f4be0f5daef0d870294728efae8f4850c1e25bd79f94e05d65159e98433792b1", func := "hibernacle/hibernaclelaw17.GeomReads", spec := "geomReads", inPlace := ["internal/abi.NoEscape", "internal/bytealg.MakeNoZero"], apart := false }
def GeomReadsSaid : Prop := geomReadsRow.holds Try.pinned (OpenSpec.ofChange geomReadsSpec)

/-- ITS FALSE NEIGHBOUR: 'it returns false'. Refute it at one input. -/
def geomReadsWrong : ChangeSpec := { name := "geomReads", fn := fun _ => fun
  | [d1, d2] => { results := [.lit (.bool false)], args := [d1, d2] }
  | _ => none }
def GeomReadsWrongFalsely : Prop := geomReadsRow.holds Try.pinned (OpenSpec.ofChange geomReadsWrong)

/-- 'hibernaclelaw17.GeomTakes': WHATEVER THE INPUT: true; the input reads as it did. -/
def geomTakesSpec : ChangeSpec := { name := "geomTakes", fn := fun _ => fun
  | [d1, d2] => { results := [.lit (.bool true)], args := [d1, d2] }
  | _ => none }
def geomTakesRow : OpenClaim := { program := "ytclmocppphojfaa", sum := "f4be0f5daef0d870294728efae8f4850c1e25bd79f94e05d65159e98433792b1", func := "hibernacle/hibernaclelaw17.GeomTakes", spec := "geomTakes", inPlace := ["internal/abi.NoEscape", "internal/bytealg.MakeNoZero"], apart := false }
def GeomTakesSaid : Prop := geomTakesRow.holds Try.pinned (OpenSpec.ofChange geomTakesSpec)

/-- ITS FALSE NEIGHBOUR: 'it returns false'. Refute it at one input. -/
def geomTakesWrong : ChangeSpec := { name := "geomTakes", fn := fun _ => fun
  | [d1, d2] => { results := [.lit (.bool false)], args := [d1, d2] }
  | _ => none }
def GeomTakesWrongFalsely : Prop := geomTakesRow.holds Try.pinned (OpenSpec.ofChange geomTakesWrong)

/-- 'hibernaclelaw17.GeomApart': WHATEVER THE INPUT: true; the input reads as it did. -/
def geomApartSpec : ChangeSpec := { name := "geomApart", fn := fun _ => fun
  | [d1, d2, d3] => { results := [.lit (.bool true)], args := [d1, d2, d3] }
  | _ => none }
def geomApartRow : OpenClaim := { program := "ytclmocppphojfaa", sum := "f4be0f5daef0d870294728efae8f4850c1e25bd79f94e05d65159e98433792b1", func := "hibernacle/hibernaclelaw17.GeomApart", spec := "geomApart", inPlace := ["internal/abi.NoEscape", "internal/bytealg.MakeNoZero"], apart := false }
def GeomApartSaid : Prop := geomApartRow.holds Try.pinned (OpenSpec.ofChange geomApartSpec)

/-- ITS FALSE NEIGHBOUR: 'it returns false'. Refute it at one input. -/
def geomApartWrong : ChangeSpec := { name := "geomApart", fn := fun _ => fun
  | [d1, d2, d3] => { results := [.lit (.bool false)], args := [d1, d2, d3] }
  | _ => none }
def GeomApartWrongFalsely : Prop := geomApartRow.holds Try.pinned (OpenSpec.ofChange geomApartWrong)

/-- 'hibernaclelaw18.InodeNews': WHATEVER THE INPUT: true; the input reads as it did. -/
def inodeNewsSpec : ChangeSpec := { name := "inodeNews", fn := fun _ => fun
  | [d1, d2, d3] => { results := [.lit (.bool true)], args := [d1, d2, d3] }
  | _ => none }
def inodeNewsRow : OpenClaim := { program := "ytclmocppphojfaa", sum := "f4be0f5daef0d870294728efae8f4850c1e25bd79f94e05d65159e98433792b1", func := "hibernacle/hibernaclelaw18.InodeNews", spec := "inodeNews", inPlace := ["internal/abi.NoEscape", "internal/bytealg.MakeNoZero"], unfollowed := true, recurses := true, apart := false }
def InodeNewsSaid : Prop := inodeNewsRow.holds Try.pinned (OpenSpec.ofChange inodeNewsSpec)

/-- ITS FALSE NEIGHBOUR: 'it returns false'. Refute it at one input. -/
def inodeNewsWrong : ChangeSpec := { name := "inodeNews", fn := fun _ => fun
  | [d1, d2, d3] => { results := [.lit (.bool false)], args := [d1, d2, d3] }
  | _ => none }
def InodeNewsWrongFalsely : Prop := inodeNewsRow.holds Try.pinned (OpenSpec.ofChange inodeNewsWrong)

/-- 'hibernaclelaw18.InodeGets': WHATEVER THE INPUT: true; the input reads as it did. -/
def inodeGetsSpec : ChangeSpec := { name := "inodeGets", fn := fun _ => fun
  | [d1, d2] => { results := [.lit (.bool true)], args := [d1, d2] }
  | _ => none }
def inodeGetsRow : OpenClaim := { program := "ytclmocppphojfaa", sum := "f4be0f5daef0d870294728efae8f4850c1e25bd79f94e05d65159e98433792b1", func := "hibernacle/hibernaclelaw18.InodeGets", spec := "inodeGets", inPlace := ["internal/abi.NoEscape", "internal/bytealg.MakeNoZero"], unfollowed := true, recurses := true, apart := false }
def InodeGetsSaid : Prop := inodeGetsRow.holds Try.pinned (OpenSpec.ofChange inodeGetsSpec)

/-- ITS FALSE NEIGHBOUR: 'it returns false'. Refute it at one input. -/
def inodeGetsWrong : ChangeSpec := { name := "inodeGets", fn := fun _ => fun
  | [d1, d2] => { results := [.lit (.bool false)], args := [d1, d2] }
  | _ => none }
def InodeGetsWrongFalsely : Prop := inodeGetsRow.holds Try.pinned (OpenSpec.ofChange inodeGetsWrong)

/-- 'hibernaclelaw18.InodePuts': WHATEVER THE INPUT: true; the input reads as it did. -/
def inodePutsSpec : ChangeSpec := { name := "inodePuts", fn := fun _ => fun
  | [d1, d2, d3] => { results := [.lit (.bool true)], args := [d1, d2, d3] }
  | _ => none }
def inodePutsRow : OpenClaim := { program := "ytclmocppphojfaa", sum := "f4be0f5daef0d870294728efae8f4850c1e25bd79f94e05d65159e98433792b1", func := "hibernacle/hibernaclelaw18.InodePuts", spec := "inodePuts", inPlace := ["internal/abi.NoEscape", "internal/bytealg.MakeNoZero"], unfollowed := true, recurses := true, apart := false }
def InodePutsSaid : Prop := inodePutsRow.holds Try.pinned (OpenSpec.ofChange inodePutsSpec)

/-- ITS FALSE NEIGHBOUR: 'it returns false'. Refute it at one input. -/
def inodePutsWrong : ChangeSpec := { name := "inodePuts", fn := fun _ => fun
  | [d1, d2, d3] => { results := [.lit (.bool false)], args := [d1, d2, d3] }
  | _ => none }
def InodePutsWrongFalsely : Prop := inodePutsRow.holds Try.pinned (OpenSpec.ofChange inodePutsWrong)

/-- 'hibernaclelaw18.InodeBack': WHATEVER THE INPUT: true; the input reads as it did. -/
def inodeBackSpec : ChangeSpec := { name := "inodeBack", fn := fun _ => fun
  | [d1, d2, d3, d4] => { results := [.lit (.bool true)], args := [d1, d2, d3, d4] }
  | _ => none }
def inodeBackRow : OpenClaim := { program := "ytclmocppphojfaa", sum := "f4be0f5daef0d870294728efae8f4850c1e25bd79f94e05d65159e98433792b1", func := "hibernacle/hibernaclelaw18.InodeBack", spec := "inodeBack", inPlace := ["internal/abi.NoEscape", "internal/bytealg.MakeNoZero"], unfollowed := true, recurses := true, apart := false }
def InodeBackSaid : Prop := inodeBackRow.holds Try.pinned (OpenSpec.ofChange inodeBackSpec)

/-- ITS FALSE NEIGHBOUR: 'it returns false'. Refute it at one input. -/
def inodeBackWrong : ChangeSpec := { name := "inodeBack", fn := fun _ => fun
  | [d1, d2, d3, d4] => { results := [.lit (.bool false)], args := [d1, d2, d3, d4] }
  | _ => none }
def InodeBackWrongFalsely : Prop := inodeBackRow.holds Try.pinned (OpenSpec.ofChange inodeBackWrong)

/-- 'hibernaclelaw18.InodeTwice': WHATEVER THE INPUT: true; the input reads as it did. -/
def inodeTwiceSpec : ChangeSpec := { name := "inodeTwice", fn := fun _ => fun
  | [d1, d2, d3, d4, d5] => { results := [.lit (.bool true)], args := [d1, d2, d3, d4, d5] }
  | _ => none }
def inodeTwiceRow : OpenClaim := { program := "ytclmocppphojfaa", sum := "f4be0f5daef0d870294728efae8f4850c1e25bd79f94e05d65159e98433792b1", func := "hibernacle/hibernaclelaw18.InodeTwice", spec := "inodeTwice", inPlace := ["internal/abi.NoEscape", "internal/bytealg.MakeNoZero"], unfollowed := true, recurses := true, apart := false }
def InodeTwiceSaid : Prop := inodeTwiceRow.holds Try.pinned (OpenSpec.ofChange inodeTwiceSpec)

/-- ITS FALSE NEIGHBOUR: 'it returns false'. Refute it at one input. -/
def inodeTwiceWrong : ChangeSpec := { name := "inodeTwice", fn := fun _ => fun
  | [d1, d2, d3, d4, d5] => { results := [.lit (.bool false)], args := [d1, d2, d3, d4, d5] }
  | _ => none }
def InodeTwiceWrongFalsely : Prop := inodeTwiceRow.holds Try.pinned (OpenSpec.ofChange inodeTwiceWrong)

/-- 'hibernaclelaw18.InodeFull': WHATEVER THE INPUT: true; the input reads as it did. -/
def inodeFullSpec : ChangeSpec := { name := "inodeFull", fn := fun _ => fun
  | [d1, d2, d3] => { results := [.lit (.bool true)], args := [d1, d2, d3] }
  | _ => none }
def inodeFullRow : OpenClaim := { program := "ytclmocppphojfaa", sum := "f4be0f5daef0d870294728efae8f4850c1e25bd79f94e05d65159e98433792b1", func := "hibernacle/hibernaclelaw18.InodeFull", spec := "inodeFull", inPlace := ["internal/abi.NoEscape", "internal/bytealg.MakeNoZero"], unfollowed := true, recurses := true, apart := false }
def InodeFullSaid : Prop := inodeFullRow.holds Try.pinned (OpenSpec.ofChange inodeFullSpec)

/-- ITS FALSE NEIGHBOUR: 'it returns false'. Refute it at one input. -/
def inodeFullWrong : ChangeSpec := { name := "inodeFull", fn := fun _ => fun
  | [d1, d2, d3] => { results := [.lit (.bool false)], args := [d1, d2, d3] }
  | _ => none }
def InodeFullWrongFalsely : Prop := inodeFullRow.holds Try.pinned (OpenSpec.ofChange inodeFullWrong)

/-- 'hibernaclelaw18.InodeCounts': WHATEVER THE INPUT: true; the input reads as it did. -/
def inodeCountsSpec : ChangeSpec := { name := "inodeCounts", fn := fun _ => fun
  | [d1, d2, d3] => { results := [.lit (.bool true)], args := [d1, d2, d3] }
  | _ => none }
def inodeCountsRow : OpenClaim := { program := "ytclmocppphojfaa", sum := "f4be0f5daef0d870294728efae8f4850c1e25bd79f94e05d65159e98433792b1", func := "hibernacle/hibernaclelaw18.InodeCounts", spec := "inodeCounts", inPlace := ["internal/abi.NoEscape", "internal/bytealg.MakeNoZero"], unfollowed := true, recurses := true, apart := false }
def InodeCountsSaid : Prop := inodeCountsRow.holds Try.pinned (OpenSpec.ofChange inodeCountsSpec)

/-- ITS FALSE NEIGHBOUR: 'it returns false'. Refute it at one input. -/
def inodeCountsWrong : ChangeSpec := { name := "inodeCounts", fn := fun _ => fun
  | [d1, d2, d3] => { results := [.lit (.bool false)], args := [d1, d2, d3] }
  | _ => none }
def InodeCountsWrongFalsely : Prop := inodeCountsRow.holds Try.pinned (OpenSpec.ofChange inodeCountsWrong)

/- THE SECOND FORM. 'bulk': how many values and letters a reading holds, each counted each time it is reached (what is shared counts as often as it is met; a slice's spare places count too). A statement '..UptoSaid' is the law's where the arguments, and the package variables that the reading takes, are together of bulk at most 1048576: NARROWER than '..Said'. Prove '..Said' where nothing that the law and all that it calls make is longer than what came in: it says more and counts as full. Else prove '..UptoSaid'. A law counts once. -/
mutual
def uptoBulk {H : Type} : DataW H → Nat
  | .lit (.string bytes) => bytes.length + 1
  | .lit _ => 1
  | .nil => 1
  | .ptr d => uptoBulk d + 1
  | .slice elems spare => uptoBulkAll elems + uptoBulkAll spare + 1
  | .agg parts => uptoBulkAll parts + 1
  | .iface _ d => uptoBulk d + 1
  | .map entries => uptoBulkEntries entries + 1
  | .held _ => 1
def uptoBulkAll {H : Type} : List (DataW H) → Nat
  | [] => 0
  | d :: r => uptoBulk d + uptoBulkAll r
def uptoBulkEntries {H : Type} : List (Lit × DataW H) → Nat
  | [] => 0
  | x :: r => uptoBulkEntry x + uptoBulkEntries r
def uptoBulkEntry {H : Type} : Lit × DataW H → Nat
  | (.string bytes, d) => bytes.length + uptoBulk d + 1
  | (_, d) => uptoBulk d + 1
 end
def uptoSmall : (H : Type) → List (DataW H) → Bool := fun _ ds => decide (uptoBulkAll ds ≤ 1048576)
def OpenSpec.upto (s : _root_.Go.ChangeSpec) : _root_.Go.OpenSpec := { _root_.Go.OpenSpec.ofChange s with cond := some uptoSmall }

/-- 'hibernaclelaw17.GeomPlans', WHERE WHAT IT READS IS OF BULK AT MOST 1048576: true; the input reads as it did. -/
def geomPlansUptoRow : OpenClaim := { program := "ytclmocppphojfaa", sum := "f4be0f5daef0d870294728efae8f4850c1e25bd79f94e05d65159e98433792b1", func := "hibernacle/hibernaclelaw17.GeomPlans", spec := "geomPlans", inPlace := ["internal/abi.NoEscape", "internal/bytealg.MakeNoZero"], apart := false, narrowed := true }
def GeomPlansUptoSaid : Prop := geomPlansUptoRow.holds Try.pinned (OpenSpec.upto geomPlansSpec)

/-- 'hibernaclelaw17.GeomReads', WHERE WHAT IT READS IS OF BULK AT MOST 1048576: true; the input reads as it did. -/
def geomReadsUptoRow : OpenClaim := { program := "ytclmocppphojfaa", sum := "f4be0f5daef0d870294728efae8f4850c1e25bd79f94e05d65159e98433792b1", func := "hibernacle/hibernaclelaw17.GeomReads", spec := "geomReads", inPlace := ["internal/abi.NoEscape", "internal/bytealg.MakeNoZero"], apart := false, narrowed := true }
def GeomReadsUptoSaid : Prop := geomReadsUptoRow.holds Try.pinned (OpenSpec.upto geomReadsSpec)

/-- 'hibernaclelaw17.GeomTakes', WHERE WHAT IT READS IS OF BULK AT MOST 1048576: true; the input reads as it did. -/
def geomTakesUptoRow : OpenClaim := { program := "ytclmocppphojfaa", sum := "f4be0f5daef0d870294728efae8f4850c1e25bd79f94e05d65159e98433792b1", func := "hibernacle/hibernaclelaw17.GeomTakes", spec := "geomTakes", inPlace := ["internal/abi.NoEscape", "internal/bytealg.MakeNoZero"], apart := false, narrowed := true }
def GeomTakesUptoSaid : Prop := geomTakesUptoRow.holds Try.pinned (OpenSpec.upto geomTakesSpec)

/-- 'hibernaclelaw17.GeomApart', WHERE WHAT IT READS IS OF BULK AT MOST 1048576: true; the input reads as it did. -/
def geomApartUptoRow : OpenClaim := { program := "ytclmocppphojfaa", sum := "f4be0f5daef0d870294728efae8f4850c1e25bd79f94e05d65159e98433792b1", func := "hibernacle/hibernaclelaw17.GeomApart", spec := "geomApart", inPlace := ["internal/abi.NoEscape", "internal/bytealg.MakeNoZero"], apart := false, narrowed := true }
def GeomApartUptoSaid : Prop := geomApartUptoRow.holds Try.pinned (OpenSpec.upto geomApartSpec)

/-- 'hibernaclelaw18.InodeNews', WHERE WHAT IT READS IS OF BULK AT MOST 1048576: true; the input reads as it did. -/
def inodeNewsUptoRow : OpenClaim := { program := "ytclmocppphojfaa", sum := "f4be0f5daef0d870294728efae8f4850c1e25bd79f94e05d65159e98433792b1", func := "hibernacle/hibernaclelaw18.InodeNews", spec := "inodeNews", inPlace := ["internal/abi.NoEscape", "internal/bytealg.MakeNoZero"], unfollowed := true, recurses := true, apart := false, narrowed := true }
def InodeNewsUptoSaid : Prop := inodeNewsUptoRow.holds Try.pinned (OpenSpec.upto inodeNewsSpec)

/-- 'hibernaclelaw18.InodeGets', WHERE WHAT IT READS IS OF BULK AT MOST 1048576: true; the input reads as it did. -/
def inodeGetsUptoRow : OpenClaim := { program := "ytclmocppphojfaa", sum := "f4be0f5daef0d870294728efae8f4850c1e25bd79f94e05d65159e98433792b1", func := "hibernacle/hibernaclelaw18.InodeGets", spec := "inodeGets", inPlace := ["internal/abi.NoEscape", "internal/bytealg.MakeNoZero"], unfollowed := true, recurses := true, apart := false, narrowed := true }
def InodeGetsUptoSaid : Prop := inodeGetsUptoRow.holds Try.pinned (OpenSpec.upto inodeGetsSpec)

/-- 'hibernaclelaw18.InodePuts', WHERE WHAT IT READS IS OF BULK AT MOST 1048576: true; the input reads as it did. -/
def inodePutsUptoRow : OpenClaim := { program := "ytclmocppphojfaa", sum := "f4be0f5daef0d870294728efae8f4850c1e25bd79f94e05d65159e98433792b1", func := "hibernacle/hibernaclelaw18.InodePuts", spec := "inodePuts", inPlace := ["internal/abi.NoEscape", "internal/bytealg.MakeNoZero"], unfollowed := true, recurses := true, apart := false, narrowed := true }
def InodePutsUptoSaid : Prop := inodePutsUptoRow.holds Try.pinned (OpenSpec.upto inodePutsSpec)

/-- 'hibernaclelaw18.InodeBack', WHERE WHAT IT READS IS OF BULK AT MOST 1048576: true; the input reads as it did. -/
def inodeBackUptoRow : OpenClaim := { program := "ytclmocppphojfaa", sum := "f4be0f5daef0d870294728efae8f4850c1e25bd79f94e05d65159e98433792b1", func := "hibernacle/hibernaclelaw18.InodeBack", spec := "inodeBack", inPlace := ["internal/abi.NoEscape", "internal/bytealg.MakeNoZero"], unfollowed := true, recurses := true, apart := false, narrowed := true }
def InodeBackUptoSaid : Prop := inodeBackUptoRow.holds Try.pinned (OpenSpec.upto inodeBackSpec)

/-- 'hibernaclelaw18.InodeTwice', WHERE WHAT IT READS IS OF BULK AT MOST 1048576: true; the input reads as it did. -/
def inodeTwiceUptoRow : OpenClaim := { program := "ytclmocppphojfaa", sum := "f4be0f5daef0d870294728efae8f4850c1e25bd79f94e05d65159e98433792b1", func := "hibernacle/hibernaclelaw18.InodeTwice", spec := "inodeTwice", inPlace := ["internal/abi.NoEscape", "internal/bytealg.MakeNoZero"], unfollowed := true, recurses := true, apart := false, narrowed := true }
def InodeTwiceUptoSaid : Prop := inodeTwiceUptoRow.holds Try.pinned (OpenSpec.upto inodeTwiceSpec)

/-- 'hibernaclelaw18.InodeFull', WHERE WHAT IT READS IS OF BULK AT MOST 1048576: true; the input reads as it did. -/
def inodeFullUptoRow : OpenClaim := { program := "ytclmocppphojfaa", sum := "f4be0f5daef0d870294728efae8f4850c1e25bd79f94e05d65159e98433792b1", func := "hibernacle/hibernaclelaw18.InodeFull", spec := "inodeFull", inPlace := ["internal/abi.NoEscape", "internal/bytealg.MakeNoZero"], unfollowed := true, recurses := true, apart := false, narrowed := true }
def InodeFullUptoSaid : Prop := inodeFullUptoRow.holds Try.pinned (OpenSpec.upto inodeFullSpec)

/-- 'hibernaclelaw18.InodeCounts', WHERE WHAT IT READS IS OF BULK AT MOST 1048576: true; the input reads as it did. -/
def inodeCountsUptoRow : OpenClaim := { program := "ytclmocppphojfaa", sum := "f4be0f5daef0d870294728efae8f4850c1e25bd79f94e05d65159e98433792b1", func := "hibernacle/hibernaclelaw18.InodeCounts", spec := "inodeCounts", inPlace := ["internal/abi.NoEscape", "internal/bytealg.MakeNoZero"], unfollowed := true, recurses := true, apart := false, narrowed := true }
def InodeCountsUptoSaid : Prop := inodeCountsUptoRow.holds Try.pinned (OpenSpec.upto inodeCountsSpec)

end Rows
end Go.Proofs.Ytclmocppphojfaa
