/-
  No cell of these rows narrows 'for every input' (looked for: loops, veiled, ifaces, maps, wideKeys, modest, calm, conditions, laid).
  DERIVED. THE GIVEN ROWS OF THIS SEAT. 6 by the template 'for every input the law returns true; each argument reads behind the call as it read before'; 0 by the template 'total and deterministic' (their statements: YtoanladhikdcaaaTotals.lean).
  GIVEN WITH THE SEED: the statements are not yours to turn. If you find one false, say at which input.
  Laid BY PROGRAM, IN A SANDBOX (cutbox-rows.mjs): the forced cells as the released guide's own fill.sh prints them over the translation 09a663c6b5b791c6… (all of the seat's roots in one cut). By AI agents, Wed Nov 11 2026. No macro, syntax, notation, axiom, sorry.
-/
import Derived.Test.YtoanladhikdcaaaChecked
import GoSem.Claim
import GoSem.ClaimJoined
import GoSem.ClaimMapViews
import Derived.JoinedTies
import Derived.KernelRfl
namespace Go.Proofs.Ytoanladhikdcaaa
/- THE CELL 'sum', in the pinned program and in every row, IS THE sha256 OF THE DUMP (.gsa) THAT YtoanladhikdcaaaProg.lean LOADS. Nothing in Lean hashes anything: it is a label: what it is worth is what the hold of that sum in a sandbox is worth. -/
noncomputable def Try.pinned : Pinned := { name := "ytoanladhikdcaaa", sum := "09a663c6b5b791c64cfe66333547cf4102c264a1c5becb756aaa81a29df168f2", checked := Try.checked }
namespace Rows
def none {H : Type} : Left H := { results := [], args := [] }

/-- 'hibernaclelaw20.DirMays': WHATEVER THE INPUT: true; the input reads as it did. -/
def dirMaysSpec : ChangeSpec := { name := "dirMays", fn := fun _ => fun
  | [d] => { results := [.lit (.bool true)], args := [d] }
  | _ => none }
def dirMaysRow : OpenClaim := { program := "ytoanladhikdcaaa", sum := "09a663c6b5b791c64cfe66333547cf4102c264a1c5becb756aaa81a29df168f2", func := "hibernacle/hibernaclelaw20.DirMays", spec := "dirMays", inPlace := ["internal/abi.NoEscape", "internal/bytealg.MakeNoZero"], unfollowed := true, recurses := true, apart := false }
def DirMaysSaid : Prop := dirMaysRow.holds Try.pinned (OpenSpec.ofChange dirMaysSpec)

/-- ITS FALSE NEIGHBOUR: 'it returns false'. Refute it at one input. -/
def dirMaysWrong : ChangeSpec := { name := "dirMays", fn := fun _ => fun
  | [d] => { results := [.lit (.bool false)], args := [d] }
  | _ => none }
def DirMaysWrongFalsely : Prop := dirMaysRow.holds Try.pinned (OpenSpec.ofChange dirMaysWrong)

/-- 'hibernaclelaw20.DirAdds': WHATEVER THE INPUT: true; the input reads as it did. -/
def dirAddsSpec : ChangeSpec := { name := "dirAdds", fn := fun _ => fun
  | [d1, d2, d3, d4] => { results := [.lit (.bool true)], args := [d1, d2, d3, d4] }
  | _ => none }
def dirAddsRow : OpenClaim := { program := "ytoanladhikdcaaa", sum := "09a663c6b5b791c64cfe66333547cf4102c264a1c5becb756aaa81a29df168f2", func := "hibernacle/hibernaclelaw20.DirAdds", spec := "dirAdds", inPlace := ["internal/abi.NoEscape", "internal/bytealg.MakeNoZero"], unfollowed := true, recurses := true, apart := false }
def DirAddsSaid : Prop := dirAddsRow.holds Try.pinned (OpenSpec.ofChange dirAddsSpec)

/-- ITS FALSE NEIGHBOUR: 'it returns false'. Refute it at one input. -/
def dirAddsWrong : ChangeSpec := { name := "dirAdds", fn := fun _ => fun
  | [d1, d2, d3, d4] => { results := [.lit (.bool false)], args := [d1, d2, d3, d4] }
  | _ => none }
def DirAddsWrongFalsely : Prop := dirAddsRow.holds Try.pinned (OpenSpec.ofChange dirAddsWrong)

/-- 'hibernaclelaw20.DirOrders': WHATEVER THE INPUT: true; the input reads as it did. -/
def dirOrdersSpec : ChangeSpec := { name := "dirOrders", fn := fun _ => fun
  | [d] => { results := [.lit (.bool true)], args := [d] }
  | _ => none }
def dirOrdersRow : OpenClaim := { program := "ytoanladhikdcaaa", sum := "09a663c6b5b791c64cfe66333547cf4102c264a1c5becb756aaa81a29df168f2", func := "hibernacle/hibernaclelaw20.DirOrders", spec := "dirOrders", inPlace := ["internal/abi.NoEscape", "internal/bytealg.MakeNoZero"], unfollowed := true, recurses := true, apart := false }
def DirOrdersSaid : Prop := dirOrdersRow.holds Try.pinned (OpenSpec.ofChange dirOrdersSpec)

/-- ITS FALSE NEIGHBOUR: 'it returns false'. Refute it at one input. -/
def dirOrdersWrong : ChangeSpec := { name := "dirOrders", fn := fun _ => fun
  | [d] => { results := [.lit (.bool false)], args := [d] }
  | _ => none }
def DirOrdersWrongFalsely : Prop := dirOrdersRow.holds Try.pinned (OpenSpec.ofChange dirOrdersWrong)

/-- 'hibernaclelaw20.DirLists': WHATEVER THE INPUT: true; the input reads as it did. -/
def dirListsSpec : ChangeSpec := { name := "dirLists", fn := fun _ => fun
  | [d1, d2, d3] => { results := [.lit (.bool true)], args := [d1, d2, d3] }
  | _ => none }
def dirListsRow : OpenClaim := { program := "ytoanladhikdcaaa", sum := "09a663c6b5b791c64cfe66333547cf4102c264a1c5becb756aaa81a29df168f2", func := "hibernacle/hibernaclelaw20.DirLists", spec := "dirLists", inPlace := ["internal/abi.NoEscape", "internal/bytealg.MakeNoZero"], unfollowed := true, recurses := true, apart := false }
def DirListsSaid : Prop := dirListsRow.holds Try.pinned (OpenSpec.ofChange dirListsSpec)

/-- ITS FALSE NEIGHBOUR: 'it returns false'. Refute it at one input. -/
def dirListsWrong : ChangeSpec := { name := "dirLists", fn := fun _ => fun
  | [d1, d2, d3] => { results := [.lit (.bool false)], args := [d1, d2, d3] }
  | _ => none }
def DirListsWrongFalsely : Prop := dirListsRow.holds Try.pinned (OpenSpec.ofChange dirListsWrong)

/-- 'hibernaclelaw20.DirKeeps': WHATEVER THE INPUT: true; the input reads as it did. -/
def dirKeepsSpec : ChangeSpec := { name := "dirKeeps", fn := fun _ => fun
  | [d1, d2, d3, d4, d5] => { results := [.lit (.bool true)], args := [d1, d2, d3, d4, d5] }
  | _ => none }
def dirKeepsRow : OpenClaim := { program := "ytoanladhikdcaaa", sum := "09a663c6b5b791c64cfe66333547cf4102c264a1c5becb756aaa81a29df168f2", func := "hibernacle/hibernaclelaw20.DirKeeps", spec := "dirKeeps", inPlace := ["internal/abi.NoEscape", "internal/bytealg.MakeNoZero"], unfollowed := true, recurses := true, apart := false }
def DirKeepsSaid : Prop := dirKeepsRow.holds Try.pinned (OpenSpec.ofChange dirKeepsSpec)

/-- ITS FALSE NEIGHBOUR: 'it returns false'. Refute it at one input. -/
def dirKeepsWrong : ChangeSpec := { name := "dirKeeps", fn := fun _ => fun
  | [d1, d2, d3, d4, d5] => { results := [.lit (.bool false)], args := [d1, d2, d3, d4, d5] }
  | _ => none }
def DirKeepsWrongFalsely : Prop := dirKeepsRow.holds Try.pinned (OpenSpec.ofChange dirKeepsWrong)

/-- 'hibernaclelaw20.DirRooms': WHATEVER THE INPUT: true; the input reads as it did. -/
def dirRoomsSpec : ChangeSpec := { name := "dirRooms", fn := fun _ => fun
  | [d] => { results := [.lit (.bool true)], args := [d] }
  | _ => none }
def dirRoomsRow : OpenClaim := { program := "ytoanladhikdcaaa", sum := "09a663c6b5b791c64cfe66333547cf4102c264a1c5becb756aaa81a29df168f2", func := "hibernacle/hibernaclelaw20.DirRooms", spec := "dirRooms", inPlace := ["internal/abi.NoEscape", "internal/bytealg.MakeNoZero"], unfollowed := true, recurses := true, apart := false }
def DirRoomsSaid : Prop := dirRoomsRow.holds Try.pinned (OpenSpec.ofChange dirRoomsSpec)

/-- ITS FALSE NEIGHBOUR: 'it returns false'. Refute it at one input. -/
def dirRoomsWrong : ChangeSpec := { name := "dirRooms", fn := fun _ => fun
  | [d] => { results := [.lit (.bool false)], args := [d] }
  | _ => none }
def DirRoomsWrongFalsely : Prop := dirRoomsRow.holds Try.pinned (OpenSpec.ofChange dirRoomsWrong)

/- THE SECOND FORM. 'bulk': how many values and letters a reading holds, each counted each time it is reached (what is shared counts as often as it is met; a slice's spare places count too). A statement '..UptoSaid' is the law's where the arguments, and the package variables that the reading takes, are together of bulk at most 1048576: NARROWER than '..Said'. Prove '..Said' where nothing that the law and all that it calls make is longer than what came in: it says more and counts as full. Else prove '..UptoSaid'. A law counts once. -/
mutual
def uptoBulk {H : Type} : DataW H → Nat
  | .lit (.string bytes) => bytes.length + 1
  | .lit _ => 1
  | .nil => 1
  | .ptr d => uptoBulk d + 1
  | .slice elems spare => uptoBulkAll elems + uptoBulkAll spare + 1
  | .agg parts => uptoBulkAll parts + 1
  | .iface _ d => uptoBulk d + 1
  | .map entries => uptoBulkEntries entries + 1
  | .held _ => 1
def uptoBulkAll {H : Type} : List (DataW H) → Nat
  | [] => 0
  | d :: r => uptoBulk d + uptoBulkAll r
def uptoBulkEntries {H : Type} : List (Lit × DataW H) → Nat
  | [] => 0
  | x :: r => uptoBulkEntry x + uptoBulkEntries r
def uptoBulkEntry {H : Type} : Lit × DataW H → Nat
  | (.string bytes, d) => bytes.length + uptoBulk d + 1
  | (_, d) => uptoBulk d + 1
 end
def uptoSmall : (H : Type) → List (DataW H) → Bool := fun _ ds => decide (uptoBulkAll ds ≤ 1048576)
def OpenSpec.upto (s : _root_.Go.ChangeSpec) : _root_.Go.OpenSpec := { _root_.Go.OpenSpec.ofChange s with cond := some uptoSmall }

/-- 'hibernaclelaw20.DirMays', WHERE WHAT IT READS IS OF BULK AT MOST 1048576: true; the input reads as it did. -/
def dirMaysUptoRow : OpenClaim := { program := "ytoanladhikdcaaa", sum := "09a663c6b5b791c64cfe66333547cf4102c264a1c5becb756aaa81a29df168f2", func := "hibernacle/hibernaclelaw20.DirMays", spec := "dirMays", inPlace := ["internal/abi.NoEscape", "internal/bytealg.MakeNoZero"], unfollowed := true, recurses := true, apart := false, narrowed := true }
def DirMaysUptoSaid : Prop := dirMaysUptoRow.holds Try.pinned (OpenSpec.upto dirMaysSpec)

/-- 'hibernaclelaw20.DirAdds', WHERE WHAT IT READS IS OF BULK AT MOST 1048576: true; the input reads as it did. -/
def dirAddsUptoRow : OpenClaim := { program := "ytoanladhikdcaaa", sum := "09a663c6b5b791c64cfe66333547cf4102c264a1c5becb756aaa81a29df168f2", func := "hibernacle/hibernaclelaw20.DirAdds", spec := "dirAdds", inPlace := ["internal/abi.NoEscape", "internal/bytealg.MakeNoZero"], unfollowed := true, recurses := true, apart := false, narrowed := true }
def DirAddsUptoSaid : Prop := dirAddsUptoRow.holds Try.pinned (OpenSpec.upto dirAddsSpec)

/-- 'hibernaclelaw20.DirOrders', WHERE WHAT IT READS IS OF BULK AT MOST 1048576: true; the input reads as it did. -/
def dirOrdersUptoRow : OpenClaim := { program := "ytoanladhikdcaaa", sum := "09a663c6b5b791c64cfe66333547cf4102c264a1c5becb756aaa81a29df168f2", func := "hibernacle/hibernaclelaw20.DirOrders", spec := "dirOrders", inPlace := ["internal/abi.NoEscape", "internal/bytealg.MakeNoZero"], unfollowed := true, recurses := true, apart := false, narrowed := true }
def DirOrdersUptoSaid : Prop := dirOrdersUptoRow.holds Try.pinned (OpenSpec.upto dirOrdersSpec)

/-- 'hibernaclelaw20.DirLists', WHERE WHAT IT READS IS OF BULK AT MOST 1048576: true; the input reads as it did. -/
def dirListsUptoRow : OpenClaim := { program := "ytoanladhikdcaaa", sum := "09a663c6b5b791c64cfe66333547cf4102c264a1c5becb756aaa81a29df168f2", func := "hibernacle/hibernaclelaw20.DirLists", spec := "dirLists", inPlace := ["internal/abi.NoEscape", "internal/bytealg.MakeNoZero"], unfollowed := true, recurses := true, apart := false, narrowed := true }
def DirListsUptoSaid : Prop := dirListsUptoRow.holds Try.pinned (OpenSpec.upto dirListsSpec)

/-- 'hibernaclelaw20.DirKeeps', WHERE WHAT IT READS IS OF BULK AT MOST 1048576: true; the input reads as it did. -/
def dirKeepsUptoRow : OpenClaim := { program := "ytoanladhikdcaaa", sum := "09a663c6b5b791c64cfe66333547cf4102c264a1c5becb756aaa81a29df168f2", func := "hibernacle/hibernaclelaw20.DirKeeps", spec := "dirKeeps", inPlace := ["internal/abi.NoEscape", "internal/bytealg.MakeNoZero"], unfollowed := true, recurses := true, apart := false, narrowed := true }
def DirKeepsUptoSaid : Prop := dirKeepsUptoRow.holds Try.pinned (OpenSpec.upto dirKeepsSpec)

/-- 'hibernaclelaw20.DirRooms', WHERE WHAT IT READS IS OF BULK AT MOST 1048576: true; the input reads as it did. -/
def dirRoomsUptoRow : OpenClaim := { program := "ytoanladhikdcaaa", sum := "09a663c6b5b791c64cfe66333547cf4102c264a1c5becb756aaa81a29df168f2", func := "hibernacle/hibernaclelaw20.DirRooms", spec := "dirRooms", inPlace := ["internal/abi.NoEscape", "internal/bytealg.MakeNoZero"], unfollowed := true, recurses := true, apart := false, narrowed := true }
def DirRoomsUptoSaid : Prop := dirRoomsUptoRow.holds Try.pinned (OpenSpec.upto dirRoomsSpec)

end Rows
end Go.Proofs.Ytoanladhikdcaaa
