/-
  DERIVED. GIVEN WITH THE SEED: THE CARDS: each row of YtdldlendppkknaaGreatDoorRows.lean that lists a variable, with what it lists TIED to the program's text (the seventh form; the later family's looks); each row that meets fmt, with fmt's text TOLD by the authors' own Lean function (tested against real Go, not proved from fmt's source: count such statements apart). THE CARD IS WHAT COUNTS. Prove the row's statement (the work); the ties are given (YtdldlendppkknaaGreatDoorTie.lean); close each card by the builder's one call (the guide's Derived/Test/ToyasCard.lean, 'card_holds'). Laid BY PROGRAM, IN A SANDBOX (cutbox-door.mjs). By AI agents, Wed Nov 11 2026. No macro, syntax, notation, axiom, sorry.
-/
import Derived.Test.YtdldlendppkknaaGreatDoorRows
import GoSem.ClaimSeven
namespace Go.Proofs.YtdldlendppkknaaGreatDoor
namespace Rows

/-- THE TIED CARD OF 'hibernacletop.TopFiles'. -/
def topFilesCard : Claim7 := { stood := { row := topFilesRow, standIns := [], harness := (true, "3badc7fff9f925d679dc927e833b4db372a87439f80550ef154e9d9aec1d512f"), looks := false }, kinds := [], alts := [], laidByText := true, laidKinds := [.data, .data], laidTests := true, laidLooks := .later }
def TopFilesCardSaid : Prop := Claim7.holds Tryz.pinned (.plain (OpenSpec.ofChange topFilesSpec)) topFilesCard

/-- THE TIED CARD OF 'hibernacletop.TopRoom'. -/
def topRoomCard : Claim7 := { stood := { row := topRoomRow, standIns := [], harness := (true, "3badc7fff9f925d679dc927e833b4db372a87439f80550ef154e9d9aec1d512f"), looks := false }, kinds := [], alts := [], laidByText := true, laidKinds := [.data, .data], laidTests := true, laidLooks := .later }
def TopRoomCardSaid : Prop := Claim7.holds Tryz.pinned (.plain (OpenSpec.ofChange topRoomSpec)) topRoomCard

/-- THE TIED CARD OF 'hibernacletop.TopVolume'. -/
def topVolumeCard : Claim7 := { stood := { row := topVolumeRow, standIns := [], harness := (true, "3badc7fff9f925d679dc927e833b4db372a87439f80550ef154e9d9aec1d512f"), looks := false }, kinds := [], alts := [], laidByText := true, laidKinds := [.data, .data], laidTests := true, laidLooks := .later }
def TopVolumeCardSaid : Prop := Claim7.holds Tryz.pinned (.plain (OpenSpec.ofChange topVolumeSpec)) topVolumeCard

/-- THE SECOND FORM's CARD OF 'hibernacletop.TopFiles'. -/
def topFilesUptoCard : Claim7 := { stood := { row := topFilesUptoRow, standIns := [], harness := (true, "3badc7fff9f925d679dc927e833b4db372a87439f80550ef154e9d9aec1d512f"), looks := false }, kinds := [], alts := [], laidByText := true, laidKinds := [.data, .data], laidTests := true, laidLooks := .later }
def TopFilesUptoCardSaid : Prop := Claim7.holds Tryz.pinned (.plain (OpenSpec.upto topFilesSpec)) topFilesUptoCard

/-- THE SECOND FORM's CARD OF 'hibernacletop.TopRoom'. -/
def topRoomUptoCard : Claim7 := { stood := { row := topRoomUptoRow, standIns := [], harness := (true, "3badc7fff9f925d679dc927e833b4db372a87439f80550ef154e9d9aec1d512f"), looks := false }, kinds := [], alts := [], laidByText := true, laidKinds := [.data, .data], laidTests := true, laidLooks := .later }
def TopRoomUptoCardSaid : Prop := Claim7.holds Tryz.pinned (.plain (OpenSpec.upto topRoomSpec)) topRoomUptoCard

/-- THE SECOND FORM's CARD OF 'hibernacletop.TopVolume'. -/
def topVolumeUptoCard : Claim7 := { stood := { row := topVolumeUptoRow, standIns := [], harness := (true, "3badc7fff9f925d679dc927e833b4db372a87439f80550ef154e9d9aec1d512f"), looks := false }, kinds := [], alts := [], laidByText := true, laidKinds := [.data, .data], laidTests := true, laidLooks := .later }
def TopVolumeUptoCardSaid : Prop := Claim7.holds Tryz.pinned (.plain (OpenSpec.upto topVolumeSpec)) topVolumeUptoCard
end Rows
end Go.Proofs.YtdldlendppkknaaGreatDoor
