/-
  DERIVED. GIVEN WITH THE SEED: THE CARDS: each row of YthkppbimkjmbnaaGreatDoorRows.lean that lists a variable, with what it lists TIED to the program's text (the seventh form; the later family's looks); each row that meets fmt, with fmt's text TOLD by the authors' own Lean function (tested against real Go, not proved from fmt's source: count such statements apart). THE CARD IS WHAT COUNTS. Prove the row's statement (the work); the ties are given (YthkppbimkjmbnaaGreatDoorTie.lean); close each card by the builder's one call (the guide's Derived/Test/ToyasCard.lean, 'card_holds'). Laid BY PROGRAM, IN A SANDBOX (cutbox-door.mjs). By AI agents, Wed Nov 11 2026. No macro, syntax, notation, axiom, sorry.
-/
import Derived.Test.YthkppbimkjmbnaaGreatDoorRows
import GoSem.ClaimSeven
namespace Go.Proofs.YthkppbimkjmbnaaGreatDoor
namespace Rows

/-- THE TIED CARD OF 'masterdisclaw36.VolumeseqAnchors'. -/
def volumeseqAnchorsCard : Claim7 := { stood := { row := volumeseqAnchorsRow, standIns := [], harness := (true, "2467096661f1048d893d3d4b7d23c986343d0e5dc81365b85bccd33f9994a9e7"), looks := false }, kinds := [], alts := [], laidByText := true, laidKinds := [.data, .pinned], laidTests := true, laidLooks := .later }
def VolumeseqAnchorsCardSaid : Prop := Claim7.holds Tryz.pinned (.plain (OpenSpec.ofChange volumeseqAnchorsSpec)) volumeseqAnchorsCard

/-- THE TIED CARD OF 'masterdisclaw36.VolumeseqWrites'. -/
def volumeseqWritesCard : Claim7 := { stood := { row := volumeseqWritesRow, standIns := [], harness := (true, "2467096661f1048d893d3d4b7d23c986343d0e5dc81365b85bccd33f9994a9e7"), looks := false }, kinds := [], alts := [], laidByText := true, laidKinds := [.data, .pinned], laidTests := true, laidLooks := .later }
def VolumeseqWritesCardSaid : Prop := Claim7.holds Tryz.pinned (.plain (OpenSpec.ofChange volumeseqWritesSpec)) volumeseqWritesCard

/-- THE TIED CARD OF 'masterdisclaw36.VolumeseqReads'. -/
def volumeseqReadsCard : Claim7 := { stood := { row := volumeseqReadsRow, standIns := [], harness := (true, "2467096661f1048d893d3d4b7d23c986343d0e5dc81365b85bccd33f9994a9e7"), looks := false }, kinds := [], alts := [], laidByText := true, laidKinds := [.data, .pinned], laidTests := true, laidLooks := .later }
def VolumeseqReadsCardSaid : Prop := Claim7.holds Tryz.pinned (.plain (OpenSpec.ofChange volumeseqReadsSpec)) volumeseqReadsCard

/-- THE TIED CARD OF 'masterdisclaw36.VolumeseqReturns'. -/
def volumeseqReturnsCard : Claim7 := { stood := { row := volumeseqReturnsRow, standIns := [], harness := (true, "2467096661f1048d893d3d4b7d23c986343d0e5dc81365b85bccd33f9994a9e7"), looks := false }, kinds := [], alts := [], laidByText := true, laidKinds := [.data, .pinned], laidTests := true, laidLooks := .later }
def VolumeseqReturnsCardSaid : Prop := Claim7.holds Tryz.pinned (.plain (OpenSpec.ofChange volumeseqReturnsSpec)) volumeseqReturnsCard

/-- THE TIED CARD OF 'masterdisclaw36.VolumeseqPrevails'. -/
def volumeseqPrevailsCard : Claim7 := { stood := { row := volumeseqPrevailsRow, standIns := [], harness := (true, "2467096661f1048d893d3d4b7d23c986343d0e5dc81365b85bccd33f9994a9e7"), looks := false }, kinds := [], alts := [], laidByText := true, laidKinds := [.data, .pinned], laidTests := true, laidLooks := .later }
def VolumeseqPrevailsCardSaid : Prop := Claim7.holds Tryz.pinned (.plain (OpenSpec.ofChange volumeseqPrevailsSpec)) volumeseqPrevailsCard

/-- THE TIED CARD OF 'masterdisclaw36.VolumeseqPlaces'. -/
def volumeseqPlacesCard : Claim7 := { stood := { row := volumeseqPlacesRow, standIns := [], harness := (true, "2467096661f1048d893d3d4b7d23c986343d0e5dc81365b85bccd33f9994a9e7"), looks := false }, kinds := [], alts := [], laidByText := true, laidKinds := [.data, .pinned], laidTests := true, laidLooks := .later }
def VolumeseqPlacesCardSaid : Prop := Claim7.holds Tryz.pinned (.plain (OpenSpec.ofChange volumeseqPlacesSpec)) volumeseqPlacesCard

/-- THE TIED CARD OF 'masterdisclaw36.VolumeseqFileSets'. -/
def volumeseqFileSetsCard : Claim7 := { stood := { row := volumeseqFileSetsRow, standIns := [], harness := (true, "2467096661f1048d893d3d4b7d23c986343d0e5dc81365b85bccd33f9994a9e7"), looks := false }, kinds := [], alts := [], laidByText := true, laidKinds := [.data, .pinned], laidTests := true, laidLooks := .later }
def VolumeseqFileSetsCardSaid : Prop := Claim7.holds Tryz.pinned (.plain (OpenSpec.ofChange volumeseqFileSetsSpec)) volumeseqFileSetsCard

/-- THE TIED CARD OF 'masterdisclaw36.VolumeseqIntegrity'. -/
def volumeseqIntegrityCard : Claim7 := { stood := { row := volumeseqIntegrityRow, standIns := [], harness := (true, "2467096661f1048d893d3d4b7d23c986343d0e5dc81365b85bccd33f9994a9e7"), looks := false }, kinds := [], alts := [], laidByText := true, laidKinds := [.data, .pinned], laidTests := true, laidLooks := .later }
def VolumeseqIntegrityCardSaid : Prop := Claim7.holds Tryz.pinned (.plain (OpenSpec.ofChange volumeseqIntegritySpec)) volumeseqIntegrityCard

/-- THE SECOND FORM's CARD OF 'masterdisclaw36.VolumeseqAnchors'. -/
def volumeseqAnchorsUptoCard : Claim7 := { stood := { row := volumeseqAnchorsUptoRow, standIns := [], harness := (true, "2467096661f1048d893d3d4b7d23c986343d0e5dc81365b85bccd33f9994a9e7"), looks := false }, kinds := [], alts := [], laidByText := true, laidKinds := [.data, .pinned], laidTests := true, laidLooks := .later }
def VolumeseqAnchorsUptoCardSaid : Prop := Claim7.holds Tryz.pinned (.plain (OpenSpec.upto volumeseqAnchorsSpec)) volumeseqAnchorsUptoCard

/-- THE SECOND FORM's CARD OF 'masterdisclaw36.VolumeseqWrites'. -/
def volumeseqWritesUptoCard : Claim7 := { stood := { row := volumeseqWritesUptoRow, standIns := [], harness := (true, "2467096661f1048d893d3d4b7d23c986343d0e5dc81365b85bccd33f9994a9e7"), looks := false }, kinds := [], alts := [], laidByText := true, laidKinds := [.data, .pinned], laidTests := true, laidLooks := .later }
def VolumeseqWritesUptoCardSaid : Prop := Claim7.holds Tryz.pinned (.plain (OpenSpec.upto volumeseqWritesSpec)) volumeseqWritesUptoCard

/-- THE SECOND FORM's CARD OF 'masterdisclaw36.VolumeseqReads'. -/
def volumeseqReadsUptoCard : Claim7 := { stood := { row := volumeseqReadsUptoRow, standIns := [], harness := (true, "2467096661f1048d893d3d4b7d23c986343d0e5dc81365b85bccd33f9994a9e7"), looks := false }, kinds := [], alts := [], laidByText := true, laidKinds := [.data, .pinned], laidTests := true, laidLooks := .later }
def VolumeseqReadsUptoCardSaid : Prop := Claim7.holds Tryz.pinned (.plain (OpenSpec.upto volumeseqReadsSpec)) volumeseqReadsUptoCard

/-- THE SECOND FORM's CARD OF 'masterdisclaw36.VolumeseqReturns'. -/
def volumeseqReturnsUptoCard : Claim7 := { stood := { row := volumeseqReturnsUptoRow, standIns := [], harness := (true, "2467096661f1048d893d3d4b7d23c986343d0e5dc81365b85bccd33f9994a9e7"), looks := false }, kinds := [], alts := [], laidByText := true, laidKinds := [.data, .pinned], laidTests := true, laidLooks := .later }
def VolumeseqReturnsUptoCardSaid : Prop := Claim7.holds Tryz.pinned (.plain (OpenSpec.upto volumeseqReturnsSpec)) volumeseqReturnsUptoCard

/-- THE SECOND FORM's CARD OF 'masterdisclaw36.VolumeseqPrevails'. -/
def volumeseqPrevailsUptoCard : Claim7 := { stood := { row := volumeseqPrevailsUptoRow, standIns := [], harness := (true, "2467096661f1048d893d3d4b7d23c986343d0e5dc81365b85bccd33f9994a9e7"), looks := false }, kinds := [], alts := [], laidByText := true, laidKinds := [.data, .pinned], laidTests := true, laidLooks := .later }
def VolumeseqPrevailsUptoCardSaid : Prop := Claim7.holds Tryz.pinned (.plain (OpenSpec.upto volumeseqPrevailsSpec)) volumeseqPrevailsUptoCard

/-- THE SECOND FORM's CARD OF 'masterdisclaw36.VolumeseqPlaces'. -/
def volumeseqPlacesUptoCard : Claim7 := { stood := { row := volumeseqPlacesUptoRow, standIns := [], harness := (true, "2467096661f1048d893d3d4b7d23c986343d0e5dc81365b85bccd33f9994a9e7"), looks := false }, kinds := [], alts := [], laidByText := true, laidKinds := [.data, .pinned], laidTests := true, laidLooks := .later }
def VolumeseqPlacesUptoCardSaid : Prop := Claim7.holds Tryz.pinned (.plain (OpenSpec.upto volumeseqPlacesSpec)) volumeseqPlacesUptoCard

/-- THE SECOND FORM's CARD OF 'masterdisclaw36.VolumeseqFileSets'. -/
def volumeseqFileSetsUptoCard : Claim7 := { stood := { row := volumeseqFileSetsUptoRow, standIns := [], harness := (true, "2467096661f1048d893d3d4b7d23c986343d0e5dc81365b85bccd33f9994a9e7"), looks := false }, kinds := [], alts := [], laidByText := true, laidKinds := [.data, .pinned], laidTests := true, laidLooks := .later }
def VolumeseqFileSetsUptoCardSaid : Prop := Claim7.holds Tryz.pinned (.plain (OpenSpec.upto volumeseqFileSetsSpec)) volumeseqFileSetsUptoCard

/-- THE SECOND FORM's CARD OF 'masterdisclaw36.VolumeseqIntegrity'. -/
def volumeseqIntegrityUptoCard : Claim7 := { stood := { row := volumeseqIntegrityUptoRow, standIns := [], harness := (true, "2467096661f1048d893d3d4b7d23c986343d0e5dc81365b85bccd33f9994a9e7"), looks := false }, kinds := [], alts := [], laidByText := true, laidKinds := [.data, .pinned], laidTests := true, laidLooks := .later }
def VolumeseqIntegrityUptoCardSaid : Prop := Claim7.holds Tryz.pinned (.plain (OpenSpec.upto volumeseqIntegritySpec)) volumeseqIntegrityUptoCard
end Rows
end Go.Proofs.YthkppbimkjmbnaaGreatDoor
