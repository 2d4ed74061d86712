/-
  DERIVED. GIVEN WITH THE SEED: THE CARDS: each row of YtlcdhlfkffkifaaDoorRows.lean that lists a variable, with what it lists TIED to the program's text (the seventh form; the later family's looks); each row that meets fmt, with fmt's text TOLD by the authors' own Lean function (tested against real Go, not proved from fmt's source: count such statements apart). THE CARD IS WHAT COUNTS. Prove the row's statement (the work); the ties are given (YtlcdhlfkffkifaaDoorTie.lean); close each card by the builder's one call (the guide's Derived/Test/ToyasCard.lean, 'card_holds'). Laid BY PROGRAM, IN A SANDBOX (cutbox-door.mjs). By AI agents, Wed Nov 11 2026. No macro, syntax, notation, axiom, sorry.
-/
import Derived.Test.YtlcdhlfkffkifaaDoorRows
import GoSem.ClaimSeven
namespace Go.Proofs.YtlcdhlfkffkifaaDoor
namespace Rows

/-- THE TIED CARD OF 'masterdisclaw37.PartitionmapReturns'. -/
def partitionmapReturnsCard : Claim7 := { stood := { row := partitionmapReturnsRow, standIns := [], harness := (true, "220d9343a8f7de01b4242f8faff8a84dd9f01e33cfead745730d72b9ffd75b87"), looks := false }, kinds := [], alts := [], laidByText := true, laidKinds := [.data, .pinned], laidTests := true, laidLooks := .later }
def PartitionmapReturnsCardSaid : Prop := Claim7.holds Tryd.pinned (.plain (OpenSpec.ofChange partitionmapReturnsSpec)) partitionmapReturnsCard

/-- THE TIED CARD OF 'masterdisclaw37.PartitionmapInside'. -/
def partitionmapInsideCard : Claim7 := { stood := { row := partitionmapInsideRow, standIns := [], harness := (true, "220d9343a8f7de01b4242f8faff8a84dd9f01e33cfead745730d72b9ffd75b87"), looks := false }, kinds := [], alts := [], laidByText := true, laidKinds := [.data, .pinned], laidTests := true, laidLooks := .later }
def PartitionmapInsideCardSaid : Prop := Claim7.holds Tryd.pinned (.plain (OpenSpec.ofChange partitionmapInsideSpec)) partitionmapInsideCard

/-- THE SECOND FORM's CARD OF 'masterdisclaw37.PartitionmapReturns'. -/
def partitionmapReturnsUptoCard : Claim7 := { stood := { row := partitionmapReturnsUptoRow, standIns := [], harness := (true, "220d9343a8f7de01b4242f8faff8a84dd9f01e33cfead745730d72b9ffd75b87"), looks := false }, kinds := [], alts := [], laidByText := true, laidKinds := [.data, .pinned], laidTests := true, laidLooks := .later }
def PartitionmapReturnsUptoCardSaid : Prop := Claim7.holds Tryd.pinned (.plain (OpenSpec.upto partitionmapReturnsSpec)) partitionmapReturnsUptoCard

/-- THE SECOND FORM's CARD OF 'masterdisclaw37.PartitionmapInside'. -/
def partitionmapInsideUptoCard : Claim7 := { stood := { row := partitionmapInsideUptoRow, standIns := [], harness := (true, "220d9343a8f7de01b4242f8faff8a84dd9f01e33cfead745730d72b9ffd75b87"), looks := false }, kinds := [], alts := [], laidByText := true, laidKinds := [.data, .pinned], laidTests := true, laidLooks := .later }
def PartitionmapInsideUptoCardSaid : Prop := Claim7.holds Tryd.pinned (.plain (OpenSpec.upto partitionmapInsideSpec)) partitionmapInsideUptoCard
end Rows
end Go.Proofs.YtlcdhlfkffkifaaDoor
