/-
  DERIVED. GIVEN WITH THE SEED: THE CARDS: each row of YtlcdhlfkffkifaaGreatDoorRows.lean that lists a variable, with what it lists TIED to the program's text (the seventh form; the later family's looks); each row that meets fmt, with fmt's text TOLD by the authors' own Lean function (tested against real Go, not proved from fmt's source: count such statements apart). THE CARD IS WHAT COUNTS. Prove the row's statement (the work); the ties are given (YtlcdhlfkffkifaaGreatDoorTie.lean); close each card by the builder's one call (the guide's Derived/Test/ToyasCard.lean, 'card_holds'). Laid BY PROGRAM, IN A SANDBOX (cutbox-door.mjs). By AI agents, Wed Nov 11 2026. No macro, syntax, notation, axiom, sorry.
-/
import Derived.Test.YtlcdhlfkffkifaaGreatDoorRows
import GoSem.ClaimSeven
namespace Go.Proofs.YtlcdhlfkffkifaaGreatDoor
namespace Rows

/-- THE TIED CARD OF 'masterdisclaw37.PartitionmapEncodes'. -/
def partitionmapEncodesCard : Claim7 := { stood := { row := partitionmapEncodesRow, standIns := [], harness := (true, "eafaa4f27f18969b5e16b3fb41725d0ee8a8d12fcbf0ad1b50cd6a37037311f2"), looks := false }, kinds := [], alts := [], laidByText := true, laidKinds := [.data, .pinned], laidTests := true, laidLooks := .later }
def PartitionmapEncodesCardSaid : Prop := Claim7.holds Tryz.pinned (.plain (OpenSpec.ofChange partitionmapEncodesSpec)) partitionmapEncodesCard

/-- THE TIED CARD OF 'masterdisclaw37.PartitionmapDecodes'. -/
def partitionmapDecodesCard : Claim7 := { stood := { row := partitionmapDecodesRow, standIns := [], harness := (true, "eafaa4f27f18969b5e16b3fb41725d0ee8a8d12fcbf0ad1b50cd6a37037311f2"), looks := false }, kinds := [], alts := [], laidByText := true, laidKinds := [.data, .pinned], laidTests := true, laidLooks := .later }
def PartitionmapDecodesCardSaid : Prop := Claim7.holds Tryz.pinned (.plain (OpenSpec.ofChange partitionmapDecodesSpec)) partitionmapDecodesCard

/-- THE TIED CARD OF 'masterdisclaw37.PartitionmapKinds'. -/
def partitionmapKindsCard : Claim7 := { stood := { row := partitionmapKindsRow, standIns := [], harness := (true, "eafaa4f27f18969b5e16b3fb41725d0ee8a8d12fcbf0ad1b50cd6a37037311f2"), looks := false }, kinds := [], alts := [], laidByText := true, laidKinds := [.data, .pinned], laidTests := true, laidLooks := .later }
def PartitionmapKindsCardSaid : Prop := Claim7.holds Tryz.pinned (.plain (OpenSpec.ofChange partitionmapKindsSpec)) partitionmapKindsCard

/-- THE TIED CARD OF 'masterdisclaw37.PartitionmapTranslates'. -/
def partitionmapTranslatesCard : Claim7 := { stood := { row := partitionmapTranslatesRow, standIns := [], harness := (true, "eafaa4f27f18969b5e16b3fb41725d0ee8a8d12fcbf0ad1b50cd6a37037311f2"), looks := false }, kinds := [], alts := [], laidByText := true, laidKinds := [.data, .pinned], laidTests := true, laidLooks := .later }
def PartitionmapTranslatesCardSaid : Prop := Claim7.holds Tryz.pinned (.plain (OpenSpec.ofChange partitionmapTranslatesSpec)) partitionmapTranslatesCard

/-- THE TIED CARD OF 'masterdisclaw37.PartitionmapOrder'. -/
def partitionmapOrderCard : Claim7 := { stood := { row := partitionmapOrderRow, standIns := [], harness := (true, "eafaa4f27f18969b5e16b3fb41725d0ee8a8d12fcbf0ad1b50cd6a37037311f2"), looks := false }, kinds := [], alts := [], laidByText := true, laidKinds := [.data, .pinned], laidTests := true, laidLooks := .later }
def PartitionmapOrderCardSaid : Prop := Claim7.holds Tryz.pinned (.plain (OpenSpec.ofChange partitionmapOrderSpec)) partitionmapOrderCard

/-- THE TIED CARD OF 'masterdisclaw37.PartitionmapSpans'. -/
def partitionmapSpansCard : Claim7 := { stood := { row := partitionmapSpansRow, standIns := [], harness := (true, "eafaa4f27f18969b5e16b3fb41725d0ee8a8d12fcbf0ad1b50cd6a37037311f2"), looks := false }, kinds := [], alts := [], laidByText := true, laidKinds := [.data, .pinned], laidTests := true, laidLooks := .later }
def PartitionmapSpansCardSaid : Prop := Claim7.holds Tryz.pinned (.plain (OpenSpec.ofChange partitionmapSpansSpec)) partitionmapSpansCard

/-- THE SECOND FORM's CARD OF 'masterdisclaw37.PartitionmapEncodes'. -/
def partitionmapEncodesUptoCard : Claim7 := { stood := { row := partitionmapEncodesUptoRow, standIns := [], harness := (true, "eafaa4f27f18969b5e16b3fb41725d0ee8a8d12fcbf0ad1b50cd6a37037311f2"), looks := false }, kinds := [], alts := [], laidByText := true, laidKinds := [.data, .pinned], laidTests := true, laidLooks := .later }
def PartitionmapEncodesUptoCardSaid : Prop := Claim7.holds Tryz.pinned (.plain (OpenSpec.upto partitionmapEncodesSpec)) partitionmapEncodesUptoCard

/-- THE SECOND FORM's CARD OF 'masterdisclaw37.PartitionmapDecodes'. -/
def partitionmapDecodesUptoCard : Claim7 := { stood := { row := partitionmapDecodesUptoRow, standIns := [], harness := (true, "eafaa4f27f18969b5e16b3fb41725d0ee8a8d12fcbf0ad1b50cd6a37037311f2"), looks := false }, kinds := [], alts := [], laidByText := true, laidKinds := [.data, .pinned], laidTests := true, laidLooks := .later }
def PartitionmapDecodesUptoCardSaid : Prop := Claim7.holds Tryz.pinned (.plain (OpenSpec.upto partitionmapDecodesSpec)) partitionmapDecodesUptoCard

/-- THE SECOND FORM's CARD OF 'masterdisclaw37.PartitionmapKinds'. -/
def partitionmapKindsUptoCard : Claim7 := { stood := { row := partitionmapKindsUptoRow, standIns := [], harness := (true, "eafaa4f27f18969b5e16b3fb41725d0ee8a8d12fcbf0ad1b50cd6a37037311f2"), looks := false }, kinds := [], alts := [], laidByText := true, laidKinds := [.data, .pinned], laidTests := true, laidLooks := .later }
def PartitionmapKindsUptoCardSaid : Prop := Claim7.holds Tryz.pinned (.plain (OpenSpec.upto partitionmapKindsSpec)) partitionmapKindsUptoCard

/-- THE SECOND FORM's CARD OF 'masterdisclaw37.PartitionmapTranslates'. -/
def partitionmapTranslatesUptoCard : Claim7 := { stood := { row := partitionmapTranslatesUptoRow, standIns := [], harness := (true, "eafaa4f27f18969b5e16b3fb41725d0ee8a8d12fcbf0ad1b50cd6a37037311f2"), looks := false }, kinds := [], alts := [], laidByText := true, laidKinds := [.data, .pinned], laidTests := true, laidLooks := .later }
def PartitionmapTranslatesUptoCardSaid : Prop := Claim7.holds Tryz.pinned (.plain (OpenSpec.upto partitionmapTranslatesSpec)) partitionmapTranslatesUptoCard

/-- THE SECOND FORM's CARD OF 'masterdisclaw37.PartitionmapOrder'. -/
def partitionmapOrderUptoCard : Claim7 := { stood := { row := partitionmapOrderUptoRow, standIns := [], harness := (true, "eafaa4f27f18969b5e16b3fb41725d0ee8a8d12fcbf0ad1b50cd6a37037311f2"), looks := false }, kinds := [], alts := [], laidByText := true, laidKinds := [.data, .pinned], laidTests := true, laidLooks := .later }
def PartitionmapOrderUptoCardSaid : Prop := Claim7.holds Tryz.pinned (.plain (OpenSpec.upto partitionmapOrderSpec)) partitionmapOrderUptoCard

/-- THE SECOND FORM's CARD OF 'masterdisclaw37.PartitionmapSpans'. -/
def partitionmapSpansUptoCard : Claim7 := { stood := { row := partitionmapSpansUptoRow, standIns := [], harness := (true, "eafaa4f27f18969b5e16b3fb41725d0ee8a8d12fcbf0ad1b50cd6a37037311f2"), looks := false }, kinds := [], alts := [], laidByText := true, laidKinds := [.data, .pinned], laidTests := true, laidLooks := .later }
def PartitionmapSpansUptoCardSaid : Prop := Claim7.holds Tryz.pinned (.plain (OpenSpec.upto partitionmapSpansSpec)) partitionmapSpansUptoCard
end Rows
end Go.Proofs.YtlcdhlfkffkifaaGreatDoor
