/-
  DERIVED. GIVEN WITH THE SEED: THE CARDS: each row of YtlhechlbmbjffaaDoorRows.lean that lists a variable, with what it lists TIED to the program's text (the seventh form; the later family's looks); each row that meets fmt, with fmt's text TOLD by the authors' own Lean function (tested against real Go, not proved from fmt's source: count such statements apart). THE CARD IS WHAT COUNTS. Prove the row's statement (the work); the ties are given (YtlhechlbmbjffaaDoorTie.lean); close each card by the builder's one call (the guide's Derived/Test/ToyasCard.lean, 'card_holds'). Laid BY PROGRAM, IN A SANDBOX (cutbox-door.mjs). By AI agents, Wed Nov 11 2026. No macro, syntax, notation, axiom, sorry.
-/
import Derived.Test.YtlhechlbmbjffaaDoorRows
import GoSem.ClaimSeven
namespace Go.Proofs.YtlhechlbmbjffaaDoor
namespace Rows

/-- THE TIED CARD OF 'masterdisclaw56.LossmapRanges'. -/
def lossmapRangesCard : Claim7 := { stood := { row := lossmapRangesRow, standIns := [], harness := (true, "48c115ed4ebd84974bb5ab3adff808e86d6f5bc2c026b4729379f07785cacf48"), looks := false }, kinds := [], alts := [], laidByText := true, laidKinds := [.data, .data, .data], laidTests := true, laidLooks := .later }
def LossmapRangesCardSaid : Prop := Claim7.holds Tryd.pinned (.plain (OpenSpec.ofChange lossmapRangesSpec)) lossmapRangesCard

/-- THE TIED CARD OF 'masterdisclaw56.LossmapBytes'. -/
def lossmapBytesCard : Claim7 := { stood := { row := lossmapBytesRow, standIns := [], harness := (true, "48c115ed4ebd84974bb5ab3adff808e86d6f5bc2c026b4729379f07785cacf48"), looks := false }, kinds := [], alts := [], laidByText := true, laidKinds := [.data, .data, .data], laidTests := true, laidLooks := .later }
def LossmapBytesCardSaid : Prop := Claim7.holds Tryd.pinned (.plain (OpenSpec.ofChange lossmapBytesSpec)) lossmapBytesCard

/-- THE TIED CARD OF 'masterdisclaw56.LossmapMore'. -/
def lossmapMoreCard : Claim7 := { stood := { row := lossmapMoreRow, standIns := [], harness := (true, "48c115ed4ebd84974bb5ab3adff808e86d6f5bc2c026b4729379f07785cacf48"), looks := false }, kinds := [], alts := [], laidByText := true, laidKinds := [.data, .data, .data], laidTests := true, laidLooks := .later }
def LossmapMoreCardSaid : Prop := Claim7.holds Tryd.pinned (.plain (OpenSpec.ofChange lossmapMoreSpec)) lossmapMoreCard

/-- THE TIED CARD OF 'masterdisclaw56.LossmapCombines'. -/
def lossmapCombinesCard : Claim7 := { stood := { row := lossmapCombinesRow, standIns := [], harness := (true, "48c115ed4ebd84974bb5ab3adff808e86d6f5bc2c026b4729379f07785cacf48"), looks := false }, kinds := [], alts := [], laidByText := true, laidKinds := [.data, .data, .data], laidTests := true, laidLooks := .later }
def LossmapCombinesCardSaid : Prop := Claim7.holds Tryd.pinned (.plain (OpenSpec.ofChange lossmapCombinesSpec)) lossmapCombinesCard

/-- THE SECOND FORM's CARD OF 'masterdisclaw56.LossmapRanges'. -/
def lossmapRangesUptoCard : Claim7 := { stood := { row := lossmapRangesUptoRow, standIns := [], harness := (true, "48c115ed4ebd84974bb5ab3adff808e86d6f5bc2c026b4729379f07785cacf48"), looks := false }, kinds := [], alts := [], laidByText := true, laidKinds := [.data, .data, .data], laidTests := true, laidLooks := .later }
def LossmapRangesUptoCardSaid : Prop := Claim7.holds Tryd.pinned (.plain (OpenSpec.upto lossmapRangesSpec)) lossmapRangesUptoCard

/-- THE SECOND FORM's CARD OF 'masterdisclaw56.LossmapBytes'. -/
def lossmapBytesUptoCard : Claim7 := { stood := { row := lossmapBytesUptoRow, standIns := [], harness := (true, "48c115ed4ebd84974bb5ab3adff808e86d6f5bc2c026b4729379f07785cacf48"), looks := false }, kinds := [], alts := [], laidByText := true, laidKinds := [.data, .data, .data], laidTests := true, laidLooks := .later }
def LossmapBytesUptoCardSaid : Prop := Claim7.holds Tryd.pinned (.plain (OpenSpec.upto lossmapBytesSpec)) lossmapBytesUptoCard

/-- THE SECOND FORM's CARD OF 'masterdisclaw56.LossmapMore'. -/
def lossmapMoreUptoCard : Claim7 := { stood := { row := lossmapMoreUptoRow, standIns := [], harness := (true, "48c115ed4ebd84974bb5ab3adff808e86d6f5bc2c026b4729379f07785cacf48"), looks := false }, kinds := [], alts := [], laidByText := true, laidKinds := [.data, .data, .data], laidTests := true, laidLooks := .later }
def LossmapMoreUptoCardSaid : Prop := Claim7.holds Tryd.pinned (.plain (OpenSpec.upto lossmapMoreSpec)) lossmapMoreUptoCard

/-- THE SECOND FORM's CARD OF 'masterdisclaw56.LossmapCombines'. -/
def lossmapCombinesUptoCard : Claim7 := { stood := { row := lossmapCombinesUptoRow, standIns := [], harness := (true, "48c115ed4ebd84974bb5ab3adff808e86d6f5bc2c026b4729379f07785cacf48"), looks := false }, kinds := [], alts := [], laidByText := true, laidKinds := [.data, .data, .data], laidTests := true, laidLooks := .later }
def LossmapCombinesUptoCardSaid : Prop := Claim7.holds Tryd.pinned (.plain (OpenSpec.upto lossmapCombinesSpec)) lossmapCombinesUptoCard
end Rows
end Go.Proofs.YtlhechlbmbjffaaDoor
