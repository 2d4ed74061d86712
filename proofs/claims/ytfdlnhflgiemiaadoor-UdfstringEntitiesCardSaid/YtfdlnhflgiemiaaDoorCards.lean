/-
  DERIVED. GIVEN WITH THE SEED: THE CARDS: each row of YtfdlnhflgiemiaaDoorRows.lean that lists a variable, with what it lists TIED to the program's text (the seventh form; the later family's looks); each row that meets fmt, with fmt's text TOLD by the authors' own Lean function (tested against real Go, not proved from fmt's source: count such statements apart). THE CARD IS WHAT COUNTS. Prove the row's statement (the work); the ties are given (YtfdlnhflgiemiaaDoorTie.lean); close each card by the builder's one call (the guide's Derived/Test/ToyasCard.lean, 'card_holds'). Laid BY PROGRAM, IN A SANDBOX (cutbox-door.mjs). By AI agents, Wed Nov 11 2026. No macro, syntax, notation, axiom, sorry.
-/
import Derived.Test.YtfdlnhflgiemiaaDoorRows
import GoSem.ClaimSeven
namespace Go.Proofs.YtfdlnhflgiemiaaDoor
namespace Rows

/-- THE TIED CARD OF 'masterdisclaw32.UdfstringCompresses'. -/
def udfstringCompressesCard : Claim7 := { stood := { row := udfstringCompressesRow, standIns := [], harness := (true, "aa1c11ca117000862cf9da64e521508463ceb0f27c43847a7dcf6b95dc65bf88"), looks := false }, kinds := [], alts := [], laidByText := true, laidKinds := [.data, .pinned], laidTests := true, laidLooks := .later }
def UdfstringCompressesCardSaid : Prop := Claim7.holds Tryd.pinned (.plain (OpenSpec.ofChange udfstringCompressesSpec)) udfstringCompressesCard

/-- THE TIED CARD OF 'masterdisclaw32.UdfstringFields'. -/
def udfstringFieldsCard : Claim7 := { stood := { row := udfstringFieldsRow, standIns := [], harness := (true, "aa1c11ca117000862cf9da64e521508463ceb0f27c43847a7dcf6b95dc65bf88"), looks := false }, kinds := [], alts := [], laidByText := true, laidKinds := [.data, .pinned], laidTests := true, laidLooks := .later }
def UdfstringFieldsCardSaid : Prop := Claim7.holds Tryd.pinned (.plain (OpenSpec.ofChange udfstringFieldsSpec)) udfstringFieldsCard

/-- THE TIED CARD OF 'masterdisclaw32.UdfstringReturns'. -/
def udfstringReturnsCard : Claim7 := { stood := { row := udfstringReturnsRow, standIns := [], harness := (true, "aa1c11ca117000862cf9da64e521508463ceb0f27c43847a7dcf6b95dc65bf88"), looks := false }, kinds := [], alts := [], laidByText := true, laidKinds := [.data, .pinned], laidTests := true, laidLooks := .later }
def UdfstringReturnsCardSaid : Prop := Claim7.holds Tryd.pinned (.plain (OpenSpec.ofChange udfstringReturnsSpec)) udfstringReturnsCard

/-- THE TIED CARD OF 'masterdisclaw32.UdfstringFits'. -/
def udfstringFitsCard : Claim7 := { stood := { row := udfstringFitsRow, standIns := [], harness := (true, "aa1c11ca117000862cf9da64e521508463ceb0f27c43847a7dcf6b95dc65bf88"), looks := false }, kinds := [], alts := [], laidByText := true, laidKinds := [.data, .pinned], laidTests := true, laidLooks := .later }
def UdfstringFitsCardSaid : Prop := Claim7.holds Tryd.pinned (.plain (OpenSpec.ofChange udfstringFitsSpec)) udfstringFitsCard

/-- THE TIED CARD OF 'masterdisclaw32.UdfstringWidths'. -/
def udfstringWidthsCard : Claim7 := { stood := { row := udfstringWidthsRow, standIns := [], harness := (true, "aa1c11ca117000862cf9da64e521508463ceb0f27c43847a7dcf6b95dc65bf88"), looks := false }, kinds := [], alts := [], laidByText := true, laidKinds := [.data, .pinned], laidTests := true, laidLooks := .later }
def UdfstringWidthsCardSaid : Prop := Claim7.holds Tryd.pinned (.plain (OpenSpec.ofChange udfstringWidthsSpec)) udfstringWidthsCard

/-- THE TIED CARD OF 'masterdisclaw32.UdfstringEntities'. -/
def udfstringEntitiesCard : Claim7 := { stood := { row := udfstringEntitiesRow, standIns := [], harness := (true, "aa1c11ca117000862cf9da64e521508463ceb0f27c43847a7dcf6b95dc65bf88"), looks := false }, kinds := [], alts := [], laidByText := true, laidKinds := [.data, .pinned], laidTests := true, laidLooks := .later }
def UdfstringEntitiesCardSaid : Prop := Claim7.holds Tryd.pinned (.plain (OpenSpec.ofChange udfstringEntitiesSpec)) udfstringEntitiesCard

/-- THE TIED CARD OF 'masterdisclaw32.UdfstringNames'. -/
def udfstringNamesCard : Claim7 := { stood := { row := udfstringNamesRow, standIns := [], harness := (true, "aa1c11ca117000862cf9da64e521508463ceb0f27c43847a7dcf6b95dc65bf88"), looks := false }, kinds := [], alts := [], laidByText := true, laidKinds := [.data, .pinned], laidTests := true, laidLooks := .later }
def UdfstringNamesCardSaid : Prop := Claim7.holds Tryd.pinned (.plain (OpenSpec.ofChange udfstringNamesSpec)) udfstringNamesCard

/-- THE SECOND FORM's CARD OF 'masterdisclaw32.UdfstringCompresses'. -/
def udfstringCompressesUptoCard : Claim7 := { stood := { row := udfstringCompressesUptoRow, standIns := [], harness := (true, "aa1c11ca117000862cf9da64e521508463ceb0f27c43847a7dcf6b95dc65bf88"), looks := false }, kinds := [], alts := [], laidByText := true, laidKinds := [.data, .pinned], laidTests := true, laidLooks := .later }
def UdfstringCompressesUptoCardSaid : Prop := Claim7.holds Tryd.pinned (.plain (OpenSpec.upto udfstringCompressesSpec)) udfstringCompressesUptoCard

/-- THE SECOND FORM's CARD OF 'masterdisclaw32.UdfstringFields'. -/
def udfstringFieldsUptoCard : Claim7 := { stood := { row := udfstringFieldsUptoRow, standIns := [], harness := (true, "aa1c11ca117000862cf9da64e521508463ceb0f27c43847a7dcf6b95dc65bf88"), looks := false }, kinds := [], alts := [], laidByText := true, laidKinds := [.data, .pinned], laidTests := true, laidLooks := .later }
def UdfstringFieldsUptoCardSaid : Prop := Claim7.holds Tryd.pinned (.plain (OpenSpec.upto udfstringFieldsSpec)) udfstringFieldsUptoCard

/-- THE SECOND FORM's CARD OF 'masterdisclaw32.UdfstringReturns'. -/
def udfstringReturnsUptoCard : Claim7 := { stood := { row := udfstringReturnsUptoRow, standIns := [], harness := (true, "aa1c11ca117000862cf9da64e521508463ceb0f27c43847a7dcf6b95dc65bf88"), looks := false }, kinds := [], alts := [], laidByText := true, laidKinds := [.data, .pinned], laidTests := true, laidLooks := .later }
def UdfstringReturnsUptoCardSaid : Prop := Claim7.holds Tryd.pinned (.plain (OpenSpec.upto udfstringReturnsSpec)) udfstringReturnsUptoCard

/-- THE SECOND FORM's CARD OF 'masterdisclaw32.UdfstringFits'. -/
def udfstringFitsUptoCard : Claim7 := { stood := { row := udfstringFitsUptoRow, standIns := [], harness := (true, "aa1c11ca117000862cf9da64e521508463ceb0f27c43847a7dcf6b95dc65bf88"), looks := false }, kinds := [], alts := [], laidByText := true, laidKinds := [.data, .pinned], laidTests := true, laidLooks := .later }
def UdfstringFitsUptoCardSaid : Prop := Claim7.holds Tryd.pinned (.plain (OpenSpec.upto udfstringFitsSpec)) udfstringFitsUptoCard

/-- THE SECOND FORM's CARD OF 'masterdisclaw32.UdfstringWidths'. -/
def udfstringWidthsUptoCard : Claim7 := { stood := { row := udfstringWidthsUptoRow, standIns := [], harness := (true, "aa1c11ca117000862cf9da64e521508463ceb0f27c43847a7dcf6b95dc65bf88"), looks := false }, kinds := [], alts := [], laidByText := true, laidKinds := [.data, .pinned], laidTests := true, laidLooks := .later }
def UdfstringWidthsUptoCardSaid : Prop := Claim7.holds Tryd.pinned (.plain (OpenSpec.upto udfstringWidthsSpec)) udfstringWidthsUptoCard

/-- THE SECOND FORM's CARD OF 'masterdisclaw32.UdfstringEntities'. -/
def udfstringEntitiesUptoCard : Claim7 := { stood := { row := udfstringEntitiesUptoRow, standIns := [], harness := (true, "aa1c11ca117000862cf9da64e521508463ceb0f27c43847a7dcf6b95dc65bf88"), looks := false }, kinds := [], alts := [], laidByText := true, laidKinds := [.data, .pinned], laidTests := true, laidLooks := .later }
def UdfstringEntitiesUptoCardSaid : Prop := Claim7.holds Tryd.pinned (.plain (OpenSpec.upto udfstringEntitiesSpec)) udfstringEntitiesUptoCard

/-- THE SECOND FORM's CARD OF 'masterdisclaw32.UdfstringNames'. -/
def udfstringNamesUptoCard : Claim7 := { stood := { row := udfstringNamesUptoRow, standIns := [], harness := (true, "aa1c11ca117000862cf9da64e521508463ceb0f27c43847a7dcf6b95dc65bf88"), looks := false }, kinds := [], alts := [], laidByText := true, laidKinds := [.data, .pinned], laidTests := true, laidLooks := .later }
def UdfstringNamesUptoCardSaid : Prop := Claim7.holds Tryd.pinned (.plain (OpenSpec.upto udfstringNamesSpec)) udfstringNamesUptoCard
end Rows
end Go.Proofs.YtfdlnhflgiemiaaDoor
