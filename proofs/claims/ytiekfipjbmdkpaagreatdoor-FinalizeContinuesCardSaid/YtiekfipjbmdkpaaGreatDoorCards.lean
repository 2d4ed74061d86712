/-
  DERIVED. GIVEN WITH THE SEED: THE CARDS: each row of YtiekfipjbmdkpaaGreatDoorRows.lean that lists a variable, with what it lists TIED to the program's text (the seventh form; the later family's looks); each row that meets fmt, with fmt's text TOLD by the authors' own Lean function (tested against real Go, not proved from fmt's source: count such statements apart). THE CARD IS WHAT COUNTS. Prove the row's statement (the work); the ties are given (YtiekfipjbmdkpaaGreatDoorTie.lean); close each card by the builder's one call (the guide's Derived/Test/ToyasCard.lean, 'card_holds'). Laid BY PROGRAM, IN A SANDBOX (cutbox-door.mjs). By AI agents, Wed Nov 11 2026. No macro, syntax, notation, axiom, sorry.
-/
import Derived.Test.YtiekfipjbmdkpaaGreatDoorRows
import GoSem.ClaimSeven
namespace Go.Proofs.YtiekfipjbmdkpaaGreatDoor
namespace Rows

/-- THE TIED CARD OF 'masterdisclaw55.FinalizeContinues'. -/
def finalizeContinuesCard : Claim7 := { stood := { row := finalizeContinuesRow, standIns := [], harness := (true, "f5bb327f42df3ff22137736a138e70f1c4df1c7a8613b2e4a49885d5bf894c02"), looks := false }, kinds := [], alts := [], laidByText := true, laidKinds := [.data, .pinned], laidTests := true, laidLooks := .later }
def FinalizeContinuesCardSaid : Prop := Claim7.holds Tryz.pinned (.plain (OpenSpec.ofChange finalizeContinuesSpec)) finalizeContinuesCard

/-- THE SECOND FORM's CARD OF 'masterdisclaw55.FinalizeContinues'. -/
def finalizeContinuesUptoCard : Claim7 := { stood := { row := finalizeContinuesUptoRow, standIns := [], harness := (true, "f5bb327f42df3ff22137736a138e70f1c4df1c7a8613b2e4a49885d5bf894c02"), looks := false }, kinds := [], alts := [], laidByText := true, laidKinds := [.data, .pinned], laidTests := true, laidLooks := .later }
def FinalizeContinuesUptoCardSaid : Prop := Claim7.holds Tryz.pinned (.plain (OpenSpec.upto finalizeContinuesSpec)) finalizeContinuesUptoCard
end Rows
end Go.Proofs.YtiekfipjbmdkpaaGreatDoor
