/-
  NARROWER THAN 'FOR EVERY INPUT', by the rows' own cells (each row's printed sentence says how): UdfstringCompresses: laid · UdfstringFields: laid · UdfstringReturns: laid · UdfstringFits: laid · UdfstringWidths: laid · UdfstringEntities: laid · UdfstringNames: laid.
  DERIVED. THE GIVEN ROWS OF THIS SEAT. 7 by the template 'for every input the law returns true; each argument reads behind the call as it read before'; 0 by the template 'total and deterministic' (their statements: YtfdlnhflgiemiaaDoorTotals.lean).
  GIVEN WITH THE SEED: the statements are not yours to turn. If you find one false, say at which input.
  Laid BY PROGRAM, IN A SANDBOX (cutbox-rows.mjs): the forced cells as the released guide's own fill.sh prints them over the translation 806319d8ec6a2ec8… (all of the seat's roots in one cut). By AI agents, Wed Nov 11 2026. No macro, syntax, notation, axiom, sorry.
-/
import Derived.Test.YtfdlnhflgiemiaaDoorChecked
import GoSem.PinnedTables
import GoSem.Claim
import GoSem.ClaimJoined
import GoSem.ClaimMapViews
import Derived.JoinedTies
import Derived.KernelRfl
namespace Go.Proofs.YtfdlnhflgiemiaaDoor
/- THE CELL 'sum', in the pinned program and in every row, IS THE sha256 OF THE DUMP (.gsa) THAT YtfdlnhflgiemiaaDoorProg.lean LOADS. Nothing in Lean hashes anything: it is a label: what it is worth is what the hold of that sum in a sandbox is worth. -/
noncomputable def Tryd.pinned : Pinned := { name := "ytfdlnhflgiemiaadoor", sum := "806319d8ec6a2ec8f33df939d06d8de098fb289e839f68b36d7ad29f0a62bdc9", checked := Tryd.checked }
namespace Rows
def none {H : Type} : Left H := { results := [], args := [] }

/- WHAT THE LISTED PACKAGE-LEVEL VARIABLES READ AS WHEN THE CALL BEGINS. Each datum BY PROGRAM (the guide's laid-datum.mjs) off the statement by which the dump's own 'gosem.cut.vars' lays the variable. In a bare row this is a premise. The card (YtfdlnhflgiemiaaDoorCards.lean) ties it to the program's text. -/
def laid_unicode_utf8_acceptRanges {H : Type} : DataW H := .agg [.agg [.lit (.int .u8 128), .lit (.int .u8 191)], .agg [.lit (.int .u8 160), .lit (.int .u8 191)], .agg [.lit (.int .u8 128), .lit (.int .u8 159)], .agg [.lit (.int .u8 144), .lit (.int .u8 191)], .agg [.lit (.int .u8 128), .lit (.int .u8 143)], .agg [.lit (.int .u8 0), .lit (.int .u8 0)], .agg [.lit (.int .u8 0), .lit (.int .u8 0)], .agg [.lit (.int .u8 0), .lit (.int .u8 0)], .agg [.lit (.int .u8 0), .lit (.int .u8 0)], .agg [.lit (.int .u8 0), .lit (.int .u8 0)], .agg [.lit (.int .u8 0), .lit (.int .u8 0)], .agg [.lit (.int .u8 0), .lit (.int .u8 0)], .agg [.lit (.int .u8 0), .lit (.int .u8 0)], .agg [.lit (.int .u8 0), .lit (.int .u8 0)], .agg [.lit (.int .u8 0), .lit (.int .u8 0)], .agg [.lit (.int .u8 0), .lit (.int .u8 0)]]
/-- One of Go's own tables, pinned by name: the form's constant. -/
def laid_unicode_utf8_first : DataW Unit := Go.Pinned.utf8First

/-- 'masterdisclaw32.UdfstringCompresses': WHATEVER THE INPUT: true; the input reads as it did. -/
def udfstringCompressesSpec : ChangeSpec := { name := "udfstringCompresses", fn := fun _ => fun
  | [d1, d2] => { results := [.lit (.bool true)], args := [d1, d2] }
  | _ => none }
def udfstringCompressesRow : OpenClaim := { program := "ytfdlnhflgiemiaadoor", sum := "806319d8ec6a2ec8f33df939d06d8de098fb289e839f68b36d7ad29f0a62bdc9", func := "masterdisc/masterdisclaw32.UdfstringCompresses", spec := "udfstringCompresses", inPlace := ["internal/abi.NoEscape", "internal/bytealg.MakeNoZero"], named := ["unicode/utf8.first", "unicode/utf8.acceptRanges"], apart := false, laid := [("unicode/utf8.acceptRanges", laid_unicode_utf8_acceptRanges), ("unicode/utf8.first", laid_unicode_utf8_first)] }
def UdfstringCompressesSaid : Prop := udfstringCompressesRow.holds Tryd.pinned (OpenSpec.ofChange udfstringCompressesSpec)

/-- ITS FALSE NEIGHBOUR: 'it returns false'. Refute it at one input. -/
def udfstringCompressesWrong : ChangeSpec := { name := "udfstringCompresses", fn := fun _ => fun
  | [d1, d2] => { results := [.lit (.bool false)], args := [d1, d2] }
  | _ => none }
def UdfstringCompressesWrongFalsely : Prop := udfstringCompressesRow.holds Tryd.pinned (OpenSpec.ofChange udfstringCompressesWrong)

/-- 'masterdisclaw32.UdfstringFields': WHATEVER THE INPUT: true; the input reads as it did. -/
def udfstringFieldsSpec : ChangeSpec := { name := "udfstringFields", fn := fun _ => fun
  | [d1, d2, d3] => { results := [.lit (.bool true)], args := [d1, d2, d3] }
  | _ => none }
def udfstringFieldsRow : OpenClaim := { program := "ytfdlnhflgiemiaadoor", sum := "806319d8ec6a2ec8f33df939d06d8de098fb289e839f68b36d7ad29f0a62bdc9", func := "masterdisc/masterdisclaw32.UdfstringFields", spec := "udfstringFields", inPlace := ["internal/abi.NoEscape", "internal/bytealg.MakeNoZero"], named := ["unicode/utf8.first", "unicode/utf8.acceptRanges"], apart := false, laid := [("unicode/utf8.acceptRanges", laid_unicode_utf8_acceptRanges), ("unicode/utf8.first", laid_unicode_utf8_first)] }
def UdfstringFieldsSaid : Prop := udfstringFieldsRow.holds Tryd.pinned (OpenSpec.ofChange udfstringFieldsSpec)

/-- ITS FALSE NEIGHBOUR: 'it returns false'. Refute it at one input. -/
def udfstringFieldsWrong : ChangeSpec := { name := "udfstringFields", fn := fun _ => fun
  | [d1, d2, d3] => { results := [.lit (.bool false)], args := [d1, d2, d3] }
  | _ => none }
def UdfstringFieldsWrongFalsely : Prop := udfstringFieldsRow.holds Tryd.pinned (OpenSpec.ofChange udfstringFieldsWrong)

/-- 'masterdisclaw32.UdfstringReturns': WHATEVER THE INPUT: true; the input reads as it did. -/
def udfstringReturnsSpec : ChangeSpec := { name := "udfstringReturns", fn := fun _ => fun
  | [d1, d2] => { results := [.lit (.bool true)], args := [d1, d2] }
  | _ => none }
def udfstringReturnsRow : OpenClaim := { program := "ytfdlnhflgiemiaadoor", sum := "806319d8ec6a2ec8f33df939d06d8de098fb289e839f68b36d7ad29f0a62bdc9", func := "masterdisc/masterdisclaw32.UdfstringReturns", spec := "udfstringReturns", inPlace := ["internal/abi.NoEscape", "internal/bytealg.MakeNoZero"], named := ["unicode/utf8.first", "unicode/utf8.acceptRanges"], apart := false, laid := [("unicode/utf8.acceptRanges", laid_unicode_utf8_acceptRanges), ("unicode/utf8.first", laid_unicode_utf8_first)] }
def UdfstringReturnsSaid : Prop := udfstringReturnsRow.holds Tryd.pinned (OpenSpec.ofChange udfstringReturnsSpec)

/-- ITS FALSE NEIGHBOUR: 'it returns false'. Refute it at one input. -/
def udfstringReturnsWrong : ChangeSpec := { name := "udfstringReturns", fn := fun _ => fun
  | [d1, d2] => { results := [.lit (.bool false)], args := [d1, d2] }
  | _ => none }
def UdfstringReturnsWrongFalsely : Prop := udfstringReturnsRow.holds Tryd.pinned (OpenSpec.ofChange udfstringReturnsWrong)

/-- 'masterdisclaw32.UdfstringFits': WHATEVER THE INPUT: true; the input reads as it did. -/
def udfstringFitsSpec : ChangeSpec := { name := "udfstringFits", fn := fun _ => fun
  | [d1, d2] => { results := [.lit (.bool true)], args := [d1, d2] }
  | _ => none }
def udfstringFitsRow : OpenClaim := { program := "ytfdlnhflgiemiaadoor", sum := "806319d8ec6a2ec8f33df939d06d8de098fb289e839f68b36d7ad29f0a62bdc9", func := "masterdisc/masterdisclaw32.UdfstringFits", spec := "udfstringFits", inPlace := ["internal/abi.NoEscape", "internal/bytealg.MakeNoZero"], named := ["unicode/utf8.first", "unicode/utf8.acceptRanges"], apart := false, laid := [("unicode/utf8.acceptRanges", laid_unicode_utf8_acceptRanges), ("unicode/utf8.first", laid_unicode_utf8_first)] }
def UdfstringFitsSaid : Prop := udfstringFitsRow.holds Tryd.pinned (OpenSpec.ofChange udfstringFitsSpec)

/-- ITS FALSE NEIGHBOUR: 'it returns false'. Refute it at one input. -/
def udfstringFitsWrong : ChangeSpec := { name := "udfstringFits", fn := fun _ => fun
  | [d1, d2] => { results := [.lit (.bool false)], args := [d1, d2] }
  | _ => none }
def UdfstringFitsWrongFalsely : Prop := udfstringFitsRow.holds Tryd.pinned (OpenSpec.ofChange udfstringFitsWrong)

/-- 'masterdisclaw32.UdfstringWidths': WHATEVER THE INPUT: true; the input reads as it did. -/
def udfstringWidthsSpec : ChangeSpec := { name := "udfstringWidths", fn := fun _ => fun
  | [d] => { results := [.lit (.bool true)], args := [d] }
  | _ => none }
def udfstringWidthsRow : OpenClaim := { program := "ytfdlnhflgiemiaadoor", sum := "806319d8ec6a2ec8f33df939d06d8de098fb289e839f68b36d7ad29f0a62bdc9", func := "masterdisc/masterdisclaw32.UdfstringWidths", spec := "udfstringWidths", inPlace := ["internal/abi.NoEscape", "internal/bytealg.MakeNoZero"], named := ["unicode/utf8.first", "unicode/utf8.acceptRanges"], apart := false, laid := [("unicode/utf8.acceptRanges", laid_unicode_utf8_acceptRanges), ("unicode/utf8.first", laid_unicode_utf8_first)] }
def UdfstringWidthsSaid : Prop := udfstringWidthsRow.holds Tryd.pinned (OpenSpec.ofChange udfstringWidthsSpec)

/-- ITS FALSE NEIGHBOUR: 'it returns false'. Refute it at one input. -/
def udfstringWidthsWrong : ChangeSpec := { name := "udfstringWidths", fn := fun _ => fun
  | [d] => { results := [.lit (.bool false)], args := [d] }
  | _ => none }
def UdfstringWidthsWrongFalsely : Prop := udfstringWidthsRow.holds Tryd.pinned (OpenSpec.ofChange udfstringWidthsWrong)

/-- 'masterdisclaw32.UdfstringEntities': WHATEVER THE INPUT: true; the input reads as it did. -/
def udfstringEntitiesSpec : ChangeSpec := { name := "udfstringEntities", fn := fun _ => fun
  | [d1, d2, d3] => { results := [.lit (.bool true)], args := [d1, d2, d3] }
  | _ => none }
def udfstringEntitiesRow : OpenClaim := { program := "ytfdlnhflgiemiaadoor", sum := "806319d8ec6a2ec8f33df939d06d8de098fb289e839f68b36d7ad29f0a62bdc9", func := "masterdisc/masterdisclaw32.UdfstringEntities", spec := "udfstringEntities", inPlace := ["internal/abi.NoEscape", "internal/bytealg.MakeNoZero", "internal/bytealg.IndexByteString", "internal/bytealg.IndexString"], unfollowed := true, recurses := true, named := ["unicode/utf8.first", "unicode/utf8.acceptRanges", "internal/bytealg.MaxLen"], apart := false, laid := [("unicode/utf8.acceptRanges", laid_unicode_utf8_acceptRanges), ("unicode/utf8.first", laid_unicode_utf8_first)] }
def UdfstringEntitiesSaid : Prop := udfstringEntitiesRow.holds Tryd.pinned (OpenSpec.ofChange udfstringEntitiesSpec)

/-- ITS FALSE NEIGHBOUR: 'it returns false'. Refute it at one input. -/
def udfstringEntitiesWrong : ChangeSpec := { name := "udfstringEntities", fn := fun _ => fun
  | [d1, d2, d3] => { results := [.lit (.bool false)], args := [d1, d2, d3] }
  | _ => none }
def UdfstringEntitiesWrongFalsely : Prop := udfstringEntitiesRow.holds Tryd.pinned (OpenSpec.ofChange udfstringEntitiesWrong)

/-- 'masterdisclaw32.UdfstringNames': WHATEVER THE INPUT: true; the input reads as it did. -/
def udfstringNamesSpec : ChangeSpec := { name := "udfstringNames", fn := fun _ => fun
  | [d1, d2, d3] => { results := [.lit (.bool true)], args := [d1, d2, d3] }
  | _ => none }
def udfstringNamesRow : OpenClaim := { program := "ytfdlnhflgiemiaadoor", sum := "806319d8ec6a2ec8f33df939d06d8de098fb289e839f68b36d7ad29f0a62bdc9", func := "masterdisc/masterdisclaw32.UdfstringNames", spec := "udfstringNames", inPlace := ["internal/abi.NoEscape", "internal/bytealg.MakeNoZero", "internal/bytealg.IndexByteString", "internal/bytealg.IndexString"], unfollowed := true, recurses := true, named := ["unicode/utf8.first", "unicode/utf8.acceptRanges", "internal/bytealg.MaxLen"], apart := false, laid := [("unicode/utf8.acceptRanges", laid_unicode_utf8_acceptRanges), ("unicode/utf8.first", laid_unicode_utf8_first)] }
def UdfstringNamesSaid : Prop := udfstringNamesRow.holds Tryd.pinned (OpenSpec.ofChange udfstringNamesSpec)

/-- ITS FALSE NEIGHBOUR: 'it returns false'. Refute it at one input. -/
def udfstringNamesWrong : ChangeSpec := { name := "udfstringNames", fn := fun _ => fun
  | [d1, d2, d3] => { results := [.lit (.bool false)], args := [d1, d2, d3] }
  | _ => none }
def UdfstringNamesWrongFalsely : Prop := udfstringNamesRow.holds Tryd.pinned (OpenSpec.ofChange udfstringNamesWrong)

/- THE SECOND FORM. 'bulk': how many values and letters a reading holds, each counted each time it is reached (what is shared counts as often as it is met; a slice's spare places count too). A statement '..UptoSaid' is the law's where the arguments, and the package variables that the reading takes, are together of bulk at most 1048576: NARROWER than '..Said'. Prove '..Said' where nothing that the law and all that it calls make is longer than what came in: it says more and counts as full. Else prove '..UptoSaid'. A law counts once. -/
mutual
def uptoBulk {H : Type} : DataW H → Nat
  | .lit (.string bytes) => bytes.length + 1
  | .lit _ => 1
  | .nil => 1
  | .ptr d => uptoBulk d + 1
  | .slice elems spare => uptoBulkAll elems + uptoBulkAll spare + 1
  | .agg parts => uptoBulkAll parts + 1
  | .iface _ d => uptoBulk d + 1
  | .map entries => uptoBulkEntries entries + 1
  | .held _ => 1
def uptoBulkAll {H : Type} : List (DataW H) → Nat
  | [] => 0
  | d :: r => uptoBulk d + uptoBulkAll r
def uptoBulkEntries {H : Type} : List (Lit × DataW H) → Nat
  | [] => 0
  | x :: r => uptoBulkEntry x + uptoBulkEntries r
def uptoBulkEntry {H : Type} : Lit × DataW H → Nat
  | (.string bytes, d) => bytes.length + uptoBulk d + 1
  | (_, d) => uptoBulk d + 1
 end
def uptoSmall : (H : Type) → List (DataW H) → Bool := fun _ ds => decide (uptoBulkAll ds ≤ 1048576)
def OpenSpec.upto (s : _root_.Go.ChangeSpec) : _root_.Go.OpenSpec := { _root_.Go.OpenSpec.ofChange s with cond := some uptoSmall }

/-- 'masterdisclaw32.UdfstringCompresses', WHERE WHAT IT READS IS OF BULK AT MOST 1048576: true; the input reads as it did. -/
def udfstringCompressesUptoRow : OpenClaim := { program := "ytfdlnhflgiemiaadoor", sum := "806319d8ec6a2ec8f33df939d06d8de098fb289e839f68b36d7ad29f0a62bdc9", func := "masterdisc/masterdisclaw32.UdfstringCompresses", spec := "udfstringCompresses", inPlace := ["internal/abi.NoEscape", "internal/bytealg.MakeNoZero"], named := ["unicode/utf8.first", "unicode/utf8.acceptRanges"], apart := false, laid := [("unicode/utf8.acceptRanges", laid_unicode_utf8_acceptRanges), ("unicode/utf8.first", laid_unicode_utf8_first)], narrowed := true }
def UdfstringCompressesUptoSaid : Prop := udfstringCompressesUptoRow.holds Tryd.pinned (OpenSpec.upto udfstringCompressesSpec)

/-- 'masterdisclaw32.UdfstringFields', WHERE WHAT IT READS IS OF BULK AT MOST 1048576: true; the input reads as it did. -/
def udfstringFieldsUptoRow : OpenClaim := { program := "ytfdlnhflgiemiaadoor", sum := "806319d8ec6a2ec8f33df939d06d8de098fb289e839f68b36d7ad29f0a62bdc9", func := "masterdisc/masterdisclaw32.UdfstringFields", spec := "udfstringFields", inPlace := ["internal/abi.NoEscape", "internal/bytealg.MakeNoZero"], named := ["unicode/utf8.first", "unicode/utf8.acceptRanges"], apart := false, laid := [("unicode/utf8.acceptRanges", laid_unicode_utf8_acceptRanges), ("unicode/utf8.first", laid_unicode_utf8_first)], narrowed := true }
def UdfstringFieldsUptoSaid : Prop := udfstringFieldsUptoRow.holds Tryd.pinned (OpenSpec.upto udfstringFieldsSpec)

/-- 'masterdisclaw32.UdfstringReturns', WHERE WHAT IT READS IS OF BULK AT MOST 1048576: true; the input reads as it did. -/
def udfstringReturnsUptoRow : OpenClaim := { program := "ytfdlnhflgiemiaadoor", sum := "806319d8ec6a2ec8f33df939d06d8de098fb289e839f68b36d7ad29f0a62bdc9", func := "masterdisc/masterdisclaw32.UdfstringReturns", spec := "udfstringReturns", inPlace := ["internal/abi.NoEscape", "internal/bytealg.MakeNoZero"], named := ["unicode/utf8.first", "unicode/utf8.acceptRanges"], apart := false, laid := [("unicode/utf8.acceptRanges", laid_unicode_utf8_acceptRanges), ("unicode/utf8.first", laid_unicode_utf8_first)], narrowed := true }
def UdfstringReturnsUptoSaid : Prop := udfstringReturnsUptoRow.holds Tryd.pinned (OpenSpec.upto udfstringReturnsSpec)

/-- 'masterdisclaw32.UdfstringFits', WHERE WHAT IT READS IS OF BULK AT MOST 1048576: true; the input reads as it did. -/
def udfstringFitsUptoRow : OpenClaim := { program := "ytfdlnhflgiemiaadoor", sum := "806319d8ec6a2ec8f33df939d06d8de098fb289e839f68b36d7ad29f0a62bdc9", func := "masterdisc/masterdisclaw32.UdfstringFits", spec := "udfstringFits", inPlace := ["internal/abi.NoEscape", "internal/bytealg.MakeNoZero"], named := ["unicode/utf8.first", "unicode/utf8.acceptRanges"], apart := false, laid := [("unicode/utf8.acceptRanges", laid_unicode_utf8_acceptRanges), ("unicode/utf8.first", laid_unicode_utf8_first)], narrowed := true }
def UdfstringFitsUptoSaid : Prop := udfstringFitsUptoRow.holds Tryd.pinned (OpenSpec.upto udfstringFitsSpec)

/-- 'masterdisclaw32.UdfstringWidths', WHERE WHAT IT READS IS OF BULK AT MOST 1048576: true; the input reads as it did. -/
def udfstringWidthsUptoRow : OpenClaim := { program := "ytfdlnhflgiemiaadoor", sum := "806319d8ec6a2ec8f33df939d06d8de098fb289e839f68b36d7ad29f0a62bdc9", func := "masterdisc/masterdisclaw32.UdfstringWidths", spec := "udfstringWidths", inPlace := ["internal/abi.NoEscape", "internal/bytealg.MakeNoZero"], named := ["unicode/utf8.first", "unicode/utf8.acceptRanges"], apart := false, laid := [("unicode/utf8.acceptRanges", laid_unicode_utf8_acceptRanges), ("unicode/utf8.first", laid_unicode_utf8_first)], narrowed := true }
def UdfstringWidthsUptoSaid : Prop := udfstringWidthsUptoRow.holds Tryd.pinned (OpenSpec.upto udfstringWidthsSpec)

/-- 'masterdisclaw32.UdfstringEntities', WHERE WHAT IT READS IS OF BULK AT MOST 1048576: true; the input reads as it did. -/
def udfstringEntitiesUptoRow : OpenClaim := { program := "ytfdlnhflgiemiaadoor", sum := "806319d8ec6a2ec8f33df939d06d8de098fb289e839f68b36d7ad29f0a62bdc9", func := "masterdisc/masterdisclaw32.UdfstringEntities", spec := "udfstringEntities", inPlace := ["internal/abi.NoEscape", "internal/bytealg.MakeNoZero", "internal/bytealg.IndexByteString", "internal/bytealg.IndexString"], unfollowed := true, recurses := true, named := ["unicode/utf8.first", "unicode/utf8.acceptRanges", "internal/bytealg.MaxLen"], apart := false, laid := [("unicode/utf8.acceptRanges", laid_unicode_utf8_acceptRanges), ("unicode/utf8.first", laid_unicode_utf8_first)], narrowed := true }
def UdfstringEntitiesUptoSaid : Prop := udfstringEntitiesUptoRow.holds Tryd.pinned (OpenSpec.upto udfstringEntitiesSpec)

/-- 'masterdisclaw32.UdfstringNames', WHERE WHAT IT READS IS OF BULK AT MOST 1048576: true; the input reads as it did. -/
def udfstringNamesUptoRow : OpenClaim := { program := "ytfdlnhflgiemiaadoor", sum := "806319d8ec6a2ec8f33df939d06d8de098fb289e839f68b36d7ad29f0a62bdc9", func := "masterdisc/masterdisclaw32.UdfstringNames", spec := "udfstringNames", inPlace := ["internal/abi.NoEscape", "internal/bytealg.MakeNoZero", "internal/bytealg.IndexByteString", "internal/bytealg.IndexString"], unfollowed := true, recurses := true, named := ["unicode/utf8.first", "unicode/utf8.acceptRanges", "internal/bytealg.MaxLen"], apart := false, laid := [("unicode/utf8.acceptRanges", laid_unicode_utf8_acceptRanges), ("unicode/utf8.first", laid_unicode_utf8_first)], narrowed := true }
def UdfstringNamesUptoSaid : Prop := udfstringNamesUptoRow.holds Tryd.pinned (OpenSpec.upto udfstringNamesSpec)

end Rows
end Go.Proofs.YtfdlnhflgiemiaaDoor
