/-
  NARROWER THAN 'FOR EVERY INPUT', by the rows' own cells (each row's printed sentence says how): PartitionmapEncodes: laid · PartitionmapDecodes: laid · PartitionmapKinds: laid · PartitionmapTranslates: laid · PartitionmapOrder: laid · PartitionmapSpans: laid.
  DERIVED. THE GIVEN ROWS OF THIS SEAT. 6 by the template 'for every input the law returns true; each argument reads behind the call as it read before'; 0 by the template 'total and deterministic' (their statements: YtlcdhlfkffkifaaGreatDoorTotals.lean).
  GIVEN WITH THE SEED: the statements are not yours to turn. If you find one false, say at which input.
  Laid BY PROGRAM, IN A SANDBOX (cutbox-rows.mjs): the forced cells as the released guide's own fill.sh prints them over the translation 9ad115bb5367f428… (all of the seat's roots in one cut). By AI agents, Wed Nov 11 2026. No macro, syntax, notation, axiom, sorry.
-/
import Derived.Test.YtlcdhlfkffkifaaGreatDoorChecked
import GoSem.PinnedTables
import GoSem.Claim
import GoSem.ClaimJoined
import GoSem.ClaimMapViews
import Derived.JoinedTies
import Derived.KernelRfl
namespace Go.Proofs.YtlcdhlfkffkifaaGreatDoor
/- THE CELL 'sum', in the pinned program and in every row, IS THE sha256 OF THE DUMP (.gsa) THAT YtlcdhlfkffkifaaGreatDoorProg.lean LOADS. Nothing in Lean hashes anything: it is a label: what it is worth is what the hold of that sum in a sandbox is worth. -/
noncomputable def Tryz.pinned : Pinned := { name := "ytlcdhlfkffkifaagreatdoor", sum := "9ad115bb5367f4280aeeba5296f33da5e51490aef6252cc4739343879671838f", checked := Tryz.checked }
namespace Rows
def none {H : Type} : Left H := { results := [], args := [] }

/- WHAT THE LISTED PACKAGE-LEVEL VARIABLES READ AS WHEN THE CALL BEGINS. Each datum BY PROGRAM (the guide's laid-datum.mjs) off the statement by which the dump's own 'gosem.cut.vars' lays the variable. In a bare row this is a premise. The card (YtlcdhlfkffkifaaGreatDoorCards.lean) ties it to the program's text. -/
def laid_unicode_utf8_acceptRanges {H : Type} : DataW H := .agg [.agg [.lit (.int .u8 128), .lit (.int .u8 191)], .agg [.lit (.int .u8 160), .lit (.int .u8 191)], .agg [.lit (.int .u8 128), .lit (.int .u8 159)], .agg [.lit (.int .u8 144), .lit (.int .u8 191)], .agg [.lit (.int .u8 128), .lit (.int .u8 143)], .agg [.lit (.int .u8 0), .lit (.int .u8 0)], .agg [.lit (.int .u8 0), .lit (.int .u8 0)], .agg [.lit (.int .u8 0), .lit (.int .u8 0)], .agg [.lit (.int .u8 0), .lit (.int .u8 0)], .agg [.lit (.int .u8 0), .lit (.int .u8 0)], .agg [.lit (.int .u8 0), .lit (.int .u8 0)], .agg [.lit (.int .u8 0), .lit (.int .u8 0)], .agg [.lit (.int .u8 0), .lit (.int .u8 0)], .agg [.lit (.int .u8 0), .lit (.int .u8 0)], .agg [.lit (.int .u8 0), .lit (.int .u8 0)], .agg [.lit (.int .u8 0), .lit (.int .u8 0)]]
/-- One of Go's own tables, pinned by name: the form's constant. -/
def laid_unicode_utf8_first : DataW Unit := Go.Pinned.utf8First

/-- 'masterdisclaw37.PartitionmapEncodes': WHATEVER THE INPUT: true; the input reads as it did. -/
def partitionmapEncodesSpec : ChangeSpec := { name := "partitionmapEncodes", fn := fun _ => fun
  | [d] => { results := [.lit (.bool true)], args := [d] }
  | _ => none }
def partitionmapEncodesRow : OpenClaim := { program := "ytlcdhlfkffkifaagreatdoor", sum := "9ad115bb5367f4280aeeba5296f33da5e51490aef6252cc4739343879671838f", func := "masterdisc/masterdisclaw37.PartitionmapEncodes", spec := "partitionmapEncodes", inPlace := ["internal/abi.NoEscape", "internal/bytealg.MakeNoZero", "internal/bytealg.IndexByteString", "internal/bytealg.IndexString"], unfollowed := true, recurses := true, named := ["internal/bytealg.MaxLen", "unicode/utf8.first", "unicode/utf8.acceptRanges"], apart := false, laid := [("unicode/utf8.acceptRanges", laid_unicode_utf8_acceptRanges), ("unicode/utf8.first", laid_unicode_utf8_first)] }
def PartitionmapEncodesSaid : Prop := partitionmapEncodesRow.holds Tryz.pinned (OpenSpec.ofChange partitionmapEncodesSpec)

/-- ITS FALSE NEIGHBOUR: 'it returns false'. Refute it at one input. -/
def partitionmapEncodesWrong : ChangeSpec := { name := "partitionmapEncodes", fn := fun _ => fun
  | [d] => { results := [.lit (.bool false)], args := [d] }
  | _ => none }
def PartitionmapEncodesWrongFalsely : Prop := partitionmapEncodesRow.holds Tryz.pinned (OpenSpec.ofChange partitionmapEncodesWrong)

/-- 'masterdisclaw37.PartitionmapDecodes': WHATEVER THE INPUT: true; the input reads as it did. -/
def partitionmapDecodesSpec : ChangeSpec := { name := "partitionmapDecodes", fn := fun _ => fun
  | [d1, d2] => { results := [.lit (.bool true)], args := [d1, d2] }
  | _ => none }
def partitionmapDecodesRow : OpenClaim := { program := "ytlcdhlfkffkifaagreatdoor", sum := "9ad115bb5367f4280aeeba5296f33da5e51490aef6252cc4739343879671838f", func := "masterdisc/masterdisclaw37.PartitionmapDecodes", spec := "partitionmapDecodes", inPlace := ["internal/abi.NoEscape", "internal/bytealg.MakeNoZero", "internal/bytealg.IndexByteString", "internal/bytealg.IndexString"], unfollowed := true, recurses := true, named := ["internal/bytealg.MaxLen", "unicode/utf8.first", "unicode/utf8.acceptRanges"], apart := false, laid := [("unicode/utf8.acceptRanges", laid_unicode_utf8_acceptRanges), ("unicode/utf8.first", laid_unicode_utf8_first)] }
def PartitionmapDecodesSaid : Prop := partitionmapDecodesRow.holds Tryz.pinned (OpenSpec.ofChange partitionmapDecodesSpec)

/-- ITS FALSE NEIGHBOUR: 'it returns false'. Refute it at one input. -/
def partitionmapDecodesWrong : ChangeSpec := { name := "partitionmapDecodes", fn := fun _ => fun
  | [d1, d2] => { results := [.lit (.bool false)], args := [d1, d2] }
  | _ => none }
def PartitionmapDecodesWrongFalsely : Prop := partitionmapDecodesRow.holds Tryz.pinned (OpenSpec.ofChange partitionmapDecodesWrong)

/-- 'masterdisclaw37.PartitionmapKinds': WHATEVER THE INPUT: true; the input reads as it did. -/
def partitionmapKindsSpec : ChangeSpec := { name := "partitionmapKinds", fn := fun _ => fun
  | [d1, d2, d3, d4, d5, d6] => { results := [.lit (.bool true)], args := [d1, d2, d3, d4, d5, d6] }
  | _ => none }
def partitionmapKindsRow : OpenClaim := { program := "ytlcdhlfkffkifaagreatdoor", sum := "9ad115bb5367f4280aeeba5296f33da5e51490aef6252cc4739343879671838f", func := "masterdisc/masterdisclaw37.PartitionmapKinds", spec := "partitionmapKinds", inPlace := ["internal/abi.NoEscape", "internal/bytealg.MakeNoZero", "internal/bytealg.IndexByteString", "internal/bytealg.IndexString"], unfollowed := true, recurses := true, named := ["internal/bytealg.MaxLen", "unicode/utf8.first", "unicode/utf8.acceptRanges"], apart := false, laid := [("unicode/utf8.acceptRanges", laid_unicode_utf8_acceptRanges), ("unicode/utf8.first", laid_unicode_utf8_first)] }
def PartitionmapKindsSaid : Prop := partitionmapKindsRow.holds Tryz.pinned (OpenSpec.ofChange partitionmapKindsSpec)

/-- ITS FALSE NEIGHBOUR: 'it returns false'. Refute it at one input. -/
def partitionmapKindsWrong : ChangeSpec := { name := "partitionmapKinds", fn := fun _ => fun
  | [d1, d2, d3, d4, d5, d6] => { results := [.lit (.bool false)], args := [d1, d2, d3, d4, d5, d6] }
  | _ => none }
def PartitionmapKindsWrongFalsely : Prop := partitionmapKindsRow.holds Tryz.pinned (OpenSpec.ofChange partitionmapKindsWrong)

/-- 'masterdisclaw37.PartitionmapTranslates': WHATEVER THE INPUT: true; the input reads as it did. -/
def partitionmapTranslatesSpec : ChangeSpec := { name := "partitionmapTranslates", fn := fun _ => fun
  | [d1, d2] => { results := [.lit (.bool true)], args := [d1, d2] }
  | _ => none }
def partitionmapTranslatesRow : OpenClaim := { program := "ytlcdhlfkffkifaagreatdoor", sum := "9ad115bb5367f4280aeeba5296f33da5e51490aef6252cc4739343879671838f", func := "masterdisc/masterdisclaw37.PartitionmapTranslates", spec := "partitionmapTranslates", inPlace := ["internal/abi.NoEscape", "internal/bytealg.MakeNoZero", "internal/bytealg.IndexByteString", "internal/bytealg.IndexString"], unfollowed := true, recurses := true, named := ["internal/bytealg.MaxLen", "unicode/utf8.first", "unicode/utf8.acceptRanges"], apart := false, laid := [("unicode/utf8.acceptRanges", laid_unicode_utf8_acceptRanges), ("unicode/utf8.first", laid_unicode_utf8_first)] }
def PartitionmapTranslatesSaid : Prop := partitionmapTranslatesRow.holds Tryz.pinned (OpenSpec.ofChange partitionmapTranslatesSpec)

/-- ITS FALSE NEIGHBOUR: 'it returns false'. Refute it at one input. -/
def partitionmapTranslatesWrong : ChangeSpec := { name := "partitionmapTranslates", fn := fun _ => fun
  | [d1, d2] => { results := [.lit (.bool false)], args := [d1, d2] }
  | _ => none }
def PartitionmapTranslatesWrongFalsely : Prop := partitionmapTranslatesRow.holds Tryz.pinned (OpenSpec.ofChange partitionmapTranslatesWrong)

/-- 'masterdisclaw37.PartitionmapOrder': WHATEVER THE INPUT: true; the input reads as it did. -/
def partitionmapOrderSpec : ChangeSpec := { name := "partitionmapOrder", fn := fun _ => fun
  | [d1, d2] => { results := [.lit (.bool true)], args := [d1, d2] }
  | _ => none }
def partitionmapOrderRow : OpenClaim := { program := "ytlcdhlfkffkifaagreatdoor", sum := "9ad115bb5367f4280aeeba5296f33da5e51490aef6252cc4739343879671838f", func := "masterdisc/masterdisclaw37.PartitionmapOrder", spec := "partitionmapOrder", inPlace := ["internal/abi.NoEscape", "internal/bytealg.MakeNoZero", "internal/bytealg.IndexByteString", "internal/bytealg.IndexString"], unfollowed := true, recurses := true, named := ["internal/bytealg.MaxLen", "unicode/utf8.first", "unicode/utf8.acceptRanges"], apart := false, laid := [("unicode/utf8.acceptRanges", laid_unicode_utf8_acceptRanges), ("unicode/utf8.first", laid_unicode_utf8_first)] }
def PartitionmapOrderSaid : Prop := partitionmapOrderRow.holds Tryz.pinned (OpenSpec.ofChange partitionmapOrderSpec)

/-- ITS FALSE NEIGHBOUR: 'it returns false'. Refute it at one input. -/
def partitionmapOrderWrong : ChangeSpec := { name := "partitionmapOrder", fn := fun _ => fun
  | [d1, d2] => { results := [.lit (.bool false)], args := [d1, d2] }
  | _ => none }
def PartitionmapOrderWrongFalsely : Prop := partitionmapOrderRow.holds Tryz.pinned (OpenSpec.ofChange partitionmapOrderWrong)

/-- 'masterdisclaw37.PartitionmapSpans': WHATEVER THE INPUT: true; the input reads as it did. -/
def partitionmapSpansSpec : ChangeSpec := { name := "partitionmapSpans", fn := fun _ => fun
  | [d1, d2] => { results := [.lit (.bool true)], args := [d1, d2] }
  | _ => none }
def partitionmapSpansRow : OpenClaim := { program := "ytlcdhlfkffkifaagreatdoor", sum := "9ad115bb5367f4280aeeba5296f33da5e51490aef6252cc4739343879671838f", func := "masterdisc/masterdisclaw37.PartitionmapSpans", spec := "partitionmapSpans", inPlace := ["internal/abi.NoEscape", "internal/bytealg.MakeNoZero", "internal/bytealg.IndexByteString", "internal/bytealg.IndexString"], unfollowed := true, recurses := true, named := ["internal/bytealg.MaxLen", "unicode/utf8.first", "unicode/utf8.acceptRanges"], apart := false, laid := [("unicode/utf8.acceptRanges", laid_unicode_utf8_acceptRanges), ("unicode/utf8.first", laid_unicode_utf8_first)] }
def PartitionmapSpansSaid : Prop := partitionmapSpansRow.holds Tryz.pinned (OpenSpec.ofChange partitionmapSpansSpec)

/-- ITS FALSE NEIGHBOUR: 'it returns false'. Refute it at one input. -/
def partitionmapSpansWrong : ChangeSpec := { name := "partitionmapSpans", fn := fun _ => fun
  | [d1, d2] => { results := [.lit (.bool false)], args := [d1, d2] }
  | _ => none }
def PartitionmapSpansWrongFalsely : Prop := partitionmapSpansRow.holds Tryz.pinned (OpenSpec.ofChange partitionmapSpansWrong)

/- THE SECOND FORM. 'bulk': how many values and letters a reading holds, each counted each time it is reached (what is shared counts as often as it is met; a slice's spare places count too). A statement '..UptoSaid' is the law's where the arguments, and the package variables that the reading takes, are together of bulk at most 1048576: NARROWER than '..Said'. Prove '..Said' where nothing that the law and all that it calls make is longer than what came in: it says more and counts as full. Else prove '..UptoSaid'. A law counts once. -/
mutual
def uptoBulk {H : Type} : DataW H → Nat
  | .lit (.string bytes) => bytes.length + 1
  | .lit _ => 1
  | .nil => 1
  | .ptr d => uptoBulk d + 1
  | .slice elems spare => uptoBulkAll elems + uptoBulkAll spare + 1
  | .agg parts => uptoBulkAll parts + 1
  | .iface _ d => uptoBulk d + 1
  | .map entries => uptoBulkEntries entries + 1
  | .held _ => 1
def uptoBulkAll {H : Type} : List (DataW H) → Nat
  | [] => 0
  | d :: r => uptoBulk d + uptoBulkAll r
def uptoBulkEntries {H : Type} : List (Lit × DataW H) → Nat
  | [] => 0
  | x :: r => uptoBulkEntry x + uptoBulkEntries r
def uptoBulkEntry {H : Type} : Lit × DataW H → Nat
  | (.string bytes, d) => bytes.length + uptoBulk d + 1
  | (_, d) => uptoBulk d + 1
 end
def uptoSmall : (H : Type) → List (DataW H) → Bool := fun _ ds => decide (uptoBulkAll ds ≤ 1048576)
def OpenSpec.upto (s : _root_.Go.ChangeSpec) : _root_.Go.OpenSpec := { _root_.Go.OpenSpec.ofChange s with cond := some uptoSmall }

/-- 'masterdisclaw37.PartitionmapEncodes', WHERE WHAT IT READS IS OF BULK AT MOST 1048576: true; the input reads as it did. -/
def partitionmapEncodesUptoRow : OpenClaim := { program := "ytlcdhlfkffkifaagreatdoor", sum := "9ad115bb5367f4280aeeba5296f33da5e51490aef6252cc4739343879671838f", func := "masterdisc/masterdisclaw37.PartitionmapEncodes", spec := "partitionmapEncodes", inPlace := ["internal/abi.NoEscape", "internal/bytealg.MakeNoZero", "internal/bytealg.IndexByteString", "internal/bytealg.IndexString"], unfollowed := true, recurses := true, named := ["internal/bytealg.MaxLen", "unicode/utf8.first", "unicode/utf8.acceptRanges"], apart := false, laid := [("unicode/utf8.acceptRanges", laid_unicode_utf8_acceptRanges), ("unicode/utf8.first", laid_unicode_utf8_first)], narrowed := true }
def PartitionmapEncodesUptoSaid : Prop := partitionmapEncodesUptoRow.holds Tryz.pinned (OpenSpec.upto partitionmapEncodesSpec)

/-- 'masterdisclaw37.PartitionmapDecodes', WHERE WHAT IT READS IS OF BULK AT MOST 1048576: true; the input reads as it did. -/
def partitionmapDecodesUptoRow : OpenClaim := { program := "ytlcdhlfkffkifaagreatdoor", sum := "9ad115bb5367f4280aeeba5296f33da5e51490aef6252cc4739343879671838f", func := "masterdisc/masterdisclaw37.PartitionmapDecodes", spec := "partitionmapDecodes", inPlace := ["internal/abi.NoEscape", "internal/bytealg.MakeNoZero", "internal/bytealg.IndexByteString", "internal/bytealg.IndexString"], unfollowed := true, recurses := true, named := ["internal/bytealg.MaxLen", "unicode/utf8.first", "unicode/utf8.acceptRanges"], apart := false, laid := [("unicode/utf8.acceptRanges", laid_unicode_utf8_acceptRanges), ("unicode/utf8.first", laid_unicode_utf8_first)], narrowed := true }
def PartitionmapDecodesUptoSaid : Prop := partitionmapDecodesUptoRow.holds Tryz.pinned (OpenSpec.upto partitionmapDecodesSpec)

/-- 'masterdisclaw37.PartitionmapKinds', WHERE WHAT IT READS IS OF BULK AT MOST 1048576: true; the input reads as it did. -/
def partitionmapKindsUptoRow : OpenClaim := { program := "ytlcdhlfkffkifaagreatdoor", sum := "9ad115bb5367f4280aeeba5296f33da5e51490aef6252cc4739343879671838f", func := "masterdisc/masterdisclaw37.PartitionmapKinds", spec := "partitionmapKinds", inPlace := ["internal/abi.NoEscape", "internal/bytealg.MakeNoZero", "internal/bytealg.IndexByteString", "internal/bytealg.IndexString"], unfollowed := true, recurses := true, named := ["internal/bytealg.MaxLen", "unicode/utf8.first", "unicode/utf8.acceptRanges"], apart := false, laid := [("unicode/utf8.acceptRanges", laid_unicode_utf8_acceptRanges), ("unicode/utf8.first", laid_unicode_utf8_first)], narrowed := true }
def PartitionmapKindsUptoSaid : Prop := partitionmapKindsUptoRow.holds Tryz.pinned (OpenSpec.upto partitionmapKindsSpec)

/-- 'masterdisclaw37.PartitionmapTranslates', WHERE WHAT IT READS IS OF BULK AT MOST 1048576: true; the input reads as it did. -/
def partitionmapTranslatesUptoRow : OpenClaim := { program := "ytlcdhlfkffkifaagreatdoor", sum := "9ad115bb5367f4280aeeba5296f33da5e51490aef6252cc4739343879671838f", func := "masterdisc/masterdisclaw37.PartitionmapTranslates", spec := "partitionmapTranslates", inPlace := ["internal/abi.NoEscape", "internal/bytealg.MakeNoZero", "internal/bytealg.IndexByteString", "internal/bytealg.IndexString"], unfollowed := true, recurses := true, named := ["internal/bytealg.MaxLen", "unicode/utf8.first", "unicode/utf8.acceptRanges"], apart := false, laid := [("unicode/utf8.acceptRanges", laid_unicode_utf8_acceptRanges), ("unicode/utf8.first", laid_unicode_utf8_first)], narrowed := true }
def PartitionmapTranslatesUptoSaid : Prop := partitionmapTranslatesUptoRow.holds Tryz.pinned (OpenSpec.upto partitionmapTranslatesSpec)

/-- 'masterdisclaw37.PartitionmapOrder', WHERE WHAT IT READS IS OF BULK AT MOST 1048576: true; the input reads as it did. -/
def partitionmapOrderUptoRow : OpenClaim := { program := "ytlcdhlfkffkifaagreatdoor", sum := "9ad115bb5367f4280aeeba5296f33da5e51490aef6252cc4739343879671838f", func := "masterdisc/masterdisclaw37.PartitionmapOrder", spec := "partitionmapOrder", inPlace := ["internal/abi.NoEscape", "internal/bytealg.MakeNoZero", "internal/bytealg.IndexByteString", "internal/bytealg.IndexString"], unfollowed := true, recurses := true, named := ["internal/bytealg.MaxLen", "unicode/utf8.first", "unicode/utf8.acceptRanges"], apart := false, laid := [("unicode/utf8.acceptRanges", laid_unicode_utf8_acceptRanges), ("unicode/utf8.first", laid_unicode_utf8_first)], narrowed := true }
def PartitionmapOrderUptoSaid : Prop := partitionmapOrderUptoRow.holds Tryz.pinned (OpenSpec.upto partitionmapOrderSpec)

/-- 'masterdisclaw37.PartitionmapSpans', WHERE WHAT IT READS IS OF BULK AT MOST 1048576: true; the input reads as it did. -/
def partitionmapSpansUptoRow : OpenClaim := { program := "ytlcdhlfkffkifaagreatdoor", sum := "9ad115bb5367f4280aeeba5296f33da5e51490aef6252cc4739343879671838f", func := "masterdisc/masterdisclaw37.PartitionmapSpans", spec := "partitionmapSpans", inPlace := ["internal/abi.NoEscape", "internal/bytealg.MakeNoZero", "internal/bytealg.IndexByteString", "internal/bytealg.IndexString"], unfollowed := true, recurses := true, named := ["internal/bytealg.MaxLen", "unicode/utf8.first", "unicode/utf8.acceptRanges"], apart := false, laid := [("unicode/utf8.acceptRanges", laid_unicode_utf8_acceptRanges), ("unicode/utf8.first", laid_unicode_utf8_first)], narrowed := true }
def PartitionmapSpansUptoSaid : Prop := partitionmapSpansUptoRow.holds Tryz.pinned (OpenSpec.upto partitionmapSpansSpec)

end Rows
end Go.Proofs.YtlcdhlfkffkifaaGreatDoor
