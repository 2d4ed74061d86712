/-
  NARROWER THAN 'FOR EVERY INPUT', by the rows' own cells (each row's printed sentence says how): VolumeseqAnchors: laid · VolumeseqWrites: laid · VolumeseqReads: laid · VolumeseqReturns: laid · VolumeseqPrevails: laid · VolumeseqPlaces: laid · VolumeseqFileSets: laid · VolumeseqIntegrity: laid.
  DERIVED. THE GIVEN ROWS OF THIS SEAT. 8 by the template 'for every input the law returns true; each argument reads behind the call as it read before'; 0 by the template 'total and deterministic' (their statements: YthkppbimkjmbnaaGreatDoorTotals.lean).
  GIVEN WITH THE SEED: the statements are not yours to turn. If you find one false, say at which input.
  Laid BY PROGRAM, IN A SANDBOX (cutbox-rows.mjs): the forced cells as the released guide's own fill.sh prints them over the translation a2ff39ed5c4f232f… (all of the seat's roots in one cut). By AI agents, Wed Nov 11 2026. No macro, syntax, notation, axiom, sorry.
-/
import Derived.Test.YthkppbimkjmbnaaGreatDoorChecked
import GoSem.PinnedTables
import GoSem.Claim
import GoSem.ClaimJoined
import GoSem.ClaimMapViews
import Derived.JoinedTies
import Derived.KernelRfl
namespace Go.Proofs.YthkppbimkjmbnaaGreatDoor
/- THE CELL 'sum', in the pinned program and in every row, IS THE sha256 OF THE DUMP (.gsa) THAT YthkppbimkjmbnaaGreatDoorProg.lean LOADS. Nothing in Lean hashes anything: it is a label: what it is worth is what the hold of that sum in a sandbox is worth. -/
noncomputable def Tryz.pinned : Pinned := { name := "ythkppbimkjmbnaagreatdoor", sum := "a2ff39ed5c4f232f13f9db68ca1ad0d94b9357095b3f6fd1b598a4938f152591", checked := Tryz.checked }
namespace Rows
def none {H : Type} : Left H := { results := [], args := [] }

/- WHAT THE LISTED PACKAGE-LEVEL VARIABLES READ AS WHEN THE CALL BEGINS. Each datum BY PROGRAM (the guide's laid-datum.mjs) off the statement by which the dump's own 'gosem.cut.vars' lays the variable. In a bare row this is a premise. The card (YthkppbimkjmbnaaGreatDoorCards.lean) ties it to the program's text. -/
def laid_unicode_utf8_acceptRanges {H : Type} : DataW H := .agg [.agg [.lit (.int .u8 128), .lit (.int .u8 191)], .agg [.lit (.int .u8 160), .lit (.int .u8 191)], .agg [.lit (.int .u8 128), .lit (.int .u8 159)], .agg [.lit (.int .u8 144), .lit (.int .u8 191)], .agg [.lit (.int .u8 128), .lit (.int .u8 143)], .agg [.lit (.int .u8 0), .lit (.int .u8 0)], .agg [.lit (.int .u8 0), .lit (.int .u8 0)], .agg [.lit (.int .u8 0), .lit (.int .u8 0)], .agg [.lit (.int .u8 0), .lit (.int .u8 0)], .agg [.lit (.int .u8 0), .lit (.int .u8 0)], .agg [.lit (.int .u8 0), .lit (.int .u8 0)], .agg [.lit (.int .u8 0), .lit (.int .u8 0)], .agg [.lit (.int .u8 0), .lit (.int .u8 0)], .agg [.lit (.int .u8 0), .lit (.int .u8 0)], .agg [.lit (.int .u8 0), .lit (.int .u8 0)], .agg [.lit (.int .u8 0), .lit (.int .u8 0)]]
/-- One of Go's own tables, pinned by name: the form's constant. -/
def laid_unicode_utf8_first : DataW Unit := Go.Pinned.utf8First

/-- 'masterdisclaw36.VolumeseqAnchors': WHATEVER THE INPUT: true; the input reads as it did. -/
def volumeseqAnchorsSpec : ChangeSpec := { name := "volumeseqAnchors", fn := fun _ => fun
  | [d1, d2, d3, d4, d5, d6] => { results := [.lit (.bool true)], args := [d1, d2, d3, d4, d5, d6] }
  | _ => none }
def volumeseqAnchorsRow : OpenClaim := { program := "ythkppbimkjmbnaagreatdoor", sum := "a2ff39ed5c4f232f13f9db68ca1ad0d94b9357095b3f6fd1b598a4938f152591", func := "masterdisc/masterdisclaw36.VolumeseqAnchors", spec := "volumeseqAnchors", inPlace := ["internal/abi.NoEscape", "internal/bytealg.MakeNoZero", "internal/bytealg.IndexByteString", "internal/bytealg.IndexString"], unfollowed := true, recurses := true, named := ["unicode/utf8.first", "unicode/utf8.acceptRanges", "internal/bytealg.MaxLen"], apart := false, laid := [("unicode/utf8.acceptRanges", laid_unicode_utf8_acceptRanges), ("unicode/utf8.first", laid_unicode_utf8_first)] }
def VolumeseqAnchorsSaid : Prop := volumeseqAnchorsRow.holds Tryz.pinned (OpenSpec.ofChange volumeseqAnchorsSpec)

/-- ITS FALSE NEIGHBOUR: 'it returns false'. Refute it at one input. -/
def volumeseqAnchorsWrong : ChangeSpec := { name := "volumeseqAnchors", fn := fun _ => fun
  | [d1, d2, d3, d4, d5, d6] => { results := [.lit (.bool false)], args := [d1, d2, d3, d4, d5, d6] }
  | _ => none }
def VolumeseqAnchorsWrongFalsely : Prop := volumeseqAnchorsRow.holds Tryz.pinned (OpenSpec.ofChange volumeseqAnchorsWrong)

/-- 'masterdisclaw36.VolumeseqWrites': WHATEVER THE INPUT: true; the input reads as it did. -/
def volumeseqWritesSpec : ChangeSpec := { name := "volumeseqWrites", fn := fun _ => fun
  | [d1, d2] => { results := [.lit (.bool true)], args := [d1, d2] }
  | _ => none }
def volumeseqWritesRow : OpenClaim := { program := "ythkppbimkjmbnaagreatdoor", sum := "a2ff39ed5c4f232f13f9db68ca1ad0d94b9357095b3f6fd1b598a4938f152591", func := "masterdisc/masterdisclaw36.VolumeseqWrites", spec := "volumeseqWrites", inPlace := ["internal/abi.NoEscape", "internal/bytealg.MakeNoZero", "internal/bytealg.IndexByteString", "internal/bytealg.IndexString"], unfollowed := true, recurses := true, named := ["unicode/utf8.first", "unicode/utf8.acceptRanges", "internal/bytealg.MaxLen"], apart := false, laid := [("unicode/utf8.acceptRanges", laid_unicode_utf8_acceptRanges), ("unicode/utf8.first", laid_unicode_utf8_first)] }
def VolumeseqWritesSaid : Prop := volumeseqWritesRow.holds Tryz.pinned (OpenSpec.ofChange volumeseqWritesSpec)

/-- ITS FALSE NEIGHBOUR: 'it returns false'. Refute it at one input. -/
def volumeseqWritesWrong : ChangeSpec := { name := "volumeseqWrites", fn := fun _ => fun
  | [d1, d2] => { results := [.lit (.bool false)], args := [d1, d2] }
  | _ => none }
def VolumeseqWritesWrongFalsely : Prop := volumeseqWritesRow.holds Tryz.pinned (OpenSpec.ofChange volumeseqWritesWrong)

/-- 'masterdisclaw36.VolumeseqReads': WHATEVER THE INPUT: true; the input reads as it did. -/
def volumeseqReadsSpec : ChangeSpec := { name := "volumeseqReads", fn := fun _ => fun
  | [d1, d2] => { results := [.lit (.bool true)], args := [d1, d2] }
  | _ => none }
def volumeseqReadsRow : OpenClaim := { program := "ythkppbimkjmbnaagreatdoor", sum := "a2ff39ed5c4f232f13f9db68ca1ad0d94b9357095b3f6fd1b598a4938f152591", func := "masterdisc/masterdisclaw36.VolumeseqReads", spec := "volumeseqReads", inPlace := ["internal/abi.NoEscape", "internal/bytealg.MakeNoZero", "internal/bytealg.IndexByteString", "internal/bytealg.IndexString"], unfollowed := true, recurses := true, named := ["unicode/utf8.first", "unicode/utf8.acceptRanges", "internal/bytealg.MaxLen"], apart := false, laid := [("unicode/utf8.acceptRanges", laid_unicode_utf8_acceptRanges), ("unicode/utf8.first", laid_unicode_utf8_first)] }
def VolumeseqReadsSaid : Prop := volumeseqReadsRow.holds Tryz.pinned (OpenSpec.ofChange volumeseqReadsSpec)

/-- ITS FALSE NEIGHBOUR: 'it returns false'. Refute it at one input. -/
def volumeseqReadsWrong : ChangeSpec := { name := "volumeseqReads", fn := fun _ => fun
  | [d1, d2] => { results := [.lit (.bool false)], args := [d1, d2] }
  | _ => none }
def VolumeseqReadsWrongFalsely : Prop := volumeseqReadsRow.holds Tryz.pinned (OpenSpec.ofChange volumeseqReadsWrong)

/-- 'masterdisclaw36.VolumeseqReturns': WHATEVER THE INPUT: true; the input reads as it did. -/
def volumeseqReturnsSpec : ChangeSpec := { name := "volumeseqReturns", fn := fun _ => fun
  | [d1, d2, d3] => { results := [.lit (.bool true)], args := [d1, d2, d3] }
  | _ => none }
def volumeseqReturnsRow : OpenClaim := { program := "ythkppbimkjmbnaagreatdoor", sum := "a2ff39ed5c4f232f13f9db68ca1ad0d94b9357095b3f6fd1b598a4938f152591", func := "masterdisc/masterdisclaw36.VolumeseqReturns", spec := "volumeseqReturns", inPlace := ["internal/abi.NoEscape", "internal/bytealg.MakeNoZero", "internal/bytealg.IndexByteString", "internal/bytealg.IndexString"], unfollowed := true, recurses := true, named := ["unicode/utf8.first", "unicode/utf8.acceptRanges", "internal/bytealg.MaxLen"], apart := false, laid := [("unicode/utf8.acceptRanges", laid_unicode_utf8_acceptRanges), ("unicode/utf8.first", laid_unicode_utf8_first)] }
def VolumeseqReturnsSaid : Prop := volumeseqReturnsRow.holds Tryz.pinned (OpenSpec.ofChange volumeseqReturnsSpec)

/-- ITS FALSE NEIGHBOUR: 'it returns false'. Refute it at one input. -/
def volumeseqReturnsWrong : ChangeSpec := { name := "volumeseqReturns", fn := fun _ => fun
  | [d1, d2, d3] => { results := [.lit (.bool false)], args := [d1, d2, d3] }
  | _ => none }
def VolumeseqReturnsWrongFalsely : Prop := volumeseqReturnsRow.holds Tryz.pinned (OpenSpec.ofChange volumeseqReturnsWrong)

/-- 'masterdisclaw36.VolumeseqPrevails': WHATEVER THE INPUT: true; the input reads as it did. -/
def volumeseqPrevailsSpec : ChangeSpec := { name := "volumeseqPrevails", fn := fun _ => fun
  | [d1, d2, d3, d4] => { results := [.lit (.bool true)], args := [d1, d2, d3, d4] }
  | _ => none }
def volumeseqPrevailsRow : OpenClaim := { program := "ythkppbimkjmbnaagreatdoor", sum := "a2ff39ed5c4f232f13f9db68ca1ad0d94b9357095b3f6fd1b598a4938f152591", func := "masterdisc/masterdisclaw36.VolumeseqPrevails", spec := "volumeseqPrevails", inPlace := ["internal/abi.NoEscape", "internal/bytealg.MakeNoZero", "internal/bytealg.IndexByteString", "internal/bytealg.IndexString"], unfollowed := true, recurses := true, named := ["unicode/utf8.first", "unicode/utf8.acceptRanges", "internal/bytealg.MaxLen"], apart := false, laid := [("unicode/utf8.acceptRanges", laid_unicode_utf8_acceptRanges), ("unicode/utf8.first", laid_unicode_utf8_first)] }
def VolumeseqPrevailsSaid : Prop := volumeseqPrevailsRow.holds Tryz.pinned (OpenSpec.ofChange volumeseqPrevailsSpec)

/-- ITS FALSE NEIGHBOUR: 'it returns false'. Refute it at one input. -/
def volumeseqPrevailsWrong : ChangeSpec := { name := "volumeseqPrevails", fn := fun _ => fun
  | [d1, d2, d3, d4] => { results := [.lit (.bool false)], args := [d1, d2, d3, d4] }
  | _ => none }
def VolumeseqPrevailsWrongFalsely : Prop := volumeseqPrevailsRow.holds Tryz.pinned (OpenSpec.ofChange volumeseqPrevailsWrong)

/-- 'masterdisclaw36.VolumeseqPlaces': WHATEVER THE INPUT: true; the input reads as it did. -/
def volumeseqPlacesSpec : ChangeSpec := { name := "volumeseqPlaces", fn := fun _ => fun
  | [d1, d2, d3] => { results := [.lit (.bool true)], args := [d1, d2, d3] }
  | _ => none }
def volumeseqPlacesRow : OpenClaim := { program := "ythkppbimkjmbnaagreatdoor", sum := "a2ff39ed5c4f232f13f9db68ca1ad0d94b9357095b3f6fd1b598a4938f152591", func := "masterdisc/masterdisclaw36.VolumeseqPlaces", spec := "volumeseqPlaces", inPlace := ["internal/abi.NoEscape", "internal/bytealg.MakeNoZero", "internal/bytealg.IndexByteString", "internal/bytealg.IndexString"], unfollowed := true, recurses := true, named := ["unicode/utf8.first", "unicode/utf8.acceptRanges", "internal/bytealg.MaxLen"], apart := false, laid := [("unicode/utf8.acceptRanges", laid_unicode_utf8_acceptRanges), ("unicode/utf8.first", laid_unicode_utf8_first)] }
def VolumeseqPlacesSaid : Prop := volumeseqPlacesRow.holds Tryz.pinned (OpenSpec.ofChange volumeseqPlacesSpec)

/-- ITS FALSE NEIGHBOUR: 'it returns false'. Refute it at one input. -/
def volumeseqPlacesWrong : ChangeSpec := { name := "volumeseqPlaces", fn := fun _ => fun
  | [d1, d2, d3] => { results := [.lit (.bool false)], args := [d1, d2, d3] }
  | _ => none }
def VolumeseqPlacesWrongFalsely : Prop := volumeseqPlacesRow.holds Tryz.pinned (OpenSpec.ofChange volumeseqPlacesWrong)

/-- 'masterdisclaw36.VolumeseqFileSets': WHATEVER THE INPUT: true; the input reads as it did. -/
def volumeseqFileSetsSpec : ChangeSpec := { name := "volumeseqFileSets", fn := fun _ => fun
  | [d1, d2, d3] => { results := [.lit (.bool true)], args := [d1, d2, d3] }
  | _ => none }
def volumeseqFileSetsRow : OpenClaim := { program := "ythkppbimkjmbnaagreatdoor", sum := "a2ff39ed5c4f232f13f9db68ca1ad0d94b9357095b3f6fd1b598a4938f152591", func := "masterdisc/masterdisclaw36.VolumeseqFileSets", spec := "volumeseqFileSets", inPlace := ["internal/abi.NoEscape", "internal/bytealg.MakeNoZero", "internal/bytealg.IndexByteString", "internal/bytealg.IndexString"], unfollowed := true, recurses := true, named := ["unicode/utf8.first", "unicode/utf8.acceptRanges", "internal/bytealg.MaxLen"], apart := false, laid := [("unicode/utf8.acceptRanges", laid_unicode_utf8_acceptRanges), ("unicode/utf8.first", laid_unicode_utf8_first)] }
def VolumeseqFileSetsSaid : Prop := volumeseqFileSetsRow.holds Tryz.pinned (OpenSpec.ofChange volumeseqFileSetsSpec)

/-- ITS FALSE NEIGHBOUR: 'it returns false'. Refute it at one input. -/
def volumeseqFileSetsWrong : ChangeSpec := { name := "volumeseqFileSets", fn := fun _ => fun
  | [d1, d2, d3] => { results := [.lit (.bool false)], args := [d1, d2, d3] }
  | _ => none }
def VolumeseqFileSetsWrongFalsely : Prop := volumeseqFileSetsRow.holds Tryz.pinned (OpenSpec.ofChange volumeseqFileSetsWrong)

/-- 'masterdisclaw36.VolumeseqIntegrity': WHATEVER THE INPUT: true; the input reads as it did. -/
def volumeseqIntegritySpec : ChangeSpec := { name := "volumeseqIntegrity", fn := fun _ => fun
  | [d1, d2, d3] => { results := [.lit (.bool true)], args := [d1, d2, d3] }
  | _ => none }
def volumeseqIntegrityRow : OpenClaim := { program := "ythkppbimkjmbnaagreatdoor", sum := "a2ff39ed5c4f232f13f9db68ca1ad0d94b9357095b3f6fd1b598a4938f152591", func := "masterdisc/masterdisclaw36.VolumeseqIntegrity", spec := "volumeseqIntegrity", inPlace := ["internal/abi.NoEscape", "internal/bytealg.MakeNoZero", "internal/bytealg.IndexByteString", "internal/bytealg.IndexString"], unfollowed := true, recurses := true, named := ["unicode/utf8.first", "unicode/utf8.acceptRanges", "internal/bytealg.MaxLen"], apart := false, laid := [("unicode/utf8.acceptRanges", laid_unicode_utf8_acceptRanges), ("unicode/utf8.first", laid_unicode_utf8_first)] }
def VolumeseqIntegritySaid : Prop := volumeseqIntegrityRow.holds Tryz.pinned (OpenSpec.ofChange volumeseqIntegritySpec)

/-- ITS FALSE NEIGHBOUR: 'it returns false'. Refute it at one input. -/
def volumeseqIntegrityWrong : ChangeSpec := { name := "volumeseqIntegrity", fn := fun _ => fun
  | [d1, d2, d3] => { results := [.lit (.bool false)], args := [d1, d2, d3] }
  | _ => none }
def VolumeseqIntegrityWrongFalsely : Prop := volumeseqIntegrityRow.holds Tryz.pinned (OpenSpec.ofChange volumeseqIntegrityWrong)

/- THE SECOND FORM. 'bulk': how many values and letters a reading holds, each counted each time it is reached (what is shared counts as often as it is met; a slice's spare places count too). A statement '..UptoSaid' is the law's where the arguments, and the package variables that the reading takes, are together of bulk at most 1048576: NARROWER than '..Said'. Prove '..Said' where nothing that the law and all that it calls make is longer than what came in: it says more and counts as full. Else prove '..UptoSaid'. A law counts once. -/
mutual
def uptoBulk {H : Type} : DataW H → Nat
  | .lit (.string bytes) => bytes.length + 1
  | .lit _ => 1
  | .nil => 1
  | .ptr d => uptoBulk d + 1
  | .slice elems spare => uptoBulkAll elems + uptoBulkAll spare + 1
  | .agg parts => uptoBulkAll parts + 1
  | .iface _ d => uptoBulk d + 1
  | .map entries => uptoBulkEntries entries + 1
  | .held _ => 1
def uptoBulkAll {H : Type} : List (DataW H) → Nat
  | [] => 0
  | d :: r => uptoBulk d + uptoBulkAll r
def uptoBulkEntries {H : Type} : List (Lit × DataW H) → Nat
  | [] => 0
  | x :: r => uptoBulkEntry x + uptoBulkEntries r
def uptoBulkEntry {H : Type} : Lit × DataW H → Nat
  | (.string bytes, d) => bytes.length + uptoBulk d + 1
  | (_, d) => uptoBulk d + 1
 end
def uptoSmall : (H : Type) → List (DataW H) → Bool := fun _ ds => decide (uptoBulkAll ds ≤ 1048576)
def OpenSpec.upto (s : _root_.Go.ChangeSpec) : _root_.Go.OpenSpec := { _root_.Go.OpenSpec.ofChange s with cond := some uptoSmall }

/-- 'masterdisclaw36.VolumeseqAnchors', WHERE WHAT IT READS IS OF BULK AT MOST 1048576: true; the input reads as it did. -/
def volumeseqAnchorsUptoRow : OpenClaim := { program := "ythkppbimkjmbnaagreatdoor", sum := "a2ff39ed5c4f232f13f9db68ca1ad0d94b9357095b3f6fd1b598a4938f152591", func := "masterdisc/masterdisclaw36.VolumeseqAnchors", spec := "volumeseqAnchors", inPlace := ["internal/abi.NoEscape", "internal/bytealg.MakeNoZero", "internal/bytealg.IndexByteString", "internal/bytealg.IndexString"], unfollowed := true, recurses := true, named := ["unicode/utf8.first", "unicode/utf8.acceptRanges", "internal/bytealg.MaxLen"], apart := false, laid := [("unicode/utf8.acceptRanges", laid_unicode_utf8_acceptRanges), ("unicode/utf8.first", laid_unicode_utf8_first)], narrowed := true }
def VolumeseqAnchorsUptoSaid : Prop := volumeseqAnchorsUptoRow.holds Tryz.pinned (OpenSpec.upto volumeseqAnchorsSpec)

/-- 'masterdisclaw36.VolumeseqWrites', WHERE WHAT IT READS IS OF BULK AT MOST 1048576: true; the input reads as it did. -/
def volumeseqWritesUptoRow : OpenClaim := { program := "ythkppbimkjmbnaagreatdoor", sum := "a2ff39ed5c4f232f13f9db68ca1ad0d94b9357095b3f6fd1b598a4938f152591", func := "masterdisc/masterdisclaw36.VolumeseqWrites", spec := "volumeseqWrites", inPlace := ["internal/abi.NoEscape", "internal/bytealg.MakeNoZero", "internal/bytealg.IndexByteString", "internal/bytealg.IndexString"], unfollowed := true, recurses := true, named := ["unicode/utf8.first", "unicode/utf8.acceptRanges", "internal/bytealg.MaxLen"], apart := false, laid := [("unicode/utf8.acceptRanges", laid_unicode_utf8_acceptRanges), ("unicode/utf8.first", laid_unicode_utf8_first)], narrowed := true }
def VolumeseqWritesUptoSaid : Prop := volumeseqWritesUptoRow.holds Tryz.pinned (OpenSpec.upto volumeseqWritesSpec)

/-- 'masterdisclaw36.VolumeseqReads', WHERE WHAT IT READS IS OF BULK AT MOST 1048576: true; the input reads as it did. -/
def volumeseqReadsUptoRow : OpenClaim := { program := "ythkppbimkjmbnaagreatdoor", sum := "a2ff39ed5c4f232f13f9db68ca1ad0d94b9357095b3f6fd1b598a4938f152591", func := "masterdisc/masterdisclaw36.VolumeseqReads", spec := "volumeseqReads", inPlace := ["internal/abi.NoEscape", "internal/bytealg.MakeNoZero", "internal/bytealg.IndexByteString", "internal/bytealg.IndexString"], unfollowed := true, recurses := true, named := ["unicode/utf8.first", "unicode/utf8.acceptRanges", "internal/bytealg.MaxLen"], apart := false, laid := [("unicode/utf8.acceptRanges", laid_unicode_utf8_acceptRanges), ("unicode/utf8.first", laid_unicode_utf8_first)], narrowed := true }
def VolumeseqReadsUptoSaid : Prop := volumeseqReadsUptoRow.holds Tryz.pinned (OpenSpec.upto volumeseqReadsSpec)

/-- 'masterdisclaw36.VolumeseqReturns', WHERE WHAT IT READS IS OF BULK AT MOST 1048576: true; the input reads as it did. -/
def volumeseqReturnsUptoRow : OpenClaim := { program := "ythkppbimkjmbnaagreatdoor", sum := "a2ff39ed5c4f232f13f9db68ca1ad0d94b9357095b3f6fd1b598a4938f152591", func := "masterdisc/masterdisclaw36.VolumeseqReturns", spec := "volumeseqReturns", inPlace := ["internal/abi.NoEscape", "internal/bytealg.MakeNoZero", "internal/bytealg.IndexByteString", "internal/bytealg.IndexString"], unfollowed := true, recurses := true, named := ["unicode/utf8.first", "unicode/utf8.acceptRanges", "internal/bytealg.MaxLen"], apart := false, laid := [("unicode/utf8.acceptRanges", laid_unicode_utf8_acceptRanges), ("unicode/utf8.first", laid_unicode_utf8_first)], narrowed := true }
def VolumeseqReturnsUptoSaid : Prop := volumeseqReturnsUptoRow.holds Tryz.pinned (OpenSpec.upto volumeseqReturnsSpec)

/-- 'masterdisclaw36.VolumeseqPrevails', WHERE WHAT IT READS IS OF BULK AT MOST 1048576: true; the input reads as it did. -/
def volumeseqPrevailsUptoRow : OpenClaim := { program := "ythkppbimkjmbnaagreatdoor", sum := "a2ff39ed5c4f232f13f9db68ca1ad0d94b9357095b3f6fd1b598a4938f152591", func := "masterdisc/masterdisclaw36.VolumeseqPrevails", spec := "volumeseqPrevails", inPlace := ["internal/abi.NoEscape", "internal/bytealg.MakeNoZero", "internal/bytealg.IndexByteString", "internal/bytealg.IndexString"], unfollowed := true, recurses := true, named := ["unicode/utf8.first", "unicode/utf8.acceptRanges", "internal/bytealg.MaxLen"], apart := false, laid := [("unicode/utf8.acceptRanges", laid_unicode_utf8_acceptRanges), ("unicode/utf8.first", laid_unicode_utf8_first)], narrowed := true }
def VolumeseqPrevailsUptoSaid : Prop := volumeseqPrevailsUptoRow.holds Tryz.pinned (OpenSpec.upto volumeseqPrevailsSpec)

/-- 'masterdisclaw36.VolumeseqPlaces', WHERE WHAT IT READS IS OF BULK AT MOST 1048576: true; the input reads as it did. -/
def volumeseqPlacesUptoRow : OpenClaim := { program := "ythkppbimkjmbnaagreatdoor", sum := "a2ff39ed5c4f232f13f9db68ca1ad0d94b9357095b3f6fd1b598a4938f152591", func := "masterdisc/masterdisclaw36.VolumeseqPlaces", spec := "volumeseqPlaces", inPlace := ["internal/abi.NoEscape", "internal/bytealg.MakeNoZero", "internal/bytealg.IndexByteString", "internal/bytealg.IndexString"], unfollowed := true, recurses := true, named := ["unicode/utf8.first", "unicode/utf8.acceptRanges", "internal/bytealg.MaxLen"], apart := false, laid := [("unicode/utf8.acceptRanges", laid_unicode_utf8_acceptRanges), ("unicode/utf8.first", laid_unicode_utf8_first)], narrowed := true }
def VolumeseqPlacesUptoSaid : Prop := volumeseqPlacesUptoRow.holds Tryz.pinned (OpenSpec.upto volumeseqPlacesSpec)

/-- 'masterdisclaw36.VolumeseqFileSets', WHERE WHAT IT READS IS OF BULK AT MOST 1048576: true; the input reads as it did. -/
def volumeseqFileSetsUptoRow : OpenClaim := { program := "ythkppbimkjmbnaagreatdoor", sum := "a2ff39ed5c4f232f13f9db68ca1ad0d94b9357095b3f6fd1b598a4938f152591", func := "masterdisc/masterdisclaw36.VolumeseqFileSets", spec := "volumeseqFileSets", inPlace := ["internal/abi.NoEscape", "internal/bytealg.MakeNoZero", "internal/bytealg.IndexByteString", "internal/bytealg.IndexString"], unfollowed := true, recurses := true, named := ["unicode/utf8.first", "unicode/utf8.acceptRanges", "internal/bytealg.MaxLen"], apart := false, laid := [("unicode/utf8.acceptRanges", laid_unicode_utf8_acceptRanges), ("unicode/utf8.first", laid_unicode_utf8_first)], narrowed := true }
def VolumeseqFileSetsUptoSaid : Prop := volumeseqFileSetsUptoRow.holds Tryz.pinned (OpenSpec.upto volumeseqFileSetsSpec)

/-- 'masterdisclaw36.VolumeseqIntegrity', WHERE WHAT IT READS IS OF BULK AT MOST 1048576: true; the input reads as it did. -/
def volumeseqIntegrityUptoRow : OpenClaim := { program := "ythkppbimkjmbnaagreatdoor", sum := "a2ff39ed5c4f232f13f9db68ca1ad0d94b9357095b3f6fd1b598a4938f152591", func := "masterdisc/masterdisclaw36.VolumeseqIntegrity", spec := "volumeseqIntegrity", inPlace := ["internal/abi.NoEscape", "internal/bytealg.MakeNoZero", "internal/bytealg.IndexByteString", "internal/bytealg.IndexString"], unfollowed := true, recurses := true, named := ["unicode/utf8.first", "unicode/utf8.acceptRanges", "internal/bytealg.MaxLen"], apart := false, laid := [("unicode/utf8.acceptRanges", laid_unicode_utf8_acceptRanges), ("unicode/utf8.first", laid_unicode_utf8_first)], narrowed := true }
def VolumeseqIntegrityUptoSaid : Prop := volumeseqIntegrityUptoRow.holds Tryz.pinned (OpenSpec.upto volumeseqIntegritySpec)

end Rows
end Go.Proofs.YthkppbimkjmbnaaGreatDoor
