/-
  NARROWER THAN 'FOR EVERY INPUT', by the rows' own cells (each row's printed sentence says how): RelativeOthers: laid · RelativeKeeps: laid · IntervalDecodes: laid · IntervalStrict: laid · IntervalEncodes: laid · IntervalInverts: laid · IntervalShrinks: laid · IntervalSlots: laid · IntervalSlotsInvert: laid · EntryseqAppends: laid · EntryseqPlaces: laid · EntryseqWrites: laid · EntryseqKeeps: laid · EntryseqReplaces: laid · EntryseqReads: laid · EntryseqOrder: laid · RelativeReach: laid · RelativeSteps: laid · RelativeWrites: laid.
  DERIVED. THE GIVEN ROWS OF THIS SEAT. 19 by the template 'for every input the law returns true; each argument reads behind the call as it read before'; 0 by the template 'total and deterministic' (their statements: YtnkhifgppcnmkaaDoorTotals.lean).
  GIVEN WITH THE SEED: the statements are not yours to turn. If you find one false, say at which input.
  Laid BY PROGRAM, IN A SANDBOX (cutbox-rows.mjs): the forced cells as the released guide's own fill.sh prints them over the translation 084bf33a1e17b82c… (all of the seat's roots in one cut). By AI agents, Wed Nov 11 2026. No macro, syntax, notation, axiom, sorry.
-/
import Derived.Test.YtnkhifgppcnmkaaDoorChecked
import GoSem.PinnedTables
import GoSem.Claim
import GoSem.ClaimJoined
import GoSem.ClaimMapViews
import Derived.JoinedTies
import Derived.KernelRfl
namespace Go.Proofs.YtnkhifgppcnmkaaDoor
/- THE CELL 'sum', in the pinned program and in every row, IS THE sha256 OF THE DUMP (.gsa) THAT YtnkhifgppcnmkaaDoorProg.lean LOADS. Nothing in Lean hashes anything: it is a label: what it is worth is what the hold of that sum in a sandbox is worth. -/
noncomputable def Tryd.pinned : Pinned := { name := "ytnkhifgppcnmkaadoor", sum := "084bf33a1e17b82c174915e403cb6488df38cee42dc3db20b45fa9ea26cba974", checked := Tryd.checked }
namespace Rows
def none {H : Type} : Left H := { results := [], args := [] }

/- WHAT THE LISTED PACKAGE-LEVEL VARIABLES READ AS WHEN THE CALL BEGINS. Each datum BY PROGRAM (the guide's laid-datum.mjs) off the statement by which the dump's own 'gosem.cut.vars' lays the variable. In a bare row this is a premise. The card (YtnkhifgppcnmkaaDoorCards.lean) ties it to the program's text. -/
def laid_unicode_utf8_acceptRanges {H : Type} : DataW H := .agg [.agg [.lit (.int .u8 128), .lit (.int .u8 191)], .agg [.lit (.int .u8 160), .lit (.int .u8 191)], .agg [.lit (.int .u8 128), .lit (.int .u8 159)], .agg [.lit (.int .u8 144), .lit (.int .u8 191)], .agg [.lit (.int .u8 128), .lit (.int .u8 143)], .agg [.lit (.int .u8 0), .lit (.int .u8 0)], .agg [.lit (.int .u8 0), .lit (.int .u8 0)], .agg [.lit (.int .u8 0), .lit (.int .u8 0)], .agg [.lit (.int .u8 0), .lit (.int .u8 0)], .agg [.lit (.int .u8 0), .lit (.int .u8 0)], .agg [.lit (.int .u8 0), .lit (.int .u8 0)], .agg [.lit (.int .u8 0), .lit (.int .u8 0)], .agg [.lit (.int .u8 0), .lit (.int .u8 0)], .agg [.lit (.int .u8 0), .lit (.int .u8 0)], .agg [.lit (.int .u8 0), .lit (.int .u8 0)], .agg [.lit (.int .u8 0), .lit (.int .u8 0)]]
/-- One of Go's own tables, pinned by name: the form's constant. -/
def laid_unicode_utf8_first : DataW Unit := Go.Pinned.utf8First

/-- 'dasdlaw19.RelativeOthers': WHATEVER THE INPUT: true; the input reads as it did. -/
def relativeOthersSpec : ChangeSpec := { name := "relativeOthers", fn := fun _ => fun
  | [d1, d2, d3] => { results := [.lit (.bool true)], args := [d1, d2, d3] }
  | _ => none }
def relativeOthersRow : OpenClaim := { program := "ytnkhifgppcnmkaadoor", sum := "084bf33a1e17b82c174915e403cb6488df38cee42dc3db20b45fa9ea26cba974", func := "dasd/dasdlaw19.RelativeOthers", spec := "relativeOthers", inPlace := ["internal/bytealg.IndexByteString", "internal/bytealg.IndexString", "internal/abi.NoEscape", "internal/bytealg.MakeNoZero"], unfollowed := true, recurses := true, named := ["unicode/utf8.first", "unicode/utf8.acceptRanges", "internal/bytealg.MaxLen"], apart := false, laid := [("unicode/utf8.acceptRanges", laid_unicode_utf8_acceptRanges), ("unicode/utf8.first", laid_unicode_utf8_first)] }
def RelativeOthersSaid : Prop := relativeOthersRow.holds Tryd.pinned (OpenSpec.ofChange relativeOthersSpec)

/-- ITS FALSE NEIGHBOUR: 'it returns false'. Refute it at one input. -/
def relativeOthersWrong : ChangeSpec := { name := "relativeOthers", fn := fun _ => fun
  | [d1, d2, d3] => { results := [.lit (.bool false)], args := [d1, d2, d3] }
  | _ => none }
def RelativeOthersWrongFalsely : Prop := relativeOthersRow.holds Tryd.pinned (OpenSpec.ofChange relativeOthersWrong)

/-- 'dasdlaw19.RelativeKeeps': WHATEVER THE INPUT: true; the input reads as it did. -/
def relativeKeepsSpec : ChangeSpec := { name := "relativeKeeps", fn := fun _ => fun
  | [d1, d2] => { results := [.lit (.bool true)], args := [d1, d2] }
  | _ => none }
def relativeKeepsRow : OpenClaim := { program := "ytnkhifgppcnmkaadoor", sum := "084bf33a1e17b82c174915e403cb6488df38cee42dc3db20b45fa9ea26cba974", func := "dasd/dasdlaw19.RelativeKeeps", spec := "relativeKeeps", inPlace := ["internal/bytealg.IndexByteString", "internal/bytealg.IndexString", "internal/abi.NoEscape", "internal/bytealg.MakeNoZero"], unfollowed := true, recurses := true, named := ["unicode/utf8.first", "unicode/utf8.acceptRanges", "internal/bytealg.MaxLen"], apart := false, laid := [("unicode/utf8.acceptRanges", laid_unicode_utf8_acceptRanges), ("unicode/utf8.first", laid_unicode_utf8_first)] }
def RelativeKeepsSaid : Prop := relativeKeepsRow.holds Tryd.pinned (OpenSpec.ofChange relativeKeepsSpec)

/-- ITS FALSE NEIGHBOUR: 'it returns false'. Refute it at one input. -/
def relativeKeepsWrong : ChangeSpec := { name := "relativeKeeps", fn := fun _ => fun
  | [d1, d2] => { results := [.lit (.bool false)], args := [d1, d2] }
  | _ => none }
def RelativeKeepsWrongFalsely : Prop := relativeKeepsRow.holds Tryd.pinned (OpenSpec.ofChange relativeKeepsWrong)

/-- 'dasdlaw17.IntervalDecodes': WHATEVER THE INPUT: true; the input reads as it did. -/
def intervalDecodesSpec : ChangeSpec := { name := "intervalDecodes", fn := fun _ => fun
  | [d1, d2] => { results := [.lit (.bool true)], args := [d1, d2] }
  | _ => none }
def intervalDecodesRow : OpenClaim := { program := "ytnkhifgppcnmkaadoor", sum := "084bf33a1e17b82c174915e403cb6488df38cee42dc3db20b45fa9ea26cba974", func := "dasd/dasdlaw17.IntervalDecodes", spec := "intervalDecodes", inPlace := ["internal/bytealg.IndexByteString", "internal/bytealg.IndexString"], unfollowed := true, recurses := true, named := ["unicode/utf8.first", "unicode/utf8.acceptRanges", "internal/bytealg.MaxLen"], apart := false, laid := [("unicode/utf8.acceptRanges", laid_unicode_utf8_acceptRanges), ("unicode/utf8.first", laid_unicode_utf8_first)] }
def IntervalDecodesSaid : Prop := intervalDecodesRow.holds Tryd.pinned (OpenSpec.ofChange intervalDecodesSpec)

/-- ITS FALSE NEIGHBOUR: 'it returns false'. Refute it at one input. -/
def intervalDecodesWrong : ChangeSpec := { name := "intervalDecodes", fn := fun _ => fun
  | [d1, d2] => { results := [.lit (.bool false)], args := [d1, d2] }
  | _ => none }
def IntervalDecodesWrongFalsely : Prop := intervalDecodesRow.holds Tryd.pinned (OpenSpec.ofChange intervalDecodesWrong)

/-- 'dasdlaw17.IntervalStrict': WHATEVER THE INPUT: true; the input reads as it did. -/
def intervalStrictSpec : ChangeSpec := { name := "intervalStrict", fn := fun _ => fun
  | [d1, d2, d3, d4] => { results := [.lit (.bool true)], args := [d1, d2, d3, d4] }
  | _ => none }
def intervalStrictRow : OpenClaim := { program := "ytnkhifgppcnmkaadoor", sum := "084bf33a1e17b82c174915e403cb6488df38cee42dc3db20b45fa9ea26cba974", func := "dasd/dasdlaw17.IntervalStrict", spec := "intervalStrict", inPlace := ["internal/bytealg.IndexByteString", "internal/bytealg.IndexString"], unfollowed := true, recurses := true, named := ["unicode/utf8.first", "unicode/utf8.acceptRanges", "internal/bytealg.MaxLen"], apart := false, laid := [("unicode/utf8.acceptRanges", laid_unicode_utf8_acceptRanges), ("unicode/utf8.first", laid_unicode_utf8_first)] }
def IntervalStrictSaid : Prop := intervalStrictRow.holds Tryd.pinned (OpenSpec.ofChange intervalStrictSpec)

/-- ITS FALSE NEIGHBOUR: 'it returns false'. Refute it at one input. -/
def intervalStrictWrong : ChangeSpec := { name := "intervalStrict", fn := fun _ => fun
  | [d1, d2, d3, d4] => { results := [.lit (.bool false)], args := [d1, d2, d3, d4] }
  | _ => none }
def IntervalStrictWrongFalsely : Prop := intervalStrictRow.holds Tryd.pinned (OpenSpec.ofChange intervalStrictWrong)

/-- 'dasdlaw17.IntervalEncodes': WHATEVER THE INPUT: true; the input reads as it did. -/
def intervalEncodesSpec : ChangeSpec := { name := "intervalEncodes", fn := fun _ => fun
  | [d1, d2] => { results := [.lit (.bool true)], args := [d1, d2] }
  | _ => none }
def intervalEncodesRow : OpenClaim := { program := "ytnkhifgppcnmkaadoor", sum := "084bf33a1e17b82c174915e403cb6488df38cee42dc3db20b45fa9ea26cba974", func := "dasd/dasdlaw17.IntervalEncodes", spec := "intervalEncodes", inPlace := ["internal/bytealg.IndexByteString", "internal/bytealg.IndexString"], unfollowed := true, recurses := true, named := ["unicode/utf8.first", "unicode/utf8.acceptRanges", "internal/bytealg.MaxLen"], apart := false, laid := [("unicode/utf8.acceptRanges", laid_unicode_utf8_acceptRanges), ("unicode/utf8.first", laid_unicode_utf8_first)] }
def IntervalEncodesSaid : Prop := intervalEncodesRow.holds Tryd.pinned (OpenSpec.ofChange intervalEncodesSpec)

/-- ITS FALSE NEIGHBOUR: 'it returns false'. Refute it at one input. -/
def intervalEncodesWrong : ChangeSpec := { name := "intervalEncodes", fn := fun _ => fun
  | [d1, d2] => { results := [.lit (.bool false)], args := [d1, d2] }
  | _ => none }
def IntervalEncodesWrongFalsely : Prop := intervalEncodesRow.holds Tryd.pinned (OpenSpec.ofChange intervalEncodesWrong)

/-- 'dasdlaw17.IntervalInverts': WHATEVER THE INPUT: true; the input reads as it did. -/
def intervalInvertsSpec : ChangeSpec := { name := "intervalInverts", fn := fun _ => fun
  | [d1, d2] => { results := [.lit (.bool true)], args := [d1, d2] }
  | _ => none }
def intervalInvertsRow : OpenClaim := { program := "ytnkhifgppcnmkaadoor", sum := "084bf33a1e17b82c174915e403cb6488df38cee42dc3db20b45fa9ea26cba974", func := "dasd/dasdlaw17.IntervalInverts", spec := "intervalInverts", inPlace := ["internal/bytealg.IndexByteString", "internal/bytealg.IndexString"], unfollowed := true, recurses := true, named := ["unicode/utf8.first", "unicode/utf8.acceptRanges", "internal/bytealg.MaxLen"], apart := false, laid := [("unicode/utf8.acceptRanges", laid_unicode_utf8_acceptRanges), ("unicode/utf8.first", laid_unicode_utf8_first)] }
def IntervalInvertsSaid : Prop := intervalInvertsRow.holds Tryd.pinned (OpenSpec.ofChange intervalInvertsSpec)

/-- ITS FALSE NEIGHBOUR: 'it returns false'. Refute it at one input. -/
def intervalInvertsWrong : ChangeSpec := { name := "intervalInverts", fn := fun _ => fun
  | [d1, d2] => { results := [.lit (.bool false)], args := [d1, d2] }
  | _ => none }
def IntervalInvertsWrongFalsely : Prop := intervalInvertsRow.holds Tryd.pinned (OpenSpec.ofChange intervalInvertsWrong)

/-- 'dasdlaw17.IntervalShrinks': WHATEVER THE INPUT: true; the input reads as it did. -/
def intervalShrinksSpec : ChangeSpec := { name := "intervalShrinks", fn := fun _ => fun
  | [d1, d2] => { results := [.lit (.bool true)], args := [d1, d2] }
  | _ => none }
def intervalShrinksRow : OpenClaim := { program := "ytnkhifgppcnmkaadoor", sum := "084bf33a1e17b82c174915e403cb6488df38cee42dc3db20b45fa9ea26cba974", func := "dasd/dasdlaw17.IntervalShrinks", spec := "intervalShrinks", inPlace := ["internal/bytealg.IndexByteString", "internal/bytealg.IndexString"], unfollowed := true, recurses := true, named := ["unicode/utf8.first", "unicode/utf8.acceptRanges", "internal/bytealg.MaxLen"], apart := false, laid := [("unicode/utf8.acceptRanges", laid_unicode_utf8_acceptRanges), ("unicode/utf8.first", laid_unicode_utf8_first)] }
def IntervalShrinksSaid : Prop := intervalShrinksRow.holds Tryd.pinned (OpenSpec.ofChange intervalShrinksSpec)

/-- ITS FALSE NEIGHBOUR: 'it returns false'. Refute it at one input. -/
def intervalShrinksWrong : ChangeSpec := { name := "intervalShrinks", fn := fun _ => fun
  | [d1, d2] => { results := [.lit (.bool false)], args := [d1, d2] }
  | _ => none }
def IntervalShrinksWrongFalsely : Prop := intervalShrinksRow.holds Tryd.pinned (OpenSpec.ofChange intervalShrinksWrong)

/-- 'dasdlaw17.IntervalSlots': WHATEVER THE INPUT: true; the input reads as it did. -/
def intervalSlotsSpec : ChangeSpec := { name := "intervalSlots", fn := fun _ => fun
  | [d1, d2, d3, d4] => { results := [.lit (.bool true)], args := [d1, d2, d3, d4] }
  | _ => none }
def intervalSlotsRow : OpenClaim := { program := "ytnkhifgppcnmkaadoor", sum := "084bf33a1e17b82c174915e403cb6488df38cee42dc3db20b45fa9ea26cba974", func := "dasd/dasdlaw17.IntervalSlots", spec := "intervalSlots", inPlace := ["internal/bytealg.IndexByteString", "internal/bytealg.IndexString", "internal/abi.NoEscape", "internal/bytealg.MakeNoZero"], unfollowed := true, recurses := true, named := ["unicode/utf8.first", "unicode/utf8.acceptRanges", "internal/bytealg.MaxLen"], apart := false, laid := [("unicode/utf8.acceptRanges", laid_unicode_utf8_acceptRanges), ("unicode/utf8.first", laid_unicode_utf8_first)] }
def IntervalSlotsSaid : Prop := intervalSlotsRow.holds Tryd.pinned (OpenSpec.ofChange intervalSlotsSpec)

/-- ITS FALSE NEIGHBOUR: 'it returns false'. Refute it at one input. -/
def intervalSlotsWrong : ChangeSpec := { name := "intervalSlots", fn := fun _ => fun
  | [d1, d2, d3, d4] => { results := [.lit (.bool false)], args := [d1, d2, d3, d4] }
  | _ => none }
def IntervalSlotsWrongFalsely : Prop := intervalSlotsRow.holds Tryd.pinned (OpenSpec.ofChange intervalSlotsWrong)

/-- 'dasdlaw17.IntervalSlotsInvert': WHATEVER THE INPUT: true; the input reads as it did. -/
def intervalSlotsInvertSpec : ChangeSpec := { name := "intervalSlotsInvert", fn := fun _ => fun
  | [d1, d2, d3, d4] => { results := [.lit (.bool true)], args := [d1, d2, d3, d4] }
  | _ => none }
def intervalSlotsInvertRow : OpenClaim := { program := "ytnkhifgppcnmkaadoor", sum := "084bf33a1e17b82c174915e403cb6488df38cee42dc3db20b45fa9ea26cba974", func := "dasd/dasdlaw17.IntervalSlotsInvert", spec := "intervalSlotsInvert", inPlace := ["internal/bytealg.IndexByteString", "internal/bytealg.IndexString", "internal/abi.NoEscape", "internal/bytealg.MakeNoZero"], unfollowed := true, recurses := true, named := ["unicode/utf8.first", "unicode/utf8.acceptRanges", "internal/bytealg.MaxLen"], apart := false, laid := [("unicode/utf8.acceptRanges", laid_unicode_utf8_acceptRanges), ("unicode/utf8.first", laid_unicode_utf8_first)] }
def IntervalSlotsInvertSaid : Prop := intervalSlotsInvertRow.holds Tryd.pinned (OpenSpec.ofChange intervalSlotsInvertSpec)

/-- ITS FALSE NEIGHBOUR: 'it returns false'. Refute it at one input. -/
def intervalSlotsInvertWrong : ChangeSpec := { name := "intervalSlotsInvert", fn := fun _ => fun
  | [d1, d2, d3, d4] => { results := [.lit (.bool false)], args := [d1, d2, d3, d4] }
  | _ => none }
def IntervalSlotsInvertWrongFalsely : Prop := intervalSlotsInvertRow.holds Tryd.pinned (OpenSpec.ofChange intervalSlotsInvertWrong)

/-- 'dasdlaw18.EntryseqAppends': WHATEVER THE INPUT: true; the input reads as it did. -/
def entryseqAppendsSpec : ChangeSpec := { name := "entryseqAppends", fn := fun _ => fun
  | [d1, d2] => { results := [.lit (.bool true)], args := [d1, d2] }
  | _ => none }
def entryseqAppendsRow : OpenClaim := { program := "ytnkhifgppcnmkaadoor", sum := "084bf33a1e17b82c174915e403cb6488df38cee42dc3db20b45fa9ea26cba974", func := "dasd/dasdlaw18.EntryseqAppends", spec := "entryseqAppends", inPlace := ["internal/bytealg.IndexByteString", "internal/bytealg.IndexString"], unfollowed := true, recurses := true, named := ["unicode/utf8.first", "unicode/utf8.acceptRanges", "internal/bytealg.MaxLen"], apart := false, laid := [("unicode/utf8.acceptRanges", laid_unicode_utf8_acceptRanges), ("unicode/utf8.first", laid_unicode_utf8_first)] }
def EntryseqAppendsSaid : Prop := entryseqAppendsRow.holds Tryd.pinned (OpenSpec.ofChange entryseqAppendsSpec)

/-- ITS FALSE NEIGHBOUR: 'it returns false'. Refute it at one input. -/
def entryseqAppendsWrong : ChangeSpec := { name := "entryseqAppends", fn := fun _ => fun
  | [d1, d2] => { results := [.lit (.bool false)], args := [d1, d2] }
  | _ => none }
def EntryseqAppendsWrongFalsely : Prop := entryseqAppendsRow.holds Tryd.pinned (OpenSpec.ofChange entryseqAppendsWrong)

/-- 'dasdlaw18.EntryseqPlaces': WHATEVER THE INPUT: true; the input reads as it did. -/
def entryseqPlacesSpec : ChangeSpec := { name := "entryseqPlaces", fn := fun _ => fun
  | [d1, d2, d3] => { results := [.lit (.bool true)], args := [d1, d2, d3] }
  | _ => none }
def entryseqPlacesRow : OpenClaim := { program := "ytnkhifgppcnmkaadoor", sum := "084bf33a1e17b82c174915e403cb6488df38cee42dc3db20b45fa9ea26cba974", func := "dasd/dasdlaw18.EntryseqPlaces", spec := "entryseqPlaces", inPlace := ["internal/bytealg.IndexByteString", "internal/bytealg.IndexString"], unfollowed := true, recurses := true, named := ["unicode/utf8.first", "unicode/utf8.acceptRanges", "internal/bytealg.MaxLen"], apart := false, laid := [("unicode/utf8.acceptRanges", laid_unicode_utf8_acceptRanges), ("unicode/utf8.first", laid_unicode_utf8_first)] }
def EntryseqPlacesSaid : Prop := entryseqPlacesRow.holds Tryd.pinned (OpenSpec.ofChange entryseqPlacesSpec)

/-- ITS FALSE NEIGHBOUR: 'it returns false'. Refute it at one input. -/
def entryseqPlacesWrong : ChangeSpec := { name := "entryseqPlaces", fn := fun _ => fun
  | [d1, d2, d3] => { results := [.lit (.bool false)], args := [d1, d2, d3] }
  | _ => none }
def EntryseqPlacesWrongFalsely : Prop := entryseqPlacesRow.holds Tryd.pinned (OpenSpec.ofChange entryseqPlacesWrong)

/-- 'dasdlaw18.EntryseqWrites': WHATEVER THE INPUT: true; the input reads as it did. -/
def entryseqWritesSpec : ChangeSpec := { name := "entryseqWrites", fn := fun _ => fun
  | [d1, d2, d3, d4, d5, d6] => { results := [.lit (.bool true)], args := [d1, d2, d3, d4, d5, d6] }
  | _ => none }
def entryseqWritesRow : OpenClaim := { program := "ytnkhifgppcnmkaadoor", sum := "084bf33a1e17b82c174915e403cb6488df38cee42dc3db20b45fa9ea26cba974", func := "dasd/dasdlaw18.EntryseqWrites", spec := "entryseqWrites", inPlace := ["internal/bytealg.IndexByteString", "internal/bytealg.IndexString"], unfollowed := true, recurses := true, named := ["unicode/utf8.first", "unicode/utf8.acceptRanges", "internal/bytealg.MaxLen"], apart := false, laid := [("unicode/utf8.acceptRanges", laid_unicode_utf8_acceptRanges), ("unicode/utf8.first", laid_unicode_utf8_first)] }
def EntryseqWritesSaid : Prop := entryseqWritesRow.holds Tryd.pinned (OpenSpec.ofChange entryseqWritesSpec)

/-- ITS FALSE NEIGHBOUR: 'it returns false'. Refute it at one input. -/
def entryseqWritesWrong : ChangeSpec := { name := "entryseqWrites", fn := fun _ => fun
  | [d1, d2, d3, d4, d5, d6] => { results := [.lit (.bool false)], args := [d1, d2, d3, d4, d5, d6] }
  | _ => none }
def EntryseqWritesWrongFalsely : Prop := entryseqWritesRow.holds Tryd.pinned (OpenSpec.ofChange entryseqWritesWrong)

/-- 'dasdlaw18.EntryseqKeeps': WHATEVER THE INPUT: true; the input reads as it did. -/
def entryseqKeepsSpec : ChangeSpec := { name := "entryseqKeeps", fn := fun _ => fun
  | [d1, d2, d3] => { results := [.lit (.bool true)], args := [d1, d2, d3] }
  | _ => none }
def entryseqKeepsRow : OpenClaim := { program := "ytnkhifgppcnmkaadoor", sum := "084bf33a1e17b82c174915e403cb6488df38cee42dc3db20b45fa9ea26cba974", func := "dasd/dasdlaw18.EntryseqKeeps", spec := "entryseqKeeps", inPlace := ["internal/bytealg.IndexByteString", "internal/bytealg.IndexString"], unfollowed := true, recurses := true, named := ["unicode/utf8.first", "unicode/utf8.acceptRanges", "internal/bytealg.MaxLen"], apart := false, laid := [("unicode/utf8.acceptRanges", laid_unicode_utf8_acceptRanges), ("unicode/utf8.first", laid_unicode_utf8_first)] }
def EntryseqKeepsSaid : Prop := entryseqKeepsRow.holds Tryd.pinned (OpenSpec.ofChange entryseqKeepsSpec)

/-- ITS FALSE NEIGHBOUR: 'it returns false'. Refute it at one input. -/
def entryseqKeepsWrong : ChangeSpec := { name := "entryseqKeeps", fn := fun _ => fun
  | [d1, d2, d3] => { results := [.lit (.bool false)], args := [d1, d2, d3] }
  | _ => none }
def EntryseqKeepsWrongFalsely : Prop := entryseqKeepsRow.holds Tryd.pinned (OpenSpec.ofChange entryseqKeepsWrong)

/-- 'dasdlaw18.EntryseqReplaces': WHATEVER THE INPUT: true; the input reads as it did. -/
def entryseqReplacesSpec : ChangeSpec := { name := "entryseqReplaces", fn := fun _ => fun
  | [d1, d2, d3, d4] => { results := [.lit (.bool true)], args := [d1, d2, d3, d4] }
  | _ => none }
def entryseqReplacesRow : OpenClaim := { program := "ytnkhifgppcnmkaadoor", sum := "084bf33a1e17b82c174915e403cb6488df38cee42dc3db20b45fa9ea26cba974", func := "dasd/dasdlaw18.EntryseqReplaces", spec := "entryseqReplaces", inPlace := ["internal/bytealg.IndexByteString", "internal/bytealg.IndexString"], unfollowed := true, recurses := true, named := ["unicode/utf8.first", "unicode/utf8.acceptRanges", "internal/bytealg.MaxLen"], apart := false, laid := [("unicode/utf8.acceptRanges", laid_unicode_utf8_acceptRanges), ("unicode/utf8.first", laid_unicode_utf8_first)] }
def EntryseqReplacesSaid : Prop := entryseqReplacesRow.holds Tryd.pinned (OpenSpec.ofChange entryseqReplacesSpec)

/-- ITS FALSE NEIGHBOUR: 'it returns false'. Refute it at one input. -/
def entryseqReplacesWrong : ChangeSpec := { name := "entryseqReplaces", fn := fun _ => fun
  | [d1, d2, d3, d4] => { results := [.lit (.bool false)], args := [d1, d2, d3, d4] }
  | _ => none }
def EntryseqReplacesWrongFalsely : Prop := entryseqReplacesRow.holds Tryd.pinned (OpenSpec.ofChange entryseqReplacesWrong)

/-- 'dasdlaw18.EntryseqReads': WHATEVER THE INPUT: true; the input reads as it did. -/
def entryseqReadsSpec : ChangeSpec := { name := "entryseqReads", fn := fun _ => fun
  | [d1, d2, d3, d4] => { results := [.lit (.bool true)], args := [d1, d2, d3, d4] }
  | _ => none }
def entryseqReadsRow : OpenClaim := { program := "ytnkhifgppcnmkaadoor", sum := "084bf33a1e17b82c174915e403cb6488df38cee42dc3db20b45fa9ea26cba974", func := "dasd/dasdlaw18.EntryseqReads", spec := "entryseqReads", inPlace := ["internal/bytealg.IndexByteString", "internal/bytealg.IndexString"], unfollowed := true, recurses := true, named := ["unicode/utf8.first", "unicode/utf8.acceptRanges", "internal/bytealg.MaxLen"], apart := false, laid := [("unicode/utf8.acceptRanges", laid_unicode_utf8_acceptRanges), ("unicode/utf8.first", laid_unicode_utf8_first)] }
def EntryseqReadsSaid : Prop := entryseqReadsRow.holds Tryd.pinned (OpenSpec.ofChange entryseqReadsSpec)

/-- ITS FALSE NEIGHBOUR: 'it returns false'. Refute it at one input. -/
def entryseqReadsWrong : ChangeSpec := { name := "entryseqReads", fn := fun _ => fun
  | [d1, d2, d3, d4] => { results := [.lit (.bool false)], args := [d1, d2, d3, d4] }
  | _ => none }
def EntryseqReadsWrongFalsely : Prop := entryseqReadsRow.holds Tryd.pinned (OpenSpec.ofChange entryseqReadsWrong)

/-- 'dasdlaw18.EntryseqOrder': WHATEVER THE INPUT: true; the input reads as it did. -/
def entryseqOrderSpec : ChangeSpec := { name := "entryseqOrder", fn := fun _ => fun
  | [d1, d2] => { results := [.lit (.bool true)], args := [d1, d2] }
  | _ => none }
def entryseqOrderRow : OpenClaim := { program := "ytnkhifgppcnmkaadoor", sum := "084bf33a1e17b82c174915e403cb6488df38cee42dc3db20b45fa9ea26cba974", func := "dasd/dasdlaw18.EntryseqOrder", spec := "entryseqOrder", inPlace := ["internal/bytealg.IndexByteString", "internal/bytealg.IndexString"], unfollowed := true, recurses := true, named := ["unicode/utf8.first", "unicode/utf8.acceptRanges", "internal/bytealg.MaxLen"], apart := false, laid := [("unicode/utf8.acceptRanges", laid_unicode_utf8_acceptRanges), ("unicode/utf8.first", laid_unicode_utf8_first)] }
def EntryseqOrderSaid : Prop := entryseqOrderRow.holds Tryd.pinned (OpenSpec.ofChange entryseqOrderSpec)

/-- ITS FALSE NEIGHBOUR: 'it returns false'. Refute it at one input. -/
def entryseqOrderWrong : ChangeSpec := { name := "entryseqOrder", fn := fun _ => fun
  | [d1, d2] => { results := [.lit (.bool false)], args := [d1, d2] }
  | _ => none }
def EntryseqOrderWrongFalsely : Prop := entryseqOrderRow.holds Tryd.pinned (OpenSpec.ofChange entryseqOrderWrong)

/-- 'dasdlaw19.RelativeReach': WHATEVER THE INPUT: true; the input reads as it did. -/
def relativeReachSpec : ChangeSpec := { name := "relativeReach", fn := fun _ => fun
  | [d1, d2] => { results := [.lit (.bool true)], args := [d1, d2] }
  | _ => none }
def relativeReachRow : OpenClaim := { program := "ytnkhifgppcnmkaadoor", sum := "084bf33a1e17b82c174915e403cb6488df38cee42dc3db20b45fa9ea26cba974", func := "dasd/dasdlaw19.RelativeReach", spec := "relativeReach", inPlace := ["internal/bytealg.IndexByteString", "internal/bytealg.IndexString", "internal/abi.NoEscape", "internal/bytealg.MakeNoZero"], unfollowed := true, recurses := true, named := ["unicode/utf8.first", "unicode/utf8.acceptRanges", "internal/bytealg.MaxLen"], apart := false, laid := [("unicode/utf8.acceptRanges", laid_unicode_utf8_acceptRanges), ("unicode/utf8.first", laid_unicode_utf8_first)] }
def RelativeReachSaid : Prop := relativeReachRow.holds Tryd.pinned (OpenSpec.ofChange relativeReachSpec)

/-- ITS FALSE NEIGHBOUR: 'it returns false'. Refute it at one input. -/
def relativeReachWrong : ChangeSpec := { name := "relativeReach", fn := fun _ => fun
  | [d1, d2] => { results := [.lit (.bool false)], args := [d1, d2] }
  | _ => none }
def RelativeReachWrongFalsely : Prop := relativeReachRow.holds Tryd.pinned (OpenSpec.ofChange relativeReachWrong)

/-- 'dasdlaw19.RelativeSteps': WHATEVER THE INPUT: true; the input reads as it did. -/
def relativeStepsSpec : ChangeSpec := { name := "relativeSteps", fn := fun _ => fun
  | [d1, d2] => { results := [.lit (.bool true)], args := [d1, d2] }
  | _ => none }
def relativeStepsRow : OpenClaim := { program := "ytnkhifgppcnmkaadoor", sum := "084bf33a1e17b82c174915e403cb6488df38cee42dc3db20b45fa9ea26cba974", func := "dasd/dasdlaw19.RelativeSteps", spec := "relativeSteps", inPlace := ["internal/bytealg.IndexByteString", "internal/bytealg.IndexString", "internal/abi.NoEscape", "internal/bytealg.MakeNoZero"], unfollowed := true, recurses := true, named := ["unicode/utf8.first", "unicode/utf8.acceptRanges", "internal/bytealg.MaxLen"], apart := false, laid := [("unicode/utf8.acceptRanges", laid_unicode_utf8_acceptRanges), ("unicode/utf8.first", laid_unicode_utf8_first)] }
def RelativeStepsSaid : Prop := relativeStepsRow.holds Tryd.pinned (OpenSpec.ofChange relativeStepsSpec)

/-- ITS FALSE NEIGHBOUR: 'it returns false'. Refute it at one input. -/
def relativeStepsWrong : ChangeSpec := { name := "relativeSteps", fn := fun _ => fun
  | [d1, d2] => { results := [.lit (.bool false)], args := [d1, d2] }
  | _ => none }
def RelativeStepsWrongFalsely : Prop := relativeStepsRow.holds Tryd.pinned (OpenSpec.ofChange relativeStepsWrong)

/-- 'dasdlaw19.RelativeWrites': WHATEVER THE INPUT: true; the input reads as it did. -/
def relativeWritesSpec : ChangeSpec := { name := "relativeWrites", fn := fun _ => fun
  | [d1, d2, d3, d4, d5] => { results := [.lit (.bool true)], args := [d1, d2, d3, d4, d5] }
  | _ => none }
def relativeWritesRow : OpenClaim := { program := "ytnkhifgppcnmkaadoor", sum := "084bf33a1e17b82c174915e403cb6488df38cee42dc3db20b45fa9ea26cba974", func := "dasd/dasdlaw19.RelativeWrites", spec := "relativeWrites", inPlace := ["internal/bytealg.IndexByteString", "internal/bytealg.IndexString", "internal/abi.NoEscape", "internal/bytealg.MakeNoZero"], unfollowed := true, recurses := true, named := ["unicode/utf8.first", "unicode/utf8.acceptRanges", "internal/bytealg.MaxLen"], apart := false, laid := [("unicode/utf8.acceptRanges", laid_unicode_utf8_acceptRanges), ("unicode/utf8.first", laid_unicode_utf8_first)] }
def RelativeWritesSaid : Prop := relativeWritesRow.holds Tryd.pinned (OpenSpec.ofChange relativeWritesSpec)

/-- ITS FALSE NEIGHBOUR: 'it returns false'. Refute it at one input. -/
def relativeWritesWrong : ChangeSpec := { name := "relativeWrites", fn := fun _ => fun
  | [d1, d2, d3, d4, d5] => { results := [.lit (.bool false)], args := [d1, d2, d3, d4, d5] }
  | _ => none }
def RelativeWritesWrongFalsely : Prop := relativeWritesRow.holds Tryd.pinned (OpenSpec.ofChange relativeWritesWrong)

/- THE SECOND FORM. 'bulk': how many values and letters a reading holds, each counted each time it is reached (what is shared counts as often as it is met; a slice's spare places count too). A statement '..UptoSaid' is the law's where the arguments, and the package variables that the reading takes, are together of bulk at most 1048576: NARROWER than '..Said'. Prove '..Said' where nothing that the law and all that it calls make is longer than what came in: it says more and counts as full. Else prove '..UptoSaid'. A law counts once. -/
mutual
def uptoBulk {H : Type} : DataW H → Nat
  | .lit (.string bytes) => bytes.length + 1
  | .lit _ => 1
  | .nil => 1
  | .ptr d => uptoBulk d + 1
  | .slice elems spare => uptoBulkAll elems + uptoBulkAll spare + 1
  | .agg parts => uptoBulkAll parts + 1
  | .iface _ d => uptoBulk d + 1
  | .map entries => uptoBulkEntries entries + 1
  | .held _ => 1
def uptoBulkAll {H : Type} : List (DataW H) → Nat
  | [] => 0
  | d :: r => uptoBulk d + uptoBulkAll r
def uptoBulkEntries {H : Type} : List (Lit × DataW H) → Nat
  | [] => 0
  | x :: r => uptoBulkEntry x + uptoBulkEntries r
def uptoBulkEntry {H : Type} : Lit × DataW H → Nat
  | (.string bytes, d) => bytes.length + uptoBulk d + 1
  | (_, d) => uptoBulk d + 1
 end
def uptoSmall : (H : Type) → List (DataW H) → Bool := fun _ ds => decide (uptoBulkAll ds ≤ 1048576)
def OpenSpec.upto (s : _root_.Go.ChangeSpec) : _root_.Go.OpenSpec := { _root_.Go.OpenSpec.ofChange s with cond := some uptoSmall }

/-- 'dasdlaw19.RelativeOthers', WHERE WHAT IT READS IS OF BULK AT MOST 1048576: true; the input reads as it did. -/
def relativeOthersUptoRow : OpenClaim := { program := "ytnkhifgppcnmkaadoor", sum := "084bf33a1e17b82c174915e403cb6488df38cee42dc3db20b45fa9ea26cba974", func := "dasd/dasdlaw19.RelativeOthers", spec := "relativeOthers", inPlace := ["internal/bytealg.IndexByteString", "internal/bytealg.IndexString", "internal/abi.NoEscape", "internal/bytealg.MakeNoZero"], unfollowed := true, recurses := true, named := ["unicode/utf8.first", "unicode/utf8.acceptRanges", "internal/bytealg.MaxLen"], apart := false, laid := [("unicode/utf8.acceptRanges", laid_unicode_utf8_acceptRanges), ("unicode/utf8.first", laid_unicode_utf8_first)], narrowed := true }
def RelativeOthersUptoSaid : Prop := relativeOthersUptoRow.holds Tryd.pinned (OpenSpec.upto relativeOthersSpec)

/-- 'dasdlaw19.RelativeKeeps', WHERE WHAT IT READS IS OF BULK AT MOST 1048576: true; the input reads as it did. -/
def relativeKeepsUptoRow : OpenClaim := { program := "ytnkhifgppcnmkaadoor", sum := "084bf33a1e17b82c174915e403cb6488df38cee42dc3db20b45fa9ea26cba974", func := "dasd/dasdlaw19.RelativeKeeps", spec := "relativeKeeps", inPlace := ["internal/bytealg.IndexByteString", "internal/bytealg.IndexString", "internal/abi.NoEscape", "internal/bytealg.MakeNoZero"], unfollowed := true, recurses := true, named := ["unicode/utf8.first", "unicode/utf8.acceptRanges", "internal/bytealg.MaxLen"], apart := false, laid := [("unicode/utf8.acceptRanges", laid_unicode_utf8_acceptRanges), ("unicode/utf8.first", laid_unicode_utf8_first)], narrowed := true }
def RelativeKeepsUptoSaid : Prop := relativeKeepsUptoRow.holds Tryd.pinned (OpenSpec.upto relativeKeepsSpec)

/-- 'dasdlaw17.IntervalDecodes', WHERE WHAT IT READS IS OF BULK AT MOST 1048576: true; the input reads as it did. -/
def intervalDecodesUptoRow : OpenClaim := { program := "ytnkhifgppcnmkaadoor", sum := "084bf33a1e17b82c174915e403cb6488df38cee42dc3db20b45fa9ea26cba974", func := "dasd/dasdlaw17.IntervalDecodes", spec := "intervalDecodes", inPlace := ["internal/bytealg.IndexByteString", "internal/bytealg.IndexString"], unfollowed := true, recurses := true, named := ["unicode/utf8.first", "unicode/utf8.acceptRanges", "internal/bytealg.MaxLen"], apart := false, laid := [("unicode/utf8.acceptRanges", laid_unicode_utf8_acceptRanges), ("unicode/utf8.first", laid_unicode_utf8_first)], narrowed := true }
def IntervalDecodesUptoSaid : Prop := intervalDecodesUptoRow.holds Tryd.pinned (OpenSpec.upto intervalDecodesSpec)

/-- 'dasdlaw17.IntervalStrict', WHERE WHAT IT READS IS OF BULK AT MOST 1048576: true; the input reads as it did. -/
def intervalStrictUptoRow : OpenClaim := { program := "ytnkhifgppcnmkaadoor", sum := "084bf33a1e17b82c174915e403cb6488df38cee42dc3db20b45fa9ea26cba974", func := "dasd/dasdlaw17.IntervalStrict", spec := "intervalStrict", inPlace := ["internal/bytealg.IndexByteString", "internal/bytealg.IndexString"], unfollowed := true, recurses := true, named := ["unicode/utf8.first", "unicode/utf8.acceptRanges", "internal/bytealg.MaxLen"], apart := false, laid := [("unicode/utf8.acceptRanges", laid_unicode_utf8_acceptRanges), ("unicode/utf8.first", laid_unicode_utf8_first)], narrowed := true }
def IntervalStrictUptoSaid : Prop := intervalStrictUptoRow.holds Tryd.pinned (OpenSpec.upto intervalStrictSpec)

/-- 'dasdlaw17.IntervalEncodes', WHERE WHAT IT READS IS OF BULK AT MOST 1048576: true; the input reads as it did. -/
def intervalEncodesUptoRow : OpenClaim := { program := "ytnkhifgppcnmkaadoor", sum := "084bf33a1e17b82c174915e403cb6488df38cee42dc3db20b45fa9ea26cba974", func := "dasd/dasdlaw17.IntervalEncodes", spec := "intervalEncodes", inPlace := ["internal/bytealg.IndexByteString", "internal/bytealg.IndexString"], unfollowed := true, recurses := true, named := ["unicode/utf8.first", "unicode/utf8.acceptRanges", "internal/bytealg.MaxLen"], apart := false, laid := [("unicode/utf8.acceptRanges", laid_unicode_utf8_acceptRanges), ("unicode/utf8.first", laid_unicode_utf8_first)], narrowed := true }
def IntervalEncodesUptoSaid : Prop := intervalEncodesUptoRow.holds Tryd.pinned (OpenSpec.upto intervalEncodesSpec)

/-- 'dasdlaw17.IntervalInverts', WHERE WHAT IT READS IS OF BULK AT MOST 1048576: true; the input reads as it did. -/
def intervalInvertsUptoRow : OpenClaim := { program := "ytnkhifgppcnmkaadoor", sum := "084bf33a1e17b82c174915e403cb6488df38cee42dc3db20b45fa9ea26cba974", func := "dasd/dasdlaw17.IntervalInverts", spec := "intervalInverts", inPlace := ["internal/bytealg.IndexByteString", "internal/bytealg.IndexString"], unfollowed := true, recurses := true, named := ["unicode/utf8.first", "unicode/utf8.acceptRanges", "internal/bytealg.MaxLen"], apart := false, laid := [("unicode/utf8.acceptRanges", laid_unicode_utf8_acceptRanges), ("unicode/utf8.first", laid_unicode_utf8_first)], narrowed := true }
def IntervalInvertsUptoSaid : Prop := intervalInvertsUptoRow.holds Tryd.pinned (OpenSpec.upto intervalInvertsSpec)

/-- 'dasdlaw17.IntervalShrinks', WHERE WHAT IT READS IS OF BULK AT MOST 1048576: true; the input reads as it did. -/
def intervalShrinksUptoRow : OpenClaim := { program := "ytnkhifgppcnmkaadoor", sum := "084bf33a1e17b82c174915e403cb6488df38cee42dc3db20b45fa9ea26cba974", func := "dasd/dasdlaw17.IntervalShrinks", spec := "intervalShrinks", inPlace := ["internal/bytealg.IndexByteString", "internal/bytealg.IndexString"], unfollowed := true, recurses := true, named := ["unicode/utf8.first", "unicode/utf8.acceptRanges", "internal/bytealg.MaxLen"], apart := false, laid := [("unicode/utf8.acceptRanges", laid_unicode_utf8_acceptRanges), ("unicode/utf8.first", laid_unicode_utf8_first)], narrowed := true }
def IntervalShrinksUptoSaid : Prop := intervalShrinksUptoRow.holds Tryd.pinned (OpenSpec.upto intervalShrinksSpec)

/-- 'dasdlaw17.IntervalSlots', WHERE WHAT IT READS IS OF BULK AT MOST 1048576: true; the input reads as it did. -/
def intervalSlotsUptoRow : OpenClaim := { program := "ytnkhifgppcnmkaadoor", sum := "084bf33a1e17b82c174915e403cb6488df38cee42dc3db20b45fa9ea26cba974", func := "dasd/dasdlaw17.IntervalSlots", spec := "intervalSlots", inPlace := ["internal/bytealg.IndexByteString", "internal/bytealg.IndexString", "internal/abi.NoEscape", "internal/bytealg.MakeNoZero"], unfollowed := true, recurses := true, named := ["unicode/utf8.first", "unicode/utf8.acceptRanges", "internal/bytealg.MaxLen"], apart := false, laid := [("unicode/utf8.acceptRanges", laid_unicode_utf8_acceptRanges), ("unicode/utf8.first", laid_unicode_utf8_first)], narrowed := true }
def IntervalSlotsUptoSaid : Prop := intervalSlotsUptoRow.holds Tryd.pinned (OpenSpec.upto intervalSlotsSpec)

/-- 'dasdlaw17.IntervalSlotsInvert', WHERE WHAT IT READS IS OF BULK AT MOST 1048576: true; the input reads as it did. -/
def intervalSlotsInvertUptoRow : OpenClaim := { program := "ytnkhifgppcnmkaadoor", sum := "084bf33a1e17b82c174915e403cb6488df38cee42dc3db20b45fa9ea26cba974", func := "dasd/dasdlaw17.IntervalSlotsInvert", spec := "intervalSlotsInvert", inPlace := ["internal/bytealg.IndexByteString", "internal/bytealg.IndexString", "internal/abi.NoEscape", "internal/bytealg.MakeNoZero"], unfollowed := true, recurses := true, named := ["unicode/utf8.first", "unicode/utf8.acceptRanges", "internal/bytealg.MaxLen"], apart := false, laid := [("unicode/utf8.acceptRanges", laid_unicode_utf8_acceptRanges), ("unicode/utf8.first", laid_unicode_utf8_first)], narrowed := true }
def IntervalSlotsInvertUptoSaid : Prop := intervalSlotsInvertUptoRow.holds Tryd.pinned (OpenSpec.upto intervalSlotsInvertSpec)

/-- 'dasdlaw18.EntryseqAppends', WHERE WHAT IT READS IS OF BULK AT MOST 1048576: true; the input reads as it did. -/
def entryseqAppendsUptoRow : OpenClaim := { program := "ytnkhifgppcnmkaadoor", sum := "084bf33a1e17b82c174915e403cb6488df38cee42dc3db20b45fa9ea26cba974", func := "dasd/dasdlaw18.EntryseqAppends", spec := "entryseqAppends", inPlace := ["internal/bytealg.IndexByteString", "internal/bytealg.IndexString"], unfollowed := true, recurses := true, named := ["unicode/utf8.first", "unicode/utf8.acceptRanges", "internal/bytealg.MaxLen"], apart := false, laid := [("unicode/utf8.acceptRanges", laid_unicode_utf8_acceptRanges), ("unicode/utf8.first", laid_unicode_utf8_first)], narrowed := true }
def EntryseqAppendsUptoSaid : Prop := entryseqAppendsUptoRow.holds Tryd.pinned (OpenSpec.upto entryseqAppendsSpec)

/-- 'dasdlaw18.EntryseqPlaces', WHERE WHAT IT READS IS OF BULK AT MOST 1048576: true; the input reads as it did. -/
def entryseqPlacesUptoRow : OpenClaim := { program := "ytnkhifgppcnmkaadoor", sum := "084bf33a1e17b82c174915e403cb6488df38cee42dc3db20b45fa9ea26cba974", func := "dasd/dasdlaw18.EntryseqPlaces", spec := "entryseqPlaces", inPlace := ["internal/bytealg.IndexByteString", "internal/bytealg.IndexString"], unfollowed := true, recurses := true, named := ["unicode/utf8.first", "unicode/utf8.acceptRanges", "internal/bytealg.MaxLen"], apart := false, laid := [("unicode/utf8.acceptRanges", laid_unicode_utf8_acceptRanges), ("unicode/utf8.first", laid_unicode_utf8_first)], narrowed := true }
def EntryseqPlacesUptoSaid : Prop := entryseqPlacesUptoRow.holds Tryd.pinned (OpenSpec.upto entryseqPlacesSpec)

/-- 'dasdlaw18.EntryseqWrites', WHERE WHAT IT READS IS OF BULK AT MOST 1048576: true; the input reads as it did. -/
def entryseqWritesUptoRow : OpenClaim := { program := "ytnkhifgppcnmkaadoor", sum := "084bf33a1e17b82c174915e403cb6488df38cee42dc3db20b45fa9ea26cba974", func := "dasd/dasdlaw18.EntryseqWrites", spec := "entryseqWrites", inPlace := ["internal/bytealg.IndexByteString", "internal/bytealg.IndexString"], unfollowed := true, recurses := true, named := ["unicode/utf8.first", "unicode/utf8.acceptRanges", "internal/bytealg.MaxLen"], apart := false, laid := [("unicode/utf8.acceptRanges", laid_unicode_utf8_acceptRanges), ("unicode/utf8.first", laid_unicode_utf8_first)], narrowed := true }
def EntryseqWritesUptoSaid : Prop := entryseqWritesUptoRow.holds Tryd.pinned (OpenSpec.upto entryseqWritesSpec)

/-- 'dasdlaw18.EntryseqKeeps', WHERE WHAT IT READS IS OF BULK AT MOST 1048576: true; the input reads as it did. -/
def entryseqKeepsUptoRow : OpenClaim := { program := "ytnkhifgppcnmkaadoor", sum := "084bf33a1e17b82c174915e403cb6488df38cee42dc3db20b45fa9ea26cba974", func := "dasd/dasdlaw18.EntryseqKeeps", spec := "entryseqKeeps", inPlace := ["internal/bytealg.IndexByteString", "internal/bytealg.IndexString"], unfollowed := true, recurses := true, named := ["unicode/utf8.first", "unicode/utf8.acceptRanges", "internal/bytealg.MaxLen"], apart := false, laid := [("unicode/utf8.acceptRanges", laid_unicode_utf8_acceptRanges), ("unicode/utf8.first", laid_unicode_utf8_first)], narrowed := true }
def EntryseqKeepsUptoSaid : Prop := entryseqKeepsUptoRow.holds Tryd.pinned (OpenSpec.upto entryseqKeepsSpec)

/-- 'dasdlaw18.EntryseqReplaces', WHERE WHAT IT READS IS OF BULK AT MOST 1048576: true; the input reads as it did. -/
def entryseqReplacesUptoRow : OpenClaim := { program := "ytnkhifgppcnmkaadoor", sum := "084bf33a1e17b82c174915e403cb6488df38cee42dc3db20b45fa9ea26cba974", func := "dasd/dasdlaw18.EntryseqReplaces", spec := "entryseqReplaces", inPlace := ["internal/bytealg.IndexByteString", "internal/bytealg.IndexString"], unfollowed := true, recurses := true, named := ["unicode/utf8.first", "unicode/utf8.acceptRanges", "internal/bytealg.MaxLen"], apart := false, laid := [("unicode/utf8.acceptRanges", laid_unicode_utf8_acceptRanges), ("unicode/utf8.first", laid_unicode_utf8_first)], narrowed := true }
def EntryseqReplacesUptoSaid : Prop := entryseqReplacesUptoRow.holds Tryd.pinned (OpenSpec.upto entryseqReplacesSpec)

/-- 'dasdlaw18.EntryseqReads', WHERE WHAT IT READS IS OF BULK AT MOST 1048576: true; the input reads as it did. -/
def entryseqReadsUptoRow : OpenClaim := { program := "ytnkhifgppcnmkaadoor", sum := "084bf33a1e17b82c174915e403cb6488df38cee42dc3db20b45fa9ea26cba974", func := "dasd/dasdlaw18.EntryseqReads", spec := "entryseqReads", inPlace := ["internal/bytealg.IndexByteString", "internal/bytealg.IndexString"], unfollowed := true, recurses := true, named := ["unicode/utf8.first", "unicode/utf8.acceptRanges", "internal/bytealg.MaxLen"], apart := false, laid := [("unicode/utf8.acceptRanges", laid_unicode_utf8_acceptRanges), ("unicode/utf8.first", laid_unicode_utf8_first)], narrowed := true }
def EntryseqReadsUptoSaid : Prop := entryseqReadsUptoRow.holds Tryd.pinned (OpenSpec.upto entryseqReadsSpec)

/-- 'dasdlaw18.EntryseqOrder', WHERE WHAT IT READS IS OF BULK AT MOST 1048576: true; the input reads as it did. -/
def entryseqOrderUptoRow : OpenClaim := { program := "ytnkhifgppcnmkaadoor", sum := "084bf33a1e17b82c174915e403cb6488df38cee42dc3db20b45fa9ea26cba974", func := "dasd/dasdlaw18.EntryseqOrder", spec := "entryseqOrder", inPlace := ["internal/bytealg.IndexByteString", "internal/bytealg.IndexString"], unfollowed := true, recurses := true, named := ["unicode/utf8.first", "unicode/utf8.acceptRanges", "internal/bytealg.MaxLen"], apart := false, laid := [("unicode/utf8.acceptRanges", laid_unicode_utf8_acceptRanges), ("unicode/utf8.first", laid_unicode_utf8_first)], narrowed := true }
def EntryseqOrderUptoSaid : Prop := entryseqOrderUptoRow.holds Tryd.pinned (OpenSpec.upto entryseqOrderSpec)

/-- 'dasdlaw19.RelativeReach', WHERE WHAT IT READS IS OF BULK AT MOST 1048576: true; the input reads as it did. -/
def relativeReachUptoRow : OpenClaim := { program := "ytnkhifgppcnmkaadoor", sum := "084bf33a1e17b82c174915e403cb6488df38cee42dc3db20b45fa9ea26cba974", func := "dasd/dasdlaw19.RelativeReach", spec := "relativeReach", inPlace := ["internal/bytealg.IndexByteString", "internal/bytealg.IndexString", "internal/abi.NoEscape", "internal/bytealg.MakeNoZero"], unfollowed := true, recurses := true, named := ["unicode/utf8.first", "unicode/utf8.acceptRanges", "internal/bytealg.MaxLen"], apart := false, laid := [("unicode/utf8.acceptRanges", laid_unicode_utf8_acceptRanges), ("unicode/utf8.first", laid_unicode_utf8_first)], narrowed := true }
def RelativeReachUptoSaid : Prop := relativeReachUptoRow.holds Tryd.pinned (OpenSpec.upto relativeReachSpec)

/-- 'dasdlaw19.RelativeSteps', WHERE WHAT IT READS IS OF BULK AT MOST 1048576: true; the input reads as it did. -/
def relativeStepsUptoRow : OpenClaim := { program := "ytnkhifgppcnmkaadoor", sum := "084bf33a1e17b82c174915e403cb6488df38cee42dc3db20b45fa9ea26cba974", func := "dasd/dasdlaw19.RelativeSteps", spec := "relativeSteps", inPlace := ["internal/bytealg.IndexByteString", "internal/bytealg.IndexString", "internal/abi.NoEscape", "internal/bytealg.MakeNoZero"], unfollowed := true, recurses := true, named := ["unicode/utf8.first", "unicode/utf8.acceptRanges", "internal/bytealg.MaxLen"], apart := false, laid := [("unicode/utf8.acceptRanges", laid_unicode_utf8_acceptRanges), ("unicode/utf8.first", laid_unicode_utf8_first)], narrowed := true }
def RelativeStepsUptoSaid : Prop := relativeStepsUptoRow.holds Tryd.pinned (OpenSpec.upto relativeStepsSpec)

/-- 'dasdlaw19.RelativeWrites', WHERE WHAT IT READS IS OF BULK AT MOST 1048576: true; the input reads as it did. -/
def relativeWritesUptoRow : OpenClaim := { program := "ytnkhifgppcnmkaadoor", sum := "084bf33a1e17b82c174915e403cb6488df38cee42dc3db20b45fa9ea26cba974", func := "dasd/dasdlaw19.RelativeWrites", spec := "relativeWrites", inPlace := ["internal/bytealg.IndexByteString", "internal/bytealg.IndexString", "internal/abi.NoEscape", "internal/bytealg.MakeNoZero"], unfollowed := true, recurses := true, named := ["unicode/utf8.first", "unicode/utf8.acceptRanges", "internal/bytealg.MaxLen"], apart := false, laid := [("unicode/utf8.acceptRanges", laid_unicode_utf8_acceptRanges), ("unicode/utf8.first", laid_unicode_utf8_first)], narrowed := true }
def RelativeWritesUptoSaid : Prop := relativeWritesUptoRow.holds Tryd.pinned (OpenSpec.upto relativeWritesSpec)

end Rows
end Go.Proofs.YtnkhifgppcnmkaaDoor
