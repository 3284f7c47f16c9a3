/-
  NARROWER THAN 'FOR EVERY INPUT', by the rows' own cells (each row's printed sentence says how): TextClasses: laid · TopWalks: laid · TextCanonical: laid · TextEquals: laid · TextCuts: laid · TextDecodes: laid · TextBounds: laid · TopSlices: laid · TextOrder: laid · TextSlices: laid · TextFinds: laid · TextSteps: laid · TextEncodes: laid · TextReverses: laid · TextSplits: laid · TextBack: laid · TextParts: laid.
  DERIVED. THE GIVEN ROWS OF THIS SEAT. 17 by the template 'for every input the law returns true; each argument reads behind the call as it read before'; 0 by the template 'total and deterministic' (their statements: YtdgfgadmcahnlaaDoorTotals.lean).
  GIVEN WITH THE SEED: the statements are not yours to turn. If you find one false, say at which input.
  Laid BY PROGRAM, IN A SANDBOX (cutbox-rows.mjs): the forced cells as the released guide's own fill.sh prints them over the translation 316a7b32da0b14c9… (all of the seat's roots in one cut). By AI agents, Wed Nov 11 2026. No macro, syntax, notation, axiom, sorry.
-/
import Derived.Test.YtdgfgadmcahnlaaDoorChecked
import GoSem.PinnedTables
import GoSem.Claim
import GoSem.ClaimJoined
import GoSem.ClaimMapViews
import Derived.JoinedTies
import Derived.KernelRfl
namespace Go.Proofs.YtdgfgadmcahnlaaDoor
/- THE CELL 'sum', in the pinned program and in every row, IS THE sha256 OF THE DUMP (.gsa) THAT YtdgfgadmcahnlaaDoorProg.lean LOADS. Nothing in Lean hashes anything: it is a label: what it is worth is what the hold of that sum in a sandbox is worth. -/
noncomputable def Tryd.pinned : Pinned := { name := "ytdgfgadmcahnlaadoor", sum := "316a7b32da0b14c92511812a18b34a61a6931d2a72cced21d964f39d3e26521f", checked := Tryd.checked }
namespace Rows
def none {H : Type} : Left H := { results := [], args := [] }

/- WHAT THE LISTED PACKAGE-LEVEL VARIABLES READ AS WHEN THE CALL BEGINS. Each datum BY PROGRAM (the guide's laid-datum.mjs) off the statement by which the dump's own 'gosem.cut.vars' lays the variable. In a bare row this is a premise. The card (YtdgfgadmcahnlaaDoorCards.lean) ties it to the program's text. -/
def laid_unicode_utf8_acceptRanges {H : Type} : DataW H := .agg [.agg [.lit (.int .u8 128), .lit (.int .u8 191)], .agg [.lit (.int .u8 160), .lit (.int .u8 191)], .agg [.lit (.int .u8 128), .lit (.int .u8 159)], .agg [.lit (.int .u8 144), .lit (.int .u8 191)], .agg [.lit (.int .u8 128), .lit (.int .u8 143)], .agg [.lit (.int .u8 0), .lit (.int .u8 0)], .agg [.lit (.int .u8 0), .lit (.int .u8 0)], .agg [.lit (.int .u8 0), .lit (.int .u8 0)], .agg [.lit (.int .u8 0), .lit (.int .u8 0)], .agg [.lit (.int .u8 0), .lit (.int .u8 0)], .agg [.lit (.int .u8 0), .lit (.int .u8 0)], .agg [.lit (.int .u8 0), .lit (.int .u8 0)], .agg [.lit (.int .u8 0), .lit (.int .u8 0)], .agg [.lit (.int .u8 0), .lit (.int .u8 0)], .agg [.lit (.int .u8 0), .lit (.int .u8 0)], .agg [.lit (.int .u8 0), .lit (.int .u8 0)]]
/-- One of Go's own tables, pinned by name: the form's constant. -/
def laid_unicode_utf8_first : DataW Unit := Go.Pinned.utf8First

/-- 'covalentlaw24.TextClasses': WHATEVER THE INPUT: true; the input reads as it did. -/
def textClassesSpec : ChangeSpec := { name := "textClasses", fn := fun _ => fun
  | [d] => { results := [.lit (.bool true)], args := [d] }
  | _ => none }
def textClassesRow : OpenClaim := { program := "ytdgfgadmcahnlaadoor", sum := "316a7b32da0b14c92511812a18b34a61a6931d2a72cced21d964f39d3e26521f", func := "covalent/covalentlaw24.TextClasses", spec := "textClasses", unfollowed := true, recurses := true, named := ["unicode/utf8.first", "unicode/utf8.acceptRanges"], apart := false, laid := [("unicode/utf8.acceptRanges", laid_unicode_utf8_acceptRanges), ("unicode/utf8.first", laid_unicode_utf8_first)] }
def TextClassesSaid : Prop := textClassesRow.holds Tryd.pinned (OpenSpec.ofChange textClassesSpec)

/-- ITS FALSE NEIGHBOUR: 'it returns false'. Refute it at one input. -/
def textClassesWrong : ChangeSpec := { name := "textClasses", fn := fun _ => fun
  | [d] => { results := [.lit (.bool false)], args := [d] }
  | _ => none }
def TextClassesWrongFalsely : Prop := textClassesRow.holds Tryd.pinned (OpenSpec.ofChange textClassesWrong)

/-- 'covalenttop.TopWalks': WHATEVER THE INPUT: true; the input reads as it did. -/
def topWalksSpec : ChangeSpec := { name := "topWalks", fn := fun _ => fun
  | [d] => { results := [.lit (.bool true)], args := [d] }
  | _ => none }
def topWalksRow : OpenClaim := { program := "ytdgfgadmcahnlaadoor", sum := "316a7b32da0b14c92511812a18b34a61a6931d2a72cced21d964f39d3e26521f", func := "covalent/covalenttop.TopWalks", spec := "topWalks", inPlace := ["internal/abi.NoEscape", "internal/bytealg.MakeNoZero"], unfollowed := true, recurses := true, named := ["unicode/utf8.first", "unicode/utf8.acceptRanges"], apart := false, laid := [("unicode/utf8.acceptRanges", laid_unicode_utf8_acceptRanges), ("unicode/utf8.first", laid_unicode_utf8_first)] }
def TopWalksSaid : Prop := topWalksRow.holds Tryd.pinned (OpenSpec.ofChange topWalksSpec)

/-- ITS FALSE NEIGHBOUR: 'it returns false'. Refute it at one input. -/
def topWalksWrong : ChangeSpec := { name := "topWalks", fn := fun _ => fun
  | [d] => { results := [.lit (.bool false)], args := [d] }
  | _ => none }
def TopWalksWrongFalsely : Prop := topWalksRow.holds Tryd.pinned (OpenSpec.ofChange topWalksWrong)

/-- 'covalentlaw24.TextCanonical': WHATEVER THE INPUT: true; the input reads as it did. -/
def textCanonicalSpec : ChangeSpec := { name := "textCanonical", fn := fun _ => fun
  | [d] => { results := [.lit (.bool true)], args := [d] }
  | _ => none }
def textCanonicalRow : OpenClaim := { program := "ytdgfgadmcahnlaadoor", sum := "316a7b32da0b14c92511812a18b34a61a6931d2a72cced21d964f39d3e26521f", func := "covalent/covalentlaw24.TextCanonical", spec := "textCanonical", unfollowed := true, recurses := true, named := ["unicode/utf8.first", "unicode/utf8.acceptRanges"], apart := false, laid := [("unicode/utf8.acceptRanges", laid_unicode_utf8_acceptRanges), ("unicode/utf8.first", laid_unicode_utf8_first)] }
def TextCanonicalSaid : Prop := textCanonicalRow.holds Tryd.pinned (OpenSpec.ofChange textCanonicalSpec)

/-- ITS FALSE NEIGHBOUR: 'it returns false'. Refute it at one input. -/
def textCanonicalWrong : ChangeSpec := { name := "textCanonical", fn := fun _ => fun
  | [d] => { results := [.lit (.bool false)], args := [d] }
  | _ => none }
def TextCanonicalWrongFalsely : Prop := textCanonicalRow.holds Tryd.pinned (OpenSpec.ofChange textCanonicalWrong)

/-- 'covalentlaw24.TextEquals': WHATEVER THE INPUT: true; the input reads as it did. -/
def textEqualsSpec : ChangeSpec := { name := "textEquals", fn := fun _ => fun
  | [d1, d2] => { results := [.lit (.bool true)], args := [d1, d2] }
  | _ => none }
def textEqualsRow : OpenClaim := { program := "ytdgfgadmcahnlaadoor", sum := "316a7b32da0b14c92511812a18b34a61a6931d2a72cced21d964f39d3e26521f", func := "covalent/covalentlaw24.TextEquals", spec := "textEquals", unfollowed := true, recurses := true, named := ["unicode/utf8.first", "unicode/utf8.acceptRanges"], apart := false, laid := [("unicode/utf8.acceptRanges", laid_unicode_utf8_acceptRanges), ("unicode/utf8.first", laid_unicode_utf8_first)] }
def TextEqualsSaid : Prop := textEqualsRow.holds Tryd.pinned (OpenSpec.ofChange textEqualsSpec)

/-- ITS FALSE NEIGHBOUR: 'it returns false'. Refute it at one input. -/
def textEqualsWrong : ChangeSpec := { name := "textEquals", fn := fun _ => fun
  | [d1, d2] => { results := [.lit (.bool false)], args := [d1, d2] }
  | _ => none }
def TextEqualsWrongFalsely : Prop := textEqualsRow.holds Tryd.pinned (OpenSpec.ofChange textEqualsWrong)

/-- 'covalentlaw24.TextCuts': WHATEVER THE INPUT: true; the input reads as it did. -/
def textCutsSpec : ChangeSpec := { name := "textCuts", fn := fun _ => fun
  | [d1, d2] => { results := [.lit (.bool true)], args := [d1, d2] }
  | _ => none }
def textCutsRow : OpenClaim := { program := "ytdgfgadmcahnlaadoor", sum := "316a7b32da0b14c92511812a18b34a61a6931d2a72cced21d964f39d3e26521f", func := "covalent/covalentlaw24.TextCuts", spec := "textCuts", unfollowed := true, recurses := true, named := ["unicode/utf8.first", "unicode/utf8.acceptRanges"], apart := false, laid := [("unicode/utf8.acceptRanges", laid_unicode_utf8_acceptRanges), ("unicode/utf8.first", laid_unicode_utf8_first)] }
def TextCutsSaid : Prop := textCutsRow.holds Tryd.pinned (OpenSpec.ofChange textCutsSpec)

/-- ITS FALSE NEIGHBOUR: 'it returns false'. Refute it at one input. -/
def textCutsWrong : ChangeSpec := { name := "textCuts", fn := fun _ => fun
  | [d1, d2] => { results := [.lit (.bool false)], args := [d1, d2] }
  | _ => none }
def TextCutsWrongFalsely : Prop := textCutsRow.holds Tryd.pinned (OpenSpec.ofChange textCutsWrong)

/-- 'covalentlaw24.TextDecodes': WHATEVER THE INPUT: true; the input reads as it did. -/
def textDecodesSpec : ChangeSpec := { name := "textDecodes", fn := fun _ => fun
  | [d] => { results := [.lit (.bool true)], args := [d] }
  | _ => none }
def textDecodesRow : OpenClaim := { program := "ytdgfgadmcahnlaadoor", sum := "316a7b32da0b14c92511812a18b34a61a6931d2a72cced21d964f39d3e26521f", func := "covalent/covalentlaw24.TextDecodes", spec := "textDecodes", unfollowed := true, recurses := true, named := ["unicode/utf8.first", "unicode/utf8.acceptRanges"], apart := false, laid := [("unicode/utf8.acceptRanges", laid_unicode_utf8_acceptRanges), ("unicode/utf8.first", laid_unicode_utf8_first)] }
def TextDecodesSaid : Prop := textDecodesRow.holds Tryd.pinned (OpenSpec.ofChange textDecodesSpec)

/-- ITS FALSE NEIGHBOUR: 'it returns false'. Refute it at one input. -/
def textDecodesWrong : ChangeSpec := { name := "textDecodes", fn := fun _ => fun
  | [d] => { results := [.lit (.bool false)], args := [d] }
  | _ => none }
def TextDecodesWrongFalsely : Prop := textDecodesRow.holds Tryd.pinned (OpenSpec.ofChange textDecodesWrong)

/-- 'covalentlaw24.TextBounds': WHATEVER THE INPUT: true; the input reads as it did. -/
def textBoundsSpec : ChangeSpec := { name := "textBounds", fn := fun _ => fun
  | [d] => { results := [.lit (.bool true)], args := [d] }
  | _ => none }
def textBoundsRow : OpenClaim := { program := "ytdgfgadmcahnlaadoor", sum := "316a7b32da0b14c92511812a18b34a61a6931d2a72cced21d964f39d3e26521f", func := "covalent/covalentlaw24.TextBounds", spec := "textBounds", unfollowed := true, recurses := true, named := ["unicode/utf8.first", "unicode/utf8.acceptRanges"], apart := false, laid := [("unicode/utf8.acceptRanges", laid_unicode_utf8_acceptRanges), ("unicode/utf8.first", laid_unicode_utf8_first)] }
def TextBoundsSaid : Prop := textBoundsRow.holds Tryd.pinned (OpenSpec.ofChange textBoundsSpec)

/-- ITS FALSE NEIGHBOUR: 'it returns false'. Refute it at one input. -/
def textBoundsWrong : ChangeSpec := { name := "textBounds", fn := fun _ => fun
  | [d] => { results := [.lit (.bool false)], args := [d] }
  | _ => none }
def TextBoundsWrongFalsely : Prop := textBoundsRow.holds Tryd.pinned (OpenSpec.ofChange textBoundsWrong)

/-- 'covalenttop.TopSlices': WHATEVER THE INPUT: true; the input reads as it did. -/
def topSlicesSpec : ChangeSpec := { name := "topSlices", fn := fun _ => fun
  | [d1, d2] => { results := [.lit (.bool true)], args := [d1, d2] }
  | _ => none }
def topSlicesRow : OpenClaim := { program := "ytdgfgadmcahnlaadoor", sum := "316a7b32da0b14c92511812a18b34a61a6931d2a72cced21d964f39d3e26521f", func := "covalent/covalenttop.TopSlices", spec := "topSlices", inPlace := ["internal/abi.NoEscape", "internal/bytealg.MakeNoZero"], unfollowed := true, recurses := true, named := ["unicode/utf8.first", "unicode/utf8.acceptRanges"], apart := false, laid := [("unicode/utf8.acceptRanges", laid_unicode_utf8_acceptRanges), ("unicode/utf8.first", laid_unicode_utf8_first)] }
def TopSlicesSaid : Prop := topSlicesRow.holds Tryd.pinned (OpenSpec.ofChange topSlicesSpec)

/-- ITS FALSE NEIGHBOUR: 'it returns false'. Refute it at one input. -/
def topSlicesWrong : ChangeSpec := { name := "topSlices", fn := fun _ => fun
  | [d1, d2] => { results := [.lit (.bool false)], args := [d1, d2] }
  | _ => none }
def TopSlicesWrongFalsely : Prop := topSlicesRow.holds Tryd.pinned (OpenSpec.ofChange topSlicesWrong)

/-- 'covalentlaw24.TextOrder': WHATEVER THE INPUT: true; the input reads as it did. -/
def textOrderSpec : ChangeSpec := { name := "textOrder", fn := fun _ => fun
  | [d1, d2, d3] => { results := [.lit (.bool true)], args := [d1, d2, d3] }
  | _ => none }
def textOrderRow : OpenClaim := { program := "ytdgfgadmcahnlaadoor", sum := "316a7b32da0b14c92511812a18b34a61a6931d2a72cced21d964f39d3e26521f", func := "covalent/covalentlaw24.TextOrder", spec := "textOrder", unfollowed := true, recurses := true, named := ["unicode/utf8.first", "unicode/utf8.acceptRanges"], apart := false, laid := [("unicode/utf8.acceptRanges", laid_unicode_utf8_acceptRanges), ("unicode/utf8.first", laid_unicode_utf8_first)] }
def TextOrderSaid : Prop := textOrderRow.holds Tryd.pinned (OpenSpec.ofChange textOrderSpec)

/-- ITS FALSE NEIGHBOUR: 'it returns false'. Refute it at one input. -/
def textOrderWrong : ChangeSpec := { name := "textOrder", fn := fun _ => fun
  | [d1, d2, d3] => { results := [.lit (.bool false)], args := [d1, d2, d3] }
  | _ => none }
def TextOrderWrongFalsely : Prop := textOrderRow.holds Tryd.pinned (OpenSpec.ofChange textOrderWrong)

/-- 'covalentlaw24.TextSlices': WHATEVER THE INPUT: true; the input reads as it did. -/
def textSlicesSpec : ChangeSpec := { name := "textSlices", fn := fun _ => fun
  | [d1, d2, d3] => { results := [.lit (.bool true)], args := [d1, d2, d3] }
  | _ => none }
def textSlicesRow : OpenClaim := { program := "ytdgfgadmcahnlaadoor", sum := "316a7b32da0b14c92511812a18b34a61a6931d2a72cced21d964f39d3e26521f", func := "covalent/covalentlaw24.TextSlices", spec := "textSlices", unfollowed := true, recurses := true, named := ["unicode/utf8.first", "unicode/utf8.acceptRanges"], apart := false, laid := [("unicode/utf8.acceptRanges", laid_unicode_utf8_acceptRanges), ("unicode/utf8.first", laid_unicode_utf8_first)] }
def TextSlicesSaid : Prop := textSlicesRow.holds Tryd.pinned (OpenSpec.ofChange textSlicesSpec)

/-- ITS FALSE NEIGHBOUR: 'it returns false'. Refute it at one input. -/
def textSlicesWrong : ChangeSpec := { name := "textSlices", fn := fun _ => fun
  | [d1, d2, d3] => { results := [.lit (.bool false)], args := [d1, d2, d3] }
  | _ => none }
def TextSlicesWrongFalsely : Prop := textSlicesRow.holds Tryd.pinned (OpenSpec.ofChange textSlicesWrong)

/-- 'covalentlaw24.TextFinds': WHATEVER THE INPUT: true; the input reads as it did. -/
def textFindsSpec : ChangeSpec := { name := "textFinds", fn := fun _ => fun
  | [d1, d2] => { results := [.lit (.bool true)], args := [d1, d2] }
  | _ => none }
def textFindsRow : OpenClaim := { program := "ytdgfgadmcahnlaadoor", sum := "316a7b32da0b14c92511812a18b34a61a6931d2a72cced21d964f39d3e26521f", func := "covalent/covalentlaw24.TextFinds", spec := "textFinds", unfollowed := true, recurses := true, named := ["unicode/utf8.first", "unicode/utf8.acceptRanges"], apart := false, laid := [("unicode/utf8.acceptRanges", laid_unicode_utf8_acceptRanges), ("unicode/utf8.first", laid_unicode_utf8_first)] }
def TextFindsSaid : Prop := textFindsRow.holds Tryd.pinned (OpenSpec.ofChange textFindsSpec)

/-- ITS FALSE NEIGHBOUR: 'it returns false'. Refute it at one input. -/
def textFindsWrong : ChangeSpec := { name := "textFinds", fn := fun _ => fun
  | [d1, d2] => { results := [.lit (.bool false)], args := [d1, d2] }
  | _ => none }
def TextFindsWrongFalsely : Prop := textFindsRow.holds Tryd.pinned (OpenSpec.ofChange textFindsWrong)

/-- 'covalentlaw24.TextSteps': WHATEVER THE INPUT: true; the input reads as it did. -/
def textStepsSpec : ChangeSpec := { name := "textSteps", fn := fun _ => fun
  | [d1, d2] => { results := [.lit (.bool true)], args := [d1, d2] }
  | _ => none }
def textStepsRow : OpenClaim := { program := "ytdgfgadmcahnlaadoor", sum := "316a7b32da0b14c92511812a18b34a61a6931d2a72cced21d964f39d3e26521f", func := "covalent/covalentlaw24.TextSteps", spec := "textSteps", unfollowed := true, recurses := true, named := ["unicode/utf8.first", "unicode/utf8.acceptRanges"], apart := false, laid := [("unicode/utf8.acceptRanges", laid_unicode_utf8_acceptRanges), ("unicode/utf8.first", laid_unicode_utf8_first)] }
def TextStepsSaid : Prop := textStepsRow.holds Tryd.pinned (OpenSpec.ofChange textStepsSpec)

/-- ITS FALSE NEIGHBOUR: 'it returns false'. Refute it at one input. -/
def textStepsWrong : ChangeSpec := { name := "textSteps", fn := fun _ => fun
  | [d1, d2] => { results := [.lit (.bool false)], args := [d1, d2] }
  | _ => none }
def TextStepsWrongFalsely : Prop := textStepsRow.holds Tryd.pinned (OpenSpec.ofChange textStepsWrong)

/-- 'covalentlaw24.TextEncodes': WHATEVER THE INPUT: true; the input reads as it did. -/
def textEncodesSpec : ChangeSpec := { name := "textEncodes", fn := fun _ => fun
  | [d] => { results := [.lit (.bool true)], args := [d] }
  | _ => none }
def textEncodesRow : OpenClaim := { program := "ytdgfgadmcahnlaadoor", sum := "316a7b32da0b14c92511812a18b34a61a6931d2a72cced21d964f39d3e26521f", func := "covalent/covalentlaw24.TextEncodes", spec := "textEncodes", inPlace := ["internal/abi.NoEscape"], unfollowed := true, recurses := true, named := ["unicode/utf8.first", "unicode/utf8.acceptRanges"], apart := false, laid := [("unicode/utf8.acceptRanges", laid_unicode_utf8_acceptRanges), ("unicode/utf8.first", laid_unicode_utf8_first)] }
def TextEncodesSaid : Prop := textEncodesRow.holds Tryd.pinned (OpenSpec.ofChange textEncodesSpec)

/-- ITS FALSE NEIGHBOUR: 'it returns false'. Refute it at one input. -/
def textEncodesWrong : ChangeSpec := { name := "textEncodes", fn := fun _ => fun
  | [d] => { results := [.lit (.bool false)], args := [d] }
  | _ => none }
def TextEncodesWrongFalsely : Prop := textEncodesRow.holds Tryd.pinned (OpenSpec.ofChange textEncodesWrong)

/-- 'covalentlaw24.TextReverses': WHATEVER THE INPUT: true; the input reads as it did. -/
def textReversesSpec : ChangeSpec := { name := "textReverses", fn := fun _ => fun
  | [d] => { results := [.lit (.bool true)], args := [d] }
  | _ => none }
def textReversesRow : OpenClaim := { program := "ytdgfgadmcahnlaadoor", sum := "316a7b32da0b14c92511812a18b34a61a6931d2a72cced21d964f39d3e26521f", func := "covalent/covalentlaw24.TextReverses", spec := "textReverses", inPlace := ["internal/abi.NoEscape", "internal/bytealg.MakeNoZero"], unfollowed := true, recurses := true, named := ["unicode/utf8.first", "unicode/utf8.acceptRanges"], apart := false, laid := [("unicode/utf8.acceptRanges", laid_unicode_utf8_acceptRanges), ("unicode/utf8.first", laid_unicode_utf8_first)] }
def TextReversesSaid : Prop := textReversesRow.holds Tryd.pinned (OpenSpec.ofChange textReversesSpec)

/-- ITS FALSE NEIGHBOUR: 'it returns false'. Refute it at one input. -/
def textReversesWrong : ChangeSpec := { name := "textReverses", fn := fun _ => fun
  | [d] => { results := [.lit (.bool false)], args := [d] }
  | _ => none }
def TextReversesWrongFalsely : Prop := textReversesRow.holds Tryd.pinned (OpenSpec.ofChange textReversesWrong)

/-- 'covalentlaw24.TextSplits': WHATEVER THE INPUT: true; the input reads as it did. -/
def textSplitsSpec : ChangeSpec := { name := "textSplits", fn := fun _ => fun
  | [d1, d2] => { results := [.lit (.bool true)], args := [d1, d2] }
  | _ => none }
def textSplitsRow : OpenClaim := { program := "ytdgfgadmcahnlaadoor", sum := "316a7b32da0b14c92511812a18b34a61a6931d2a72cced21d964f39d3e26521f", func := "covalent/covalentlaw24.TextSplits", spec := "textSplits", inPlace := ["internal/abi.NoEscape", "internal/bytealg.MakeNoZero"], unfollowed := true, recurses := true, named := ["unicode/utf8.first", "unicode/utf8.acceptRanges"], apart := false, laid := [("unicode/utf8.acceptRanges", laid_unicode_utf8_acceptRanges), ("unicode/utf8.first", laid_unicode_utf8_first)] }
def TextSplitsSaid : Prop := textSplitsRow.holds Tryd.pinned (OpenSpec.ofChange textSplitsSpec)

/-- ITS FALSE NEIGHBOUR: 'it returns false'. Refute it at one input. -/
def textSplitsWrong : ChangeSpec := { name := "textSplits", fn := fun _ => fun
  | [d1, d2] => { results := [.lit (.bool false)], args := [d1, d2] }
  | _ => none }
def TextSplitsWrongFalsely : Prop := textSplitsRow.holds Tryd.pinned (OpenSpec.ofChange textSplitsWrong)

/-- 'covalentlaw24.TextBack': WHATEVER THE INPUT: true; the input reads as it did. -/
def textBackSpec : ChangeSpec := { name := "textBack", fn := fun _ => fun
  | [d] => { results := [.lit (.bool true)], args := [d] }
  | _ => none }
def textBackRow : OpenClaim := { program := "ytdgfgadmcahnlaadoor", sum := "316a7b32da0b14c92511812a18b34a61a6931d2a72cced21d964f39d3e26521f", func := "covalent/covalentlaw24.TextBack", spec := "textBack", inPlace := ["internal/abi.NoEscape", "internal/bytealg.MakeNoZero"], unfollowed := true, recurses := true, named := ["unicode/utf8.first", "unicode/utf8.acceptRanges"], apart := false, laid := [("unicode/utf8.acceptRanges", laid_unicode_utf8_acceptRanges), ("unicode/utf8.first", laid_unicode_utf8_first)] }
def TextBackSaid : Prop := textBackRow.holds Tryd.pinned (OpenSpec.ofChange textBackSpec)

/-- ITS FALSE NEIGHBOUR: 'it returns false'. Refute it at one input. -/
def textBackWrong : ChangeSpec := { name := "textBack", fn := fun _ => fun
  | [d] => { results := [.lit (.bool false)], args := [d] }
  | _ => none }
def TextBackWrongFalsely : Prop := textBackRow.holds Tryd.pinned (OpenSpec.ofChange textBackWrong)

/-- 'covalentlaw24.TextParts': WHATEVER THE INPUT: true; the input reads as it did. -/
def textPartsSpec : ChangeSpec := { name := "textParts", fn := fun _ => fun
  | [d1, d2] => { results := [.lit (.bool true)], args := [d1, d2] }
  | _ => none }
def textPartsRow : OpenClaim := { program := "ytdgfgadmcahnlaadoor", sum := "316a7b32da0b14c92511812a18b34a61a6931d2a72cced21d964f39d3e26521f", func := "covalent/covalentlaw24.TextParts", spec := "textParts", inPlace := ["internal/abi.NoEscape", "internal/bytealg.MakeNoZero"], unfollowed := true, recurses := true, named := ["unicode/utf8.first", "unicode/utf8.acceptRanges"], apart := false, laid := [("unicode/utf8.acceptRanges", laid_unicode_utf8_acceptRanges), ("unicode/utf8.first", laid_unicode_utf8_first)] }
def TextPartsSaid : Prop := textPartsRow.holds Tryd.pinned (OpenSpec.ofChange textPartsSpec)

/-- ITS FALSE NEIGHBOUR: 'it returns false'. Refute it at one input. -/
def textPartsWrong : ChangeSpec := { name := "textParts", fn := fun _ => fun
  | [d1, d2] => { results := [.lit (.bool false)], args := [d1, d2] }
  | _ => none }
def TextPartsWrongFalsely : Prop := textPartsRow.holds Tryd.pinned (OpenSpec.ofChange textPartsWrong)

/- THE SECOND FORM. 'bulk': how many values and letters a reading holds, each counted each time it is reached (what is shared counts as often as it is met; a slice's spare places count too). A statement '..UptoSaid' is the law's where the arguments, and the package variables that the reading takes, are together of bulk at most 1048576: NARROWER than '..Said'. Prove '..Said' where nothing that the law and all that it calls make is longer than what came in: it says more and counts as full. Else prove '..UptoSaid'. A law counts once. -/
mutual
def uptoBulk {H : Type} : DataW H → Nat
  | .lit (.string bytes) => bytes.length + 1
  | .lit _ => 1
  | .nil => 1
  | .ptr d => uptoBulk d + 1
  | .slice elems spare => uptoBulkAll elems + uptoBulkAll spare + 1
  | .agg parts => uptoBulkAll parts + 1
  | .iface _ d => uptoBulk d + 1
  | .map entries => uptoBulkEntries entries + 1
  | .held _ => 1
def uptoBulkAll {H : Type} : List (DataW H) → Nat
  | [] => 0
  | d :: r => uptoBulk d + uptoBulkAll r
def uptoBulkEntries {H : Type} : List (Lit × DataW H) → Nat
  | [] => 0
  | x :: r => uptoBulkEntry x + uptoBulkEntries r
def uptoBulkEntry {H : Type} : Lit × DataW H → Nat
  | (.string bytes, d) => bytes.length + uptoBulk d + 1
  | (_, d) => uptoBulk d + 1
 end
def uptoSmall : (H : Type) → List (DataW H) → Bool := fun _ ds => decide (uptoBulkAll ds ≤ 1048576)
def OpenSpec.upto (s : _root_.Go.ChangeSpec) : _root_.Go.OpenSpec := { _root_.Go.OpenSpec.ofChange s with cond := some uptoSmall }

/-- 'covalentlaw24.TextClasses', WHERE WHAT IT READS IS OF BULK AT MOST 1048576: true; the input reads as it did. -/
def textClassesUptoRow : OpenClaim := { program := "ytdgfgadmcahnlaadoor", sum := "316a7b32da0b14c92511812a18b34a61a6931d2a72cced21d964f39d3e26521f", func := "covalent/covalentlaw24.TextClasses", spec := "textClasses", unfollowed := true, recurses := true, named := ["unicode/utf8.first", "unicode/utf8.acceptRanges"], apart := false, laid := [("unicode/utf8.acceptRanges", laid_unicode_utf8_acceptRanges), ("unicode/utf8.first", laid_unicode_utf8_first)], narrowed := true }
def TextClassesUptoSaid : Prop := textClassesUptoRow.holds Tryd.pinned (OpenSpec.upto textClassesSpec)

/-- 'covalenttop.TopWalks', WHERE WHAT IT READS IS OF BULK AT MOST 1048576: true; the input reads as it did. -/
def topWalksUptoRow : OpenClaim := { program := "ytdgfgadmcahnlaadoor", sum := "316a7b32da0b14c92511812a18b34a61a6931d2a72cced21d964f39d3e26521f", func := "covalent/covalenttop.TopWalks", spec := "topWalks", inPlace := ["internal/abi.NoEscape", "internal/bytealg.MakeNoZero"], unfollowed := true, recurses := true, named := ["unicode/utf8.first", "unicode/utf8.acceptRanges"], apart := false, laid := [("unicode/utf8.acceptRanges", laid_unicode_utf8_acceptRanges), ("unicode/utf8.first", laid_unicode_utf8_first)], narrowed := true }
def TopWalksUptoSaid : Prop := topWalksUptoRow.holds Tryd.pinned (OpenSpec.upto topWalksSpec)

/-- 'covalentlaw24.TextCanonical', WHERE WHAT IT READS IS OF BULK AT MOST 1048576: true; the input reads as it did. -/
def textCanonicalUptoRow : OpenClaim := { program := "ytdgfgadmcahnlaadoor", sum := "316a7b32da0b14c92511812a18b34a61a6931d2a72cced21d964f39d3e26521f", func := "covalent/covalentlaw24.TextCanonical", spec := "textCanonical", unfollowed := true, recurses := true, named := ["unicode/utf8.first", "unicode/utf8.acceptRanges"], apart := false, laid := [("unicode/utf8.acceptRanges", laid_unicode_utf8_acceptRanges), ("unicode/utf8.first", laid_unicode_utf8_first)], narrowed := true }
def TextCanonicalUptoSaid : Prop := textCanonicalUptoRow.holds Tryd.pinned (OpenSpec.upto textCanonicalSpec)

/-- 'covalentlaw24.TextEquals', WHERE WHAT IT READS IS OF BULK AT MOST 1048576: true; the input reads as it did. -/
def textEqualsUptoRow : OpenClaim := { program := "ytdgfgadmcahnlaadoor", sum := "316a7b32da0b14c92511812a18b34a61a6931d2a72cced21d964f39d3e26521f", func := "covalent/covalentlaw24.TextEquals", spec := "textEquals", unfollowed := true, recurses := true, named := ["unicode/utf8.first", "unicode/utf8.acceptRanges"], apart := false, laid := [("unicode/utf8.acceptRanges", laid_unicode_utf8_acceptRanges), ("unicode/utf8.first", laid_unicode_utf8_first)], narrowed := true }
def TextEqualsUptoSaid : Prop := textEqualsUptoRow.holds Tryd.pinned (OpenSpec.upto textEqualsSpec)

/-- 'covalentlaw24.TextCuts', WHERE WHAT IT READS IS OF BULK AT MOST 1048576: true; the input reads as it did. -/
def textCutsUptoRow : OpenClaim := { program := "ytdgfgadmcahnlaadoor", sum := "316a7b32da0b14c92511812a18b34a61a6931d2a72cced21d964f39d3e26521f", func := "covalent/covalentlaw24.TextCuts", spec := "textCuts", unfollowed := true, recurses := true, named := ["unicode/utf8.first", "unicode/utf8.acceptRanges"], apart := false, laid := [("unicode/utf8.acceptRanges", laid_unicode_utf8_acceptRanges), ("unicode/utf8.first", laid_unicode_utf8_first)], narrowed := true }
def TextCutsUptoSaid : Prop := textCutsUptoRow.holds Tryd.pinned (OpenSpec.upto textCutsSpec)

/-- 'covalentlaw24.TextDecodes', WHERE WHAT IT READS IS OF BULK AT MOST 1048576: true; the input reads as it did. -/
def textDecodesUptoRow : OpenClaim := { program := "ytdgfgadmcahnlaadoor", sum := "316a7b32da0b14c92511812a18b34a61a6931d2a72cced21d964f39d3e26521f", func := "covalent/covalentlaw24.TextDecodes", spec := "textDecodes", unfollowed := true, recurses := true, named := ["unicode/utf8.first", "unicode/utf8.acceptRanges"], apart := false, laid := [("unicode/utf8.acceptRanges", laid_unicode_utf8_acceptRanges), ("unicode/utf8.first", laid_unicode_utf8_first)], narrowed := true }
def TextDecodesUptoSaid : Prop := textDecodesUptoRow.holds Tryd.pinned (OpenSpec.upto textDecodesSpec)

/-- 'covalentlaw24.TextBounds', WHERE WHAT IT READS IS OF BULK AT MOST 1048576: true; the input reads as it did. -/
def textBoundsUptoRow : OpenClaim := { program := "ytdgfgadmcahnlaadoor", sum := "316a7b32da0b14c92511812a18b34a61a6931d2a72cced21d964f39d3e26521f", func := "covalent/covalentlaw24.TextBounds", spec := "textBounds", unfollowed := true, recurses := true, named := ["unicode/utf8.first", "unicode/utf8.acceptRanges"], apart := false, laid := [("unicode/utf8.acceptRanges", laid_unicode_utf8_acceptRanges), ("unicode/utf8.first", laid_unicode_utf8_first)], narrowed := true }
def TextBoundsUptoSaid : Prop := textBoundsUptoRow.holds Tryd.pinned (OpenSpec.upto textBoundsSpec)

/-- 'covalenttop.TopSlices', WHERE WHAT IT READS IS OF BULK AT MOST 1048576: true; the input reads as it did. -/
def topSlicesUptoRow : OpenClaim := { program := "ytdgfgadmcahnlaadoor", sum := "316a7b32da0b14c92511812a18b34a61a6931d2a72cced21d964f39d3e26521f", func := "covalent/covalenttop.TopSlices", spec := "topSlices", inPlace := ["internal/abi.NoEscape", "internal/bytealg.MakeNoZero"], unfollowed := true, recurses := true, named := ["unicode/utf8.first", "unicode/utf8.acceptRanges"], apart := false, laid := [("unicode/utf8.acceptRanges", laid_unicode_utf8_acceptRanges), ("unicode/utf8.first", laid_unicode_utf8_first)], narrowed := true }
def TopSlicesUptoSaid : Prop := topSlicesUptoRow.holds Tryd.pinned (OpenSpec.upto topSlicesSpec)

/-- 'covalentlaw24.TextOrder', WHERE WHAT IT READS IS OF BULK AT MOST 1048576: true; the input reads as it did. -/
def textOrderUptoRow : OpenClaim := { program := "ytdgfgadmcahnlaadoor", sum := "316a7b32da0b14c92511812a18b34a61a6931d2a72cced21d964f39d3e26521f", func := "covalent/covalentlaw24.TextOrder", spec := "textOrder", unfollowed := true, recurses := true, named := ["unicode/utf8.first", "unicode/utf8.acceptRanges"], apart := false, laid := [("unicode/utf8.acceptRanges", laid_unicode_utf8_acceptRanges), ("unicode/utf8.first", laid_unicode_utf8_first)], narrowed := true }
def TextOrderUptoSaid : Prop := textOrderUptoRow.holds Tryd.pinned (OpenSpec.upto textOrderSpec)

/-- 'covalentlaw24.TextSlices', WHERE WHAT IT READS IS OF BULK AT MOST 1048576: true; the input reads as it did. -/
def textSlicesUptoRow : OpenClaim := { program := "ytdgfgadmcahnlaadoor", sum := "316a7b32da0b14c92511812a18b34a61a6931d2a72cced21d964f39d3e26521f", func := "covalent/covalentlaw24.TextSlices", spec := "textSlices", unfollowed := true, recurses := true, named := ["unicode/utf8.first", "unicode/utf8.acceptRanges"], apart := false, laid := [("unicode/utf8.acceptRanges", laid_unicode_utf8_acceptRanges), ("unicode/utf8.first", laid_unicode_utf8_first)], narrowed := true }
def TextSlicesUptoSaid : Prop := textSlicesUptoRow.holds Tryd.pinned (OpenSpec.upto textSlicesSpec)

/-- 'covalentlaw24.TextFinds', WHERE WHAT IT READS IS OF BULK AT MOST 1048576: true; the input reads as it did. -/
def textFindsUptoRow : OpenClaim := { program := "ytdgfgadmcahnlaadoor", sum := "316a7b32da0b14c92511812a18b34a61a6931d2a72cced21d964f39d3e26521f", func := "covalent/covalentlaw24.TextFinds", spec := "textFinds", unfollowed := true, recurses := true, named := ["unicode/utf8.first", "unicode/utf8.acceptRanges"], apart := false, laid := [("unicode/utf8.acceptRanges", laid_unicode_utf8_acceptRanges), ("unicode/utf8.first", laid_unicode_utf8_first)], narrowed := true }
def TextFindsUptoSaid : Prop := textFindsUptoRow.holds Tryd.pinned (OpenSpec.upto textFindsSpec)

/-- 'covalentlaw24.TextSteps', WHERE WHAT IT READS IS OF BULK AT MOST 1048576: true; the input reads as it did. -/
def textStepsUptoRow : OpenClaim := { program := "ytdgfgadmcahnlaadoor", sum := "316a7b32da0b14c92511812a18b34a61a6931d2a72cced21d964f39d3e26521f", func := "covalent/covalentlaw24.TextSteps", spec := "textSteps", unfollowed := true, recurses := true, named := ["unicode/utf8.first", "unicode/utf8.acceptRanges"], apart := false, laid := [("unicode/utf8.acceptRanges", laid_unicode_utf8_acceptRanges), ("unicode/utf8.first", laid_unicode_utf8_first)], narrowed := true }
def TextStepsUptoSaid : Prop := textStepsUptoRow.holds Tryd.pinned (OpenSpec.upto textStepsSpec)

/-- 'covalentlaw24.TextEncodes', WHERE WHAT IT READS IS OF BULK AT MOST 1048576: true; the input reads as it did. -/
def textEncodesUptoRow : OpenClaim := { program := "ytdgfgadmcahnlaadoor", sum := "316a7b32da0b14c92511812a18b34a61a6931d2a72cced21d964f39d3e26521f", func := "covalent/covalentlaw24.TextEncodes", spec := "textEncodes", inPlace := ["internal/abi.NoEscape"], unfollowed := true, recurses := true, named := ["unicode/utf8.first", "unicode/utf8.acceptRanges"], apart := false, laid := [("unicode/utf8.acceptRanges", laid_unicode_utf8_acceptRanges), ("unicode/utf8.first", laid_unicode_utf8_first)], narrowed := true }
def TextEncodesUptoSaid : Prop := textEncodesUptoRow.holds Tryd.pinned (OpenSpec.upto textEncodesSpec)

/-- 'covalentlaw24.TextReverses', WHERE WHAT IT READS IS OF BULK AT MOST 1048576: true; the input reads as it did. -/
def textReversesUptoRow : OpenClaim := { program := "ytdgfgadmcahnlaadoor", sum := "316a7b32da0b14c92511812a18b34a61a6931d2a72cced21d964f39d3e26521f", func := "covalent/covalentlaw24.TextReverses", spec := "textReverses", inPlace := ["internal/abi.NoEscape", "internal/bytealg.MakeNoZero"], unfollowed := true, recurses := true, named := ["unicode/utf8.first", "unicode/utf8.acceptRanges"], apart := false, laid := [("unicode/utf8.acceptRanges", laid_unicode_utf8_acceptRanges), ("unicode/utf8.first", laid_unicode_utf8_first)], narrowed := true }
def TextReversesUptoSaid : Prop := textReversesUptoRow.holds Tryd.pinned (OpenSpec.upto textReversesSpec)

/-- 'covalentlaw24.TextSplits', WHERE WHAT IT READS IS OF BULK AT MOST 1048576: true; the input reads as it did. -/
def textSplitsUptoRow : OpenClaim := { program := "ytdgfgadmcahnlaadoor", sum := "316a7b32da0b14c92511812a18b34a61a6931d2a72cced21d964f39d3e26521f", func := "covalent/covalentlaw24.TextSplits", spec := "textSplits", inPlace := ["internal/abi.NoEscape", "internal/bytealg.MakeNoZero"], unfollowed := true, recurses := true, named := ["unicode/utf8.first", "unicode/utf8.acceptRanges"], apart := false, laid := [("unicode/utf8.acceptRanges", laid_unicode_utf8_acceptRanges), ("unicode/utf8.first", laid_unicode_utf8_first)], narrowed := true }
def TextSplitsUptoSaid : Prop := textSplitsUptoRow.holds Tryd.pinned (OpenSpec.upto textSplitsSpec)

/-- 'covalentlaw24.TextBack', WHERE WHAT IT READS IS OF BULK AT MOST 1048576: true; the input reads as it did. -/
def textBackUptoRow : OpenClaim := { program := "ytdgfgadmcahnlaadoor", sum := "316a7b32da0b14c92511812a18b34a61a6931d2a72cced21d964f39d3e26521f", func := "covalent/covalentlaw24.TextBack", spec := "textBack", inPlace := ["internal/abi.NoEscape", "internal/bytealg.MakeNoZero"], unfollowed := true, recurses := true, named := ["unicode/utf8.first", "unicode/utf8.acceptRanges"], apart := false, laid := [("unicode/utf8.acceptRanges", laid_unicode_utf8_acceptRanges), ("unicode/utf8.first", laid_unicode_utf8_first)], narrowed := true }
def TextBackUptoSaid : Prop := textBackUptoRow.holds Tryd.pinned (OpenSpec.upto textBackSpec)

/-- 'covalentlaw24.TextParts', WHERE WHAT IT READS IS OF BULK AT MOST 1048576: true; the input reads as it did. -/
def textPartsUptoRow : OpenClaim := { program := "ytdgfgadmcahnlaadoor", sum := "316a7b32da0b14c92511812a18b34a61a6931d2a72cced21d964f39d3e26521f", func := "covalent/covalentlaw24.TextParts", spec := "textParts", inPlace := ["internal/abi.NoEscape", "internal/bytealg.MakeNoZero"], unfollowed := true, recurses := true, named := ["unicode/utf8.first", "unicode/utf8.acceptRanges"], apart := false, laid := [("unicode/utf8.acceptRanges", laid_unicode_utf8_acceptRanges), ("unicode/utf8.first", laid_unicode_utf8_first)], narrowed := true }
def TextPartsUptoSaid : Prop := textPartsUptoRow.holds Tryd.pinned (OpenSpec.upto textPartsSpec)

end Rows
end Go.Proofs.YtdgfgadmcahnlaaDoor
