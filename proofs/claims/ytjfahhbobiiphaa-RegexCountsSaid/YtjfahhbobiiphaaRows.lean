/-
  NARROWER THAN 'FOR EVERY INPUT', by the rows' own cells (each row's printed sentence says how): RegexReverses: loops · RegexMatches: loops · RegexParts: loops · RegexFinds: loops · RegexDerives: loops · RegexTexts: loops · RegexEquals: loops · RegexAlike: loops · RegexTurns: loops · RegexCounts: loops · RegexStates: loops.
  DERIVED. THE GIVEN ROWS OF THIS SEAT. 12 by the template 'for every input the law returns true; each argument reads behind the call as it read before'; 0 by the template 'total and deterministic' (their statements: YtjfahhbobiiphaaTotals.lean).
  GIVEN WITH THE SEED: the statements are not yours to turn. If you find one false, say at which input.
  Laid BY PROGRAM, IN A SANDBOX (cutbox-rows.mjs): the forced cells as the released guide's own fill.sh prints them over the translation ddb5a16a48ea70d4… (all of the seat's roots in one cut). By AI agents, Wed Nov 11 2026. No macro, syntax, notation, axiom, sorry.
-/
import Derived.Test.YtjfahhbobiiphaaChecked
import GoSem.Claim
import GoSem.ClaimJoined
import GoSem.ClaimMapViews
import Derived.JoinedTies
import Derived.KernelRfl
namespace Go.Proofs.Ytjfahhbobiiphaa
/- THE CELL 'sum', in the pinned program and in every row, IS THE sha256 OF THE DUMP (.gsa) THAT YtjfahhbobiiphaaProg.lean LOADS. Nothing in Lean hashes anything: it is a label: what it is worth is what the hold of that sum in a sandbox is worth. -/
noncomputable def Try.pinned : Pinned := { name := "ytjfahhbobiiphaa", sum := "ddb5a16a48ea70d4dcad3088f8f8537450f9f3e8ff9bee8a484b715a438e2554", checked := Try.checked }
namespace Rows
def none {H : Type} : Left H := { results := [], args := [] }

/-- 'covalentlaw27.RegexReverses': WHATEVER THE INPUT: true; the input reads as it did. -/
def regexReversesSpec : ChangeSpec := { name := "regexReverses", fn := fun _ => fun
  | [d1, d2] => { results := [.lit (.bool true)], args := [d1, d2] }
  | _ => none }
def regexReversesRow : OpenClaim := { program := "ytjfahhbobiiphaa", sum := "ddb5a16a48ea70d4dcad3088f8f8537450f9f3e8ff9bee8a484b715a438e2554", func := "covalent/covalentlaw27.RegexReverses", spec := "regexReverses", inPlace := ["internal/bytealg.IndexByteString"], unfollowed := true, recurses := true, loops := true, plainKeys := false, apart := false }
def RegexReversesSaid : Prop := regexReversesRow.holds Try.pinned (OpenSpec.ofChange regexReversesSpec)

/-- ITS FALSE NEIGHBOUR: 'it returns false'. Refute it at one input. -/
def regexReversesWrong : ChangeSpec := { name := "regexReverses", fn := fun _ => fun
  | [d1, d2] => { results := [.lit (.bool false)], args := [d1, d2] }
  | _ => none }
def RegexReversesWrongFalsely : Prop := regexReversesRow.holds Try.pinned (OpenSpec.ofChange regexReversesWrong)

/-- 'covalentlaw27.RegexMatches': WHATEVER THE INPUT: true; the input reads as it did. -/
def regexMatchesSpec : ChangeSpec := { name := "regexMatches", fn := fun _ => fun
  | [d1, d2] => { results := [.lit (.bool true)], args := [d1, d2] }
  | _ => none }
def regexMatchesRow : OpenClaim := { program := "ytjfahhbobiiphaa", sum := "ddb5a16a48ea70d4dcad3088f8f8537450f9f3e8ff9bee8a484b715a438e2554", func := "covalent/covalentlaw27.RegexMatches", spec := "regexMatches", inPlace := ["internal/bytealg.IndexByteString"], unfollowed := true, recurses := true, loops := true, plainKeys := false, apart := false }
def RegexMatchesSaid : Prop := regexMatchesRow.holds Try.pinned (OpenSpec.ofChange regexMatchesSpec)

/-- ITS FALSE NEIGHBOUR: 'it returns false'. Refute it at one input. -/
def regexMatchesWrong : ChangeSpec := { name := "regexMatches", fn := fun _ => fun
  | [d1, d2] => { results := [.lit (.bool false)], args := [d1, d2] }
  | _ => none }
def RegexMatchesWrongFalsely : Prop := regexMatchesRow.holds Try.pinned (OpenSpec.ofChange regexMatchesWrong)

/-- 'covalentlaw27.RegexParts': WHATEVER THE INPUT: true; the input reads as it did. -/
def regexPartsSpec : ChangeSpec := { name := "regexParts", fn := fun _ => fun
  | [d1, d2] => { results := [.lit (.bool true)], args := [d1, d2] }
  | _ => none }
def regexPartsRow : OpenClaim := { program := "ytjfahhbobiiphaa", sum := "ddb5a16a48ea70d4dcad3088f8f8537450f9f3e8ff9bee8a484b715a438e2554", func := "covalent/covalentlaw27.RegexParts", spec := "regexParts", inPlace := ["internal/bytealg.IndexByteString"], unfollowed := true, recurses := true, loops := true, plainKeys := false, apart := false }
def RegexPartsSaid : Prop := regexPartsRow.holds Try.pinned (OpenSpec.ofChange regexPartsSpec)

/-- ITS FALSE NEIGHBOUR: 'it returns false'. Refute it at one input. -/
def regexPartsWrong : ChangeSpec := { name := "regexParts", fn := fun _ => fun
  | [d1, d2] => { results := [.lit (.bool false)], args := [d1, d2] }
  | _ => none }
def RegexPartsWrongFalsely : Prop := regexPartsRow.holds Try.pinned (OpenSpec.ofChange regexPartsWrong)

/-- 'covalentlaw27.RegexFinds': WHATEVER THE INPUT: true; the input reads as it did. -/
def regexFindsSpec : ChangeSpec := { name := "regexFinds", fn := fun _ => fun
  | [d1, d2, d3] => { results := [.lit (.bool true)], args := [d1, d2, d3] }
  | _ => none }
def regexFindsRow : OpenClaim := { program := "ytjfahhbobiiphaa", sum := "ddb5a16a48ea70d4dcad3088f8f8537450f9f3e8ff9bee8a484b715a438e2554", func := "covalent/covalentlaw27.RegexFinds", spec := "regexFinds", inPlace := ["internal/bytealg.IndexByteString", "internal/abi.NoEscape"], unfollowed := true, recurses := true, loops := true, plainKeys := false, apart := false }
def RegexFindsSaid : Prop := regexFindsRow.holds Try.pinned (OpenSpec.ofChange regexFindsSpec)

/-- ITS FALSE NEIGHBOUR: 'it returns false'. Refute it at one input. -/
def regexFindsWrong : ChangeSpec := { name := "regexFinds", fn := fun _ => fun
  | [d1, d2, d3] => { results := [.lit (.bool false)], args := [d1, d2, d3] }
  | _ => none }
def RegexFindsWrongFalsely : Prop := regexFindsRow.holds Try.pinned (OpenSpec.ofChange regexFindsWrong)

/-- 'covalentlaw27.RegexDerives': WHATEVER THE INPUT: true; the input reads as it did. -/
def regexDerivesSpec : ChangeSpec := { name := "regexDerives", fn := fun _ => fun
  | [d1, d2, d3] => { results := [.lit (.bool true)], args := [d1, d2, d3] }
  | _ => none }
def regexDerivesRow : OpenClaim := { program := "ytjfahhbobiiphaa", sum := "ddb5a16a48ea70d4dcad3088f8f8537450f9f3e8ff9bee8a484b715a438e2554", func := "covalent/covalentlaw27.RegexDerives", spec := "regexDerives", inPlace := ["internal/bytealg.IndexByteString"], unfollowed := true, recurses := true, loops := true, plainKeys := false, apart := false }
def RegexDerivesSaid : Prop := regexDerivesRow.holds Try.pinned (OpenSpec.ofChange regexDerivesSpec)

/-- ITS FALSE NEIGHBOUR: 'it returns false'. Refute it at one input. -/
def regexDerivesWrong : ChangeSpec := { name := "regexDerives", fn := fun _ => fun
  | [d1, d2, d3] => { results := [.lit (.bool false)], args := [d1, d2, d3] }
  | _ => none }
def RegexDerivesWrongFalsely : Prop := regexDerivesRow.holds Try.pinned (OpenSpec.ofChange regexDerivesWrong)

/-- 'covalentlaw27.RegexTexts': WHATEVER THE INPUT: true; the input reads as it did. -/
def regexTextsSpec : ChangeSpec := { name := "regexTexts", fn := fun _ => fun
  | [d] => { results := [.lit (.bool true)], args := [d] }
  | _ => none }
def regexTextsRow : OpenClaim := { program := "ytjfahhbobiiphaa", sum := "ddb5a16a48ea70d4dcad3088f8f8537450f9f3e8ff9bee8a484b715a438e2554", func := "covalent/covalentlaw27.RegexTexts", spec := "regexTexts", inPlace := ["internal/bytealg.IndexByteString", "internal/abi.NoEscape", "internal/bytealg.MakeNoZero"], unfollowed := true, recurses := true, loops := true, plainKeys := false, apart := false }
def RegexTextsSaid : Prop := regexTextsRow.holds Try.pinned (OpenSpec.ofChange regexTextsSpec)

/-- ITS FALSE NEIGHBOUR: 'it returns false'. Refute it at one input. -/
def regexTextsWrong : ChangeSpec := { name := "regexTexts", fn := fun _ => fun
  | [d] => { results := [.lit (.bool false)], args := [d] }
  | _ => none }
def RegexTextsWrongFalsely : Prop := regexTextsRow.holds Try.pinned (OpenSpec.ofChange regexTextsWrong)

/-- 'covalentlaw27.RegexParses': WHATEVER THE INPUT: true; the input reads as it did. -/
def regexParsesSpec : ChangeSpec := { name := "regexParses", fn := fun _ => fun
  | [d] => { results := [.lit (.bool true)], args := [d] }
  | _ => none }
def regexParsesRow : OpenClaim := { program := "ytjfahhbobiiphaa", sum := "ddb5a16a48ea70d4dcad3088f8f8537450f9f3e8ff9bee8a484b715a438e2554", func := "covalent/covalentlaw27.RegexParses", spec := "regexParses", inPlace := ["internal/bytealg.IndexByteString", "internal/abi.NoEscape", "internal/bytealg.MakeNoZero"], unfollowed := true, recurses := true, plainKeys := false, apart := false }
def RegexParsesSaid : Prop := regexParsesRow.holds Try.pinned (OpenSpec.ofChange regexParsesSpec)

/-- ITS FALSE NEIGHBOUR: 'it returns false'. Refute it at one input. -/
def regexParsesWrong : ChangeSpec := { name := "regexParses", fn := fun _ => fun
  | [d] => { results := [.lit (.bool false)], args := [d] }
  | _ => none }
def RegexParsesWrongFalsely : Prop := regexParsesRow.holds Try.pinned (OpenSpec.ofChange regexParsesWrong)

/-- 'covalentlaw27.RegexEquals': WHATEVER THE INPUT: true; the input reads as it did. -/
def regexEqualsSpec : ChangeSpec := { name := "regexEquals", fn := fun _ => fun
  | [d1, d2] => { results := [.lit (.bool true)], args := [d1, d2] }
  | _ => none }
def regexEqualsRow : OpenClaim := { program := "ytjfahhbobiiphaa", sum := "ddb5a16a48ea70d4dcad3088f8f8537450f9f3e8ff9bee8a484b715a438e2554", func := "covalent/covalentlaw27.RegexEquals", spec := "regexEquals", inPlace := ["internal/bytealg.IndexByteString", "internal/abi.NoEscape"], unfollowed := true, recurses := true, loops := true, plainKeys := false, apart := false }
def RegexEqualsSaid : Prop := regexEqualsRow.holds Try.pinned (OpenSpec.ofChange regexEqualsSpec)

/-- ITS FALSE NEIGHBOUR: 'it returns false'. Refute it at one input. -/
def regexEqualsWrong : ChangeSpec := { name := "regexEquals", fn := fun _ => fun
  | [d1, d2] => { results := [.lit (.bool false)], args := [d1, d2] }
  | _ => none }
def RegexEqualsWrongFalsely : Prop := regexEqualsRow.holds Try.pinned (OpenSpec.ofChange regexEqualsWrong)

/-- 'covalentlaw27.RegexAlike': WHATEVER THE INPUT: true; the input reads as it did. -/
def regexAlikeSpec : ChangeSpec := { name := "regexAlike", fn := fun _ => fun
  | [d1, d2, d3] => { results := [.lit (.bool true)], args := [d1, d2, d3] }
  | _ => none }
def regexAlikeRow : OpenClaim := { program := "ytjfahhbobiiphaa", sum := "ddb5a16a48ea70d4dcad3088f8f8537450f9f3e8ff9bee8a484b715a438e2554", func := "covalent/covalentlaw27.RegexAlike", spec := "regexAlike", inPlace := ["internal/bytealg.IndexByteString", "internal/abi.NoEscape"], unfollowed := true, recurses := true, loops := true, plainKeys := false, apart := false }
def RegexAlikeSaid : Prop := regexAlikeRow.holds Try.pinned (OpenSpec.ofChange regexAlikeSpec)

/-- ITS FALSE NEIGHBOUR: 'it returns false'. Refute it at one input. -/
def regexAlikeWrong : ChangeSpec := { name := "regexAlike", fn := fun _ => fun
  | [d1, d2, d3] => { results := [.lit (.bool false)], args := [d1, d2, d3] }
  | _ => none }
def RegexAlikeWrongFalsely : Prop := regexAlikeRow.holds Try.pinned (OpenSpec.ofChange regexAlikeWrong)

/-- 'covalentlaw27.RegexTurns': WHATEVER THE INPUT: true; the input reads as it did. -/
def regexTurnsSpec : ChangeSpec := { name := "regexTurns", fn := fun _ => fun
  | [d1, d2] => { results := [.lit (.bool true)], args := [d1, d2] }
  | _ => none }
def regexTurnsRow : OpenClaim := { program := "ytjfahhbobiiphaa", sum := "ddb5a16a48ea70d4dcad3088f8f8537450f9f3e8ff9bee8a484b715a438e2554", func := "covalent/covalentlaw27.RegexTurns", spec := "regexTurns", inPlace := ["internal/bytealg.IndexByteString", "internal/abi.NoEscape"], unfollowed := true, recurses := true, loops := true, plainKeys := false, apart := false }
def RegexTurnsSaid : Prop := regexTurnsRow.holds Try.pinned (OpenSpec.ofChange regexTurnsSpec)

/-- ITS FALSE NEIGHBOUR: 'it returns false'. Refute it at one input. -/
def regexTurnsWrong : ChangeSpec := { name := "regexTurns", fn := fun _ => fun
  | [d1, d2] => { results := [.lit (.bool false)], args := [d1, d2] }
  | _ => none }
def RegexTurnsWrongFalsely : Prop := regexTurnsRow.holds Try.pinned (OpenSpec.ofChange regexTurnsWrong)

/-- 'covalentlaw27.RegexCounts': WHATEVER THE INPUT: true; the input reads as it did. -/
def regexCountsSpec : ChangeSpec := { name := "regexCounts", fn := fun _ => fun
  | [d1, d2] => { results := [.lit (.bool true)], args := [d1, d2] }
  | _ => none }
def regexCountsRow : OpenClaim := { program := "ytjfahhbobiiphaa", sum := "ddb5a16a48ea70d4dcad3088f8f8537450f9f3e8ff9bee8a484b715a438e2554", func := "covalent/covalentlaw27.RegexCounts", spec := "regexCounts", inPlace := ["internal/bytealg.IndexByteString", "internal/abi.NoEscape"], unfollowed := true, recurses := true, loops := true, plainKeys := false, apart := false }
def RegexCountsSaid : Prop := regexCountsRow.holds Try.pinned (OpenSpec.ofChange regexCountsSpec)

/-- ITS FALSE NEIGHBOUR: 'it returns false'. Refute it at one input. -/
def regexCountsWrong : ChangeSpec := { name := "regexCounts", fn := fun _ => fun
  | [d1, d2] => { results := [.lit (.bool false)], args := [d1, d2] }
  | _ => none }
def RegexCountsWrongFalsely : Prop := regexCountsRow.holds Try.pinned (OpenSpec.ofChange regexCountsWrong)

/-- 'covalentlaw27.RegexStates': WHATEVER THE INPUT: true; the input reads as it did. -/
def regexStatesSpec : ChangeSpec := { name := "regexStates", fn := fun _ => fun
  | [d] => { results := [.lit (.bool true)], args := [d] }
  | _ => none }
def regexStatesRow : OpenClaim := { program := "ytjfahhbobiiphaa", sum := "ddb5a16a48ea70d4dcad3088f8f8537450f9f3e8ff9bee8a484b715a438e2554", func := "covalent/covalentlaw27.RegexStates", spec := "regexStates", inPlace := ["internal/bytealg.IndexByteString", "internal/abi.NoEscape"], unfollowed := true, recurses := true, loops := true, plainKeys := false, apart := false }
def RegexStatesSaid : Prop := regexStatesRow.holds Try.pinned (OpenSpec.ofChange regexStatesSpec)

/-- ITS FALSE NEIGHBOUR: 'it returns false'. Refute it at one input. -/
def regexStatesWrong : ChangeSpec := { name := "regexStates", fn := fun _ => fun
  | [d] => { results := [.lit (.bool false)], args := [d] }
  | _ => none }
def RegexStatesWrongFalsely : Prop := regexStatesRow.holds Try.pinned (OpenSpec.ofChange regexStatesWrong)

/- THE SECOND FORM. 'bulk': how many values and letters a reading holds, each counted each time it is reached (what is shared counts as often as it is met; a slice's spare places count too). A statement '..UptoSaid' is the law's where the arguments, and the package variables that the reading takes, are together of bulk at most 1048576: NARROWER than '..Said'. Prove '..Said' where nothing that the law and all that it calls make is longer than what came in: it says more and counts as full. Else prove '..UptoSaid'. A law counts once. -/
mutual
def uptoBulk {H : Type} : DataW H → Nat
  | .lit (.string bytes) => bytes.length + 1
  | .lit _ => 1
  | .nil => 1
  | .ptr d => uptoBulk d + 1
  | .slice elems spare => uptoBulkAll elems + uptoBulkAll spare + 1
  | .agg parts => uptoBulkAll parts + 1
  | .iface _ d => uptoBulk d + 1
  | .map entries => uptoBulkEntries entries + 1
  | .held _ => 1
def uptoBulkAll {H : Type} : List (DataW H) → Nat
  | [] => 0
  | d :: r => uptoBulk d + uptoBulkAll r
def uptoBulkEntries {H : Type} : List (Lit × DataW H) → Nat
  | [] => 0
  | x :: r => uptoBulkEntry x + uptoBulkEntries r
def uptoBulkEntry {H : Type} : Lit × DataW H → Nat
  | (.string bytes, d) => bytes.length + uptoBulk d + 1
  | (_, d) => uptoBulk d + 1
 end
def uptoSmall : (H : Type) → List (DataW H) → Bool := fun _ ds => decide (uptoBulkAll ds ≤ 1048576)
def OpenSpec.upto (s : _root_.Go.ChangeSpec) : _root_.Go.OpenSpec := { _root_.Go.OpenSpec.ofChange s with cond := some uptoSmall }

/-- 'covalentlaw27.RegexReverses', WHERE WHAT IT READS IS OF BULK AT MOST 1048576: true; the input reads as it did. -/
def regexReversesUptoRow : OpenClaim := { program := "ytjfahhbobiiphaa", sum := "ddb5a16a48ea70d4dcad3088f8f8537450f9f3e8ff9bee8a484b715a438e2554", func := "covalent/covalentlaw27.RegexReverses", spec := "regexReverses", inPlace := ["internal/bytealg.IndexByteString"], unfollowed := true, recurses := true, loops := true, plainKeys := false, apart := false, narrowed := true }
def RegexReversesUptoSaid : Prop := regexReversesUptoRow.holds Try.pinned (OpenSpec.upto regexReversesSpec)

/-- 'covalentlaw27.RegexMatches', WHERE WHAT IT READS IS OF BULK AT MOST 1048576: true; the input reads as it did. -/
def regexMatchesUptoRow : OpenClaim := { program := "ytjfahhbobiiphaa", sum := "ddb5a16a48ea70d4dcad3088f8f8537450f9f3e8ff9bee8a484b715a438e2554", func := "covalent/covalentlaw27.RegexMatches", spec := "regexMatches", inPlace := ["internal/bytealg.IndexByteString"], unfollowed := true, recurses := true, loops := true, plainKeys := false, apart := false, narrowed := true }
def RegexMatchesUptoSaid : Prop := regexMatchesUptoRow.holds Try.pinned (OpenSpec.upto regexMatchesSpec)

/-- 'covalentlaw27.RegexParts', WHERE WHAT IT READS IS OF BULK AT MOST 1048576: true; the input reads as it did. -/
def regexPartsUptoRow : OpenClaim := { program := "ytjfahhbobiiphaa", sum := "ddb5a16a48ea70d4dcad3088f8f8537450f9f3e8ff9bee8a484b715a438e2554", func := "covalent/covalentlaw27.RegexParts", spec := "regexParts", inPlace := ["internal/bytealg.IndexByteString"], unfollowed := true, recurses := true, loops := true, plainKeys := false, apart := false, narrowed := true }
def RegexPartsUptoSaid : Prop := regexPartsUptoRow.holds Try.pinned (OpenSpec.upto regexPartsSpec)

/-- 'covalentlaw27.RegexFinds', WHERE WHAT IT READS IS OF BULK AT MOST 1048576: true; the input reads as it did. -/
def regexFindsUptoRow : OpenClaim := { program := "ytjfahhbobiiphaa", sum := "ddb5a16a48ea70d4dcad3088f8f8537450f9f3e8ff9bee8a484b715a438e2554", func := "covalent/covalentlaw27.RegexFinds", spec := "regexFinds", inPlace := ["internal/bytealg.IndexByteString", "internal/abi.NoEscape"], unfollowed := true, recurses := true, loops := true, plainKeys := false, apart := false, narrowed := true }
def RegexFindsUptoSaid : Prop := regexFindsUptoRow.holds Try.pinned (OpenSpec.upto regexFindsSpec)

/-- 'covalentlaw27.RegexDerives', WHERE WHAT IT READS IS OF BULK AT MOST 1048576: true; the input reads as it did. -/
def regexDerivesUptoRow : OpenClaim := { program := "ytjfahhbobiiphaa", sum := "ddb5a16a48ea70d4dcad3088f8f8537450f9f3e8ff9bee8a484b715a438e2554", func := "covalent/covalentlaw27.RegexDerives", spec := "regexDerives", inPlace := ["internal/bytealg.IndexByteString"], unfollowed := true, recurses := true, loops := true, plainKeys := false, apart := false, narrowed := true }
def RegexDerivesUptoSaid : Prop := regexDerivesUptoRow.holds Try.pinned (OpenSpec.upto regexDerivesSpec)

/-- 'covalentlaw27.RegexTexts', WHERE WHAT IT READS IS OF BULK AT MOST 1048576: true; the input reads as it did. -/
def regexTextsUptoRow : OpenClaim := { program := "ytjfahhbobiiphaa", sum := "ddb5a16a48ea70d4dcad3088f8f8537450f9f3e8ff9bee8a484b715a438e2554", func := "covalent/covalentlaw27.RegexTexts", spec := "regexTexts", inPlace := ["internal/bytealg.IndexByteString", "internal/abi.NoEscape", "internal/bytealg.MakeNoZero"], unfollowed := true, recurses := true, loops := true, plainKeys := false, apart := false, narrowed := true }
def RegexTextsUptoSaid : Prop := regexTextsUptoRow.holds Try.pinned (OpenSpec.upto regexTextsSpec)

/-- 'covalentlaw27.RegexParses', WHERE WHAT IT READS IS OF BULK AT MOST 1048576: true; the input reads as it did. -/
def regexParsesUptoRow : OpenClaim := { program := "ytjfahhbobiiphaa", sum := "ddb5a16a48ea70d4dcad3088f8f8537450f9f3e8ff9bee8a484b715a438e2554", func := "covalent/covalentlaw27.RegexParses", spec := "regexParses", inPlace := ["internal/bytealg.IndexByteString", "internal/abi.NoEscape", "internal/bytealg.MakeNoZero"], unfollowed := true, recurses := true, plainKeys := false, apart := false, narrowed := true }
def RegexParsesUptoSaid : Prop := regexParsesUptoRow.holds Try.pinned (OpenSpec.upto regexParsesSpec)

/-- 'covalentlaw27.RegexEquals', WHERE WHAT IT READS IS OF BULK AT MOST 1048576: true; the input reads as it did. -/
def regexEqualsUptoRow : OpenClaim := { program := "ytjfahhbobiiphaa", sum := "ddb5a16a48ea70d4dcad3088f8f8537450f9f3e8ff9bee8a484b715a438e2554", func := "covalent/covalentlaw27.RegexEquals", spec := "regexEquals", inPlace := ["internal/bytealg.IndexByteString", "internal/abi.NoEscape"], unfollowed := true, recurses := true, loops := true, plainKeys := false, apart := false, narrowed := true }
def RegexEqualsUptoSaid : Prop := regexEqualsUptoRow.holds Try.pinned (OpenSpec.upto regexEqualsSpec)

/-- 'covalentlaw27.RegexAlike', WHERE WHAT IT READS IS OF BULK AT MOST 1048576: true; the input reads as it did. -/
def regexAlikeUptoRow : OpenClaim := { program := "ytjfahhbobiiphaa", sum := "ddb5a16a48ea70d4dcad3088f8f8537450f9f3e8ff9bee8a484b715a438e2554", func := "covalent/covalentlaw27.RegexAlike", spec := "regexAlike", inPlace := ["internal/bytealg.IndexByteString", "internal/abi.NoEscape"], unfollowed := true, recurses := true, loops := true, plainKeys := false, apart := false, narrowed := true }
def RegexAlikeUptoSaid : Prop := regexAlikeUptoRow.holds Try.pinned (OpenSpec.upto regexAlikeSpec)

/-- 'covalentlaw27.RegexTurns', WHERE WHAT IT READS IS OF BULK AT MOST 1048576: true; the input reads as it did. -/
def regexTurnsUptoRow : OpenClaim := { program := "ytjfahhbobiiphaa", sum := "ddb5a16a48ea70d4dcad3088f8f8537450f9f3e8ff9bee8a484b715a438e2554", func := "covalent/covalentlaw27.RegexTurns", spec := "regexTurns", inPlace := ["internal/bytealg.IndexByteString", "internal/abi.NoEscape"], unfollowed := true, recurses := true, loops := true, plainKeys := false, apart := false, narrowed := true }
def RegexTurnsUptoSaid : Prop := regexTurnsUptoRow.holds Try.pinned (OpenSpec.upto regexTurnsSpec)

/-- 'covalentlaw27.RegexCounts', WHERE WHAT IT READS IS OF BULK AT MOST 1048576: true; the input reads as it did. -/
def regexCountsUptoRow : OpenClaim := { program := "ytjfahhbobiiphaa", sum := "ddb5a16a48ea70d4dcad3088f8f8537450f9f3e8ff9bee8a484b715a438e2554", func := "covalent/covalentlaw27.RegexCounts", spec := "regexCounts", inPlace := ["internal/bytealg.IndexByteString", "internal/abi.NoEscape"], unfollowed := true, recurses := true, loops := true, plainKeys := false, apart := false, narrowed := true }
def RegexCountsUptoSaid : Prop := regexCountsUptoRow.holds Try.pinned (OpenSpec.upto regexCountsSpec)

/-- 'covalentlaw27.RegexStates', WHERE WHAT IT READS IS OF BULK AT MOST 1048576: true; the input reads as it did. -/
def regexStatesUptoRow : OpenClaim := { program := "ytjfahhbobiiphaa", sum := "ddb5a16a48ea70d4dcad3088f8f8537450f9f3e8ff9bee8a484b715a438e2554", func := "covalent/covalentlaw27.RegexStates", spec := "regexStates", inPlace := ["internal/bytealg.IndexByteString", "internal/abi.NoEscape"], unfollowed := true, recurses := true, loops := true, plainKeys := false, apart := false, narrowed := true }
def RegexStatesUptoSaid : Prop := regexStatesUptoRow.holds Try.pinned (OpenSpec.upto regexStatesSpec)

end Rows
end Go.Proofs.Ytjfahhbobiiphaa
