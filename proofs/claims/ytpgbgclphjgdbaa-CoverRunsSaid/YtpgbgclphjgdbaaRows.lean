/-
  NARROWER THAN 'FOR EVERY INPUT', by the rows' own cells (each row's printed sentence says how): CoverFirst: loops · CoverOrder: loops · CoverPairs: loops · CoverFits: loops · CoverRuns: loops.
  DERIVED. THE GIVEN ROWS OF THIS SEAT. 5 by the template 'for every input the law returns true; each argument reads behind the call as it read before'; 0 by the template 'total and deterministic' (their statements: YtpgbgclphjgdbaaTotals.lean).
  GIVEN WITH THE SEED: the statements are not yours to turn. If you find one false, say at which input.
  Laid BY PROGRAM, IN A SANDBOX (cutbox-rows.mjs): the forced cells as the released guide's own fill.sh prints them over the translation c65d80a1da2c90e6… (all of the seat's roots in one cut). By AI agents, Wed Nov 11 2026. No macro, syntax, notation, axiom, sorry.
-/
import Derived.Test.YtpgbgclphjgdbaaChecked
import GoSem.Claim
import GoSem.ClaimJoined
import GoSem.ClaimMapViews
import Derived.JoinedTies
import Derived.KernelRfl
namespace Go.Proofs.Ytpgbgclphjgdbaa
/- THE CELL 'sum', in the pinned program and in every row, IS THE sha256 OF THE DUMP (.gsa) THAT YtpgbgclphjgdbaaProg.lean LOADS. Nothing in Lean hashes anything: it is a label: what it is worth is what the hold of that sum in a sandbox is worth. -/
noncomputable def Try.pinned : Pinned := { name := "ytpgbgclphjgdbaa", sum := "c65d80a1da2c90e66df503e088120d20f018c8b89f670893df25c8bfc4b937d2", checked := Try.checked }
namespace Rows
def none {H : Type} : Left H := { results := [], args := [] }

/-- 'covalentlaw09.CoverFirst': WHATEVER THE INPUT: true; the input reads as it did. -/
def coverFirstSpec : ChangeSpec := { name := "coverFirst", fn := fun _ => fun
  | [d1, d2, d3] => { results := [.lit (.bool true)], args := [d1, d2, d3] }
  | _ => none }
def coverFirstRow : OpenClaim := { program := "ytpgbgclphjgdbaa", sum := "c65d80a1da2c90e66df503e088120d20f018c8b89f670893df25c8bfc4b937d2", func := "covalent/covalentlaw09.CoverFirst", spec := "coverFirst", inPlace := ["internal/abi.NoEscape"], unfollowed := true, recurses := true, loops := true, plainKeys := false, apart := false }
def CoverFirstSaid : Prop := coverFirstRow.holds Try.pinned (OpenSpec.ofChange coverFirstSpec)

/-- ITS FALSE NEIGHBOUR: 'it returns false'. Refute it at one input. -/
def coverFirstWrong : ChangeSpec := { name := "coverFirst", fn := fun _ => fun
  | [d1, d2, d3] => { results := [.lit (.bool false)], args := [d1, d2, d3] }
  | _ => none }
def CoverFirstWrongFalsely : Prop := coverFirstRow.holds Try.pinned (OpenSpec.ofChange coverFirstWrong)

/-- 'covalentlaw09.CoverOrder': WHATEVER THE INPUT: true; the input reads as it did. -/
def coverOrderSpec : ChangeSpec := { name := "coverOrder", fn := fun _ => fun
  | [d1, d2, d3] => { results := [.lit (.bool true)], args := [d1, d2, d3] }
  | _ => none }
def coverOrderRow : OpenClaim := { program := "ytpgbgclphjgdbaa", sum := "c65d80a1da2c90e66df503e088120d20f018c8b89f670893df25c8bfc4b937d2", func := "covalent/covalentlaw09.CoverOrder", spec := "coverOrder", inPlace := ["internal/abi.NoEscape"], unfollowed := true, recurses := true, loops := true, plainKeys := false, apart := false }
def CoverOrderSaid : Prop := coverOrderRow.holds Try.pinned (OpenSpec.ofChange coverOrderSpec)

/-- ITS FALSE NEIGHBOUR: 'it returns false'. Refute it at one input. -/
def coverOrderWrong : ChangeSpec := { name := "coverOrder", fn := fun _ => fun
  | [d1, d2, d3] => { results := [.lit (.bool false)], args := [d1, d2, d3] }
  | _ => none }
def CoverOrderWrongFalsely : Prop := coverOrderRow.holds Try.pinned (OpenSpec.ofChange coverOrderWrong)

/-- 'covalentlaw09.CoverPairs': WHATEVER THE INPUT: true; the input reads as it did. -/
def coverPairsSpec : ChangeSpec := { name := "coverPairs", fn := fun _ => fun
  | [d1, d2] => { results := [.lit (.bool true)], args := [d1, d2] }
  | _ => none }
def coverPairsRow : OpenClaim := { program := "ytpgbgclphjgdbaa", sum := "c65d80a1da2c90e66df503e088120d20f018c8b89f670893df25c8bfc4b937d2", func := "covalent/covalentlaw09.CoverPairs", spec := "coverPairs", inPlace := ["internal/abi.NoEscape"], unfollowed := true, recurses := true, loops := true, plainKeys := false, apart := false }
def CoverPairsSaid : Prop := coverPairsRow.holds Try.pinned (OpenSpec.ofChange coverPairsSpec)

/-- ITS FALSE NEIGHBOUR: 'it returns false'. Refute it at one input. -/
def coverPairsWrong : ChangeSpec := { name := "coverPairs", fn := fun _ => fun
  | [d1, d2] => { results := [.lit (.bool false)], args := [d1, d2] }
  | _ => none }
def CoverPairsWrongFalsely : Prop := coverPairsRow.holds Try.pinned (OpenSpec.ofChange coverPairsWrong)

/-- 'covalentlaw09.CoverFits': WHATEVER THE INPUT: true; the input reads as it did. -/
def coverFitsSpec : ChangeSpec := { name := "coverFits", fn := fun _ => fun
  | [d1, d2, d3] => { results := [.lit (.bool true)], args := [d1, d2, d3] }
  | _ => none }
def coverFitsRow : OpenClaim := { program := "ytpgbgclphjgdbaa", sum := "c65d80a1da2c90e66df503e088120d20f018c8b89f670893df25c8bfc4b937d2", func := "covalent/covalentlaw09.CoverFits", spec := "coverFits", inPlace := ["internal/abi.NoEscape"], unfollowed := true, recurses := true, loops := true, plainKeys := false, apart := false }
def CoverFitsSaid : Prop := coverFitsRow.holds Try.pinned (OpenSpec.ofChange coverFitsSpec)

/-- ITS FALSE NEIGHBOUR: 'it returns false'. Refute it at one input. -/
def coverFitsWrong : ChangeSpec := { name := "coverFits", fn := fun _ => fun
  | [d1, d2, d3] => { results := [.lit (.bool false)], args := [d1, d2, d3] }
  | _ => none }
def CoverFitsWrongFalsely : Prop := coverFitsRow.holds Try.pinned (OpenSpec.ofChange coverFitsWrong)

/-- 'covalentlaw09.CoverRuns': WHATEVER THE INPUT: true; the input reads as it did. -/
def coverRunsSpec : ChangeSpec := { name := "coverRuns", fn := fun _ => fun
  | [d1, d2] => { results := [.lit (.bool true)], args := [d1, d2] }
  | _ => none }
def coverRunsRow : OpenClaim := { program := "ytpgbgclphjgdbaa", sum := "c65d80a1da2c90e66df503e088120d20f018c8b89f670893df25c8bfc4b937d2", func := "covalent/covalentlaw09.CoverRuns", spec := "coverRuns", inPlace := ["internal/abi.NoEscape"], unfollowed := true, recurses := true, loops := true, plainKeys := false, apart := false }
def CoverRunsSaid : Prop := coverRunsRow.holds Try.pinned (OpenSpec.ofChange coverRunsSpec)

/-- ITS FALSE NEIGHBOUR: 'it returns false'. Refute it at one input. -/
def coverRunsWrong : ChangeSpec := { name := "coverRuns", fn := fun _ => fun
  | [d1, d2] => { results := [.lit (.bool false)], args := [d1, d2] }
  | _ => none }
def CoverRunsWrongFalsely : Prop := coverRunsRow.holds Try.pinned (OpenSpec.ofChange coverRunsWrong)

/- THE SECOND FORM. 'bulk': how many values and letters a reading holds, each counted each time it is reached (what is shared counts as often as it is met; a slice's spare places count too). A statement '..UptoSaid' is the law's where the arguments, and the package variables that the reading takes, are together of bulk at most 1048576: NARROWER than '..Said'. Prove '..Said' where nothing that the law and all that it calls make is longer than what came in: it says more and counts as full. Else prove '..UptoSaid'. A law counts once. -/
mutual
def uptoBulk {H : Type} : DataW H → Nat
  | .lit (.string bytes) => bytes.length + 1
  | .lit _ => 1
  | .nil => 1
  | .ptr d => uptoBulk d + 1
  | .slice elems spare => uptoBulkAll elems + uptoBulkAll spare + 1
  | .agg parts => uptoBulkAll parts + 1
  | .iface _ d => uptoBulk d + 1
  | .map entries => uptoBulkEntries entries + 1
  | .held _ => 1
def uptoBulkAll {H : Type} : List (DataW H) → Nat
  | [] => 0
  | d :: r => uptoBulk d + uptoBulkAll r
def uptoBulkEntries {H : Type} : List (Lit × DataW H) → Nat
  | [] => 0
  | x :: r => uptoBulkEntry x + uptoBulkEntries r
def uptoBulkEntry {H : Type} : Lit × DataW H → Nat
  | (.string bytes, d) => bytes.length + uptoBulk d + 1
  | (_, d) => uptoBulk d + 1
 end
def uptoSmall : (H : Type) → List (DataW H) → Bool := fun _ ds => decide (uptoBulkAll ds ≤ 1048576)
def OpenSpec.upto (s : _root_.Go.ChangeSpec) : _root_.Go.OpenSpec := { _root_.Go.OpenSpec.ofChange s with cond := some uptoSmall }

/-- 'covalentlaw09.CoverFirst', WHERE WHAT IT READS IS OF BULK AT MOST 1048576: true; the input reads as it did. -/
def coverFirstUptoRow : OpenClaim := { program := "ytpgbgclphjgdbaa", sum := "c65d80a1da2c90e66df503e088120d20f018c8b89f670893df25c8bfc4b937d2", func := "covalent/covalentlaw09.CoverFirst", spec := "coverFirst", inPlace := ["internal/abi.NoEscape"], unfollowed := true, recurses := true, loops := true, plainKeys := false, apart := false, narrowed := true }
def CoverFirstUptoSaid : Prop := coverFirstUptoRow.holds Try.pinned (OpenSpec.upto coverFirstSpec)

/-- 'covalentlaw09.CoverOrder', WHERE WHAT IT READS IS OF BULK AT MOST 1048576: true; the input reads as it did. -/
def coverOrderUptoRow : OpenClaim := { program := "ytpgbgclphjgdbaa", sum := "c65d80a1da2c90e66df503e088120d20f018c8b89f670893df25c8bfc4b937d2", func := "covalent/covalentlaw09.CoverOrder", spec := "coverOrder", inPlace := ["internal/abi.NoEscape"], unfollowed := true, recurses := true, loops := true, plainKeys := false, apart := false, narrowed := true }
def CoverOrderUptoSaid : Prop := coverOrderUptoRow.holds Try.pinned (OpenSpec.upto coverOrderSpec)

/-- 'covalentlaw09.CoverPairs', WHERE WHAT IT READS IS OF BULK AT MOST 1048576: true; the input reads as it did. -/
def coverPairsUptoRow : OpenClaim := { program := "ytpgbgclphjgdbaa", sum := "c65d80a1da2c90e66df503e088120d20f018c8b89f670893df25c8bfc4b937d2", func := "covalent/covalentlaw09.CoverPairs", spec := "coverPairs", inPlace := ["internal/abi.NoEscape"], unfollowed := true, recurses := true, loops := true, plainKeys := false, apart := false, narrowed := true }
def CoverPairsUptoSaid : Prop := coverPairsUptoRow.holds Try.pinned (OpenSpec.upto coverPairsSpec)

/-- 'covalentlaw09.CoverFits', WHERE WHAT IT READS IS OF BULK AT MOST 1048576: true; the input reads as it did. -/
def coverFitsUptoRow : OpenClaim := { program := "ytpgbgclphjgdbaa", sum := "c65d80a1da2c90e66df503e088120d20f018c8b89f670893df25c8bfc4b937d2", func := "covalent/covalentlaw09.CoverFits", spec := "coverFits", inPlace := ["internal/abi.NoEscape"], unfollowed := true, recurses := true, loops := true, plainKeys := false, apart := false, narrowed := true }
def CoverFitsUptoSaid : Prop := coverFitsUptoRow.holds Try.pinned (OpenSpec.upto coverFitsSpec)

/-- 'covalentlaw09.CoverRuns', WHERE WHAT IT READS IS OF BULK AT MOST 1048576: true; the input reads as it did. -/
def coverRunsUptoRow : OpenClaim := { program := "ytpgbgclphjgdbaa", sum := "c65d80a1da2c90e66df503e088120d20f018c8b89f670893df25c8bfc4b937d2", func := "covalent/covalentlaw09.CoverRuns", spec := "coverRuns", inPlace := ["internal/abi.NoEscape"], unfollowed := true, recurses := true, loops := true, plainKeys := false, apart := false, narrowed := true }
def CoverRunsUptoSaid : Prop := coverRunsUptoRow.holds Try.pinned (OpenSpec.upto coverRunsSpec)

end Rows
end Go.Proofs.Ytpgbgclphjgdbaa
