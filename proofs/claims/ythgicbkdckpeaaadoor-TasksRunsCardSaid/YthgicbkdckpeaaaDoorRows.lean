/-
  NARROWER THAN 'FOR EVERY INPUT', by the rows' own cells (each row's printed sentence says how): TopCancels: laid · TasksZeros: laid · TasksOrders: laid · TasksTree: laid · TasksSame: laid · TasksEnds: laid · TasksRuns: laid · TasksRaces: laid · TasksSafe: laid · TopChain: laid · TopOrdered: laid.
  DERIVED. THE GIVEN ROWS OF THIS SEAT. 11 by the template 'for every input the law returns true; each argument reads behind the call as it read before'; 0 by the template 'total and deterministic' (their statements: YthgicbkdckpeaaaDoorTotals.lean).
  GIVEN WITH THE SEED: the statements are not yours to turn. If you find one false, say at which input.
  Laid BY PROGRAM, IN A SANDBOX (cutbox-rows.mjs): the forced cells as the released guide's own fill.sh prints them over the translation bab3f9739e904077… (all of the seat's roots in one cut). By AI agents, Wed Nov 11 2026. No macro, syntax, notation, axiom, sorry.
-/
import Derived.Test.YthgicbkdckpeaaaDoorChecked
import GoSem.Claim
import GoSem.ClaimJoined
import GoSem.ClaimMapViews
import Derived.JoinedTies
import Derived.KernelRfl
namespace Go.Proofs.YthgicbkdckpeaaaDoor
/- THE CELL 'sum', in the pinned program and in every row, IS THE sha256 OF THE DUMP (.gsa) THAT YthgicbkdckpeaaaDoorProg.lean LOADS. Nothing in Lean hashes anything: it is a label: what it is worth is what the hold of that sum in a sandbox is worth. -/
noncomputable def Tryd.pinned : Pinned := { name := "ythgicbkdckpeaaadoor", sum := "bab3f9739e904077eac3e272c2d0e26461f30be7d59633b2433a8fbcdbdf2d08", checked := Tryd.checked }
namespace Rows
def none {H : Type} : Left H := { results := [], args := [] }

/- WHAT THE LISTED PACKAGE-LEVEL VARIABLES READ AS WHEN THE CALL BEGINS. Each datum BY PROGRAM (the guide's laid-datum.mjs) off the statement by which the dump's own 'gosem.cut.vars' lays the variable. In a bare row this is a premise. The card (YthgicbkdckpeaaaDoorCards.lean) ties it to the program's text. -/
def laid_math_bits_deBruijn32tab {H : Type} : DataW H := .agg [.lit (.int .u8 0), .lit (.int .u8 1), .lit (.int .u8 28), .lit (.int .u8 2), .lit (.int .u8 29), .lit (.int .u8 14), .lit (.int .u8 24), .lit (.int .u8 3), .lit (.int .u8 30), .lit (.int .u8 22), .lit (.int .u8 20), .lit (.int .u8 15), .lit (.int .u8 25), .lit (.int .u8 17), .lit (.int .u8 4), .lit (.int .u8 8), .lit (.int .u8 31), .lit (.int .u8 27), .lit (.int .u8 13), .lit (.int .u8 23), .lit (.int .u8 21), .lit (.int .u8 19), .lit (.int .u8 16), .lit (.int .u8 7), .lit (.int .u8 26), .lit (.int .u8 12), .lit (.int .u8 18), .lit (.int .u8 6), .lit (.int .u8 11), .lit (.int .u8 5), .lit (.int .u8 10), .lit (.int .u8 9)]
def laid_math_bits_deBruijn64tab {H : Type} : DataW H := .agg [.lit (.int .u8 0), .lit (.int .u8 1), .lit (.int .u8 56), .lit (.int .u8 2), .lit (.int .u8 57), .lit (.int .u8 49), .lit (.int .u8 28), .lit (.int .u8 3), .lit (.int .u8 61), .lit (.int .u8 58), .lit (.int .u8 42), .lit (.int .u8 50), .lit (.int .u8 38), .lit (.int .u8 29), .lit (.int .u8 17), .lit (.int .u8 4), .lit (.int .u8 62), .lit (.int .u8 47), .lit (.int .u8 59), .lit (.int .u8 36), .lit (.int .u8 45), .lit (.int .u8 43), .lit (.int .u8 51), .lit (.int .u8 22), .lit (.int .u8 53), .lit (.int .u8 39), .lit (.int .u8 33), .lit (.int .u8 30), .lit (.int .u8 24), .lit (.int .u8 18), .lit (.int .u8 12), .lit (.int .u8 5), .lit (.int .u8 63), .lit (.int .u8 55), .lit (.int .u8 48), .lit (.int .u8 27), .lit (.int .u8 60), .lit (.int .u8 41), .lit (.int .u8 37), .lit (.int .u8 16), .lit (.int .u8 46), .lit (.int .u8 35), .lit (.int .u8 44), .lit (.int .u8 21), .lit (.int .u8 52), .lit (.int .u8 32), .lit (.int .u8 23), .lit (.int .u8 11), .lit (.int .u8 54), .lit (.int .u8 26), .lit (.int .u8 40), .lit (.int .u8 15), .lit (.int .u8 34), .lit (.int .u8 20), .lit (.int .u8 31), .lit (.int .u8 10), .lit (.int .u8 25), .lit (.int .u8 14), .lit (.int .u8 19), .lit (.int .u8 9), .lit (.int .u8 13), .lit (.int .u8 8), .lit (.int .u8 7), .lit (.int .u8 6)]
def laid_internal_strconv_uint64pow10 {H : Type} : DataW H := .agg [.lit (.int .u64 1), .lit (.int .u64 10), .lit (.int .u64 100), .lit (.int .u64 1000), .lit (.int .u64 10000), .lit (.int .u64 100000), .lit (.int .u64 1000000), .lit (.int .u64 10000000), .lit (.int .u64 100000000), .lit (.int .u64 1000000000), .lit (.int .u64 10000000000), .lit (.int .u64 100000000000), .lit (.int .u64 1000000000000), .lit (.int .u64 10000000000000), .lit (.int .u64 100000000000000), .lit (.int .u64 1000000000000000), .lit (.int .u64 10000000000000000), .lit (.int .u64 100000000000000000), .lit (.int .u64 1000000000000000000), .lit (.int .u64 10000000000000000000)]

/-- 'covalenttop.TopCancels': WHATEVER THE INPUT: true; the input reads as it did. -/
def topCancelsSpec : ChangeSpec := { name := "topCancels", fn := fun _ => fun
  | [d1, d2] => { results := [.lit (.bool true)], args := [d1, d2] }
  | _ => none }
def topCancelsRow : OpenClaim := { program := "ythgicbkdckpeaaadoor", sum := "bab3f9739e904077eac3e272c2d0e26461f30be7d59633b2433a8fbcdbdf2d08", func := "covalent/covalenttop.TopCancels", spec := "topCancels", unfollowed := true, recurses := true, named := ["internal/strconv.uint64pow10", "math/bits.deBruijn32tab", "math/bits.deBruijn64tab"], apart := false, laid := [("math/bits.deBruijn32tab", laid_math_bits_deBruijn32tab), ("math/bits.deBruijn64tab", laid_math_bits_deBruijn64tab), ("internal/strconv.uint64pow10", laid_internal_strconv_uint64pow10)] }
def TopCancelsSaid : Prop := topCancelsRow.holds Tryd.pinned (OpenSpec.ofChange topCancelsSpec)

/-- ITS FALSE NEIGHBOUR: 'it returns false'. Refute it at one input. -/
def topCancelsWrong : ChangeSpec := { name := "topCancels", fn := fun _ => fun
  | [d1, d2] => { results := [.lit (.bool false)], args := [d1, d2] }
  | _ => none }
def TopCancelsWrongFalsely : Prop := topCancelsRow.holds Tryd.pinned (OpenSpec.ofChange topCancelsWrong)

/-- 'covalentlaw23.TasksZeros': WHATEVER THE INPUT: true; the input reads as it did. -/
def tasksZerosSpec : ChangeSpec := { name := "tasksZeros", fn := fun _ => fun
  | [d1, d2, d3] => { results := [.lit (.bool true)], args := [d1, d2, d3] }
  | _ => none }
def tasksZerosRow : OpenClaim := { program := "ythgicbkdckpeaaadoor", sum := "bab3f9739e904077eac3e272c2d0e26461f30be7d59633b2433a8fbcdbdf2d08", func := "covalent/covalentlaw23.TasksZeros", spec := "tasksZeros", unfollowed := true, recurses := true, named := ["internal/strconv.uint64pow10", "math/bits.deBruijn32tab", "math/bits.deBruijn64tab"], apart := false, laid := [("math/bits.deBruijn32tab", laid_math_bits_deBruijn32tab), ("math/bits.deBruijn64tab", laid_math_bits_deBruijn64tab), ("internal/strconv.uint64pow10", laid_internal_strconv_uint64pow10)] }
def TasksZerosSaid : Prop := tasksZerosRow.holds Tryd.pinned (OpenSpec.ofChange tasksZerosSpec)

/-- ITS FALSE NEIGHBOUR: 'it returns false'. Refute it at one input. -/
def tasksZerosWrong : ChangeSpec := { name := "tasksZeros", fn := fun _ => fun
  | [d1, d2, d3] => { results := [.lit (.bool false)], args := [d1, d2, d3] }
  | _ => none }
def TasksZerosWrongFalsely : Prop := tasksZerosRow.holds Tryd.pinned (OpenSpec.ofChange tasksZerosWrong)

/-- 'covalentlaw23.TasksOrders': WHATEVER THE INPUT: true; the input reads as it did. -/
def tasksOrdersSpec : ChangeSpec := { name := "tasksOrders", fn := fun _ => fun
  | [d1, d2, d3] => { results := [.lit (.bool true)], args := [d1, d2, d3] }
  | _ => none }
def tasksOrdersRow : OpenClaim := { program := "ythgicbkdckpeaaadoor", sum := "bab3f9739e904077eac3e272c2d0e26461f30be7d59633b2433a8fbcdbdf2d08", func := "covalent/covalentlaw23.TasksOrders", spec := "tasksOrders", unfollowed := true, recurses := true, named := ["internal/strconv.uint64pow10", "math/bits.deBruijn32tab", "math/bits.deBruijn64tab"], apart := false, laid := [("math/bits.deBruijn32tab", laid_math_bits_deBruijn32tab), ("math/bits.deBruijn64tab", laid_math_bits_deBruijn64tab), ("internal/strconv.uint64pow10", laid_internal_strconv_uint64pow10)] }
def TasksOrdersSaid : Prop := tasksOrdersRow.holds Tryd.pinned (OpenSpec.ofChange tasksOrdersSpec)

/-- ITS FALSE NEIGHBOUR: 'it returns false'. Refute it at one input. -/
def tasksOrdersWrong : ChangeSpec := { name := "tasksOrders", fn := fun _ => fun
  | [d1, d2, d3] => { results := [.lit (.bool false)], args := [d1, d2, d3] }
  | _ => none }
def TasksOrdersWrongFalsely : Prop := tasksOrdersRow.holds Tryd.pinned (OpenSpec.ofChange tasksOrdersWrong)

/-- 'covalentlaw23.TasksTree': WHATEVER THE INPUT: true; the input reads as it did. -/
def tasksTreeSpec : ChangeSpec := { name := "tasksTree", fn := fun _ => fun
  | [d1, d2] => { results := [.lit (.bool true)], args := [d1, d2] }
  | _ => none }
def tasksTreeRow : OpenClaim := { program := "ythgicbkdckpeaaadoor", sum := "bab3f9739e904077eac3e272c2d0e26461f30be7d59633b2433a8fbcdbdf2d08", func := "covalent/covalentlaw23.TasksTree", spec := "tasksTree", unfollowed := true, recurses := true, named := ["internal/strconv.uint64pow10", "math/bits.deBruijn32tab", "math/bits.deBruijn64tab"], apart := false, laid := [("math/bits.deBruijn32tab", laid_math_bits_deBruijn32tab), ("math/bits.deBruijn64tab", laid_math_bits_deBruijn64tab), ("internal/strconv.uint64pow10", laid_internal_strconv_uint64pow10)] }
def TasksTreeSaid : Prop := tasksTreeRow.holds Tryd.pinned (OpenSpec.ofChange tasksTreeSpec)

/-- ITS FALSE NEIGHBOUR: 'it returns false'. Refute it at one input. -/
def tasksTreeWrong : ChangeSpec := { name := "tasksTree", fn := fun _ => fun
  | [d1, d2] => { results := [.lit (.bool false)], args := [d1, d2] }
  | _ => none }
def TasksTreeWrongFalsely : Prop := tasksTreeRow.holds Tryd.pinned (OpenSpec.ofChange tasksTreeWrong)

/-- 'covalentlaw23.TasksSame': WHATEVER THE INPUT: true; the input reads as it did. -/
def tasksSameSpec : ChangeSpec := { name := "tasksSame", fn := fun _ => fun
  | [d1, d2] => { results := [.lit (.bool true)], args := [d1, d2] }
  | _ => none }
def tasksSameRow : OpenClaim := { program := "ythgicbkdckpeaaadoor", sum := "bab3f9739e904077eac3e272c2d0e26461f30be7d59633b2433a8fbcdbdf2d08", func := "covalent/covalentlaw23.TasksSame", spec := "tasksSame", unfollowed := true, recurses := true, named := ["internal/strconv.uint64pow10", "math/bits.deBruijn32tab", "math/bits.deBruijn64tab"], apart := false, laid := [("math/bits.deBruijn32tab", laid_math_bits_deBruijn32tab), ("math/bits.deBruijn64tab", laid_math_bits_deBruijn64tab), ("internal/strconv.uint64pow10", laid_internal_strconv_uint64pow10)] }
def TasksSameSaid : Prop := tasksSameRow.holds Tryd.pinned (OpenSpec.ofChange tasksSameSpec)

/-- ITS FALSE NEIGHBOUR: 'it returns false'. Refute it at one input. -/
def tasksSameWrong : ChangeSpec := { name := "tasksSame", fn := fun _ => fun
  | [d1, d2] => { results := [.lit (.bool false)], args := [d1, d2] }
  | _ => none }
def TasksSameWrongFalsely : Prop := tasksSameRow.holds Tryd.pinned (OpenSpec.ofChange tasksSameWrong)

/-- 'covalentlaw23.TasksEnds': WHATEVER THE INPUT: true; the input reads as it did. -/
def tasksEndsSpec : ChangeSpec := { name := "tasksEnds", fn := fun _ => fun
  | [d1, d2] => { results := [.lit (.bool true)], args := [d1, d2] }
  | _ => none }
def tasksEndsRow : OpenClaim := { program := "ythgicbkdckpeaaadoor", sum := "bab3f9739e904077eac3e272c2d0e26461f30be7d59633b2433a8fbcdbdf2d08", func := "covalent/covalentlaw23.TasksEnds", spec := "tasksEnds", unfollowed := true, recurses := true, named := ["internal/strconv.uint64pow10", "math/bits.deBruijn32tab", "math/bits.deBruijn64tab"], apart := false, laid := [("math/bits.deBruijn32tab", laid_math_bits_deBruijn32tab), ("math/bits.deBruijn64tab", laid_math_bits_deBruijn64tab), ("internal/strconv.uint64pow10", laid_internal_strconv_uint64pow10)] }
def TasksEndsSaid : Prop := tasksEndsRow.holds Tryd.pinned (OpenSpec.ofChange tasksEndsSpec)

/-- ITS FALSE NEIGHBOUR: 'it returns false'. Refute it at one input. -/
def tasksEndsWrong : ChangeSpec := { name := "tasksEnds", fn := fun _ => fun
  | [d1, d2] => { results := [.lit (.bool false)], args := [d1, d2] }
  | _ => none }
def TasksEndsWrongFalsely : Prop := tasksEndsRow.holds Tryd.pinned (OpenSpec.ofChange tasksEndsWrong)

/-- 'covalentlaw23.TasksRuns': WHATEVER THE INPUT: true; the input reads as it did. -/
def tasksRunsSpec : ChangeSpec := { name := "tasksRuns", fn := fun _ => fun
  | [d1, d2] => { results := [.lit (.bool true)], args := [d1, d2] }
  | _ => none }
def tasksRunsRow : OpenClaim := { program := "ythgicbkdckpeaaadoor", sum := "bab3f9739e904077eac3e272c2d0e26461f30be7d59633b2433a8fbcdbdf2d08", func := "covalent/covalentlaw23.TasksRuns", spec := "tasksRuns", unfollowed := true, recurses := true, named := ["internal/strconv.uint64pow10", "math/bits.deBruijn32tab", "math/bits.deBruijn64tab"], apart := false, laid := [("math/bits.deBruijn32tab", laid_math_bits_deBruijn32tab), ("math/bits.deBruijn64tab", laid_math_bits_deBruijn64tab), ("internal/strconv.uint64pow10", laid_internal_strconv_uint64pow10)] }
def TasksRunsSaid : Prop := tasksRunsRow.holds Tryd.pinned (OpenSpec.ofChange tasksRunsSpec)

/-- ITS FALSE NEIGHBOUR: 'it returns false'. Refute it at one input. -/
def tasksRunsWrong : ChangeSpec := { name := "tasksRuns", fn := fun _ => fun
  | [d1, d2] => { results := [.lit (.bool false)], args := [d1, d2] }
  | _ => none }
def TasksRunsWrongFalsely : Prop := tasksRunsRow.holds Tryd.pinned (OpenSpec.ofChange tasksRunsWrong)

/-- 'covalentlaw23.TasksRaces': WHATEVER THE INPUT: true; the input reads as it did. -/
def tasksRacesSpec : ChangeSpec := { name := "tasksRaces", fn := fun _ => fun
  | [d1, d2] => { results := [.lit (.bool true)], args := [d1, d2] }
  | _ => none }
def tasksRacesRow : OpenClaim := { program := "ythgicbkdckpeaaadoor", sum := "bab3f9739e904077eac3e272c2d0e26461f30be7d59633b2433a8fbcdbdf2d08", func := "covalent/covalentlaw23.TasksRaces", spec := "tasksRaces", unfollowed := true, recurses := true, named := ["internal/strconv.uint64pow10", "math/bits.deBruijn32tab", "math/bits.deBruijn64tab"], apart := false, laid := [("math/bits.deBruijn32tab", laid_math_bits_deBruijn32tab), ("math/bits.deBruijn64tab", laid_math_bits_deBruijn64tab), ("internal/strconv.uint64pow10", laid_internal_strconv_uint64pow10)] }
def TasksRacesSaid : Prop := tasksRacesRow.holds Tryd.pinned (OpenSpec.ofChange tasksRacesSpec)

/-- ITS FALSE NEIGHBOUR: 'it returns false'. Refute it at one input. -/
def tasksRacesWrong : ChangeSpec := { name := "tasksRaces", fn := fun _ => fun
  | [d1, d2] => { results := [.lit (.bool false)], args := [d1, d2] }
  | _ => none }
def TasksRacesWrongFalsely : Prop := tasksRacesRow.holds Tryd.pinned (OpenSpec.ofChange tasksRacesWrong)

/-- 'covalentlaw23.TasksSafe': WHATEVER THE INPUT: true; the input reads as it did. -/
def tasksSafeSpec : ChangeSpec := { name := "tasksSafe", fn := fun _ => fun
  | [d1, d2] => { results := [.lit (.bool true)], args := [d1, d2] }
  | _ => none }
def tasksSafeRow : OpenClaim := { program := "ythgicbkdckpeaaadoor", sum := "bab3f9739e904077eac3e272c2d0e26461f30be7d59633b2433a8fbcdbdf2d08", func := "covalent/covalentlaw23.TasksSafe", spec := "tasksSafe", unfollowed := true, recurses := true, named := ["internal/strconv.uint64pow10", "math/bits.deBruijn32tab", "math/bits.deBruijn64tab"], apart := false, laid := [("math/bits.deBruijn32tab", laid_math_bits_deBruijn32tab), ("math/bits.deBruijn64tab", laid_math_bits_deBruijn64tab), ("internal/strconv.uint64pow10", laid_internal_strconv_uint64pow10)] }
def TasksSafeSaid : Prop := tasksSafeRow.holds Tryd.pinned (OpenSpec.ofChange tasksSafeSpec)

/-- ITS FALSE NEIGHBOUR: 'it returns false'. Refute it at one input. -/
def tasksSafeWrong : ChangeSpec := { name := "tasksSafe", fn := fun _ => fun
  | [d1, d2] => { results := [.lit (.bool false)], args := [d1, d2] }
  | _ => none }
def TasksSafeWrongFalsely : Prop := tasksSafeRow.holds Tryd.pinned (OpenSpec.ofChange tasksSafeWrong)

/-- 'covalenttop.TopChain': WHATEVER THE INPUT: true; the input reads as it did. -/
def topChainSpec : ChangeSpec := { name := "topChain", fn := fun _ => fun
  | [d1, d2] => { results := [.lit (.bool true)], args := [d1, d2] }
  | _ => none }
def topChainRow : OpenClaim := { program := "ythgicbkdckpeaaadoor", sum := "bab3f9739e904077eac3e272c2d0e26461f30be7d59633b2433a8fbcdbdf2d08", func := "covalent/covalenttop.TopChain", spec := "topChain", unfollowed := true, recurses := true, named := ["internal/strconv.uint64pow10", "math/bits.deBruijn32tab", "math/bits.deBruijn64tab"], apart := false, laid := [("math/bits.deBruijn32tab", laid_math_bits_deBruijn32tab), ("math/bits.deBruijn64tab", laid_math_bits_deBruijn64tab), ("internal/strconv.uint64pow10", laid_internal_strconv_uint64pow10)] }
def TopChainSaid : Prop := topChainRow.holds Tryd.pinned (OpenSpec.ofChange topChainSpec)

/-- ITS FALSE NEIGHBOUR: 'it returns false'. Refute it at one input. -/
def topChainWrong : ChangeSpec := { name := "topChain", fn := fun _ => fun
  | [d1, d2] => { results := [.lit (.bool false)], args := [d1, d2] }
  | _ => none }
def TopChainWrongFalsely : Prop := topChainRow.holds Tryd.pinned (OpenSpec.ofChange topChainWrong)

/-- 'covalenttop.TopOrdered': WHATEVER THE INPUT: true; the input reads as it did. -/
def topOrderedSpec : ChangeSpec := { name := "topOrdered", fn := fun _ => fun
  | [d1, d2] => { results := [.lit (.bool true)], args := [d1, d2] }
  | _ => none }
def topOrderedRow : OpenClaim := { program := "ythgicbkdckpeaaadoor", sum := "bab3f9739e904077eac3e272c2d0e26461f30be7d59633b2433a8fbcdbdf2d08", func := "covalent/covalenttop.TopOrdered", spec := "topOrdered", unfollowed := true, recurses := true, named := ["internal/strconv.uint64pow10", "math/bits.deBruijn32tab", "math/bits.deBruijn64tab"], apart := false, laid := [("math/bits.deBruijn32tab", laid_math_bits_deBruijn32tab), ("math/bits.deBruijn64tab", laid_math_bits_deBruijn64tab), ("internal/strconv.uint64pow10", laid_internal_strconv_uint64pow10)] }
def TopOrderedSaid : Prop := topOrderedRow.holds Tryd.pinned (OpenSpec.ofChange topOrderedSpec)

/-- ITS FALSE NEIGHBOUR: 'it returns false'. Refute it at one input. -/
def topOrderedWrong : ChangeSpec := { name := "topOrdered", fn := fun _ => fun
  | [d1, d2] => { results := [.lit (.bool false)], args := [d1, d2] }
  | _ => none }
def TopOrderedWrongFalsely : Prop := topOrderedRow.holds Tryd.pinned (OpenSpec.ofChange topOrderedWrong)

/- THE SECOND FORM. 'bulk': how many values and letters a reading holds, each counted each time it is reached (what is shared counts as often as it is met; a slice's spare places count too). A statement '..UptoSaid' is the law's where the arguments, and the package variables that the reading takes, are together of bulk at most 1048576: NARROWER than '..Said'. Prove '..Said' where nothing that the law and all that it calls make is longer than what came in: it says more and counts as full. Else prove '..UptoSaid'. A law counts once. -/
mutual
def uptoBulk {H : Type} : DataW H → Nat
  | .lit (.string bytes) => bytes.length + 1
  | .lit _ => 1
  | .nil => 1
  | .ptr d => uptoBulk d + 1
  | .slice elems spare => uptoBulkAll elems + uptoBulkAll spare + 1
  | .agg parts => uptoBulkAll parts + 1
  | .iface _ d => uptoBulk d + 1
  | .map entries => uptoBulkEntries entries + 1
  | .held _ => 1
def uptoBulkAll {H : Type} : List (DataW H) → Nat
  | [] => 0
  | d :: r => uptoBulk d + uptoBulkAll r
def uptoBulkEntries {H : Type} : List (Lit × DataW H) → Nat
  | [] => 0
  | x :: r => uptoBulkEntry x + uptoBulkEntries r
def uptoBulkEntry {H : Type} : Lit × DataW H → Nat
  | (.string bytes, d) => bytes.length + uptoBulk d + 1
  | (_, d) => uptoBulk d + 1
 end
def uptoSmall : (H : Type) → List (DataW H) → Bool := fun _ ds => decide (uptoBulkAll ds ≤ 1048576)
def OpenSpec.upto (s : _root_.Go.ChangeSpec) : _root_.Go.OpenSpec := { _root_.Go.OpenSpec.ofChange s with cond := some uptoSmall }

/-- 'covalenttop.TopCancels', WHERE WHAT IT READS IS OF BULK AT MOST 1048576: true; the input reads as it did. -/
def topCancelsUptoRow : OpenClaim := { program := "ythgicbkdckpeaaadoor", sum := "bab3f9739e904077eac3e272c2d0e26461f30be7d59633b2433a8fbcdbdf2d08", func := "covalent/covalenttop.TopCancels", spec := "topCancels", unfollowed := true, recurses := true, named := ["internal/strconv.uint64pow10", "math/bits.deBruijn32tab", "math/bits.deBruijn64tab"], apart := false, laid := [("math/bits.deBruijn32tab", laid_math_bits_deBruijn32tab), ("math/bits.deBruijn64tab", laid_math_bits_deBruijn64tab), ("internal/strconv.uint64pow10", laid_internal_strconv_uint64pow10)], narrowed := true }
def TopCancelsUptoSaid : Prop := topCancelsUptoRow.holds Tryd.pinned (OpenSpec.upto topCancelsSpec)

/-- 'covalentlaw23.TasksZeros', WHERE WHAT IT READS IS OF BULK AT MOST 1048576: true; the input reads as it did. -/
def tasksZerosUptoRow : OpenClaim := { program := "ythgicbkdckpeaaadoor", sum := "bab3f9739e904077eac3e272c2d0e26461f30be7d59633b2433a8fbcdbdf2d08", func := "covalent/covalentlaw23.TasksZeros", spec := "tasksZeros", unfollowed := true, recurses := true, named := ["internal/strconv.uint64pow10", "math/bits.deBruijn32tab", "math/bits.deBruijn64tab"], apart := false, laid := [("math/bits.deBruijn32tab", laid_math_bits_deBruijn32tab), ("math/bits.deBruijn64tab", laid_math_bits_deBruijn64tab), ("internal/strconv.uint64pow10", laid_internal_strconv_uint64pow10)], narrowed := true }
def TasksZerosUptoSaid : Prop := tasksZerosUptoRow.holds Tryd.pinned (OpenSpec.upto tasksZerosSpec)

/-- 'covalentlaw23.TasksOrders', WHERE WHAT IT READS IS OF BULK AT MOST 1048576: true; the input reads as it did. -/
def tasksOrdersUptoRow : OpenClaim := { program := "ythgicbkdckpeaaadoor", sum := "bab3f9739e904077eac3e272c2d0e26461f30be7d59633b2433a8fbcdbdf2d08", func := "covalent/covalentlaw23.TasksOrders", spec := "tasksOrders", unfollowed := true, recurses := true, named := ["internal/strconv.uint64pow10", "math/bits.deBruijn32tab", "math/bits.deBruijn64tab"], apart := false, laid := [("math/bits.deBruijn32tab", laid_math_bits_deBruijn32tab), ("math/bits.deBruijn64tab", laid_math_bits_deBruijn64tab), ("internal/strconv.uint64pow10", laid_internal_strconv_uint64pow10)], narrowed := true }
def TasksOrdersUptoSaid : Prop := tasksOrdersUptoRow.holds Tryd.pinned (OpenSpec.upto tasksOrdersSpec)

/-- 'covalentlaw23.TasksTree', WHERE WHAT IT READS IS OF BULK AT MOST 1048576: true; the input reads as it did. -/
def tasksTreeUptoRow : OpenClaim := { program := "ythgicbkdckpeaaadoor", sum := "bab3f9739e904077eac3e272c2d0e26461f30be7d59633b2433a8fbcdbdf2d08", func := "covalent/covalentlaw23.TasksTree", spec := "tasksTree", unfollowed := true, recurses := true, named := ["internal/strconv.uint64pow10", "math/bits.deBruijn32tab", "math/bits.deBruijn64tab"], apart := false, laid := [("math/bits.deBruijn32tab", laid_math_bits_deBruijn32tab), ("math/bits.deBruijn64tab", laid_math_bits_deBruijn64tab), ("internal/strconv.uint64pow10", laid_internal_strconv_uint64pow10)], narrowed := true }
def TasksTreeUptoSaid : Prop := tasksTreeUptoRow.holds Tryd.pinned (OpenSpec.upto tasksTreeSpec)

/-- 'covalentlaw23.TasksSame', WHERE WHAT IT READS IS OF BULK AT MOST 1048576: true; the input reads as it did. -/
def tasksSameUptoRow : OpenClaim := { program := "ythgicbkdckpeaaadoor", sum := "bab3f9739e904077eac3e272c2d0e26461f30be7d59633b2433a8fbcdbdf2d08", func := "covalent/covalentlaw23.TasksSame", spec := "tasksSame", unfollowed := true, recurses := true, named := ["internal/strconv.uint64pow10", "math/bits.deBruijn32tab", "math/bits.deBruijn64tab"], apart := false, laid := [("math/bits.deBruijn32tab", laid_math_bits_deBruijn32tab), ("math/bits.deBruijn64tab", laid_math_bits_deBruijn64tab), ("internal/strconv.uint64pow10", laid_internal_strconv_uint64pow10)], narrowed := true }
def TasksSameUptoSaid : Prop := tasksSameUptoRow.holds Tryd.pinned (OpenSpec.upto tasksSameSpec)

/-- 'covalentlaw23.TasksEnds', WHERE WHAT IT READS IS OF BULK AT MOST 1048576: true; the input reads as it did. -/
def tasksEndsUptoRow : OpenClaim := { program := "ythgicbkdckpeaaadoor", sum := "bab3f9739e904077eac3e272c2d0e26461f30be7d59633b2433a8fbcdbdf2d08", func := "covalent/covalentlaw23.TasksEnds", spec := "tasksEnds", unfollowed := true, recurses := true, named := ["internal/strconv.uint64pow10", "math/bits.deBruijn32tab", "math/bits.deBruijn64tab"], apart := false, laid := [("math/bits.deBruijn32tab", laid_math_bits_deBruijn32tab), ("math/bits.deBruijn64tab", laid_math_bits_deBruijn64tab), ("internal/strconv.uint64pow10", laid_internal_strconv_uint64pow10)], narrowed := true }
def TasksEndsUptoSaid : Prop := tasksEndsUptoRow.holds Tryd.pinned (OpenSpec.upto tasksEndsSpec)

/-- 'covalentlaw23.TasksRuns', WHERE WHAT IT READS IS OF BULK AT MOST 1048576: true; the input reads as it did. -/
def tasksRunsUptoRow : OpenClaim := { program := "ythgicbkdckpeaaadoor", sum := "bab3f9739e904077eac3e272c2d0e26461f30be7d59633b2433a8fbcdbdf2d08", func := "covalent/covalentlaw23.TasksRuns", spec := "tasksRuns", unfollowed := true, recurses := true, named := ["internal/strconv.uint64pow10", "math/bits.deBruijn32tab", "math/bits.deBruijn64tab"], apart := false, laid := [("math/bits.deBruijn32tab", laid_math_bits_deBruijn32tab), ("math/bits.deBruijn64tab", laid_math_bits_deBruijn64tab), ("internal/strconv.uint64pow10", laid_internal_strconv_uint64pow10)], narrowed := true }
def TasksRunsUptoSaid : Prop := tasksRunsUptoRow.holds Tryd.pinned (OpenSpec.upto tasksRunsSpec)

/-- 'covalentlaw23.TasksRaces', WHERE WHAT IT READS IS OF BULK AT MOST 1048576: true; the input reads as it did. -/
def tasksRacesUptoRow : OpenClaim := { program := "ythgicbkdckpeaaadoor", sum := "bab3f9739e904077eac3e272c2d0e26461f30be7d59633b2433a8fbcdbdf2d08", func := "covalent/covalentlaw23.TasksRaces", spec := "tasksRaces", unfollowed := true, recurses := true, named := ["internal/strconv.uint64pow10", "math/bits.deBruijn32tab", "math/bits.deBruijn64tab"], apart := false, laid := [("math/bits.deBruijn32tab", laid_math_bits_deBruijn32tab), ("math/bits.deBruijn64tab", laid_math_bits_deBruijn64tab), ("internal/strconv.uint64pow10", laid_internal_strconv_uint64pow10)], narrowed := true }
def TasksRacesUptoSaid : Prop := tasksRacesUptoRow.holds Tryd.pinned (OpenSpec.upto tasksRacesSpec)

/-- 'covalentlaw23.TasksSafe', WHERE WHAT IT READS IS OF BULK AT MOST 1048576: true; the input reads as it did. -/
def tasksSafeUptoRow : OpenClaim := { program := "ythgicbkdckpeaaadoor", sum := "bab3f9739e904077eac3e272c2d0e26461f30be7d59633b2433a8fbcdbdf2d08", func := "covalent/covalentlaw23.TasksSafe", spec := "tasksSafe", unfollowed := true, recurses := true, named := ["internal/strconv.uint64pow10", "math/bits.deBruijn32tab", "math/bits.deBruijn64tab"], apart := false, laid := [("math/bits.deBruijn32tab", laid_math_bits_deBruijn32tab), ("math/bits.deBruijn64tab", laid_math_bits_deBruijn64tab), ("internal/strconv.uint64pow10", laid_internal_strconv_uint64pow10)], narrowed := true }
def TasksSafeUptoSaid : Prop := tasksSafeUptoRow.holds Tryd.pinned (OpenSpec.upto tasksSafeSpec)

/-- 'covalenttop.TopChain', WHERE WHAT IT READS IS OF BULK AT MOST 1048576: true; the input reads as it did. -/
def topChainUptoRow : OpenClaim := { program := "ythgicbkdckpeaaadoor", sum := "bab3f9739e904077eac3e272c2d0e26461f30be7d59633b2433a8fbcdbdf2d08", func := "covalent/covalenttop.TopChain", spec := "topChain", unfollowed := true, recurses := true, named := ["internal/strconv.uint64pow10", "math/bits.deBruijn32tab", "math/bits.deBruijn64tab"], apart := false, laid := [("math/bits.deBruijn32tab", laid_math_bits_deBruijn32tab), ("math/bits.deBruijn64tab", laid_math_bits_deBruijn64tab), ("internal/strconv.uint64pow10", laid_internal_strconv_uint64pow10)], narrowed := true }
def TopChainUptoSaid : Prop := topChainUptoRow.holds Tryd.pinned (OpenSpec.upto topChainSpec)

/-- 'covalenttop.TopOrdered', WHERE WHAT IT READS IS OF BULK AT MOST 1048576: true; the input reads as it did. -/
def topOrderedUptoRow : OpenClaim := { program := "ythgicbkdckpeaaadoor", sum := "bab3f9739e904077eac3e272c2d0e26461f30be7d59633b2433a8fbcdbdf2d08", func := "covalent/covalenttop.TopOrdered", spec := "topOrdered", unfollowed := true, recurses := true, named := ["internal/strconv.uint64pow10", "math/bits.deBruijn32tab", "math/bits.deBruijn64tab"], apart := false, laid := [("math/bits.deBruijn32tab", laid_math_bits_deBruijn32tab), ("math/bits.deBruijn64tab", laid_math_bits_deBruijn64tab), ("internal/strconv.uint64pow10", laid_internal_strconv_uint64pow10)], narrowed := true }
def TopOrderedUptoSaid : Prop := topOrderedUptoRow.holds Tryd.pinned (OpenSpec.upto topOrderedSpec)

end Rows
end Go.Proofs.YthgicbkdckpeaaaDoor
