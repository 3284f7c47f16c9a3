/-
  No cell of these rows narrows 'for every input' (looked for: loops, veiled, ifaces, maps, wideKeys, modest, calm, conditions, laid).
  DERIVED. THE GIVEN ROWS OF THIS SEAT. 7 by the template 'for every input the law returns true; each argument reads behind the call as it read before'; 0 by the template 'total and deterministic' (their statements: YthjeoagadjdilaaTotals.lean).
  GIVEN WITH THE SEED: the statements are not yours to turn. If you find one false, say at which input.
  Laid BY PROGRAM, IN A SANDBOX (cutbox-rows.mjs): the forced cells as the released guide's own fill.sh prints them over the translation 5a55365e77be8141… (all of the seat's roots in one cut). By AI agents, Wed Nov 11 2026. No macro, syntax, notation, axiom, sorry.
-/
import Derived.Test.YthjeoagadjdilaaChecked
import GoSem.Claim
import GoSem.ClaimJoined
import GoSem.ClaimMapViews
import Derived.JoinedTies
import Derived.KernelRfl
namespace Go.Proofs.Ythjeoagadjdilaa
/- THE CELL 'sum', in the pinned program and in every row, IS THE sha256 OF THE DUMP (.gsa) THAT YthjeoagadjdilaaProg.lean LOADS. Nothing in Lean hashes anything: it is a label: what it is worth is what the hold of that sum in a sandbox is worth. -/
noncomputable def Try.pinned : Pinned := { name := "ythjeoagadjdilaa", sum := "5a55365e77be81413ad778b869358b534e9b855c1946efc7f5cb9c302bfbb644", checked := Try.checked }
namespace Rows
def none {H : Type} : Left H := { results := [], args := [] }

/-- 'covalentlaw22.RegionValid': WHATEVER THE INPUT: true; the input reads as it did. -/
def regionValidSpec : ChangeSpec := { name := "regionValid", fn := fun _ => fun
  | [d] => { results := [.lit (.bool true)], args := [d] }
  | _ => none }
def regionValidRow : OpenClaim := { program := "ythjeoagadjdilaa", sum := "5a55365e77be81413ad778b869358b534e9b855c1946efc7f5cb9c302bfbb644", func := "covalent/covalentlaw22.RegionValid", spec := "regionValid", unfollowed := true, recurses := true, apart := false }
def RegionValidSaid : Prop := regionValidRow.holds Try.pinned (OpenSpec.ofChange regionValidSpec)

/-- ITS FALSE NEIGHBOUR: 'it returns false'. Refute it at one input. -/
def regionValidWrong : ChangeSpec := { name := "regionValid", fn := fun _ => fun
  | [d] => { results := [.lit (.bool false)], args := [d] }
  | _ => none }
def RegionValidWrongFalsely : Prop := regionValidRow.holds Try.pinned (OpenSpec.ofChange regionValidWrong)

/-- 'covalentlaw22.RegionRenames': WHATEVER THE INPUT: true; the input reads as it did. -/
def regionRenamesSpec : ChangeSpec := { name := "regionRenames", fn := fun _ => fun
  | [d1, d2] => { results := [.lit (.bool true)], args := [d1, d2] }
  | _ => none }
def regionRenamesRow : OpenClaim := { program := "ythjeoagadjdilaa", sum := "5a55365e77be81413ad778b869358b534e9b855c1946efc7f5cb9c302bfbb644", func := "covalent/covalentlaw22.RegionRenames", spec := "regionRenames", unfollowed := true, recurses := true, apart := false }
def RegionRenamesSaid : Prop := regionRenamesRow.holds Try.pinned (OpenSpec.ofChange regionRenamesSpec)

/-- ITS FALSE NEIGHBOUR: 'it returns false'. Refute it at one input. -/
def regionRenamesWrong : ChangeSpec := { name := "regionRenames", fn := fun _ => fun
  | [d1, d2] => { results := [.lit (.bool false)], args := [d1, d2] }
  | _ => none }
def RegionRenamesWrongFalsely : Prop := regionRenamesRow.holds Try.pinned (OpenSpec.ofChange regionRenamesWrong)

/-- 'covalentlaw22.RegionShorter': WHATEVER THE INPUT: true; the input reads as it did. -/
def regionShorterSpec : ChangeSpec := { name := "regionShorter", fn := fun _ => fun
  | [d1, d2] => { results := [.lit (.bool true)], args := [d1, d2] }
  | _ => none }
def regionShorterRow : OpenClaim := { program := "ythjeoagadjdilaa", sum := "5a55365e77be81413ad778b869358b534e9b855c1946efc7f5cb9c302bfbb644", func := "covalent/covalentlaw22.RegionShorter", spec := "regionShorter", unfollowed := true, recurses := true, apart := false }
def RegionShorterSaid : Prop := regionShorterRow.holds Try.pinned (OpenSpec.ofChange regionShorterSpec)

/-- ITS FALSE NEIGHBOUR: 'it returns false'. Refute it at one input. -/
def regionShorterWrong : ChangeSpec := { name := "regionShorter", fn := fun _ => fun
  | [d1, d2] => { results := [.lit (.bool false)], args := [d1, d2] }
  | _ => none }
def RegionShorterWrongFalsely : Prop := regionShorterRow.holds Try.pinned (OpenSpec.ofChange regionShorterWrong)

/-- 'covalentlaw22.RegionChecks': WHATEVER THE INPUT: true; the input reads as it did. -/
def regionChecksSpec : ChangeSpec := { name := "regionChecks", fn := fun _ => fun
  | [d] => { results := [.lit (.bool true)], args := [d] }
  | _ => none }
def regionChecksRow : OpenClaim := { program := "ythjeoagadjdilaa", sum := "5a55365e77be81413ad778b869358b534e9b855c1946efc7f5cb9c302bfbb644", func := "covalent/covalentlaw22.RegionChecks", spec := "regionChecks", unfollowed := true, recurses := true, apart := false }
def RegionChecksSaid : Prop := regionChecksRow.holds Try.pinned (OpenSpec.ofChange regionChecksSpec)

/-- ITS FALSE NEIGHBOUR: 'it returns false'. Refute it at one input. -/
def regionChecksWrong : ChangeSpec := { name := "regionChecks", fn := fun _ => fun
  | [d] => { results := [.lit (.bool false)], args := [d] }
  | _ => none }
def RegionChecksWrongFalsely : Prop := regionChecksRow.holds Try.pinned (OpenSpec.ofChange regionChecksWrong)

/-- 'covalentlaw22.RegionGone': WHATEVER THE INPUT: true; the input reads as it did. -/
def regionGoneSpec : ChangeSpec := { name := "regionGone", fn := fun _ => fun
  | [d1, d2] => { results := [.lit (.bool true)], args := [d1, d2] }
  | _ => none }
def regionGoneRow : OpenClaim := { program := "ythjeoagadjdilaa", sum := "5a55365e77be81413ad778b869358b534e9b855c1946efc7f5cb9c302bfbb644", func := "covalent/covalentlaw22.RegionGone", spec := "regionGone", unfollowed := true, recurses := true, apart := false }
def RegionGoneSaid : Prop := regionGoneRow.holds Try.pinned (OpenSpec.ofChange regionGoneSpec)

/-- ITS FALSE NEIGHBOUR: 'it returns false'. Refute it at one input. -/
def regionGoneWrong : ChangeSpec := { name := "regionGone", fn := fun _ => fun
  | [d1, d2] => { results := [.lit (.bool false)], args := [d1, d2] }
  | _ => none }
def RegionGoneWrongFalsely : Prop := regionGoneRow.holds Try.pinned (OpenSpec.ofChange regionGoneWrong)

/-- 'covalentlaw22.RegionStates': WHATEVER THE INPUT: true; the input reads as it did. -/
def regionStatesSpec : ChangeSpec := { name := "regionStates", fn := fun _ => fun
  | [d1, d2] => { results := [.lit (.bool true)], args := [d1, d2] }
  | _ => none }
def regionStatesRow : OpenClaim := { program := "ythjeoagadjdilaa", sum := "5a55365e77be81413ad778b869358b534e9b855c1946efc7f5cb9c302bfbb644", func := "covalent/covalentlaw22.RegionStates", spec := "regionStates", unfollowed := true, recurses := true, apart := false }
def RegionStatesSaid : Prop := regionStatesRow.holds Try.pinned (OpenSpec.ofChange regionStatesSpec)

/-- ITS FALSE NEIGHBOUR: 'it returns false'. Refute it at one input. -/
def regionStatesWrong : ChangeSpec := { name := "regionStates", fn := fun _ => fun
  | [d1, d2] => { results := [.lit (.bool false)], args := [d1, d2] }
  | _ => none }
def RegionStatesWrongFalsely : Prop := regionStatesRow.holds Try.pinned (OpenSpec.ofChange regionStatesWrong)

/-- 'covalentlaw22.RegionDisjoint': WHATEVER THE INPUT: true; the input reads as it did. -/
def regionDisjointSpec : ChangeSpec := { name := "regionDisjoint", fn := fun _ => fun
  | [d1, d2] => { results := [.lit (.bool true)], args := [d1, d2] }
  | _ => none }
def regionDisjointRow : OpenClaim := { program := "ythjeoagadjdilaa", sum := "5a55365e77be81413ad778b869358b534e9b855c1946efc7f5cb9c302bfbb644", func := "covalent/covalentlaw22.RegionDisjoint", spec := "regionDisjoint", unfollowed := true, recurses := true, apart := false }
def RegionDisjointSaid : Prop := regionDisjointRow.holds Try.pinned (OpenSpec.ofChange regionDisjointSpec)

/-- ITS FALSE NEIGHBOUR: 'it returns false'. Refute it at one input. -/
def regionDisjointWrong : ChangeSpec := { name := "regionDisjoint", fn := fun _ => fun
  | [d1, d2] => { results := [.lit (.bool false)], args := [d1, d2] }
  | _ => none }
def RegionDisjointWrongFalsely : Prop := regionDisjointRow.holds Try.pinned (OpenSpec.ofChange regionDisjointWrong)

/- THE SECOND FORM. 'bulk': how many values and letters a reading holds, each counted each time it is reached (what is shared counts as often as it is met; a slice's spare places count too). A statement '..UptoSaid' is the law's where the arguments, and the package variables that the reading takes, are together of bulk at most 1048576: NARROWER than '..Said'. Prove '..Said' where nothing that the law and all that it calls make is longer than what came in: it says more and counts as full. Else prove '..UptoSaid'. A law counts once. -/
mutual
def uptoBulk {H : Type} : DataW H → Nat
  | .lit (.string bytes) => bytes.length + 1
  | .lit _ => 1
  | .nil => 1
  | .ptr d => uptoBulk d + 1
  | .slice elems spare => uptoBulkAll elems + uptoBulkAll spare + 1
  | .agg parts => uptoBulkAll parts + 1
  | .iface _ d => uptoBulk d + 1
  | .map entries => uptoBulkEntries entries + 1
  | .held _ => 1
def uptoBulkAll {H : Type} : List (DataW H) → Nat
  | [] => 0
  | d :: r => uptoBulk d + uptoBulkAll r
def uptoBulkEntries {H : Type} : List (Lit × DataW H) → Nat
  | [] => 0
  | x :: r => uptoBulkEntry x + uptoBulkEntries r
def uptoBulkEntry {H : Type} : Lit × DataW H → Nat
  | (.string bytes, d) => bytes.length + uptoBulk d + 1
  | (_, d) => uptoBulk d + 1
 end
def uptoSmall : (H : Type) → List (DataW H) → Bool := fun _ ds => decide (uptoBulkAll ds ≤ 1048576)
def OpenSpec.upto (s : _root_.Go.ChangeSpec) : _root_.Go.OpenSpec := { _root_.Go.OpenSpec.ofChange s with cond := some uptoSmall }

/-- 'covalentlaw22.RegionValid', WHERE WHAT IT READS IS OF BULK AT MOST 1048576: true; the input reads as it did. -/
def regionValidUptoRow : OpenClaim := { program := "ythjeoagadjdilaa", sum := "5a55365e77be81413ad778b869358b534e9b855c1946efc7f5cb9c302bfbb644", func := "covalent/covalentlaw22.RegionValid", spec := "regionValid", unfollowed := true, recurses := true, apart := false, narrowed := true }
def RegionValidUptoSaid : Prop := regionValidUptoRow.holds Try.pinned (OpenSpec.upto regionValidSpec)

/-- 'covalentlaw22.RegionRenames', WHERE WHAT IT READS IS OF BULK AT MOST 1048576: true; the input reads as it did. -/
def regionRenamesUptoRow : OpenClaim := { program := "ythjeoagadjdilaa", sum := "5a55365e77be81413ad778b869358b534e9b855c1946efc7f5cb9c302bfbb644", func := "covalent/covalentlaw22.RegionRenames", spec := "regionRenames", unfollowed := true, recurses := true, apart := false, narrowed := true }
def RegionRenamesUptoSaid : Prop := regionRenamesUptoRow.holds Try.pinned (OpenSpec.upto regionRenamesSpec)

/-- 'covalentlaw22.RegionShorter', WHERE WHAT IT READS IS OF BULK AT MOST 1048576: true; the input reads as it did. -/
def regionShorterUptoRow : OpenClaim := { program := "ythjeoagadjdilaa", sum := "5a55365e77be81413ad778b869358b534e9b855c1946efc7f5cb9c302bfbb644", func := "covalent/covalentlaw22.RegionShorter", spec := "regionShorter", unfollowed := true, recurses := true, apart := false, narrowed := true }
def RegionShorterUptoSaid : Prop := regionShorterUptoRow.holds Try.pinned (OpenSpec.upto regionShorterSpec)

/-- 'covalentlaw22.RegionChecks', WHERE WHAT IT READS IS OF BULK AT MOST 1048576: true; the input reads as it did. -/
def regionChecksUptoRow : OpenClaim := { program := "ythjeoagadjdilaa", sum := "5a55365e77be81413ad778b869358b534e9b855c1946efc7f5cb9c302bfbb644", func := "covalent/covalentlaw22.RegionChecks", spec := "regionChecks", unfollowed := true, recurses := true, apart := false, narrowed := true }
def RegionChecksUptoSaid : Prop := regionChecksUptoRow.holds Try.pinned (OpenSpec.upto regionChecksSpec)

/-- 'covalentlaw22.RegionGone', WHERE WHAT IT READS IS OF BULK AT MOST 1048576: true; the input reads as it did. -/
def regionGoneUptoRow : OpenClaim := { program := "ythjeoagadjdilaa", sum := "5a55365e77be81413ad778b869358b534e9b855c1946efc7f5cb9c302bfbb644", func := "covalent/covalentlaw22.RegionGone", spec := "regionGone", unfollowed := true, recurses := true, apart := false, narrowed := true }
def RegionGoneUptoSaid : Prop := regionGoneUptoRow.holds Try.pinned (OpenSpec.upto regionGoneSpec)

/-- 'covalentlaw22.RegionStates', WHERE WHAT IT READS IS OF BULK AT MOST 1048576: true; the input reads as it did. -/
def regionStatesUptoRow : OpenClaim := { program := "ythjeoagadjdilaa", sum := "5a55365e77be81413ad778b869358b534e9b855c1946efc7f5cb9c302bfbb644", func := "covalent/covalentlaw22.RegionStates", spec := "regionStates", unfollowed := true, recurses := true, apart := false, narrowed := true }
def RegionStatesUptoSaid : Prop := regionStatesUptoRow.holds Try.pinned (OpenSpec.upto regionStatesSpec)

/-- 'covalentlaw22.RegionDisjoint', WHERE WHAT IT READS IS OF BULK AT MOST 1048576: true; the input reads as it did. -/
def regionDisjointUptoRow : OpenClaim := { program := "ythjeoagadjdilaa", sum := "5a55365e77be81413ad778b869358b534e9b855c1946efc7f5cb9c302bfbb644", func := "covalent/covalentlaw22.RegionDisjoint", spec := "regionDisjoint", unfollowed := true, recurses := true, apart := false, narrowed := true }
def RegionDisjointUptoSaid : Prop := regionDisjointUptoRow.holds Try.pinned (OpenSpec.upto regionDisjointSpec)

end Rows
end Go.Proofs.Ythjeoagadjdilaa
