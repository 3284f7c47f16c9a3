/- Conditions that are known; small rules for lists that grow. -/
import Derived.Test.YtjfahhbobiiphaaAbG
import Derived.Test.YtjfahhbobiiphaaAbL
set_option linter.unusedSimpArgs false
set_option linter.unusedVariables false
namespace Go.Ab
open Go Go.RowKit
theorem iff_ {P : Program} {n : Fr} {Q : Exit → ASt → Prop} {s : ASt} {b : Bool} {cc : Operand} {x y : Code} (h : AWp P n y Q s) (hb : b = false := by first | rfl | simp) (hc : ev s.env cc = .base (.bool b) := by rfl) : AWp P n (.cond cc x y) Q s := AWp.cond hc (fun h2 => by rw [hb] at h2; cases h2) (fun _ => h)
theorem ift_ {P : Program} {n : Fr} {Q : Exit → ASt → Prop} {s : ASt} {b : Bool} {cc : Operand} {x y : Code} (h : AWp P n x Q s) (hb : b = true := by first | rfl | simp) (hc : ev s.env cc = .base (.bool b) := by rfl) : AWp P n (.cond cc x y) Q s := AWp.cond hc (fun _ => h) (fun h2 => by rw [hb] at h2; cases h2)
end Go.Ab
