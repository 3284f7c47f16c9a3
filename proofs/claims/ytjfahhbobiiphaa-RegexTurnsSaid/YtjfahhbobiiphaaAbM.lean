/- Conditions that are known; small rules for lists that grow. -/
import Derived.Test.YtjfahhbobiiphaaAbG
import Derived.Test.YtjfahhbobiiphaaAbL
set_option linter.unusedSimpArgs false
set_option linter.unusedVariables false
namespace Go.Ab
open Go Go.RowKit
theorem iff_ {P : Program} {n : Fr} {Q : Exit → ASt → Prop} {s : ASt} {b : Bool} {cc : Operand} {x y : Code} (h : AWp P n y Q s) (hb : b = false := by first | rfl | simp) (hc : ev s.env cc = .base (.bool b) := by rfl) : AWp P n (.cond cc x y) Q s := AWp.cond hc (fun h2 => by rw [hb] at h2; cases h2) (fun _ => h)
theorem ift_ {P : Program} {n : Fr} {Q : Exit → ASt → Prop} {s : ASt} {b : Bool} {cc : Operand} {x y : Code} (h : AWp P n x Q s) (hb : b = true := by first | rfl | simp) (hc : ev s.env cc = .base (.bool b) := by rfl) : AWp P n (.cond cc x y) Q s := AWp.cond hc (fun _ => h) (fun h2 => by rw [hb] at h2; cases h2)
theorem iffd_ {P : Program} {n : Fr} {Q : Exit → ASt → Prop} {s : ASt} {p : Prop} [Decidable p] {cc : Operand} {x y : Code} (hc : ev s.env cc = .base (.bool (decide p))) (hp : ¬ p) (h : AWp P n y Q s) : AWp P n (.cond cc x y) Q s := AWp.cond hc (fun h2 => absurd (of_decide_eq_true h2) hp) (fun _ => h)
theorem iftd_ {P : Program} {n : Fr} {Q : Exit → ASt → Prop} {s : ASt} {p : Prop} [Decidable p] {cc : Operand} {x y : Code} (hc : ev s.env cc = .base (.bool (decide p))) (hp : p) (h : AWp P n x Q s) : AWp P n (.cond cc x y) Q s := AWp.cond hc (fun _ => h) (fun h2 => absurd hp (of_decide_eq_false h2))
end Go.Ab
