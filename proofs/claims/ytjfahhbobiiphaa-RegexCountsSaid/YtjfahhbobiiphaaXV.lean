/- Part of the proof. -/
import Derived.Test.YtjfahhbobiiphaaXP
import Derived.Test.YtjfahhbobiiphaaXL
set_option linter.unusedSimpArgs false
set_option linter.unusedVariables false
set_option maxHeartbeats 4000000
namespace Go.Ab
open Go Go.Ab Go.Proofs Go.Ab.Ty

end Go.Ab
set_option maxHeartbeats 4000000
namespace Go.Ab
open Go Go.Ab Go.Proofs Go.Ab.Ty

theorem cnts_app : ∀ a b : List Rx, cnts (a ++ b) = cnts a + cnts b
  | [], b => by simp [cnts]
  | x :: a, b => by rw [List.cons_append, cnts, cnts, cnts_app a b]; omega
theorem lenL_cnts : ∀ l : List Rx, l.length ≤ cnts l
  | [] => by simp
  | x :: l => by have := lenL_cnts l; have := x.cnt_pos; rw [cnts, List.length_cons]; omega
theorem cnt_mk (o : Int) (S : ByteArray) (l : List Rx) : (Rx.mk o S l).cnt = 1 + cnts l := by rw [Rx.cnt]
inductive Rx.tight : Rx → Prop
  | mk (o : Int) (S : ByteArray) (l : List Rx) (h7 : o ≠ 7) (h8 : o ≠ 8) (hl : ∀ x ∈ l, Rx.tight x) : Rx.tight (.mk o S l)
theorem tight_sub {o : Int} {s : ByteArray} {l : List Rx} : (Rx.mk o s l).tight ↔ o ≠ 7 ∧ o ≠ 8 ∧ ∀ x ∈ l, x.tight :=
  ⟨fun | .mk _ _ _ h1 h2 h3 => ⟨h1, h2, h3⟩, fun ⟨h1, h2, h3⟩ => .mk _ _ _ h1 h2 h3⟩
end Go.Ab
