/- RegexStates returns true for every input, and leaves it as it was. -/
import Derived.Test.YtjfahhbobiiphaaRows
import Derived.WalkKit
import Derived.ProofKit
import Derived.OpenShut
import Derived.Test.YtjfahhbobiiphaaZS27
import Derived.Test.YtjfahhbobiiphaaQF27
set_option linter.unusedSimpArgs false
set_option linter.unusedVariables false
namespace Go.Ab
open Go Go.Ab Go.Proofs Go.Ab.Ty
theorem lawF14 (xs : List AV) (hlen : xs.length = Try.f14.params.size) (h : ∀ (j : Nat) t a, Try.f14.params[j]? = some t → xs[j]? = some a → ShV Try.prog t a) : Fn Try.prog 14 xs (.bool true) := by
  rw [Try.params14] at hlen h
  match xs, hlen, h with
  | [a0], _, h =>
    obtain ⟨r0, rfl, hr0⟩ := shX (h 0 24 a0 rfl rfl)
    exact law_states r0 hr0
end Go.Ab
namespace Go.Proofs.Ytjfahhbobiiphaa
open Go.ChangeShapes Go.WideShapes Go.ChangeAt Go.RowKit
theorem own14 : ownKnob Try.prog.godebug = none := by kernel_rfl
set_option maxRecDepth 100000 in
theorem lifted14 (os : Os) (started : os.Started) (H : Type) (enc : TypeId × Value → H) :
    ReturnsInHanded {} Try.checked os 14 .any (Rows.regexStatesSpec.pre6 enc Try.prog Try.f14 Rows.regexStatesRow.domain false) (Rows.regexStatesSpec.post enc Try.prog Try.f14 false true false false) := by
  refine returnsInHanded_of_change (C := Try.checked) own14 started (by kernel_rfl) Try.func14
    (ChangeSpec.witness6 (enc := enc) (C := Try.checked) false ⟨#[], #[.agg #[.int .i64 0, .string ByteArray.empty, .slice none 0 0]], []⟩ 8 (by kernel_rfl) (by kernel_rfl) (by kernel_rfl) (by kernel_rfl)) ?_
  intro W base args ds gs before hval hW _ _
  exact Go.Ab.law_contract (S := [3, 9, 22, 24]) (tb := 4) (by kernel_rfl) (by kernel_rfl) (by kernel_rfl) (by kernel_rfl) Try.underlying4 rfl
    (fun ds h => by match ds, h with | [d0], _ => rfl) Go.Ab.lawF14 W base args ds gs before hval hW
theorem regexStatesHolds : Rows.RegexStatesSaid :=
  OpenClaim.holds_of_wide 14 Try.f14 rfl rfl rfl rfl rfl rfl rfl ⟨rfl, rfl, rfl, rfl, rfl⟩ rfl rfl rfl rfl rfl (by kernel_rfl) Try.func14 (by kernel_rfl)
    (of_decide_eq_true (by kernel_rfl)) (by unfold Func.isWrapper; first | (rw [if_pos (by decide +kernel)]; kernel_rfl) | (rw [if_neg (by decide +kernel)]; exact ⟨rfl, rfl⟩))
    (fun os started H enc _ => lifted14 os started H enc)
end Go.Proofs.Ytjfahhbobiiphaa
