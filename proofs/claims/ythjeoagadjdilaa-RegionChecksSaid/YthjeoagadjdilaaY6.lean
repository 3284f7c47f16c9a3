/- Part of the proof. -/
import Derived.Test.YthjeoagadjdilaaRows
import Derived.WalkKit
import Derived.ProofKit
import Derived.OpenShut
import Derived.Test.YthjeoagadjdilaaRF
import Derived.Test.YthjeoagadjdilaaRM
set_option linter.unusedSimpArgs false
set_option linter.unusedVariables false
namespace Go.Ab
open Go Go.Ab Go.Proofs Go.Ab.Ty
set_option linter.unusedSimpArgs false
set_option linter.unusedVariables false
theorem law6' (xs : List AV) (hlen : xs.length = Try.f6.params.size) (h : ∀ (j : Nat) t a, Try.f6.params[j]? = some t → xs[j]? = some a → ShV Try.prog t a) : Fn Try.prog 6 xs (.bool true) := by
  rw [Try.params6] at hlen h
  match xs, hlen, h with
  | [a], _, h =>
    obtain ⟨p, rfl⟩ := shT (h 0 24 a rfl rfl)
    exact law_checks p
end Go.Ab
namespace Go.Proofs.Ythjeoagadjdilaa
open Go.ChangeShapes Go.WideShapes Go.ChangeAt Go.RowKit
set_option linter.unusedVariables false
theorem own6 : ownKnob Try.prog.godebug = none := by kernel_rfl
set_option maxRecDepth 100000 in
theorem lifted6 (os : Os) (started : os.Started) (H : Type) (enc : TypeId × Value → H) :
    ReturnsInHanded {} Try.checked os 6 .any (Rows.regionChecksSpec.pre6 enc Try.prog Try.f6 Rows.regionChecksRow.domain false) (Rows.regionChecksSpec.post enc Try.prog Try.f6 false true false false) := by
  refine returnsInHanded_of_change (C := Try.checked) own6 started (by kernel_rfl) Try.func6
    (ChangeSpec.witness6 (enc := enc) (C := Try.checked) false ⟨#[], #[.agg #[.slice none 0 0, .slice none 0 0, .int .i64 0]], []⟩ 8 (by kernel_rfl) (by kernel_rfl) (by kernel_rfl) (by kernel_rfl)) ?_
  intro W base args ds gs before hval hW _ _
  exact Go.Ab.law_contract (S := [24, 22, 31, 3, 29, 34, 32]) (tb := 4) (by kernel_rfl) (by kernel_rfl) (by kernel_rfl) (by kernel_rfl) Try.underlying4 rfl
    (fun ds h => by match ds, h with | [d], _ => rfl) Go.Ab.law6' W base args ds gs before hval hW
theorem regionChecks : Rows.RegionChecksSaid :=
  OpenClaim.holds_of_wide 6 Try.f6 rfl rfl rfl rfl rfl rfl rfl ⟨rfl, rfl, rfl, rfl, rfl⟩ rfl rfl rfl rfl rfl (by kernel_rfl) Try.func6 (by kernel_rfl)
    (of_decide_eq_true (by kernel_rfl)) (by unfold Func.isWrapper; first | (rw [if_pos (by decide +kernel)]; kernel_rfl) | (rw [if_neg (by decide +kernel)]; exact ⟨rfl, rfl⟩))
    (fun os started H enc _ => lifted6 os started H enc)
end Go.Proofs.Ythjeoagadjdilaa
