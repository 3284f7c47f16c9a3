/- CoverRuns returns true for every input, and leaves it as it was. -/
import Derived.Test.YtpgbgclphjgdbaaRows
import Derived.WalkKit
import Derived.ProofKit
import Derived.OpenShut
import Derived.Test.YtpgbgclphjgdbaaCH
set_option linter.unusedSimpArgs false
set_option linter.unusedVariables false
namespace Go.Ab
open Go Go.Ab Go.Proofs Go.Ab.Ty
theorem lawF7 (xs : List AV) (hlen : xs.length = Try.f7.params.size) (h : ∀ (j : Nat) t a, Try.f7.params[j]? = some t → xs[j]? = some a → ShV Try.prog t a) : Fn Try.prog 7 xs (.bool true) := by
  rw [Try.params7] at hlen h
  match xs, hlen, h with
  | [a0, a1], _, h =>
    obtain ⟨r0, rfl, hl0, hr0⟩ := shDgs (h 0 52 a0 rfl rfl)
    obtain ⟨r1, rfl, hr1⟩ := shN (h 1 27 a1 rfl rfl)
    exact law_runs r0 r1 hl0 hr0 hr1
end Go.Ab
namespace Go.Proofs.Ytpgbgclphjgdbaa
open Go.ChangeShapes Go.WideShapes Go.ChangeAt Go.RowKit
theorem own7 : ownKnob Try.prog.godebug = none := by kernel_rfl
set_option maxRecDepth 100000 in
theorem lifted7 (os : Os) (started : os.Started) (H : Type) (enc : TypeId × Value → H) :
    ReturnsInHanded {} Try.checked os 7 .any (Rows.coverRunsSpec.pre6 enc Try.prog Try.f7 Rows.coverRunsRow.domain false) (Rows.coverRunsSpec.post enc Try.prog Try.f7 false true false false) := by
  refine returnsInHanded_of_change (C := Try.checked) own7 started (by kernel_rfl) Try.func7
    (ChangeSpec.witness6 (enc := enc) (C := Try.checked) false ⟨#[], #[.slice none 0 0, .agg #[.int .i64 0, .string ByteArray.empty, .int .i64 0, .int .i64 0, .string ByteArray.empty, .int .i64 0, .slice none 0 0, .slice none 0 0, .slice none 0 0, .int .i64 0]], []⟩ 8 (by kernel_rfl) (by kernel_rfl) (by kernel_rfl) (by kernel_rfl)) ?_
  intro W base args ds gs before hval hW _ _
  exact Go.Ab.law_contract (S := [3, 9, 22, 23, 25, 27, 52, 53, 55]) (tb := 4) (by kernel_rfl) (by kernel_rfl) (by kernel_rfl) (by kernel_rfl) Try.underlying4 rfl
    (fun ds h => by match ds, h with | [d0, d1], _ => rfl) Go.Ab.lawF7 W base args ds gs before hval hW
theorem coverRunsHolds : Rows.CoverRunsSaid :=
  OpenClaim.holds_of_wide 7 Try.f7 rfl rfl rfl rfl rfl rfl rfl ⟨rfl, rfl, rfl, rfl, rfl⟩ rfl rfl rfl rfl rfl (by kernel_rfl) Try.func7 (by kernel_rfl)
    (of_decide_eq_true (by kernel_rfl)) (by unfold Func.isWrapper; first | (rw [if_pos (by decide +kernel)]; kernel_rfl) | (rw [if_neg (by decide +kernel)]; exact ⟨rfl, rfl⟩))
    (fun os started H enc _ => lifted7 os started H enc)
end Go.Proofs.Ytpgbgclphjgdbaa
