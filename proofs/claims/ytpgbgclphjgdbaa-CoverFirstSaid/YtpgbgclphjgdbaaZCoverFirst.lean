/- CoverFirst returns true for every input, and leaves it as it was. -/
import Derived.Test.YtpgbgclphjgdbaaRows
import Derived.WalkKit
import Derived.ProofKit
import Derived.OpenShut
import Derived.Test.YtpgbgclphjgdbaaCF
set_option linter.unusedSimpArgs false
set_option linter.unusedVariables false
namespace Go.Ab
open Go Go.Ab Go.Proofs Go.Ab.Ty
theorem lawF3 (xs : List AV) (hlen : xs.length = Try.f3.params.size) (h : ∀ (j : Nat) t a, Try.f3.params[j]? = some t → xs[j]? = some a → ShV Try.prog t a) : Fn Try.prog 3 xs (.bool true) := by
  rw [Try.params3] at hlen h
  match xs, hlen, h with
  | [a0, a1, a2], _, h =>
    obtain ⟨r0, rfl, hl0, hr0⟩ := shRows (h 0 22 a0 rfl rfl)
    obtain ⟨r1, rfl, hr1⟩ := shN (h 1 27 a1 rfl rfl)
    obtain ⟨r2, rfl, hr2⟩ := shN (h 2 27 a2 rfl rfl)
    exact law_first r0 r1 r2 hl0 hr0 hr1 hr2
end Go.Ab
namespace Go.Proofs.Ytpgbgclphjgdbaa
open Go.ChangeShapes Go.WideShapes Go.ChangeAt Go.RowKit
theorem own3 : ownKnob Try.prog.godebug = none := by kernel_rfl
set_option maxRecDepth 100000 in
theorem lifted3 (os : Os) (started : os.Started) (H : Type) (enc : TypeId × Value → H) :
    ReturnsInHanded {} Try.checked os 3 .any (Rows.coverFirstSpec.pre6 enc Try.prog Try.f3 Rows.coverFirstRow.domain false) (Rows.coverFirstSpec.post enc Try.prog Try.f3 false true false false) := by
  refine returnsInHanded_of_change (C := Try.checked) own3 started (by kernel_rfl) Try.func3
    (ChangeSpec.witness6 (enc := enc) (C := Try.checked) false ⟨#[], #[.slice none 0 0, .agg #[.int .i64 0, .string ByteArray.empty, .int .i64 0, .int .i64 0, .string ByteArray.empty, .int .i64 0, .slice none 0 0, .slice none 0 0, .slice none 0 0, .int .i64 0], .agg #[.int .i64 0, .string ByteArray.empty, .int .i64 0, .int .i64 0, .string ByteArray.empty, .int .i64 0, .slice none 0 0, .slice none 0 0, .slice none 0 0, .int .i64 0]], []⟩ 8 (by kernel_rfl) (by kernel_rfl) (by kernel_rfl) (by kernel_rfl)) ?_
  intro W base args ds gs before hval hW _ _
  exact Go.Ab.law_contract (S := [3, 9, 22, 23, 25, 27]) (tb := 4) (by kernel_rfl) (by kernel_rfl) (by kernel_rfl) (by kernel_rfl) Try.underlying4 rfl
    (fun ds h => by match ds, h with | [d0, d1, d2], _ => rfl) Go.Ab.lawF3 W base args ds gs before hval hW
theorem coverFirstHolds : Rows.CoverFirstSaid :=
  OpenClaim.holds_of_wide 3 Try.f3 rfl rfl rfl rfl rfl rfl rfl ⟨rfl, rfl, rfl, rfl, rfl⟩ rfl rfl rfl rfl rfl (by kernel_rfl) Try.func3 (by kernel_rfl)
    (of_decide_eq_true (by kernel_rfl)) (by unfold Func.isWrapper; first | (rw [if_pos (by decide +kernel)]; kernel_rfl) | (rw [if_neg (by decide +kernel)]; exact ⟨rfl, rfl⟩))
    (fun os started H enc _ => lifted3 os started H enc)
end Go.Proofs.Ytpgbgclphjgdbaa
