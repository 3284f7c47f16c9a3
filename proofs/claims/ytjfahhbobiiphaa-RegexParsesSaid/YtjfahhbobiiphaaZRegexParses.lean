/- RegexParses returns true for every input, and leaves it as it was. -/
import Derived.Test.YtjfahhbobiiphaaRows
import Derived.WalkKit
import Derived.ProofKit
import Derived.OpenShut
import Derived.Test.YtjfahhbobiiphaaZS27
import Derived.Test.YtjfahhbobiiphaaYG
set_option linter.unusedSimpArgs false
set_option linter.unusedVariables false
namespace Go.Ab
open Go Go.Ab Go.Proofs Go.Ab.Ty
theorem lawF9 (xs : List AV) (hlen : xs.length = Try.f9.params.size) (h : ∀ (j : Nat) t a, Try.f9.params[j]? = some t → xs[j]? = some a → ShV Try.prog t a) : Fn Try.prog 9 xs (.bool true) := by
  rw [Try.params9] at hlen h
  match xs, hlen, h with
  | [a0], _, h =>
    obtain ⟨s0, rfl, hs0⟩ := shS27 (h 0 9 a0 rfl rfl)
    exact law_parses s0
end Go.Ab
namespace Go.Proofs.Ytjfahhbobiiphaa
open Go.ChangeShapes Go.WideShapes Go.ChangeAt Go.RowKit
theorem own9 : ownKnob Try.prog.godebug = none := by kernel_rfl
set_option maxRecDepth 100000 in
theorem lifted9 (os : Os) (started : os.Started) (H : Type) (enc : TypeId × Value → H) :
    ReturnsInHanded {} Try.checked os 9 .any (Rows.regexParsesSpec.pre6 enc Try.prog Try.f9 Rows.regexParsesRow.domain false) (Rows.regexParsesSpec.post enc Try.prog Try.f9 false true false false) := by
  refine returnsInHanded_of_change (C := Try.checked) own9 started (by kernel_rfl) Try.func9
    (ChangeSpec.witness6 (enc := enc) (C := Try.checked) false ⟨#[], #[.string ByteArray.empty], []⟩ 8 (by kernel_rfl) (by kernel_rfl) (by kernel_rfl) (by kernel_rfl)) ?_
  intro W base args ds gs before hval hW _ _
  exact Go.Ab.law_contract (S := [9]) (tb := 4) (by kernel_rfl) (by kernel_rfl) (by kernel_rfl) (by kernel_rfl) Try.underlying4 rfl
    (fun ds h => by match ds, h with | [d0], _ => rfl) Go.Ab.lawF9 W base args ds gs before hval hW
theorem regexParsesHolds : Rows.RegexParsesSaid :=
  OpenClaim.holds_of_wide 9 Try.f9 rfl rfl rfl rfl rfl rfl rfl ⟨rfl, rfl, rfl, rfl, rfl⟩ rfl rfl rfl rfl rfl (by kernel_rfl) Try.func9 (by kernel_rfl)
    (of_decide_eq_true (by kernel_rfl)) (by unfold Func.isWrapper; first | (rw [if_pos (by decide +kernel)]; kernel_rfl) | (rw [if_neg (by decide +kernel)]; exact ⟨rfl, rfl⟩))
    (fun os started H enc _ => lifted9 os started H enc)
end Go.Proofs.Ytjfahhbobiiphaa
