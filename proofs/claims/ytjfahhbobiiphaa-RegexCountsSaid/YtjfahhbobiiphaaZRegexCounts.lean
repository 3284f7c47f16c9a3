/- RegexCounts returns true for every input, and leaves it as it was. -/
import Derived.Test.YtjfahhbobiiphaaRows
import Derived.WalkKit
import Derived.ProofKit
import Derived.OpenShut
import Derived.Test.YtjfahhbobiiphaaZS27
import Derived.Test.YtjfahhbobiiphaaQE27
set_option linter.unusedSimpArgs false
set_option linter.unusedVariables false
namespace Go.Ab
open Go Go.Ab Go.Proofs Go.Ab.Ty
theorem lawF13 (xs : List AV) (hlen : xs.length = Try.f13.params.size) (h : ∀ (j : Nat) t a, Try.f13.params[j]? = some t → xs[j]? = some a → ShV Try.prog t a) : Fn Try.prog 13 xs (.bool true) := by
  rw [Try.params13] at hlen h
  match xs, hlen, h with
  | [a0, a1], _, h =>
    obtain ⟨r0, rfl, hr0⟩ := shX (h 0 24 a0 rfl rfl)
    obtain ⟨n1, rfl, hn1⟩ := shI27 (h 1 3 a1 rfl rfl)
    exact law_counts r0 n1 hr0 hn1.1 hn1.2
end Go.Ab
namespace Go.Proofs.Ytjfahhbobiiphaa
open Go.ChangeShapes Go.WideShapes Go.ChangeAt Go.RowKit
theorem own13 : ownKnob Try.prog.godebug = none := by kernel_rfl
set_option maxRecDepth 100000 in
theorem lifted13 (os : Os) (started : os.Started) (H : Type) (enc : TypeId × Value → H) :
    ReturnsInHanded {} Try.checked os 13 .any (Rows.regexCountsSpec.pre6 enc Try.prog Try.f13 Rows.regexCountsRow.domain false) (Rows.regexCountsSpec.post enc Try.prog Try.f13 false true false false) := by
  refine returnsInHanded_of_change (C := Try.checked) own13 started (by kernel_rfl) Try.func13
    (ChangeSpec.witness6 (enc := enc) (C := Try.checked) false ⟨#[], #[.agg #[.int .i64 0, .string ByteArray.empty, .slice none 0 0], .int .i64 0], []⟩ 8 (by kernel_rfl) (by kernel_rfl) (by kernel_rfl) (by kernel_rfl)) ?_
  intro W base args ds gs before hval hW _ _
  exact Go.Ab.law_contract (S := [3, 9, 22, 24]) (tb := 4) (by kernel_rfl) (by kernel_rfl) (by kernel_rfl) (by kernel_rfl) Try.underlying4 rfl
    (fun ds h => by match ds, h with | [d0, d1], _ => rfl) Go.Ab.lawF13 W base args ds gs before hval hW
theorem regexCountsHolds : Rows.RegexCountsSaid :=
  OpenClaim.holds_of_wide 13 Try.f13 rfl rfl rfl rfl rfl rfl rfl ⟨rfl, rfl, rfl, rfl, rfl⟩ rfl rfl rfl rfl rfl (by kernel_rfl) Try.func13 (by kernel_rfl)
    (of_decide_eq_true (by kernel_rfl)) (by unfold Func.isWrapper; first | (rw [if_pos (by decide +kernel)]; kernel_rfl) | (rw [if_neg (by decide +kernel)]; exact ⟨rfl, rfl⟩))
    (fun os started H enc _ => lifted13 os started H enc)
end Go.Proofs.Ytjfahhbobiiphaa
