/- Part of the proof. -/
import Derived.Test.YtjfahhbobiiphaaRows
import Derived.WalkKit
import Derived.ProofKit
import Derived.OpenShut
import Derived.Test.YtjfahhbobiiphaaXU
set_option linter.unusedSimpArgs false
set_option linter.unusedVariables false
namespace Go.Ab
open Go Go.Ab Go.Proofs Go.Ab.Ty
theorem shS3 {a : AV} (h : ShV Try.prog 9 a) : ∃ s : ByteArray, a = str s ∧ s.size ≤ maxLen := by
  unfold ShV at h
  obtain ⟨fuel, q, h, hn, e⟩ := h
  obtain ⟨s, rfl, h1⟩ := sh9 h
  exact ⟨s, by rw [e, agg9]; rfl, h1⟩
theorem law6' (xs : List AV) (hlen : xs.length = Try.f6.params.size) (h : ∀ (j : Nat) t a, Try.f6.params[j]? = some t → xs[j]? = some a → ShV Try.prog t a) : Fn Try.prog 6 xs (.bool true) := by
  rw [Try.params6] at hlen h
  match xs, hlen, h with
  | [a, b, c], _, h =>
    obtain ⟨r, rfl, hr⟩ := shX (h 0 24 a rfl rfl)
    obtain ⟨s, rfl, hs⟩ := shS3 (h 1 9 b rfl rfl)
    obtain ⟨t, rfl, ht⟩ := shS3 (h 2 9 c rfl rfl)
    exact law_finds r hr s t
end Go.Ab
namespace Go.Proofs.Ytjfahhbobiiphaa
open Go.ChangeShapes Go.WideShapes Go.ChangeAt Go.RowKit
theorem own6 : ownKnob Try.prog.godebug = none := by kernel_rfl
set_option maxRecDepth 100000 in
theorem lifted6 (os : Os) (started : os.Started) (H : Type) (enc : TypeId × Value → H) :
    ReturnsInHanded {} Try.checked os 6 .any (Rows.regexFindsSpec.pre6 enc Try.prog Try.f6 Rows.regexFindsRow.domain false) (Rows.regexFindsSpec.post enc Try.prog Try.f6 false true false false) := by
  refine returnsInHanded_of_change (C := Try.checked) own6 started (by kernel_rfl) Try.func6
    (ChangeSpec.witness6 (enc := enc) (C := Try.checked) false ⟨#[], #[.agg #[.int .i64 0, .string ByteArray.empty, .slice none 0 0], .string ByteArray.empty, .string ByteArray.empty], []⟩ 8 (by kernel_rfl) (by kernel_rfl) (by kernel_rfl) (by kernel_rfl)) ?_
  intro W base args ds gs before hval hW _ _
  exact Go.Ab.law_contract (S := [24, 3, 9, 22]) (tb := 4) (by kernel_rfl) (by kernel_rfl) (by kernel_rfl) (by kernel_rfl) Try.underlying4 rfl
    (fun ds h => by match ds, h with | [d, e, f], _ => rfl) Go.Ab.law6' W base args ds gs before hval hW
theorem regexFinds : Rows.RegexFindsSaid :=
  OpenClaim.holds_of_wide 6 Try.f6 rfl rfl rfl rfl rfl rfl rfl ⟨rfl, rfl, rfl, rfl, rfl⟩ rfl rfl rfl rfl rfl (by kernel_rfl) Try.func6 (by kernel_rfl)
    (of_decide_eq_true (by kernel_rfl)) (by unfold Func.isWrapper; first | (rw [if_pos (by decide +kernel)]; kernel_rfl) | (rw [if_neg (by decide +kernel)]; exact ⟨rfl, rfl⟩))
    (fun os started H enc _ => lifted6 os started H enc)
end Go.Proofs.Ytjfahhbobiiphaa
