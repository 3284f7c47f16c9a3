import Derived.Test.YthjeoagadjdilaaRows
import Derived.WalkKit
import Derived.ProofKit
import Derived.OpenShut
import Derived.Test.YthjeoagadjdilaaZ22
import Derived.Test.YthjeoagadjdilaaPL5
namespace Go.Ab
open Go Go.Ab Go.Proofs Go.Ab.Ty
set_option linter.unusedSimpArgs false
set_option linter.unusedVariables false
theorem shI {a : AV} (h : ShV Try.prog 3 a) : ∃ n, a = .int n := by
  obtain ⟨fuel, q, h, _, rfl⟩ := h
  obtain ⟨n, rfl⟩ := sh3 h
  exact ⟨n, rfl⟩
theorem law5' (xs : List AV) (hlen : xs.length = Try.f5.params.size) (h : ∀ (j : Nat) t a, Try.f5.params[j]? = some t → xs[j]? = some a → ShV Try.prog t a) : Fn Try.prog 5 xs (.bool true) := by
  rw [Try.params5] at hlen h
  match xs, hlen, h with
  | [a, b], _, h =>
    obtain ⟨p, rfl⟩ := shT (h 0 24 a rfl rfl)
    obtain ⟨n, rfl⟩ := shI (h 1 3 b rfl rfl)
    exact law5 p n
end Go.Ab
namespace Go.Proofs.Ythjeoagadjdilaa
open Go.ChangeShapes Go.WideShapes Go.ChangeAt Go.RowKit
set_option linter.unusedVariables false
theorem own5 : ownKnob Try.prog.godebug = none := by kernel_rfl
set_option maxRecDepth 100000 in
theorem lifted5 (os : Os) (started : os.Started) (H : Type) (enc : TypeId × Value → H) :
    ReturnsInHanded {} Try.checked os 5 .any (Rows.regionShorterSpec.pre6 enc Try.prog Try.f5 Rows.regionShorterRow.domain false) (Rows.regionShorterSpec.post enc Try.prog Try.f5 false true false false) := by
  refine returnsInHanded_of_change (C := Try.checked) own5 started (by kernel_rfl) Try.func5
    (ChangeSpec.witness6 (enc := enc) (C := Try.checked) false ⟨#[], #[.agg #[.slice none 0 0, .slice none 0 0, .int .i64 0], .int .i64 0], []⟩ 8 (by kernel_rfl) (by kernel_rfl) (by kernel_rfl) (by kernel_rfl)) ?_
  intro W base args ds gs before hval hW _ _
  exact Go.Ab.law_contract (S := [24, 22, 31, 3, 29, 34, 32]) (tb := 4) (by kernel_rfl) (by kernel_rfl) (by kernel_rfl) (by kernel_rfl) Try.underlying4 rfl
    (fun ds h => by match ds, h with | [d, e], _ => rfl) Go.Ab.law5' W base args ds gs before hval hW
theorem regionShorter : Rows.RegionShorterSaid :=
  OpenClaim.holds_of_wide 5 Try.f5 rfl rfl rfl rfl rfl rfl rfl ⟨rfl, rfl, rfl, rfl, rfl⟩ rfl rfl rfl rfl rfl (by kernel_rfl) Try.func5 (by kernel_rfl)
    (of_decide_eq_true (by kernel_rfl)) (by unfold Func.isWrapper; first | (rw [if_pos (by decide +kernel)]; kernel_rfl) | (rw [if_neg (by decide +kernel)]; exact ⟨rfl, rfl⟩))
    (fun os started H enc _ => lifted5 os started H enc)
end Go.Proofs.Ythjeoagadjdilaa
