/- Part of the proof. -/
import Derived.Test.YthjeoagadjdilaaRows
import Derived.WalkKit
import Derived.ProofKit
import Derived.OpenShut
import Derived.Test.YthjeoagadjdilaaRF
import Derived.Test.YthjeoagadjdilaaRR
set_option linter.unusedSimpArgs false
set_option linter.unusedVariables false
namespace Go.Ab
open Go Go.Ab Go.Proofs Go.Ab.Ty
set_option linter.unusedSimpArgs false
set_option linter.unusedVariables false
theorem sh28 {f : Nat} {xs : List AV} (h : Sh Try.prog f 28 xs) : ∃ n a b, AV.agg xs = .agg [.int n, .int a, .int b] := by
  cases f with
  | zero => exact h.elim
  | succ f =>
    simp only [Sh, Try.underlying28] at h
    obtain ⟨parts, hlen, rfl, h⟩ := h
    match parts, hlen, h with
    | [p0, p1, p2], _, h =>
      obtain ⟨a0, rfl⟩ := sh3 (h 0 _ p0 rfl rfl).2
      obtain ⟨a1, rfl⟩ := sh3 (h 1 _ p1 rfl rfl).2
      obtain ⟨a2, rfl⟩ := sh3 (h 2 _ p2 rfl rfl).2
      exact ⟨a0, a1, a2, rfl⟩
theorem shSw {a : AV} (h : ShV Try.prog 28 a) : ∃ x y z, a = .agg [.int x, .int y, .int z] := by
  obtain ⟨fuel, q, h, _, rfl⟩ := h
  obtain ⟨x, y, z, hp⟩ := sh28 h
  exact ⟨x, y, z, by rw [agg28]; exact hp⟩
theorem law4' (xs : List AV) (hlen : xs.length = Try.f4.params.size) (h : ∀ (j : Nat) t a, Try.f4.params[j]? = some t → xs[j]? = some a → ShV Try.prog t a) : Fn Try.prog 4 xs (.bool true) := by
  rw [Try.params4] at hlen h
  match xs, hlen, h with
  | [a, b], _, h =>
    obtain ⟨p, rfl⟩ := shT (h 0 24 a rfl rfl)
    obtain ⟨x, y, z, rfl⟩ := shSw (h 1 28 b rfl rfl)
    exact law_renames p x y z
end Go.Ab
namespace Go.Proofs.Ythjeoagadjdilaa
open Go.ChangeShapes Go.WideShapes Go.ChangeAt Go.RowKit
set_option linter.unusedVariables false
theorem own4 : ownKnob Try.prog.godebug = none := by kernel_rfl
set_option maxRecDepth 100000 in
theorem lifted4 (os : Os) (started : os.Started) (H : Type) (enc : TypeId × Value → H) :
    ReturnsInHanded {} Try.checked os 4 .any (Rows.regionRenamesSpec.pre6 enc Try.prog Try.f4 Rows.regionRenamesRow.domain false) (Rows.regionRenamesSpec.post enc Try.prog Try.f4 false true false false) := by
  refine returnsInHanded_of_change (C := Try.checked) own4 started (by kernel_rfl) Try.func4
    (ChangeSpec.witness6 (enc := enc) (C := Try.checked) false ⟨#[], #[.agg #[.slice none 0 0, .slice none 0 0, .int .i64 0], .agg #[.int .i64 0, .int .i64 0, .int .i64 0]], []⟩ 8 (by kernel_rfl) (by kernel_rfl) (by kernel_rfl) (by kernel_rfl)) ?_
  intro W base args ds gs before hval hW _ _
  exact Go.Ab.law_contract (S := [24, 22, 31, 3, 29, 34, 32, 28]) (tb := 4) (by kernel_rfl) (by kernel_rfl) (by kernel_rfl) (by kernel_rfl) Try.underlying4 rfl
    (fun ds h => by match ds, h with | [d, e], _ => rfl) Go.Ab.law4' W base args ds gs before hval hW
theorem regionRenames : Rows.RegionRenamesSaid :=
  OpenClaim.holds_of_wide 4 Try.f4 rfl rfl rfl rfl rfl rfl rfl ⟨rfl, rfl, rfl, rfl, rfl⟩ rfl rfl rfl rfl rfl (by kernel_rfl) Try.func4 (by kernel_rfl)
    (of_decide_eq_true (by kernel_rfl)) (by unfold Func.isWrapper; first | (rw [if_pos (by decide +kernel)]; kernel_rfl) | (rw [if_neg (by decide +kernel)]; exact ⟨rfl, rfl⟩))
    (fun os started H enc _ => lifted4 os started H enc)
end Go.Proofs.Ythjeoagadjdilaa
