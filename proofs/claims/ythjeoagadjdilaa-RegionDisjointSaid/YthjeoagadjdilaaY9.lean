/- Part of the proof. -/
import Derived.Test.YthjeoagadjdilaaRows
import Derived.WalkKit
import Derived.ProofKit
import Derived.OpenShut
import Derived.Test.YthjeoagadjdilaaRF
import Derived.Test.YthjeoagadjdilaaRS
set_option linter.unusedSimpArgs false
set_option linter.unusedVariables false
namespace Go.Ab
open Go Go.Ab Go.Proofs Go.Ab.Ty
set_option linter.unusedSimpArgs false
set_option linter.unusedVariables false
theorem sh44 {f : Nat} {xs : List AV} (h : Sh Try.prog f 44 xs) : ∃ a b, AV.agg xs = .agg [.int a, .int b] := by
  cases f with
  | zero => exact h.elim
  | succ f =>
    simp only [Sh, Try.underlying44] at h
    obtain ⟨parts, hlen, rfl, h⟩ := h
    match parts, hlen, h with
    | [p0, p1], _, h =>
      obtain ⟨a0, rfl⟩ := sh3 (h 0 _ p0 rfl rfl).2
      obtain ⟨a1, rfl⟩ := sh3 (h 1 _ p1 rfl rfl).2
      exact ⟨a0, a1, rfl⟩
theorem shAt {a : AV} (h : ShV Try.prog 44 a) : ∃ x y, a = .agg [.int x, .int y] := by
  obtain ⟨fuel, q, h, _, rfl⟩ := h
  obtain ⟨x, y, hp⟩ := sh44 h
  exact ⟨x, y, by rw [agg44]; exact hp⟩
theorem law9' (xs : List AV) (hlen : xs.length = Try.f9.params.size) (h : ∀ (j : Nat) t a, Try.f9.params[j]? = some t → xs[j]? = some a → ShV Try.prog t a) : Fn Try.prog 9 xs (.bool true) := by
  rw [Try.params9] at hlen h
  match xs, hlen, h with
  | [a, b], _, h =>
    obtain ⟨p, rfl⟩ := shT (h 0 24 a rfl rfl)
    obtain ⟨x, y, rfl⟩ := shAt (h 1 44 b rfl rfl)
    exact law_disjoint p x y
end Go.Ab
namespace Go.Proofs.Ythjeoagadjdilaa
open Go.ChangeShapes Go.WideShapes Go.ChangeAt Go.RowKit
set_option linter.unusedVariables false
theorem own9 : ownKnob Try.prog.godebug = none := by kernel_rfl
set_option maxRecDepth 100000 in
theorem lifted9 (os : Os) (started : os.Started) (H : Type) (enc : TypeId × Value → H) :
    ReturnsInHanded {} Try.checked os 9 .any (Rows.regionDisjointSpec.pre6 enc Try.prog Try.f9 Rows.regionDisjointRow.domain false) (Rows.regionDisjointSpec.post enc Try.prog Try.f9 false true false false) := by
  refine returnsInHanded_of_change (C := Try.checked) own9 started (by kernel_rfl) Try.func9
    (ChangeSpec.witness6 (enc := enc) (C := Try.checked) false ⟨#[], #[.agg #[.slice none 0 0, .slice none 0 0, .int .i64 0], .agg #[.int .i64 0, .int .i64 0]], []⟩ 8 (by kernel_rfl) (by kernel_rfl) (by kernel_rfl) (by kernel_rfl)) ?_
  intro W base args ds gs before hval hW _ _
  exact Go.Ab.law_contract (S := [24, 22, 31, 3, 29, 34, 32, 44]) (tb := 4) (by kernel_rfl) (by kernel_rfl) (by kernel_rfl) (by kernel_rfl) Try.underlying4 rfl
    (fun ds h => by match ds, h with | [d, e], _ => rfl) Go.Ab.law9' W base args ds gs before hval hW
theorem regionDisjoint : Rows.RegionDisjointSaid :=
  OpenClaim.holds_of_wide 9 Try.f9 rfl rfl rfl rfl rfl rfl rfl ⟨rfl, rfl, rfl, rfl, rfl⟩ rfl rfl rfl rfl rfl (by kernel_rfl) Try.func9 (by kernel_rfl)
    (of_decide_eq_true (by kernel_rfl)) (by unfold Func.isWrapper; first | (rw [if_pos (by decide +kernel)]; kernel_rfl) | (rw [if_neg (by decide +kernel)]; exact ⟨rfl, rfl⟩))
    (fun os started H enc _ => lifted9 os started H enc)
end Go.Proofs.Ythjeoagadjdilaa
