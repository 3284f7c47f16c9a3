/- The arguments of the laws as they are read. -/
import Derived.Test.YtjfahhbobiiphaaXA
set_option linter.unusedSimpArgs false
set_option linter.unusedVariables false
namespace Go.Ab
open Go Go.Ab Go.Proofs Go.Ab.Ty
theorem aggZ3 : aggTy Try.prog 3 = some false := by kernel_rfl
theorem shI27 {a : AV} (h : ShV Try.prog 3 a) : ∃ n : Int, a = .int n ∧ -9223372036854775808 ≤ n ∧ n ≤ 9223372036854775807 := by
  unfold ShV at h
  obtain ⟨fuel, q, h, hn, e⟩ := h
  cases fuel with
  | zero => exact h.elim
  | succ f =>
    simp only [Sh, Try.underlying3] at h
    obtain ⟨n, rfl, h1, h2⟩ := h
    exact ⟨n, by rw [e, aggZ3]; rfl, h1, h2⟩
end Go.Ab
