/- Part of the proof. -/
import Derived.Test.YthjeoagadjdilaaRF
set_option linter.unusedSimpArgs false
set_option linter.unusedVariables false
set_option maxHeartbeats 4000000
namespace Go.Ab
open Go Go.Ab Go.Proofs Go.Ab.Ty
set_option linter.unusedSimpArgs false
set_option linter.unusedVariables false

theorem stepsF_ne {l : List Stp} : ∀ {r : Rg} {i k e : Int}, stepsF r l i = some (k, e) → e ≠ 0 := by
  induction l with
  | nil => intro r i k e h; cases h
  | cons s l ih =>
    intro r i k e h
    simp only [stepsF] at h
    split at h
    · exact ih h
    · rename_i hne; injection h with h; injection h with h1 h2; subst h2; exact hne
/-- is it accepted? -/
def acc (p : Tk) : Prop := okValid p ∧ (numsF p (nums p)).2.2 = 0
open Classical in
theorem acc_ok (p : Tk) : Fn Try.prog 16 [encT p] (.bool (decide (acc p))) := by
  by_cases h : okValid p
  · have := accepted_ok p h
    simpa [acc, h] using this
  · refine Fn.intro' [(0, encT p)] 1 14 Try.func16 (by kernel_rfl) rfl rfl rfl rfl rfl ?_
    repeat (first | (with_reducible first | apply zs | apply zN | apply z1 | apply z2 | apply z3 | apply z4 | apply z5 | apply z6 | refine z7 rfl ?_ | apply zb | apply zk | apply zr | apply ze | apply y1 | apply y2) | ((with_reducible apply zR); (refine ⟨rfl, rfl, ?_⟩; simp (decide := true) only [go_sem, List.map]; rfl)) | ((with_reducible apply zG); (simp (decide := true) only [go_sem]; rfl); (simp (decide := true) only [go_sem]; (repeat simp (decide := true) only [go_sem]); rfl)) | (refine zp rfl rfl (pl_box (by simp (decide := true) only [go_sem]; rfl) rfl) ?_) | (refine zp rfl rfl (pl_alloc (by simp only [go_sem]; rfl) rfl) ?_) | (refine zp rfl rfl (pl_store (by simp (decide := true) only [go_sem]; rfl) (by simp (decide := true) only [go_sem]; rfl) (by simp (decide := true) only [go_sem]; rfl) (by rfl) (by rfl) (by kernel_rfl) (by rfl) (by rfl)) ?_) | fail)
    refine ARun.q1 rfl rfl (ql_callC (check_bad p h) rfl (by simp (decide := true) only [go_sem] <;> rfl) (by simp (decide := true) only [go_sem, List.map]) (by simp [-List.map_take, -List.map_drop])) ?_
    simp only [encRes]
    repeat (first | (with_reducible first | apply zs | apply zN | apply z1 | apply z2 | apply z3 | apply z4 | apply z5 | apply z6 | refine z7 rfl ?_ | apply zb | apply zk | apply zr | apply ze | apply y1 | apply y2) | ((with_reducible apply zR); (refine ⟨rfl, rfl, ?_⟩; simp (decide := true) only [go_sem, List.map]; rfl)) | ((with_reducible apply zG); (simp (decide := true) only [go_sem]; rfl); (simp (decide := true) only [go_sem]; (repeat simp (decide := true) only [go_sem]); rfl)) | (refine zp rfl rfl (pl_box (by simp (decide := true) only [go_sem]; rfl) rfl) ?_) | (refine zp rfl rfl (pl_alloc (by simp only [go_sem]; rfl) rfl) ?_) | (refine zp rfl rfl (pl_store (by simp (decide := true) only [go_sem]; rfl) (by simp (decide := true) only [go_sem]; rfl) (by simp (decide := true) only [go_sem]; rfl) (by rfl) (by rfl) (by kernel_rfl) (by rfl) (by rfl)) ?_) | fail)
    exact Ret.bool rfl (by simp [acc, h])
end Go.Ab
