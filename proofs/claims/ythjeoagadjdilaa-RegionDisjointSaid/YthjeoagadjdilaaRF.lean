/- Part of the proof. -/
import Derived.Test.YthjeoagadjdilaaRE
import Derived.Test.YthjeoagadjdilaaRB
set_option linter.unusedSimpArgs false
set_option linter.unusedVariables false
set_option maxHeartbeats 4000000
namespace Go.Ab
open Go Go.Ab Go.Proofs Go.Ab.Ty
set_option linter.unusedSimpArgs false
set_option linter.unusedVariables false

theorem big_ok (p : Tk) : ∃ b, Fn Try.prog 10 [encT p] (.bool b) := by
  by_cases hl : p.codes.length > 10 ∨ p.methods.length > 8
  · refine ⟨true, ?_⟩
    refine Fn.intro' [(0, encT p)] 1 48 Try.func10 (by kernel_rfl) rfl rfl rfl rfl rfl ?_
    repeat (first | (with_reducible first | apply zs | apply zN | apply z1 | apply z2 | apply z3 | apply z4 | apply z5 | apply z6 | refine z7 rfl ?_ | apply zb | apply zk | apply zr | apply ze | apply y1 | apply y2) | ((with_reducible apply zR); (refine ⟨rfl, rfl, ?_⟩; simp (decide := true) only [go_sem, List.map]; rfl)) | ((with_reducible apply zG); (simp (decide := true) only [go_sem]; rfl); (simp (decide := true) only [go_sem]; (repeat simp (decide := true) only [go_sem]); rfl)) | (refine zp rfl rfl (pl_box (by simp (decide := true) only [go_sem]; rfl) rfl) ?_) | (refine zp rfl rfl (pl_alloc (by simp only [go_sem]; rfl) rfl) ?_) | (refine zp rfl rfl (pl_store (by simp (decide := true) only [go_sem]; rfl) (by simp (decide := true) only [go_sem]; rfl) (by simp (decide := true) only [go_sem]; rfl) (by rfl) (by rfl) (by kernel_rfl) (by rfl) (by rfl)) ?_) | fail)
    refine AWp.cond (b := _) rfl (fun hc => ?_) (fun hc => ?_)
    · repeat (first | (with_reducible first | apply zs | apply zN | apply z1 | apply z2 | apply z3 | apply z4 | apply z5 | apply z6 | refine z7 rfl ?_ | apply zb | apply zk | apply zr | apply ze | apply y1 | apply y2) | ((with_reducible apply zR); (refine ⟨rfl, rfl, ?_⟩; simp (decide := true) only [go_sem, List.map]; rfl)) | ((with_reducible apply zG); (simp (decide := true) only [go_sem]; rfl); (simp (decide := true) only [go_sem]; (repeat simp (decide := true) only [go_sem]); rfl)) | (refine zp rfl rfl (pl_box (by simp (decide := true) only [go_sem]; rfl) rfl) ?_) | (refine zp rfl rfl (pl_alloc (by simp only [go_sem]; rfl) rfl) ?_) | (refine zp rfl rfl (pl_store (by simp (decide := true) only [go_sem]; rfl) (by simp (decide := true) only [go_sem]; rfl) (by simp (decide := true) only [go_sem]; rfl) (by rfl) (by rfl) (by kernel_rfl) (by rfl) (by rfl)) ?_) | fail)
      exact Ret.bool rfl (by simp)
    · simp at hc; omega
  let W := fun (l : List Cd) (n : Int) => l.foldl (fun n c => IntKind.i64.wrap (n + weightF c.steps 1)) n
  refine ⟨decide (W p.methods (W p.codes 0) > 2000), ?_⟩
  refine Fn.intro' [(0, encT p)] 1 48 Try.func10 (by kernel_rfl) rfl rfl rfl rfl rfl ?_
  repeat (first | (with_reducible first | apply zs | apply zN | apply z1 | apply z2 | apply z3 | apply z4 | apply z5 | apply z6 | refine z7 rfl ?_ | apply zb | apply zk | apply zr | apply ze | apply y1 | apply y2) | ((with_reducible apply zR); (refine ⟨rfl, rfl, ?_⟩; simp (decide := true) only [go_sem, List.map]; rfl)) | ((with_reducible apply zG); (simp (decide := true) only [go_sem]; rfl); (simp (decide := true) only [go_sem]; (repeat simp (decide := true) only [go_sem]); rfl)) | (refine zp rfl rfl (pl_box (by simp (decide := true) only [go_sem]; rfl) rfl) ?_) | (refine zp rfl rfl (pl_alloc (by simp only [go_sem]; rfl) rfl) ?_) | (refine zp rfl rfl (pl_store (by simp (decide := true) only [go_sem]; rfl) (by simp (decide := true) only [go_sem]; rfl) (by simp (decide := true) only [go_sem]; rfl) (by rfl) (by rfl) (by kernel_rfl) (by rfl) (by rfl)) ?_) | fail)
  refine AWp.cond (b := _) rfl (fun hc => ?_) (fun hc => ?_)
  · simp at hc; omega
  simp at hc
  repeat (first | (with_reducible first | apply zs | apply zN | apply z1 | apply z2 | apply z3 | apply z4 | apply z5 | apply z6 | refine z7 rfl ?_ | apply zb | apply zk | apply zr | apply ze | apply y1 | apply y2) | ((with_reducible apply zR); (refine ⟨rfl, rfl, ?_⟩; simp (decide := true) only [go_sem, List.map]; rfl)) | ((with_reducible apply zG); (simp (decide := true) only [go_sem]; rfl); (simp (decide := true) only [go_sem]; (repeat simp (decide := true) only [go_sem]); rfl)) | (refine zp rfl rfl (pl_box (by simp (decide := true) only [go_sem]; rfl) rfl) ?_) | (refine zp rfl rfl (pl_alloc (by simp only [go_sem]; rfl) rfl) ?_) | (refine zp rfl rfl (pl_store (by simp (decide := true) only [go_sem]; rfl) (by simp (decide := true) only [go_sem]; rfl) (by simp (decide := true) only [go_sem]; rfl) (by rfl) (by rfl) (by kernel_rfl) (by rfl) (by rfl)) ?_) | fail)
  refine AWp.loop (J := fun k : Nat => k ≤ p.codes.length)
    (I := fun k => ⟨[(4, .int k), (3, .int (W (p.codes.take k) 0)), (1, .ptr 0 1 0 0)], [⟨24, 3, [encT p]⟩]⟩) (μ := fun k => p.codes.length - k) 0 (Nat.zero_le _) (.env' (by simp (decide := true) only [go_sem, W] <;> simp [Le.refl, W])) ?_
  intro k hk
  repeat (first | (with_reducible first | apply zs | apply zN | apply z1 | apply z2 | apply z3 | apply z4 | apply z5 | apply z6 | refine z7 rfl ?_ | apply zb | apply zk | apply zr | apply ze | apply y1 | apply y2) | ((with_reducible apply zR); (refine ⟨rfl, rfl, ?_⟩; simp (decide := true) only [go_sem, List.map]; rfl)) | ((with_reducible apply zG); (simp (decide := true) only [go_sem]; rfl); (simp (decide := true) only [go_sem]; (repeat simp (decide := true) only [go_sem]); rfl)) | (refine zp rfl rfl (pl_box (by simp (decide := true) only [go_sem]; rfl) rfl) ?_) | (refine zp rfl rfl (pl_alloc (by simp only [go_sem]; rfl) rfl) ?_) | (refine zp rfl rfl (pl_store (by simp (decide := true) only [go_sem]; rfl) (by simp (decide := true) only [go_sem]; rfl) (by simp (decide := true) only [go_sem]; rfl) (by rfl) (by rfl) (by kernel_rfl) (by rfl) (by rfl)) ?_) | fail)
  refine AWp.cond (b := _) rfl (fun hd => ?_) (fun hd => ?_)
  · simp at hd
    repeat (first | (with_reducible first | apply zs | apply zN | apply z1 | apply z2 | apply z3 | apply z4 | apply z5 | apply z6 | refine z7 rfl ?_ | apply zb | apply zk | apply zr | apply ze | apply y1 | apply y2) | ((with_reducible apply zR); (refine ⟨rfl, rfl, ?_⟩; simp (decide := true) only [go_sem, List.map]; rfl)) | ((with_reducible apply zG); (simp (decide := true) only [go_sem]; rfl); (simp (decide := true) only [go_sem]; (repeat simp (decide := true) only [go_sem]); rfl)) | (refine zp rfl rfl (pl_box (by simp (decide := true) only [go_sem]; rfl) rfl) ?_) | (refine zp rfl rfl (pl_alloc (by simp only [go_sem]; rfl) rfl) ?_) | (refine zp rfl rfl (pl_store (by simp (decide := true) only [go_sem]; rfl) (by simp (decide := true) only [go_sem]; rfl) (by simp (decide := true) only [go_sem]; rfl) (by rfl) (by rfl) (by kernel_rfl) (by rfl) (by rfl)) ?_) | fail)
    refine ARun.q1 rfl rfl (ql_idxD (l := p.codes) (f := encC) cd0 rfl rfl Try.underlying22 (by omega) (by omega) (by kernel_rfl)) ?_
    repeat (first | (with_reducible first | apply zs | apply zN | apply z1 | apply z2 | apply z3 | apply z4 | apply z5 | apply z6 | refine z7 rfl ?_ | apply zb | apply zk | apply zr | apply ze | apply y1 | apply y2) | ((with_reducible apply zR); (refine ⟨rfl, rfl, ?_⟩; simp (decide := true) only [go_sem, List.map]; rfl)) | ((with_reducible apply zG); (simp (decide := true) only [go_sem]; rfl); (simp (decide := true) only [go_sem]; (repeat simp (decide := true) only [go_sem]); rfl)) | (refine zp rfl rfl (pl_box (by simp (decide := true) only [go_sem]; rfl) rfl) ?_) | (refine zp rfl rfl (pl_alloc (by simp only [go_sem]; rfl) rfl) ?_) | (refine zp rfl rfl (pl_store (by simp (decide := true) only [go_sem]; rfl) (by simp (decide := true) only [go_sem]; rfl) (by simp (decide := true) only [go_sem]; rfl) (by rfl) (by rfl) (by kernel_rfl) (by rfl) (by rfl)) ?_) | fail)
    refine ARun.q1 rfl rfl (ql_callC (weight_ok (nth cd0 p.codes k)) rfl (by simp (decide := true) only [go_sem] <;> rfl) (by simp (decide := true) only [go_sem, List.map]) (by simp [-List.map_take, -List.map_drop])) ?_
    repeat (first | (with_reducible first | apply zs | apply zN | apply z1 | apply z2 | apply z3 | apply z4 | apply z5 | apply z6 | refine z7 rfl ?_ | apply zb | apply zk | apply zr | apply ze | apply y1 | apply y2) | ((with_reducible apply zR); (refine ⟨rfl, rfl, ?_⟩; simp (decide := true) only [go_sem, List.map]; rfl)) | ((with_reducible apply zG); (simp (decide := true) only [go_sem]; rfl); (simp (decide := true) only [go_sem]; (repeat simp (decide := true) only [go_sem]); rfl)) | (refine zp rfl rfl (pl_box (by simp (decide := true) only [go_sem]; rfl) rfl) ?_) | (refine zp rfl rfl (pl_alloc (by simp only [go_sem]; rfl) rfl) ?_) | (refine zp rfl rfl (pl_store (by simp (decide := true) only [go_sem]; rfl) (by simp (decide := true) only [go_sem]; rfl) (by simp (decide := true) only [go_sem]; rfl) (by rfl) (by rfl) (by kernel_rfl) (by rfl) (by rfl)) ?_) | fail)
    rw [wrap_succ (by omega)]
    refine ⟨k + 1, by omega, by omega, (.env' (by simp (decide := true) only [go_sem, W, foldl_take_succ _ _ _ _ hd, nth_eq hd] <;> simp [Le.refl, W, foldl_take_succ _ _ _ _ hd, nth_eq hd]))⟩
  simp at hd
  have hkl : k = p.codes.length := by omega
  subst hkl
  repeat (first | (with_reducible first | apply zs | apply zN | apply z1 | apply z2 | apply z3 | apply z4 | apply z5 | apply z6 | refine z7 rfl ?_ | apply zb | apply zk | apply zr | apply ze | apply y1 | apply y2) | ((with_reducible apply zR); (refine ⟨rfl, rfl, ?_⟩; simp (decide := true) only [go_sem, List.map]; rfl)) | ((with_reducible apply zG); (simp (decide := true) only [go_sem]; rfl); (simp (decide := true) only [go_sem]; (repeat simp (decide := true) only [go_sem]); rfl)) | (refine zp rfl rfl (pl_box (by simp (decide := true) only [go_sem]; rfl) rfl) ?_) | (refine zp rfl rfl (pl_alloc (by simp only [go_sem]; rfl) rfl) ?_) | (refine zp rfl rfl (pl_store (by simp (decide := true) only [go_sem]; rfl) (by simp (decide := true) only [go_sem]; rfl) (by simp (decide := true) only [go_sem]; rfl) (by rfl) (by rfl) (by kernel_rfl) (by rfl) (by rfl)) ?_) | fail)
  refine AWp.loop (J := fun k : Nat => k ≤ p.methods.length)
    (I := fun k => ⟨[(5, .int k), (3, .int (W (p.methods.take k) (W p.codes 0))), (1, .ptr 0 1 0 0)], [⟨24, 3, [encT p]⟩]⟩) (μ := fun k => p.methods.length - k) 0 (Nat.zero_le _) (.env' (by simp (decide := true) only [go_sem, W] <;> simp [Le.refl, W])) ?_
  intro k hk
  repeat (first | (with_reducible first | apply zs | apply zN | apply z1 | apply z2 | apply z3 | apply z4 | apply z5 | apply z6 | refine z7 rfl ?_ | apply zb | apply zk | apply zr | apply ze | apply y1 | apply y2) | ((with_reducible apply zR); (refine ⟨rfl, rfl, ?_⟩; simp (decide := true) only [go_sem, List.map]; rfl)) | ((with_reducible apply zG); (simp (decide := true) only [go_sem]; rfl); (simp (decide := true) only [go_sem]; (repeat simp (decide := true) only [go_sem]); rfl)) | (refine zp rfl rfl (pl_box (by simp (decide := true) only [go_sem]; rfl) rfl) ?_) | (refine zp rfl rfl (pl_alloc (by simp only [go_sem]; rfl) rfl) ?_) | (refine zp rfl rfl (pl_store (by simp (decide := true) only [go_sem]; rfl) (by simp (decide := true) only [go_sem]; rfl) (by simp (decide := true) only [go_sem]; rfl) (by rfl) (by rfl) (by kernel_rfl) (by rfl) (by rfl)) ?_) | fail)
  refine AWp.cond (b := _) rfl (fun hd => ?_) (fun hd => ?_)
  · simp at hd
    repeat (first | (with_reducible first | apply zs | apply zN | apply z1 | apply z2 | apply z3 | apply z4 | apply z5 | apply z6 | refine z7 rfl ?_ | apply zb | apply zk | apply zr | apply ze | apply y1 | apply y2) | ((with_reducible apply zR); (refine ⟨rfl, rfl, ?_⟩; simp (decide := true) only [go_sem, List.map]; rfl)) | ((with_reducible apply zG); (simp (decide := true) only [go_sem]; rfl); (simp (decide := true) only [go_sem]; (repeat simp (decide := true) only [go_sem]); rfl)) | (refine zp rfl rfl (pl_box (by simp (decide := true) only [go_sem]; rfl) rfl) ?_) | (refine zp rfl rfl (pl_alloc (by simp only [go_sem]; rfl) rfl) ?_) | (refine zp rfl rfl (pl_store (by simp (decide := true) only [go_sem]; rfl) (by simp (decide := true) only [go_sem]; rfl) (by simp (decide := true) only [go_sem]; rfl) (by rfl) (by rfl) (by kernel_rfl) (by rfl) (by rfl)) ?_) | fail)
    refine ARun.q1 rfl rfl (ql_idxD (l := p.methods) (f := encC) cd0 rfl rfl Try.underlying22 (by omega) (by omega) (by kernel_rfl)) ?_
    repeat (first | (with_reducible first | apply zs | apply zN | apply z1 | apply z2 | apply z3 | apply z4 | apply z5 | apply z6 | refine z7 rfl ?_ | apply zb | apply zk | apply zr | apply ze | apply y1 | apply y2) | ((with_reducible apply zR); (refine ⟨rfl, rfl, ?_⟩; simp (decide := true) only [go_sem, List.map]; rfl)) | ((with_reducible apply zG); (simp (decide := true) only [go_sem]; rfl); (simp (decide := true) only [go_sem]; (repeat simp (decide := true) only [go_sem]); rfl)) | (refine zp rfl rfl (pl_box (by simp (decide := true) only [go_sem]; rfl) rfl) ?_) | (refine zp rfl rfl (pl_alloc (by simp only [go_sem]; rfl) rfl) ?_) | (refine zp rfl rfl (pl_store (by simp (decide := true) only [go_sem]; rfl) (by simp (decide := true) only [go_sem]; rfl) (by simp (decide := true) only [go_sem]; rfl) (by rfl) (by rfl) (by kernel_rfl) (by rfl) (by rfl)) ?_) | fail)
    refine ARun.q1 rfl rfl (ql_callC (weight_ok (nth cd0 p.methods k)) rfl (by simp (decide := true) only [go_sem] <;> rfl) (by simp (decide := true) only [go_sem, List.map]) (by simp [-List.map_take, -List.map_drop])) ?_
    repeat (first | (with_reducible first | apply zs | apply zN | apply z1 | apply z2 | apply z3 | apply z4 | apply z5 | apply z6 | refine z7 rfl ?_ | apply zb | apply zk | apply zr | apply ze | apply y1 | apply y2) | ((with_reducible apply zR); (refine ⟨rfl, rfl, ?_⟩; simp (decide := true) only [go_sem, List.map]; rfl)) | ((with_reducible apply zG); (simp (decide := true) only [go_sem]; rfl); (simp (decide := true) only [go_sem]; (repeat simp (decide := true) only [go_sem]); rfl)) | (refine zp rfl rfl (pl_box (by simp (decide := true) only [go_sem]; rfl) rfl) ?_) | (refine zp rfl rfl (pl_alloc (by simp only [go_sem]; rfl) rfl) ?_) | (refine zp rfl rfl (pl_store (by simp (decide := true) only [go_sem]; rfl) (by simp (decide := true) only [go_sem]; rfl) (by simp (decide := true) only [go_sem]; rfl) (by rfl) (by rfl) (by kernel_rfl) (by rfl) (by rfl)) ?_) | fail)
    rw [wrap_succ (by omega)]
    refine ⟨k + 1, by omega, by omega, (.env' (by simp (decide := true) only [go_sem, W, foldl_take_succ _ _ _ _ hd, nth_eq hd] <;> simp [Le.refl, W, foldl_take_succ _ _ _ _ hd, nth_eq hd]))⟩
  simp at hd
  have hkl : k = p.methods.length := by omega
  subst hkl
  repeat (first | (with_reducible first | apply zs | apply zN | apply z1 | apply z2 | apply z3 | apply z4 | apply z5 | apply z6 | refine z7 rfl ?_ | apply zb | apply zk | apply zr | apply ze | apply y1 | apply y2) | ((with_reducible apply zR); (refine ⟨rfl, rfl, ?_⟩; simp (decide := true) only [go_sem, List.map]; rfl)) | ((with_reducible apply zG); (simp (decide := true) only [go_sem]; rfl); (simp (decide := true) only [go_sem]; (repeat simp (decide := true) only [go_sem]); rfl)) | (refine zp rfl rfl (pl_box (by simp (decide := true) only [go_sem]; rfl) rfl) ?_) | (refine zp rfl rfl (pl_alloc (by simp only [go_sem]; rfl) rfl) ?_) | (refine zp rfl rfl (pl_store (by simp (decide := true) only [go_sem]; rfl) (by simp (decide := true) only [go_sem]; rfl) (by simp (decide := true) only [go_sem]; rfl) (by rfl) (by rfl) (by kernel_rfl) (by rfl) (by rfl)) ?_) | fail)
  exact Ret.bool rfl (by rw [List.take_length])

open Classical in
theorem law_valid (p : Tk) (hlaw : okValid p ↔ okRef p) : Fn Try.prog 3 [encT p] (.bool true) := by
  obtain ⟨b, hb⟩ := big_ok p
  refine Fn.intro' [(0, encT p)] 1 14 Try.func3 (by kernel_rfl) rfl rfl rfl rfl rfl ?_
  repeat (first | (with_reducible first | apply zs | apply zN | apply z1 | apply z2 | apply z3 | apply z4 | apply z5 | apply z6 | refine z7 rfl ?_ | apply zb | apply zk | apply zr | apply ze | apply y1 | apply y2) | ((with_reducible apply zR); (refine ⟨rfl, rfl, ?_⟩; simp (decide := true) only [go_sem, List.map]; rfl)) | ((with_reducible apply zG); (simp (decide := true) only [go_sem]; rfl); (simp (decide := true) only [go_sem]; (repeat simp (decide := true) only [go_sem]); rfl)) | (refine zp rfl rfl (pl_box (by simp (decide := true) only [go_sem]; rfl) rfl) ?_) | (refine zp rfl rfl (pl_alloc (by simp only [go_sem]; rfl) rfl) ?_) | (refine zp rfl rfl (pl_store (by simp (decide := true) only [go_sem]; rfl) (by simp (decide := true) only [go_sem]; rfl) (by simp (decide := true) only [go_sem]; rfl) (by rfl) (by rfl) (by kernel_rfl) (by rfl) (by rfl)) ?_) | fail)
  refine ARun.q1 rfl rfl (ql_callC (hb) rfl (by simp (decide := true) only [go_sem] <;> rfl) (by simp (decide := true) only [go_sem, List.map]) (by simp [-List.map_take, -List.map_drop])) ?_
  repeat (first | (with_reducible first | apply zs | apply zN | apply z1 | apply z2 | apply z3 | apply z4 | apply z5 | apply z6 | refine z7 rfl ?_ | apply zb | apply zk | apply zr | apply ze | apply y1 | apply y2) | ((with_reducible apply zR); (refine ⟨rfl, rfl, ?_⟩; simp (decide := true) only [go_sem, List.map]; rfl)) | ((with_reducible apply zG); (simp (decide := true) only [go_sem]; rfl); (simp (decide := true) only [go_sem]; (repeat simp (decide := true) only [go_sem]); rfl)) | (refine zp rfl rfl (pl_box (by simp (decide := true) only [go_sem]; rfl) rfl) ?_) | (refine zp rfl rfl (pl_alloc (by simp only [go_sem]; rfl) rfl) ?_) | (refine zp rfl rfl (pl_store (by simp (decide := true) only [go_sem]; rfl) (by simp (decide := true) only [go_sem]; rfl) (by simp (decide := true) only [go_sem]; rfl) (by rfl) (by rfl) (by kernel_rfl) (by rfl) (by rfl)) ?_) | fail)
  refine AWp.cond (b := _) rfl (fun hc => ?_) (fun hc => ?_)
  · repeat (first | (with_reducible first | apply zs | apply zN | apply z1 | apply z2 | apply z3 | apply z4 | apply z5 | apply z6 | refine z7 rfl ?_ | apply zb | apply zk | apply zr | apply ze | apply y1 | apply y2) | ((with_reducible apply zR); (refine ⟨rfl, rfl, ?_⟩; simp (decide := true) only [go_sem, List.map]; rfl)) | ((with_reducible apply zG); (simp (decide := true) only [go_sem]; rfl); (simp (decide := true) only [go_sem]; (repeat simp (decide := true) only [go_sem]); rfl)) | (refine zp rfl rfl (pl_box (by simp (decide := true) only [go_sem]; rfl) rfl) ?_) | (refine zp rfl rfl (pl_alloc (by simp only [go_sem]; rfl) rfl) ?_) | (refine zp rfl rfl (pl_store (by simp (decide := true) only [go_sem]; rfl) (by simp (decide := true) only [go_sem]; rfl) (by simp (decide := true) only [go_sem]; rfl) (by rfl) (by rfl) (by kernel_rfl) (by rfl) (by rfl)) ?_) | fail)
    refine ARun.q1 rfl rfl (ql_callC (awake_true) rfl (by simp (decide := true) only [go_sem] <;> rfl) (by simp (decide := true) only [go_sem, List.map]) (by simp [-List.map_take, -List.map_drop])) ?_
    repeat (first | (with_reducible first | apply zs | apply zN | apply z1 | apply z2 | apply z3 | apply z4 | apply z5 | apply z6 | refine z7 rfl ?_ | apply zb | apply zk | apply zr | apply ze | apply y1 | apply y2) | ((with_reducible apply zR); (refine ⟨rfl, rfl, ?_⟩; simp (decide := true) only [go_sem, List.map]; rfl)) | ((with_reducible apply zG); (simp (decide := true) only [go_sem]; rfl); (simp (decide := true) only [go_sem]; (repeat simp (decide := true) only [go_sem]); rfl)) | (refine zp rfl rfl (pl_box (by simp (decide := true) only [go_sem]; rfl) rfl) ?_) | (refine zp rfl rfl (pl_alloc (by simp only [go_sem]; rfl) rfl) ?_) | (refine zp rfl rfl (pl_store (by simp (decide := true) only [go_sem]; rfl) (by simp (decide := true) only [go_sem]; rfl) (by simp (decide := true) only [go_sem]; rfl) (by rfl) (by rfl) (by kernel_rfl) (by rfl) (by rfl)) ?_) | fail)
    exact Ret.bool rfl (by simp)
  · repeat (first | (with_reducible first | apply zs | apply zN | apply z1 | apply z2 | apply z3 | apply z4 | apply z5 | apply z6 | refine z7 rfl ?_ | apply zb | apply zk | apply zr | apply ze | apply y1 | apply y2) | ((with_reducible apply zR); (refine ⟨rfl, rfl, ?_⟩; simp (decide := true) only [go_sem, List.map]; rfl)) | ((with_reducible apply zG); (simp (decide := true) only [go_sem]; rfl); (simp (decide := true) only [go_sem]; (repeat simp (decide := true) only [go_sem]); rfl)) | (refine zp rfl rfl (pl_box (by simp (decide := true) only [go_sem]; rfl) rfl) ?_) | (refine zp rfl rfl (pl_alloc (by simp only [go_sem]; rfl) rfl) ?_) | (refine zp rfl rfl (pl_store (by simp (decide := true) only [go_sem]; rfl) (by simp (decide := true) only [go_sem]; rfl) (by simp (decide := true) only [go_sem]; rfl) (by rfl) (by rfl) (by kernel_rfl) (by rfl) (by rfl)) ?_) | fail)
    ((with_reducible apply AWp.drawL (k := 9) follows); (refine ⟨rfl, rfl, by kernel_rfl, by decide, ?_, ?_⟩; (simp (decide := true) only [go_sem, List.map, List.take]; rfl); (simp (decide := true) only [go_sem, List.map, List.drop]; rfl)))
    repeat (first | (with_reducible first | apply zs | apply zN | apply z1 | apply z2 | apply z3 | apply z4 | apply z5 | apply z6 | refine z7 rfl ?_ | apply zb | apply zk | apply zr | apply ze | apply y1 | apply y2) | ((with_reducible apply zR); (refine ⟨rfl, rfl, ?_⟩; simp (decide := true) only [go_sem, List.map]; rfl)) | ((with_reducible apply zG); (simp (decide := true) only [go_sem]; rfl); (simp (decide := true) only [go_sem]; (repeat simp (decide := true) only [go_sem]); rfl)) | (refine zp rfl rfl (pl_box (by simp (decide := true) only [go_sem]; rfl) rfl) ?_) | (refine zp rfl rfl (pl_alloc (by simp only [go_sem]; rfl) rfl) ?_) | (refine zp rfl rfl (pl_store (by simp (decide := true) only [go_sem]; rfl) (by simp (decide := true) only [go_sem]; rfl) (by simp (decide := true) only [go_sem]; rfl) (by rfl) (by rfl) (by kernel_rfl) (by rfl) (by rfl)) ?_) | fail)
    refine ARun.q1 rfl rfl (ql_callC (valid_ok p (decide (okValid p)) (by simp)) rfl (by simp (decide := true) only [go_sem] <;> rfl) (by simp (decide := true) only [go_sem, List.map]) (by simp [-List.map_take, -List.map_drop])) ?_
    repeat (first | (with_reducible first | apply zs | apply zN | apply z1 | apply z2 | apply z3 | apply z4 | apply z5 | apply z6 | refine z7 rfl ?_ | apply zb | apply zk | apply zr | apply ze | apply y1 | apply y2) | ((with_reducible apply zR); (refine ⟨rfl, rfl, ?_⟩; simp (decide := true) only [go_sem, List.map]; rfl)) | ((with_reducible apply zG); (simp (decide := true) only [go_sem]; rfl); (simp (decide := true) only [go_sem]; (repeat simp (decide := true) only [go_sem]); rfl)) | (refine zp rfl rfl (pl_box (by simp (decide := true) only [go_sem]; rfl) rfl) ?_) | (refine zp rfl rfl (pl_alloc (by simp only [go_sem]; rfl) rfl) ?_) | (refine zp rfl rfl (pl_store (by simp (decide := true) only [go_sem]; rfl) (by simp (decide := true) only [go_sem]; rfl) (by simp (decide := true) only [go_sem]; rfl) (by rfl) (by rfl) (by kernel_rfl) (by rfl) (by rfl)) ?_) | fail)
    refine ARun.q1 rfl rfl (ql_callC (refValid_ok p (decide (okValid p)) (by simpa using hlaw)) rfl (by simp (decide := true) only [go_sem] <;> rfl) (by simp (decide := true) only [go_sem, List.map]) (by simp [-List.map_take, -List.map_drop])) ?_
    repeat (first | (with_reducible first | apply zs | apply zN | apply z1 | apply z2 | apply z3 | apply z4 | apply z5 | apply z6 | refine z7 rfl ?_ | apply zb | apply zk | apply zr | apply ze | apply y1 | apply y2) | ((with_reducible apply zR); (refine ⟨rfl, rfl, ?_⟩; simp (decide := true) only [go_sem, List.map]; rfl)) | ((with_reducible apply zG); (simp (decide := true) only [go_sem]; rfl); (simp (decide := true) only [go_sem]; (repeat simp (decide := true) only [go_sem]); rfl)) | (refine zp rfl rfl (pl_box (by simp (decide := true) only [go_sem]; rfl) rfl) ?_) | (refine zp rfl rfl (pl_alloc (by simp only [go_sem]; rfl) rfl) ?_) | (refine zp rfl rfl (pl_store (by simp (decide := true) only [go_sem]; rfl) (by simp (decide := true) only [go_sem]; rfl) (by simp (decide := true) only [go_sem]; rfl) (by rfl) (by rfl) (by kernel_rfl) (by rfl) (by rfl)) ?_) | fail)
    refine ARun.gl rfl rfl (by simp (decide := true) only [go_sem] <;> rfl) (fun hg => ql_callC (awake_true) rfl (by simp (decide := true) only [go_sem] <;> rfl) (by simp (decide := true) only [go_sem, List.map]) (by simp [-List.map_take, -List.map_drop])) ?_
    repeat (first | (with_reducible first | apply zs | apply zN | apply z1 | apply z2 | apply z3 | apply z4 | apply z5 | apply z6 | refine z7 rfl ?_ | apply zb | apply zk | apply zr | apply ze | apply y1 | apply y2) | ((with_reducible apply zR); (refine ⟨rfl, rfl, ?_⟩; simp (decide := true) only [go_sem, List.map]; rfl)) | ((with_reducible apply zG); (simp (decide := true) only [go_sem]; rfl); (simp (decide := true) only [go_sem]; (repeat simp (decide := true) only [go_sem]); rfl)) | (refine zp rfl rfl (pl_box (by simp (decide := true) only [go_sem]; rfl) rfl) ?_) | (refine zp rfl rfl (pl_alloc (by simp only [go_sem]; rfl) rfl) ?_) | (refine zp rfl rfl (pl_store (by simp (decide := true) only [go_sem]; rfl) (by simp (decide := true) only [go_sem]; rfl) (by simp (decide := true) only [go_sem]; rfl) (by rfl) (by rfl) (by kernel_rfl) (by rfl) (by rfl)) ?_) | fail)
    exact Ret.bool rfl (by simp)
end Go.Ab
set_option maxHeartbeats 4000000
namespace Go.Ab
open Go Go.Ab Go.Proofs Go.Ab.Ty
set_option linter.unusedSimpArgs false
set_option linter.unusedVariables false
theorem okVars1 {n v : Int} : okVars n [v] ↔ 0 ≤ v ∧ v < n := by simp [okVars]
theorem okVars2 {n v w : Int} : okVars n [v, w] ↔ (0 ≤ v ∧ v < n) ∧ (0 ≤ w ∧ w < n) ∧ v ≠ w := by
  simp [okVars, and_assoc]
theorem take_all {l : List Stp} {i : Nat} (hi : i ≤ l.length) (q : Stp → Prop) : (∀ x ∈ l.take i, q x) ↔ ∀ k : Nat, (k : Int) < i → q (stp l k) := by
  constructor
  · intro h k hk
    have : k < l.length := by omega
    rw [show stp l k = l[k] from nth_eq this]
    exact h _ (List.mem_iff_getElem.2 ⟨k, by rw [List.length_take]; omega, by rw [List.getElem_take]⟩)
  · intro h x hx
    obtain ⟨k, hk, rfl⟩ := List.mem_iff_getElem.1 hx
    rw [List.length_take] at hk
    have := h k (by omega)
    rw [show stp l k = l[k]'(by omega) from nth_eq (by omega)] at this
    rw [List.getElem_take]; exact this
theorem fits_step {l : Lk} {i : Nat} (hi : i ≤ l.c.steps.length) {s : Stp} (h : okFits l.p l.c i l.own l.method s) : okStep l i s := by
  obtain ⟨⟨ho, ⟨z1, z2, z3, z4, z5⟩, ⟨r1, r2⟩, hl, hv⟩, f1, f6, f7, f8, f9⟩ := h
  have hta := fun q => take_all (q := q) hi
  unfold okStep
  rw [Int.toNat_natCast]
  rcases (by omega : s.op = 1 ∨ s.op = 2 ∨ s.op = 3 ∨ s.op = 4 ∨ s.op = 5 ∨ s.op = 6 ∨ s.op = 7 ∨ s.op = 8 ∨ s.op = 9 ∨ s.op = 10 ∨ s.op = 11 ∨ s.op = 12) with e | e | e | e | e | e | e | e | e | e | e | e
  · simp [e, u1, u2, u3, u4, u5] at *; exact ⟨okVars1.2 r1, z2, f1.1, f1.2, z4, by simp [z5]⟩
  · simp [e, u1, u2, u3, u4, u5] at *; exact ⟨okVars2.2 ⟨r1, ⟨r2.1, r2.2.1⟩, r2.2.2⟩, z3, z4, by simp [z5]⟩
  · simp [e, u1, u2, u3, u4, u5] at *; exact ⟨okVars2.2 ⟨r1, ⟨r2.1, r2.2.1⟩, r2.2.2⟩, z3, z4, by simp [z5]⟩
  · simp [e, u1, u2, u3, u4, u5] at *; exact ⟨okVars1.2 r1, z2, z3, z4, by simp [z5]⟩
  · simp [e, u1, u2, u3, u4, u5] at *; exact ⟨okVars1.2 r1, z2, f1.1, f1.2, z4, by simp [z5]⟩
  · simp [e, u1, u2, u3, u4, u5] at *; exact ⟨⟨z1, z2⟩, by omega, by omega, by omega, by omega, f6.2.1, f6.2.2, hv⟩
  · simp only [e, hta] at *; simp [u1, u2, u3, u4, u5] at *; exact ⟨⟨z1, z2⟩, f7.1, ⟨z4, by simp [z5]⟩, ⟨f7.2.1, f7.2.2.1⟩, f7.2.2.2⟩
  · simp [e, u1, u2, u3, u4, u5] at *; exact ⟨⟨z1, z2⟩, f8.1, f8.2.1, f8.2.2.1, z4, f8.2.2.2, by omega, hv⟩
  · simp [e, u1, u2, u3, u4, u5] at *; exact ⟨⟨z1, z2⟩, by omega, by omega, by omega, by omega, f9.2.1, f9.2.2, hv⟩
  · simp [e, u1, u2, u3, u4, u5] at *; exact ⟨⟨z1, z2⟩, f7.1, ⟨z4, by simp [z5]⟩, ⟨f7.2.1, f7.2.2⟩⟩
  · simp [e, u1, u2, u3, u4, u5] at *; exact ⟨⟨z1, z2⟩, z3, z4, by simp [z5]⟩
  · simp [e, u1, u2, u3, u4, u5] at *; exact ⟨⟨z1, z2⟩, z3, z4, by simp [z5]⟩
theorem step_fits {l : Lk} {i : Nat} (hi : i ≤ l.c.steps.length) {s : Stp} (hp : ∀ n : Int, 0 ≤ n → n < l.p.codes.length → (cod l.p.codes n).params ≤ 4) (hm : ∀ n : Int, 0 ≤ n → n < l.p.methods.length → (cod l.p.methods n).params ≤ 4) (h : okStep l i s) : okFits l.p l.c i l.own l.method s := by
  have hta := fun q => take_all (q := q) hi
  unfold okStep at h
  rw [Int.toNat_natCast] at h
  have hnil : ∀ {n : Int}, s.vars.length = 0 → s.vars = [] ∧ s.vars.length ≤ 4 ∧ okVars n s.vars := fun h => by
    have := List.eq_nil_of_length_eq_zero h
    rw [this]; simp [okVars]
  rcases h with ⟨ho, h1, h2, h3, h4, h5, h6⟩ | ⟨ho, h1, h2, h3, h4⟩ | ⟨ho, h1, h2, h3, h4, h5⟩ | ⟨ho, ⟨h1, h1'⟩, h2, h3, h4, h5, h6, h7, h8⟩ | ⟨ho, ⟨h1, h1'⟩, h2, ⟨h3, h3'⟩, h4, h5⟩ | ⟨ho, ⟨h1, h1'⟩, h2, h3, h4, h5, h6, h7, h8⟩ | ⟨ho, ⟨h1, h1'⟩, h2, h3, h4, h5, h6, h7, h8⟩ | ⟨ho, ⟨h1, h1'⟩, h2, h3, h4⟩
  · obtain ⟨g1, g2, g3⟩ := hnil (n := l.c.vars) h6
    rw [okVars1] at h1
    rcases ho with e | e <;> simp [okFits, okFormed, u1, u2, u3, u4, u5, e, h1, h2, h3, h4, h5, g1, okVars]
  · obtain ⟨g1, g2, g3⟩ := hnil (n := l.c.vars) h4
    rw [okVars2] at h1
    rcases ho with e | e <;> simp [okFits, okFormed, u1, u2, u3, u4, u5, e, h1, h2, h3, g1, okVars]
  · obtain ⟨g1, g2, g3⟩ := hnil (n := l.c.vars) h5
    rw [okVars1] at h1
    simp [okFits, okFormed, u1, u2, u3, u4, u5, ho, h1, h2, h3, h4, g1, okVars]
  · have := hp s.task (by omega) h5
    have g : s.vars.length ≤ 4 := by omega
    simp [okFits, okFormed, u1, u2, u3, u4, u5, ho, h1, h1', h2, h3, g, h8]
    exact ⟨by omega, h6, h7⟩
  · obtain ⟨g1, g2, g3⟩ := hnil (n := l.c.vars) h3'
    obtain ⟨h4, h4'⟩ := h4
    rcases ho with e | e
    · simp only [e, hta] at h5
      simp at h5
      simp [okFits, okFormed, u1, u2, u3, u4, u5, e, h1, h1', h2, h3, h4, h4', g1, okVars]
      exact h5
    · simp [okFits, okFormed, u1, u2, u3, u4, u5, e, h1, h1', h2, h3, h4, h4', g1, okVars]
  · have g : s.vars.length ≤ 4 := by omega
    simp [okFits, okFormed, u1, u2, u3, u4, u5, ho, h1, h1', h2, h3, h4, h5, g, h8]
    omega
  · have := hm s.task h4 h5
    have g : s.vars.length ≤ 4 := by omega
    simp [okFits, okFormed, u1, u2, u3, u4, u5, ho, h1, h1', h2, h3, h4, h5, g, h8]
    exact ⟨h6, h7⟩
  · obtain ⟨g1, g2, g3⟩ := hnil (n := l.c.vars) h4
    rcases ho with e | e <;> simp [okFits, okFormed, u1, u2, u3, u4, u5, e, h1, h1', h2, h3, g1, okVars]

theorem valid_iff (p : Tk) : okValid p ↔ okRef p := by
  constructor
  · rintro ⟨h, hc, hm⟩
    have hp : ∀ n : Int, 0 ≤ n → n < (p.codes.length : Int) → (cod p.codes n).params ≤ 4 := fun n h0 h1 => by
      have := (hc n.toNat (by omega)).1.2.1
      rwa [Int.toNat_of_nonneg h0] at this
    have hq : ∀ n : Int, 0 ≤ n → n < (p.methods.length : Int) → (cod p.methods n).params ≤ 4 := fun n h0 h1 => by
      have := (hm n.toNat (by omega)).1.2.1
      rwa [Int.toNat_of_nonneg h0] at this
    refine ⟨h, fun i hi => ⟨(hc i hi).1, fun j hj => ?_⟩, fun i hi => ⟨(hm i hi).1, fun j hj => ?_⟩⟩
    · exact step_fits (l := ⟨p, cod p.codes i, i, false⟩) (Nat.le_of_lt hj) hp hq ((hc i hi).2 j hj)
    · exact step_fits (l := ⟨p, cod p.methods i, i, true⟩) (Nat.le_of_lt hj) hp hq ((hm i hi).2 j hj)
  · rintro ⟨h, hc, hm⟩
    refine ⟨h, fun i hi => ⟨(hc i hi).1, fun j hj => ?_⟩, fun i hi => ⟨(hm i hi).1, fun j hj => ?_⟩⟩
    · exact fits_step (l := ⟨p, cod p.codes i, i, false⟩) (Nat.le_of_lt hj) ((hc i hi).2 j hj)
    · exact fits_step (l := ⟨p, cod p.methods i, i, true⟩) (Nat.le_of_lt hj) ((hm i hi).2 j hj)
end Go.Ab
namespace Go.Ab
open Go Go.Ab Go.Proofs Go.Ab.Ty
set_option linter.unusedSimpArgs false
set_option linter.unusedVariables false

/-- parts that are all of one form -/
theorem all_enc {α : Type} {Q : List AV → Prop} {f : α → AV} {g : List AV → AV} {parts : List (List AV)} (h : ∀ p ∈ parts, Q p) (hq : ∀ p, Q p → ∃ x, g p = f x) : ∃ l : List α, parts.map g = l.map f := by
  induction parts with
  | nil => exact ⟨[], rfl⟩
  | cons p ps ih =>
    obtain ⟨l, hl⟩ := ih fun q hq' => h q (by simp [hq'])
    obtain ⟨x, hx⟩ := hq p (h p (by simp))
    exact ⟨x :: l, by simp [hl, hx]⟩

theorem sh3 {f : Nat} {xs : List AV} (h : Sh Try.prog f 3 xs) : ∃ n, xs = [.int n] := by
  cases f with
  | zero => exact h.elim
  | succ f =>
    simp only [Sh, Try.underlying3] at h
    obtain ⟨n, h, _⟩ := h
    exact ⟨n, h⟩
theorem sh32 {f : Nat} {xs : List AV} (h : Sh Try.prog f 32 xs) : ∃ l : List Int, xs = [.lst (l.map .int)] := by
  cases f with
  | zero => exact h.elim
  | succ f =>
    simp only [Sh, Try.underlying32] at h
    obtain ⟨parts, rfl, _, h⟩ := h
    obtain ⟨l, hl⟩ := all_enc (f := AV.int) (g := mkEl (aggTy Try.prog 3 == some true)) h fun p hp => by
      obtain ⟨n, rfl⟩ := sh3 hp.2
      exact ⟨n, rfl⟩
    exact ⟨l, by rw [hl]⟩
theorem sh34 {f : Nat} {xs : List AV} (h : Sh Try.prog f 34 xs) : ∃ s : Stp, AV.agg xs = encS s := by
  cases f with
  | zero => exact h.elim
  | succ f =>
    simp only [Sh, Try.underlying34] at h
    obtain ⟨parts, hlen, rfl, h⟩ := h
    match parts, hlen, h with
    | [p0, p1, p2, p3, p4, p5], _, h =>
      obtain ⟨a0, rfl⟩ := sh3 (h 0 _ p0 rfl rfl).2
      obtain ⟨a1, rfl⟩ := sh3 (h 1 _ p1 rfl rfl).2
      obtain ⟨a2, rfl⟩ := sh3 (h 2 _ p2 rfl rfl).2
      obtain ⟨a3, rfl⟩ := sh3 (h 3 _ p3 rfl rfl).2
      obtain ⟨a4, rfl⟩ := sh3 (h 4 _ p4 rfl rfl).2
      obtain ⟨a5, rfl⟩ := sh32 (h 5 _ p5 rfl rfl).2
      exact ⟨⟨a0, a1, a2, a3, a4, a5⟩, rfl⟩
theorem sh29 {f : Nat} {xs : List AV} (h : Sh Try.prog f 29 xs) : ∃ l : List Stp, xs = [.lst (l.map encS)] := by
  cases f with
  | zero => exact h.elim
  | succ f =>
    simp only [Sh, Try.underlying29] at h
    obtain ⟨parts, rfl, _, h⟩ := h
    obtain ⟨l, hl⟩ := all_enc (f := encS) (g := mkEl (aggTy Try.prog 34 == some true)) h fun p hp => by
      obtain ⟨s, hs⟩ := sh34 hp.2
      exact ⟨s, by rw [agg34]; exact hs⟩
    exact ⟨l, by rw [hl]⟩
theorem sh31 {f : Nat} {xs : List AV} (h : Sh Try.prog f 31 xs) : ∃ s : Cd, AV.agg xs = encC s := by
  cases f with
  | zero => exact h.elim
  | succ f =>
    simp only [Sh, Try.underlying31] at h
    obtain ⟨parts, hlen, rfl, h⟩ := h
    match parts, hlen, h with
    | [p0, p1, p2], _, h =>
      obtain ⟨a0, rfl⟩ := sh3 (h 0 _ p0 rfl rfl).2
      obtain ⟨a1, rfl⟩ := sh3 (h 1 _ p1 rfl rfl).2
      obtain ⟨a2, rfl⟩ := sh29 (h 2 _ p2 rfl rfl).2
      exact ⟨⟨a0, a1, a2⟩, rfl⟩
theorem sh22 {f : Nat} {xs : List AV} (h : Sh Try.prog f 22 xs) : ∃ l : List Cd, xs = [.lst (l.map encC)] := by
  cases f with
  | zero => exact h.elim
  | succ f =>
    simp only [Sh, Try.underlying22] at h
    obtain ⟨parts, rfl, _, h⟩ := h
    obtain ⟨l, hl⟩ := all_enc (f := encC) (g := mkEl (aggTy Try.prog 31 == some true)) h fun p hp => by
      obtain ⟨s, hs⟩ := sh31 hp.2
      exact ⟨s, by rw [agg31]; exact hs⟩
    exact ⟨l, by rw [hl]⟩
theorem sh24 {f : Nat} {xs : List AV} (h : Sh Try.prog f 24 xs) : ∃ s : Tk, AV.agg xs = encT s := by
  cases f with
  | zero => exact h.elim
  | succ f =>
    simp only [Sh, Try.underlying24] at h
    obtain ⟨parts, hlen, rfl, h⟩ := h
    match parts, hlen, h with
    | [p0, p1, p2], _, h =>
      obtain ⟨a0, rfl⟩ := sh22 (h 0 _ p0 rfl rfl).2
      obtain ⟨a1, rfl⟩ := sh22 (h 1 _ p1 rfl rfl).2
      obtain ⟨a2, rfl⟩ := sh3 (h 2 _ p2 rfl rfl).2
      exact ⟨⟨a0, a1, a2⟩, rfl⟩
theorem shT {a : AV} (h : ShV Try.prog 24 a) : ∃ p, a = encT p := by
  obtain ⟨fuel, q, h, _, rfl⟩ := h
  obtain ⟨p, hp⟩ := sh24 h
  exact ⟨p, by rw [agg24]; exact hp⟩

theorem law3 (xs : List AV) (hlen : xs.length = Try.f3.params.size) (h : ∀ (j : Nat) t a, Try.f3.params[j]? = some t → xs[j]? = some a → ShV Try.prog t a) : Fn Try.prog 3 xs (.bool true) := by
  rw [Try.params3] at hlen h
  match xs, hlen, h with
  | [a], _, h =>
    obtain ⟨p, rfl⟩ := shT (h 0 24 a rfl rfl)
    exact law_valid p (valid_iff p)
end Go.Ab
