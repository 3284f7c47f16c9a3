import Derived.Test.YthjeoagadjdilaaE22
namespace Go.Ab
open Go Go.Ab Go.Proofs Go.Ab.Ty
set_option linter.unusedSimpArgs false
set_option linter.unusedVariables false

def weightF (l : List Stp) (n : Int) : Int := l.foldl (fun n s => IntKind.i64.wrap (IntKind.i64.wrap (n + 1) + s.vars.length)) n

theorem foldl_take_succ {α β : Type} (f : β → α → β) (l : List α) (b : β) (k : Nat) (h : k < l.length) : (l.take (k + 1)).foldl f b = f ((l.take k).foldl f b) l[k] := by
  rw [List.take_succ_eq_append_getElem h, List.foldl_append]; rfl

theorem weight_ok (c : Cd) : Fn Try.prog 26 [encC c] (.int (weightF c.steps 1)) := by
  refine Fn.intro' [(0, encC c)] 1 23 Try.func26 (by kernel_rfl) rfl rfl rfl rfl rfl ?_
  refine AWp.learnV 0 rfl (fun _ _ _ _ _ h => VR.bdC h) fun hbd => ?_
  have hbl := hbd.1
  repeat (first
    | with_reducible refine AWp.seq ?_
    | ((with_reducible apply AWp.regionL); (refine ⟨rfl, rfl, ?_⟩; simp (decide := true) only [Nat.reduceAdd, List.map, go_sem]; rfl))
    | with_reducible refine ARun.nil ?_
    | with_reducible refine thenQ_n ?_
    | with_reducible refine thenQ_r ?_
    | with_reducible refine thenQ_e ?_
    | with_reducible refine blkQ_n ?_
    | with_reducible refine blkQ_r ?_
    | with_reducible refine blkQ_e ?_
    | with_reducible refine blkQ_o rfl ?_
    | with_reducible refine AWp.block ?_
    | with_reducible refine AWp.skip ?_
    | with_reducible refine AWp.ret ?_
    | with_reducible refine AWp.exit ?_
    | with_reducible refine retQ_n ?_
    | with_reducible refine retQ_r ?_
    | ((with_reducible apply ARun.go); (simp (decide := true) only [Nat.reduceAdd, go_sem]; rfl); (simp (decide := true) only [Nat.reduceAdd, go_sem]; (repeat simp (decide := true) only [Nat.reduceAdd, go_sem]); rfl))
    | (refine ARun.p1 rfl rfl (pl_box (by simp (decide := true) only [Nat.reduceAdd, go_sem]; rfl) rfl) ?_)
    | (refine ARun.p1 rfl rfl (pl_alloc (by simp only [Nat.reduceAdd, go_sem]; rfl) rfl) ?_)
    | (refine ARun.p1 rfl rfl (pl_store (by simp (decide := true) only [Nat.reduceAdd, go_sem]; rfl) (by simp (decide := true) only [Nat.reduceAdd, go_sem]; rfl) (by simp (decide := true) only [Nat.reduceAdd, go_sem]; rfl) (by rfl) (by rfl) (by kernel_rfl) (by rfl) (by rfl)) ?_)
    | fail)
  refine AWp.loop (J := fun k : Nat => k ≤ c.steps.length)
    (I := fun k => ⟨[(4, .int k), (3, .int (weightF (c.steps.take k) 1)), (1, .ptr 0 1 0 0)], [⟨31, 3, [encC c]⟩]⟩) (μ := fun k => c.steps.length - k) 0 (Nat.zero_le _) (.env' (by simp (decide := true) only [Nat.reduceAdd, go_sem, weightF] <;> simp [Le.refl, weightF])) ?_
  intro k hk
  repeat (first
    | with_reducible refine AWp.seq ?_
    | ((with_reducible apply AWp.regionL); (refine ⟨rfl, rfl, ?_⟩; simp (decide := true) only [Nat.reduceAdd, List.map, go_sem]; rfl))
    | with_reducible refine ARun.nil ?_
    | with_reducible refine thenQ_n ?_
    | with_reducible refine thenQ_r ?_
    | with_reducible refine thenQ_e ?_
    | with_reducible refine blkQ_n ?_
    | with_reducible refine blkQ_r ?_
    | with_reducible refine blkQ_e ?_
    | with_reducible refine blkQ_o rfl ?_
    | with_reducible refine AWp.block ?_
    | with_reducible refine AWp.skip ?_
    | with_reducible refine AWp.ret ?_
    | with_reducible refine AWp.exit ?_
    | with_reducible refine retQ_n ?_
    | with_reducible refine retQ_r ?_
    | ((with_reducible apply ARun.go); (simp (decide := true) only [Nat.reduceAdd, go_sem]; rfl); (simp (decide := true) only [Nat.reduceAdd, go_sem]; (repeat simp (decide := true) only [Nat.reduceAdd, go_sem]); rfl))
    | (refine ARun.p1 rfl rfl (pl_box (by simp (decide := true) only [Nat.reduceAdd, go_sem]; rfl) rfl) ?_)
    | (refine ARun.p1 rfl rfl (pl_alloc (by simp only [Nat.reduceAdd, go_sem]; rfl) rfl) ?_)
    | (refine ARun.p1 rfl rfl (pl_store (by simp (decide := true) only [Nat.reduceAdd, go_sem]; rfl) (by simp (decide := true) only [Nat.reduceAdd, go_sem]; rfl) (by simp (decide := true) only [Nat.reduceAdd, go_sem]; rfl) (by rfl) (by rfl) (by kernel_rfl) (by rfl) (by rfl)) ?_)
    | fail)
  refine AWp.cond (b := _) rfl (fun hc => ?_) (fun hc => ?_)
  · simp at hc
    repeat (first
      | with_reducible refine AWp.seq ?_
      | ((with_reducible apply AWp.regionL); (refine ⟨rfl, rfl, ?_⟩; simp (decide := true) only [Nat.reduceAdd, List.map, go_sem]; rfl))
      | with_reducible refine ARun.nil ?_
      | with_reducible refine thenQ_n ?_
      | with_reducible refine thenQ_r ?_
      | with_reducible refine thenQ_e ?_
      | with_reducible refine blkQ_n ?_
      | with_reducible refine blkQ_r ?_
      | with_reducible refine blkQ_e ?_
      | with_reducible refine blkQ_o rfl ?_
      | with_reducible refine AWp.block ?_
      | with_reducible refine AWp.skip ?_
      | with_reducible refine AWp.ret ?_
      | with_reducible refine AWp.exit ?_
      | with_reducible refine retQ_n ?_
      | with_reducible refine retQ_r ?_
      | ((with_reducible apply ARun.go); (simp (decide := true) only [Nat.reduceAdd, go_sem]; rfl); (simp (decide := true) only [Nat.reduceAdd, go_sem]; (repeat simp (decide := true) only [Nat.reduceAdd, go_sem]); rfl))
      | (refine ARun.p1 rfl rfl (pl_box (by simp (decide := true) only [Nat.reduceAdd, go_sem]; rfl) rfl) ?_)
      | (refine ARun.p1 rfl rfl (pl_alloc (by simp only [Nat.reduceAdd, go_sem]; rfl) rfl) ?_)
      | (refine ARun.p1 rfl rfl (pl_store (by simp (decide := true) only [Nat.reduceAdd, go_sem]; rfl) (by simp (decide := true) only [Nat.reduceAdd, go_sem]; rfl) (by simp (decide := true) only [Nat.reduceAdd, go_sem]; rfl) (by rfl) (by rfl) (by kernel_rfl) (by rfl) (by rfl)) ?_)
      | fail)
    refine ARun.q1 rfl rfl (ql_idx rfl rfl Try.underlying29 (by omega) (by omega) (by kernel_rfl)) ?_
    repeat (first
      | with_reducible refine AWp.seq ?_
      | ((with_reducible apply AWp.regionL); (refine ⟨rfl, rfl, ?_⟩; simp (decide := true) only [Nat.reduceAdd, List.map, go_sem]; rfl))
      | with_reducible refine ARun.nil ?_
      | with_reducible refine thenQ_n ?_
      | with_reducible refine thenQ_r ?_
      | with_reducible refine thenQ_e ?_
      | with_reducible refine blkQ_n ?_
      | with_reducible refine blkQ_r ?_
      | with_reducible refine blkQ_e ?_
      | with_reducible refine blkQ_o rfl ?_
      | with_reducible refine AWp.block ?_
      | with_reducible refine AWp.skip ?_
      | with_reducible refine AWp.ret ?_
      | with_reducible refine AWp.exit ?_
      | with_reducible refine retQ_n ?_
      | with_reducible refine retQ_r ?_
      | ((with_reducible apply ARun.go); (simp (decide := true) only [Nat.reduceAdd, go_sem]; rfl); (simp (decide := true) only [Nat.reduceAdd, go_sem]; (repeat simp (decide := true) only [Nat.reduceAdd, go_sem]); rfl))
      | (refine ARun.p1 rfl rfl (pl_box (by simp (decide := true) only [Nat.reduceAdd, go_sem]; rfl) rfl) ?_)
      | (refine ARun.p1 rfl rfl (pl_alloc (by simp only [Nat.reduceAdd, go_sem]; rfl) rfl) ?_)
      | (refine ARun.p1 rfl rfl (pl_store (by simp (decide := true) only [Nat.reduceAdd, go_sem]; rfl) (by simp (decide := true) only [Nat.reduceAdd, go_sem]; rfl) (by simp (decide := true) only [Nat.reduceAdd, go_sem]; rfl) (by rfl) (by rfl) (by kernel_rfl) (by rfl) (by rfl)) ?_)
      | fail)
    rw [wrap_succ (by omega)]
    refine ⟨k + 1, by omega, by omega, (.env' (by simp (decide := true) only [Nat.reduceAdd, go_sem, weightF, foldl_take_succ _ _ _ _ hc, Int.toNat_natCast] <;> simp [Le.refl, weightF, foldl_take_succ _ _ _ _ hc, Int.toNat_natCast]))⟩
  · simp at hc
    repeat (first
      | with_reducible refine AWp.seq ?_
      | ((with_reducible apply AWp.regionL); (refine ⟨rfl, rfl, ?_⟩; simp (decide := true) only [Nat.reduceAdd, List.map, go_sem]; rfl))
      | with_reducible refine ARun.nil ?_
      | with_reducible refine thenQ_n ?_
      | with_reducible refine thenQ_r ?_
      | with_reducible refine thenQ_e ?_
      | with_reducible refine blkQ_n ?_
      | with_reducible refine blkQ_r ?_
      | with_reducible refine blkQ_e ?_
      | with_reducible refine blkQ_o rfl ?_
      | with_reducible refine AWp.block ?_
      | with_reducible refine AWp.skip ?_
      | with_reducible refine AWp.ret ?_
      | with_reducible refine AWp.exit ?_
      | with_reducible refine retQ_n ?_
      | with_reducible refine retQ_r ?_
      | ((with_reducible apply ARun.go); (simp (decide := true) only [Nat.reduceAdd, go_sem]; rfl); (simp (decide := true) only [Nat.reduceAdd, go_sem]; (repeat simp (decide := true) only [Nat.reduceAdd, go_sem]); rfl))
      | (refine ARun.p1 rfl rfl (pl_box (by simp (decide := true) only [Nat.reduceAdd, go_sem]; rfl) rfl) ?_)
      | (refine ARun.p1 rfl rfl (pl_alloc (by simp only [Nat.reduceAdd, go_sem]; rfl) rfl) ?_)
      | (refine ARun.p1 rfl rfl (pl_store (by simp (decide := true) only [Nat.reduceAdd, go_sem]; rfl) (by simp (decide := true) only [Nat.reduceAdd, go_sem]; rfl) (by simp (decide := true) only [Nat.reduceAdd, go_sem]; rfl) (by rfl) (by rfl) (by kernel_rfl) (by rfl) (by rfl)) ?_)
      | fail)
    exact Ret.data rfl (by rw [List.take_of_length_le (by omega)]; rfl) (.base _)
end Go.Ab
