import Derived.Test.YthjeoagadjdilaaE22
import Derived.Test.YthjeoagadjdilaaX2
namespace Go.Ab
open Go Go.Ab Go.Proofs Go.Ab.Ty
set_option linter.unusedSimpArgs false
set_option linter.unusedVariables false

def okVars (cv : Int) (vs : List Int) : Prop := (∀ v ∈ vs, 0 ≤ v ∧ v < cv) ∧ vs.Nodup
instance (cv : Int) (vs : List Int) : Decidable (okVars cv vs) := by unfold okVars; infer_instance
theorem okVars_bad {cv : Int} {vs : List Int} {k : Nat} (hk : k < vs.length) (h : vs[k] < 0 ∨ cv ≤ vs[k] ∨ vs[k] ∈ vs.take k) : ¬ okVars cv vs := by
  rintro ⟨h1, h2⟩
  have := h1 _ (List.getElem_mem hk)
  rcases h with h | h | h
  · omega
  · omega
  · obtain ⟨i, hi, he⟩ := List.mem_iff_getElem.1 h
    rw [List.length_take] at hi
    rw [List.getElem_take] at he
    rw [List.nodup_iff_pairwise_ne, List.pairwise_iff_getElem] at h2
    exact h2 i k (by omega) hk (by omega) he
theorem okVars_good {cv : Int} {vs : List Int} (h : ∀ k (hk : k < vs.length), 0 ≤ vs[k] ∧ vs[k] < cv ∧ vs[k] ∉ vs.take k) : okVars cv vs := by
  refine ⟨fun v hv => ?_, ?_⟩
  · obtain ⟨i, hi, rfl⟩ := List.mem_iff_getElem.1 hv
    exact ⟨(h i hi).1, (h i hi).2.1⟩
  · rw [List.nodup_iff_pairwise_ne, List.pairwise_iff_getElem]
    intro i j hi hj hij he
    refine (h j hj).2.2 (List.mem_iff_getElem.2 ⟨i, by rw [List.length_take]; omega, ?_⟩)
    rw [List.getElem_take]; exact he

theorem vars_ok (l : Lk) (vs : List Int) (n : Int) : Fn Try.prog 46 [encL l, .lst (vs.map .int), .int n] (.bool (decide (vs.length = n ∧ okVars l.c.vars vs))) := by
  refine Fn.intro' [(0, encL l), (1, .lst (vs.map .int)), (2, .int n)] 3 37 Try.func46 (by kernel_rfl) rfl rfl rfl rfl rfl ?_
  refine AWp.learn 1 rfl fun hlen => ?_
  rw [List.length_map] at hlen
  repeat (first
    | with_reducible refine AWp.seq ?_
    | ((with_reducible apply AWp.regionL); (refine ⟨rfl, rfl, ?_⟩; simp (decide := true) only [Nat.reduceAdd, List.map, go_sem]; rfl))
    | with_reducible refine ARun.nil ?_
    | with_reducible refine thenQ_n ?_
    | with_reducible refine thenQ_r ?_
    | with_reducible refine thenQ_e ?_
    | with_reducible refine blkQ_n ?_
    | with_reducible refine blkQ_r ?_
    | with_reducible refine blkQ_e ?_
    | with_reducible refine blkQ_o rfl ?_
    | with_reducible refine AWp.block ?_
    | with_reducible refine AWp.skip ?_
    | with_reducible refine AWp.ret ?_
    | with_reducible refine AWp.exit ?_
    | with_reducible refine retQ_n ?_
    | with_reducible refine retQ_r ?_
    | ((with_reducible apply ARun.go); (simp (decide := true) only [Nat.reduceAdd, go_sem]; rfl); (simp (decide := true) only [Nat.reduceAdd, go_sem]; (repeat simp (decide := true) only [Nat.reduceAdd, go_sem]); rfl))
    | (refine ARun.p1 rfl rfl (pl_box (by simp (decide := true) only [Nat.reduceAdd, go_sem]; rfl) rfl) ?_)
    | (refine ARun.p1 rfl rfl (pl_alloc (by simp only [Nat.reduceAdd, go_sem]; rfl) rfl) ?_)
    | (refine ARun.p1 rfl rfl (pl_store (by simp (decide := true) only [Nat.reduceAdd, go_sem]; rfl) (by simp (decide := true) only [Nat.reduceAdd, go_sem]; rfl) (by simp (decide := true) only [Nat.reduceAdd, go_sem]; rfl) (by rfl) (by rfl) (by kernel_rfl) (by rfl) (by rfl)) ?_)
    | fail)
  refine AWp.cond (b := _) rfl (fun hc => ?_) (fun hc => ?_)
  · repeat (first
      | with_reducible refine AWp.seq ?_
      | ((with_reducible apply AWp.regionL); (refine ⟨rfl, rfl, ?_⟩; simp (decide := true) only [Nat.reduceAdd, List.map, go_sem]; rfl))
      | with_reducible refine ARun.nil ?_
      | with_reducible refine thenQ_n ?_
      | with_reducible refine thenQ_r ?_
      | with_reducible refine thenQ_e ?_
      | with_reducible refine blkQ_n ?_
      | with_reducible refine blkQ_r ?_
      | with_reducible refine blkQ_e ?_
      | with_reducible refine blkQ_o rfl ?_
      | with_reducible refine AWp.block ?_
      | with_reducible refine AWp.skip ?_
      | with_reducible refine AWp.ret ?_
      | with_reducible refine AWp.exit ?_
      | with_reducible refine retQ_n ?_
      | with_reducible refine retQ_r ?_
      | ((with_reducible apply ARun.go); (simp (decide := true) only [Nat.reduceAdd, go_sem]; rfl); (simp (decide := true) only [Nat.reduceAdd, go_sem]; (repeat simp (decide := true) only [Nat.reduceAdd, go_sem]); rfl))
      | (refine ARun.p1 rfl rfl (pl_box (by simp (decide := true) only [Nat.reduceAdd, go_sem]; rfl) rfl) ?_)
      | (refine ARun.p1 rfl rfl (pl_alloc (by simp only [Nat.reduceAdd, go_sem]; rfl) rfl) ?_)
      | (refine ARun.p1 rfl rfl (pl_store (by simp (decide := true) only [Nat.reduceAdd, go_sem]; rfl) (by simp (decide := true) only [Nat.reduceAdd, go_sem]; rfl) (by simp (decide := true) only [Nat.reduceAdd, go_sem]; rfl) (by rfl) (by rfl) (by kernel_rfl) (by rfl) (by rfl)) ?_)
      | fail)
    exact Ret.data rfl (by simp at hc; simp [hc, packA, lk]) (.base _)
  simp at hc
  repeat (first
    | with_reducible refine AWp.seq ?_
    | ((with_reducible apply AWp.regionL); (refine ⟨rfl, rfl, ?_⟩; simp (decide := true) only [Nat.reduceAdd, List.map, go_sem]; rfl))
    | with_reducible refine ARun.nil ?_
    | with_reducible refine thenQ_n ?_
    | with_reducible refine thenQ_r ?_
    | with_reducible refine thenQ_e ?_
    | with_reducible refine blkQ_n ?_
    | with_reducible refine blkQ_r ?_
    | with_reducible refine blkQ_e ?_
    | with_reducible refine blkQ_o rfl ?_
    | with_reducible refine AWp.block ?_
    | with_reducible refine AWp.skip ?_
    | with_reducible refine AWp.ret ?_
    | with_reducible refine AWp.exit ?_
    | with_reducible refine retQ_n ?_
    | with_reducible refine retQ_r ?_
    | ((with_reducible apply ARun.go); (simp (decide := true) only [Nat.reduceAdd, go_sem]; rfl); (simp (decide := true) only [Nat.reduceAdd, go_sem]; (repeat simp (decide := true) only [Nat.reduceAdd, go_sem]); rfl))
    | (refine ARun.p1 rfl rfl (pl_box (by simp (decide := true) only [Nat.reduceAdd, go_sem]; rfl) rfl) ?_)
    | (refine ARun.p1 rfl rfl (pl_alloc (by simp only [Nat.reduceAdd, go_sem]; rfl) rfl) ?_)
    | (refine ARun.p1 rfl rfl (pl_store (by simp (decide := true) only [Nat.reduceAdd, go_sem]; rfl) (by simp (decide := true) only [Nat.reduceAdd, go_sem]; rfl) (by simp (decide := true) only [Nat.reduceAdd, go_sem]; rfl) (by rfl) (by rfl) (by kernel_rfl) (by rfl) (by rfl)) ?_)
    | fail)
  refine AWp.loop (J := fun k : Nat => k ≤ vs.length ∧ ∀ i (h : i < k) (h' : i < vs.length), 0 ≤ vs[i] ∧ vs[i] < l.c.vars ∧ vs[i] ∉ vs.take i)
    (I := fun k => ⟨[(15, .int k), (14, .int vs.length), (13, .lst (vs.map .int)), (1, .lst (vs.map .int)), (3, .ptr 0 1 0 0)], [⟨54, 8, [encL l]⟩]⟩) (μ := fun k => vs.length - k) 0 ⟨Nat.zero_le _, by omega⟩ (.env' (by simp (decide := true) only [Nat.reduceAdd, go_sem])) ?_
  rintro k ⟨hk, hno⟩
  repeat (first
    | with_reducible refine AWp.seq ?_
    | ((with_reducible apply AWp.regionL); (refine ⟨rfl, rfl, ?_⟩; simp (decide := true) only [Nat.reduceAdd, List.map, go_sem]; rfl))
    | with_reducible refine ARun.nil ?_
    | with_reducible refine thenQ_n ?_
    | with_reducible refine thenQ_r ?_
    | with_reducible refine thenQ_e ?_
    | with_reducible refine blkQ_n ?_
    | with_reducible refine blkQ_r ?_
    | with_reducible refine blkQ_e ?_
    | with_reducible refine blkQ_o rfl ?_
    | with_reducible refine AWp.block ?_
    | with_reducible refine AWp.skip ?_
    | with_reducible refine AWp.ret ?_
    | with_reducible refine AWp.exit ?_
    | with_reducible refine retQ_n ?_
    | with_reducible refine retQ_r ?_
    | ((with_reducible apply ARun.go); (simp (decide := true) only [Nat.reduceAdd, go_sem]; rfl); (simp (decide := true) only [Nat.reduceAdd, go_sem]; (repeat simp (decide := true) only [Nat.reduceAdd, go_sem]); rfl))
    | (refine ARun.p1 rfl rfl (pl_box (by simp (decide := true) only [Nat.reduceAdd, go_sem]; rfl) rfl) ?_)
    | (refine ARun.p1 rfl rfl (pl_alloc (by simp only [Nat.reduceAdd, go_sem]; rfl) rfl) ?_)
    | (refine ARun.p1 rfl rfl (pl_store (by simp (decide := true) only [Nat.reduceAdd, go_sem]; rfl) (by simp (decide := true) only [Nat.reduceAdd, go_sem]; rfl) (by simp (decide := true) only [Nat.reduceAdd, go_sem]; rfl) (by rfl) (by rfl) (by kernel_rfl) (by rfl) (by rfl)) ?_)
    | fail)
  refine AWp.cond (b := _) rfl (fun hd => ?_) (fun hd => ?_)
  · simp at hd
    repeat (first
      | with_reducible refine AWp.seq ?_
      | ((with_reducible apply AWp.regionL); (refine ⟨rfl, rfl, ?_⟩; simp (decide := true) only [Nat.reduceAdd, List.map, go_sem]; rfl))
      | with_reducible refine ARun.nil ?_
      | with_reducible refine thenQ_n ?_
      | with_reducible refine thenQ_r ?_
      | with_reducible refine thenQ_e ?_
      | with_reducible refine blkQ_n ?_
      | with_reducible refine blkQ_r ?_
      | with_reducible refine blkQ_e ?_
      | with_reducible refine blkQ_o rfl ?_
      | with_reducible refine AWp.block ?_
      | with_reducible refine AWp.skip ?_
      | with_reducible refine AWp.ret ?_
      | with_reducible refine AWp.exit ?_
      | with_reducible refine retQ_n ?_
      | with_reducible refine retQ_r ?_
      | ((with_reducible apply ARun.go); (simp (decide := true) only [Nat.reduceAdd, go_sem]; rfl); (simp (decide := true) only [Nat.reduceAdd, go_sem]; (repeat simp (decide := true) only [Nat.reduceAdd, go_sem]); rfl))
      | (refine ARun.p1 rfl rfl (pl_box (by simp (decide := true) only [Nat.reduceAdd, go_sem]; rfl) rfl) ?_)
      | (refine ARun.p1 rfl rfl (pl_alloc (by simp only [Nat.reduceAdd, go_sem]; rfl) rfl) ?_)
      | (refine ARun.p1 rfl rfl (pl_store (by simp (decide := true) only [Nat.reduceAdd, go_sem]; rfl) (by simp (decide := true) only [Nat.reduceAdd, go_sem]; rfl) (by simp (decide := true) only [Nat.reduceAdd, go_sem]; rfl) (by rfl) (by rfl) (by kernel_rfl) (by rfl) (by rfl)) ?_)
      | fail)
    refine ARun.q1 rfl rfl (ql_idx rfl rfl Try.underlying32 (by omega) (by omega) (by kernel_rfl)) ?_
    repeat (first
      | with_reducible refine AWp.seq ?_
      | ((with_reducible apply AWp.regionL); (refine ⟨rfl, rfl, ?_⟩; simp (decide := true) only [Nat.reduceAdd, List.map, go_sem]; rfl))
      | with_reducible refine ARun.nil ?_
      | with_reducible refine thenQ_n ?_
      | with_reducible refine thenQ_r ?_
      | with_reducible refine thenQ_e ?_
      | with_reducible refine blkQ_n ?_
      | with_reducible refine blkQ_r ?_
      | with_reducible refine blkQ_e ?_
      | with_reducible refine blkQ_o rfl ?_
      | with_reducible refine AWp.block ?_
      | with_reducible refine AWp.skip ?_
      | with_reducible refine AWp.ret ?_
      | with_reducible refine AWp.exit ?_
      | with_reducible refine retQ_n ?_
      | with_reducible refine retQ_r ?_
      | ((with_reducible apply ARun.go); (simp (decide := true) only [Nat.reduceAdd, go_sem]; rfl); (simp (decide := true) only [Nat.reduceAdd, go_sem]; (repeat simp (decide := true) only [Nat.reduceAdd, go_sem]); rfl))
      | (refine ARun.p1 rfl rfl (pl_box (by simp (decide := true) only [Nat.reduceAdd, go_sem]; rfl) rfl) ?_)
      | (refine ARun.p1 rfl rfl (pl_alloc (by simp only [Nat.reduceAdd, go_sem]; rfl) rfl) ?_)
      | (refine ARun.p1 rfl rfl (pl_store (by simp (decide := true) only [Nat.reduceAdd, go_sem]; rfl) (by simp (decide := true) only [Nat.reduceAdd, go_sem]; rfl) (by simp (decide := true) only [Nat.reduceAdd, go_sem]; rfl) (by rfl) (by rfl) (by kernel_rfl) (by rfl) (by rfl)) ?_)
      | fail)

    refine ARun.gl rfl rfl (by simp (decide := true) only [Nat.reduceAdd, go_sem] <;> rfl) (fun hg => ql_slice_pre (l := vs) (f := .int) (by simp (decide := true) only [Nat.reduceAdd, go_sem] <;> rfl) (by simp (decide := true) only [Nat.reduceAdd, go_sem] <;> rfl) Try.underlying32 (by omega) (by omega) (by kernel_rfl) (fun _ => rfl)) ?_
    repeat (first
      | with_reducible refine AWp.seq ?_
      | ((with_reducible apply AWp.regionL); (refine ⟨rfl, rfl, ?_⟩; simp (decide := true) only [Nat.reduceAdd, List.map, go_sem]; rfl))
      | with_reducible refine ARun.nil ?_
      | with_reducible refine thenQ_n ?_
      | with_reducible refine thenQ_r ?_
      | with_reducible refine thenQ_e ?_
      | with_reducible refine blkQ_n ?_
      | with_reducible refine blkQ_r ?_
      | with_reducible refine blkQ_e ?_
      | with_reducible refine blkQ_o rfl ?_
      | with_reducible refine AWp.block ?_
      | with_reducible refine AWp.skip ?_
      | with_reducible refine AWp.ret ?_
      | with_reducible refine AWp.exit ?_
      | with_reducible refine retQ_n ?_
      | with_reducible refine retQ_r ?_
      | ((with_reducible apply ARun.go); (simp (decide := true) only [Nat.reduceAdd, go_sem]; rfl); (simp (decide := true) only [Nat.reduceAdd, go_sem]; (repeat simp (decide := true) only [Nat.reduceAdd, go_sem]); rfl))
      | (refine ARun.p1 rfl rfl (pl_box (by simp (decide := true) only [Nat.reduceAdd, go_sem]; rfl) rfl) ?_)
      | (refine ARun.p1 rfl rfl (pl_alloc (by simp only [Nat.reduceAdd, go_sem]; rfl) rfl) ?_)
      | (refine ARun.p1 rfl rfl (pl_store (by simp (decide := true) only [Nat.reduceAdd, go_sem]; rfl) (by simp (decide := true) only [Nat.reduceAdd, go_sem]; rfl) (by simp (decide := true) only [Nat.reduceAdd, go_sem]; rfl) (by rfl) (by rfl) (by kernel_rfl) (by rfl) (by rfl)) ?_)
      | fail)
    refine ARun.gl rfl rfl (by simp (decide := true) only [Nat.reduceAdd, go_sem] <;> rfl) (fun hg => ql_callC (contains_ok (vs.take k) vs[k]) rfl (by simp (decide := true) only [Nat.reduceAdd, go_sem] <;> rfl) (by simp (decide := true) only [Nat.reduceAdd, go_sem, List.map]) (by simp [-List.map_take, -List.map_drop])) ?_
    repeat (first
      | with_reducible refine AWp.seq ?_
      | ((with_reducible apply AWp.regionL); (refine ⟨rfl, rfl, ?_⟩; simp (decide := true) only [Nat.reduceAdd, List.map, go_sem]; rfl))
      | with_reducible refine ARun.nil ?_
      | with_reducible refine thenQ_n ?_
      | with_reducible refine thenQ_r ?_
      | with_reducible refine thenQ_e ?_
      | with_reducible refine blkQ_n ?_
      | with_reducible refine blkQ_r ?_
      | with_reducible refine blkQ_e ?_
      | with_reducible refine blkQ_o rfl ?_
      | with_reducible refine AWp.block ?_
      | with_reducible refine AWp.skip ?_
      | with_reducible refine AWp.ret ?_
      | with_reducible refine AWp.exit ?_
      | with_reducible refine retQ_n ?_
      | with_reducible refine retQ_r ?_
      | ((with_reducible apply ARun.go); (simp (decide := true) only [Nat.reduceAdd, go_sem]; rfl); (simp (decide := true) only [Nat.reduceAdd, go_sem]; (repeat simp (decide := true) only [Nat.reduceAdd, go_sem]); rfl))
      | (refine ARun.p1 rfl rfl (pl_box (by simp (decide := true) only [Nat.reduceAdd, go_sem]; rfl) rfl) ?_)
      | (refine ARun.p1 rfl rfl (pl_alloc (by simp only [Nat.reduceAdd, go_sem]; rfl) rfl) ?_)
      | (refine ARun.p1 rfl rfl (pl_store (by simp (decide := true) only [Nat.reduceAdd, go_sem]; rfl) (by simp (decide := true) only [Nat.reduceAdd, go_sem]; rfl) (by simp (decide := true) only [Nat.reduceAdd, go_sem]; rfl) (by rfl) (by rfl) (by kernel_rfl) (by rfl) (by rfl)) ?_)
      | fail)
    refine AWp.cond (b := _) rfl (fun he => ?_) (fun he => ?_)
    · simp at he
      repeat (first
        | with_reducible refine AWp.seq ?_
        | ((with_reducible apply AWp.regionL); (refine ⟨rfl, rfl, ?_⟩; simp (decide := true) only [Nat.reduceAdd, List.map, go_sem]; rfl))
        | with_reducible refine ARun.nil ?_
        | with_reducible refine thenQ_n ?_
        | with_reducible refine thenQ_r ?_
        | with_reducible refine thenQ_e ?_
        | with_reducible refine blkQ_n ?_
        | with_reducible refine blkQ_r ?_
        | with_reducible refine blkQ_e ?_
        | with_reducible refine blkQ_o rfl ?_
        | with_reducible refine AWp.block ?_
        | with_reducible refine AWp.skip ?_
        | with_reducible refine AWp.ret ?_
        | with_reducible refine AWp.exit ?_
        | with_reducible refine retQ_n ?_
        | with_reducible refine retQ_r ?_
        | ((with_reducible apply ARun.go); (simp (decide := true) only [Nat.reduceAdd, go_sem]; rfl); (simp (decide := true) only [Nat.reduceAdd, go_sem]; (repeat simp (decide := true) only [Nat.reduceAdd, go_sem]); rfl))
        | (refine ARun.p1 rfl rfl (pl_box (by simp (decide := true) only [Nat.reduceAdd, go_sem]; rfl) rfl) ?_)
        | (refine ARun.p1 rfl rfl (pl_alloc (by simp only [Nat.reduceAdd, go_sem]; rfl) rfl) ?_)
        | (refine ARun.p1 rfl rfl (pl_store (by simp (decide := true) only [Nat.reduceAdd, go_sem]; rfl) (by simp (decide := true) only [Nat.reduceAdd, go_sem]; rfl) (by simp (decide := true) only [Nat.reduceAdd, go_sem]; rfl) (by rfl) (by rfl) (by kernel_rfl) (by rfl) (by rfl)) ?_)
        | fail)
      have := okVars_bad hd (or_assoc.1 he)
      exact Ret.data rfl (by simp [packA, lk, this]) (.base _)
    · simp at he
      repeat (first
        | with_reducible refine AWp.seq ?_
        | ((with_reducible apply AWp.regionL); (refine ⟨rfl, rfl, ?_⟩; simp (decide := true) only [Nat.reduceAdd, List.map, go_sem]; rfl))
        | with_reducible refine ARun.nil ?_
        | with_reducible refine thenQ_n ?_
        | with_reducible refine thenQ_r ?_
        | with_reducible refine thenQ_e ?_
        | with_reducible refine blkQ_n ?_
        | with_reducible refine blkQ_r ?_
        | with_reducible refine blkQ_e ?_
        | with_reducible refine blkQ_o rfl ?_
        | with_reducible refine AWp.block ?_
        | with_reducible refine AWp.skip ?_
        | with_reducible refine AWp.ret ?_
        | with_reducible refine AWp.exit ?_
        | with_reducible refine retQ_n ?_
        | with_reducible refine retQ_r ?_
        | ((with_reducible apply ARun.go); (simp (decide := true) only [Nat.reduceAdd, go_sem]; rfl); (simp (decide := true) only [Nat.reduceAdd, go_sem]; (repeat simp (decide := true) only [Nat.reduceAdd, go_sem]); rfl))
        | (refine ARun.p1 rfl rfl (pl_box (by simp (decide := true) only [Nat.reduceAdd, go_sem]; rfl) rfl) ?_)
        | (refine ARun.p1 rfl rfl (pl_alloc (by simp only [Nat.reduceAdd, go_sem]; rfl) rfl) ?_)
        | (refine ARun.p1 rfl rfl (pl_store (by simp (decide := true) only [Nat.reduceAdd, go_sem]; rfl) (by simp (decide := true) only [Nat.reduceAdd, go_sem]; rfl) (by simp (decide := true) only [Nat.reduceAdd, go_sem]; rfl) (by rfl) (by rfl) (by kernel_rfl) (by rfl) (by rfl)) ?_)
        | fail)
      rw [wrap_succ (by omega)]
      refine ⟨k + 1, ⟨by omega, fun i h h' => ?_⟩, by omega, (.env' (by simp (decide := true) only [Nat.reduceAdd, go_sem]))⟩
      by_cases e : i = k
      · subst e; exact ⟨by omega, by omega, he.2⟩
      · exact hno i (by omega) h'
  · simp at hd
    repeat (first
      | with_reducible refine AWp.seq ?_
      | ((with_reducible apply AWp.regionL); (refine ⟨rfl, rfl, ?_⟩; simp (decide := true) only [Nat.reduceAdd, List.map, go_sem]; rfl))
      | with_reducible refine ARun.nil ?_
      | with_reducible refine thenQ_n ?_
      | with_reducible refine thenQ_r ?_
      | with_reducible refine thenQ_e ?_
      | with_reducible refine blkQ_n ?_
      | with_reducible refine blkQ_r ?_
      | with_reducible refine blkQ_e ?_
      | with_reducible refine blkQ_o rfl ?_
      | with_reducible refine AWp.block ?_
      | with_reducible refine AWp.skip ?_
      | with_reducible refine AWp.ret ?_
      | with_reducible refine AWp.exit ?_
      | with_reducible refine retQ_n ?_
      | with_reducible refine retQ_r ?_
      | ((with_reducible apply ARun.go); (simp (decide := true) only [Nat.reduceAdd, go_sem]; rfl); (simp (decide := true) only [Nat.reduceAdd, go_sem]; (repeat simp (decide := true) only [Nat.reduceAdd, go_sem]); rfl))
      | (refine ARun.p1 rfl rfl (pl_box (by simp (decide := true) only [Nat.reduceAdd, go_sem]; rfl) rfl) ?_)
      | (refine ARun.p1 rfl rfl (pl_alloc (by simp only [Nat.reduceAdd, go_sem]; rfl) rfl) ?_)
      | (refine ARun.p1 rfl rfl (pl_store (by simp (decide := true) only [Nat.reduceAdd, go_sem]; rfl) (by simp (decide := true) only [Nat.reduceAdd, go_sem]; rfl) (by simp (decide := true) only [Nat.reduceAdd, go_sem]; rfl) (by rfl) (by rfl) (by kernel_rfl) (by rfl) (by rfl)) ?_)
      | fail)
    exact Ret.data rfl (by simp [packA, lk, hc]; exact okVars_good fun i hi => hno i (by omega) hi) (.base _)
end Go.Ab
