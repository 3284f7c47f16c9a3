import Derived.Test.YthjeoagadjdilaaW38
import Derived.Test.YthjeoagadjdilaaW12
namespace Go.Ab
open Go Go.Ab Go.Proofs Go.Ab.Ty
set_option linter.unusedSimpArgs false
set_option linter.unusedVariables false

def okWhole (p : Tk) (c : Cd) (own : Int) (method : Bool) : Prop := (0 ≤ c.params ∧ c.params ≤ 4 ∧ (if method then c.params + 1 else c.params) ≤ c.vars ∧ c.vars ≤ 8 ∧ c.steps.length ≤ 20) ∧
  ∀ i : Nat, i < c.steps.length → okFits p c i own method (stp c.steps i)

open Classical in
theorem whole_ok (p : Tk) (c : Cd) (own : Int) (method : Bool) (b : Bool) (hb : b = true ↔ okWhole p c own method) : Fn Try.prog 28 [encT p, encC c, .int own, .bool method] (.bool b) := by
  refine Fn.intro' [(0, encT p), (1, encC c), (2, .int own), (3, .bool method)] 4 55 Try.func28 (by kernel_rfl) rfl rfl rfl rfl rfl ?_
  repeat (first
    | with_reducible refine AWp.seq ?_
    | ((with_reducible apply AWp.regionL); (refine ⟨rfl, rfl, ?_⟩; simp (decide := true) only [Nat.reduceAdd, List.map, go_sem]; rfl))
    | with_reducible refine ARun.nil ?_
    | with_reducible refine thenQ_n ?_
    | with_reducible refine thenQ_r ?_
    | with_reducible refine thenQ_e ?_
    | with_reducible refine blkQ_n ?_
    | with_reducible refine blkQ_r ?_
    | with_reducible refine blkQ_e ?_
    | with_reducible refine blkQ_o rfl ?_
    | with_reducible refine AWp.block ?_
    | with_reducible refine AWp.skip ?_
    | with_reducible refine AWp.ret ?_
    | with_reducible refine AWp.exit ?_
    | with_reducible refine retQ_n ?_
    | with_reducible refine retQ_r ?_
    | ((with_reducible apply ARun.go); (simp (decide := true) only [Nat.reduceAdd, go_sem]; rfl); (simp (decide := true) only [Nat.reduceAdd, go_sem]; (repeat simp (decide := true) only [Nat.reduceAdd, go_sem]); rfl))
    | (refine ARun.p1 rfl rfl (pl_box (by simp (decide := true) only [Nat.reduceAdd, go_sem]; rfl) rfl) ?_)
    | (refine ARun.p1 rfl rfl (pl_alloc (by simp only [Nat.reduceAdd, go_sem]; rfl) rfl) ?_)
    | (refine ARun.p1 rfl rfl (pl_store (by simp (decide := true) only [Nat.reduceAdd, go_sem]; rfl) (by simp (decide := true) only [Nat.reduceAdd, go_sem]; rfl) (by simp (decide := true) only [Nat.reduceAdd, go_sem]; rfl) (by rfl) (by rfl) (by kernel_rfl) (by rfl) (by rfl)) ?_)
    | fail)
  refine AWp.join ⟨[(9, .int (if method then IntKind.i64.wrap (c.params + 1) else c.params)), (2, .int own), (3, .bool method), (4, .ptr 0 1 0 0), (5, .ptr 1 1 0 0)], [⟨24, 3, [encT p]⟩, ⟨31, 3, [encC c]⟩]⟩ ?_ ?_
  · refine AWp.cond (b := _) rfl (fun hm => ?_) (fun hm => ?_)
    · repeat (first
        | with_reducible refine AWp.seq ?_
        | ((with_reducible apply AWp.regionL); (refine ⟨rfl, rfl, ?_⟩; simp (decide := true) only [Nat.reduceAdd, List.map, go_sem]; rfl))
        | with_reducible refine ARun.nil ?_
        | with_reducible refine thenQ_n ?_
        | with_reducible refine thenQ_r ?_
        | with_reducible refine thenQ_e ?_
        | with_reducible refine blkQ_n ?_
        | with_reducible refine blkQ_r ?_
        | with_reducible refine blkQ_e ?_
        | with_reducible refine blkQ_o rfl ?_
        | with_reducible refine AWp.block ?_
        | with_reducible refine AWp.skip ?_
        | with_reducible refine AWp.ret ?_
        | with_reducible refine AWp.exit ?_
        | with_reducible refine retQ_n ?_
        | with_reducible refine retQ_r ?_
        | ((with_reducible apply ARun.go); (simp (decide := true) only [Nat.reduceAdd, go_sem]; rfl); (simp (decide := true) only [Nat.reduceAdd, go_sem]; (repeat simp (decide := true) only [Nat.reduceAdd, go_sem]); rfl))
        | (refine ARun.p1 rfl rfl (pl_box (by simp (decide := true) only [Nat.reduceAdd, go_sem]; rfl) rfl) ?_)
        | (refine ARun.p1 rfl rfl (pl_alloc (by simp only [Nat.reduceAdd, go_sem]; rfl) rfl) ?_)
        | (refine ARun.p1 rfl rfl (pl_store (by simp (decide := true) only [Nat.reduceAdd, go_sem]; rfl) (by simp (decide := true) only [Nat.reduceAdd, go_sem]; rfl) (by simp (decide := true) only [Nat.reduceAdd, go_sem]; rfl) (by rfl) (by rfl) (by kernel_rfl) (by rfl) (by rfl)) ?_)
        | fail)
      exact .env' (by simp (decide := true) only [go_sem, hm, if_true] <;> simp [Le.refl])
    · repeat (first
        | with_reducible refine AWp.seq ?_
        | ((with_reducible apply AWp.regionL); (refine ⟨rfl, rfl, ?_⟩; simp (decide := true) only [Nat.reduceAdd, List.map, go_sem]; rfl))
        | with_reducible refine ARun.nil ?_
        | with_reducible refine thenQ_n ?_
        | with_reducible refine thenQ_r ?_
        | with_reducible refine thenQ_e ?_
        | with_reducible refine blkQ_n ?_
        | with_reducible refine blkQ_r ?_
        | with_reducible refine blkQ_e ?_
        | with_reducible refine blkQ_o rfl ?_
        | with_reducible refine AWp.block ?_
        | with_reducible refine AWp.skip ?_
        | with_reducible refine AWp.ret ?_
        | with_reducible refine AWp.exit ?_
        | with_reducible refine retQ_n ?_
        | with_reducible refine retQ_r ?_
        | ((with_reducible apply ARun.go); (simp (decide := true) only [Nat.reduceAdd, go_sem]; rfl); (simp (decide := true) only [Nat.reduceAdd, go_sem]; (repeat simp (decide := true) only [Nat.reduceAdd, go_sem]); rfl))
        | (refine ARun.p1 rfl rfl (pl_box (by simp (decide := true) only [Nat.reduceAdd, go_sem]; rfl) rfl) ?_)
        | (refine ARun.p1 rfl rfl (pl_alloc (by simp only [Nat.reduceAdd, go_sem]; rfl) rfl) ?_)
        | (refine ARun.p1 rfl rfl (pl_store (by simp (decide := true) only [Nat.reduceAdd, go_sem]; rfl) (by simp (decide := true) only [Nat.reduceAdd, go_sem]; rfl) (by simp (decide := true) only [Nat.reduceAdd, go_sem]; rfl) (by rfl) (by rfl) (by kernel_rfl) (by rfl) (by rfl)) ?_)
        | fail)
      exact .env' (by simp (decide := true) only [go_sem, hm] <;> simp [Le.refl])
  repeat (first
    | with_reducible refine AWp.seq ?_
    | ((with_reducible apply AWp.regionL); (refine ⟨rfl, rfl, ?_⟩; simp (decide := true) only [Nat.reduceAdd, List.map, go_sem]; rfl))
    | with_reducible refine ARun.nil ?_
    | with_reducible refine thenQ_n ?_
    | with_reducible refine thenQ_r ?_
    | with_reducible refine thenQ_e ?_
    | with_reducible refine blkQ_n ?_
    | with_reducible refine blkQ_r ?_
    | with_reducible refine blkQ_e ?_
    | with_reducible refine blkQ_o rfl ?_
    | with_reducible refine AWp.block ?_
    | with_reducible refine AWp.skip ?_
    | with_reducible refine AWp.ret ?_
    | with_reducible refine AWp.exit ?_
    | with_reducible refine retQ_n ?_
    | with_reducible refine retQ_r ?_
    | ((with_reducible apply ARun.go); (simp (decide := true) only [Nat.reduceAdd, go_sem]; rfl); (simp (decide := true) only [Nat.reduceAdd, go_sem]; (repeat simp (decide := true) only [Nat.reduceAdd, go_sem]); rfl))
    | (refine ARun.p1 rfl rfl (pl_box (by simp (decide := true) only [Nat.reduceAdd, go_sem]; rfl) rfl) ?_)
    | (refine ARun.p1 rfl rfl (pl_alloc (by simp only [Nat.reduceAdd, go_sem]; rfl) rfl) ?_)
    | (refine ARun.p1 rfl rfl (pl_store (by simp (decide := true) only [Nat.reduceAdd, go_sem]; rfl) (by simp (decide := true) only [Nat.reduceAdd, go_sem]; rfl) (by simp (decide := true) only [Nat.reduceAdd, go_sem]; rfl) (by rfl) (by rfl) (by kernel_rfl) (by rfl) (by rfl)) ?_)
    | fail)
  refine AWp.cond (b := _) rfl (fun hc => ?_) (fun hc => ?_)
  · simp at hc
    repeat (first
      | with_reducible refine AWp.seq ?_
      | ((with_reducible apply AWp.regionL); (refine ⟨rfl, rfl, ?_⟩; simp (decide := true) only [Nat.reduceAdd, List.map, go_sem]; rfl))
      | with_reducible refine ARun.nil ?_
      | with_reducible refine thenQ_n ?_
      | with_reducible refine thenQ_r ?_
      | with_reducible refine thenQ_e ?_
      | with_reducible refine blkQ_n ?_
      | with_reducible refine blkQ_r ?_
      | with_reducible refine blkQ_e ?_
      | with_reducible refine blkQ_o rfl ?_
      | with_reducible refine AWp.block ?_
      | with_reducible refine AWp.skip ?_
      | with_reducible refine AWp.ret ?_
      | with_reducible refine AWp.exit ?_
      | with_reducible refine retQ_n ?_
      | with_reducible refine retQ_r ?_
      | ((with_reducible apply ARun.go); (simp (decide := true) only [Nat.reduceAdd, go_sem]; rfl); (simp (decide := true) only [Nat.reduceAdd, go_sem]; (repeat simp (decide := true) only [Nat.reduceAdd, go_sem]); rfl))
      | (refine ARun.p1 rfl rfl (pl_box (by simp (decide := true) only [Nat.reduceAdd, go_sem]; rfl) rfl) ?_)
      | (refine ARun.p1 rfl rfl (pl_alloc (by simp only [Nat.reduceAdd, go_sem]; rfl) rfl) ?_)
      | (refine ARun.p1 rfl rfl (pl_store (by simp (decide := true) only [Nat.reduceAdd, go_sem]; rfl) (by simp (decide := true) only [Nat.reduceAdd, go_sem]; rfl) (by simp (decide := true) only [Nat.reduceAdd, go_sem]; rfl) (by rfl) (by rfl) (by kernel_rfl) (by rfl) (by rfl)) ?_)
      | fail)
    refine Ret.bool rfl ?_
    rw [hb]
    simp only [Bool.false_eq_true, false_iff]
    rintro ⟨⟨e1, e2, e3, e4, e5⟩, -⟩
    rw [wrap_id (by omega) (by omega)] at hc
    omega
  simp at hc
  have hp : 0 ≤ c.params ∧ c.params ≤ 4 := by omega
  rw [wrap_id (by omega) (by omega)] at hc
  repeat (first
    | with_reducible refine AWp.seq ?_
    | ((with_reducible apply AWp.regionL); (refine ⟨rfl, rfl, ?_⟩; simp (decide := true) only [Nat.reduceAdd, List.map, go_sem]; rfl))
    | with_reducible refine ARun.nil ?_
    | with_reducible refine thenQ_n ?_
    | with_reducible refine thenQ_r ?_
    | with_reducible refine thenQ_e ?_
    | with_reducible refine blkQ_n ?_
    | with_reducible refine blkQ_r ?_
    | with_reducible refine blkQ_e ?_
    | with_reducible refine blkQ_o rfl ?_
    | with_reducible refine AWp.block ?_
    | with_reducible refine AWp.skip ?_
    | with_reducible refine AWp.ret ?_
    | with_reducible refine AWp.exit ?_
    | with_reducible refine retQ_n ?_
    | with_reducible refine retQ_r ?_
    | ((with_reducible apply ARun.go); (simp (decide := true) only [Nat.reduceAdd, go_sem]; rfl); (simp (decide := true) only [Nat.reduceAdd, go_sem]; (repeat simp (decide := true) only [Nat.reduceAdd, go_sem]); rfl))
    | (refine ARun.p1 rfl rfl (pl_box (by simp (decide := true) only [Nat.reduceAdd, go_sem]; rfl) rfl) ?_)
    | (refine ARun.p1 rfl rfl (pl_alloc (by simp only [Nat.reduceAdd, go_sem]; rfl) rfl) ?_)
    | (refine ARun.p1 rfl rfl (pl_store (by simp (decide := true) only [Nat.reduceAdd, go_sem]; rfl) (by simp (decide := true) only [Nat.reduceAdd, go_sem]; rfl) (by simp (decide := true) only [Nat.reduceAdd, go_sem]; rfl) (by rfl) (by rfl) (by kernel_rfl) (by rfl) (by rfl)) ?_)
    | fail)
  refine AWp.loop (J := fun k : Nat => k ≤ c.steps.length ∧ ∀ i : Nat, i < k → okFits p c i own method (stp c.steps i))
    (I := fun k => ⟨[(10, .int k), (2, .int own), (3, .bool method), (4, .ptr 0 1 0 0), (5, .ptr 1 1 0 0)], [⟨24, 3, [encT p]⟩, ⟨31, 3, [encC c]⟩]⟩) (μ := fun k => c.steps.length - k) 0 ⟨Nat.zero_le _, by omega⟩ (.env' (by simp (decide := true) only [Nat.reduceAdd, go_sem])) ?_
  rintro k ⟨hk, hno⟩
  repeat (first
    | with_reducible refine AWp.seq ?_
    | ((with_reducible apply AWp.regionL); (refine ⟨rfl, rfl, ?_⟩; simp (decide := true) only [Nat.reduceAdd, List.map, go_sem]; rfl))
    | with_reducible refine ARun.nil ?_
    | with_reducible refine thenQ_n ?_
    | with_reducible refine thenQ_r ?_
    | with_reducible refine thenQ_e ?_
    | with_reducible refine blkQ_n ?_
    | with_reducible refine blkQ_r ?_
    | with_reducible refine blkQ_e ?_
    | with_reducible refine blkQ_o rfl ?_
    | with_reducible refine AWp.block ?_
    | with_reducible refine AWp.skip ?_
    | with_reducible refine AWp.ret ?_
    | with_reducible refine AWp.exit ?_
    | with_reducible refine retQ_n ?_
    | with_reducible refine retQ_r ?_
    | ((with_reducible apply ARun.go); (simp (decide := true) only [Nat.reduceAdd, go_sem]; rfl); (simp (decide := true) only [Nat.reduceAdd, go_sem]; (repeat simp (decide := true) only [Nat.reduceAdd, go_sem]); rfl))
    | (refine ARun.p1 rfl rfl (pl_box (by simp (decide := true) only [Nat.reduceAdd, go_sem]; rfl) rfl) ?_)
    | (refine ARun.p1 rfl rfl (pl_alloc (by simp only [Nat.reduceAdd, go_sem]; rfl) rfl) ?_)
    | (refine ARun.p1 rfl rfl (pl_store (by simp (decide := true) only [Nat.reduceAdd, go_sem]; rfl) (by simp (decide := true) only [Nat.reduceAdd, go_sem]; rfl) (by simp (decide := true) only [Nat.reduceAdd, go_sem]; rfl) (by rfl) (by rfl) (by kernel_rfl) (by rfl) (by rfl)) ?_)
    | fail)
  refine AWp.cond (b := _) rfl (fun hd => ?_) (fun hd => ?_)
  · simp at hd
    repeat (first
      | with_reducible refine AWp.seq ?_
      | ((with_reducible apply AWp.regionL); (refine ⟨rfl, rfl, ?_⟩; simp (decide := true) only [Nat.reduceAdd, List.map, go_sem]; rfl))
      | with_reducible refine ARun.nil ?_
      | with_reducible refine thenQ_n ?_
      | with_reducible refine thenQ_r ?_
      | with_reducible refine thenQ_e ?_
      | with_reducible refine blkQ_n ?_
      | with_reducible refine blkQ_r ?_
      | with_reducible refine blkQ_e ?_
      | with_reducible refine blkQ_o rfl ?_
      | with_reducible refine AWp.block ?_
      | with_reducible refine AWp.skip ?_
      | with_reducible refine AWp.ret ?_
      | with_reducible refine AWp.exit ?_
      | with_reducible refine retQ_n ?_
      | with_reducible refine retQ_r ?_
      | ((with_reducible apply ARun.go); (simp (decide := true) only [Nat.reduceAdd, go_sem]; rfl); (simp (decide := true) only [Nat.reduceAdd, go_sem]; (repeat simp (decide := true) only [Nat.reduceAdd, go_sem]); rfl))
      | (refine ARun.p1 rfl rfl (pl_box (by simp (decide := true) only [Nat.reduceAdd, go_sem]; rfl) rfl) ?_)
      | (refine ARun.p1 rfl rfl (pl_alloc (by simp only [Nat.reduceAdd, go_sem]; rfl) rfl) ?_)
      | (refine ARun.p1 rfl rfl (pl_store (by simp (decide := true) only [Nat.reduceAdd, go_sem]; rfl) (by simp (decide := true) only [Nat.reduceAdd, go_sem]; rfl) (by simp (decide := true) only [Nat.reduceAdd, go_sem]; rfl) (by rfl) (by rfl) (by kernel_rfl) (by rfl) (by rfl)) ?_)
      | fail)
    refine ARun.q1 rfl rfl (ql_callC (fits_ok p c k own method (by omega) (by omega) (decide (okFits p c k own method (stp c.steps k))) (by simp)) rfl (by simp (decide := true) only [Nat.reduceAdd, go_sem] <;> rfl) (by simp (decide := true) only [Nat.reduceAdd, go_sem, List.map]) (by simp [-List.map_take, -List.map_drop])) ?_
    repeat (first
      | with_reducible refine AWp.seq ?_
      | ((with_reducible apply AWp.regionL); (refine ⟨rfl, rfl, ?_⟩; simp (decide := true) only [Nat.reduceAdd, List.map, go_sem]; rfl))
      | with_reducible refine ARun.nil ?_
      | with_reducible refine thenQ_n ?_
      | with_reducible refine thenQ_r ?_
      | with_reducible refine thenQ_e ?_
      | with_reducible refine blkQ_n ?_
      | with_reducible refine blkQ_r ?_
      | with_reducible refine blkQ_e ?_
      | with_reducible refine blkQ_o rfl ?_
      | with_reducible refine AWp.block ?_
      | with_reducible refine AWp.skip ?_
      | with_reducible refine AWp.ret ?_
      | with_reducible refine AWp.exit ?_
      | with_reducible refine retQ_n ?_
      | with_reducible refine retQ_r ?_
      | ((with_reducible apply ARun.go); (simp (decide := true) only [Nat.reduceAdd, go_sem]; rfl); (simp (decide := true) only [Nat.reduceAdd, go_sem]; (repeat simp (decide := true) only [Nat.reduceAdd, go_sem]); rfl))
      | (refine ARun.p1 rfl rfl (pl_box (by simp (decide := true) only [Nat.reduceAdd, go_sem]; rfl) rfl) ?_)
      | (refine ARun.p1 rfl rfl (pl_alloc (by simp only [Nat.reduceAdd, go_sem]; rfl) rfl) ?_)
      | (refine ARun.p1 rfl rfl (pl_store (by simp (decide := true) only [Nat.reduceAdd, go_sem]; rfl) (by simp (decide := true) only [Nat.reduceAdd, go_sem]; rfl) (by simp (decide := true) only [Nat.reduceAdd, go_sem]; rfl) (by rfl) (by rfl) (by kernel_rfl) (by rfl) (by rfl)) ?_)
      | fail)
    refine AWp.cond (b := _) rfl (fun he => ?_) (fun he => ?_)
    · simp at he
      repeat (first
        | with_reducible refine AWp.seq ?_
        | ((with_reducible apply AWp.regionL); (refine ⟨rfl, rfl, ?_⟩; simp (decide := true) only [Nat.reduceAdd, List.map, go_sem]; rfl))
        | with_reducible refine ARun.nil ?_
        | with_reducible refine thenQ_n ?_
        | with_reducible refine thenQ_r ?_
        | with_reducible refine thenQ_e ?_
        | with_reducible refine blkQ_n ?_
        | with_reducible refine blkQ_r ?_
        | with_reducible refine blkQ_e ?_
        | with_reducible refine blkQ_o rfl ?_
        | with_reducible refine AWp.block ?_
        | with_reducible refine AWp.skip ?_
        | with_reducible refine AWp.ret ?_
        | with_reducible refine AWp.exit ?_
        | with_reducible refine retQ_n ?_
        | with_reducible refine retQ_r ?_
        | ((with_reducible apply ARun.go); (simp (decide := true) only [Nat.reduceAdd, go_sem]; rfl); (simp (decide := true) only [Nat.reduceAdd, go_sem]; (repeat simp (decide := true) only [Nat.reduceAdd, go_sem]); rfl))
        | (refine ARun.p1 rfl rfl (pl_box (by simp (decide := true) only [Nat.reduceAdd, go_sem]; rfl) rfl) ?_)
        | (refine ARun.p1 rfl rfl (pl_alloc (by simp only [Nat.reduceAdd, go_sem]; rfl) rfl) ?_)
        | (refine ARun.p1 rfl rfl (pl_store (by simp (decide := true) only [Nat.reduceAdd, go_sem]; rfl) (by simp (decide := true) only [Nat.reduceAdd, go_sem]; rfl) (by simp (decide := true) only [Nat.reduceAdd, go_sem]; rfl) (by rfl) (by rfl) (by kernel_rfl) (by rfl) (by rfl)) ?_)
        | fail)
      refine Ret.bool rfl ?_
      rw [hb]
      simp only [Bool.false_eq_true, false_iff]
      exact fun h => he (h.2 k hd)
    · simp at he
      repeat (first
        | with_reducible refine AWp.seq ?_
        | ((with_reducible apply AWp.regionL); (refine ⟨rfl, rfl, ?_⟩; simp (decide := true) only [Nat.reduceAdd, List.map, go_sem]; rfl))
        | with_reducible refine ARun.nil ?_
        | with_reducible refine thenQ_n ?_
        | with_reducible refine thenQ_r ?_
        | with_reducible refine thenQ_e ?_
        | with_reducible refine blkQ_n ?_
        | with_reducible refine blkQ_r ?_
        | with_reducible refine blkQ_e ?_
        | with_reducible refine blkQ_o rfl ?_
        | with_reducible refine AWp.block ?_
        | with_reducible refine AWp.skip ?_
        | with_reducible refine AWp.ret ?_
        | with_reducible refine AWp.exit ?_
        | with_reducible refine retQ_n ?_
        | with_reducible refine retQ_r ?_
        | ((with_reducible apply ARun.go); (simp (decide := true) only [Nat.reduceAdd, go_sem]; rfl); (simp (decide := true) only [Nat.reduceAdd, go_sem]; (repeat simp (decide := true) only [Nat.reduceAdd, go_sem]); rfl))
        | (refine ARun.p1 rfl rfl (pl_box (by simp (decide := true) only [Nat.reduceAdd, go_sem]; rfl) rfl) ?_)
        | (refine ARun.p1 rfl rfl (pl_alloc (by simp only [Nat.reduceAdd, go_sem]; rfl) rfl) ?_)
        | (refine ARun.p1 rfl rfl (pl_store (by simp (decide := true) only [Nat.reduceAdd, go_sem]; rfl) (by simp (decide := true) only [Nat.reduceAdd, go_sem]; rfl) (by simp (decide := true) only [Nat.reduceAdd, go_sem]; rfl) (by rfl) (by rfl) (by kernel_rfl) (by rfl) (by rfl)) ?_)
        | fail)
      rw [wrap_succ (by omega)]
      refine ⟨k + 1, ⟨by omega, fun i h => ?_⟩, by omega, (.env' (by simp (decide := true) only [Nat.reduceAdd, go_sem]))⟩
      by_cases e : i = k
      · subst e; exact he
      · exact hno i (by omega)
  · simp at hd
    repeat (first
      | with_reducible refine AWp.seq ?_
      | ((with_reducible apply AWp.regionL); (refine ⟨rfl, rfl, ?_⟩; simp (decide := true) only [Nat.reduceAdd, List.map, go_sem]; rfl))
      | with_reducible refine ARun.nil ?_
      | with_reducible refine thenQ_n ?_
      | with_reducible refine thenQ_r ?_
      | with_reducible refine thenQ_e ?_
      | with_reducible refine blkQ_n ?_
      | with_reducible refine blkQ_r ?_
      | with_reducible refine blkQ_e ?_
      | with_reducible refine blkQ_o rfl ?_
      | with_reducible refine AWp.block ?_
      | with_reducible refine AWp.skip ?_
      | with_reducible refine AWp.ret ?_
      | with_reducible refine AWp.exit ?_
      | with_reducible refine retQ_n ?_
      | with_reducible refine retQ_r ?_
      | ((with_reducible apply ARun.go); (simp (decide := true) only [Nat.reduceAdd, go_sem]; rfl); (simp (decide := true) only [Nat.reduceAdd, go_sem]; (repeat simp (decide := true) only [Nat.reduceAdd, go_sem]); rfl))
      | (refine ARun.p1 rfl rfl (pl_box (by simp (decide := true) only [Nat.reduceAdd, go_sem]; rfl) rfl) ?_)
      | (refine ARun.p1 rfl rfl (pl_alloc (by simp only [Nat.reduceAdd, go_sem]; rfl) rfl) ?_)
      | (refine ARun.p1 rfl rfl (pl_store (by simp (decide := true) only [Nat.reduceAdd, go_sem]; rfl) (by simp (decide := true) only [Nat.reduceAdd, go_sem]; rfl) (by simp (decide := true) only [Nat.reduceAdd, go_sem]; rfl) (by rfl) (by rfl) (by kernel_rfl) (by rfl) (by rfl)) ?_)
      | fail)
    refine Ret.bool rfl ?_
    rw [hb]
    simp only [true_iff]
    exact ⟨by omega, fun i hi => hno i (by omega)⟩

def okRef (p : Tk) : Prop := (1 ≤ p.codes.length ∧ p.codes.length ≤ 8 ∧ p.methods.length ≤ 6 ∧ 0 ≤ p.actors ∧ p.actors ≤ 4) ∧
  (∀ i : Nat, i < p.codes.length → okWhole p (cod p.codes i) i false) ∧ ∀ i : Nat, i < p.methods.length → okWhole p (cod p.methods i) i true

open Classical in
theorem refValid_ok (p : Tk) (b : Bool) (hb : b = true ↔ okRef p) : Fn Try.prog 13 [encT p] (.bool b) := by
  refine Fn.intro' [(0, encT p)] 1 63 Try.func13 (by kernel_rfl) rfl rfl rfl rfl rfl ?_
  repeat (first
    | with_reducible refine AWp.seq ?_
    | ((with_reducible apply AWp.regionL); (refine ⟨rfl, rfl, ?_⟩; simp (decide := true) only [Nat.reduceAdd, List.map, go_sem]; rfl))
    | with_reducible refine ARun.nil ?_
    | with_reducible refine thenQ_n ?_
    | with_reducible refine thenQ_r ?_
    | with_reducible refine thenQ_e ?_
    | with_reducible refine blkQ_n ?_
    | with_reducible refine blkQ_r ?_
    | with_reducible refine blkQ_e ?_
    | with_reducible refine blkQ_o rfl ?_
    | with_reducible refine AWp.block ?_
    | with_reducible refine AWp.skip ?_
    | with_reducible refine AWp.ret ?_
    | with_reducible refine AWp.exit ?_
    | with_reducible refine retQ_n ?_
    | with_reducible refine retQ_r ?_
    | ((with_reducible apply ARun.go); (simp (decide := true) only [Nat.reduceAdd, go_sem]; rfl); (simp (decide := true) only [Nat.reduceAdd, go_sem]; (repeat simp (decide := true) only [Nat.reduceAdd, go_sem]); rfl))
    | (refine ARun.p1 rfl rfl (pl_box (by simp (decide := true) only [Nat.reduceAdd, go_sem]; rfl) rfl) ?_)
    | (refine ARun.p1 rfl rfl (pl_alloc (by simp only [Nat.reduceAdd, go_sem]; rfl) rfl) ?_)
    | (refine ARun.p1 rfl rfl (pl_store (by simp (decide := true) only [Nat.reduceAdd, go_sem]; rfl) (by simp (decide := true) only [Nat.reduceAdd, go_sem]; rfl) (by simp (decide := true) only [Nat.reduceAdd, go_sem]; rfl) (by rfl) (by rfl) (by kernel_rfl) (by rfl) (by rfl)) ?_)
    | fail)
  refine AWp.cond (b := _) rfl (fun hc => ?_) (fun hc => ?_)
  · simp at hc
    repeat (first
      | with_reducible refine AWp.seq ?_
      | ((with_reducible apply AWp.regionL); (refine ⟨rfl, rfl, ?_⟩; simp (decide := true) only [Nat.reduceAdd, List.map, go_sem]; rfl))
      | with_reducible refine ARun.nil ?_
      | with_reducible refine thenQ_n ?_
      | with_reducible refine thenQ_r ?_
      | with_reducible refine thenQ_e ?_
      | with_reducible refine blkQ_n ?_
      | with_reducible refine blkQ_r ?_
      | with_reducible refine blkQ_e ?_
      | with_reducible refine blkQ_o rfl ?_
      | with_reducible refine AWp.block ?_
      | with_reducible refine AWp.skip ?_
      | with_reducible refine AWp.ret ?_
      | with_reducible refine AWp.exit ?_
      | with_reducible refine retQ_n ?_
      | with_reducible refine retQ_r ?_
      | ((with_reducible apply ARun.go); (simp (decide := true) only [Nat.reduceAdd, go_sem]; rfl); (simp (decide := true) only [Nat.reduceAdd, go_sem]; (repeat simp (decide := true) only [Nat.reduceAdd, go_sem]); rfl))
      | (refine ARun.p1 rfl rfl (pl_box (by simp (decide := true) only [Nat.reduceAdd, go_sem]; rfl) rfl) ?_)
      | (refine ARun.p1 rfl rfl (pl_alloc (by simp only [Nat.reduceAdd, go_sem]; rfl) rfl) ?_)
      | (refine ARun.p1 rfl rfl (pl_store (by simp (decide := true) only [Nat.reduceAdd, go_sem]; rfl) (by simp (decide := true) only [Nat.reduceAdd, go_sem]; rfl) (by simp (decide := true) only [Nat.reduceAdd, go_sem]; rfl) (by rfl) (by rfl) (by kernel_rfl) (by rfl) (by rfl)) ?_)
      | fail)
    refine Ret.bool rfl ?_
    rw [hb]
    simp only [Bool.false_eq_true, false_iff]
    rintro ⟨⟨e1, e2, e3, e4, e5⟩, -⟩
    omega
  simp at hc
  repeat (first
    | with_reducible refine AWp.seq ?_
    | ((with_reducible apply AWp.regionL); (refine ⟨rfl, rfl, ?_⟩; simp (decide := true) only [Nat.reduceAdd, List.map, go_sem]; rfl))
    | with_reducible refine ARun.nil ?_
    | with_reducible refine thenQ_n ?_
    | with_reducible refine thenQ_r ?_
    | with_reducible refine thenQ_e ?_
    | with_reducible refine blkQ_n ?_
    | with_reducible refine blkQ_r ?_
    | with_reducible refine blkQ_e ?_
    | with_reducible refine blkQ_o rfl ?_
    | with_reducible refine AWp.block ?_
    | with_reducible refine AWp.skip ?_
    | with_reducible refine AWp.ret ?_
    | with_reducible refine AWp.exit ?_
    | with_reducible refine retQ_n ?_
    | with_reducible refine retQ_r ?_
    | ((with_reducible apply ARun.go); (simp (decide := true) only [Nat.reduceAdd, go_sem]; rfl); (simp (decide := true) only [Nat.reduceAdd, go_sem]; (repeat simp (decide := true) only [Nat.reduceAdd, go_sem]); rfl))
    | (refine ARun.p1 rfl rfl (pl_box (by simp (decide := true) only [Nat.reduceAdd, go_sem]; rfl) rfl) ?_)
    | (refine ARun.p1 rfl rfl (pl_alloc (by simp only [Nat.reduceAdd, go_sem]; rfl) rfl) ?_)
    | (refine ARun.p1 rfl rfl (pl_store (by simp (decide := true) only [Nat.reduceAdd, go_sem]; rfl) (by simp (decide := true) only [Nat.reduceAdd, go_sem]; rfl) (by simp (decide := true) only [Nat.reduceAdd, go_sem]; rfl) (by rfl) (by rfl) (by kernel_rfl) (by rfl) (by rfl)) ?_)
    | fail)
  refine AWp.loop (J := fun k : Nat => k ≤ p.codes.length ∧ ∀ i : Nat, i < k → okWhole p (cod p.codes i) i false)
    (I := fun k => ⟨[(3, .int k), (1, .ptr 0 1 0 0)], [⟨24, 3, [encT p]⟩]⟩) (μ := fun k => p.codes.length - k) 0 ⟨Nat.zero_le _, by omega⟩ (.env' (by simp (decide := true) only [Nat.reduceAdd, go_sem])) ?_
  rintro k ⟨hk, hno⟩
  repeat (first
    | with_reducible refine AWp.seq ?_
    | ((with_reducible apply AWp.regionL); (refine ⟨rfl, rfl, ?_⟩; simp (decide := true) only [Nat.reduceAdd, List.map, go_sem]; rfl))
    | with_reducible refine ARun.nil ?_
    | with_reducible refine thenQ_n ?_
    | with_reducible refine thenQ_r ?_
    | with_reducible refine thenQ_e ?_
    | with_reducible refine blkQ_n ?_
    | with_reducible refine blkQ_r ?_
    | with_reducible refine blkQ_e ?_
    | with_reducible refine blkQ_o rfl ?_
    | with_reducible refine AWp.block ?_
    | with_reducible refine AWp.skip ?_
    | with_reducible refine AWp.ret ?_
    | with_reducible refine AWp.exit ?_
    | with_reducible refine retQ_n ?_
    | with_reducible refine retQ_r ?_
    | ((with_reducible apply ARun.go); (simp (decide := true) only [Nat.reduceAdd, go_sem]; rfl); (simp (decide := true) only [Nat.reduceAdd, go_sem]; (repeat simp (decide := true) only [Nat.reduceAdd, go_sem]); rfl))
    | (refine ARun.p1 rfl rfl (pl_box (by simp (decide := true) only [Nat.reduceAdd, go_sem]; rfl) rfl) ?_)
    | (refine ARun.p1 rfl rfl (pl_alloc (by simp only [Nat.reduceAdd, go_sem]; rfl) rfl) ?_)
    | (refine ARun.p1 rfl rfl (pl_store (by simp (decide := true) only [Nat.reduceAdd, go_sem]; rfl) (by simp (decide := true) only [Nat.reduceAdd, go_sem]; rfl) (by simp (decide := true) only [Nat.reduceAdd, go_sem]; rfl) (by rfl) (by rfl) (by kernel_rfl) (by rfl) (by rfl)) ?_)
    | fail)
  refine AWp.cond (b := _) rfl (fun hd => ?_) (fun hd => ?_)
  · simp at hd
    repeat (first
      | with_reducible refine AWp.seq ?_
      | ((with_reducible apply AWp.regionL); (refine ⟨rfl, rfl, ?_⟩; simp (decide := true) only [Nat.reduceAdd, List.map, go_sem]; rfl))
      | with_reducible refine ARun.nil ?_
      | with_reducible refine thenQ_n ?_
      | with_reducible refine thenQ_r ?_
      | with_reducible refine thenQ_e ?_
      | with_reducible refine blkQ_n ?_
      | with_reducible refine blkQ_r ?_
      | with_reducible refine blkQ_e ?_
      | with_reducible refine blkQ_o rfl ?_
      | with_reducible refine AWp.block ?_
      | with_reducible refine AWp.skip ?_
      | with_reducible refine AWp.ret ?_
      | with_reducible refine AWp.exit ?_
      | with_reducible refine retQ_n ?_
      | with_reducible refine retQ_r ?_
      | ((with_reducible apply ARun.go); (simp (decide := true) only [Nat.reduceAdd, go_sem]; rfl); (simp (decide := true) only [Nat.reduceAdd, go_sem]; (repeat simp (decide := true) only [Nat.reduceAdd, go_sem]); rfl))
      | (refine ARun.p1 rfl rfl (pl_box (by simp (decide := true) only [Nat.reduceAdd, go_sem]; rfl) rfl) ?_)
      | (refine ARun.p1 rfl rfl (pl_alloc (by simp only [Nat.reduceAdd, go_sem]; rfl) rfl) ?_)
      | (refine ARun.p1 rfl rfl (pl_store (by simp (decide := true) only [Nat.reduceAdd, go_sem]; rfl) (by simp (decide := true) only [Nat.reduceAdd, go_sem]; rfl) (by simp (decide := true) only [Nat.reduceAdd, go_sem]; rfl) (by rfl) (by rfl) (by kernel_rfl) (by rfl) (by rfl)) ?_)
      | fail)
    ((with_reducible apply AWp.drawL (k := 9) follows); (refine ⟨rfl, rfl, by kernel_rfl, by decide, ?_, ?_⟩; (simp (decide := true) only [Nat.reduceAdd, go_sem, List.map, List.take]; rfl); (simp (decide := true) only [Nat.reduceAdd, go_sem, List.map, List.drop]; rfl)))
    repeat (first
      | with_reducible refine AWp.seq ?_
      | ((with_reducible apply AWp.regionL); (refine ⟨rfl, rfl, ?_⟩; simp (decide := true) only [Nat.reduceAdd, List.map, go_sem]; rfl))
      | with_reducible refine ARun.nil ?_
      | with_reducible refine thenQ_n ?_
      | with_reducible refine thenQ_r ?_
      | with_reducible refine thenQ_e ?_
      | with_reducible refine blkQ_n ?_
      | with_reducible refine blkQ_r ?_
      | with_reducible refine blkQ_e ?_
      | with_reducible refine blkQ_o rfl ?_
      | with_reducible refine AWp.block ?_
      | with_reducible refine AWp.skip ?_
      | with_reducible refine AWp.ret ?_
      | with_reducible refine AWp.exit ?_
      | with_reducible refine retQ_n ?_
      | with_reducible refine retQ_r ?_
      | ((with_reducible apply ARun.go); (simp (decide := true) only [Nat.reduceAdd, go_sem]; rfl); (simp (decide := true) only [Nat.reduceAdd, go_sem]; (repeat simp (decide := true) only [Nat.reduceAdd, go_sem]); rfl))
      | (refine ARun.p1 rfl rfl (pl_box (by simp (decide := true) only [Nat.reduceAdd, go_sem]; rfl) rfl) ?_)
      | (refine ARun.p1 rfl rfl (pl_alloc (by simp only [Nat.reduceAdd, go_sem]; rfl) rfl) ?_)
      | (refine ARun.p1 rfl rfl (pl_store (by simp (decide := true) only [Nat.reduceAdd, go_sem]; rfl) (by simp (decide := true) only [Nat.reduceAdd, go_sem]; rfl) (by simp (decide := true) only [Nat.reduceAdd, go_sem]; rfl) (by rfl) (by rfl) (by kernel_rfl) (by rfl) (by rfl)) ?_)
      | fail)
    refine ARun.q1 rfl rfl (ql_idxD (l := p.codes) (f := encC) cd0 rfl rfl Try.underlying22 (by omega) (by omega) (by kernel_rfl)) ?_
    repeat (first
      | with_reducible refine AWp.seq ?_
      | ((with_reducible apply AWp.regionL); (refine ⟨rfl, rfl, ?_⟩; simp (decide := true) only [Nat.reduceAdd, List.map, go_sem]; rfl))
      | with_reducible refine ARun.nil ?_
      | with_reducible refine thenQ_n ?_
      | with_reducible refine thenQ_r ?_
      | with_reducible refine thenQ_e ?_
      | with_reducible refine blkQ_n ?_
      | with_reducible refine blkQ_r ?_
      | with_reducible refine blkQ_e ?_
      | with_reducible refine blkQ_o rfl ?_
      | with_reducible refine AWp.block ?_
      | with_reducible refine AWp.skip ?_
      | with_reducible refine AWp.ret ?_
      | with_reducible refine AWp.exit ?_
      | with_reducible refine retQ_n ?_
      | with_reducible refine retQ_r ?_
      | ((with_reducible apply ARun.go); (simp (decide := true) only [Nat.reduceAdd, go_sem]; rfl); (simp (decide := true) only [Nat.reduceAdd, go_sem]; (repeat simp (decide := true) only [Nat.reduceAdd, go_sem]); rfl))
      | (refine ARun.p1 rfl rfl (pl_box (by simp (decide := true) only [Nat.reduceAdd, go_sem]; rfl) rfl) ?_)
      | (refine ARun.p1 rfl rfl (pl_alloc (by simp only [Nat.reduceAdd, go_sem]; rfl) rfl) ?_)
      | (refine ARun.p1 rfl rfl (pl_store (by simp (decide := true) only [Nat.reduceAdd, go_sem]; rfl) (by simp (decide := true) only [Nat.reduceAdd, go_sem]; rfl) (by simp (decide := true) only [Nat.reduceAdd, go_sem]; rfl) (by rfl) (by rfl) (by kernel_rfl) (by rfl) (by rfl)) ?_)
      | fail)
    refine ARun.q1 rfl rfl (ql_callC (whole_ok p (cod p.codes k) k false (decide (okWhole p (cod p.codes k) k false)) (by simp)) rfl (by simp (decide := true) only [Nat.reduceAdd, go_sem] <;> rfl) (by simp (decide := true) only [Nat.reduceAdd, go_sem, List.map]) (by simp [-List.map_take, -List.map_drop])) ?_
    repeat (first
      | with_reducible refine AWp.seq ?_
      | ((with_reducible apply AWp.regionL); (refine ⟨rfl, rfl, ?_⟩; simp (decide := true) only [Nat.reduceAdd, List.map, go_sem]; rfl))
      | with_reducible refine ARun.nil ?_
      | with_reducible refine thenQ_n ?_
      | with_reducible refine thenQ_r ?_
      | with_reducible refine thenQ_e ?_
      | with_reducible refine blkQ_n ?_
      | with_reducible refine blkQ_r ?_
      | with_reducible refine blkQ_e ?_
      | with_reducible refine blkQ_o rfl ?_
      | with_reducible refine AWp.block ?_
      | with_reducible refine AWp.skip ?_
      | with_reducible refine AWp.ret ?_
      | with_reducible refine AWp.exit ?_
      | with_reducible refine retQ_n ?_
      | with_reducible refine retQ_r ?_
      | ((with_reducible apply ARun.go); (simp (decide := true) only [Nat.reduceAdd, go_sem]; rfl); (simp (decide := true) only [Nat.reduceAdd, go_sem]; (repeat simp (decide := true) only [Nat.reduceAdd, go_sem]); rfl))
      | (refine ARun.p1 rfl rfl (pl_box (by simp (decide := true) only [Nat.reduceAdd, go_sem]; rfl) rfl) ?_)
      | (refine ARun.p1 rfl rfl (pl_alloc (by simp only [Nat.reduceAdd, go_sem]; rfl) rfl) ?_)
      | (refine ARun.p1 rfl rfl (pl_store (by simp (decide := true) only [Nat.reduceAdd, go_sem]; rfl) (by simp (decide := true) only [Nat.reduceAdd, go_sem]; rfl) (by simp (decide := true) only [Nat.reduceAdd, go_sem]; rfl) (by rfl) (by rfl) (by kernel_rfl) (by rfl) (by rfl)) ?_)
      | fail)
    refine AWp.cond (b := _) rfl (fun he => ?_) (fun he => ?_)
    · simp at he
      repeat (first
        | with_reducible refine AWp.seq ?_
        | ((with_reducible apply AWp.regionL); (refine ⟨rfl, rfl, ?_⟩; simp (decide := true) only [Nat.reduceAdd, List.map, go_sem]; rfl))
        | with_reducible refine ARun.nil ?_
        | with_reducible refine thenQ_n ?_
        | with_reducible refine thenQ_r ?_
        | with_reducible refine thenQ_e ?_
        | with_reducible refine blkQ_n ?_
        | with_reducible refine blkQ_r ?_
        | with_reducible refine blkQ_e ?_
        | with_reducible refine blkQ_o rfl ?_
        | with_reducible refine AWp.block ?_
        | with_reducible refine AWp.skip ?_
        | with_reducible refine AWp.ret ?_
        | with_reducible refine AWp.exit ?_
        | with_reducible refine retQ_n ?_
        | with_reducible refine retQ_r ?_
        | ((with_reducible apply ARun.go); (simp (decide := true) only [Nat.reduceAdd, go_sem]; rfl); (simp (decide := true) only [Nat.reduceAdd, go_sem]; (repeat simp (decide := true) only [Nat.reduceAdd, go_sem]); rfl))
        | (refine ARun.p1 rfl rfl (pl_box (by simp (decide := true) only [Nat.reduceAdd, go_sem]; rfl) rfl) ?_)
        | (refine ARun.p1 rfl rfl (pl_alloc (by simp only [Nat.reduceAdd, go_sem]; rfl) rfl) ?_)
        | (refine ARun.p1 rfl rfl (pl_store (by simp (decide := true) only [Nat.reduceAdd, go_sem]; rfl) (by simp (decide := true) only [Nat.reduceAdd, go_sem]; rfl) (by simp (decide := true) only [Nat.reduceAdd, go_sem]; rfl) (by rfl) (by rfl) (by kernel_rfl) (by rfl) (by rfl)) ?_)
        | fail)
      refine Ret.bool rfl ?_
      rw [hb]
      simp only [Bool.false_eq_true, false_iff]
      exact fun h => he (h.2.1 k hd)
    · simp at he
      repeat (first
        | with_reducible refine AWp.seq ?_
        | ((with_reducible apply AWp.regionL); (refine ⟨rfl, rfl, ?_⟩; simp (decide := true) only [Nat.reduceAdd, List.map, go_sem]; rfl))
        | with_reducible refine ARun.nil ?_
        | with_reducible refine thenQ_n ?_
        | with_reducible refine thenQ_r ?_
        | with_reducible refine thenQ_e ?_
        | with_reducible refine blkQ_n ?_
        | with_reducible refine blkQ_r ?_
        | with_reducible refine blkQ_e ?_
        | with_reducible refine blkQ_o rfl ?_
        | with_reducible refine AWp.block ?_
        | with_reducible refine AWp.skip ?_
        | with_reducible refine AWp.ret ?_
        | with_reducible refine AWp.exit ?_
        | with_reducible refine retQ_n ?_
        | with_reducible refine retQ_r ?_
        | ((with_reducible apply ARun.go); (simp (decide := true) only [Nat.reduceAdd, go_sem]; rfl); (simp (decide := true) only [Nat.reduceAdd, go_sem]; (repeat simp (decide := true) only [Nat.reduceAdd, go_sem]); rfl))
        | (refine ARun.p1 rfl rfl (pl_box (by simp (decide := true) only [Nat.reduceAdd, go_sem]; rfl) rfl) ?_)
        | (refine ARun.p1 rfl rfl (pl_alloc (by simp only [Nat.reduceAdd, go_sem]; rfl) rfl) ?_)
        | (refine ARun.p1 rfl rfl (pl_store (by simp (decide := true) only [Nat.reduceAdd, go_sem]; rfl) (by simp (decide := true) only [Nat.reduceAdd, go_sem]; rfl) (by simp (decide := true) only [Nat.reduceAdd, go_sem]; rfl) (by rfl) (by rfl) (by kernel_rfl) (by rfl) (by rfl)) ?_)
        | fail)
      rw [wrap_succ (by omega)]
      refine ⟨k + 1, ⟨by omega, fun i h => ?_⟩, by omega, (.env' (by simp (decide := true) only [Nat.reduceAdd, go_sem]))⟩
      by_cases e : i = k
      · subst e; exact he
      · exact hno i (by omega)
  simp at hd
  repeat (first
    | with_reducible refine AWp.seq ?_
    | ((with_reducible apply AWp.regionL); (refine ⟨rfl, rfl, ?_⟩; simp (decide := true) only [Nat.reduceAdd, List.map, go_sem]; rfl))
    | with_reducible refine ARun.nil ?_
    | with_reducible refine thenQ_n ?_
    | with_reducible refine thenQ_r ?_
    | with_reducible refine thenQ_e ?_
    | with_reducible refine blkQ_n ?_
    | with_reducible refine blkQ_r ?_
    | with_reducible refine blkQ_e ?_
    | with_reducible refine blkQ_o rfl ?_
    | with_reducible refine AWp.block ?_
    | with_reducible refine AWp.skip ?_
    | with_reducible refine AWp.ret ?_
    | with_reducible refine AWp.exit ?_
    | with_reducible refine retQ_n ?_
    | with_reducible refine retQ_r ?_
    | ((with_reducible apply ARun.go); (simp (decide := true) only [Nat.reduceAdd, go_sem]; rfl); (simp (decide := true) only [Nat.reduceAdd, go_sem]; (repeat simp (decide := true) only [Nat.reduceAdd, go_sem]); rfl))
    | (refine ARun.p1 rfl rfl (pl_box (by simp (decide := true) only [Nat.reduceAdd, go_sem]; rfl) rfl) ?_)
    | (refine ARun.p1 rfl rfl (pl_alloc (by simp only [Nat.reduceAdd, go_sem]; rfl) rfl) ?_)
    | (refine ARun.p1 rfl rfl (pl_store (by simp (decide := true) only [Nat.reduceAdd, go_sem]; rfl) (by simp (decide := true) only [Nat.reduceAdd, go_sem]; rfl) (by simp (decide := true) only [Nat.reduceAdd, go_sem]; rfl) (by rfl) (by rfl) (by kernel_rfl) (by rfl) (by rfl)) ?_)
    | fail)
  refine AWp.loop (J := fun k : Nat => k ≤ p.methods.length ∧ ∀ i : Nat, i < k → okWhole p (cod p.methods i) i true)
    (I := fun k => ⟨[(4, .int k), (1, .ptr 0 1 0 0)], [⟨24, 3, [encT p]⟩]⟩) (μ := fun k => p.methods.length - k) 0 ⟨Nat.zero_le _, by omega⟩ (.env' (by simp (decide := true) only [Nat.reduceAdd, go_sem])) ?_
  rintro k2 ⟨hk2, hno2⟩
  repeat (first
    | with_reducible refine AWp.seq ?_
    | ((with_reducible apply AWp.regionL); (refine ⟨rfl, rfl, ?_⟩; simp (decide := true) only [Nat.reduceAdd, List.map, go_sem]; rfl))
    | with_reducible refine ARun.nil ?_
    | with_reducible refine thenQ_n ?_
    | with_reducible refine thenQ_r ?_
    | with_reducible refine thenQ_e ?_
    | with_reducible refine blkQ_n ?_
    | with_reducible refine blkQ_r ?_
    | with_reducible refine blkQ_e ?_
    | with_reducible refine blkQ_o rfl ?_
    | with_reducible refine AWp.block ?_
    | with_reducible refine AWp.skip ?_
    | with_reducible refine AWp.ret ?_
    | with_reducible refine AWp.exit ?_
    | with_reducible refine retQ_n ?_
    | with_reducible refine retQ_r ?_
    | ((with_reducible apply ARun.go); (simp (decide := true) only [Nat.reduceAdd, go_sem]; rfl); (simp (decide := true) only [Nat.reduceAdd, go_sem]; (repeat simp (decide := true) only [Nat.reduceAdd, go_sem]); rfl))
    | (refine ARun.p1 rfl rfl (pl_box (by simp (decide := true) only [Nat.reduceAdd, go_sem]; rfl) rfl) ?_)
    | (refine ARun.p1 rfl rfl (pl_alloc (by simp only [Nat.reduceAdd, go_sem]; rfl) rfl) ?_)
    | (refine ARun.p1 rfl rfl (pl_store (by simp (decide := true) only [Nat.reduceAdd, go_sem]; rfl) (by simp (decide := true) only [Nat.reduceAdd, go_sem]; rfl) (by simp (decide := true) only [Nat.reduceAdd, go_sem]; rfl) (by rfl) (by rfl) (by kernel_rfl) (by rfl) (by rfl)) ?_)
    | fail)
  refine AWp.cond (b := _) rfl (fun hd2 => ?_) (fun hd2 => ?_)
  · simp at hd2
    repeat (first
      | with_reducible refine AWp.seq ?_
      | ((with_reducible apply AWp.regionL); (refine ⟨rfl, rfl, ?_⟩; simp (decide := true) only [Nat.reduceAdd, List.map, go_sem]; rfl))
      | with_reducible refine ARun.nil ?_
      | with_reducible refine thenQ_n ?_
      | with_reducible refine thenQ_r ?_
      | with_reducible refine thenQ_e ?_
      | with_reducible refine blkQ_n ?_
      | with_reducible refine blkQ_r ?_
      | with_reducible refine blkQ_e ?_
      | with_reducible refine blkQ_o rfl ?_
      | with_reducible refine AWp.block ?_
      | with_reducible refine AWp.skip ?_
      | with_reducible refine AWp.ret ?_
      | with_reducible refine AWp.exit ?_
      | with_reducible refine retQ_n ?_
      | with_reducible refine retQ_r ?_
      | ((with_reducible apply ARun.go); (simp (decide := true) only [Nat.reduceAdd, go_sem]; rfl); (simp (decide := true) only [Nat.reduceAdd, go_sem]; (repeat simp (decide := true) only [Nat.reduceAdd, go_sem]); rfl))
      | (refine ARun.p1 rfl rfl (pl_box (by simp (decide := true) only [Nat.reduceAdd, go_sem]; rfl) rfl) ?_)
      | (refine ARun.p1 rfl rfl (pl_alloc (by simp only [Nat.reduceAdd, go_sem]; rfl) rfl) ?_)
      | (refine ARun.p1 rfl rfl (pl_store (by simp (decide := true) only [Nat.reduceAdd, go_sem]; rfl) (by simp (decide := true) only [Nat.reduceAdd, go_sem]; rfl) (by simp (decide := true) only [Nat.reduceAdd, go_sem]; rfl) (by rfl) (by rfl) (by kernel_rfl) (by rfl) (by rfl)) ?_)
      | fail)
    ((with_reducible apply AWp.drawL (k := 9) follows); (refine ⟨rfl, rfl, by kernel_rfl, by decide, ?_, ?_⟩; (simp (decide := true) only [Nat.reduceAdd, go_sem, List.map, List.take]; rfl); (simp (decide := true) only [Nat.reduceAdd, go_sem, List.map, List.drop]; rfl)))
    repeat (first
      | with_reducible refine AWp.seq ?_
      | ((with_reducible apply AWp.regionL); (refine ⟨rfl, rfl, ?_⟩; simp (decide := true) only [Nat.reduceAdd, List.map, go_sem]; rfl))
      | with_reducible refine ARun.nil ?_
      | with_reducible refine thenQ_n ?_
      | with_reducible refine thenQ_r ?_
      | with_reducible refine thenQ_e ?_
      | with_reducible refine blkQ_n ?_
      | with_reducible refine blkQ_r ?_
      | with_reducible refine blkQ_e ?_
      | with_reducible refine blkQ_o rfl ?_
      | with_reducible refine AWp.block ?_
      | with_reducible refine AWp.skip ?_
      | with_reducible refine AWp.ret ?_
      | with_reducible refine AWp.exit ?_
      | with_reducible refine retQ_n ?_
      | with_reducible refine retQ_r ?_
      | ((with_reducible apply ARun.go); (simp (decide := true) only [Nat.reduceAdd, go_sem]; rfl); (simp (decide := true) only [Nat.reduceAdd, go_sem]; (repeat simp (decide := true) only [Nat.reduceAdd, go_sem]); rfl))
      | (refine ARun.p1 rfl rfl (pl_box (by simp (decide := true) only [Nat.reduceAdd, go_sem]; rfl) rfl) ?_)
      | (refine ARun.p1 rfl rfl (pl_alloc (by simp only [Nat.reduceAdd, go_sem]; rfl) rfl) ?_)
      | (refine ARun.p1 rfl rfl (pl_store (by simp (decide := true) only [Nat.reduceAdd, go_sem]; rfl) (by simp (decide := true) only [Nat.reduceAdd, go_sem]; rfl) (by simp (decide := true) only [Nat.reduceAdd, go_sem]; rfl) (by rfl) (by rfl) (by kernel_rfl) (by rfl) (by rfl)) ?_)
      | fail)
    refine ARun.q1 rfl rfl (ql_idxD (l := p.methods) (f := encC) cd0 rfl rfl Try.underlying22 (by omega) (by omega) (by kernel_rfl)) ?_
    repeat (first
      | with_reducible refine AWp.seq ?_
      | ((with_reducible apply AWp.regionL); (refine ⟨rfl, rfl, ?_⟩; simp (decide := true) only [Nat.reduceAdd, List.map, go_sem]; rfl))
      | with_reducible refine ARun.nil ?_
      | with_reducible refine thenQ_n ?_
      | with_reducible refine thenQ_r ?_
      | with_reducible refine thenQ_e ?_
      | with_reducible refine blkQ_n ?_
      | with_reducible refine blkQ_r ?_
      | with_reducible refine blkQ_e ?_
      | with_reducible refine blkQ_o rfl ?_
      | with_reducible refine AWp.block ?_
      | with_reducible refine AWp.skip ?_
      | with_reducible refine AWp.ret ?_
      | with_reducible refine AWp.exit ?_
      | with_reducible refine retQ_n ?_
      | with_reducible refine retQ_r ?_
      | ((with_reducible apply ARun.go); (simp (decide := true) only [Nat.reduceAdd, go_sem]; rfl); (simp (decide := true) only [Nat.reduceAdd, go_sem]; (repeat simp (decide := true) only [Nat.reduceAdd, go_sem]); rfl))
      | (refine ARun.p1 rfl rfl (pl_box (by simp (decide := true) only [Nat.reduceAdd, go_sem]; rfl) rfl) ?_)
      | (refine ARun.p1 rfl rfl (pl_alloc (by simp only [Nat.reduceAdd, go_sem]; rfl) rfl) ?_)
      | (refine ARun.p1 rfl rfl (pl_store (by simp (decide := true) only [Nat.reduceAdd, go_sem]; rfl) (by simp (decide := true) only [Nat.reduceAdd, go_sem]; rfl) (by simp (decide := true) only [Nat.reduceAdd, go_sem]; rfl) (by rfl) (by rfl) (by kernel_rfl) (by rfl) (by rfl)) ?_)
      | fail)
    refine ARun.q1 rfl rfl (ql_callC (whole_ok p (cod p.methods k2) k2 true (decide (okWhole p (cod p.methods k2) k2 true)) (by simp)) rfl (by simp (decide := true) only [Nat.reduceAdd, go_sem] <;> rfl) (by simp (decide := true) only [Nat.reduceAdd, go_sem, List.map]) (by simp [-List.map_take, -List.map_drop])) ?_
    repeat (first
      | with_reducible refine AWp.seq ?_
      | ((with_reducible apply AWp.regionL); (refine ⟨rfl, rfl, ?_⟩; simp (decide := true) only [Nat.reduceAdd, List.map, go_sem]; rfl))
      | with_reducible refine ARun.nil ?_
      | with_reducible refine thenQ_n ?_
      | with_reducible refine thenQ_r ?_
      | with_reducible refine thenQ_e ?_
      | with_reducible refine blkQ_n ?_
      | with_reducible refine blkQ_r ?_
      | with_reducible refine blkQ_e ?_
      | with_reducible refine blkQ_o rfl ?_
      | with_reducible refine AWp.block ?_
      | with_reducible refine AWp.skip ?_
      | with_reducible refine AWp.ret ?_
      | with_reducible refine AWp.exit ?_
      | with_reducible refine retQ_n ?_
      | with_reducible refine retQ_r ?_
      | ((with_reducible apply ARun.go); (simp (decide := true) only [Nat.reduceAdd, go_sem]; rfl); (simp (decide := true) only [Nat.reduceAdd, go_sem]; (repeat simp (decide := true) only [Nat.reduceAdd, go_sem]); rfl))
      | (refine ARun.p1 rfl rfl (pl_box (by simp (decide := true) only [Nat.reduceAdd, go_sem]; rfl) rfl) ?_)
      | (refine ARun.p1 rfl rfl (pl_alloc (by simp only [Nat.reduceAdd, go_sem]; rfl) rfl) ?_)
      | (refine ARun.p1 rfl rfl (pl_store (by simp (decide := true) only [Nat.reduceAdd, go_sem]; rfl) (by simp (decide := true) only [Nat.reduceAdd, go_sem]; rfl) (by simp (decide := true) only [Nat.reduceAdd, go_sem]; rfl) (by rfl) (by rfl) (by kernel_rfl) (by rfl) (by rfl)) ?_)
      | fail)
    refine AWp.cond (b := _) rfl (fun he => ?_) (fun he => ?_)
    · simp at he
      repeat (first
        | with_reducible refine AWp.seq ?_
        | ((with_reducible apply AWp.regionL); (refine ⟨rfl, rfl, ?_⟩; simp (decide := true) only [Nat.reduceAdd, List.map, go_sem]; rfl))
        | with_reducible refine ARun.nil ?_
        | with_reducible refine thenQ_n ?_
        | with_reducible refine thenQ_r ?_
        | with_reducible refine thenQ_e ?_
        | with_reducible refine blkQ_n ?_
        | with_reducible refine blkQ_r ?_
        | with_reducible refine blkQ_e ?_
        | with_reducible refine blkQ_o rfl ?_
        | with_reducible refine AWp.block ?_
        | with_reducible refine AWp.skip ?_
        | with_reducible refine AWp.ret ?_
        | with_reducible refine AWp.exit ?_
        | with_reducible refine retQ_n ?_
        | with_reducible refine retQ_r ?_
        | ((with_reducible apply ARun.go); (simp (decide := true) only [Nat.reduceAdd, go_sem]; rfl); (simp (decide := true) only [Nat.reduceAdd, go_sem]; (repeat simp (decide := true) only [Nat.reduceAdd, go_sem]); rfl))
        | (refine ARun.p1 rfl rfl (pl_box (by simp (decide := true) only [Nat.reduceAdd, go_sem]; rfl) rfl) ?_)
        | (refine ARun.p1 rfl rfl (pl_alloc (by simp only [Nat.reduceAdd, go_sem]; rfl) rfl) ?_)
        | (refine ARun.p1 rfl rfl (pl_store (by simp (decide := true) only [Nat.reduceAdd, go_sem]; rfl) (by simp (decide := true) only [Nat.reduceAdd, go_sem]; rfl) (by simp (decide := true) only [Nat.reduceAdd, go_sem]; rfl) (by rfl) (by rfl) (by kernel_rfl) (by rfl) (by rfl)) ?_)
        | fail)
      refine Ret.bool rfl ?_
      rw [hb]
      simp only [Bool.false_eq_true, false_iff]
      exact fun h => he (h.2.2 k2 hd2)
    · simp at he
      repeat (first
        | with_reducible refine AWp.seq ?_
        | ((with_reducible apply AWp.regionL); (refine ⟨rfl, rfl, ?_⟩; simp (decide := true) only [Nat.reduceAdd, List.map, go_sem]; rfl))
        | with_reducible refine ARun.nil ?_
        | with_reducible refine thenQ_n ?_
        | with_reducible refine thenQ_r ?_
        | with_reducible refine thenQ_e ?_
        | with_reducible refine blkQ_n ?_
        | with_reducible refine blkQ_r ?_
        | with_reducible refine blkQ_e ?_
        | with_reducible refine blkQ_o rfl ?_
        | with_reducible refine AWp.block ?_
        | with_reducible refine AWp.skip ?_
        | with_reducible refine AWp.ret ?_
        | with_reducible refine AWp.exit ?_
        | with_reducible refine retQ_n ?_
        | with_reducible refine retQ_r ?_
        | ((with_reducible apply ARun.go); (simp (decide := true) only [Nat.reduceAdd, go_sem]; rfl); (simp (decide := true) only [Nat.reduceAdd, go_sem]; (repeat simp (decide := true) only [Nat.reduceAdd, go_sem]); rfl))
        | (refine ARun.p1 rfl rfl (pl_box (by simp (decide := true) only [Nat.reduceAdd, go_sem]; rfl) rfl) ?_)
        | (refine ARun.p1 rfl rfl (pl_alloc (by simp only [Nat.reduceAdd, go_sem]; rfl) rfl) ?_)
        | (refine ARun.p1 rfl rfl (pl_store (by simp (decide := true) only [Nat.reduceAdd, go_sem]; rfl) (by simp (decide := true) only [Nat.reduceAdd, go_sem]; rfl) (by simp (decide := true) only [Nat.reduceAdd, go_sem]; rfl) (by rfl) (by rfl) (by kernel_rfl) (by rfl) (by rfl)) ?_)
        | fail)
      rw [wrap_succ (by omega)]
      refine ⟨k2 + 1, ⟨by omega, fun i h => ?_⟩, by omega, (.env' (by simp (decide := true) only [Nat.reduceAdd, go_sem]))⟩
      by_cases e : i = k2
      · subst e; exact he
      · exact hno2 i (by omega)
  · simp at hd2
    repeat (first
      | with_reducible refine AWp.seq ?_
      | ((with_reducible apply AWp.regionL); (refine ⟨rfl, rfl, ?_⟩; simp (decide := true) only [Nat.reduceAdd, List.map, go_sem]; rfl))
      | with_reducible refine ARun.nil ?_
      | with_reducible refine thenQ_n ?_
      | with_reducible refine thenQ_r ?_
      | with_reducible refine thenQ_e ?_
      | with_reducible refine blkQ_n ?_
      | with_reducible refine blkQ_r ?_
      | with_reducible refine blkQ_e ?_
      | with_reducible refine blkQ_o rfl ?_
      | with_reducible refine AWp.block ?_
      | with_reducible refine AWp.skip ?_
      | with_reducible refine AWp.ret ?_
      | with_reducible refine AWp.exit ?_
      | with_reducible refine retQ_n ?_
      | with_reducible refine retQ_r ?_
      | ((with_reducible apply ARun.go); (simp (decide := true) only [Nat.reduceAdd, go_sem]; rfl); (simp (decide := true) only [Nat.reduceAdd, go_sem]; (repeat simp (decide := true) only [Nat.reduceAdd, go_sem]); rfl))
      | (refine ARun.p1 rfl rfl (pl_box (by simp (decide := true) only [Nat.reduceAdd, go_sem]; rfl) rfl) ?_)
      | (refine ARun.p1 rfl rfl (pl_alloc (by simp only [Nat.reduceAdd, go_sem]; rfl) rfl) ?_)
      | (refine ARun.p1 rfl rfl (pl_store (by simp (decide := true) only [Nat.reduceAdd, go_sem]; rfl) (by simp (decide := true) only [Nat.reduceAdd, go_sem]; rfl) (by simp (decide := true) only [Nat.reduceAdd, go_sem]; rfl) (by rfl) (by rfl) (by kernel_rfl) (by rfl) (by rfl)) ?_)
      | fail)
    refine Ret.bool rfl ?_
    rw [hb]
    simp only [true_iff]
    exact ⟨by omega, fun i hi => hno i (by omega), fun i hi => hno2 i (by omega)⟩
end Go.Ab
