import Derived.Test.YthjeoagadjdilaaC22
namespace Go.Ab
open Go Go.Ab Go.Proofs Go.Ab.Ty
set_option linter.unusedSimpArgs false
set_option linter.unusedVariables false

def inR (s : Stp) : Prop := (u1 s.op → 0 ≤ s.v ∧ s.v < 8) ∧ (u2 s.op → 0 ≤ s.w ∧ s.w < 8) ∧ (u5 s.op → s.vars.length ≤ 1000 ∧ ∀ v ∈ s.vars, 0 ≤ v ∧ v < 8)
noncomputable def afterE (r : Rg) (s : Stp) : Int :=
  if s.op = 1 then 0 else if s.op = 2 then mustF r [s.w] else if s.op = 3 then mustF r [s.v, s.w] else if s.op = 4 ∨ s.op = 5 then mustF r [s.v] else
  if s.op = 6 ∨ s.op = 9 then sendE r s.vars true else if s.op = 8 then sendE r s.vars false else 0
noncomputable def afterR (r : Rg) (s : Stp) : Rg :=
  if s.op = 1 then freshR r s.v else if s.op = 2 then (if mustF r [s.w] = 0 then ⟨updI r.of s.v (r.of s.w), r.count, r.actor⟩ else r) else if s.op = 3 then (if mustF r [s.v, s.w] = 0 then joinF r s.v s.w else r) else if s.op = 4 ∨ s.op = 5 then r else
  if s.op = 6 ∨ s.op = 9 then sendR r s.vars true else if s.op = 8 then sendR r s.vars false else r

theorem after_ok (r : Rg) (s : Stp) (h : inR s) : Fn Try.prog 31 [encR r, encS s] (.tup [encR (afterR r s), .int (afterE r s)]) := by
  refine Fn.intro' [(0, encR r), (1, encS s)] 2 83 Try.func31 (by kernel_rfl) rfl rfl rfl rfl rfl ?_
  obtain ⟨hv, hw, hvs⟩ := h
  let S := fun (t : Nat) (b : Bool) => (⟨[(t, .bool b), (2, .ptr 0 1 0 0), (3, .ptr 1 1 0 0), (4, .ptr 2 1 0 0), (9, .int s.op)], [⟨60, 10, [encR r]⟩, ⟨34, 6, [encS s]⟩, ⟨60, 10, [encR ⟨fun _ => 0, 0, 0⟩]⟩]⟩ : ASt)
  repeat (first
    | with_reducible refine AWp.seq ?_
    | ((with_reducible apply AWp.regionL); (refine ⟨rfl, rfl, ?_⟩; simp (decide := true) only [Nat.reduceAdd, List.map, go_sem]; rfl))
    | with_reducible refine ARun.nil ?_
    | with_reducible refine thenQ_n ?_
    | with_reducible refine thenQ_r ?_
    | with_reducible refine thenQ_e ?_
    | with_reducible refine blkQ_n ?_
    | with_reducible refine blkQ_r ?_
    | with_reducible refine blkQ_e ?_
    | with_reducible refine blkQ_o rfl ?_
    | with_reducible refine AWp.block ?_
    | with_reducible refine AWp.skip ?_
    | with_reducible refine AWp.ret ?_
    | with_reducible refine AWp.exit ?_
    | with_reducible refine retQ_n ?_
    | with_reducible refine retQ_r ?_
    | ((with_reducible apply ARun.go); (simp (decide := true) only [Nat.reduceAdd, go_sem]; rfl); (simp (decide := true) only [Nat.reduceAdd, go_sem]; (repeat simp (decide := true) only [Nat.reduceAdd, go_sem]); rfl))
    | (refine ARun.p1 rfl rfl (pl_box (by simp (decide := true) only [Nat.reduceAdd, go_sem]; rfl) rfl) ?_)
    | (refine ARun.p1 rfl rfl (pl_alloc (by simp only [Nat.reduceAdd, go_sem]; rfl) rfl) ?_)
    | (refine ARun.p1 rfl rfl (pl_store (by simp (decide := true) only [Nat.reduceAdd, go_sem]; rfl) (by simp (decide := true) only [Nat.reduceAdd, go_sem]; rfl) (by simp (decide := true) only [Nat.reduceAdd, go_sem]; rfl) (by rfl) (by rfl) (by kernel_rfl) (by rfl) (by rfl)) ?_)
    | fail)
  refine AWp.cond (b := _) rfl (fun h1 => ?_) (fun h1 => ?_)
  · simp at h1
    have hv := hv (by unfold u1; omega)
    repeat (first
      | with_reducible refine AWp.seq ?_
      | ((with_reducible apply AWp.regionL); (refine ⟨rfl, rfl, ?_⟩; simp (decide := true) only [Nat.reduceAdd, List.map, go_sem]; rfl))
      | with_reducible refine ARun.nil ?_
      | with_reducible refine thenQ_n ?_
      | with_reducible refine thenQ_r ?_
      | with_reducible refine thenQ_e ?_
      | with_reducible refine blkQ_n ?_
      | with_reducible refine blkQ_r ?_
      | with_reducible refine blkQ_e ?_
      | with_reducible refine blkQ_o rfl ?_
      | with_reducible refine AWp.block ?_
      | with_reducible refine AWp.skip ?_
      | with_reducible refine AWp.ret ?_
      | with_reducible refine AWp.exit ?_
      | with_reducible refine retQ_n ?_
      | with_reducible refine retQ_r ?_
      | ((with_reducible apply ARun.go); (simp (decide := true) only [Nat.reduceAdd, go_sem]; rfl); (simp (decide := true) only [Nat.reduceAdd, go_sem]; (repeat simp (decide := true) only [Nat.reduceAdd, go_sem]); rfl))
      | (refine ARun.p1 rfl rfl (pl_box (by simp (decide := true) only [Nat.reduceAdd, go_sem]; rfl) rfl) ?_)
      | (refine ARun.p1 rfl rfl (pl_alloc (by simp only [Nat.reduceAdd, go_sem]; rfl) rfl) ?_)
      | (refine ARun.p1 rfl rfl (pl_store (by simp (decide := true) only [Nat.reduceAdd, go_sem]; rfl) (by simp (decide := true) only [Nat.reduceAdd, go_sem]; rfl) (by simp (decide := true) only [Nat.reduceAdd, go_sem]; rfl) (by rfl) (by rfl) (by kernel_rfl) (by rfl) (by rfl)) ?_)
      | fail)
    refine ARun.q1 rfl rfl (ql_callC (fresh_ok r s.v hv.1 hv.2) rfl (by simp (decide := true) only [Nat.reduceAdd, go_sem] <;> rfl) (by simp (decide := true) only [Nat.reduceAdd, go_sem, List.map]) (by simp [-List.map_take, -List.map_drop])) ?_
    repeat (first
      | with_reducible refine AWp.seq ?_
      | ((with_reducible apply AWp.regionL); (refine ⟨rfl, rfl, ?_⟩; simp (decide := true) only [Nat.reduceAdd, List.map, go_sem]; rfl))
      | with_reducible refine ARun.nil ?_
      | with_reducible refine thenQ_n ?_
      | with_reducible refine thenQ_r ?_
      | with_reducible refine thenQ_e ?_
      | with_reducible refine blkQ_n ?_
      | with_reducible refine blkQ_r ?_
      | with_reducible refine blkQ_e ?_
      | with_reducible refine blkQ_o rfl ?_
      | with_reducible refine AWp.block ?_
      | with_reducible refine AWp.skip ?_
      | with_reducible refine AWp.ret ?_
      | with_reducible refine AWp.exit ?_
      | with_reducible refine retQ_n ?_
      | with_reducible refine retQ_r ?_
      | ((with_reducible apply ARun.go); (simp (decide := true) only [Nat.reduceAdd, go_sem]; rfl); (simp (decide := true) only [Nat.reduceAdd, go_sem]; (repeat simp (decide := true) only [Nat.reduceAdd, go_sem]); rfl))
      | (refine ARun.p1 rfl rfl (pl_box (by simp (decide := true) only [Nat.reduceAdd, go_sem]; rfl) rfl) ?_)
      | (refine ARun.p1 rfl rfl (pl_alloc (by simp only [Nat.reduceAdd, go_sem]; rfl) rfl) ?_)
      | (refine ARun.p1 rfl rfl (pl_store (by simp (decide := true) only [Nat.reduceAdd, go_sem]; rfl) (by simp (decide := true) only [Nat.reduceAdd, go_sem]; rfl) (by simp (decide := true) only [Nat.reduceAdd, go_sem]; rfl) (by rfl) (by rfl) (by kernel_rfl) (by rfl) (by rfl)) ?_)
      | fail)
    exact Ret.data rfl (by simp only [afterR, afterE, h1, if_true]; rfl) (Pu_tupR _ _)
  simp at h1
  repeat (first
    | with_reducible refine AWp.seq ?_
    | ((with_reducible apply AWp.regionL); (refine ⟨rfl, rfl, ?_⟩; simp (decide := true) only [Nat.reduceAdd, List.map, go_sem]; rfl))
    | with_reducible refine ARun.nil ?_
    | with_reducible refine thenQ_n ?_
    | with_reducible refine thenQ_r ?_
    | with_reducible refine thenQ_e ?_
    | with_reducible refine blkQ_n ?_
    | with_reducible refine blkQ_r ?_
    | with_reducible refine blkQ_e ?_
    | with_reducible refine blkQ_o rfl ?_
    | with_reducible refine AWp.block ?_
    | with_reducible refine AWp.skip ?_
    | with_reducible refine AWp.ret ?_
    | with_reducible refine AWp.exit ?_
    | with_reducible refine retQ_n ?_
    | with_reducible refine retQ_r ?_
    | ((with_reducible apply ARun.go); (simp (decide := true) only [Nat.reduceAdd, go_sem]; rfl); (simp (decide := true) only [Nat.reduceAdd, go_sem]; (repeat simp (decide := true) only [Nat.reduceAdd, go_sem]); rfl))
    | (refine ARun.p1 rfl rfl (pl_box (by simp (decide := true) only [Nat.reduceAdd, go_sem]; rfl) rfl) ?_)
    | (refine ARun.p1 rfl rfl (pl_alloc (by simp only [Nat.reduceAdd, go_sem]; rfl) rfl) ?_)
    | (refine ARun.p1 rfl rfl (pl_store (by simp (decide := true) only [Nat.reduceAdd, go_sem]; rfl) (by simp (decide := true) only [Nat.reduceAdd, go_sem]; rfl) (by simp (decide := true) only [Nat.reduceAdd, go_sem]; rfl) (by rfl) (by rfl) (by kernel_rfl) (by rfl) (by rfl)) ?_)
    | fail)
  refine AWp.cond (b := _) rfl (fun h2 => ?_) (fun h2 => ?_)
  · simp at h2
    have hv := hv (by unfold u1; omega)
    have hw := hw (by unfold u2; omega)
    repeat (first
      | with_reducible refine AWp.seq ?_
      | ((with_reducible apply AWp.regionL); (refine ⟨rfl, rfl, ?_⟩; simp (decide := true) only [Nat.reduceAdd, List.map, go_sem]; rfl))
      | with_reducible refine ARun.nil ?_
      | with_reducible refine thenQ_n ?_
      | with_reducible refine thenQ_r ?_
      | with_reducible refine thenQ_e ?_
      | with_reducible refine blkQ_n ?_
      | with_reducible refine blkQ_r ?_
      | with_reducible refine blkQ_e ?_
      | with_reducible refine blkQ_o rfl ?_
      | with_reducible refine AWp.block ?_
      | with_reducible refine AWp.skip ?_
      | with_reducible refine AWp.ret ?_
      | with_reducible refine AWp.exit ?_
      | with_reducible refine retQ_n ?_
      | with_reducible refine retQ_r ?_
      | ((with_reducible apply ARun.go); (simp (decide := true) only [Nat.reduceAdd, go_sem]; rfl); (simp (decide := true) only [Nat.reduceAdd, go_sem]; (repeat simp (decide := true) only [Nat.reduceAdd, go_sem]); rfl))
      | (refine ARun.p1 rfl rfl (pl_box (by simp (decide := true) only [Nat.reduceAdd, go_sem]; rfl) rfl) ?_)
      | (refine ARun.p1 rfl rfl (pl_alloc (by simp only [Nat.reduceAdd, go_sem]; rfl) rfl) ?_)
      | (refine ARun.p1 rfl rfl (pl_store (by simp (decide := true) only [Nat.reduceAdd, go_sem]; rfl) (by simp (decide := true) only [Nat.reduceAdd, go_sem]; rfl) (by simp (decide := true) only [Nat.reduceAdd, go_sem]; rfl) (by rfl) (by rfl) (by kernel_rfl) (by rfl) (by rfl)) ?_)
      | fail)
    refine ARun.q1 rfl rfl (ql_buildSlice (by decide) Try.underlying32 sz3 (by kernel_rfl) (by decide) (by simp (decide := true) only [Nat.reduceAdd, List.map, go_sem] <;> rfl) (by simp (decide := true) only [Nat.reduceAdd, List.map, go_sem] <;> rfl) (by rfl)) ?_
    repeat (first
      | with_reducible refine AWp.seq ?_
      | ((with_reducible apply AWp.regionL); (refine ⟨rfl, rfl, ?_⟩; simp (decide := true) only [Nat.reduceAdd, List.map, go_sem]; rfl))
      | with_reducible refine ARun.nil ?_
      | with_reducible refine thenQ_n ?_
      | with_reducible refine thenQ_r ?_
      | with_reducible refine thenQ_e ?_
      | with_reducible refine blkQ_n ?_
      | with_reducible refine blkQ_r ?_
      | with_reducible refine blkQ_e ?_
      | with_reducible refine blkQ_o rfl ?_
      | with_reducible refine AWp.block ?_
      | with_reducible refine AWp.skip ?_
      | with_reducible refine AWp.ret ?_
      | with_reducible refine AWp.exit ?_
      | with_reducible refine retQ_n ?_
      | with_reducible refine retQ_r ?_
      | ((with_reducible apply ARun.go); (simp (decide := true) only [Nat.reduceAdd, go_sem]; rfl); (simp (decide := true) only [Nat.reduceAdd, go_sem]; (repeat simp (decide := true) only [Nat.reduceAdd, go_sem]); rfl))
      | (refine ARun.p1 rfl rfl (pl_box (by simp (decide := true) only [Nat.reduceAdd, go_sem]; rfl) rfl) ?_)
      | (refine ARun.p1 rfl rfl (pl_alloc (by simp only [Nat.reduceAdd, go_sem]; rfl) rfl) ?_)
      | (refine ARun.p1 rfl rfl (pl_store (by simp (decide := true) only [Nat.reduceAdd, go_sem]; rfl) (by simp (decide := true) only [Nat.reduceAdd, go_sem]; rfl) (by simp (decide := true) only [Nat.reduceAdd, go_sem]; rfl) (by rfl) (by rfl) (by kernel_rfl) (by rfl) (by rfl)) ?_)
      | fail)
    refine ARun.q1 rfl rfl (ql_callC (must_ok r [s.w] (by simpa using hw)) rfl (by simp (decide := true) only [Nat.reduceAdd, go_sem] <;> rfl) (by simp (decide := true) only [Nat.reduceAdd, go_sem, List.map]) (by simp [-List.map_take, -List.map_drop])) ?_
    repeat (first
      | with_reducible refine AWp.seq ?_
      | ((with_reducible apply AWp.regionL); (refine ⟨rfl, rfl, ?_⟩; simp (decide := true) only [Nat.reduceAdd, List.map, go_sem]; rfl))
      | with_reducible refine ARun.nil ?_
      | with_reducible refine thenQ_n ?_
      | with_reducible refine thenQ_r ?_
      | with_reducible refine thenQ_e ?_
      | with_reducible refine blkQ_n ?_
      | with_reducible refine blkQ_r ?_
      | with_reducible refine blkQ_e ?_
      | with_reducible refine blkQ_o rfl ?_
      | with_reducible refine AWp.block ?_
      | with_reducible refine AWp.skip ?_
      | with_reducible refine AWp.ret ?_
      | with_reducible refine AWp.exit ?_
      | with_reducible refine retQ_n ?_
      | with_reducible refine retQ_r ?_
      | ((with_reducible apply ARun.go); (simp (decide := true) only [Nat.reduceAdd, go_sem]; rfl); (simp (decide := true) only [Nat.reduceAdd, go_sem]; (repeat simp (decide := true) only [Nat.reduceAdd, go_sem]); rfl))
      | (refine ARun.p1 rfl rfl (pl_box (by simp (decide := true) only [Nat.reduceAdd, go_sem]; rfl) rfl) ?_)
      | (refine ARun.p1 rfl rfl (pl_alloc (by simp only [Nat.reduceAdd, go_sem]; rfl) rfl) ?_)
      | (refine ARun.p1 rfl rfl (pl_store (by simp (decide := true) only [Nat.reduceAdd, go_sem]; rfl) (by simp (decide := true) only [Nat.reduceAdd, go_sem]; rfl) (by simp (decide := true) only [Nat.reduceAdd, go_sem]; rfl) (by rfl) (by rfl) (by kernel_rfl) (by rfl) (by rfl)) ?_)
      | fail)
    refine AWp.cond (b := _) rfl (fun hm => ?_) (fun hm => ?_)
    · simp at hm
      repeat (first
        | with_reducible refine AWp.seq ?_
        | ((with_reducible apply AWp.regionL); (refine ⟨rfl, rfl, ?_⟩; simp (decide := true) only [Nat.reduceAdd, List.map, go_sem]; rfl))
        | with_reducible refine ARun.nil ?_
        | with_reducible refine thenQ_n ?_
        | with_reducible refine thenQ_r ?_
        | with_reducible refine thenQ_e ?_
        | with_reducible refine blkQ_n ?_
        | with_reducible refine blkQ_r ?_
        | with_reducible refine blkQ_e ?_
        | with_reducible refine blkQ_o rfl ?_
        | with_reducible refine AWp.block ?_
        | with_reducible refine AWp.skip ?_
        | with_reducible refine AWp.ret ?_
        | with_reducible refine AWp.exit ?_
        | with_reducible refine retQ_n ?_
        | with_reducible refine retQ_r ?_
        | ((with_reducible apply ARun.go); (simp (decide := true) only [Nat.reduceAdd, go_sem]; rfl); (simp (decide := true) only [Nat.reduceAdd, go_sem]; (repeat simp (decide := true) only [Nat.reduceAdd, go_sem]); rfl))
        | (refine ARun.p1 rfl rfl (pl_box (by simp (decide := true) only [Nat.reduceAdd, go_sem]; rfl) rfl) ?_)
        | (refine ARun.p1 rfl rfl (pl_alloc (by simp only [Nat.reduceAdd, go_sem]; rfl) rfl) ?_)
        | (refine ARun.p1 rfl rfl (pl_store (by simp (decide := true) only [Nat.reduceAdd, go_sem]; rfl) (by simp (decide := true) only [Nat.reduceAdd, go_sem]; rfl) (by simp (decide := true) only [Nat.reduceAdd, go_sem]; rfl) (by rfl) (by rfl) (by kernel_rfl) (by rfl) (by rfl)) ?_)
        | fail)
      exact Ret.data rfl (by simp only [afterR, afterE, h2, hm, if_true, if_false]; rfl) (Pu_tupR _ _)
    simp at hm
    have g := getR (f := r.of) (a := .int r.count) (b := .int r.actor) hw.1 hw.2
    repeat (first
      | with_reducible refine AWp.seq ?_
      | ((with_reducible apply AWp.regionL); (refine ⟨rfl, rfl, ?_⟩; simp (decide := true) only [Nat.reduceAdd, List.map, go_sem]; rfl))
      | with_reducible refine ARun.nil ?_
      | with_reducible refine thenQ_n ?_
      | with_reducible refine thenQ_r ?_
      | with_reducible refine thenQ_e ?_
      | with_reducible refine blkQ_n ?_
      | with_reducible refine blkQ_r ?_
      | with_reducible refine blkQ_e ?_
      | with_reducible refine blkQ_o rfl ?_
      | with_reducible refine AWp.block ?_
      | with_reducible refine AWp.skip ?_
      | with_reducible refine AWp.ret ?_
      | with_reducible refine AWp.exit ?_
      | with_reducible refine retQ_n ?_
      | with_reducible refine retQ_r ?_
      | ((with_reducible apply ARun.go); (simp (decide := true) only [Nat.reduceAdd, go_sem]; rfl); (simp (decide := true) only [Nat.reduceAdd, go_sem]; (repeat simp (decide := true) only [Nat.reduceAdd, go_sem]); rfl))
      | (refine ARun.p1 rfl rfl (pl_box (by simp (decide := true) only [Nat.reduceAdd, go_sem]; rfl) rfl) ?_)
      | (refine ARun.p1 rfl rfl (pl_alloc (by simp only [Nat.reduceAdd, go_sem]; rfl) rfl) ?_)
      | (refine ARun.p1 rfl rfl (pl_store (by simp (decide := true) only [Nat.reduceAdd, go_sem]; rfl) (by simp (decide := true) only [Nat.reduceAdd, go_sem]; rfl) (by simp (decide := true) only [Nat.reduceAdd, go_sem]; rfl) (by rfl) (by rfl) (by kernel_rfl) (by rfl) (by rfl)) ?_)
      | fail)
    ((with_reducible apply AWp.drawL (k := 9) follows); (refine ⟨rfl, rfl, by kernel_rfl, by decide, ?_, ?_⟩; (simp (decide := true) only [Nat.reduceAdd, go_sem, List.map, List.take]; rfl); (simp (decide := true) only [Nat.reduceAdd, go_sem, List.map, List.drop]; rfl)))
    repeat (first
      | with_reducible refine AWp.seq ?_
      | ((with_reducible apply AWp.regionL); (refine ⟨rfl, rfl, ?_⟩; simp (decide := true) only [Nat.reduceAdd, List.map, go_sem]; rfl))
      | with_reducible refine ARun.nil ?_
      | with_reducible refine thenQ_n ?_
      | with_reducible refine thenQ_r ?_
      | with_reducible refine thenQ_e ?_
      | with_reducible refine blkQ_n ?_
      | with_reducible refine blkQ_r ?_
      | with_reducible refine blkQ_e ?_
      | with_reducible refine blkQ_o rfl ?_
      | with_reducible refine AWp.block ?_
      | with_reducible refine AWp.skip ?_
      | with_reducible refine AWp.ret ?_
      | with_reducible refine AWp.exit ?_
      | with_reducible refine retQ_n ?_
      | with_reducible refine retQ_r ?_
      | ((with_reducible apply ARun.go); (simp (decide := true) only [Nat.reduceAdd, go_sem]; rfl); (simp (decide := true) only [Nat.reduceAdd, go_sem]; (repeat simp (decide := true) only [Nat.reduceAdd, go_sem]); rfl))
      | (refine ARun.p1 rfl rfl (pl_box (by simp (decide := true) only [Nat.reduceAdd, go_sem]; rfl) rfl) ?_)
      | (refine ARun.p1 rfl rfl (pl_alloc (by simp only [Nat.reduceAdd, go_sem]; rfl) rfl) ?_)
      | (refine ARun.p1 rfl rfl (pl_store (by simp (decide := true) only [Nat.reduceAdd, go_sem]; rfl) (by simp (decide := true) only [Nat.reduceAdd, go_sem]; rfl) (by simp (decide := true) only [Nat.reduceAdd, go_sem]; rfl) (by rfl) (by rfl) (by kernel_rfl) (by rfl) (by rfl)) ?_)
      | fail)
    refine ARun.q1 rfl rfl (ql_indexAddr_ptr rfl rfl rfl Try.underlying58 hw.1 hw.2 sz3) ?_
    repeat (first
      | with_reducible refine AWp.seq ?_
      | ((with_reducible apply AWp.regionL); (refine ⟨rfl, rfl, ?_⟩; simp (decide := true) only [Nat.reduceAdd, List.map, go_sem]; rfl))
      | with_reducible refine ARun.nil ?_
      | with_reducible refine thenQ_n ?_
      | with_reducible refine thenQ_r ?_
      | with_reducible refine thenQ_e ?_
      | with_reducible refine blkQ_n ?_
      | with_reducible refine blkQ_r ?_
      | with_reducible refine blkQ_e ?_
      | with_reducible refine blkQ_o rfl ?_
      | with_reducible refine AWp.block ?_
      | with_reducible refine AWp.skip ?_
      | with_reducible refine AWp.ret ?_
      | with_reducible refine AWp.exit ?_
      | with_reducible refine retQ_n ?_
      | with_reducible refine retQ_r ?_
      | ((with_reducible apply ARun.go); (simp (decide := true) only [Nat.reduceAdd, go_sem, g]; rfl); (simp (decide := true) only [Nat.reduceAdd, go_sem, g]; (repeat simp (decide := true) only [Nat.reduceAdd, go_sem, g]); rfl))
      | (refine ARun.p1 rfl rfl (pl_box (by simp (decide := true) only [Nat.reduceAdd, go_sem, g]; rfl) rfl) ?_)
      | (refine ARun.p1 rfl rfl (pl_alloc (by simp only [Nat.reduceAdd, go_sem]; rfl) rfl) ?_)
      | (refine ARun.p1 rfl rfl (pl_store (by simp (decide := true) only [Nat.reduceAdd, go_sem, g]; rfl) (by simp (decide := true) only [Nat.reduceAdd, go_sem, g]; rfl) (by simp (decide := true) only [Nat.reduceAdd, go_sem]; rfl) (by rfl) (by rfl) (by kernel_rfl) (by rfl) (by rfl)) ?_)
      | fail)
    refine ARun.q1 rfl rfl (ql_indexAddr_ptr rfl rfl rfl Try.underlying58 hv.1 hv.2 sz3) ?_
    repeat (first
      | with_reducible refine AWp.seq ?_
      | ((with_reducible apply AWp.regionL); (refine ⟨rfl, rfl, ?_⟩; simp (decide := true) only [Nat.reduceAdd, List.map, go_sem]; rfl))
      | with_reducible refine ARun.nil ?_
      | with_reducible refine thenQ_n ?_
      | with_reducible refine thenQ_r ?_
      | with_reducible refine thenQ_e ?_
      | with_reducible refine blkQ_n ?_
      | with_reducible refine blkQ_r ?_
      | with_reducible refine blkQ_e ?_
      | with_reducible refine blkQ_o rfl ?_
      | with_reducible refine AWp.block ?_
      | with_reducible refine AWp.skip ?_
      | with_reducible refine AWp.ret ?_
      | with_reducible refine AWp.exit ?_
      | with_reducible refine retQ_n ?_
      | with_reducible refine retQ_r ?_
      | ((with_reducible apply ARun.go); (simp (decide := true) only [Nat.reduceAdd, go_sem]; rfl); (simp (decide := true) only [Nat.reduceAdd, go_sem]; (repeat simp (decide := true) only [Nat.reduceAdd, go_sem]); rfl))
      | (refine ARun.p1 rfl rfl (pl_box (by simp (decide := true) only [Nat.reduceAdd, go_sem]; rfl) rfl) ?_)
      | (refine ARun.p1 rfl rfl (pl_alloc (by simp only [Nat.reduceAdd, go_sem]; rfl) rfl) ?_)
      | (refine ARun.p1 rfl rfl (pl_store (by simp (decide := true) only [Nat.reduceAdd, go_sem]; rfl) (by simp (decide := true) only [Nat.reduceAdd, go_sem]; rfl) (by simp (decide := true) only [Nat.reduceAdd, go_sem]; rfl) (by rfl) (by rfl) (by kernel_rfl) (by rfl) (by rfl)) ?_)
      | fail)
    refine ARun.p1 rfl rfl (pl_storeR (f := r.of) (n := s.v) (by simp (decide := true) only [Nat.reduceAdd, go_sem] <;> rfl) (by simp (decide := true) only [Nat.reduceAdd, go_sem] <;> rfl) (by simp (decide := true) only [Nat.reduceAdd, go_sem] <;> rfl) hv.1 hv.2 sz3) ?_
    repeat (first
      | with_reducible refine AWp.seq ?_
      | ((with_reducible apply AWp.regionL); (refine ⟨rfl, rfl, ?_⟩; simp (decide := true) only [Nat.reduceAdd, List.map, go_sem]; rfl))
      | with_reducible refine ARun.nil ?_
      | with_reducible refine thenQ_n ?_
      | with_reducible refine thenQ_r ?_
      | with_reducible refine thenQ_e ?_
      | with_reducible refine blkQ_n ?_
      | with_reducible refine blkQ_r ?_
      | with_reducible refine blkQ_e ?_
      | with_reducible refine blkQ_o rfl ?_
      | with_reducible refine AWp.block ?_
      | with_reducible refine AWp.skip ?_
      | with_reducible refine AWp.ret ?_
      | with_reducible refine AWp.exit ?_
      | with_reducible refine retQ_n ?_
      | with_reducible refine retQ_r ?_
      | ((with_reducible apply ARun.go); (simp (decide := true) only [Nat.reduceAdd, go_sem]; rfl); (simp (decide := true) only [Nat.reduceAdd, go_sem]; (repeat simp (decide := true) only [Nat.reduceAdd, go_sem]); rfl))
      | (refine ARun.p1 rfl rfl (pl_box (by simp (decide := true) only [Nat.reduceAdd, go_sem]; rfl) rfl) ?_)
      | (refine ARun.p1 rfl rfl (pl_alloc (by simp only [Nat.reduceAdd, go_sem]; rfl) rfl) ?_)
      | (refine ARun.p1 rfl rfl (pl_store (by simp (decide := true) only [Nat.reduceAdd, go_sem]; rfl) (by simp (decide := true) only [Nat.reduceAdd, go_sem]; rfl) (by simp (decide := true) only [Nat.reduceAdd, go_sem]; rfl) (by rfl) (by rfl) (by kernel_rfl) (by rfl) (by rfl)) ?_)
      | fail)
    exact Ret.data rfl (by simp only [afterR, afterE, h2, hm, if_true]; rfl) (Pu_tupR _ _)
  simp at h2
  repeat (first
    | with_reducible refine AWp.seq ?_
    | ((with_reducible apply AWp.regionL); (refine ⟨rfl, rfl, ?_⟩; simp (decide := true) only [Nat.reduceAdd, List.map, go_sem]; rfl))
    | with_reducible refine ARun.nil ?_
    | with_reducible refine thenQ_n ?_
    | with_reducible refine thenQ_r ?_
    | with_reducible refine thenQ_e ?_
    | with_reducible refine blkQ_n ?_
    | with_reducible refine blkQ_r ?_
    | with_reducible refine blkQ_e ?_
    | with_reducible refine blkQ_o rfl ?_
    | with_reducible refine AWp.block ?_
    | with_reducible refine AWp.skip ?_
    | with_reducible refine AWp.ret ?_
    | with_reducible refine AWp.exit ?_
    | with_reducible refine retQ_n ?_
    | with_reducible refine retQ_r ?_
    | ((with_reducible apply ARun.go); (simp (decide := true) only [Nat.reduceAdd, go_sem]; rfl); (simp (decide := true) only [Nat.reduceAdd, go_sem]; (repeat simp (decide := true) only [Nat.reduceAdd, go_sem]); rfl))
    | (refine ARun.p1 rfl rfl (pl_box (by simp (decide := true) only [Nat.reduceAdd, go_sem]; rfl) rfl) ?_)
    | (refine ARun.p1 rfl rfl (pl_alloc (by simp only [Nat.reduceAdd, go_sem]; rfl) rfl) ?_)
    | (refine ARun.p1 rfl rfl (pl_store (by simp (decide := true) only [Nat.reduceAdd, go_sem]; rfl) (by simp (decide := true) only [Nat.reduceAdd, go_sem]; rfl) (by simp (decide := true) only [Nat.reduceAdd, go_sem]; rfl) (by rfl) (by rfl) (by kernel_rfl) (by rfl) (by rfl)) ?_)
    | fail)
  refine AWp.cond (b := _) rfl (fun h3 => ?_) (fun h3 => ?_)
  · simp at h3
    have hv := hv (by unfold u1; omega)
    have hw := hw (by unfold u2; omega)
    repeat (first
      | with_reducible refine AWp.seq ?_
      | ((with_reducible apply AWp.regionL); (refine ⟨rfl, rfl, ?_⟩; simp (decide := true) only [Nat.reduceAdd, List.map, go_sem]; rfl))
      | with_reducible refine ARun.nil ?_
      | with_reducible refine thenQ_n ?_
      | with_reducible refine thenQ_r ?_
      | with_reducible refine thenQ_e ?_
      | with_reducible refine blkQ_n ?_
      | with_reducible refine blkQ_r ?_
      | with_reducible refine blkQ_e ?_
      | with_reducible refine blkQ_o rfl ?_
      | with_reducible refine AWp.block ?_
      | with_reducible refine AWp.skip ?_
      | with_reducible refine AWp.ret ?_
      | with_reducible refine AWp.exit ?_
      | with_reducible refine retQ_n ?_
      | with_reducible refine retQ_r ?_
      | ((with_reducible apply ARun.go); (simp (decide := true) only [Nat.reduceAdd, go_sem]; rfl); (simp (decide := true) only [Nat.reduceAdd, go_sem]; (repeat simp (decide := true) only [Nat.reduceAdd, go_sem]); rfl))
      | (refine ARun.p1 rfl rfl (pl_box (by simp (decide := true) only [Nat.reduceAdd, go_sem]; rfl) rfl) ?_)
      | (refine ARun.p1 rfl rfl (pl_alloc (by simp only [Nat.reduceAdd, go_sem]; rfl) rfl) ?_)
      | (refine ARun.p1 rfl rfl (pl_store (by simp (decide := true) only [Nat.reduceAdd, go_sem]; rfl) (by simp (decide := true) only [Nat.reduceAdd, go_sem]; rfl) (by simp (decide := true) only [Nat.reduceAdd, go_sem]; rfl) (by rfl) (by rfl) (by kernel_rfl) (by rfl) (by rfl)) ?_)
      | fail)
    refine ARun.q1 rfl rfl (ql_buildSlice (by decide) Try.underlying32 sz3 (by kernel_rfl) (by decide) (by simp (decide := true) only [Nat.reduceAdd, List.map, go_sem] <;> rfl) (by simp (decide := true) only [Nat.reduceAdd, List.map, go_sem] <;> rfl) (by rfl)) ?_
    repeat (first
      | with_reducible refine AWp.seq ?_
      | ((with_reducible apply AWp.regionL); (refine ⟨rfl, rfl, ?_⟩; simp (decide := true) only [Nat.reduceAdd, List.map, go_sem]; rfl))
      | with_reducible refine ARun.nil ?_
      | with_reducible refine thenQ_n ?_
      | with_reducible refine thenQ_r ?_
      | with_reducible refine thenQ_e ?_
      | with_reducible refine blkQ_n ?_
      | with_reducible refine blkQ_r ?_
      | with_reducible refine blkQ_e ?_
      | with_reducible refine blkQ_o rfl ?_
      | with_reducible refine AWp.block ?_
      | with_reducible refine AWp.skip ?_
      | with_reducible refine AWp.ret ?_
      | with_reducible refine AWp.exit ?_
      | with_reducible refine retQ_n ?_
      | with_reducible refine retQ_r ?_
      | ((with_reducible apply ARun.go); (simp (decide := true) only [Nat.reduceAdd, go_sem]; rfl); (simp (decide := true) only [Nat.reduceAdd, go_sem]; (repeat simp (decide := true) only [Nat.reduceAdd, go_sem]); rfl))
      | (refine ARun.p1 rfl rfl (pl_box (by simp (decide := true) only [Nat.reduceAdd, go_sem]; rfl) rfl) ?_)
      | (refine ARun.p1 rfl rfl (pl_alloc (by simp only [Nat.reduceAdd, go_sem]; rfl) rfl) ?_)
      | (refine ARun.p1 rfl rfl (pl_store (by simp (decide := true) only [Nat.reduceAdd, go_sem]; rfl) (by simp (decide := true) only [Nat.reduceAdd, go_sem]; rfl) (by simp (decide := true) only [Nat.reduceAdd, go_sem]; rfl) (by rfl) (by rfl) (by kernel_rfl) (by rfl) (by rfl)) ?_)
      | fail)
    refine ARun.q1 rfl rfl (ql_callC (must_ok r [s.v, s.w] (by simpa using ⟨hv, hw⟩)) rfl (by simp (decide := true) only [Nat.reduceAdd, go_sem] <;> rfl) (by simp (decide := true) only [Nat.reduceAdd, go_sem, List.map]) (by simp [-List.map_take, -List.map_drop])) ?_
    repeat (first
      | with_reducible refine AWp.seq ?_
      | ((with_reducible apply AWp.regionL); (refine ⟨rfl, rfl, ?_⟩; simp (decide := true) only [Nat.reduceAdd, List.map, go_sem]; rfl))
      | with_reducible refine ARun.nil ?_
      | with_reducible refine thenQ_n ?_
      | with_reducible refine thenQ_r ?_
      | with_reducible refine thenQ_e ?_
      | with_reducible refine blkQ_n ?_
      | with_reducible refine blkQ_r ?_
      | with_reducible refine blkQ_e ?_
      | with_reducible refine blkQ_o rfl ?_
      | with_reducible refine AWp.block ?_
      | with_reducible refine AWp.skip ?_
      | with_reducible refine AWp.ret ?_
      | with_reducible refine AWp.exit ?_
      | with_reducible refine retQ_n ?_
      | with_reducible refine retQ_r ?_
      | ((with_reducible apply ARun.go); (simp (decide := true) only [Nat.reduceAdd, go_sem]; rfl); (simp (decide := true) only [Nat.reduceAdd, go_sem]; (repeat simp (decide := true) only [Nat.reduceAdd, go_sem]); rfl))
      | (refine ARun.p1 rfl rfl (pl_box (by simp (decide := true) only [Nat.reduceAdd, go_sem]; rfl) rfl) ?_)
      | (refine ARun.p1 rfl rfl (pl_alloc (by simp only [Nat.reduceAdd, go_sem]; rfl) rfl) ?_)
      | (refine ARun.p1 rfl rfl (pl_store (by simp (decide := true) only [Nat.reduceAdd, go_sem]; rfl) (by simp (decide := true) only [Nat.reduceAdd, go_sem]; rfl) (by simp (decide := true) only [Nat.reduceAdd, go_sem]; rfl) (by rfl) (by rfl) (by kernel_rfl) (by rfl) (by rfl)) ?_)
      | fail)
    refine AWp.cond (b := _) rfl (fun hm => ?_) (fun hm => ?_)
    · simp at hm
      repeat (first
        | with_reducible refine AWp.seq ?_
        | ((with_reducible apply AWp.regionL); (refine ⟨rfl, rfl, ?_⟩; simp (decide := true) only [Nat.reduceAdd, List.map, go_sem]; rfl))
        | with_reducible refine ARun.nil ?_
        | with_reducible refine thenQ_n ?_
        | with_reducible refine thenQ_r ?_
        | with_reducible refine thenQ_e ?_
        | with_reducible refine blkQ_n ?_
        | with_reducible refine blkQ_r ?_
        | with_reducible refine blkQ_e ?_
        | with_reducible refine blkQ_o rfl ?_
        | with_reducible refine AWp.block ?_
        | with_reducible refine AWp.skip ?_
        | with_reducible refine AWp.ret ?_
        | with_reducible refine AWp.exit ?_
        | with_reducible refine retQ_n ?_
        | with_reducible refine retQ_r ?_
        | ((with_reducible apply ARun.go); (simp (decide := true) only [Nat.reduceAdd, go_sem]; rfl); (simp (decide := true) only [Nat.reduceAdd, go_sem]; (repeat simp (decide := true) only [Nat.reduceAdd, go_sem]); rfl))
        | (refine ARun.p1 rfl rfl (pl_box (by simp (decide := true) only [Nat.reduceAdd, go_sem]; rfl) rfl) ?_)
        | (refine ARun.p1 rfl rfl (pl_alloc (by simp only [Nat.reduceAdd, go_sem]; rfl) rfl) ?_)
        | (refine ARun.p1 rfl rfl (pl_store (by simp (decide := true) only [Nat.reduceAdd, go_sem]; rfl) (by simp (decide := true) only [Nat.reduceAdd, go_sem]; rfl) (by simp (decide := true) only [Nat.reduceAdd, go_sem]; rfl) (by rfl) (by rfl) (by kernel_rfl) (by rfl) (by rfl)) ?_)
        | fail)
      exact Ret.data rfl (by simp only [afterR, afterE, h3, hm, if_true, if_false]; rfl) (Pu_tupR _ _)
    simp at hm
    repeat (first
      | with_reducible refine AWp.seq ?_
      | ((with_reducible apply AWp.regionL); (refine ⟨rfl, rfl, ?_⟩; simp (decide := true) only [Nat.reduceAdd, List.map, go_sem]; rfl))
      | with_reducible refine ARun.nil ?_
      | with_reducible refine thenQ_n ?_
      | with_reducible refine thenQ_r ?_
      | with_reducible refine thenQ_e ?_
      | with_reducible refine blkQ_n ?_
      | with_reducible refine blkQ_r ?_
      | with_reducible refine blkQ_e ?_
      | with_reducible refine blkQ_o rfl ?_
      | with_reducible refine AWp.block ?_
      | with_reducible refine AWp.skip ?_
      | with_reducible refine AWp.ret ?_
      | with_reducible refine AWp.exit ?_
      | with_reducible refine retQ_n ?_
      | with_reducible refine retQ_r ?_
      | ((with_reducible apply ARun.go); (simp (decide := true) only [Nat.reduceAdd, go_sem]; rfl); (simp (decide := true) only [Nat.reduceAdd, go_sem]; (repeat simp (decide := true) only [Nat.reduceAdd, go_sem]); rfl))
      | (refine ARun.p1 rfl rfl (pl_box (by simp (decide := true) only [Nat.reduceAdd, go_sem]; rfl) rfl) ?_)
      | (refine ARun.p1 rfl rfl (pl_alloc (by simp only [Nat.reduceAdd, go_sem]; rfl) rfl) ?_)
      | (refine ARun.p1 rfl rfl (pl_store (by simp (decide := true) only [Nat.reduceAdd, go_sem]; rfl) (by simp (decide := true) only [Nat.reduceAdd, go_sem]; rfl) (by simp (decide := true) only [Nat.reduceAdd, go_sem]; rfl) (by rfl) (by rfl) (by kernel_rfl) (by rfl) (by rfl)) ?_)
      | fail)
    refine ARun.q1 rfl rfl (ql_callC (join_ok r s.v s.w hv hw) rfl (by simp (decide := true) only [Nat.reduceAdd, go_sem] <;> rfl) (by simp (decide := true) only [Nat.reduceAdd, go_sem, List.map]) (by simp [-List.map_take, -List.map_drop])) ?_
    repeat (first
      | with_reducible refine AWp.seq ?_
      | ((with_reducible apply AWp.regionL); (refine ⟨rfl, rfl, ?_⟩; simp (decide := true) only [Nat.reduceAdd, List.map, go_sem]; rfl))
      | with_reducible refine ARun.nil ?_
      | with_reducible refine thenQ_n ?_
      | with_reducible refine thenQ_r ?_
      | with_reducible refine thenQ_e ?_
      | with_reducible refine blkQ_n ?_
      | with_reducible refine blkQ_r ?_
      | with_reducible refine blkQ_e ?_
      | with_reducible refine blkQ_o rfl ?_
      | with_reducible refine AWp.block ?_
      | with_reducible refine AWp.skip ?_
      | with_reducible refine AWp.ret ?_
      | with_reducible refine AWp.exit ?_
      | with_reducible refine retQ_n ?_
      | with_reducible refine retQ_r ?_
      | ((with_reducible apply ARun.go); (simp (decide := true) only [Nat.reduceAdd, go_sem]; rfl); (simp (decide := true) only [Nat.reduceAdd, go_sem]; (repeat simp (decide := true) only [Nat.reduceAdd, go_sem]); rfl))
      | (refine ARun.p1 rfl rfl (pl_box (by simp (decide := true) only [Nat.reduceAdd, go_sem]; rfl) rfl) ?_)
      | (refine ARun.p1 rfl rfl (pl_alloc (by simp only [Nat.reduceAdd, go_sem]; rfl) rfl) ?_)
      | (refine ARun.p1 rfl rfl (pl_store (by simp (decide := true) only [Nat.reduceAdd, go_sem]; rfl) (by simp (decide := true) only [Nat.reduceAdd, go_sem]; rfl) (by simp (decide := true) only [Nat.reduceAdd, go_sem]; rfl) (by rfl) (by rfl) (by kernel_rfl) (by rfl) (by rfl)) ?_)
      | fail)
    exact Ret.data rfl (by simp only [afterR, afterE, h3, hm, if_true]; rfl) (Pu_tupR _ _)
  simp at h3
  repeat (first
    | with_reducible refine AWp.seq ?_
    | ((with_reducible apply AWp.regionL); (refine ⟨rfl, rfl, ?_⟩; simp (decide := true) only [Nat.reduceAdd, List.map, go_sem]; rfl))
    | with_reducible refine ARun.nil ?_
    | with_reducible refine thenQ_n ?_
    | with_reducible refine thenQ_r ?_
    | with_reducible refine thenQ_e ?_
    | with_reducible refine blkQ_n ?_
    | with_reducible refine blkQ_r ?_
    | with_reducible refine blkQ_e ?_
    | with_reducible refine blkQ_o rfl ?_
    | with_reducible refine AWp.block ?_
    | with_reducible refine AWp.skip ?_
    | with_reducible refine AWp.ret ?_
    | with_reducible refine AWp.exit ?_
    | with_reducible refine retQ_n ?_
    | with_reducible refine retQ_r ?_
    | ((with_reducible apply ARun.go); (simp (decide := true) only [Nat.reduceAdd, go_sem]; rfl); (simp (decide := true) only [Nat.reduceAdd, go_sem]; (repeat simp (decide := true) only [Nat.reduceAdd, go_sem]); rfl))
    | (refine ARun.p1 rfl rfl (pl_box (by simp (decide := true) only [Nat.reduceAdd, go_sem]; rfl) rfl) ?_)
    | (refine ARun.p1 rfl rfl (pl_alloc (by simp only [Nat.reduceAdd, go_sem]; rfl) rfl) ?_)
    | (refine ARun.p1 rfl rfl (pl_store (by simp (decide := true) only [Nat.reduceAdd, go_sem]; rfl) (by simp (decide := true) only [Nat.reduceAdd, go_sem]; rfl) (by simp (decide := true) only [Nat.reduceAdd, go_sem]; rfl) (by rfl) (by rfl) (by kernel_rfl) (by rfl) (by rfl)) ?_)
    | fail)
  refine AWp.join (S 56 (decide (s.op = 4 ∨ s.op = 5))) ?_ ?_
  · refine AWp.cond (b := _) rfl (fun ho => ?_) (fun ho => ?_)
    · repeat (first
        | with_reducible refine AWp.seq ?_
        | ((with_reducible apply AWp.regionL); (refine ⟨rfl, rfl, ?_⟩; simp (decide := true) only [Nat.reduceAdd, List.map, go_sem]; rfl))
        | with_reducible refine ARun.nil ?_
        | with_reducible refine thenQ_n ?_
        | with_reducible refine thenQ_r ?_
        | with_reducible refine thenQ_e ?_
        | with_reducible refine blkQ_n ?_
        | with_reducible refine blkQ_r ?_
        | with_reducible refine blkQ_e ?_
        | with_reducible refine blkQ_o rfl ?_
        | with_reducible refine AWp.block ?_
        | with_reducible refine AWp.skip ?_
        | with_reducible refine AWp.ret ?_
        | with_reducible refine AWp.exit ?_
        | with_reducible refine retQ_n ?_
        | with_reducible refine retQ_r ?_
        | ((with_reducible apply ARun.go); (simp (decide := true) only [Nat.reduceAdd, go_sem]; rfl); (simp (decide := true) only [Nat.reduceAdd, go_sem]; (repeat simp (decide := true) only [Nat.reduceAdd, go_sem]); rfl))
        | (refine ARun.p1 rfl rfl (pl_box (by simp (decide := true) only [Nat.reduceAdd, go_sem]; rfl) rfl) ?_)
        | (refine ARun.p1 rfl rfl (pl_alloc (by simp only [Nat.reduceAdd, go_sem]; rfl) rfl) ?_)
        | (refine ARun.p1 rfl rfl (pl_store (by simp (decide := true) only [Nat.reduceAdd, go_sem]; rfl) (by simp (decide := true) only [Nat.reduceAdd, go_sem]; rfl) (by simp (decide := true) only [Nat.reduceAdd, go_sem]; rfl) (by rfl) (by rfl) (by kernel_rfl) (by rfl) (by rfl)) ?_)
        | fail)
      exact .env' (by simp (decide := true) only [go_sem]; simp at ho; simp [ho, Le.refl])
    · repeat (first
        | with_reducible refine AWp.seq ?_
        | ((with_reducible apply AWp.regionL); (refine ⟨rfl, rfl, ?_⟩; simp (decide := true) only [Nat.reduceAdd, List.map, go_sem]; rfl))
        | with_reducible refine ARun.nil ?_
        | with_reducible refine thenQ_n ?_
        | with_reducible refine thenQ_r ?_
        | with_reducible refine thenQ_e ?_
        | with_reducible refine blkQ_n ?_
        | with_reducible refine blkQ_r ?_
        | with_reducible refine blkQ_e ?_
        | with_reducible refine blkQ_o rfl ?_
        | with_reducible refine AWp.block ?_
        | with_reducible refine AWp.skip ?_
        | with_reducible refine AWp.ret ?_
        | with_reducible refine AWp.exit ?_
        | with_reducible refine retQ_n ?_
        | with_reducible refine retQ_r ?_
        | ((with_reducible apply ARun.go); (simp (decide := true) only [Nat.reduceAdd, go_sem]; rfl); (simp (decide := true) only [Nat.reduceAdd, go_sem]; (repeat simp (decide := true) only [Nat.reduceAdd, go_sem]); rfl))
        | (refine ARun.p1 rfl rfl (pl_box (by simp (decide := true) only [Nat.reduceAdd, go_sem]; rfl) rfl) ?_)
        | (refine ARun.p1 rfl rfl (pl_alloc (by simp only [Nat.reduceAdd, go_sem]; rfl) rfl) ?_)
        | (refine ARun.p1 rfl rfl (pl_store (by simp (decide := true) only [Nat.reduceAdd, go_sem]; rfl) (by simp (decide := true) only [Nat.reduceAdd, go_sem]; rfl) (by simp (decide := true) only [Nat.reduceAdd, go_sem]; rfl) (by rfl) (by rfl) (by kernel_rfl) (by rfl) (by rfl)) ?_)
        | fail)
      exact .env' (by simp (decide := true) only [go_sem]; simp at ho; simp [ho, Le.refl])
  simp only [S]
  refine AWp.cond (b := _) rfl (fun h4 => ?_) (fun h4 => ?_)
  · simp at h4
    have hv := hv (by unfold u1; omega)
    repeat (first
      | with_reducible refine AWp.seq ?_
      | ((with_reducible apply AWp.regionL); (refine ⟨rfl, rfl, ?_⟩; simp (decide := true) only [Nat.reduceAdd, List.map, go_sem]; rfl))
      | with_reducible refine ARun.nil ?_
      | with_reducible refine thenQ_n ?_
      | with_reducible refine thenQ_r ?_
      | with_reducible refine thenQ_e ?_
      | with_reducible refine blkQ_n ?_
      | with_reducible refine blkQ_r ?_
      | with_reducible refine blkQ_e ?_
      | with_reducible refine blkQ_o rfl ?_
      | with_reducible refine AWp.block ?_
      | with_reducible refine AWp.skip ?_
      | with_reducible refine AWp.ret ?_
      | with_reducible refine AWp.exit ?_
      | with_reducible refine retQ_n ?_
      | with_reducible refine retQ_r ?_
      | ((with_reducible apply ARun.go); (simp (decide := true) only [Nat.reduceAdd, go_sem]; rfl); (simp (decide := true) only [Nat.reduceAdd, go_sem]; (repeat simp (decide := true) only [Nat.reduceAdd, go_sem]); rfl))
      | (refine ARun.p1 rfl rfl (pl_box (by simp (decide := true) only [Nat.reduceAdd, go_sem]; rfl) rfl) ?_)
      | (refine ARun.p1 rfl rfl (pl_alloc (by simp only [Nat.reduceAdd, go_sem]; rfl) rfl) ?_)
      | (refine ARun.p1 rfl rfl (pl_store (by simp (decide := true) only [Nat.reduceAdd, go_sem]; rfl) (by simp (decide := true) only [Nat.reduceAdd, go_sem]; rfl) (by simp (decide := true) only [Nat.reduceAdd, go_sem]; rfl) (by rfl) (by rfl) (by kernel_rfl) (by rfl) (by rfl)) ?_)
      | fail)
    with_reducible apply AWp.drawK (k := 8) [none, none, none, none, none, none, some 0, none] (fun c => match c with | 0 => [⟨60, 10, [encR r]⟩, ⟨34, 6, [encS s]⟩, ⟨60, 10, [encR ⟨fun _ => 0, 0, 0⟩]⟩] | _ => [⟨60, 10, [encR r]⟩, ⟨34, 6, [encS s]⟩, ⟨60, 10, [encR r]⟩]) 1 follows
    · refine ⟨rfl, rfl, by kernel_rfl, by decide, ?_, ?_⟩
      · simp (decide := true) only [Nat.reduceAdd, go_sem, List.map, List.take]; rfl
      · simp (decide := true) only [Nat.reduceAdd, go_sem, List.map, List.drop]; rfl
    · kernel_rfl
    · rfl
    · refine GRun.qf1 rfl rfl (by simp (decide := true) only [Nat.reduceAdd, go_sem] <;> rfl) (by simp (decide := true) only [Nat.reduceAdd, go_sem] <;> rfl) ?_
      refine GRun.qf1 rfl rfl (by simp (decide := true) only [Nat.reduceAdd, go_sem] <;> rfl) (by simp (decide := true) only [Nat.reduceAdd, go_sem] <;> rfl) ?_
      refine GRun.qf1 rfl rfl (by simp (decide := true) only [Nat.reduceAdd, go_sem] <;> rfl) (by simp (decide := true) only [Nat.reduceAdd, go_sem] <;> rfl) ?_
      refine GRun.qf1 rfl rfl (by simp (decide := true) only [Nat.reduceAdd, go_sem] <;> rfl) (by simp (decide := true) only [Nat.reduceAdd, go_sem] <;> rfl) ?_
      refine GRun.q1 rfl rfl (fun c hc => ql_buildSlice (by decide) Try.underlying32 sz3 (by kernel_rfl) (by decide) (by simp (decide := true) only [Nat.reduceAdd, List.map, go_sem] <;> rfl) (by simp (decide := true) only [Nat.reduceAdd, List.map, go_sem] <;> rfl) (by rfl)) ?_
      refine GRun.q1 rfl rfl (fun c hc => ql_callC (must_ok r [s.v] (by simpa using hv)) rfl (by simp (decide := true) only [Nat.reduceAdd, go_sem] <;> rfl) (by simp (decide := true) only [Nat.reduceAdd, go_sem, List.map]) (by simp [-List.map_take, -List.map_drop])) ?_
      have hst : ∀ ρ' : Operand → AV, ρ' (.tmp 4) = .ptr 2 1 0 0 → ρ' (.tmp 59) = encR r → PL Try.prog [⟨60, 10, [encR r]⟩, ⟨34, 6, [encS s]⟩, ⟨60, 10, [encR ⟨fun _ => 0, 0, 0⟩]⟩] ρ' (.store 60 (.tmp 4) (.tmp 59)) .bad [⟨60, 10, [encR r]⟩, ⟨34, 6, [encS s]⟩, ⟨60, 10, [encR r]⟩] := fun ρ' e1 e2 =>
        pl_store (H := [⟨60, 10, [encR r]⟩, ⟨34, 6, [encS s]⟩, ⟨60, 10, [encR ⟨fun _ => 0, 0, 0⟩]⟩]) e1 e2 rfl rfl rfl (by kernel_rfl) rfl rfl
      refine GRun.p1 rfl rfl (fun ρ' h => hst ρ' ((h (.tmp 4) (by simp [Op.operands])).trans (by simp (decide := true) only [Nat.reduceAdd, go_sem] <;> rfl)) ((h (.tmp 59) (by simp [Op.operands])).trans (by simp (decide := true) only [Nat.reduceAdd, go_sem] <;> rfl))) ?_
      refine GRun.qf1 rfl rfl (by simp (decide := true) only [Nat.reduceAdd, go_sem] <;> rfl) (by simp (decide := true) only [Nat.reduceAdd, go_sem] <;> rfl) ?_
      refine GRun.nil ?_
      repeat (first
        | with_reducible refine AWp.seq ?_
        | ((with_reducible apply AWp.regionL); (refine ⟨rfl, rfl, ?_⟩; simp (decide := true) only [Nat.reduceAdd, List.map, go_sem]; rfl))
        | with_reducible refine ARun.nil ?_
        | with_reducible refine thenQ_n ?_
        | with_reducible refine thenQ_r ?_
        | with_reducible refine thenQ_e ?_
        | with_reducible refine blkQ_n ?_
        | with_reducible refine blkQ_r ?_
        | with_reducible refine blkQ_e ?_
        | with_reducible refine blkQ_o rfl ?_
        | with_reducible refine AWp.block ?_
        | with_reducible refine AWp.skip ?_
        | with_reducible refine AWp.ret ?_
        | with_reducible refine AWp.exit ?_
        | with_reducible refine retQ_n ?_
        | with_reducible refine retQ_r ?_
        | ((with_reducible apply ARun.go); (simp (decide := true) only [Nat.reduceAdd, go_sem]; rfl); (simp (decide := true) only [Nat.reduceAdd, go_sem]; (repeat simp (decide := true) only [Nat.reduceAdd, go_sem]); rfl))
        | (refine ARun.p1 rfl rfl (pl_box (by simp (decide := true) only [Nat.reduceAdd, go_sem]; rfl) rfl) ?_)
        | (refine ARun.p1 rfl rfl (pl_alloc (by simp only [Nat.reduceAdd, go_sem]; rfl) rfl) ?_)
        | (refine ARun.p1 rfl rfl (pl_store (by simp (decide := true) only [Nat.reduceAdd, go_sem]; rfl) (by simp (decide := true) only [Nat.reduceAdd, go_sem]; rfl) (by simp (decide := true) only [Nat.reduceAdd, go_sem]; rfl) (by rfl) (by rfl) (by kernel_rfl) (by rfl) (by rfl)) ?_)
        | fail)
      exact Ret.data rfl (by rcases h4 with h | h <;> simp [afterR, afterE, h] <;> rfl) (Pu_tupR _ _)
  simp at h4
  repeat (first
    | with_reducible refine AWp.seq ?_
    | ((with_reducible apply AWp.regionL); (refine ⟨rfl, rfl, ?_⟩; simp (decide := true) only [Nat.reduceAdd, List.map, go_sem]; rfl))
    | with_reducible refine ARun.nil ?_
    | with_reducible refine thenQ_n ?_
    | with_reducible refine thenQ_r ?_
    | with_reducible refine thenQ_e ?_
    | with_reducible refine blkQ_n ?_
    | with_reducible refine blkQ_r ?_
    | with_reducible refine blkQ_e ?_
    | with_reducible refine blkQ_o rfl ?_
    | with_reducible refine AWp.block ?_
    | with_reducible refine AWp.skip ?_
    | with_reducible refine AWp.ret ?_
    | with_reducible refine AWp.exit ?_
    | with_reducible refine retQ_n ?_
    | with_reducible refine retQ_r ?_
    | ((with_reducible apply ARun.go); (simp (decide := true) only [Nat.reduceAdd, go_sem]; rfl); (simp (decide := true) only [Nat.reduceAdd, go_sem]; (repeat simp (decide := true) only [Nat.reduceAdd, go_sem]); rfl))
    | (refine ARun.p1 rfl rfl (pl_box (by simp (decide := true) only [Nat.reduceAdd, go_sem]; rfl) rfl) ?_)
    | (refine ARun.p1 rfl rfl (pl_alloc (by simp only [Nat.reduceAdd, go_sem]; rfl) rfl) ?_)
    | (refine ARun.p1 rfl rfl (pl_store (by simp (decide := true) only [Nat.reduceAdd, go_sem]; rfl) (by simp (decide := true) only [Nat.reduceAdd, go_sem]; rfl) (by simp (decide := true) only [Nat.reduceAdd, go_sem]; rfl) (by rfl) (by rfl) (by kernel_rfl) (by rfl) (by rfl)) ?_)
    | fail)
  refine AWp.join (S 65 (decide (s.op = 6 ∨ s.op = 9))) ?_ ?_
  · refine AWp.cond (b := _) rfl (fun ho => ?_) (fun ho => ?_)
    · repeat (first
        | with_reducible refine AWp.seq ?_
        | ((with_reducible apply AWp.regionL); (refine ⟨rfl, rfl, ?_⟩; simp (decide := true) only [Nat.reduceAdd, List.map, go_sem]; rfl))
        | with_reducible refine ARun.nil ?_
        | with_reducible refine thenQ_n ?_
        | with_reducible refine thenQ_r ?_
        | with_reducible refine thenQ_e ?_
        | with_reducible refine blkQ_n ?_
        | with_reducible refine blkQ_r ?_
        | with_reducible refine blkQ_e ?_
        | with_reducible refine blkQ_o rfl ?_
        | with_reducible refine AWp.block ?_
        | with_reducible refine AWp.skip ?_
        | with_reducible refine AWp.ret ?_
        | with_reducible refine AWp.exit ?_
        | with_reducible refine retQ_n ?_
        | with_reducible refine retQ_r ?_
        | ((with_reducible apply ARun.go); (simp (decide := true) only [Nat.reduceAdd, go_sem]; rfl); (simp (decide := true) only [Nat.reduceAdd, go_sem]; (repeat simp (decide := true) only [Nat.reduceAdd, go_sem]); rfl))
        | (refine ARun.p1 rfl rfl (pl_box (by simp (decide := true) only [Nat.reduceAdd, go_sem]; rfl) rfl) ?_)
        | (refine ARun.p1 rfl rfl (pl_alloc (by simp only [Nat.reduceAdd, go_sem]; rfl) rfl) ?_)
        | (refine ARun.p1 rfl rfl (pl_store (by simp (decide := true) only [Nat.reduceAdd, go_sem]; rfl) (by simp (decide := true) only [Nat.reduceAdd, go_sem]; rfl) (by simp (decide := true) only [Nat.reduceAdd, go_sem]; rfl) (by rfl) (by rfl) (by kernel_rfl) (by rfl) (by rfl)) ?_)
        | fail)
      exact .env' (by simp (decide := true) only [go_sem]; simp at ho; simp [ho, Le.refl])
    · repeat (first
        | with_reducible refine AWp.seq ?_
        | ((with_reducible apply AWp.regionL); (refine ⟨rfl, rfl, ?_⟩; simp (decide := true) only [Nat.reduceAdd, List.map, go_sem]; rfl))
        | with_reducible refine ARun.nil ?_
        | with_reducible refine thenQ_n ?_
        | with_reducible refine thenQ_r ?_
        | with_reducible refine thenQ_e ?_
        | with_reducible refine blkQ_n ?_
        | with_reducible refine blkQ_r ?_
        | with_reducible refine blkQ_e ?_
        | with_reducible refine blkQ_o rfl ?_
        | with_reducible refine AWp.block ?_
        | with_reducible refine AWp.skip ?_
        | with_reducible refine AWp.ret ?_
        | with_reducible refine AWp.exit ?_
        | with_reducible refine retQ_n ?_
        | with_reducible refine retQ_r ?_
        | ((with_reducible apply ARun.go); (simp (decide := true) only [Nat.reduceAdd, go_sem]; rfl); (simp (decide := true) only [Nat.reduceAdd, go_sem]; (repeat simp (decide := true) only [Nat.reduceAdd, go_sem]); rfl))
        | (refine ARun.p1 rfl rfl (pl_box (by simp (decide := true) only [Nat.reduceAdd, go_sem]; rfl) rfl) ?_)
        | (refine ARun.p1 rfl rfl (pl_alloc (by simp only [Nat.reduceAdd, go_sem]; rfl) rfl) ?_)
        | (refine ARun.p1 rfl rfl (pl_store (by simp (decide := true) only [Nat.reduceAdd, go_sem]; rfl) (by simp (decide := true) only [Nat.reduceAdd, go_sem]; rfl) (by simp (decide := true) only [Nat.reduceAdd, go_sem]; rfl) (by rfl) (by rfl) (by kernel_rfl) (by rfl) (by rfl)) ?_)
        | fail)
      exact .env' (by simp (decide := true) only [go_sem]; simp at ho; simp [ho, Le.refl])
  simp only [S]
  refine AWp.cond (b := _) rfl (fun h6 => ?_) (fun h6 => ?_)
  · simp at h6
    have hvs := hvs (by unfold u5; omega)
    repeat (first
      | with_reducible refine AWp.seq ?_
      | ((with_reducible apply AWp.regionL); (refine ⟨rfl, rfl, ?_⟩; simp (decide := true) only [Nat.reduceAdd, List.map, go_sem]; rfl))
      | with_reducible refine ARun.nil ?_
      | with_reducible refine thenQ_n ?_
      | with_reducible refine thenQ_r ?_
      | with_reducible refine thenQ_e ?_
      | with_reducible refine blkQ_n ?_
      | with_reducible refine blkQ_r ?_
      | with_reducible refine blkQ_e ?_
      | with_reducible refine blkQ_o rfl ?_
      | with_reducible refine AWp.block ?_
      | with_reducible refine AWp.skip ?_
      | with_reducible refine AWp.ret ?_
      | with_reducible refine AWp.exit ?_
      | with_reducible refine retQ_n ?_
      | with_reducible refine retQ_r ?_
      | ((with_reducible apply ARun.go); (simp (decide := true) only [Nat.reduceAdd, go_sem]; rfl); (simp (decide := true) only [Nat.reduceAdd, go_sem]; (repeat simp (decide := true) only [Nat.reduceAdd, go_sem]); rfl))
      | (refine ARun.p1 rfl rfl (pl_box (by simp (decide := true) only [Nat.reduceAdd, go_sem]; rfl) rfl) ?_)
      | (refine ARun.p1 rfl rfl (pl_alloc (by simp only [Nat.reduceAdd, go_sem]; rfl) rfl) ?_)
      | (refine ARun.p1 rfl rfl (pl_store (by simp (decide := true) only [Nat.reduceAdd, go_sem]; rfl) (by simp (decide := true) only [Nat.reduceAdd, go_sem]; rfl) (by simp (decide := true) only [Nat.reduceAdd, go_sem]; rfl) (by rfl) (by rfl) (by kernel_rfl) (by rfl) (by rfl)) ?_)
      | fail)
    refine ARun.q1 rfl rfl (ql_callC (send_ok r s.vars true hvs.2 hvs.1) rfl (by simp (decide := true) only [Nat.reduceAdd, go_sem] <;> rfl) (by simp (decide := true) only [Nat.reduceAdd, go_sem, List.map]) (by simp [-List.map_take, -List.map_drop])) ?_
    repeat (first
      | with_reducible refine AWp.seq ?_
      | ((with_reducible apply AWp.regionL); (refine ⟨rfl, rfl, ?_⟩; simp (decide := true) only [Nat.reduceAdd, List.map, go_sem]; rfl))
      | with_reducible refine ARun.nil ?_
      | with_reducible refine thenQ_n ?_
      | with_reducible refine thenQ_r ?_
      | with_reducible refine thenQ_e ?_
      | with_reducible refine blkQ_n ?_
      | with_reducible refine blkQ_r ?_
      | with_reducible refine blkQ_e ?_
      | with_reducible refine blkQ_o rfl ?_
      | with_reducible refine AWp.block ?_
      | with_reducible refine AWp.skip ?_
      | with_reducible refine AWp.ret ?_
      | with_reducible refine AWp.exit ?_
      | with_reducible refine retQ_n ?_
      | with_reducible refine retQ_r ?_
      | ((with_reducible apply ARun.go); (simp (decide := true) only [Nat.reduceAdd, go_sem]; rfl); (simp (decide := true) only [Nat.reduceAdd, go_sem]; (repeat simp (decide := true) only [Nat.reduceAdd, go_sem]); rfl))
      | (refine ARun.p1 rfl rfl (pl_box (by simp (decide := true) only [Nat.reduceAdd, go_sem]; rfl) rfl) ?_)
      | (refine ARun.p1 rfl rfl (pl_alloc (by simp only [Nat.reduceAdd, go_sem]; rfl) rfl) ?_)
      | (refine ARun.p1 rfl rfl (pl_store (by simp (decide := true) only [Nat.reduceAdd, go_sem]; rfl) (by simp (decide := true) only [Nat.reduceAdd, go_sem]; rfl) (by simp (decide := true) only [Nat.reduceAdd, go_sem]; rfl) (by rfl) (by rfl) (by kernel_rfl) (by rfl) (by rfl)) ?_)
      | fail)
    exact Ret.data rfl (by rcases h6 with h | h <;> simp [afterR, afterE, h] <;> rfl) (Pu_tupR _ _)
  simp at h6
  repeat (first
    | with_reducible refine AWp.seq ?_
    | ((with_reducible apply AWp.regionL); (refine ⟨rfl, rfl, ?_⟩; simp (decide := true) only [Nat.reduceAdd, List.map, go_sem]; rfl))
    | with_reducible refine ARun.nil ?_
    | with_reducible refine thenQ_n ?_
    | with_reducible refine thenQ_r ?_
    | with_reducible refine thenQ_e ?_
    | with_reducible refine blkQ_n ?_
    | with_reducible refine blkQ_r ?_
    | with_reducible refine blkQ_e ?_
    | with_reducible refine blkQ_o rfl ?_
    | with_reducible refine AWp.block ?_
    | with_reducible refine AWp.skip ?_
    | with_reducible refine AWp.ret ?_
    | with_reducible refine AWp.exit ?_
    | with_reducible refine retQ_n ?_
    | with_reducible refine retQ_r ?_
    | ((with_reducible apply ARun.go); (simp (decide := true) only [Nat.reduceAdd, go_sem]; rfl); (simp (decide := true) only [Nat.reduceAdd, go_sem]; (repeat simp (decide := true) only [Nat.reduceAdd, go_sem]); rfl))
    | (refine ARun.p1 rfl rfl (pl_box (by simp (decide := true) only [Nat.reduceAdd, go_sem]; rfl) rfl) ?_)
    | (refine ARun.p1 rfl rfl (pl_alloc (by simp only [Nat.reduceAdd, go_sem]; rfl) rfl) ?_)
    | (refine ARun.p1 rfl rfl (pl_store (by simp (decide := true) only [Nat.reduceAdd, go_sem]; rfl) (by simp (decide := true) only [Nat.reduceAdd, go_sem]; rfl) (by simp (decide := true) only [Nat.reduceAdd, go_sem]; rfl) (by rfl) (by rfl) (by kernel_rfl) (by rfl) (by rfl)) ?_)
    | fail)
  refine AWp.cond (b := _) rfl (fun h8 => ?_) (fun h8 => ?_)
  · simp at h8
    have hvs := hvs (by unfold u5; omega)
    repeat (first
      | with_reducible refine AWp.seq ?_
      | ((with_reducible apply AWp.regionL); (refine ⟨rfl, rfl, ?_⟩; simp (decide := true) only [Nat.reduceAdd, List.map, go_sem]; rfl))
      | with_reducible refine ARun.nil ?_
      | with_reducible refine thenQ_n ?_
      | with_reducible refine thenQ_r ?_
      | with_reducible refine thenQ_e ?_
      | with_reducible refine blkQ_n ?_
      | with_reducible refine blkQ_r ?_
      | with_reducible refine blkQ_e ?_
      | with_reducible refine blkQ_o rfl ?_
      | with_reducible refine AWp.block ?_
      | with_reducible refine AWp.skip ?_
      | with_reducible refine AWp.ret ?_
      | with_reducible refine AWp.exit ?_
      | with_reducible refine retQ_n ?_
      | with_reducible refine retQ_r ?_
      | ((with_reducible apply ARun.go); (simp (decide := true) only [Nat.reduceAdd, go_sem]; rfl); (simp (decide := true) only [Nat.reduceAdd, go_sem]; (repeat simp (decide := true) only [Nat.reduceAdd, go_sem]); rfl))
      | (refine ARun.p1 rfl rfl (pl_box (by simp (decide := true) only [Nat.reduceAdd, go_sem]; rfl) rfl) ?_)
      | (refine ARun.p1 rfl rfl (pl_alloc (by simp only [Nat.reduceAdd, go_sem]; rfl) rfl) ?_)
      | (refine ARun.p1 rfl rfl (pl_store (by simp (decide := true) only [Nat.reduceAdd, go_sem]; rfl) (by simp (decide := true) only [Nat.reduceAdd, go_sem]; rfl) (by simp (decide := true) only [Nat.reduceAdd, go_sem]; rfl) (by rfl) (by rfl) (by kernel_rfl) (by rfl) (by rfl)) ?_)
      | fail)
    refine ARun.q1 rfl rfl (ql_callC (send_ok r s.vars false hvs.2 hvs.1) rfl (by simp (decide := true) only [Nat.reduceAdd, go_sem] <;> rfl) (by simp (decide := true) only [Nat.reduceAdd, go_sem, List.map]) (by simp [-List.map_take, -List.map_drop])) ?_
    repeat (first
      | with_reducible refine AWp.seq ?_
      | ((with_reducible apply AWp.regionL); (refine ⟨rfl, rfl, ?_⟩; simp (decide := true) only [Nat.reduceAdd, List.map, go_sem]; rfl))
      | with_reducible refine ARun.nil ?_
      | with_reducible refine thenQ_n ?_
      | with_reducible refine thenQ_r ?_
      | with_reducible refine thenQ_e ?_
      | with_reducible refine blkQ_n ?_
      | with_reducible refine blkQ_r ?_
      | with_reducible refine blkQ_e ?_
      | with_reducible refine blkQ_o rfl ?_
      | with_reducible refine AWp.block ?_
      | with_reducible refine AWp.skip ?_
      | with_reducible refine AWp.ret ?_
      | with_reducible refine AWp.exit ?_
      | with_reducible refine retQ_n ?_
      | with_reducible refine retQ_r ?_
      | ((with_reducible apply ARun.go); (simp (decide := true) only [Nat.reduceAdd, go_sem]; rfl); (simp (decide := true) only [Nat.reduceAdd, go_sem]; (repeat simp (decide := true) only [Nat.reduceAdd, go_sem]); rfl))
      | (refine ARun.p1 rfl rfl (pl_box (by simp (decide := true) only [Nat.reduceAdd, go_sem]; rfl) rfl) ?_)
      | (refine ARun.p1 rfl rfl (pl_alloc (by simp only [Nat.reduceAdd, go_sem]; rfl) rfl) ?_)
      | (refine ARun.p1 rfl rfl (pl_store (by simp (decide := true) only [Nat.reduceAdd, go_sem]; rfl) (by simp (decide := true) only [Nat.reduceAdd, go_sem]; rfl) (by simp (decide := true) only [Nat.reduceAdd, go_sem]; rfl) (by rfl) (by rfl) (by kernel_rfl) (by rfl) (by rfl)) ?_)
      | fail)
    exact Ret.data rfl (by simp [afterR, afterE, h8] <;> rfl) (Pu_tupR _ _)
  simp at h8
  repeat (first
    | with_reducible refine AWp.seq ?_
    | ((with_reducible apply AWp.regionL); (refine ⟨rfl, rfl, ?_⟩; simp (decide := true) only [Nat.reduceAdd, List.map, go_sem]; rfl))
    | with_reducible refine ARun.nil ?_
    | with_reducible refine thenQ_n ?_
    | with_reducible refine thenQ_r ?_
    | with_reducible refine thenQ_e ?_
    | with_reducible refine blkQ_n ?_
    | with_reducible refine blkQ_r ?_
    | with_reducible refine blkQ_e ?_
    | with_reducible refine blkQ_o rfl ?_
    | with_reducible refine AWp.block ?_
    | with_reducible refine AWp.skip ?_
    | with_reducible refine AWp.ret ?_
    | with_reducible refine AWp.exit ?_
    | with_reducible refine retQ_n ?_
    | with_reducible refine retQ_r ?_
    | ((with_reducible apply ARun.go); (simp (decide := true) only [Nat.reduceAdd, go_sem]; rfl); (simp (decide := true) only [Nat.reduceAdd, go_sem]; (repeat simp (decide := true) only [Nat.reduceAdd, go_sem]); rfl))
    | (refine ARun.p1 rfl rfl (pl_box (by simp (decide := true) only [Nat.reduceAdd, go_sem]; rfl) rfl) ?_)
    | (refine ARun.p1 rfl rfl (pl_alloc (by simp only [Nat.reduceAdd, go_sem]; rfl) rfl) ?_)
    | (refine ARun.p1 rfl rfl (pl_store (by simp (decide := true) only [Nat.reduceAdd, go_sem]; rfl) (by simp (decide := true) only [Nat.reduceAdd, go_sem]; rfl) (by simp (decide := true) only [Nat.reduceAdd, go_sem]; rfl) (by rfl) (by rfl) (by kernel_rfl) (by rfl) (by rfl)) ?_)
    | fail)
  exact Ret.data rfl (by simp [afterR, afterE, h1, h2, h3, h4, h6, h8] <;> rfl) (Pu_tupR _ _)
end Go.Ab
