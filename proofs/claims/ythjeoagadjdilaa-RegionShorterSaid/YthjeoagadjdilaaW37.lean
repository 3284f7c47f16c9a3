import Derived.Test.YthjeoagadjdilaaW47
namespace Go.Ab
open Go Go.Ab Go.Proofs Go.Ab.Ty
set_option linter.unusedSimpArgs false
set_option linter.unusedVariables false

def cd0 : Cd := ⟨0, 0, []⟩
abbrev cod (l : List Cd) (n : Int) : Cd := nth cd0 l n

abbrev plain (s : Stp) : Prop := s.v = 0 ∧ s.w = 0
def noneT (s : Stp) : Prop := s.task = 0 ∧ s.vars.length = 0
def spawn (l : Lk) (at' : Int) (s : Stp) : Prop := (0 ≤ s.n ∧ s.n < at') ∧ (stp l.c.steps s.n).op = 6
def okStep (l : Lk) (at' : Int) (s : Stp) : Prop :=
  (s.op = 1 ∨ s.op = 5) ∧ okVars l.c.vars [s.v] ∧ s.w = 0 ∧ -1000 ≤ s.n ∧ s.n ≤ 1000 ∧ noneT s
  ∨ (s.op = 2 ∨ s.op = 3) ∧ okVars l.c.vars [s.v, s.w] ∧ s.n = 0 ∧ noneT s
  ∨ s.op = 4 ∧ okVars l.c.vars [s.v] ∧ s.w = 0 ∧ s.n = 0 ∧ noneT s
  ∨ s.op = 6 ∧ plain s ∧ 0 ≤ s.n ∧ s.n ≤ 3 ∧ 0 < s.task ∧ s.task < l.p.codes.length ∧ (l.method = false → l.own < s.task) ∧ s.vars.length = (cod l.p.codes s.task).params ∧ okVars l.c.vars s.vars
  ∨ (s.op = 7 ∨ s.op = 10) ∧ plain s ∧ l.method = false ∧ noneT s ∧ spawn l at' s ∧ (s.op = 7 → ∀ x ∈ l.c.steps.take at'.toNat, ¬ (x.op = 7 ∧ x.n = s.n))
  ∨ s.op = 8 ∧ plain s ∧ l.method = false ∧ 0 ≤ s.n ∧ s.n < l.p.actors ∧ s.task = 0 ∧ (1 : Int) ≤ s.vars.length ∧ (s.vars.length : Int) ≤ 4 ∧ okVars l.c.vars s.vars
  ∨ s.op = 9 ∧ plain s ∧ 0 ≤ s.n ∧ s.n < l.p.actors ∧ 0 ≤ s.task ∧ s.task < l.p.methods.length ∧ (l.method = true → s.task < l.own) ∧ s.vars.length = (cod l.p.methods s.task).params ∧ okVars l.c.vars s.vars
  ∨ (s.op = 11 ∨ s.op = 12) ∧ plain s ∧ s.n = 0 ∧ noneT s
theorem Pu_cellsS (s : Stp) : ∀ c ∈ (encS s).cells, Pu c := fun c hc => by
  simp only [encS, AV.cells, List.mem_cons, List.not_mem_nil, or_false] at hc
  rcases hc with rfl | rfl | rfl | rfl | rfl | rfl <;> first | exact .base _ | exact Pu_mapInt _
theorem step_ok (l : Lk) (at' : Int) (h0 : 0 ≤ at') (h1 : at' < l.c.steps.length) (b : Bool) (hb : b = true ↔ okStep l at' (stp l.c.steps at')) :
    Fn Try.prog 37 [encL l, .int at'] (.bool b) := by
  refine Fn.intro' [(0, encL l), (1, .int at')] 2 324 Try.func37 (by kernel_rfl) rfl rfl rfl rfl rfl ?_
  repeat (first
    | with_reducible refine AWp.seq ?_
    | ((with_reducible apply AWp.regionL); (refine ⟨rfl, rfl, ?_⟩; simp (decide := true) only [Nat.reduceAdd, List.map, go_sem]; rfl))
    | with_reducible refine ARun.nil ?_
    | with_reducible refine thenQ_n ?_
    | with_reducible refine thenQ_r ?_
    | with_reducible refine thenQ_e ?_
    | with_reducible refine blkQ_n ?_
    | with_reducible refine blkQ_r ?_
    | with_reducible refine blkQ_e ?_
    | with_reducible refine blkQ_o rfl ?_
    | with_reducible refine AWp.block ?_
    | with_reducible refine AWp.skip ?_
    | with_reducible refine AWp.ret ?_
    | with_reducible refine AWp.exit ?_
    | with_reducible refine retQ_n ?_
    | with_reducible refine retQ_r ?_
    | ((with_reducible apply ARun.go); (simp (decide := true) only [Nat.reduceAdd, go_sem]; rfl); (simp (decide := true) only [Nat.reduceAdd, go_sem]; (repeat simp (decide := true) only [Nat.reduceAdd, go_sem]); rfl))
    | (refine ARun.p1 rfl rfl (pl_box (by simp (decide := true) only [Nat.reduceAdd, go_sem]; rfl) rfl) ?_)
    | (refine ARun.p1 rfl rfl (pl_alloc (by simp only [Nat.reduceAdd, go_sem]; rfl) rfl) ?_)
    | (refine ARun.p1 rfl rfl (pl_store (by simp (decide := true) only [Nat.reduceAdd, go_sem]; rfl) (by simp (decide := true) only [Nat.reduceAdd, go_sem]; rfl) (by simp (decide := true) only [Nat.reduceAdd, go_sem]; rfl) (by rfl) (by rfl) (by kernel_rfl) (by rfl) (by rfl)) ?_)
    | fail)
  refine ARun.q1 rfl rfl (ql_idxD (l := l.c.steps) (f := encS) stp0 rfl rfl Try.underlying29 h0 h1 (by kernel_rfl)) ?_
  generalize hs : nth stp0 l.c.steps at' = s
  rw [stp, hs] at hb
  repeat (first
    | with_reducible refine AWp.seq ?_
    | ((with_reducible apply AWp.regionL); (refine ⟨rfl, rfl, ?_⟩; simp (decide := true) only [Nat.reduceAdd, List.map, go_sem]; rfl))
    | with_reducible refine ARun.nil ?_
    | with_reducible refine thenQ_n ?_
    | with_reducible refine thenQ_r ?_
    | with_reducible refine thenQ_e ?_
    | with_reducible refine blkQ_n ?_
    | with_reducible refine blkQ_r ?_
    | with_reducible refine blkQ_e ?_
    | with_reducible refine blkQ_o rfl ?_
    | with_reducible refine AWp.block ?_
    | with_reducible refine AWp.skip ?_
    | with_reducible refine AWp.ret ?_
    | with_reducible refine AWp.exit ?_
    | with_reducible refine retQ_n ?_
    | with_reducible refine retQ_r ?_
    | ((with_reducible apply ARun.go); (simp (decide := true) only [Nat.reduceAdd, go_sem]; rfl); (simp (decide := true) only [Nat.reduceAdd, go_sem]; (repeat simp (decide := true) only [Nat.reduceAdd, go_sem]); rfl))
    | (refine ARun.p1 rfl rfl (pl_box (by simp (decide := true) only [Nat.reduceAdd, go_sem]; rfl) rfl) ?_)
    | (refine ARun.p1 rfl rfl (pl_alloc (by simp only [Nat.reduceAdd, go_sem]; rfl) rfl) ?_)
    | (refine ARun.p1 rfl rfl (pl_store (by simp (decide := true) only [Nat.reduceAdd, go_sem]; rfl) (by simp (decide := true) only [Nat.reduceAdd, go_sem]; rfl) (by simp (decide := true) only [Nat.reduceAdd, go_sem]; rfl) (by rfl) (by rfl) (by kernel_rfl) (by rfl) (by rfl)) ?_)
    | fail)
  let S := fun (t : Nat) (b : Bool) => (⟨[(t, .bool b), (2, .ptr 0 1 0 0), (5, .ptr 1 1 0 0), (6, .bool (decide (plain s))), (22, .int s.op), (1, .int at')], [⟨54, 8, [encL l]⟩, ⟨34, 6, [encS s]⟩]⟩ : ASt)
  have hpl : (bif decide (s.v = 0) then decide (s.w = 0) else false) = decide (plain s) := by rw [Bool.eq_iff_iff]; simp
  refine AWp.join (S 23 (decide (s.op = 1 ∨ s.op = 5))) ?_ ?_
  · refine AWp.cond (b := _) rfl (fun ho => ?_) (fun ho => ?_)
    · repeat (first
        | with_reducible refine AWp.seq ?_
        | ((with_reducible apply AWp.regionL); (refine ⟨rfl, rfl, ?_⟩; simp (decide := true) only [Nat.reduceAdd, List.map, go_sem]; rfl))
        | with_reducible refine ARun.nil ?_
        | with_reducible refine thenQ_n ?_
        | with_reducible refine thenQ_r ?_
        | with_reducible refine thenQ_e ?_
        | with_reducible refine blkQ_n ?_
        | with_reducible refine blkQ_r ?_
        | with_reducible refine blkQ_e ?_
        | with_reducible refine blkQ_o rfl ?_
        | with_reducible refine AWp.block ?_
        | with_reducible refine AWp.skip ?_
        | with_reducible refine AWp.ret ?_
        | with_reducible refine AWp.exit ?_
        | with_reducible refine retQ_n ?_
        | with_reducible refine retQ_r ?_
        | ((with_reducible apply ARun.go); (simp (decide := true) only [Nat.reduceAdd, go_sem]; rfl); (simp (decide := true) only [Nat.reduceAdd, go_sem]; (repeat simp (decide := true) only [Nat.reduceAdd, go_sem]); rfl))
        | (refine ARun.p1 rfl rfl (pl_box (by simp (decide := true) only [Nat.reduceAdd, go_sem]; rfl) rfl) ?_)
        | (refine ARun.p1 rfl rfl (pl_alloc (by simp only [Nat.reduceAdd, go_sem]; rfl) rfl) ?_)
        | (refine ARun.p1 rfl rfl (pl_store (by simp (decide := true) only [Nat.reduceAdd, go_sem]; rfl) (by simp (decide := true) only [Nat.reduceAdd, go_sem]; rfl) (by simp (decide := true) only [Nat.reduceAdd, go_sem]; rfl) (by rfl) (by rfl) (by kernel_rfl) (by rfl) (by rfl)) ?_)
        | fail)
      exact .env' (by simp (decide := true) only [go_sem, hpl]; simp at ho; simp [ho, Le.refl])
    · repeat (first
        | with_reducible refine AWp.seq ?_
        | ((with_reducible apply AWp.regionL); (refine ⟨rfl, rfl, ?_⟩; simp (decide := true) only [Nat.reduceAdd, List.map, go_sem]; rfl))
        | with_reducible refine ARun.nil ?_
        | with_reducible refine thenQ_n ?_
        | with_reducible refine thenQ_r ?_
        | with_reducible refine thenQ_e ?_
        | with_reducible refine blkQ_n ?_
        | with_reducible refine blkQ_r ?_
        | with_reducible refine blkQ_e ?_
        | with_reducible refine blkQ_o rfl ?_
        | with_reducible refine AWp.block ?_
        | with_reducible refine AWp.skip ?_
        | with_reducible refine AWp.ret ?_
        | with_reducible refine AWp.exit ?_
        | with_reducible refine retQ_n ?_
        | with_reducible refine retQ_r ?_
        | ((with_reducible apply ARun.go); (simp (decide := true) only [Nat.reduceAdd, go_sem]; rfl); (simp (decide := true) only [Nat.reduceAdd, go_sem]; (repeat simp (decide := true) only [Nat.reduceAdd, go_sem]); rfl))
        | (refine ARun.p1 rfl rfl (pl_box (by simp (decide := true) only [Nat.reduceAdd, go_sem]; rfl) rfl) ?_)
        | (refine ARun.p1 rfl rfl (pl_alloc (by simp only [Nat.reduceAdd, go_sem]; rfl) rfl) ?_)
        | (refine ARun.p1 rfl rfl (pl_store (by simp (decide := true) only [Nat.reduceAdd, go_sem]; rfl) (by simp (decide := true) only [Nat.reduceAdd, go_sem]; rfl) (by simp (decide := true) only [Nat.reduceAdd, go_sem]; rfl) (by rfl) (by rfl) (by kernel_rfl) (by rfl) (by rfl)) ?_)
        | fail)
      exact .env' (by simp (decide := true) only [go_sem, hpl]; simp at ho; simp [ho, Le.refl])
  simp only [S]
  refine AWp.cond (b := _) rfl (fun ho => ?_) (fun ho => ?_)
  · simp at ho
    repeat (first
      | with_reducible refine AWp.seq ?_
      | ((with_reducible apply AWp.regionL); (refine ⟨rfl, rfl, ?_⟩; simp (decide := true) only [Nat.reduceAdd, List.map, go_sem]; rfl))
      | with_reducible refine ARun.nil ?_
      | with_reducible refine thenQ_n ?_
      | with_reducible refine thenQ_r ?_
      | with_reducible refine thenQ_e ?_
      | with_reducible refine blkQ_n ?_
      | with_reducible refine blkQ_r ?_
      | with_reducible refine blkQ_e ?_
      | with_reducible refine blkQ_o rfl ?_
      | with_reducible refine AWp.block ?_
      | with_reducible refine AWp.skip ?_
      | with_reducible refine AWp.ret ?_
      | with_reducible refine AWp.exit ?_
      | with_reducible refine retQ_n ?_
      | with_reducible refine retQ_r ?_
      | ((with_reducible apply ARun.go); (simp (decide := true) only [Nat.reduceAdd, go_sem]; rfl); (simp (decide := true) only [Nat.reduceAdd, go_sem]; (repeat simp (decide := true) only [Nat.reduceAdd, go_sem]); rfl))
      | (refine ARun.p1 rfl rfl (pl_box (by simp (decide := true) only [Nat.reduceAdd, go_sem]; rfl) rfl) ?_)
      | (refine ARun.p1 rfl rfl (pl_alloc (by simp only [Nat.reduceAdd, go_sem]; rfl) rfl) ?_)
      | (refine ARun.p1 rfl rfl (pl_store (by simp (decide := true) only [Nat.reduceAdd, go_sem]; rfl) (by simp (decide := true) only [Nat.reduceAdd, go_sem]; rfl) (by simp (decide := true) only [Nat.reduceAdd, go_sem]; rfl) (by rfl) (by rfl) (by kernel_rfl) (by rfl) (by rfl)) ?_)
      | fail)
    refine ARun.q1 rfl rfl (ql_buildSlice (by decide) Try.underlying32 sz3 (by kernel_rfl) (by decide) (by simp (decide := true) only [Nat.reduceAdd, List.map, go_sem] <;> rfl) (by simp (decide := true) only [Nat.reduceAdd, List.map, go_sem] <;> rfl) (by rfl)) ?_
    repeat (first
      | with_reducible refine AWp.seq ?_
      | ((with_reducible apply AWp.regionL); (refine ⟨rfl, rfl, ?_⟩; simp (decide := true) only [Nat.reduceAdd, List.map, go_sem]; rfl))
      | with_reducible refine ARun.nil ?_
      | with_reducible refine thenQ_n ?_
      | with_reducible refine thenQ_r ?_
      | with_reducible refine thenQ_e ?_
      | with_reducible refine blkQ_n ?_
      | with_reducible refine blkQ_r ?_
      | with_reducible refine blkQ_e ?_
      | with_reducible refine blkQ_o rfl ?_
      | with_reducible refine AWp.block ?_
      | with_reducible refine AWp.skip ?_
      | with_reducible refine AWp.ret ?_
      | with_reducible refine AWp.exit ?_
      | with_reducible refine retQ_n ?_
      | with_reducible refine retQ_r ?_
      | ((with_reducible apply ARun.go); (simp (decide := true) only [Nat.reduceAdd, go_sem]; rfl); (simp (decide := true) only [Nat.reduceAdd, go_sem]; (repeat simp (decide := true) only [Nat.reduceAdd, go_sem]); rfl))
      | (refine ARun.p1 rfl rfl (pl_box (by simp (decide := true) only [Nat.reduceAdd, go_sem]; rfl) rfl) ?_)
      | (refine ARun.p1 rfl rfl (pl_alloc (by simp only [Nat.reduceAdd, go_sem]; rfl) rfl) ?_)
      | (refine ARun.p1 rfl rfl (pl_store (by simp (decide := true) only [Nat.reduceAdd, go_sem]; rfl) (by simp (decide := true) only [Nat.reduceAdd, go_sem]; rfl) (by simp (decide := true) only [Nat.reduceAdd, go_sem]; rfl) (by rfl) (by rfl) (by kernel_rfl) (by rfl) (by rfl)) ?_)
      | fail)
    refine ARun.q1 rfl rfl (ql_callC (vars_ok l [s.v] 1) rfl (by simp (decide := true) only [Nat.reduceAdd, go_sem] <;> rfl) (by simp (decide := true) only [Nat.reduceAdd, go_sem, List.map]) (by simp [-List.map_take, -List.map_drop])) ?_
    repeat (first
      | with_reducible refine AWp.seq ?_
      | ((with_reducible apply AWp.regionL); (refine ⟨rfl, rfl, ?_⟩; simp (decide := true) only [Nat.reduceAdd, List.map, go_sem]; rfl))
      | with_reducible refine ARun.nil ?_
      | with_reducible refine thenQ_n ?_
      | with_reducible refine thenQ_r ?_
      | with_reducible refine thenQ_e ?_
      | with_reducible refine blkQ_n ?_
      | with_reducible refine blkQ_r ?_
      | with_reducible refine blkQ_e ?_
      | with_reducible refine blkQ_o rfl ?_
      | with_reducible refine AWp.block ?_
      | with_reducible refine AWp.skip ?_
      | with_reducible refine AWp.ret ?_
      | with_reducible refine AWp.exit ?_
      | with_reducible refine retQ_n ?_
      | with_reducible refine retQ_r ?_
      | ((with_reducible apply ARun.go); (simp (decide := true) only [Nat.reduceAdd, go_sem]; rfl); (simp (decide := true) only [Nat.reduceAdd, go_sem]; (repeat simp (decide := true) only [Nat.reduceAdd, go_sem]); rfl))
      | (refine ARun.p1 rfl rfl (pl_box (by simp (decide := true) only [Nat.reduceAdd, go_sem]; rfl) rfl) ?_)
      | (refine ARun.p1 rfl rfl (pl_alloc (by simp only [Nat.reduceAdd, go_sem]; rfl) rfl) ?_)
      | (refine ARun.p1 rfl rfl (pl_store (by simp (decide := true) only [Nat.reduceAdd, go_sem]; rfl) (by simp (decide := true) only [Nat.reduceAdd, go_sem]; rfl) (by simp (decide := true) only [Nat.reduceAdd, go_sem]; rfl) (by rfl) (by rfl) (by kernel_rfl) (by rfl) (by rfl)) ?_)
      | fail)
    exact Ret.bool rfl (by rw [hb]; rcases ho with ho | ho <;> simp [okStep, ho, noneT, and_assoc])
  simp at ho
  repeat (first
    | with_reducible refine AWp.seq ?_
    | ((with_reducible apply AWp.regionL); (refine ⟨rfl, rfl, ?_⟩; simp (decide := true) only [Nat.reduceAdd, List.map, go_sem]; rfl))
    | with_reducible refine ARun.nil ?_
    | with_reducible refine thenQ_n ?_
    | with_reducible refine thenQ_r ?_
    | with_reducible refine thenQ_e ?_
    | with_reducible refine blkQ_n ?_
    | with_reducible refine blkQ_r ?_
    | with_reducible refine blkQ_e ?_
    | with_reducible refine blkQ_o rfl ?_
    | with_reducible refine AWp.block ?_
    | with_reducible refine AWp.skip ?_
    | with_reducible refine AWp.ret ?_
    | with_reducible refine AWp.exit ?_
    | with_reducible refine retQ_n ?_
    | with_reducible refine retQ_r ?_
    | ((with_reducible apply ARun.go); (simp (decide := true) only [Nat.reduceAdd, go_sem]; rfl); (simp (decide := true) only [Nat.reduceAdd, go_sem]; (repeat simp (decide := true) only [Nat.reduceAdd, go_sem]); rfl))
    | (refine ARun.p1 rfl rfl (pl_box (by simp (decide := true) only [Nat.reduceAdd, go_sem]; rfl) rfl) ?_)
    | (refine ARun.p1 rfl rfl (pl_alloc (by simp only [Nat.reduceAdd, go_sem]; rfl) rfl) ?_)
    | (refine ARun.p1 rfl rfl (pl_store (by simp (decide := true) only [Nat.reduceAdd, go_sem]; rfl) (by simp (decide := true) only [Nat.reduceAdd, go_sem]; rfl) (by simp (decide := true) only [Nat.reduceAdd, go_sem]; rfl) (by rfl) (by rfl) (by kernel_rfl) (by rfl) (by rfl)) ?_)
    | fail)
  refine AWp.join (S 57 (decide (s.op = 2 ∨ s.op = 3))) ?_ ?_
  · refine AWp.cond (b := _) rfl (fun h2 => ?_) (fun h2 => ?_)
    · repeat (first
        | with_reducible refine AWp.seq ?_
        | ((with_reducible apply AWp.regionL); (refine ⟨rfl, rfl, ?_⟩; simp (decide := true) only [Nat.reduceAdd, List.map, go_sem]; rfl))
        | with_reducible refine ARun.nil ?_
        | with_reducible refine thenQ_n ?_
        | with_reducible refine thenQ_r ?_
        | with_reducible refine thenQ_e ?_
        | with_reducible refine blkQ_n ?_
        | with_reducible refine blkQ_r ?_
        | with_reducible refine blkQ_e ?_
        | with_reducible refine blkQ_o rfl ?_
        | with_reducible refine AWp.block ?_
        | with_reducible refine AWp.skip ?_
        | with_reducible refine AWp.ret ?_
        | with_reducible refine AWp.exit ?_
        | with_reducible refine retQ_n ?_
        | with_reducible refine retQ_r ?_
        | ((with_reducible apply ARun.go); (simp (decide := true) only [Nat.reduceAdd, go_sem]; rfl); (simp (decide := true) only [Nat.reduceAdd, go_sem]; (repeat simp (decide := true) only [Nat.reduceAdd, go_sem]); rfl))
        | (refine ARun.p1 rfl rfl (pl_box (by simp (decide := true) only [Nat.reduceAdd, go_sem]; rfl) rfl) ?_)
        | (refine ARun.p1 rfl rfl (pl_alloc (by simp only [Nat.reduceAdd, go_sem]; rfl) rfl) ?_)
        | (refine ARun.p1 rfl rfl (pl_store (by simp (decide := true) only [Nat.reduceAdd, go_sem]; rfl) (by simp (decide := true) only [Nat.reduceAdd, go_sem]; rfl) (by simp (decide := true) only [Nat.reduceAdd, go_sem]; rfl) (by rfl) (by rfl) (by kernel_rfl) (by rfl) (by rfl)) ?_)
        | fail)
      exact .env' (by simp (decide := true) only [go_sem, hpl]; simp at h2; simp [h2, Le.refl])
    · repeat (first
        | with_reducible refine AWp.seq ?_
        | ((with_reducible apply AWp.regionL); (refine ⟨rfl, rfl, ?_⟩; simp (decide := true) only [Nat.reduceAdd, List.map, go_sem]; rfl))
        | with_reducible refine ARun.nil ?_
        | with_reducible refine thenQ_n ?_
        | with_reducible refine thenQ_r ?_
        | with_reducible refine thenQ_e ?_
        | with_reducible refine blkQ_n ?_
        | with_reducible refine blkQ_r ?_
        | with_reducible refine blkQ_e ?_
        | with_reducible refine blkQ_o rfl ?_
        | with_reducible refine AWp.block ?_
        | with_reducible refine AWp.skip ?_
        | with_reducible refine AWp.ret ?_
        | with_reducible refine AWp.exit ?_
        | with_reducible refine retQ_n ?_
        | with_reducible refine retQ_r ?_
        | ((with_reducible apply ARun.go); (simp (decide := true) only [Nat.reduceAdd, go_sem]; rfl); (simp (decide := true) only [Nat.reduceAdd, go_sem]; (repeat simp (decide := true) only [Nat.reduceAdd, go_sem]); rfl))
        | (refine ARun.p1 rfl rfl (pl_box (by simp (decide := true) only [Nat.reduceAdd, go_sem]; rfl) rfl) ?_)
        | (refine ARun.p1 rfl rfl (pl_alloc (by simp only [Nat.reduceAdd, go_sem]; rfl) rfl) ?_)
        | (refine ARun.p1 rfl rfl (pl_store (by simp (decide := true) only [Nat.reduceAdd, go_sem]; rfl) (by simp (decide := true) only [Nat.reduceAdd, go_sem]; rfl) (by simp (decide := true) only [Nat.reduceAdd, go_sem]; rfl) (by rfl) (by rfl) (by kernel_rfl) (by rfl) (by rfl)) ?_)
        | fail)
      exact .env' (by simp (decide := true) only [go_sem, hpl]; simp at h2; simp [h2, Le.refl])
  simp only [S]
  refine AWp.cond (b := _) rfl (fun h2 => ?_) (fun h2 => ?_)
  · simp at h2
    repeat (first
      | with_reducible refine AWp.seq ?_
      | ((with_reducible apply AWp.regionL); (refine ⟨rfl, rfl, ?_⟩; simp (decide := true) only [Nat.reduceAdd, List.map, go_sem]; rfl))
      | with_reducible refine ARun.nil ?_
      | with_reducible refine thenQ_n ?_
      | with_reducible refine thenQ_r ?_
      | with_reducible refine thenQ_e ?_
      | with_reducible refine blkQ_n ?_
      | with_reducible refine blkQ_r ?_
      | with_reducible refine blkQ_e ?_
      | with_reducible refine blkQ_o rfl ?_
      | with_reducible refine AWp.block ?_
      | with_reducible refine AWp.skip ?_
      | with_reducible refine AWp.ret ?_
      | with_reducible refine AWp.exit ?_
      | with_reducible refine retQ_n ?_
      | with_reducible refine retQ_r ?_
      | ((with_reducible apply ARun.go); (simp (decide := true) only [Nat.reduceAdd, go_sem]; rfl); (simp (decide := true) only [Nat.reduceAdd, go_sem]; (repeat simp (decide := true) only [Nat.reduceAdd, go_sem]); rfl))
      | (refine ARun.p1 rfl rfl (pl_box (by simp (decide := true) only [Nat.reduceAdd, go_sem]; rfl) rfl) ?_)
      | (refine ARun.p1 rfl rfl (pl_alloc (by simp only [Nat.reduceAdd, go_sem]; rfl) rfl) ?_)
      | (refine ARun.p1 rfl rfl (pl_store (by simp (decide := true) only [Nat.reduceAdd, go_sem]; rfl) (by simp (decide := true) only [Nat.reduceAdd, go_sem]; rfl) (by simp (decide := true) only [Nat.reduceAdd, go_sem]; rfl) (by rfl) (by rfl) (by kernel_rfl) (by rfl) (by rfl)) ?_)
      | fail)
    refine ARun.q1 rfl rfl (ql_buildSlice (by decide) Try.underlying32 sz3 (by kernel_rfl) (by decide) (by simp (decide := true) only [Nat.reduceAdd, List.map, go_sem] <;> rfl) (by simp (decide := true) only [Nat.reduceAdd, List.map, go_sem] <;> rfl) (by rfl)) ?_
    repeat (first
      | with_reducible refine AWp.seq ?_
      | ((with_reducible apply AWp.regionL); (refine ⟨rfl, rfl, ?_⟩; simp (decide := true) only [Nat.reduceAdd, List.map, go_sem]; rfl))
      | with_reducible refine ARun.nil ?_
      | with_reducible refine thenQ_n ?_
      | with_reducible refine thenQ_r ?_
      | with_reducible refine thenQ_e ?_
      | with_reducible refine blkQ_n ?_
      | with_reducible refine blkQ_r ?_
      | with_reducible refine blkQ_e ?_
      | with_reducible refine blkQ_o rfl ?_
      | with_reducible refine AWp.block ?_
      | with_reducible refine AWp.skip ?_
      | with_reducible refine AWp.ret ?_
      | with_reducible refine AWp.exit ?_
      | with_reducible refine retQ_n ?_
      | with_reducible refine retQ_r ?_
      | ((with_reducible apply ARun.go); (simp (decide := true) only [Nat.reduceAdd, go_sem]; rfl); (simp (decide := true) only [Nat.reduceAdd, go_sem]; (repeat simp (decide := true) only [Nat.reduceAdd, go_sem]); rfl))
      | (refine ARun.p1 rfl rfl (pl_box (by simp (decide := true) only [Nat.reduceAdd, go_sem]; rfl) rfl) ?_)
      | (refine ARun.p1 rfl rfl (pl_alloc (by simp only [Nat.reduceAdd, go_sem]; rfl) rfl) ?_)
      | (refine ARun.p1 rfl rfl (pl_store (by simp (decide := true) only [Nat.reduceAdd, go_sem]; rfl) (by simp (decide := true) only [Nat.reduceAdd, go_sem]; rfl) (by simp (decide := true) only [Nat.reduceAdd, go_sem]; rfl) (by rfl) (by rfl) (by kernel_rfl) (by rfl) (by rfl)) ?_)
      | fail)
    refine ARun.q1 rfl rfl (ql_callC (vars_ok l [s.v, s.w] 2) rfl (by simp (decide := true) only [Nat.reduceAdd, go_sem] <;> rfl) (by simp (decide := true) only [Nat.reduceAdd, go_sem, List.map]) (by simp [-List.map_take, -List.map_drop])) ?_
    repeat (first
      | with_reducible refine AWp.seq ?_
      | ((with_reducible apply AWp.regionL); (refine ⟨rfl, rfl, ?_⟩; simp (decide := true) only [Nat.reduceAdd, List.map, go_sem]; rfl))
      | with_reducible refine ARun.nil ?_
      | with_reducible refine thenQ_n ?_
      | with_reducible refine thenQ_r ?_
      | with_reducible refine thenQ_e ?_
      | with_reducible refine blkQ_n ?_
      | with_reducible refine blkQ_r ?_
      | with_reducible refine blkQ_e ?_
      | with_reducible refine blkQ_o rfl ?_
      | with_reducible refine AWp.block ?_
      | with_reducible refine AWp.skip ?_
      | with_reducible refine AWp.ret ?_
      | with_reducible refine AWp.exit ?_
      | with_reducible refine retQ_n ?_
      | with_reducible refine retQ_r ?_
      | ((with_reducible apply ARun.go); (simp (decide := true) only [Nat.reduceAdd, go_sem]; rfl); (simp (decide := true) only [Nat.reduceAdd, go_sem]; (repeat simp (decide := true) only [Nat.reduceAdd, go_sem]); rfl))
      | (refine ARun.p1 rfl rfl (pl_box (by simp (decide := true) only [Nat.reduceAdd, go_sem]; rfl) rfl) ?_)
      | (refine ARun.p1 rfl rfl (pl_alloc (by simp only [Nat.reduceAdd, go_sem]; rfl) rfl) ?_)
      | (refine ARun.p1 rfl rfl (pl_store (by simp (decide := true) only [Nat.reduceAdd, go_sem]; rfl) (by simp (decide := true) only [Nat.reduceAdd, go_sem]; rfl) (by simp (decide := true) only [Nat.reduceAdd, go_sem]; rfl) (by rfl) (by rfl) (by kernel_rfl) (by rfl) (by rfl)) ?_)
      | fail)
    exact Ret.bool rfl (by rw [hb]; rcases h2 with h2 | h2 <;> simp [okStep, h2, noneT, and_assoc])
  simp at h2
  repeat (first
    | with_reducible refine AWp.seq ?_
    | ((with_reducible apply AWp.regionL); (refine ⟨rfl, rfl, ?_⟩; simp (decide := true) only [Nat.reduceAdd, List.map, go_sem]; rfl))
    | with_reducible refine ARun.nil ?_
    | with_reducible refine thenQ_n ?_
    | with_reducible refine thenQ_r ?_
    | with_reducible refine thenQ_e ?_
    | with_reducible refine blkQ_n ?_
    | with_reducible refine blkQ_r ?_
    | with_reducible refine blkQ_e ?_
    | with_reducible refine blkQ_o rfl ?_
    | with_reducible refine AWp.block ?_
    | with_reducible refine AWp.skip ?_
    | with_reducible refine AWp.ret ?_
    | with_reducible refine AWp.exit ?_
    | with_reducible refine retQ_n ?_
    | with_reducible refine retQ_r ?_
    | ((with_reducible apply ARun.go); (simp (decide := true) only [Nat.reduceAdd, go_sem]; rfl); (simp (decide := true) only [Nat.reduceAdd, go_sem]; (repeat simp (decide := true) only [Nat.reduceAdd, go_sem]); rfl))
    | (refine ARun.p1 rfl rfl (pl_box (by simp (decide := true) only [Nat.reduceAdd, go_sem]; rfl) rfl) ?_)
    | (refine ARun.p1 rfl rfl (pl_alloc (by simp only [Nat.reduceAdd, go_sem]; rfl) rfl) ?_)
    | (refine ARun.p1 rfl rfl (pl_store (by simp (decide := true) only [Nat.reduceAdd, go_sem]; rfl) (by simp (decide := true) only [Nat.reduceAdd, go_sem]; rfl) (by simp (decide := true) only [Nat.reduceAdd, go_sem]; rfl) (by rfl) (by rfl) (by kernel_rfl) (by rfl) (by rfl)) ?_)
    | fail)
  refine AWp.cond (b := _) rfl (fun h4 => ?_) (fun h4 => ?_)
  · simp at h4
    repeat (first
      | with_reducible refine AWp.seq ?_
      | ((with_reducible apply AWp.regionL); (refine ⟨rfl, rfl, ?_⟩; simp (decide := true) only [Nat.reduceAdd, List.map, go_sem]; rfl))
      | with_reducible refine ARun.nil ?_
      | with_reducible refine thenQ_n ?_
      | with_reducible refine thenQ_r ?_
      | with_reducible refine thenQ_e ?_
      | with_reducible refine blkQ_n ?_
      | with_reducible refine blkQ_r ?_
      | with_reducible refine blkQ_e ?_
      | with_reducible refine blkQ_o rfl ?_
      | with_reducible refine AWp.block ?_
      | with_reducible refine AWp.skip ?_
      | with_reducible refine AWp.ret ?_
      | with_reducible refine AWp.exit ?_
      | with_reducible refine retQ_n ?_
      | with_reducible refine retQ_r ?_
      | ((with_reducible apply ARun.go); (simp (decide := true) only [Nat.reduceAdd, go_sem]; rfl); (simp (decide := true) only [Nat.reduceAdd, go_sem]; (repeat simp (decide := true) only [Nat.reduceAdd, go_sem]); rfl))
      | (refine ARun.p1 rfl rfl (pl_box (by simp (decide := true) only [Nat.reduceAdd, go_sem]; rfl) rfl) ?_)
      | (refine ARun.p1 rfl rfl (pl_alloc (by simp only [Nat.reduceAdd, go_sem]; rfl) rfl) ?_)
      | (refine ARun.p1 rfl rfl (pl_store (by simp (decide := true) only [Nat.reduceAdd, go_sem]; rfl) (by simp (decide := true) only [Nat.reduceAdd, go_sem]; rfl) (by simp (decide := true) only [Nat.reduceAdd, go_sem]; rfl) (by rfl) (by rfl) (by kernel_rfl) (by rfl) (by rfl)) ?_)
      | fail)
    refine ARun.q1 rfl rfl (ql_buildSlice (by decide) Try.underlying32 sz3 (by kernel_rfl) (by decide) (by simp (decide := true) only [Nat.reduceAdd, List.map, go_sem] <;> rfl) (by simp (decide := true) only [Nat.reduceAdd, List.map, go_sem] <;> rfl) (by rfl)) ?_
    repeat (first
      | with_reducible refine AWp.seq ?_
      | ((with_reducible apply AWp.regionL); (refine ⟨rfl, rfl, ?_⟩; simp (decide := true) only [Nat.reduceAdd, List.map, go_sem]; rfl))
      | with_reducible refine ARun.nil ?_
      | with_reducible refine thenQ_n ?_
      | with_reducible refine thenQ_r ?_
      | with_reducible refine thenQ_e ?_
      | with_reducible refine blkQ_n ?_
      | with_reducible refine blkQ_r ?_
      | with_reducible refine blkQ_e ?_
      | with_reducible refine blkQ_o rfl ?_
      | with_reducible refine AWp.block ?_
      | with_reducible refine AWp.skip ?_
      | with_reducible refine AWp.ret ?_
      | with_reducible refine AWp.exit ?_
      | with_reducible refine retQ_n ?_
      | with_reducible refine retQ_r ?_
      | ((with_reducible apply ARun.go); (simp (decide := true) only [Nat.reduceAdd, go_sem]; rfl); (simp (decide := true) only [Nat.reduceAdd, go_sem]; (repeat simp (decide := true) only [Nat.reduceAdd, go_sem]); rfl))
      | (refine ARun.p1 rfl rfl (pl_box (by simp (decide := true) only [Nat.reduceAdd, go_sem]; rfl) rfl) ?_)
      | (refine ARun.p1 rfl rfl (pl_alloc (by simp only [Nat.reduceAdd, go_sem]; rfl) rfl) ?_)
      | (refine ARun.p1 rfl rfl (pl_store (by simp (decide := true) only [Nat.reduceAdd, go_sem]; rfl) (by simp (decide := true) only [Nat.reduceAdd, go_sem]; rfl) (by simp (decide := true) only [Nat.reduceAdd, go_sem]; rfl) (by rfl) (by rfl) (by kernel_rfl) (by rfl) (by rfl)) ?_)
      | fail)
    refine ARun.q1 rfl rfl (ql_callC (vars_ok l [s.v] 1) rfl (by simp (decide := true) only [Nat.reduceAdd, go_sem] <;> rfl) (by simp (decide := true) only [Nat.reduceAdd, go_sem, List.map]) (by simp [-List.map_take, -List.map_drop])) ?_
    repeat (first
      | with_reducible refine AWp.seq ?_
      | ((with_reducible apply AWp.regionL); (refine ⟨rfl, rfl, ?_⟩; simp (decide := true) only [Nat.reduceAdd, List.map, go_sem]; rfl))
      | with_reducible refine ARun.nil ?_
      | with_reducible refine thenQ_n ?_
      | with_reducible refine thenQ_r ?_
      | with_reducible refine thenQ_e ?_
      | with_reducible refine blkQ_n ?_
      | with_reducible refine blkQ_r ?_
      | with_reducible refine blkQ_e ?_
      | with_reducible refine blkQ_o rfl ?_
      | with_reducible refine AWp.block ?_
      | with_reducible refine AWp.skip ?_
      | with_reducible refine AWp.ret ?_
      | with_reducible refine AWp.exit ?_
      | with_reducible refine retQ_n ?_
      | with_reducible refine retQ_r ?_
      | ((with_reducible apply ARun.go); (simp (decide := true) only [Nat.reduceAdd, go_sem]; rfl); (simp (decide := true) only [Nat.reduceAdd, go_sem]; (repeat simp (decide := true) only [Nat.reduceAdd, go_sem]); rfl))
      | (refine ARun.p1 rfl rfl (pl_box (by simp (decide := true) only [Nat.reduceAdd, go_sem]; rfl) rfl) ?_)
      | (refine ARun.p1 rfl rfl (pl_alloc (by simp only [Nat.reduceAdd, go_sem]; rfl) rfl) ?_)
      | (refine ARun.p1 rfl rfl (pl_store (by simp (decide := true) only [Nat.reduceAdd, go_sem]; rfl) (by simp (decide := true) only [Nat.reduceAdd, go_sem]; rfl) (by simp (decide := true) only [Nat.reduceAdd, go_sem]; rfl) (by rfl) (by rfl) (by kernel_rfl) (by rfl) (by rfl)) ?_)
      | fail)
    exact Ret.bool rfl (by rw [hb]; simp [okStep, h4, noneT, and_assoc])
  simp at h4
  repeat (first
    | with_reducible refine AWp.seq ?_
    | ((with_reducible apply AWp.regionL); (refine ⟨rfl, rfl, ?_⟩; simp (decide := true) only [Nat.reduceAdd, List.map, go_sem]; rfl))
    | with_reducible refine ARun.nil ?_
    | with_reducible refine thenQ_n ?_
    | with_reducible refine thenQ_r ?_
    | with_reducible refine thenQ_e ?_
    | with_reducible refine blkQ_n ?_
    | with_reducible refine blkQ_r ?_
    | with_reducible refine blkQ_e ?_
    | with_reducible refine blkQ_o rfl ?_
    | with_reducible refine AWp.block ?_
    | with_reducible refine AWp.skip ?_
    | with_reducible refine AWp.ret ?_
    | with_reducible refine AWp.exit ?_
    | with_reducible refine retQ_n ?_
    | with_reducible refine retQ_r ?_
    | ((with_reducible apply ARun.go); (simp (decide := true) only [Nat.reduceAdd, go_sem]; rfl); (simp (decide := true) only [Nat.reduceAdd, go_sem]; (repeat simp (decide := true) only [Nat.reduceAdd, go_sem]); rfl))
    | (refine ARun.p1 rfl rfl (pl_box (by simp (decide := true) only [Nat.reduceAdd, go_sem]; rfl) rfl) ?_)
    | (refine ARun.p1 rfl rfl (pl_alloc (by simp only [Nat.reduceAdd, go_sem]; rfl) rfl) ?_)
    | (refine ARun.p1 rfl rfl (pl_store (by simp (decide := true) only [Nat.reduceAdd, go_sem]; rfl) (by simp (decide := true) only [Nat.reduceAdd, go_sem]; rfl) (by simp (decide := true) only [Nat.reduceAdd, go_sem]; rfl) (by rfl) (by rfl) (by kernel_rfl) (by rfl) (by rfl)) ?_)
    | fail)
  refine AWp.cond (b := _) rfl (fun h6 => ?_) (fun h6 => ?_)
  · simp at h6
    repeat (first
      | with_reducible refine AWp.seq ?_
      | ((with_reducible apply AWp.regionL); (refine ⟨rfl, rfl, ?_⟩; simp (decide := true) only [Nat.reduceAdd, List.map, go_sem]; rfl))
      | with_reducible refine ARun.nil ?_
      | with_reducible refine thenQ_n ?_
      | with_reducible refine thenQ_r ?_
      | with_reducible refine thenQ_e ?_
      | with_reducible refine blkQ_n ?_
      | with_reducible refine blkQ_r ?_
      | with_reducible refine blkQ_e ?_
      | with_reducible refine blkQ_o rfl ?_
      | with_reducible refine AWp.block ?_
      | with_reducible refine AWp.skip ?_
      | with_reducible refine AWp.ret ?_
      | with_reducible refine AWp.exit ?_
      | with_reducible refine retQ_n ?_
      | with_reducible refine retQ_r ?_
      | ((with_reducible apply ARun.go); (simp (decide := true) only [Nat.reduceAdd, go_sem]; rfl); (simp (decide := true) only [Nat.reduceAdd, go_sem]; (repeat simp (decide := true) only [Nat.reduceAdd, go_sem]); rfl))
      | (refine ARun.p1 rfl rfl (pl_box (by simp (decide := true) only [Nat.reduceAdd, go_sem]; rfl) rfl) ?_)
      | (refine ARun.p1 rfl rfl (pl_alloc (by simp only [Nat.reduceAdd, go_sem]; rfl) rfl) ?_)
      | (refine ARun.p1 rfl rfl (pl_store (by simp (decide := true) only [Nat.reduceAdd, go_sem]; rfl) (by simp (decide := true) only [Nat.reduceAdd, go_sem]; rfl) (by simp (decide := true) only [Nat.reduceAdd, go_sem]; rfl) (by rfl) (by rfl) (by kernel_rfl) (by rfl) (by rfl)) ?_)
      | fail)
    refine AWp.cond (b := _) rfl (fun hc => ?_) (fun hc => ?_)
    · repeat (first
        | with_reducible refine AWp.seq ?_
        | ((with_reducible apply AWp.regionL); (refine ⟨rfl, rfl, ?_⟩; simp (decide := true) only [Nat.reduceAdd, List.map, go_sem]; rfl))
        | with_reducible refine ARun.nil ?_
        | with_reducible refine thenQ_n ?_
        | with_reducible refine thenQ_r ?_
        | with_reducible refine thenQ_e ?_
        | with_reducible refine blkQ_n ?_
        | with_reducible refine blkQ_r ?_
        | with_reducible refine blkQ_e ?_
        | with_reducible refine blkQ_o rfl ?_
        | with_reducible refine AWp.block ?_
        | with_reducible refine AWp.skip ?_
        | with_reducible refine AWp.ret ?_
        | with_reducible refine AWp.exit ?_
        | with_reducible refine retQ_n ?_
        | with_reducible refine retQ_r ?_
        | ((with_reducible apply ARun.go); (simp (decide := true) only [Nat.reduceAdd, go_sem]; rfl); (simp (decide := true) only [Nat.reduceAdd, go_sem]; (repeat simp (decide := true) only [Nat.reduceAdd, go_sem]); rfl))
        | (refine ARun.p1 rfl rfl (pl_box (by simp (decide := true) only [Nat.reduceAdd, go_sem]; rfl) rfl) ?_)
        | (refine ARun.p1 rfl rfl (pl_alloc (by simp only [Nat.reduceAdd, go_sem]; rfl) rfl) ?_)
        | (refine ARun.p1 rfl rfl (pl_store (by simp (decide := true) only [Nat.reduceAdd, go_sem]; rfl) (by simp (decide := true) only [Nat.reduceAdd, go_sem]; rfl) (by simp (decide := true) only [Nat.reduceAdd, go_sem]; rfl) (by rfl) (by rfl) (by kernel_rfl) (by rfl) (by rfl)) ?_)
        | fail)
      exact Ret.bool rfl (by rw [hb]; simp [okStep, h6]; simp at hc; intro e1 e2 e3 e4 e5 e6 e7 e8; rcases hc with ((((((h | h) | h) | h) | h) | h) | ⟨h, h'⟩) <;> first | exact absurd e1 h | exact absurd e2 h | omega | (have := e7 h; omega))
    simp at hc
    repeat (first
      | with_reducible refine AWp.seq ?_
      | ((with_reducible apply AWp.regionL); (refine ⟨rfl, rfl, ?_⟩; simp (decide := true) only [Nat.reduceAdd, List.map, go_sem]; rfl))
      | with_reducible refine ARun.nil ?_
      | with_reducible refine thenQ_n ?_
      | with_reducible refine thenQ_r ?_
      | with_reducible refine thenQ_e ?_
      | with_reducible refine blkQ_n ?_
      | with_reducible refine blkQ_r ?_
      | with_reducible refine blkQ_e ?_
      | with_reducible refine blkQ_o rfl ?_
      | with_reducible refine AWp.block ?_
      | with_reducible refine AWp.skip ?_
      | with_reducible refine AWp.ret ?_
      | with_reducible refine AWp.exit ?_
      | with_reducible refine retQ_n ?_
      | with_reducible refine retQ_r ?_
      | ((with_reducible apply ARun.go); (simp (decide := true) only [Nat.reduceAdd, go_sem]; rfl); (simp (decide := true) only [Nat.reduceAdd, go_sem]; (repeat simp (decide := true) only [Nat.reduceAdd, go_sem]); rfl))
      | (refine ARun.p1 rfl rfl (pl_box (by simp (decide := true) only [Nat.reduceAdd, go_sem]; rfl) rfl) ?_)
      | (refine ARun.p1 rfl rfl (pl_alloc (by simp only [Nat.reduceAdd, go_sem]; rfl) rfl) ?_)
      | (refine ARun.p1 rfl rfl (pl_store (by simp (decide := true) only [Nat.reduceAdd, go_sem]; rfl) (by simp (decide := true) only [Nat.reduceAdd, go_sem]; rfl) (by simp (decide := true) only [Nat.reduceAdd, go_sem]; rfl) (by rfl) (by rfl) (by kernel_rfl) (by rfl) (by rfl)) ?_)
      | fail)
    ((with_reducible apply AWp.drawL (k := 12) follows); (refine ⟨rfl, rfl, by kernel_rfl, by decide, ?_, ?_⟩; (simp (decide := true) only [Nat.reduceAdd, go_sem, List.map, List.take]; rfl); (simp (decide := true) only [Nat.reduceAdd, go_sem, List.map, List.drop]; rfl)))
    repeat (first
      | with_reducible refine AWp.seq ?_
      | ((with_reducible apply AWp.regionL); (refine ⟨rfl, rfl, ?_⟩; simp (decide := true) only [Nat.reduceAdd, List.map, go_sem]; rfl))
      | with_reducible refine ARun.nil ?_
      | with_reducible refine thenQ_n ?_
      | with_reducible refine thenQ_r ?_
      | with_reducible refine thenQ_e ?_
      | with_reducible refine blkQ_n ?_
      | with_reducible refine blkQ_r ?_
      | with_reducible refine blkQ_e ?_
      | with_reducible refine blkQ_o rfl ?_
      | with_reducible refine AWp.block ?_
      | with_reducible refine AWp.skip ?_
      | with_reducible refine AWp.ret ?_
      | with_reducible refine AWp.exit ?_
      | with_reducible refine retQ_n ?_
      | with_reducible refine retQ_r ?_
      | ((with_reducible apply ARun.go); (simp (decide := true) only [Nat.reduceAdd, go_sem]; rfl); (simp (decide := true) only [Nat.reduceAdd, go_sem]; (repeat simp (decide := true) only [Nat.reduceAdd, go_sem]); rfl))
      | (refine ARun.p1 rfl rfl (pl_box (by simp (decide := true) only [Nat.reduceAdd, go_sem]; rfl) rfl) ?_)
      | (refine ARun.p1 rfl rfl (pl_alloc (by simp only [Nat.reduceAdd, go_sem]; rfl) rfl) ?_)
      | (refine ARun.p1 rfl rfl (pl_store (by simp (decide := true) only [Nat.reduceAdd, go_sem]; rfl) (by simp (decide := true) only [Nat.reduceAdd, go_sem]; rfl) (by simp (decide := true) only [Nat.reduceAdd, go_sem]; rfl) (by rfl) (by rfl) (by kernel_rfl) (by rfl) (by rfl)) ?_)
      | fail)
    refine ARun.q1 rfl rfl (ql_idxD (l := l.p.codes) (f := encC) cd0 rfl rfl Try.underlying22 (by omega) (by omega) (by kernel_rfl)) ?_
    repeat (first
      | with_reducible refine AWp.seq ?_
      | ((with_reducible apply AWp.regionL); (refine ⟨rfl, rfl, ?_⟩; simp (decide := true) only [Nat.reduceAdd, List.map, go_sem]; rfl))
      | with_reducible refine ARun.nil ?_
      | with_reducible refine thenQ_n ?_
      | with_reducible refine thenQ_r ?_
      | with_reducible refine thenQ_e ?_
      | with_reducible refine blkQ_n ?_
      | with_reducible refine blkQ_r ?_
      | with_reducible refine blkQ_e ?_
      | with_reducible refine blkQ_o rfl ?_
      | with_reducible refine AWp.block ?_
      | with_reducible refine AWp.skip ?_
      | with_reducible refine AWp.ret ?_
      | with_reducible refine AWp.exit ?_
      | with_reducible refine retQ_n ?_
      | with_reducible refine retQ_r ?_
      | ((with_reducible apply ARun.go); (simp (decide := true) only [Nat.reduceAdd, go_sem]; rfl); (simp (decide := true) only [Nat.reduceAdd, go_sem]; (repeat simp (decide := true) only [Nat.reduceAdd, go_sem]); rfl))
      | (refine ARun.p1 rfl rfl (pl_box (by simp (decide := true) only [Nat.reduceAdd, go_sem]; rfl) rfl) ?_)
      | (refine ARun.p1 rfl rfl (pl_alloc (by simp only [Nat.reduceAdd, go_sem]; rfl) rfl) ?_)
      | (refine ARun.p1 rfl rfl (pl_store (by simp (decide := true) only [Nat.reduceAdd, go_sem]; rfl) (by simp (decide := true) only [Nat.reduceAdd, go_sem]; rfl) (by simp (decide := true) only [Nat.reduceAdd, go_sem]; rfl) (by rfl) (by rfl) (by kernel_rfl) (by rfl) (by rfl)) ?_)
      | fail)
    refine ARun.q1 rfl rfl (ql_callC (vars_ok l s.vars (cod l.p.codes s.task).params) rfl (by simp (decide := true) only [Nat.reduceAdd, go_sem] <;> rfl) (by simp (decide := true) only [Nat.reduceAdd, go_sem, List.map]) (by simp [-List.map_take, -List.map_drop])) ?_
    repeat (first
      | with_reducible refine AWp.seq ?_
      | ((with_reducible apply AWp.regionL); (refine ⟨rfl, rfl, ?_⟩; simp (decide := true) only [Nat.reduceAdd, List.map, go_sem]; rfl))
      | with_reducible refine ARun.nil ?_
      | with_reducible refine thenQ_n ?_
      | with_reducible refine thenQ_r ?_
      | with_reducible refine thenQ_e ?_
      | with_reducible refine blkQ_n ?_
      | with_reducible refine blkQ_r ?_
      | with_reducible refine blkQ_e ?_
      | with_reducible refine blkQ_o rfl ?_
      | with_reducible refine AWp.block ?_
      | with_reducible refine AWp.skip ?_
      | with_reducible refine AWp.ret ?_
      | with_reducible refine AWp.exit ?_
      | with_reducible refine retQ_n ?_
      | with_reducible refine retQ_r ?_
      | ((with_reducible apply ARun.go); (simp (decide := true) only [Nat.reduceAdd, go_sem]; rfl); (simp (decide := true) only [Nat.reduceAdd, go_sem]; (repeat simp (decide := true) only [Nat.reduceAdd, go_sem]); rfl))
      | (refine ARun.p1 rfl rfl (pl_box (by simp (decide := true) only [Nat.reduceAdd, go_sem]; rfl) rfl) ?_)
      | (refine ARun.p1 rfl rfl (pl_alloc (by simp only [Nat.reduceAdd, go_sem]; rfl) rfl) ?_)
      | (refine ARun.p1 rfl rfl (pl_store (by simp (decide := true) only [Nat.reduceAdd, go_sem]; rfl) (by simp (decide := true) only [Nat.reduceAdd, go_sem]; rfl) (by simp (decide := true) only [Nat.reduceAdd, go_sem]; rfl) (by rfl) (by rfl) (by kernel_rfl) (by rfl) (by rfl)) ?_)
      | fail)
    exact Ret.bool rfl (by rw [hb]; simp [okStep, h6, plain]; intros; simp_all)
  simp at h6
  repeat (first
    | with_reducible refine AWp.seq ?_
    | ((with_reducible apply AWp.regionL); (refine ⟨rfl, rfl, ?_⟩; simp (decide := true) only [Nat.reduceAdd, List.map, go_sem]; rfl))
    | with_reducible refine ARun.nil ?_
    | with_reducible refine thenQ_n ?_
    | with_reducible refine thenQ_r ?_
    | with_reducible refine thenQ_e ?_
    | with_reducible refine blkQ_n ?_
    | with_reducible refine blkQ_r ?_
    | with_reducible refine blkQ_e ?_
    | with_reducible refine blkQ_o rfl ?_
    | with_reducible refine AWp.block ?_
    | with_reducible refine AWp.skip ?_
    | with_reducible refine AWp.ret ?_
    | with_reducible refine AWp.exit ?_
    | with_reducible refine retQ_n ?_
    | with_reducible refine retQ_r ?_
    | ((with_reducible apply ARun.go); (simp (decide := true) only [Nat.reduceAdd, go_sem]; rfl); (simp (decide := true) only [Nat.reduceAdd, go_sem]; (repeat simp (decide := true) only [Nat.reduceAdd, go_sem]); rfl))
    | (refine ARun.p1 rfl rfl (pl_box (by simp (decide := true) only [Nat.reduceAdd, go_sem]; rfl) rfl) ?_)
    | (refine ARun.p1 rfl rfl (pl_alloc (by simp only [Nat.reduceAdd, go_sem]; rfl) rfl) ?_)
    | (refine ARun.p1 rfl rfl (pl_store (by simp (decide := true) only [Nat.reduceAdd, go_sem]; rfl) (by simp (decide := true) only [Nat.reduceAdd, go_sem]; rfl) (by simp (decide := true) only [Nat.reduceAdd, go_sem]; rfl) (by rfl) (by rfl) (by kernel_rfl) (by rfl) (by rfl)) ?_)
    | fail)
  refine AWp.join (S 163 (decide (s.op = 7 ∨ s.op = 10))) ?_ ?_
  · refine AWp.cond (b := _) rfl (fun h2 => ?_) (fun h2 => ?_)
    · repeat (first
        | with_reducible refine AWp.seq ?_
        | ((with_reducible apply AWp.regionL); (refine ⟨rfl, rfl, ?_⟩; simp (decide := true) only [Nat.reduceAdd, List.map, go_sem]; rfl))
        | with_reducible refine ARun.nil ?_
        | with_reducible refine thenQ_n ?_
        | with_reducible refine thenQ_r ?_
        | with_reducible refine thenQ_e ?_
        | with_reducible refine blkQ_n ?_
        | with_reducible refine blkQ_r ?_
        | with_reducible refine blkQ_e ?_
        | with_reducible refine blkQ_o rfl ?_
        | with_reducible refine AWp.block ?_
        | with_reducible refine AWp.skip ?_
        | with_reducible refine AWp.ret ?_
        | with_reducible refine AWp.exit ?_
        | with_reducible refine retQ_n ?_
        | with_reducible refine retQ_r ?_
        | ((with_reducible apply ARun.go); (simp (decide := true) only [Nat.reduceAdd, go_sem]; rfl); (simp (decide := true) only [Nat.reduceAdd, go_sem]; (repeat simp (decide := true) only [Nat.reduceAdd, go_sem]); rfl))
        | (refine ARun.p1 rfl rfl (pl_box (by simp (decide := true) only [Nat.reduceAdd, go_sem]; rfl) rfl) ?_)
        | (refine ARun.p1 rfl rfl (pl_alloc (by simp only [Nat.reduceAdd, go_sem]; rfl) rfl) ?_)
        | (refine ARun.p1 rfl rfl (pl_store (by simp (decide := true) only [Nat.reduceAdd, go_sem]; rfl) (by simp (decide := true) only [Nat.reduceAdd, go_sem]; rfl) (by simp (decide := true) only [Nat.reduceAdd, go_sem]; rfl) (by rfl) (by rfl) (by kernel_rfl) (by rfl) (by rfl)) ?_)
        | fail)
      exact .env' (by simp (decide := true) only [go_sem, hpl]; simp at h2; simp [h2, Le.refl])
    · repeat (first
        | with_reducible refine AWp.seq ?_
        | ((with_reducible apply AWp.regionL); (refine ⟨rfl, rfl, ?_⟩; simp (decide := true) only [Nat.reduceAdd, List.map, go_sem]; rfl))
        | with_reducible refine ARun.nil ?_
        | with_reducible refine thenQ_n ?_
        | with_reducible refine thenQ_r ?_
        | with_reducible refine thenQ_e ?_
        | with_reducible refine blkQ_n ?_
        | with_reducible refine blkQ_r ?_
        | with_reducible refine blkQ_e ?_
        | with_reducible refine blkQ_o rfl ?_
        | with_reducible refine AWp.block ?_
        | with_reducible refine AWp.skip ?_
        | with_reducible refine AWp.ret ?_
        | with_reducible refine AWp.exit ?_
        | with_reducible refine retQ_n ?_
        | with_reducible refine retQ_r ?_
        | ((with_reducible apply ARun.go); (simp (decide := true) only [Nat.reduceAdd, go_sem]; rfl); (simp (decide := true) only [Nat.reduceAdd, go_sem]; (repeat simp (decide := true) only [Nat.reduceAdd, go_sem]); rfl))
        | (refine ARun.p1 rfl rfl (pl_box (by simp (decide := true) only [Nat.reduceAdd, go_sem]; rfl) rfl) ?_)
        | (refine ARun.p1 rfl rfl (pl_alloc (by simp only [Nat.reduceAdd, go_sem]; rfl) rfl) ?_)
        | (refine ARun.p1 rfl rfl (pl_store (by simp (decide := true) only [Nat.reduceAdd, go_sem]; rfl) (by simp (decide := true) only [Nat.reduceAdd, go_sem]; rfl) (by simp (decide := true) only [Nat.reduceAdd, go_sem]; rfl) (by rfl) (by rfl) (by kernel_rfl) (by rfl) (by rfl)) ?_)
        | fail)
      exact .env' (by simp (decide := true) only [go_sem, hpl]; simp at h2; simp [h2, Le.refl])
  simp only [S]
  refine AWp.cond (b := _) rfl (fun h7 => ?_) (fun h7 => ?_)
  · simp at h7
    repeat (first
      | with_reducible refine AWp.seq ?_
      | ((with_reducible apply AWp.regionL); (refine ⟨rfl, rfl, ?_⟩; simp (decide := true) only [Nat.reduceAdd, List.map, go_sem]; rfl))
      | with_reducible refine ARun.nil ?_
      | with_reducible refine thenQ_n ?_
      | with_reducible refine thenQ_r ?_
      | with_reducible refine thenQ_e ?_
      | with_reducible refine blkQ_n ?_
      | with_reducible refine blkQ_r ?_
      | with_reducible refine blkQ_e ?_
      | with_reducible refine blkQ_o rfl ?_
      | with_reducible refine AWp.block ?_
      | with_reducible refine AWp.skip ?_
      | with_reducible refine AWp.ret ?_
      | with_reducible refine AWp.exit ?_
      | with_reducible refine retQ_n ?_
      | with_reducible refine retQ_r ?_
      | ((with_reducible apply ARun.go); (simp (decide := true) only [Nat.reduceAdd, go_sem]; rfl); (simp (decide := true) only [Nat.reduceAdd, go_sem]; (repeat simp (decide := true) only [Nat.reduceAdd, go_sem]); rfl))
      | (refine ARun.p1 rfl rfl (pl_box (by simp (decide := true) only [Nat.reduceAdd, go_sem]; rfl) rfl) ?_)
      | (refine ARun.p1 rfl rfl (pl_alloc (by simp only [Nat.reduceAdd, go_sem]; rfl) rfl) ?_)
      | (refine ARun.p1 rfl rfl (pl_store (by simp (decide := true) only [Nat.reduceAdd, go_sem]; rfl) (by simp (decide := true) only [Nat.reduceAdd, go_sem]; rfl) (by simp (decide := true) only [Nat.reduceAdd, go_sem]; rfl) (by rfl) (by rfl) (by kernel_rfl) (by rfl) (by rfl)) ?_)
      | fail)
    refine ARun.gl rfl rfl (by simp (decide := true) only [Nat.reduceAdd, go_sem] <;> rfl) (fun hg => ql_callC (spawned_ok l at' s (by omega)) rfl (by simp (decide := true) only [Nat.reduceAdd, go_sem] <;> rfl) (by simp (decide := true) only [Nat.reduceAdd, go_sem, List.map]) (by simp [-List.map_take, -List.map_drop])) ?_
    repeat (first
      | with_reducible refine AWp.seq ?_
      | ((with_reducible apply AWp.regionL); (refine ⟨rfl, rfl, ?_⟩; simp (decide := true) only [Nat.reduceAdd, List.map, go_sem]; rfl))
      | with_reducible refine ARun.nil ?_
      | with_reducible refine thenQ_n ?_
      | with_reducible refine thenQ_r ?_
      | with_reducible refine thenQ_e ?_
      | with_reducible refine blkQ_n ?_
      | with_reducible refine blkQ_r ?_
      | with_reducible refine blkQ_e ?_
      | with_reducible refine blkQ_o rfl ?_
      | with_reducible refine AWp.block ?_
      | with_reducible refine AWp.skip ?_
      | with_reducible refine AWp.ret ?_
      | with_reducible refine AWp.exit ?_
      | with_reducible refine retQ_n ?_
      | with_reducible refine retQ_r ?_
      | ((with_reducible apply ARun.go); (simp (decide := true) only [Nat.reduceAdd, go_sem]; rfl); (simp (decide := true) only [Nat.reduceAdd, go_sem]; (repeat simp (decide := true) only [Nat.reduceAdd, go_sem]); rfl))
      | (refine ARun.p1 rfl rfl (pl_box (by simp (decide := true) only [Nat.reduceAdd, go_sem]; rfl) rfl) ?_)
      | (refine ARun.p1 rfl rfl (pl_alloc (by simp only [Nat.reduceAdd, go_sem]; rfl) rfl) ?_)
      | (refine ARun.p1 rfl rfl (pl_store (by simp (decide := true) only [Nat.reduceAdd, go_sem]; rfl) (by simp (decide := true) only [Nat.reduceAdd, go_sem]; rfl) (by simp (decide := true) only [Nat.reduceAdd, go_sem]; rfl) (by rfl) (by rfl) (by kernel_rfl) (by rfl) (by rfl)) ?_)
      | fail)
    refine AWp.cond (b := _) rfl (fun hc => ?_) (fun hc => ?_)
    · repeat (first
        | with_reducible refine AWp.seq ?_
        | ((with_reducible apply AWp.regionL); (refine ⟨rfl, rfl, ?_⟩; simp (decide := true) only [Nat.reduceAdd, List.map, go_sem]; rfl))
        | with_reducible refine ARun.nil ?_
        | with_reducible refine thenQ_n ?_
        | with_reducible refine thenQ_r ?_
        | with_reducible refine thenQ_e ?_
        | with_reducible refine blkQ_n ?_
        | with_reducible refine blkQ_r ?_
        | with_reducible refine blkQ_e ?_
        | with_reducible refine blkQ_o rfl ?_
        | with_reducible refine AWp.block ?_
        | with_reducible refine AWp.skip ?_
        | with_reducible refine AWp.ret ?_
        | with_reducible refine AWp.exit ?_
        | with_reducible refine retQ_n ?_
        | with_reducible refine retQ_r ?_
        | ((with_reducible apply ARun.go); (simp (decide := true) only [Nat.reduceAdd, go_sem]; rfl); (simp (decide := true) only [Nat.reduceAdd, go_sem]; (repeat simp (decide := true) only [Nat.reduceAdd, go_sem]); rfl))
        | (refine ARun.p1 rfl rfl (pl_box (by simp (decide := true) only [Nat.reduceAdd, go_sem]; rfl) rfl) ?_)
        | (refine ARun.p1 rfl rfl (pl_alloc (by simp only [Nat.reduceAdd, go_sem]; rfl) rfl) ?_)
        | (refine ARun.p1 rfl rfl (pl_store (by simp (decide := true) only [Nat.reduceAdd, go_sem]; rfl) (by simp (decide := true) only [Nat.reduceAdd, go_sem]; rfl) (by simp (decide := true) only [Nat.reduceAdd, go_sem]; rfl) (by rfl) (by rfl) (by kernel_rfl) (by rfl) (by rfl)) ?_)
        | fail)
      exact Ret.bool rfl (by rw [hb]; simp at hc; rcases h7 with h | h <;> simp [okStep, h, spawn, noneT, plain] <;> intro e1 e2 e3 e4 e5 e6 e7 <;> rcases hc with ((((h | h) | h) | h) | h) | ((h | h) | h) <;> simp_all <;> omega)
    simp at hc
    repeat (first
      | with_reducible refine AWp.seq ?_
      | ((with_reducible apply AWp.regionL); (refine ⟨rfl, rfl, ?_⟩; simp (decide := true) only [Nat.reduceAdd, List.map, go_sem]; rfl))
      | with_reducible refine ARun.nil ?_
      | with_reducible refine thenQ_n ?_
      | with_reducible refine thenQ_r ?_
      | with_reducible refine thenQ_e ?_
      | with_reducible refine blkQ_n ?_
      | with_reducible refine blkQ_r ?_
      | with_reducible refine blkQ_e ?_
      | with_reducible refine blkQ_o rfl ?_
      | with_reducible refine AWp.block ?_
      | with_reducible refine AWp.skip ?_
      | with_reducible refine AWp.ret ?_
      | with_reducible refine AWp.exit ?_
      | with_reducible refine retQ_n ?_
      | with_reducible refine retQ_r ?_
      | ((with_reducible apply ARun.go); (simp (decide := true) only [Nat.reduceAdd, go_sem]; rfl); (simp (decide := true) only [Nat.reduceAdd, go_sem]; (repeat simp (decide := true) only [Nat.reduceAdd, go_sem]); rfl))
      | (refine ARun.p1 rfl rfl (pl_box (by simp (decide := true) only [Nat.reduceAdd, go_sem]; rfl) rfl) ?_)
      | (refine ARun.p1 rfl rfl (pl_alloc (by simp only [Nat.reduceAdd, go_sem]; rfl) rfl) ?_)
      | (refine ARun.p1 rfl rfl (pl_store (by simp (decide := true) only [Nat.reduceAdd, go_sem]; rfl) (by simp (decide := true) only [Nat.reduceAdd, go_sem]; rfl) (by simp (decide := true) only [Nat.reduceAdd, go_sem]; rfl) (by rfl) (by rfl) (by kernel_rfl) (by rfl) (by rfl)) ?_)
      | fail)
    refine ARun.gl rfl rfl (by simp (decide := true) only [Nat.reduceAdd, go_sem] <;> rfl) (fun hg => ql_slice_pre (l := l.c.steps) (f := encS) (by simp (decide := true) only [Nat.reduceAdd, go_sem] <;> rfl) (by simp (decide := true) only [Nat.reduceAdd, go_sem] <;> rfl) Try.underlying29 (by omega) (by omega) sz34 (fun _ => rfl)) ?_
    repeat (first
      | with_reducible refine AWp.seq ?_
      | ((with_reducible apply AWp.regionL); (refine ⟨rfl, rfl, ?_⟩; simp (decide := true) only [Nat.reduceAdd, List.map, go_sem]; rfl))
      | with_reducible refine ARun.nil ?_
      | with_reducible refine thenQ_n ?_
      | with_reducible refine thenQ_r ?_
      | with_reducible refine thenQ_e ?_
      | with_reducible refine blkQ_n ?_
      | with_reducible refine blkQ_r ?_
      | with_reducible refine blkQ_e ?_
      | with_reducible refine blkQ_o rfl ?_
      | with_reducible refine AWp.block ?_
      | with_reducible refine AWp.skip ?_
      | with_reducible refine AWp.ret ?_
      | with_reducible refine AWp.exit ?_
      | with_reducible refine retQ_n ?_
      | with_reducible refine retQ_r ?_
      | ((with_reducible apply ARun.go); (simp (decide := true) only [Nat.reduceAdd, go_sem]; rfl); (simp (decide := true) only [Nat.reduceAdd, go_sem]; (repeat simp (decide := true) only [Nat.reduceAdd, go_sem]); rfl))
      | (refine ARun.p1 rfl rfl (pl_box (by simp (decide := true) only [Nat.reduceAdd, go_sem]; rfl) rfl) ?_)
      | (refine ARun.p1 rfl rfl (pl_alloc (by simp only [Nat.reduceAdd, go_sem]; rfl) rfl) ?_)
      | (refine ARun.p1 rfl rfl (pl_store (by simp (decide := true) only [Nat.reduceAdd, go_sem]; rfl) (by simp (decide := true) only [Nat.reduceAdd, go_sem]; rfl) (by simp (decide := true) only [Nat.reduceAdd, go_sem]; rfl) (by rfl) (by rfl) (by kernel_rfl) (by rfl) (by rfl)) ?_)
      | fail)
    refine ARun.gl rfl rfl (by simp (decide := true) only [Nat.reduceAdd, go_sem] <;> rfl) (fun hg => ql_callM (args := [.lst ((l.c.steps.take at'.toNat).map encS), .clo 49 [.iptr (encS s) 0]]) rfl (by simp (decide := true) only [Nat.reduceAdd, go_sem] <;> rfl) (by simp (decide := true) only [go_sem, List.map, LendL]; exact ⟨.pu (Pu_mapS _), .clo' ⟨.iptr rfl rfl rfl (.pu (Pu_cellsS s)), trivial⟩⟩) (.base _) (containsFunc_ok _ 49 [.iptr (encS s) 0] (fun x => decide (x.op = 7 ∧ x.n = s.n)) (fun x => step1_ok x s) (by simp [Pu.iptr (Pu_cellsS s)]))) ?_
    repeat (first
      | with_reducible refine AWp.seq ?_
      | ((with_reducible apply AWp.regionL); (refine ⟨rfl, rfl, ?_⟩; simp (decide := true) only [Nat.reduceAdd, List.map, go_sem]; rfl))
      | with_reducible refine ARun.nil ?_
      | with_reducible refine thenQ_n ?_
      | with_reducible refine thenQ_r ?_
      | with_reducible refine thenQ_e ?_
      | with_reducible refine blkQ_n ?_
      | with_reducible refine blkQ_r ?_
      | with_reducible refine blkQ_e ?_
      | with_reducible refine blkQ_o rfl ?_
      | with_reducible refine AWp.block ?_
      | with_reducible refine AWp.skip ?_
      | with_reducible refine AWp.ret ?_
      | with_reducible refine AWp.exit ?_
      | with_reducible refine retQ_n ?_
      | with_reducible refine retQ_r ?_
      | ((with_reducible apply ARun.go); (simp (decide := true) only [Nat.reduceAdd, go_sem]; rfl); (simp (decide := true) only [Nat.reduceAdd, go_sem]; (repeat simp (decide := true) only [Nat.reduceAdd, go_sem]); rfl))
      | (refine ARun.p1 rfl rfl (pl_box (by simp (decide := true) only [Nat.reduceAdd, go_sem]; rfl) rfl) ?_)
      | (refine ARun.p1 rfl rfl (pl_alloc (by simp only [Nat.reduceAdd, go_sem]; rfl) rfl) ?_)
      | (refine ARun.p1 rfl rfl (pl_store (by simp (decide := true) only [Nat.reduceAdd, go_sem]; rfl) (by simp (decide := true) only [Nat.reduceAdd, go_sem]; rfl) (by simp (decide := true) only [Nat.reduceAdd, go_sem]; rfl) (by rfl) (by rfl) (by kernel_rfl) (by rfl) (by rfl)) ?_)
      | fail)
    exact Ret.bool rfl (by rw [hb]; obtain ⟨⟨⟨⟨⟨e1, e2⟩, e3⟩, e4⟩, e5⟩, e6⟩ := hc; rcases h7 with h | h <;> simp [okStep, h, spawn, noneT, plain, e1, e2, e3, e4, e5, e6])
  simp at h7
  repeat (first
    | with_reducible refine AWp.seq ?_
    | ((with_reducible apply AWp.regionL); (refine ⟨rfl, rfl, ?_⟩; simp (decide := true) only [Nat.reduceAdd, List.map, go_sem]; rfl))
    | with_reducible refine ARun.nil ?_
    | with_reducible refine thenQ_n ?_
    | with_reducible refine thenQ_r ?_
    | with_reducible refine thenQ_e ?_
    | with_reducible refine blkQ_n ?_
    | with_reducible refine blkQ_r ?_
    | with_reducible refine blkQ_e ?_
    | with_reducible refine blkQ_o rfl ?_
    | with_reducible refine AWp.block ?_
    | with_reducible refine AWp.skip ?_
    | with_reducible refine AWp.ret ?_
    | with_reducible refine AWp.exit ?_
    | with_reducible refine retQ_n ?_
    | with_reducible refine retQ_r ?_
    | ((with_reducible apply ARun.go); (simp (decide := true) only [Nat.reduceAdd, go_sem]; rfl); (simp (decide := true) only [Nat.reduceAdd, go_sem]; (repeat simp (decide := true) only [Nat.reduceAdd, go_sem]); rfl))
    | (refine ARun.p1 rfl rfl (pl_box (by simp (decide := true) only [Nat.reduceAdd, go_sem]; rfl) rfl) ?_)
    | (refine ARun.p1 rfl rfl (pl_alloc (by simp only [Nat.reduceAdd, go_sem]; rfl) rfl) ?_)
    | (refine ARun.p1 rfl rfl (pl_store (by simp (decide := true) only [Nat.reduceAdd, go_sem]; rfl) (by simp (decide := true) only [Nat.reduceAdd, go_sem]; rfl) (by simp (decide := true) only [Nat.reduceAdd, go_sem]; rfl) (by rfl) (by rfl) (by kernel_rfl) (by rfl) (by rfl)) ?_)
    | fail)
  refine AWp.cond (b := _) rfl (fun h8 => ?_) (fun h8 => ?_)
  · simp at h8
    repeat (first
      | with_reducible refine AWp.seq ?_
      | ((with_reducible apply AWp.regionL); (refine ⟨rfl, rfl, ?_⟩; simp (decide := true) only [Nat.reduceAdd, List.map, go_sem]; rfl))
      | with_reducible refine ARun.nil ?_
      | with_reducible refine thenQ_n ?_
      | with_reducible refine thenQ_r ?_
      | with_reducible refine thenQ_e ?_
      | with_reducible refine blkQ_n ?_
      | with_reducible refine blkQ_r ?_
      | with_reducible refine blkQ_e ?_
      | with_reducible refine blkQ_o rfl ?_
      | with_reducible refine AWp.block ?_
      | with_reducible refine AWp.skip ?_
      | with_reducible refine AWp.ret ?_
      | with_reducible refine AWp.exit ?_
      | with_reducible refine retQ_n ?_
      | with_reducible refine retQ_r ?_
      | ((with_reducible apply ARun.go); (simp (decide := true) only [Nat.reduceAdd, go_sem]; rfl); (simp (decide := true) only [Nat.reduceAdd, go_sem]; (repeat simp (decide := true) only [Nat.reduceAdd, go_sem]); rfl))
      | (refine ARun.p1 rfl rfl (pl_box (by simp (decide := true) only [Nat.reduceAdd, go_sem]; rfl) rfl) ?_)
      | (refine ARun.p1 rfl rfl (pl_alloc (by simp only [Nat.reduceAdd, go_sem]; rfl) rfl) ?_)
      | (refine ARun.p1 rfl rfl (pl_store (by simp (decide := true) only [Nat.reduceAdd, go_sem]; rfl) (by simp (decide := true) only [Nat.reduceAdd, go_sem]; rfl) (by simp (decide := true) only [Nat.reduceAdd, go_sem]; rfl) (by rfl) (by rfl) (by kernel_rfl) (by rfl) (by rfl)) ?_)
      | fail)
    refine ARun.gl rfl rfl (by simp (decide := true) only [Nat.reduceAdd, go_sem] <;> rfl) (fun hg => ql_callC (vars_ok l s.vars s.vars.length) rfl (by simp (decide := true) only [Nat.reduceAdd, go_sem] <;> rfl) (by simp (decide := true) only [Nat.reduceAdd, go_sem, List.map]) (by simp [-List.map_take, -List.map_drop])) ?_
    repeat (first
      | with_reducible refine AWp.seq ?_
      | ((with_reducible apply AWp.regionL); (refine ⟨rfl, rfl, ?_⟩; simp (decide := true) only [Nat.reduceAdd, List.map, go_sem]; rfl))
      | with_reducible refine ARun.nil ?_
      | with_reducible refine thenQ_n ?_
      | with_reducible refine thenQ_r ?_
      | with_reducible refine thenQ_e ?_
      | with_reducible refine blkQ_n ?_
      | with_reducible refine blkQ_r ?_
      | with_reducible refine blkQ_e ?_
      | with_reducible refine blkQ_o rfl ?_
      | with_reducible refine AWp.block ?_
      | with_reducible refine AWp.skip ?_
      | with_reducible refine AWp.ret ?_
      | with_reducible refine AWp.exit ?_
      | with_reducible refine retQ_n ?_
      | with_reducible refine retQ_r ?_
      | ((with_reducible apply ARun.go); (simp (decide := true) only [Nat.reduceAdd, go_sem]; rfl); (simp (decide := true) only [Nat.reduceAdd, go_sem]; (repeat simp (decide := true) only [Nat.reduceAdd, go_sem]); rfl))
      | (refine ARun.p1 rfl rfl (pl_box (by simp (decide := true) only [Nat.reduceAdd, go_sem]; rfl) rfl) ?_)
      | (refine ARun.p1 rfl rfl (pl_alloc (by simp only [Nat.reduceAdd, go_sem]; rfl) rfl) ?_)
      | (refine ARun.p1 rfl rfl (pl_store (by simp (decide := true) only [Nat.reduceAdd, go_sem]; rfl) (by simp (decide := true) only [Nat.reduceAdd, go_sem]; rfl) (by simp (decide := true) only [Nat.reduceAdd, go_sem]; rfl) (by rfl) (by rfl) (by kernel_rfl) (by rfl) (by rfl)) ?_)
      | fail)
    exact Ret.bool rfl (by rw [hb]; simp [okStep, h8, and_assoc])
  simp at h8
  repeat (first
    | with_reducible refine AWp.seq ?_
    | ((with_reducible apply AWp.regionL); (refine ⟨rfl, rfl, ?_⟩; simp (decide := true) only [Nat.reduceAdd, List.map, go_sem]; rfl))
    | with_reducible refine ARun.nil ?_
    | with_reducible refine thenQ_n ?_
    | with_reducible refine thenQ_r ?_
    | with_reducible refine thenQ_e ?_
    | with_reducible refine blkQ_n ?_
    | with_reducible refine blkQ_r ?_
    | with_reducible refine blkQ_e ?_
    | with_reducible refine blkQ_o rfl ?_
    | with_reducible refine AWp.block ?_
    | with_reducible refine AWp.skip ?_
    | with_reducible refine AWp.ret ?_
    | with_reducible refine AWp.exit ?_
    | with_reducible refine retQ_n ?_
    | with_reducible refine retQ_r ?_
    | ((with_reducible apply ARun.go); (simp (decide := true) only [Nat.reduceAdd, go_sem]; rfl); (simp (decide := true) only [Nat.reduceAdd, go_sem]; (repeat simp (decide := true) only [Nat.reduceAdd, go_sem]); rfl))
    | (refine ARun.p1 rfl rfl (pl_box (by simp (decide := true) only [Nat.reduceAdd, go_sem]; rfl) rfl) ?_)
    | (refine ARun.p1 rfl rfl (pl_alloc (by simp only [Nat.reduceAdd, go_sem]; rfl) rfl) ?_)
    | (refine ARun.p1 rfl rfl (pl_store (by simp (decide := true) only [Nat.reduceAdd, go_sem]; rfl) (by simp (decide := true) only [Nat.reduceAdd, go_sem]; rfl) (by simp (decide := true) only [Nat.reduceAdd, go_sem]; rfl) (by rfl) (by rfl) (by kernel_rfl) (by rfl) (by rfl)) ?_)
    | fail)
  refine AWp.cond (b := _) rfl (fun h9 => ?_) (fun h9 => ?_)
  · simp at h9
    repeat (first
      | with_reducible refine AWp.seq ?_
      | ((with_reducible apply AWp.regionL); (refine ⟨rfl, rfl, ?_⟩; simp (decide := true) only [Nat.reduceAdd, List.map, go_sem]; rfl))
      | with_reducible refine ARun.nil ?_
      | with_reducible refine thenQ_n ?_
      | with_reducible refine thenQ_r ?_
      | with_reducible refine thenQ_e ?_
      | with_reducible refine blkQ_n ?_
      | with_reducible refine blkQ_r ?_
      | with_reducible refine blkQ_e ?_
      | with_reducible refine blkQ_o rfl ?_
      | with_reducible refine AWp.block ?_
      | with_reducible refine AWp.skip ?_
      | with_reducible refine AWp.ret ?_
      | with_reducible refine AWp.exit ?_
      | with_reducible refine retQ_n ?_
      | with_reducible refine retQ_r ?_
      | ((with_reducible apply ARun.go); (simp (decide := true) only [Nat.reduceAdd, go_sem]; rfl); (simp (decide := true) only [Nat.reduceAdd, go_sem]; (repeat simp (decide := true) only [Nat.reduceAdd, go_sem]); rfl))
      | (refine ARun.p1 rfl rfl (pl_box (by simp (decide := true) only [Nat.reduceAdd, go_sem]; rfl) rfl) ?_)
      | (refine ARun.p1 rfl rfl (pl_alloc (by simp only [Nat.reduceAdd, go_sem]; rfl) rfl) ?_)
      | (refine ARun.p1 rfl rfl (pl_store (by simp (decide := true) only [Nat.reduceAdd, go_sem]; rfl) (by simp (decide := true) only [Nat.reduceAdd, go_sem]; rfl) (by simp (decide := true) only [Nat.reduceAdd, go_sem]; rfl) (by rfl) (by rfl) (by kernel_rfl) (by rfl) (by rfl)) ?_)
      | fail)
    refine AWp.cond (b := _) rfl (fun hc => ?_) (fun hc => ?_)
    · repeat (first
        | with_reducible refine AWp.seq ?_
        | ((with_reducible apply AWp.regionL); (refine ⟨rfl, rfl, ?_⟩; simp (decide := true) only [Nat.reduceAdd, List.map, go_sem]; rfl))
        | with_reducible refine ARun.nil ?_
        | with_reducible refine thenQ_n ?_
        | with_reducible refine thenQ_r ?_
        | with_reducible refine thenQ_e ?_
        | with_reducible refine blkQ_n ?_
        | with_reducible refine blkQ_r ?_
        | with_reducible refine blkQ_e ?_
        | with_reducible refine blkQ_o rfl ?_
        | with_reducible refine AWp.block ?_
        | with_reducible refine AWp.skip ?_
        | with_reducible refine AWp.ret ?_
        | with_reducible refine AWp.exit ?_
        | with_reducible refine retQ_n ?_
        | with_reducible refine retQ_r ?_
        | ((with_reducible apply ARun.go); (simp (decide := true) only [Nat.reduceAdd, go_sem]; rfl); (simp (decide := true) only [Nat.reduceAdd, go_sem]; (repeat simp (decide := true) only [Nat.reduceAdd, go_sem]); rfl))
        | (refine ARun.p1 rfl rfl (pl_box (by simp (decide := true) only [Nat.reduceAdd, go_sem]; rfl) rfl) ?_)
        | (refine ARun.p1 rfl rfl (pl_alloc (by simp only [Nat.reduceAdd, go_sem]; rfl) rfl) ?_)
        | (refine ARun.p1 rfl rfl (pl_store (by simp (decide := true) only [Nat.reduceAdd, go_sem]; rfl) (by simp (decide := true) only [Nat.reduceAdd, go_sem]; rfl) (by simp (decide := true) only [Nat.reduceAdd, go_sem]; rfl) (by rfl) (by rfl) (by kernel_rfl) (by rfl) (by rfl)) ?_)
        | fail)
      exact Ret.bool rfl (by rw [hb]; simp [okStep, h9]; simp at hc; intro e1 e2 e3 e4 e5 e6 e7 e8; rcases hc with ((((((h | h) | h) | h) | h) | h) | ⟨h, h'⟩) <;> first | exact absurd e1 h | exact absurd e2 h | omega | (have := e7 h; omega))
    simp at hc
    repeat (first
      | with_reducible refine AWp.seq ?_
      | ((with_reducible apply AWp.regionL); (refine ⟨rfl, rfl, ?_⟩; simp (decide := true) only [Nat.reduceAdd, List.map, go_sem]; rfl))
      | with_reducible refine ARun.nil ?_
      | with_reducible refine thenQ_n ?_
      | with_reducible refine thenQ_r ?_
      | with_reducible refine thenQ_e ?_
      | with_reducible refine blkQ_n ?_
      | with_reducible refine blkQ_r ?_
      | with_reducible refine blkQ_e ?_
      | with_reducible refine blkQ_o rfl ?_
      | with_reducible refine AWp.block ?_
      | with_reducible refine AWp.skip ?_
      | with_reducible refine AWp.ret ?_
      | with_reducible refine AWp.exit ?_
      | with_reducible refine retQ_n ?_
      | with_reducible refine retQ_r ?_
      | ((with_reducible apply ARun.go); (simp (decide := true) only [Nat.reduceAdd, go_sem]; rfl); (simp (decide := true) only [Nat.reduceAdd, go_sem]; (repeat simp (decide := true) only [Nat.reduceAdd, go_sem]); rfl))
      | (refine ARun.p1 rfl rfl (pl_box (by simp (decide := true) only [Nat.reduceAdd, go_sem]; rfl) rfl) ?_)
      | (refine ARun.p1 rfl rfl (pl_alloc (by simp only [Nat.reduceAdd, go_sem]; rfl) rfl) ?_)
      | (refine ARun.p1 rfl rfl (pl_store (by simp (decide := true) only [Nat.reduceAdd, go_sem]; rfl) (by simp (decide := true) only [Nat.reduceAdd, go_sem]; rfl) (by simp (decide := true) only [Nat.reduceAdd, go_sem]; rfl) (by rfl) (by rfl) (by kernel_rfl) (by rfl) (by rfl)) ?_)
      | fail)
    ((with_reducible apply AWp.drawL (k := 12) follows); (refine ⟨rfl, rfl, by kernel_rfl, by decide, ?_, ?_⟩; (simp (decide := true) only [Nat.reduceAdd, go_sem, List.map, List.take]; rfl); (simp (decide := true) only [Nat.reduceAdd, go_sem, List.map, List.drop]; rfl)))
    repeat (first
      | with_reducible refine AWp.seq ?_
      | ((with_reducible apply AWp.regionL); (refine ⟨rfl, rfl, ?_⟩; simp (decide := true) only [Nat.reduceAdd, List.map, go_sem]; rfl))
      | with_reducible refine ARun.nil ?_
      | with_reducible refine thenQ_n ?_
      | with_reducible refine thenQ_r ?_
      | with_reducible refine thenQ_e ?_
      | with_reducible refine blkQ_n ?_
      | with_reducible refine blkQ_r ?_
      | with_reducible refine blkQ_e ?_
      | with_reducible refine blkQ_o rfl ?_
      | with_reducible refine AWp.block ?_
      | with_reducible refine AWp.skip ?_
      | with_reducible refine AWp.ret ?_
      | with_reducible refine AWp.exit ?_
      | with_reducible refine retQ_n ?_
      | with_reducible refine retQ_r ?_
      | ((with_reducible apply ARun.go); (simp (decide := true) only [Nat.reduceAdd, go_sem]; rfl); (simp (decide := true) only [Nat.reduceAdd, go_sem]; (repeat simp (decide := true) only [Nat.reduceAdd, go_sem]); rfl))
      | (refine ARun.p1 rfl rfl (pl_box (by simp (decide := true) only [Nat.reduceAdd, go_sem]; rfl) rfl) ?_)
      | (refine ARun.p1 rfl rfl (pl_alloc (by simp only [Nat.reduceAdd, go_sem]; rfl) rfl) ?_)
      | (refine ARun.p1 rfl rfl (pl_store (by simp (decide := true) only [Nat.reduceAdd, go_sem]; rfl) (by simp (decide := true) only [Nat.reduceAdd, go_sem]; rfl) (by simp (decide := true) only [Nat.reduceAdd, go_sem]; rfl) (by rfl) (by rfl) (by kernel_rfl) (by rfl) (by rfl)) ?_)
      | fail)
    refine ARun.q1 rfl rfl (ql_idxD (l := l.p.methods) (f := encC) cd0 rfl rfl Try.underlying22 (by omega) (by omega) (by kernel_rfl)) ?_
    repeat (first
      | with_reducible refine AWp.seq ?_
      | ((with_reducible apply AWp.regionL); (refine ⟨rfl, rfl, ?_⟩; simp (decide := true) only [Nat.reduceAdd, List.map, go_sem]; rfl))
      | with_reducible refine ARun.nil ?_
      | with_reducible refine thenQ_n ?_
      | with_reducible refine thenQ_r ?_
      | with_reducible refine thenQ_e ?_
      | with_reducible refine blkQ_n ?_
      | with_reducible refine blkQ_r ?_
      | with_reducible refine blkQ_e ?_
      | with_reducible refine blkQ_o rfl ?_
      | with_reducible refine AWp.block ?_
      | with_reducible refine AWp.skip ?_
      | with_reducible refine AWp.ret ?_
      | with_reducible refine AWp.exit ?_
      | with_reducible refine retQ_n ?_
      | with_reducible refine retQ_r ?_
      | ((with_reducible apply ARun.go); (simp (decide := true) only [Nat.reduceAdd, go_sem]; rfl); (simp (decide := true) only [Nat.reduceAdd, go_sem]; (repeat simp (decide := true) only [Nat.reduceAdd, go_sem]); rfl))
      | (refine ARun.p1 rfl rfl (pl_box (by simp (decide := true) only [Nat.reduceAdd, go_sem]; rfl) rfl) ?_)
      | (refine ARun.p1 rfl rfl (pl_alloc (by simp only [Nat.reduceAdd, go_sem]; rfl) rfl) ?_)
      | (refine ARun.p1 rfl rfl (pl_store (by simp (decide := true) only [Nat.reduceAdd, go_sem]; rfl) (by simp (decide := true) only [Nat.reduceAdd, go_sem]; rfl) (by simp (decide := true) only [Nat.reduceAdd, go_sem]; rfl) (by rfl) (by rfl) (by kernel_rfl) (by rfl) (by rfl)) ?_)
      | fail)
    refine ARun.q1 rfl rfl (ql_callC (vars_ok l s.vars (cod l.p.methods s.task).params) rfl (by simp (decide := true) only [Nat.reduceAdd, go_sem] <;> rfl) (by simp (decide := true) only [Nat.reduceAdd, go_sem, List.map]) (by simp [-List.map_take, -List.map_drop])) ?_
    repeat (first
      | with_reducible refine AWp.seq ?_
      | ((with_reducible apply AWp.regionL); (refine ⟨rfl, rfl, ?_⟩; simp (decide := true) only [Nat.reduceAdd, List.map, go_sem]; rfl))
      | with_reducible refine ARun.nil ?_
      | with_reducible refine thenQ_n ?_
      | with_reducible refine thenQ_r ?_
      | with_reducible refine thenQ_e ?_
      | with_reducible refine blkQ_n ?_
      | with_reducible refine blkQ_r ?_
      | with_reducible refine blkQ_e ?_
      | with_reducible refine blkQ_o rfl ?_
      | with_reducible refine AWp.block ?_
      | with_reducible refine AWp.skip ?_
      | with_reducible refine AWp.ret ?_
      | with_reducible refine AWp.exit ?_
      | with_reducible refine retQ_n ?_
      | with_reducible refine retQ_r ?_
      | ((with_reducible apply ARun.go); (simp (decide := true) only [Nat.reduceAdd, go_sem]; rfl); (simp (decide := true) only [Nat.reduceAdd, go_sem]; (repeat simp (decide := true) only [Nat.reduceAdd, go_sem]); rfl))
      | (refine ARun.p1 rfl rfl (pl_box (by simp (decide := true) only [Nat.reduceAdd, go_sem]; rfl) rfl) ?_)
      | (refine ARun.p1 rfl rfl (pl_alloc (by simp only [Nat.reduceAdd, go_sem]; rfl) rfl) ?_)
      | (refine ARun.p1 rfl rfl (pl_store (by simp (decide := true) only [Nat.reduceAdd, go_sem]; rfl) (by simp (decide := true) only [Nat.reduceAdd, go_sem]; rfl) (by simp (decide := true) only [Nat.reduceAdd, go_sem]; rfl) (by rfl) (by rfl) (by kernel_rfl) (by rfl) (by rfl)) ?_)
      | fail)
    exact Ret.bool rfl (by rw [hb]; simp [okStep, h9, plain]; intros; simp_all)
  simp at h9
  repeat (first
    | with_reducible refine AWp.seq ?_
    | ((with_reducible apply AWp.regionL); (refine ⟨rfl, rfl, ?_⟩; simp (decide := true) only [Nat.reduceAdd, List.map, go_sem]; rfl))
    | with_reducible refine ARun.nil ?_
    | with_reducible refine thenQ_n ?_
    | with_reducible refine thenQ_r ?_
    | with_reducible refine thenQ_e ?_
    | with_reducible refine blkQ_n ?_
    | with_reducible refine blkQ_r ?_
    | with_reducible refine blkQ_e ?_
    | with_reducible refine blkQ_o rfl ?_
    | with_reducible refine AWp.block ?_
    | with_reducible refine AWp.skip ?_
    | with_reducible refine AWp.ret ?_
    | with_reducible refine AWp.exit ?_
    | with_reducible refine retQ_n ?_
    | with_reducible refine retQ_r ?_
    | ((with_reducible apply ARun.go); (simp (decide := true) only [Nat.reduceAdd, go_sem]; rfl); (simp (decide := true) only [Nat.reduceAdd, go_sem]; (repeat simp (decide := true) only [Nat.reduceAdd, go_sem]); rfl))
    | (refine ARun.p1 rfl rfl (pl_box (by simp (decide := true) only [Nat.reduceAdd, go_sem]; rfl) rfl) ?_)
    | (refine ARun.p1 rfl rfl (pl_alloc (by simp only [Nat.reduceAdd, go_sem]; rfl) rfl) ?_)
    | (refine ARun.p1 rfl rfl (pl_store (by simp (decide := true) only [Nat.reduceAdd, go_sem]; rfl) (by simp (decide := true) only [Nat.reduceAdd, go_sem]; rfl) (by simp (decide := true) only [Nat.reduceAdd, go_sem]; rfl) (by rfl) (by rfl) (by kernel_rfl) (by rfl) (by rfl)) ?_)
    | fail)
  refine AWp.join (S 304 (decide (s.op = 11 ∨ s.op = 12))) ?_ ?_
  · refine AWp.cond (b := _) rfl (fun h2 => ?_) (fun h2 => ?_)
    · repeat (first
        | with_reducible refine AWp.seq ?_
        | ((with_reducible apply AWp.regionL); (refine ⟨rfl, rfl, ?_⟩; simp (decide := true) only [Nat.reduceAdd, List.map, go_sem]; rfl))
        | with_reducible refine ARun.nil ?_
        | with_reducible refine thenQ_n ?_
        | with_reducible refine thenQ_r ?_
        | with_reducible refine thenQ_e ?_
        | with_reducible refine blkQ_n ?_
        | with_reducible refine blkQ_r ?_
        | with_reducible refine blkQ_e ?_
        | with_reducible refine blkQ_o rfl ?_
        | with_reducible refine AWp.block ?_
        | with_reducible refine AWp.skip ?_
        | with_reducible refine AWp.ret ?_
        | with_reducible refine AWp.exit ?_
        | with_reducible refine retQ_n ?_
        | with_reducible refine retQ_r ?_
        | ((with_reducible apply ARun.go); (simp (decide := true) only [Nat.reduceAdd, go_sem]; rfl); (simp (decide := true) only [Nat.reduceAdd, go_sem]; (repeat simp (decide := true) only [Nat.reduceAdd, go_sem]); rfl))
        | (refine ARun.p1 rfl rfl (pl_box (by simp (decide := true) only [Nat.reduceAdd, go_sem]; rfl) rfl) ?_)
        | (refine ARun.p1 rfl rfl (pl_alloc (by simp only [Nat.reduceAdd, go_sem]; rfl) rfl) ?_)
        | (refine ARun.p1 rfl rfl (pl_store (by simp (decide := true) only [Nat.reduceAdd, go_sem]; rfl) (by simp (decide := true) only [Nat.reduceAdd, go_sem]; rfl) (by simp (decide := true) only [Nat.reduceAdd, go_sem]; rfl) (by rfl) (by rfl) (by kernel_rfl) (by rfl) (by rfl)) ?_)
        | fail)
      exact .env' (by simp (decide := true) only [go_sem, hpl]; simp at h2; simp [h2, Le.refl])
    · repeat (first
        | with_reducible refine AWp.seq ?_
        | ((with_reducible apply AWp.regionL); (refine ⟨rfl, rfl, ?_⟩; simp (decide := true) only [Nat.reduceAdd, List.map, go_sem]; rfl))
        | with_reducible refine ARun.nil ?_
        | with_reducible refine thenQ_n ?_
        | with_reducible refine thenQ_r ?_
        | with_reducible refine thenQ_e ?_
        | with_reducible refine blkQ_n ?_
        | with_reducible refine blkQ_r ?_
        | with_reducible refine blkQ_e ?_
        | with_reducible refine blkQ_o rfl ?_
        | with_reducible refine AWp.block ?_
        | with_reducible refine AWp.skip ?_
        | with_reducible refine AWp.ret ?_
        | with_reducible refine AWp.exit ?_
        | with_reducible refine retQ_n ?_
        | with_reducible refine retQ_r ?_
        | ((with_reducible apply ARun.go); (simp (decide := true) only [Nat.reduceAdd, go_sem]; rfl); (simp (decide := true) only [Nat.reduceAdd, go_sem]; (repeat simp (decide := true) only [Nat.reduceAdd, go_sem]); rfl))
        | (refine ARun.p1 rfl rfl (pl_box (by simp (decide := true) only [Nat.reduceAdd, go_sem]; rfl) rfl) ?_)
        | (refine ARun.p1 rfl rfl (pl_alloc (by simp only [Nat.reduceAdd, go_sem]; rfl) rfl) ?_)
        | (refine ARun.p1 rfl rfl (pl_store (by simp (decide := true) only [Nat.reduceAdd, go_sem]; rfl) (by simp (decide := true) only [Nat.reduceAdd, go_sem]; rfl) (by simp (decide := true) only [Nat.reduceAdd, go_sem]; rfl) (by rfl) (by rfl) (by kernel_rfl) (by rfl) (by rfl)) ?_)
        | fail)
      exact .env' (by simp (decide := true) only [go_sem, hpl]; simp at h2; simp [h2, Le.refl])
  simp only [S]
  refine AWp.cond (b := _) rfl (fun h11 => ?_) (fun h11 => ?_)
  · simp at h11
    repeat (first
      | with_reducible refine AWp.seq ?_
      | ((with_reducible apply AWp.regionL); (refine ⟨rfl, rfl, ?_⟩; simp (decide := true) only [Nat.reduceAdd, List.map, go_sem]; rfl))
      | with_reducible refine ARun.nil ?_
      | with_reducible refine thenQ_n ?_
      | with_reducible refine thenQ_r ?_
      | with_reducible refine thenQ_e ?_
      | with_reducible refine blkQ_n ?_
      | with_reducible refine blkQ_r ?_
      | with_reducible refine blkQ_e ?_
      | with_reducible refine blkQ_o rfl ?_
      | with_reducible refine AWp.block ?_
      | with_reducible refine AWp.skip ?_
      | with_reducible refine AWp.ret ?_
      | with_reducible refine AWp.exit ?_
      | with_reducible refine retQ_n ?_
      | with_reducible refine retQ_r ?_
      | ((with_reducible apply ARun.go); (simp (decide := true) only [Nat.reduceAdd, go_sem]; rfl); (simp (decide := true) only [Nat.reduceAdd, go_sem]; (repeat simp (decide := true) only [Nat.reduceAdd, go_sem]); rfl))
      | (refine ARun.p1 rfl rfl (pl_box (by simp (decide := true) only [Nat.reduceAdd, go_sem]; rfl) rfl) ?_)
      | (refine ARun.p1 rfl rfl (pl_alloc (by simp only [Nat.reduceAdd, go_sem]; rfl) rfl) ?_)
      | (refine ARun.p1 rfl rfl (pl_store (by simp (decide := true) only [Nat.reduceAdd, go_sem]; rfl) (by simp (decide := true) only [Nat.reduceAdd, go_sem]; rfl) (by simp (decide := true) only [Nat.reduceAdd, go_sem]; rfl) (by rfl) (by rfl) (by kernel_rfl) (by rfl) (by rfl)) ?_)
      | fail)
    exact Ret.bool rfl (by rw [hb]; rcases h11 with h | h <;> simp [okStep, h, noneT, and_assoc])
  simp at h11
  repeat (first
    | with_reducible refine AWp.seq ?_
    | ((with_reducible apply AWp.regionL); (refine ⟨rfl, rfl, ?_⟩; simp (decide := true) only [Nat.reduceAdd, List.map, go_sem]; rfl))
    | with_reducible refine ARun.nil ?_
    | with_reducible refine thenQ_n ?_
    | with_reducible refine thenQ_r ?_
    | with_reducible refine thenQ_e ?_
    | with_reducible refine blkQ_n ?_
    | with_reducible refine blkQ_r ?_
    | with_reducible refine blkQ_e ?_
    | with_reducible refine blkQ_o rfl ?_
    | with_reducible refine AWp.block ?_
    | with_reducible refine AWp.skip ?_
    | with_reducible refine AWp.ret ?_
    | with_reducible refine AWp.exit ?_
    | with_reducible refine retQ_n ?_
    | with_reducible refine retQ_r ?_
    | ((with_reducible apply ARun.go); (simp (decide := true) only [Nat.reduceAdd, go_sem]; rfl); (simp (decide := true) only [Nat.reduceAdd, go_sem]; (repeat simp (decide := true) only [Nat.reduceAdd, go_sem]); rfl))
    | (refine ARun.p1 rfl rfl (pl_box (by simp (decide := true) only [Nat.reduceAdd, go_sem]; rfl) rfl) ?_)
    | (refine ARun.p1 rfl rfl (pl_alloc (by simp only [Nat.reduceAdd, go_sem]; rfl) rfl) ?_)
    | (refine ARun.p1 rfl rfl (pl_store (by simp (decide := true) only [Nat.reduceAdd, go_sem]; rfl) (by simp (decide := true) only [Nat.reduceAdd, go_sem]; rfl) (by simp (decide := true) only [Nat.reduceAdd, go_sem]; rfl) (by rfl) (by rfl) (by kernel_rfl) (by rfl) (by rfl)) ?_)
    | fail)
  exact Ret.bool rfl (by rw [hb]; simp [okStep, *])
end Go.Ab
