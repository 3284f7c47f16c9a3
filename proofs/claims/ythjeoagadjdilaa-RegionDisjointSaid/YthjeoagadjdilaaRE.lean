/- Part of the proof. -/
import Derived.Test.YthjeoagadjdilaaRD
set_option linter.unusedSimpArgs false
set_option linter.unusedVariables false
set_option maxHeartbeats 4000000
namespace Go.Ab
open Go Go.Ab Go.Proofs Go.Ab.Ty
set_option linter.unusedSimpArgs false
set_option linter.unusedVariables false

attribute [go_sem] beq_self_eq_true
def codeOf (p : Tk) (n : Int) : Cd := if n < 0 then cod p.methods (-1 - n) else cod p.codes n
def numOk (p : Tk) (n : Int) : Prop := (0 ≤ n ∧ n < p.codes.length) ∨ (n < 0 ∧ -n ≤ p.methods.length)
theorem coded_ok (p : Tk) (n : Int) (h : numOk p n) : Fn Try.prog 29 [encT p, .int n] (.tup [encC (codeOf p n), .bool (decide (n < 0)), .bool true]) := by
  rcases h with h | h
  · have := coded_code p n h
    have e : ¬ n < 0 := by omega
    simpa [codeOf, e] using this
  · have := coded_method p n h
    simpa [codeOf, h.1] using this

def numC (k : Nat) : List Int := (List.range k).map fun i : Nat => (i : Int)
def numM (k : Nat) : List Int := (List.range k).map fun i : Nat => -1 - (i : Int)
theorem numC_succ (k : Nat) : numC (k + 1) = numC k ++ [(k : Int)] := by simp [numC, List.range_succ]
theorem numM_succ (k : Nat) : numM (k + 1) = numM k ++ [-1 - (k : Int)] := by simp [numM, List.range_succ]
theorem numC_len (k : Nat) : (numC k).length = k := by simp [numC]
theorem numM_len (k : Nat) : (numM k).length = k := by simp [numM]
def nums (p : Tk) : List Int := numC p.codes.length ++ numM p.methods.length
theorem nums_ok {p : Tk} {n : Int} (h : n ∈ nums p) : numOk p n := by
  simp only [nums, numC, numM, List.mem_append, List.mem_map, List.mem_range] at h
  rcases h with ⟨i, h, rfl⟩ | ⟨i, h, rfl⟩
  · exact .inl (by omega)
  · exact .inr (by omega)

noncomputable def stepsF : Rg → List Stp → Int → Option (Int × Int)
  | _, [], _ => none
  | r, s :: l, k => if afterE r s = 0 then stepsF (afterR r s) l (k + 1) else some (k, afterE r s)
noncomputable def regAt (r : Rg) : List Stp → Rg
  | [] => r
  | s :: l => regAt (afterR r s) l
theorem regAt_app (r : Rg) (l : List Stp) (s : Stp) : regAt r (l ++ [s]) = afterR (regAt r l) s := by
  induction l generalizing r with
  | nil => rfl
  | cons x l ih => exact ih _
noncomputable def codeF (p : Tk) (n : Int) : Option (Int × Int) := stepsF (startF (codeOf p n) (decide (n < 0))) (codeOf p n).steps 0
noncomputable def numsF (p : Tk) : List Int → Int × Int × Int
  | [] => (0, 0, 0)
  | n :: l => match codeF p n with
    | none => numsF p l
    | some (k, e) => (n, k, e)

theorem inR_of {l : Lk} {i : Int} {s : Stp} (h : okStep l i s) (hv : l.c.vars ≤ 8) (hp : ∀ c ∈ l.p.codes, c.params ≤ 4) (hm : ∀ c ∈ l.p.methods, c.params ≤ 4) : inR s := by
  have hmem : ∀ (L : List Cd) (n : Int), 0 ≤ n → n < L.length → cod L n ∈ L := fun L n h0 h1 => by
    rw [show cod L n = L[n.toNat]'(by omega) from nth_eqI (by omega)]; exact List.getElem_mem _
  have hin : ∀ vs : List Int, okVars l.c.vars vs → ∀ v ∈ vs, 0 ≤ v ∧ v < 8 := fun vs hk v hm => by
    have := hk.1 v hm; omega
  rcases h with ⟨ho, h1, _⟩ | ⟨ho, h1, _⟩ | ⟨ho, h1, _⟩ | ⟨ho, _, _, _, h4, h5, _, h7, h8⟩ | ⟨ho, _⟩ | ⟨ho, _, _, _, _, _, h6, h7, h8⟩ | ⟨ho, _, _, _, h4, h5, _, h7, h8⟩ | ⟨ho, _⟩
  · exact ⟨fun _ => hin _ h1 _ (by simp), fun h => by unfold u2 at h; omega, fun h => by unfold u5 at h; omega⟩
  · exact ⟨fun _ => hin _ h1 _ (by simp), fun _ => hin _ h1 _ (by simp), fun h => by unfold u5 at h; omega⟩
  · exact ⟨fun _ => hin _ h1 _ (by simp), fun h => by unfold u2 at h; omega, fun h => by unfold u5 at h; omega⟩
  · exact ⟨fun h => by unfold u1 at h; omega, fun h => by unfold u2 at h; omega, fun _ => ⟨by have := hp _ (hmem _ _ (by omega) h5); omega, hin _ h8⟩⟩
  · exact ⟨fun h => by unfold u1 at h; omega, fun h => by unfold u2 at h; omega, fun h => by unfold u5 at h; omega⟩
  · exact ⟨fun h => by unfold u1 at h; omega, fun h => by unfold u2 at h; omega, fun _ => ⟨by omega, hin _ h8⟩⟩
  · exact ⟨fun h => by unfold u1 at h; omega, fun h => by unfold u2 at h; omega, fun _ => ⟨by have := hm _ (hmem _ _ h4 h5); omega, hin _ h8⟩⟩
  · exact ⟨fun h => by unfold u1 at h; omega, fun h => by unfold u2 at h; omega, fun h => by unfold u5 at h; omega⟩

def PuB (blk : ABlk) : Prop := ∀ e ∈ blk.es, ∀ c ∈ e.cells, Pu c
theorem PuBs {H H2 : List ABlk} {k : Nat} (h : ∀ blk ∈ H2, PuB blk) : ∀ blk ∈ H2, ∀ e ∈ blk.es, ∀ c ∈ e.cells, Pub H k c c := fun blk hb e he c hc => .pu (h blk hb e he c hc)
theorem PuB_T (p : Tk) : PuB ⟨24, 3, [encT p]⟩ := fun e he c hc => by
  rw [List.mem_singleton] at he; subst he; exact Pu_cellsT p c hc
theorem PuB_R (r : Rg) : PuB ⟨60, 10, [encR r]⟩ := fun e he c hc => by
  rw [List.mem_singleton] at he; subst he; exact Pu_cellsR r c hc
theorem PuB_C (c : Cd) : PuB ⟨31, 3, [encC c]⟩ := fun e he c hc => by
  rw [List.mem_singleton] at he; subst he
  simp only [encC, AV.cells, List.mem_cons, List.not_mem_nil, or_false] at hc
  rcases hc with rfl | rfl | rfl <;> first | exact .base _ | exact Pu_mapS _
theorem PuB_N (l : List Int) : PuB ⟨3, 1, l.map .int⟩ := fun e he c hc => by
  obtain ⟨x, _, rfl⟩ := List.mem_map.1 he
  simp [AV.cells] at hc; subst hc; exact .base _

def encRes (x : Int × Int × Int) : AV := .tup [.int x.1, .int x.2.1, .int x.2.2]
theorem Pu_res (x : Int × Int × Int) : Pu (encRes x) := .tup fun c hc => by
  simp only [List.mem_cons, List.not_mem_nil, or_false] at hc
  rcases hc with rfl | rfl | rfl <;> exact .base _

open Classical in
theorem check_bad (p : Tk) (h : ¬ okValid p) : Fn Try.prog 15 [encT p] (encRes (0, 0, 230)) := by
  refine Fn.intro' [(0, encT p)] 1 80 Try.func15 (by kernel_rfl) rfl rfl rfl rfl rfl ?_
  repeat (first | (with_reducible first | apply zs | apply zN | apply z1 | apply z2 | apply z3 | apply z4 | apply z5 | apply z6 | refine z7 rfl ?_ | apply zb | apply zk | apply zr | apply ze | apply y1 | apply y2) | ((with_reducible apply zR); (refine ⟨rfl, rfl, ?_⟩; simp (decide := true) only [go_sem, List.map]; rfl)) | ((with_reducible apply zG); (simp (decide := true) only [go_sem]; rfl); (simp (decide := true) only [go_sem]; (repeat simp (decide := true) only [go_sem]); rfl)) | (refine zp rfl rfl (pl_box (by simp (decide := true) only [go_sem]; rfl) rfl) ?_) | (refine zp rfl rfl (pl_alloc (by simp only [go_sem]; rfl) rfl) ?_) | (refine zp rfl rfl (pl_store (by simp (decide := true) only [go_sem]; rfl) (by simp (decide := true) only [go_sem]; rfl) (by simp (decide := true) only [go_sem]; rfl) (by rfl) (by rfl) (by kernel_rfl) (by rfl) (by rfl)) ?_) | fail)
  refine ARun.q1 rfl rfl (ql_callC (valid_ok p false (by simp [h])) rfl (by simp (decide := true) only [go_sem] <;> rfl) (by simp (decide := true) only [go_sem, List.map]) (by simp [-List.map_take, -List.map_drop])) ?_
  repeat (first | (with_reducible first | apply zs | apply zN | apply z1 | apply z2 | apply z3 | apply z4 | apply z5 | apply z6 | refine z7 rfl ?_ | apply zb | apply zk | apply zr | apply ze | apply y1 | apply y2) | ((with_reducible apply zR); (refine ⟨rfl, rfl, ?_⟩; simp (decide := true) only [go_sem, List.map]; rfl)) | ((with_reducible apply zG); (simp (decide := true) only [go_sem]; rfl); (simp (decide := true) only [go_sem]; (repeat simp (decide := true) only [go_sem]); rfl)) | (refine zp rfl rfl (pl_box (by simp (decide := true) only [go_sem]; rfl) rfl) ?_) | (refine zp rfl rfl (pl_alloc (by simp only [go_sem]; rfl) rfl) ?_) | (refine zp rfl rfl (pl_store (by simp (decide := true) only [go_sem]; rfl) (by simp (decide := true) only [go_sem]; rfl) (by simp (decide := true) only [go_sem]; rfl) (by rfl) (by rfl) (by kernel_rfl) (by rfl) (by rfl)) ?_) | fail)
  refine AWp.cond (b := _) rfl (fun hc => ?_) (fun hc => ?_)
  · repeat (first | (with_reducible first | apply zs | apply zN | apply z1 | apply z2 | apply z3 | apply z4 | apply z5 | apply z6 | refine z7 rfl ?_ | apply zb | apply zk | apply zr | apply ze | apply y1 | apply y2) | ((with_reducible apply zR); (refine ⟨rfl, rfl, ?_⟩; simp (decide := true) only [go_sem, List.map]; rfl)) | ((with_reducible apply zG); (simp (decide := true) only [go_sem]; rfl); (simp (decide := true) only [go_sem]; (repeat simp (decide := true) only [go_sem]); rfl)) | (refine zp rfl rfl (pl_box (by simp (decide := true) only [go_sem]; rfl) rfl) ?_) | (refine zp rfl rfl (pl_alloc (by simp only [go_sem]; rfl) rfl) ?_) | (refine zp rfl rfl (pl_store (by simp (decide := true) only [go_sem]; rfl) (by simp (decide := true) only [go_sem]; rfl) (by simp (decide := true) only [go_sem]; rfl) (by rfl) (by rfl) (by kernel_rfl) (by rfl) (by rfl)) ?_) | fail)
    exact Ret.data rfl rfl (Pu_res _)
  · simp at hc

open Classical in
theorem check_ok (p : Tk) (h : okValid p) (hin : ∀ n ∈ nums p, (0 ≤ (codeOf p n).params ∧ (codeOf p n).params < 8) ∧ (codeOf p n).steps.length ≤ 20 ∧ ∀ s ∈ (codeOf p n).steps, inR s) : Fn Try.prog 15 [encT p] (encRes (numsF p (nums p))) := by
  refine Fn.intro' [(0, encT p)] 1 80 Try.func15 (by kernel_rfl) rfl rfl rfl rfl rfl ?_
  have hc8 := h.1.2.1
  have hm6 := h.1.2.2.1
  repeat (first | (with_reducible first | apply zs | apply zN | apply z1 | apply z2 | apply z3 | apply z4 | apply z5 | apply z6 | refine z7 rfl ?_ | apply zb | apply zk | apply zr | apply ze | apply y1 | apply y2) | ((with_reducible apply zR); (refine ⟨rfl, rfl, ?_⟩; simp (decide := true) only [go_sem, List.map]; rfl)) | ((with_reducible apply zG); (simp (decide := true) only [go_sem]; rfl); (simp (decide := true) only [go_sem]; (repeat simp (decide := true) only [go_sem]); rfl)) | (refine zp rfl rfl (pl_box (by simp (decide := true) only [go_sem]; rfl) rfl) ?_) | (refine zp rfl rfl (pl_alloc (by simp only [go_sem]; rfl) rfl) ?_) | (refine zp rfl rfl (pl_store (by simp (decide := true) only [go_sem]; rfl) (by simp (decide := true) only [go_sem]; rfl) (by simp (decide := true) only [go_sem]; rfl) (by rfl) (by rfl) (by kernel_rfl) (by rfl) (by rfl)) ?_) | fail)
  refine ARun.q1 rfl rfl (ql_callC (valid_ok p true (by simp [h])) rfl (by simp (decide := true) only [go_sem] <;> rfl) (by simp (decide := true) only [go_sem, List.map]) (by simp [-List.map_take, -List.map_drop])) ?_
  repeat (first | (with_reducible first | apply zs | apply zN | apply z1 | apply z2 | apply z3 | apply z4 | apply z5 | apply z6 | refine z7 rfl ?_ | apply zb | apply zk | apply zr | apply ze | apply y1 | apply y2) | ((with_reducible apply zR); (refine ⟨rfl, rfl, ?_⟩; simp (decide := true) only [go_sem, List.map]; rfl)) | ((with_reducible apply zG); (simp (decide := true) only [go_sem]; rfl); (simp (decide := true) only [go_sem]; (repeat simp (decide := true) only [go_sem]); rfl)) | (refine zp rfl rfl (pl_box (by simp (decide := true) only [go_sem]; rfl) rfl) ?_) | (refine zp rfl rfl (pl_alloc (by simp only [go_sem]; rfl) rfl) ?_) | (refine zp rfl rfl (pl_store (by simp (decide := true) only [go_sem]; rfl) (by simp (decide := true) only [go_sem]; rfl) (by simp (decide := true) only [go_sem]; rfl) (by rfl) (by rfl) (by kernel_rfl) (by rfl) (by rfl)) ?_) | fail)
  refine AWp.cond (b := _) rfl (fun hc => ?_) (fun hc => ?_)
  · simp at hc
  repeat (first | (with_reducible first | apply zs | apply zN | apply z1 | apply z2 | apply z3 | apply z4 | apply z5 | apply z6 | refine z7 rfl ?_ | apply zb | apply zk | apply zr | apply ze | apply y1 | apply y2) | ((with_reducible apply zR); (refine ⟨rfl, rfl, ?_⟩; simp (decide := true) only [go_sem, List.map]; rfl)) | ((with_reducible apply zG); (simp (decide := true) only [go_sem]; rfl); (simp (decide := true) only [go_sem]; (repeat simp (decide := true) only [go_sem]); rfl)) | (refine zp rfl rfl (pl_box (by simp (decide := true) only [go_sem]; rfl) rfl) ?_) | (refine zp rfl rfl (pl_alloc (by simp only [go_sem]; rfl) rfl) ?_) | (refine zp rfl rfl (pl_store (by simp (decide := true) only [go_sem]; rfl) (by simp (decide := true) only [go_sem]; rfl) (by simp (decide := true) only [go_sem]; rfl) (by rfl) (by rfl) (by kernel_rfl) (by rfl) (by rfl)) ?_) | fail)
  refine AWp.loop (J := fun k : Nat => k ≤ p.codes.length)
    (I := fun k => ⟨[(23, .int k), (22, .int p.codes.length), (5, .own 1 k 0 k), (1, .ptr 0 1 0 0)], [⟨24, 3, [encT p]⟩, ⟨3, 1, (numC k).map .int⟩]⟩) (μ := fun k => p.codes.length - k) 0 (Nat.zero_le _)
    (.nil (E2 := [(23, .int (0 : Nat)), (22, .int p.codes.length), (5, .own 1 0 0 0), (1, .ptr 0 1 0 0)]) 3 1 (by simp [List.forall_mem_cons, lk, Le.refl])) ?_
  intro k hk
  repeat (first | (with_reducible first | apply zs | apply zN | apply z1 | apply z2 | apply z3 | apply z4 | apply z5 | apply z6 | refine z7 rfl ?_ | apply zb | apply zk | apply zr | apply ze | apply y1 | apply y2) | ((with_reducible apply zR); (refine ⟨rfl, rfl, ?_⟩; simp (decide := true) only [go_sem, List.map]; rfl)) | ((with_reducible apply zG); (simp (decide := true) only [go_sem]; rfl); (simp (decide := true) only [go_sem]; (repeat simp (decide := true) only [go_sem]); rfl)) | (refine zp rfl rfl (pl_box (by simp (decide := true) only [go_sem]; rfl) rfl) ?_) | (refine zp rfl rfl (pl_alloc (by simp only [go_sem]; rfl) rfl) ?_) | (refine zp rfl rfl (pl_store (by simp (decide := true) only [go_sem]; rfl) (by simp (decide := true) only [go_sem]; rfl) (by simp (decide := true) only [go_sem]; rfl) (by rfl) (by rfl) (by kernel_rfl) (by rfl) (by rfl)) ?_) | fail)
  refine AWp.cond (b := _) rfl (fun hd => ?_) (fun hd => ?_)
  · simp at hd
    repeat (first | (with_reducible first | apply zs | apply zN | apply z1 | apply z2 | apply z3 | apply z4 | apply z5 | apply z6 | refine z7 rfl ?_ | apply zb | apply zk | apply zr | apply ze | apply y1 | apply y2) | ((with_reducible apply zR); (refine ⟨rfl, rfl, ?_⟩; simp (decide := true) only [go_sem, List.map]; rfl)) | ((with_reducible apply zG); (simp (decide := true) only [go_sem]; rfl); (simp (decide := true) only [go_sem]; (repeat simp (decide := true) only [go_sem]); rfl)) | (refine zp rfl rfl (pl_box (by simp (decide := true) only [go_sem]; rfl) rfl) ?_) | (refine zp rfl rfl (pl_alloc (by simp only [go_sem]; rfl) rfl) ?_) | (refine zp rfl rfl (pl_store (by simp (decide := true) only [go_sem]; rfl) (by simp (decide := true) only [go_sem]; rfl) (by simp (decide := true) only [go_sem]; rfl) (by rfl) (by rfl) (by kernel_rfl) (by rfl) (by rfl)) ?_) | fail)
    refine ARun.q1 rfl rfl (ql_buildSlice (by decide) Try.underlying32 sz3 (by kernel_rfl) (by decide) (by simp (decide := true) only [List.map, go_sem] <;> rfl) (by simp (decide := true) only [List.map, go_sem] <;> rfl) (by rfl)) ?_
    repeat (first | (with_reducible first | apply zs | apply zN | apply z1 | apply z2 | apply z3 | apply z4 | apply z5 | apply z6 | refine z7 rfl ?_ | apply zb | apply zk | apply zr | apply ze | apply y1 | apply y2) | ((with_reducible apply zR); (refine ⟨rfl, rfl, ?_⟩; simp (decide := true) only [go_sem, List.map]; rfl)) | ((with_reducible apply zG); (simp (decide := true) only [go_sem]; rfl); (simp (decide := true) only [go_sem]; (repeat simp (decide := true) only [go_sem]); rfl)) | (refine zp rfl rfl (pl_box (by simp (decide := true) only [go_sem]; rfl) rfl) ?_) | (refine zp rfl rfl (pl_alloc (by simp only [go_sem]; rfl) rfl) ?_) | (refine zp rfl rfl (pl_store (by simp (decide := true) only [go_sem]; rfl) (by simp (decide := true) only [go_sem]; rfl) (by simp (decide := true) only [go_sem]; rfl) (by rfl) (by rfl) (by kernel_rfl) (by rfl) (by rfl)) ?_) | fail)
    refine ARun.p1 rfl rfl (pl_append (b := 1) (tot := k) (es := [.int k]) (by simp (decide := true) only [go_sem] <;> rfl) (by simp (decide := true) only [go_sem] <;> rfl) (by simp (decide := true) only [go_sem] <;> rfl) (by simp [numC_len]) Try.underlying32 el3 rfl rfl (by simp) (fun e he => by rw [List.mem_singleton] at he; subst he; exact ⟨rfl, rfl⟩) (by simp; omega) (by simp; omega)) ?_
    repeat (first | (with_reducible first | apply zs | apply zN | apply z1 | apply z2 | apply z3 | apply z4 | apply z5 | apply z6 | refine z7 rfl ?_ | apply zb | apply zk | apply zr | apply ze | apply y1 | apply y2) | ((with_reducible apply zR); (refine ⟨rfl, rfl, ?_⟩; simp (decide := true) only [go_sem, List.map]; rfl)) | ((with_reducible apply zG); (simp (decide := true) only [go_sem]; rfl); (simp (decide := true) only [go_sem]; (repeat simp (decide := true) only [go_sem]); rfl)) | (refine zp rfl rfl (pl_box (by simp (decide := true) only [go_sem]; rfl) rfl) ?_) | (refine zp rfl rfl (pl_alloc (by simp only [go_sem]; rfl) rfl) ?_) | (refine zp rfl rfl (pl_store (by simp (decide := true) only [go_sem]; rfl) (by simp (decide := true) only [go_sem]; rfl) (by simp (decide := true) only [go_sem]; rfl) (by rfl) (by rfl) (by kernel_rfl) (by rfl) (by rfl)) ?_) | fail)
    rw [wrap_succ (by omega)]
    refine ⟨k + 1, by omega, by omega, .env2 (by rw [numC_succ, List.map_append]; rfl) (by simp (decide := true) only [go_sem] <;> simp [Le.refl])⟩
  simp at hd
  have hkl : k = p.codes.length := by omega
  subst hkl
  clear hk hd
  repeat (first | (with_reducible first | apply zs | apply zN | apply z1 | apply z2 | apply z3 | apply z4 | apply z5 | apply z6 | refine z7 rfl ?_ | apply zb | apply zk | apply zr | apply ze | apply y1 | apply y2) | ((with_reducible apply zR); (refine ⟨rfl, rfl, ?_⟩; simp (decide := true) only [go_sem, List.map]; rfl)) | ((with_reducible apply zG); (simp (decide := true) only [go_sem]; rfl); (simp (decide := true) only [go_sem]; (repeat simp (decide := true) only [go_sem]); rfl)) | (refine zp rfl rfl (pl_box (by simp (decide := true) only [go_sem]; rfl) rfl) ?_) | (refine zp rfl rfl (pl_alloc (by simp only [go_sem]; rfl) rfl) ?_) | (refine zp rfl rfl (pl_store (by simp (decide := true) only [go_sem]; rfl) (by simp (decide := true) only [go_sem]; rfl) (by simp (decide := true) only [go_sem]; rfl) (by rfl) (by rfl) (by kernel_rfl) (by rfl) (by rfl)) ?_) | fail)
  refine AWp.loop (J := fun k : Nat => k ≤ p.methods.length)
    (I := fun k => ⟨[(34, .int k), (33, .int p.methods.length), (5, .own 1 (p.codes.length + k) 0 (p.codes.length + k)), (1, .ptr 0 1 0 0)], [⟨24, 3, [encT p]⟩, ⟨3, 1, (numC p.codes.length ++ numM k).map .int⟩]⟩) (μ := fun k => p.methods.length - k) 0 (Nat.zero_le _)
    (.env2 (by simp [numM]; rfl) (by simp (decide := true) only [go_sem] <;> simp [Le.refl])) ?_
  intro k hk
  repeat (first | (with_reducible first | apply zs | apply zN | apply z1 | apply z2 | apply z3 | apply z4 | apply z5 | apply z6 | refine z7 rfl ?_ | apply zb | apply zk | apply zr | apply ze | apply y1 | apply y2) | ((with_reducible apply zR); (refine ⟨rfl, rfl, ?_⟩; simp (decide := true) only [go_sem, List.map]; rfl)) | ((with_reducible apply zG); (simp (decide := true) only [go_sem]; rfl); (simp (decide := true) only [go_sem]; (repeat simp (decide := true) only [go_sem]); rfl)) | (refine zp rfl rfl (pl_box (by simp (decide := true) only [go_sem]; rfl) rfl) ?_) | (refine zp rfl rfl (pl_alloc (by simp only [go_sem]; rfl) rfl) ?_) | (refine zp rfl rfl (pl_store (by simp (decide := true) only [go_sem]; rfl) (by simp (decide := true) only [go_sem]; rfl) (by simp (decide := true) only [go_sem]; rfl) (by rfl) (by rfl) (by kernel_rfl) (by rfl) (by rfl)) ?_) | fail)
  refine AWp.cond (b := _) rfl (fun hd => ?_) (fun hd => ?_)
  · simp at hd
    repeat (first | (with_reducible first | apply zs | apply zN | apply z1 | apply z2 | apply z3 | apply z4 | apply z5 | apply z6 | refine z7 rfl ?_ | apply zb | apply zk | apply zr | apply ze | apply y1 | apply y2) | ((with_reducible apply zR); (refine ⟨rfl, rfl, ?_⟩; simp (decide := true) only [go_sem, List.map]; rfl)) | ((with_reducible apply zG); (simp (decide := true) only [go_sem]; rfl); (simp (decide := true) only [go_sem]; (repeat simp (decide := true) only [go_sem]); rfl)) | (refine zp rfl rfl (pl_box (by simp (decide := true) only [go_sem]; rfl) rfl) ?_) | (refine zp rfl rfl (pl_alloc (by simp only [go_sem]; rfl) rfl) ?_) | (refine zp rfl rfl (pl_store (by simp (decide := true) only [go_sem]; rfl) (by simp (decide := true) only [go_sem]; rfl) (by simp (decide := true) only [go_sem]; rfl) (by rfl) (by rfl) (by kernel_rfl) (by rfl) (by rfl)) ?_) | fail)
    rw [wrap_id (x := -1 - (k : Int)) (by omega) (by omega)]
    refine ARun.q1 rfl rfl (ql_buildSlice (by decide) Try.underlying32 sz3 (by kernel_rfl) (by decide) (by simp (decide := true) only [List.map, go_sem] <;> rfl) (by simp (decide := true) only [List.map, go_sem] <;> rfl) (by rfl)) ?_
    repeat (first | (with_reducible first | apply zs | apply zN | apply z1 | apply z2 | apply z3 | apply z4 | apply z5 | apply z6 | refine z7 rfl ?_ | apply zb | apply zk | apply zr | apply ze | apply y1 | apply y2) | ((with_reducible apply zR); (refine ⟨rfl, rfl, ?_⟩; simp (decide := true) only [go_sem, List.map]; rfl)) | ((with_reducible apply zG); (simp (decide := true) only [go_sem]; rfl); (simp (decide := true) only [go_sem]; (repeat simp (decide := true) only [go_sem]); rfl)) | (refine zp rfl rfl (pl_box (by simp (decide := true) only [go_sem]; rfl) rfl) ?_) | (refine zp rfl rfl (pl_alloc (by simp only [go_sem]; rfl) rfl) ?_) | (refine zp rfl rfl (pl_store (by simp (decide := true) only [go_sem]; rfl) (by simp (decide := true) only [go_sem]; rfl) (by simp (decide := true) only [go_sem]; rfl) (by rfl) (by rfl) (by kernel_rfl) (by rfl) (by rfl)) ?_) | fail)
    refine ARun.p1 rfl rfl (pl_append (b := 1) (tot := p.codes.length + k) (es := [.int (-1 - (k : Int))]) (by simp (decide := true) only [go_sem] <;> rfl) (by simp (decide := true) only [go_sem] <;> rfl) (by simp (decide := true) only [go_sem] <;> rfl) (by simp [numC_len, numM_len]) Try.underlying32 el3 rfl rfl (by simp) (fun e he => by rw [List.mem_singleton] at he; subst he; exact ⟨rfl, rfl⟩) (by simp; omega) (by simp; omega)) ?_
    repeat (first | (with_reducible first | apply zs | apply zN | apply z1 | apply z2 | apply z3 | apply z4 | apply z5 | apply z6 | refine z7 rfl ?_ | apply zb | apply zk | apply zr | apply ze | apply y1 | apply y2) | ((with_reducible apply zR); (refine ⟨rfl, rfl, ?_⟩; simp (decide := true) only [go_sem, List.map]; rfl)) | ((with_reducible apply zG); (simp (decide := true) only [go_sem]; rfl); (simp (decide := true) only [go_sem]; (repeat simp (decide := true) only [go_sem]); rfl)) | (refine zp rfl rfl (pl_box (by simp (decide := true) only [go_sem]; rfl) rfl) ?_) | (refine zp rfl rfl (pl_alloc (by simp only [go_sem]; rfl) rfl) ?_) | (refine zp rfl rfl (pl_store (by simp (decide := true) only [go_sem]; rfl) (by simp (decide := true) only [go_sem]; rfl) (by simp (decide := true) only [go_sem]; rfl) (by rfl) (by rfl) (by kernel_rfl) (by rfl) (by rfl)) ?_) | fail)
    rw [wrap_succ (by omega)]
    refine ⟨k + 1, by omega, by omega, .env2 (by simp only [numM_succ, List.map_append, List.append_assoc, List.map_cons, List.map_nil]; rfl) (by simp (decide := true) only [go_sem] <;> simp [Le.refl, Nat.add_assoc])⟩
  simp at hd
  have hkl : k = p.methods.length := by omega
  subst hkl
  clear hk hd
  have hnl : (nums p).length = p.codes.length + p.methods.length := by simp [nums, numC_len, numM_len]
  rw [show numC p.codes.length ++ numM p.methods.length = nums p from rfl, ← hnl]
  repeat (first | (with_reducible first | apply zs | apply zN | apply z1 | apply z2 | apply z3 | apply z4 | apply z5 | apply z6 | refine z7 rfl ?_ | apply zb | apply zk | apply zr | apply ze | apply y1 | apply y2) | ((with_reducible apply zR); (refine ⟨rfl, rfl, ?_⟩; simp (decide := true) only [go_sem, List.map]; rfl)) | ((with_reducible apply zG); (simp (decide := true) only [go_sem]; rfl); (simp (decide := true) only [go_sem]; (repeat simp (decide := true) only [go_sem]); rfl)) | (refine zp rfl rfl (pl_box (by simp (decide := true) only [go_sem]; rfl) rfl) ?_) | (refine zp rfl rfl (pl_alloc (by simp only [go_sem]; rfl) rfl) ?_) | (refine zp rfl rfl (pl_store (by simp (decide := true) only [go_sem]; rfl) (by simp (decide := true) only [go_sem]; rfl) (by simp (decide := true) only [go_sem]; rfl) (by rfl) (by rfl) (by kernel_rfl) (by rfl) (by rfl)) ?_) | fail)
  have hlen : (nums p).length ≤ 14 := by omega
  generalize hns : nums p = ns at hin hlen
  have hnum : ∀ n ∈ ns, numOk p n := fun n h => nums_ok (hns ▸ h)
  clear hns hnl
  refine AWp.loop (J := fun k : Nat => k ≤ ns.length ∧ numsF p ns = numsF p (ns.drop k))
    (I := fun k => ⟨[(45, .int k), (44, .int ns.length), (43, .own 1 ns.length 0 ns.length), (1, .ptr 0 1 0 0)], [⟨24, 3, [encT p]⟩, ⟨3, 1, ns.map .int⟩]⟩) (μ := fun k => ns.length - k) 0 ⟨Nat.zero_le _, rfl⟩ (.env' (by simp (decide := true) only [go_sem])) ?_
  rintro k ⟨hk, hrest⟩
  repeat (first | (with_reducible first | apply zs | apply zN | apply z1 | apply z2 | apply z3 | apply z4 | apply z5 | apply z6 | refine z7 rfl ?_ | apply zb | apply zk | apply zr | apply ze | apply y1 | apply y2) | ((with_reducible apply zR); (refine ⟨rfl, rfl, ?_⟩; simp (decide := true) only [go_sem, List.map]; rfl)) | ((with_reducible apply zG); (simp (decide := true) only [go_sem]; rfl); (simp (decide := true) only [go_sem]; (repeat simp (decide := true) only [go_sem]); rfl)) | (refine zp rfl rfl (pl_box (by simp (decide := true) only [go_sem]; rfl) rfl) ?_) | (refine zp rfl rfl (pl_alloc (by simp only [go_sem]; rfl) rfl) ?_) | (refine zp rfl rfl (pl_store (by simp (decide := true) only [go_sem]; rfl) (by simp (decide := true) only [go_sem]; rfl) (by simp (decide := true) only [go_sem]; rfl) (by rfl) (by rfl) (by kernel_rfl) (by rfl) (by rfl)) ?_) | fail)
  refine AWp.cond (b := _) rfl (fun hd => ?_) (fun hd => ?_)
  · simp at hd
    have hget : (ns.map AV.int)[k]? = some (.int ns[k]) := by rw [List.getElem?_map, List.getElem?_eq_getElem hd]; rfl
    rw [List.drop_eq_getElem_cons hd] at hrest
    have hmem := List.getElem_mem hd
    obtain ⟨hp8, hst, hinr⟩ := hin _ hmem
    have hnk := hnum _ hmem
    generalize ns[k] = n at *
    repeat (first | (with_reducible first | apply zs | apply zN | apply z1 | apply z2 | apply z3 | apply z4 | apply z5 | apply z6 | refine z7 rfl ?_ | apply zb | apply zk | apply zr | apply ze | apply y1 | apply y2) | ((with_reducible apply zR); (refine ⟨rfl, rfl, ?_⟩; simp (decide := true) only [go_sem, List.map]; rfl)) | ((with_reducible apply zG); (simp (decide := true) only [go_sem]; rfl); (simp (decide := true) only [go_sem]; (repeat simp (decide := true) only [go_sem]); rfl)) | (refine zp rfl rfl (pl_box (by simp (decide := true) only [go_sem]; rfl) rfl) ?_) | (refine zp rfl rfl (pl_alloc (by simp only [go_sem]; rfl) rfl) ?_) | (refine zp rfl rfl (pl_store (by simp (decide := true) only [go_sem]; rfl) (by simp (decide := true) only [go_sem]; rfl) (by simp (decide := true) only [go_sem]; rfl) (by rfl) (by rfl) (by kernel_rfl) (by rfl) (by rfl)) ?_) | fail)
    refine ARun.q1 rfl rfl (ql_indexAddr_own rfl rfl Try.underlying32 rfl (by simp) (by omega) (by omega) sz3) ?_
    repeat (first | (with_reducible first | apply zs | apply zN | apply z1 | apply z2 | apply z3 | apply z4 | apply z5 | apply z6 | refine z7 rfl ?_ | apply zb | apply zk | apply zr | apply ze | apply y1 | apply y2) | ((with_reducible apply zR); (refine ⟨rfl, rfl, ?_⟩; simp (decide := true) only [go_sem, List.map]; rfl)) | ((with_reducible apply zG); (simp (decide := true) only [go_sem, hget]; rfl); (simp (decide := true) only [go_sem, hget]; (repeat simp (decide := true) only [go_sem, hget]); rfl)) | (refine zp rfl rfl (pl_box (by simp (decide := true) only [go_sem, hget]; rfl) rfl) ?_) | (refine zp rfl rfl (pl_alloc (by simp only [go_sem]; rfl) rfl) ?_) | (refine zp rfl rfl (pl_store (by simp (decide := true) only [go_sem, hget]; rfl) (by simp (decide := true) only [go_sem, hget]; rfl) (by simp (decide := true) only [go_sem]; rfl) (by rfl) (by rfl) (by kernel_rfl) (by rfl) (by rfl)) ?_) | fail)
    refine ARun.q1 rfl rfl (ql_callC (coded_ok p n hnk) rfl (by simp (decide := true) only [go_sem] <;> rfl) (by simp (decide := true) only [go_sem, List.map]) (by simp [-List.map_take, -List.map_drop])) ?_
    generalize hC : codeOf p n = C at *
    generalize hB : decide (n < 0) = B at *
    repeat (first | (with_reducible first | apply zs | apply zN | apply z1 | apply z2 | apply z3 | apply z4 | apply z5 | apply z6 | refine z7 rfl ?_ | apply zb | apply zk | apply zr | apply ze | apply y1 | apply y2) | ((with_reducible apply zR); (refine ⟨rfl, rfl, ?_⟩; simp (decide := true) only [go_sem, List.map]; rfl)) | ((with_reducible apply zG); (simp (decide := true) only [go_sem]; rfl); (simp (decide := true) only [go_sem]; (repeat simp (decide := true) only [go_sem]); rfl)) | (refine zp rfl rfl (pl_box (by simp (decide := true) only [go_sem]; rfl) rfl) ?_) | (refine zp rfl rfl (pl_alloc (by simp only [go_sem]; rfl) rfl) ?_) | (refine zp rfl rfl (pl_store (by simp (decide := true) only [go_sem]; rfl) (by simp (decide := true) only [go_sem]; rfl) (by simp (decide := true) only [go_sem]; rfl) (by rfl) (by rfl) (by kernel_rfl) (by rfl) (by rfl)) ?_) | fail)
    refine ARun.q1 rfl rfl (ql_callC (start_ok C B hp8) rfl (by simp (decide := true) only [go_sem] <;> rfl) (by simp (decide := true) only [go_sem, List.map]) (by simp [-List.map_take, -List.map_drop])) ?_
    repeat (first | (with_reducible first | apply zs | apply zN | apply z1 | apply z2 | apply z3 | apply z4 | apply z5 | apply z6 | refine z7 rfl ?_ | apply zb | apply zk | apply zr | apply ze | apply y1 | apply y2) | ((with_reducible apply zR); (refine ⟨rfl, rfl, ?_⟩; simp (decide := true) only [go_sem, List.map]; rfl)) | ((with_reducible apply zG); (simp (decide := true) only [go_sem]; rfl); (simp (decide := true) only [go_sem]; (repeat simp (decide := true) only [go_sem]); rfl)) | (refine zp rfl rfl (pl_box (by simp (decide := true) only [go_sem]; rfl) rfl) ?_) | (refine zp rfl rfl (pl_alloc (by simp only [go_sem]; rfl) rfl) ?_) | (refine zp rfl rfl (pl_store (by simp (decide := true) only [go_sem]; rfl) (by simp (decide := true) only [go_sem]; rfl) (by simp (decide := true) only [go_sem]; rfl) (by rfl) (by rfl) (by kernel_rfl) (by rfl) (by rfl)) ?_) | fail)
    refine AWp.loop (J := fun j : Nat => j ≤ C.steps.length ∧ stepsF (startF C B) C.steps 0 = stepsF (regAt (startF C B) (C.steps.take j)) (C.steps.drop j) j)
      (I := fun j => ⟨[(62, .int j), (61, .int C.steps.length), (60, .lst (C.steps.map encS)), (9, .int n), (45, .int k), (44, .int ns.length), (43, .own 1 ns.length 0 ns.length), (1, .ptr 0 1 0 0), (13, .ptr 3 1 0 0)], [⟨24, 3, [encT p]⟩, ⟨3, 1, ns.map .int⟩, ⟨31, 3, [encC C]⟩, ⟨60, 10, [encR (regAt (startF C B) (C.steps.take j))]⟩]⟩) (μ := fun j => C.steps.length - j) 0 ⟨Nat.zero_le _, rfl⟩ (.env' (by simp (decide := true) only [go_sem])) ?_
    rintro j ⟨hj, hsr⟩
    repeat (first | (with_reducible first | apply zs | apply zN | apply z1 | apply z2 | apply z3 | apply z4 | apply z5 | apply z6 | refine z7 rfl ?_ | apply zb | apply zk | apply zr | apply ze | apply y1 | apply y2) | ((with_reducible apply zR); (refine ⟨rfl, rfl, ?_⟩; simp (decide := true) only [go_sem, List.map]; rfl)) | ((with_reducible apply zG); (simp (decide := true) only [go_sem]; rfl); (simp (decide := true) only [go_sem]; (repeat simp (decide := true) only [go_sem]); rfl)) | (refine zp rfl rfl (pl_box (by simp (decide := true) only [go_sem]; rfl) rfl) ?_) | (refine zp rfl rfl (pl_alloc (by simp only [go_sem]; rfl) rfl) ?_) | (refine zp rfl rfl (pl_store (by simp (decide := true) only [go_sem]; rfl) (by simp (decide := true) only [go_sem]; rfl) (by simp (decide := true) only [go_sem]; rfl) (by rfl) (by rfl) (by kernel_rfl) (by rfl) (by rfl)) ?_) | fail)
    refine AWp.cond (b := _) rfl (fun hf => ?_) (fun hf => ?_)
    · simp at hf
      rw [List.drop_eq_getElem_cons hf] at hsr
      have hir := hinr _ (List.getElem_mem hf)
      have htk := List.take_succ_eq_append_getElem hf
      repeat (first | (with_reducible first | apply zs | apply zN | apply z1 | apply z2 | apply z3 | apply z4 | apply z5 | apply z6 | refine z7 rfl ?_ | apply zb | apply zk | apply zr | apply ze | apply y1 | apply y2) | ((with_reducible apply zR); (refine ⟨rfl, rfl, ?_⟩; simp (decide := true) only [go_sem, List.map]; rfl)) | ((with_reducible apply zG); (simp (decide := true) only [go_sem]; rfl); (simp (decide := true) only [go_sem]; (repeat simp (decide := true) only [go_sem]); rfl)) | (refine zp rfl rfl (pl_box (by simp (decide := true) only [go_sem]; rfl) rfl) ?_) | (refine zp rfl rfl (pl_alloc (by simp only [go_sem]; rfl) rfl) ?_) | (refine zp rfl rfl (pl_store (by simp (decide := true) only [go_sem]; rfl) (by simp (decide := true) only [go_sem]; rfl) (by simp (decide := true) only [go_sem]; rfl) (by rfl) (by rfl) (by kernel_rfl) (by rfl) (by rfl)) ?_) | fail)
      refine ARun.q1 rfl rfl (ql_idx rfl rfl Try.underlying29 (by omega) (by omega) (by kernel_rfl)) ?_
      generalize hR : regAt (startF C B) (C.steps.take j) = R at *
      repeat (first | (with_reducible first | apply zs | apply zN | apply z1 | apply z2 | apply z3 | apply z4 | apply z5 | apply z6 | refine z7 rfl ?_ | apply zb | apply zk | apply zr | apply ze | apply y1 | apply y2) | ((with_reducible apply zR); (refine ⟨rfl, rfl, ?_⟩; simp (decide := true) only [go_sem, List.map]; rfl)) | ((with_reducible apply zG); (simp (decide := true) only [go_sem]; rfl); (simp (decide := true) only [go_sem]; (repeat simp (decide := true) only [go_sem]); rfl)) | (refine zp rfl rfl (pl_box (by simp (decide := true) only [go_sem]; rfl) rfl) ?_) | (refine zp rfl rfl (pl_alloc (by simp only [go_sem]; rfl) rfl) ?_) | (refine zp rfl rfl (pl_store (by simp (decide := true) only [go_sem]; rfl) (by simp (decide := true) only [go_sem]; rfl) (by simp (decide := true) only [go_sem]; rfl) (by rfl) (by rfl) (by kernel_rfl) (by rfl) (by rfl)) ?_) | fail)
      refine ARun.q1 rfl rfl (ql_callC (after_ok R C.steps[j] hir) rfl (by simp (decide := true) only [go_sem] <;> rfl) (by simp (decide := true) only [go_sem, List.map]) (by simp [-List.map_take, -List.map_drop])) ?_
      repeat (first | (with_reducible first | apply zs | apply zN | apply z1 | apply z2 | apply z3 | apply z4 | apply z5 | apply z6 | refine z7 rfl ?_ | apply zb | apply zk | apply zr | apply ze | apply y1 | apply y2) | ((with_reducible apply zR); (refine ⟨rfl, rfl, ?_⟩; simp (decide := true) only [go_sem, List.map]; rfl)) | ((with_reducible apply zG); (simp (decide := true) only [go_sem]; rfl); (simp (decide := true) only [go_sem]; (repeat simp (decide := true) only [go_sem]); rfl)) | (refine zp rfl rfl (pl_box (by simp (decide := true) only [go_sem]; rfl) rfl) ?_) | (refine zp rfl rfl (pl_alloc (by simp only [go_sem]; rfl) rfl) ?_) | (refine zp rfl rfl (pl_store (by simp (decide := true) only [go_sem]; rfl) (by simp (decide := true) only [go_sem]; rfl) (by simp (decide := true) only [go_sem]; rfl) (by rfl) (by rfl) (by kernel_rfl) (by rfl) (by rfl)) ?_) | fail)
      refine AWp.cond (b := _) rfl (fun he => ?_) (fun he => ?_)
      · simp at he
        repeat (first | (with_reducible first | apply zs | apply zN | apply z1 | apply z2 | apply z3 | apply z4 | apply z5 | apply z6 | refine z7 rfl ?_ | apply zb | apply zk | apply zr | apply ze | apply y1 | apply y2) | ((with_reducible apply zR); (refine ⟨rfl, rfl, ?_⟩; simp (decide := true) only [go_sem, List.map]; rfl)) | ((with_reducible apply zG); (simp (decide := true) only [go_sem]; rfl); (simp (decide := true) only [go_sem]; (repeat simp (decide := true) only [go_sem]); rfl)) | (refine zp rfl rfl (pl_box (by simp (decide := true) only [go_sem]; rfl) rfl) ?_) | (refine zp rfl rfl (pl_alloc (by simp only [go_sem]; rfl) rfl) ?_) | (refine zp rfl rfl (pl_store (by simp (decide := true) only [go_sem]; rfl) (by simp (decide := true) only [go_sem]; rfl) (by simp (decide := true) only [go_sem]; rfl) (by rfl) (by rfl) (by kernel_rfl) (by rfl) (by rfl)) ?_) | fail)
        have e2 : codeF p n = some ((j : Int), afterE R C.steps[j]) := by
          simp only [codeF, hC, hB]; rw [hsr]; simp [stepsF, he]
        refine Ret.data rfl ?_ (Pu_res _)
        rw [hrest]
        simp only [numsF, e2]
        rfl
      · simp at he
        repeat (first | (with_reducible first | apply zs | apply zN | apply z1 | apply z2 | apply z3 | apply z4 | apply z5 | apply z6 | refine z7 rfl ?_ | apply zb | apply zk | apply zr | apply ze | apply y1 | apply y2) | ((with_reducible apply zR); (refine ⟨rfl, rfl, ?_⟩; simp (decide := true) only [go_sem, List.map]; rfl)) | ((with_reducible apply zG); (simp (decide := true) only [go_sem]; rfl); (simp (decide := true) only [go_sem]; (repeat simp (decide := true) only [go_sem]); rfl)) | (refine zp rfl rfl (pl_box (by simp (decide := true) only [go_sem]; rfl) rfl) ?_) | (refine zp rfl rfl (pl_alloc (by simp only [go_sem]; rfl) rfl) ?_) | (refine zp rfl rfl (pl_store (by simp (decide := true) only [go_sem]; rfl) (by simp (decide := true) only [go_sem]; rfl) (by simp (decide := true) only [go_sem]; rfl) (by rfl) (by rfl) (by kernel_rfl) (by rfl) (by rfl)) ?_) | fail)
        rw [wrap_succ (by omega)]
        refine ⟨j + 1, ⟨by omega, ?_⟩, by omega, .trim' 4 (by rw [htk, regAt_app, hR]; rfl) ?_ ?_⟩
        · rw [hsr, htk, regAt_app, hR]; simp [stepsF, he]
        · simp (decide := true) only [go_sem, WkP]
          exact ⟨.pu (.base _), .pu (.base _), .pu (Pu_mapS _), .pu (.base _), .pu (.base _), .pu (.base _), .own (by decide), .ptr (by decide), .ptr (by decide)⟩
        · exact PuBs (by simp only [List.forall_mem_cons, List.forall_mem_nil, and_true]; exact ⟨PuB_T p, PuB_N ns, PuB_C C, PuB_R _, fun _ h => by cases h⟩)
    · simp at hf
      have hjl : j = C.steps.length := by omega
      have e2 : codeF p n = none := by
        simp only [codeF, hC, hB]; rw [hsr, hjl, List.drop_length]; rfl
      repeat (first | (with_reducible first | apply zs | apply zN | apply z1 | apply z2 | apply z3 | apply z4 | apply z5 | apply z6 | refine z7 rfl ?_ | apply zb | apply zk | apply zr | apply ze | apply y1 | apply y2) | ((with_reducible apply zR); (refine ⟨rfl, rfl, ?_⟩; simp (decide := true) only [go_sem, List.map]; rfl)) | ((with_reducible apply zG); (simp (decide := true) only [go_sem]; rfl); (simp (decide := true) only [go_sem]; (repeat simp (decide := true) only [go_sem]); rfl)) | (refine zp rfl rfl (pl_box (by simp (decide := true) only [go_sem]; rfl) rfl) ?_) | (refine zp rfl rfl (pl_alloc (by simp only [go_sem]; rfl) rfl) ?_) | (refine zp rfl rfl (pl_store (by simp (decide := true) only [go_sem]; rfl) (by simp (decide := true) only [go_sem]; rfl) (by simp (decide := true) only [go_sem]; rfl) (by rfl) (by rfl) (by kernel_rfl) (by rfl) (by rfl)) ?_) | fail)
      rw [wrap_succ (by omega)]
      refine ⟨k + 1, ⟨by omega, by rw [hrest]; simp only [numsF, e2]⟩, by omega, .trim' 2 rfl ?_ ?_⟩
      · simp (decide := true) only [go_sem, WkP]
        exact ⟨.pu (.base _), .pu (.base _), .own (by decide), .ptr (by decide)⟩
      · exact PuBs (by simp only [List.forall_mem_cons, List.forall_mem_nil, and_true]; exact ⟨PuB_T p, PuB_N ns, fun _ h => by cases h⟩)
  · simp at hd
    have hkl : k = ns.length := by omega
    repeat (first | (with_reducible first | apply zs | apply zN | apply z1 | apply z2 | apply z3 | apply z4 | apply z5 | apply z6 | refine z7 rfl ?_ | apply zb | apply zk | apply zr | apply ze | apply y1 | apply y2) | ((with_reducible apply zR); (refine ⟨rfl, rfl, ?_⟩; simp (decide := true) only [go_sem, List.map]; rfl)) | ((with_reducible apply zG); (simp (decide := true) only [go_sem]; rfl); (simp (decide := true) only [go_sem]; (repeat simp (decide := true) only [go_sem]); rfl)) | (refine zp rfl rfl (pl_box (by simp (decide := true) only [go_sem]; rfl) rfl) ?_) | (refine zp rfl rfl (pl_alloc (by simp only [go_sem]; rfl) rfl) ?_) | (refine zp rfl rfl (pl_store (by simp (decide := true) only [go_sem]; rfl) (by simp (decide := true) only [go_sem]; rfl) (by simp (decide := true) only [go_sem]; rfl) (by rfl) (by rfl) (by kernel_rfl) (by rfl) (by rfl)) ?_) | fail)
    exact Ret.data rfl (by rw [hrest, hkl, List.drop_length]; rfl) (Pu_res _)
theorem hin_of {p : Tk} (h : okValid p) : ∀ n ∈ nums p, (0 ≤ (codeOf p n).params ∧ (codeOf p n).params < 8) ∧ (codeOf p n).steps.length ≤ 20 ∧ ∀ s ∈ (codeOf p n).steps, inR s := by
  obtain ⟨_, hc, hm⟩ := h
  have hp : ∀ c ∈ p.codes, c.params ≤ 4 := fun c h => by
    obtain ⟨i, hi, rfl⟩ := List.mem_iff_getElem.1 h
    have := (hc i hi).1.2.1
    simp only [cod, nth_eq hi] at this; exact this
  have hq : ∀ c ∈ p.methods, c.params ≤ 4 := fun c h => by
    obtain ⟨i, hi, rfl⟩ := List.mem_iff_getElem.1 h
    have := (hm i hi).1.2.1
    simp only [cod, nth_eq hi] at this; exact this
  have key : ∀ l : Lk, l.p = p → okCode l → (0 ≤ l.c.params ∧ l.c.params < 8) ∧ l.c.steps.length ≤ 20 ∧ ∀ s ∈ l.c.steps, inR s := by
    rintro l rfl ⟨⟨e1, e2, e3, e4, e5⟩, e6⟩
    refine ⟨by omega, e5, fun s hs => ?_⟩
    obtain ⟨i, hi, rfl⟩ := List.mem_iff_getElem.1 hs
    have := e6 i hi
    rw [show stp l.c.steps i = l.c.steps[i] from nth_eq hi] at this
    exact inR_of this e4 hp hq
  intro n hn
  rcases nums_ok hn with h | h
  · have e : ¬ n < 0 := by omega
    have := key _ rfl (hc n.toNat (by omega))
    rw [Int.toNat_of_nonneg h.1] at this
    simpa [codeOf, e] using this
  · have := key _ rfl (hm (-1 - n).toNat (by omega))
    rw [Int.toNat_of_nonneg (by omega)] at this
    simpa [codeOf, h.1] using this

theorem check_all (p : Tk) (h : okValid p) : Fn Try.prog 15 [encT p] (encRes (numsF p (nums p))) := check_ok p h (hin_of h)

theorem accepted_ok (p : Tk) (h : okValid p) : Fn Try.prog 16 [encT p] (.bool (decide ((numsF p (nums p)).2.2 = 0))) := by
  refine Fn.intro' [(0, encT p)] 1 14 Try.func16 (by kernel_rfl) rfl rfl rfl rfl rfl ?_
  repeat (first | (with_reducible first | apply zs | apply zN | apply z1 | apply z2 | apply z3 | apply z4 | apply z5 | apply z6 | refine z7 rfl ?_ | apply zb | apply zk | apply zr | apply ze | apply y1 | apply y2) | ((with_reducible apply zR); (refine ⟨rfl, rfl, ?_⟩; simp (decide := true) only [go_sem, List.map]; rfl)) | ((with_reducible apply zG); (simp (decide := true) only [go_sem]; rfl); (simp (decide := true) only [go_sem]; (repeat simp (decide := true) only [go_sem]); rfl)) | (refine zp rfl rfl (pl_box (by simp (decide := true) only [go_sem]; rfl) rfl) ?_) | (refine zp rfl rfl (pl_alloc (by simp only [go_sem]; rfl) rfl) ?_) | (refine zp rfl rfl (pl_store (by simp (decide := true) only [go_sem]; rfl) (by simp (decide := true) only [go_sem]; rfl) (by simp (decide := true) only [go_sem]; rfl) (by rfl) (by rfl) (by kernel_rfl) (by rfl) (by rfl)) ?_) | fail)
  refine ARun.q1 rfl rfl (ql_callC (check_all p h) rfl (by simp (decide := true) only [go_sem] <;> rfl) (by simp (decide := true) only [go_sem, List.map]) (by simp)) ?_
  simp only [encRes]
  repeat (first | (with_reducible first | apply zs | apply zN | apply z1 | apply z2 | apply z3 | apply z4 | apply z5 | apply z6 | refine z7 rfl ?_ | apply zb | apply zk | apply zr | apply ze | apply y1 | apply y2) | ((with_reducible apply zR); (refine ⟨rfl, rfl, ?_⟩; simp (decide := true) only [go_sem, List.map]; rfl)) | ((with_reducible apply zG); (simp (decide := true) only [go_sem]; rfl); (simp (decide := true) only [go_sem]; (repeat simp (decide := true) only [go_sem]); rfl)) | (refine zp rfl rfl (pl_box (by simp (decide := true) only [go_sem]; rfl) rfl) ?_) | (refine zp rfl rfl (pl_alloc (by simp only [go_sem]; rfl) rfl) ?_) | (refine zp rfl rfl (pl_store (by simp (decide := true) only [go_sem]; rfl) (by simp (decide := true) only [go_sem]; rfl) (by simp (decide := true) only [go_sem]; rfl) (by rfl) (by rfl) (by kernel_rfl) (by rfl) (by rfl)) ?_) | fail)
  exact Ret.bool rfl (by simp)
end Go.Ab
set_option maxHeartbeats 4000000
namespace Go.Ab
open Go Go.Ab Go.Proofs Go.Ab.Ty
set_option linter.unusedSimpArgs false
set_option linter.unusedVariables false

/-- elements, each lent -/
def LendLL (H : List ABlk) : List AV → List AV → Prop
  | [], [] => True
  | a :: l, b :: m => LendL H a.cells b.cells ∧ LendLL H l m
  | _, _ => False
theorem LendLL.len {H : List ABlk} : ∀ {l m : List AV}, LendLL H l m → l.length = m.length
  | [], [], _ => rfl
  | _ :: l, _ :: m, h => by simp [LendLL.len h.2]
theorem LendLL.get {H : List ABlk} : ∀ {l m : List AV}, LendLL H l m → ∀ (j : Nat) (a b : AV), l[j]? = some a → m[j]? = some b → LendL H a.cells b.cells
  | _ :: l, _ :: m, h, 0, a, b, h1, h2 => by cases h1; cases h2; exact h.1
  | _ :: l, _ :: m, h, j + 1, a, b, h1, h2 => LendLL.get h.2 j a b h1 h2
theorem Lend.ownL {H : List ABlk} {b k ty sz : Nat} {es ds : List AV} (h : H[b]? = some ⟨ty, sz, es⟩) (hk : es.length = k) (hl : LendLL H es ds) : Lend H (.own b k 0 k) (.lst ds) :=
  .own h hk (by omega) (by rw [← hl.len, hk]) fun i e d hi he hd => by
    simp only [Nat.zero_add] at he
    have := hl.get i e d he hd
    exact ⟨this.len, this.get⟩

theorem Lend.lst {H : List ABlk} {es ds : List AV} (hl : LendLL H es ds) : Lend H (.lst es) (.lst ds) := fun w0 w O ι u hs hu => by
  have hlen := hl.len
  cases hu with
  | lnil =>
    have : ds = [] := List.eq_nil_of_length_eq_zero (by simpa using hlen.symm)
    subst this; exact .lnil
  | lst es a n cap s val hn hcap hmax hls hspot hc hv =>
    have hat : ∀ (i : Nat) (d : AV), ds[i]? = some d → ∃ e, es[i]? = some e ∧ LendL H e.cells d.cells := fun i d hd => by
      have hi : i < es.length := by rw [hlen]; exact (List.getElem?_eq_some_iff.1 hd).1
      exact ⟨es[i], List.getElem?_eq_getElem hi, hl.get i _ d (List.getElem?_eq_getElem hi) hd⟩
    have hatc : ∀ (i j : Nat) (d c : AV), ds[i]? = some d → d.cells[j]? = some c → ∃ e c', es[i]? = some e ∧ e.cells[j]? = some c' ∧ Lend H c' c := fun i j d c hd hc => by
      obtain ⟨e, he, hle⟩ := hat i d hd
      have hj : j < e.cells.length := by rw [hle.len]; exact (List.getElem?_eq_some_iff.1 hc).1
      exact ⟨e, _, he, List.getElem?_eq_getElem hj, hle.get j _ c (List.getElem?_eq_getElem hj) hc⟩
    refine .lst ds a n cap s val (by omega) hcap hmax (fun d hd => ?_) (fun d hd => ?_) (fun i j d c hd hcj => ?_) fun i j d c hd hcj => ?_
    · obtain ⟨i, hi, rfl⟩ := List.mem_iff_getElem.1 hd
      obtain ⟨e, he, hle⟩ := hat i _ (List.getElem?_eq_getElem hi)
      rw [← hle.len]; exact hls e (List.mem_of_getElem? he)
    · obtain ⟨i, hi, rfl⟩ := List.mem_iff_getElem.1 hd
      obtain ⟨e, he, hle⟩ := hat i _ (List.getElem?_eq_getElem hi)
      exact hspot e (List.mem_of_getElem? he)
    · obtain ⟨e, c', he, hc', hL⟩ := hatc i j d c hd hcj
      exact ⟨fun h => h, (hc i j e c' he hc').2⟩
    · obtain ⟨e, c', he, hc', hL⟩ := hatc i j d c hd hcj
      exact hL w0 w O ι _ hs (hv i j e c' he hc')

def aS1 : Stp := ⟨1, 0, 0, 0, 0, []⟩
def aS2 : Stp := ⟨1, 1, 0, 0, 0, []⟩
def aS3 : Stp := ⟨3, 0, 1, 0, 0, []⟩
def aS4 : Stp := ⟨6, 0, 0, 0, 1, [0]⟩
def aS5 : Stp := ⟨4, 1, 0, 0, 0, []⟩
def aP1 : Tk := ⟨[⟨0, 2, [aS1, aS2, aS3, aS4, aS5]⟩, ⟨1, 1, []⟩], [], 0⟩
def aP2 : Tk := ⟨[⟨0, 2, [aS1, aS2, aS4, aS5]⟩, ⟨1, 1, []⟩], [], 0⟩

abbrev wz1 : AV := .agg [.int 1, .int 0, .int 0, .int 0, .int 0, .base (.slice none 0 0)]
abbrev wz2 : AV := .agg [.int 1, .int 1, .int 0, .int 0, .int 0, .base (.slice none 0 0)]
abbrev wz3 : AV := .agg [.int 3, .int 0, .int 1, .int 0, .int 0, .base (.slice none 0 0)]
abbrev wz4 : AV := .agg [.int 6, .int 0, .int 0, .int 0, .int 1, .lst [.int 0]]
abbrev wz5 : AV := .agg [.int 4, .int 1, .int 0, .int 0, .int 0, .base (.slice none 0 0)]
abbrev aH0 : List ABlk := [⟨31, 3, [.agg [.int 0, .int 2, .lst [wz1, wz2, wz3, wz4, wz5]], .agg [.int 1, .int 1, .base (.slice none 0 0)]]⟩, ⟨24, 3, [.agg [.own 0 2 0 2, .base (.slice none 0 0), .int 0]]⟩]

theorem awake_ok (h1 : okValid aP1) (h2 : okValid aP2) (e1 : numsF aP1 (nums aP1) = (0, 4, 220)) (e2 : numsF aP2 (nums aP2) = (0, 0, 0)) : Fn Try.prog 11 [] (.bool true) := by
  refine Fn.intro' [] 0 48 Try.func11 (by kernel_rfl) rfl rfl rfl rfl rfl ?_
  repeat (first | (with_reducible first | apply zs | apply zN | apply z1 | apply z2 | apply z3 | apply z4 | apply z5 | apply z6 | refine z7 rfl ?_ | apply zb | apply zk | apply zr | apply ze | apply y1 | apply y2) | ((with_reducible apply zR); (refine ⟨rfl, rfl, ?_⟩; simp (decide := true) only [go_sem, List.map]; rfl)) | ((with_reducible apply zG); (simp (decide := true) only [go_sem]; rfl); (simp (decide := true) only [go_sem]; (repeat simp (decide := true) only [go_sem]); rfl)) | (refine zp rfl rfl (pl_box (by simp (decide := true) only [go_sem]; rfl) rfl) ?_) | (refine zp rfl rfl (pl_alloc (by simp only [go_sem]; rfl) rfl) ?_) | (refine zp rfl rfl (pl_store (by simp (decide := true) only [go_sem]; rfl) (by simp (decide := true) only [go_sem]; rfl) (by simp (decide := true) only [go_sem]; rfl) (by rfl) (by rfl) (by kernel_rfl) (by rfl) (by rfl)) ?_) | fail)
  refine ARun.q1 rfl rfl (ql_build pl34 zero34 (by simp (decide := true) only [List.map, go_sem] <;> rfl)) ?_
  repeat (first | (with_reducible first | apply zs | apply zN | apply z1 | apply z2 | apply z3 | apply z4 | apply z5 | apply z6 | refine z7 rfl ?_ | apply zb | apply zk | apply zr | apply ze | apply y1 | apply y2) | ((with_reducible apply zR); (refine ⟨rfl, rfl, ?_⟩; simp (decide := true) only [go_sem, List.map]; rfl)) | ((with_reducible apply zG); (simp (decide := true) only [go_sem]; rfl); (simp (decide := true) only [go_sem]; (repeat simp (decide := true) only [go_sem]); rfl)) | (refine zp rfl rfl (pl_box (by simp (decide := true) only [go_sem]; rfl) rfl) ?_) | (refine zp rfl rfl (pl_alloc (by simp only [go_sem]; rfl) rfl) ?_) | (refine zp rfl rfl (pl_store (by simp (decide := true) only [go_sem]; rfl) (by simp (decide := true) only [go_sem]; rfl) (by simp (decide := true) only [go_sem]; rfl) (by rfl) (by rfl) (by kernel_rfl) (by rfl) (by rfl)) ?_) | fail)
  refine ARun.q1 rfl rfl (ql_build pl34 zero34 (by simp (decide := true) only [List.map, go_sem] <;> rfl)) ?_
  repeat (first | (with_reducible first | apply zs | apply zN | apply z1 | apply z2 | apply z3 | apply z4 | apply z5 | apply z6 | refine z7 rfl ?_ | apply zb | apply zk | apply zr | apply ze | apply y1 | apply y2) | ((with_reducible apply zR); (refine ⟨rfl, rfl, ?_⟩; simp (decide := true) only [go_sem, List.map]; rfl)) | ((with_reducible apply zG); (simp (decide := true) only [go_sem]; rfl); (simp (decide := true) only [go_sem]; (repeat simp (decide := true) only [go_sem]); rfl)) | (refine zp rfl rfl (pl_box (by simp (decide := true) only [go_sem]; rfl) rfl) ?_) | (refine zp rfl rfl (pl_alloc (by simp only [go_sem]; rfl) rfl) ?_) | (refine zp rfl rfl (pl_store (by simp (decide := true) only [go_sem]; rfl) (by simp (decide := true) only [go_sem]; rfl) (by simp (decide := true) only [go_sem]; rfl) (by rfl) (by rfl) (by kernel_rfl) (by rfl) (by rfl)) ?_) | fail)
  refine ARun.q1 rfl rfl (ql_build pl34 zero34 (by simp (decide := true) only [List.map, go_sem] <;> rfl)) ?_
  repeat (first | (with_reducible first | apply zs | apply zN | apply z1 | apply z2 | apply z3 | apply z4 | apply z5 | apply z6 | refine z7 rfl ?_ | apply zb | apply zk | apply zr | apply ze | apply y1 | apply y2) | ((with_reducible apply zR); (refine ⟨rfl, rfl, ?_⟩; simp (decide := true) only [go_sem, List.map]; rfl)) | ((with_reducible apply zG); (simp (decide := true) only [go_sem]; rfl); (simp (decide := true) only [go_sem]; (repeat simp (decide := true) only [go_sem]); rfl)) | (refine zp rfl rfl (pl_box (by simp (decide := true) only [go_sem]; rfl) rfl) ?_) | (refine zp rfl rfl (pl_alloc (by simp only [go_sem]; rfl) rfl) ?_) | (refine zp rfl rfl (pl_store (by simp (decide := true) only [go_sem]; rfl) (by simp (decide := true) only [go_sem]; rfl) (by simp (decide := true) only [go_sem]; rfl) (by rfl) (by rfl) (by kernel_rfl) (by rfl) (by rfl)) ?_) | fail)
  refine ARun.q1 rfl rfl (ql_buildSlice (by decide) Try.underlying32 sz3 (by kernel_rfl) (by decide) (by simp (decide := true) only [List.map, go_sem] <;> rfl) (by simp (decide := true) only [List.map, go_sem] <;> rfl) (by rfl)) ?_
  repeat (first | (with_reducible first | apply zs | apply zN | apply z1 | apply z2 | apply z3 | apply z4 | apply z5 | apply z6 | refine z7 rfl ?_ | apply zb | apply zk | apply zr | apply ze | apply y1 | apply y2) | ((with_reducible apply zR); (refine ⟨rfl, rfl, ?_⟩; simp (decide := true) only [go_sem, List.map]; rfl)) | ((with_reducible apply zG); (simp (decide := true) only [go_sem]; rfl); (simp (decide := true) only [go_sem]; (repeat simp (decide := true) only [go_sem]); rfl)) | (refine zp rfl rfl (pl_box (by simp (decide := true) only [go_sem]; rfl) rfl) ?_) | (refine zp rfl rfl (pl_alloc (by simp only [go_sem]; rfl) rfl) ?_) | (refine zp rfl rfl (pl_store (by simp (decide := true) only [go_sem]; rfl) (by simp (decide := true) only [go_sem]; rfl) (by simp (decide := true) only [go_sem]; rfl) (by rfl) (by rfl) (by kernel_rfl) (by rfl) (by rfl)) ?_) | fail)
  refine ARun.q1 rfl rfl (ql_build pl34 zero34 (by simp (decide := true) only [List.map, go_sem] <;> rfl)) ?_
  repeat (first | (with_reducible first | apply zs | apply zN | apply z1 | apply z2 | apply z3 | apply z4 | apply z5 | apply z6 | refine z7 rfl ?_ | apply zb | apply zk | apply zr | apply ze | apply y1 | apply y2) | ((with_reducible apply zR); (refine ⟨rfl, rfl, ?_⟩; simp (decide := true) only [go_sem, List.map]; rfl)) | ((with_reducible apply zG); (simp (decide := true) only [go_sem]; rfl); (simp (decide := true) only [go_sem]; (repeat simp (decide := true) only [go_sem]); rfl)) | (refine zp rfl rfl (pl_box (by simp (decide := true) only [go_sem]; rfl) rfl) ?_) | (refine zp rfl rfl (pl_alloc (by simp only [go_sem]; rfl) rfl) ?_) | (refine zp rfl rfl (pl_store (by simp (decide := true) only [go_sem]; rfl) (by simp (decide := true) only [go_sem]; rfl) (by simp (decide := true) only [go_sem]; rfl) (by rfl) (by rfl) (by kernel_rfl) (by rfl) (by rfl)) ?_) | fail)
  refine ARun.q1 rfl rfl (ql_build pl34 zero34 (by simp (decide := true) only [List.map, go_sem] <;> rfl)) ?_
  repeat (first | (with_reducible first | apply zs | apply zN | apply z1 | apply z2 | apply z3 | apply z4 | apply z5 | apply z6 | refine z7 rfl ?_ | apply zb | apply zk | apply zr | apply ze | apply y1 | apply y2) | ((with_reducible apply zR); (refine ⟨rfl, rfl, ?_⟩; simp (decide := true) only [go_sem, List.map]; rfl)) | ((with_reducible apply zG); (simp (decide := true) only [go_sem]; rfl); (simp (decide := true) only [go_sem]; (repeat simp (decide := true) only [go_sem]); rfl)) | (refine zp rfl rfl (pl_box (by simp (decide := true) only [go_sem]; rfl) rfl) ?_) | (refine zp rfl rfl (pl_alloc (by simp only [go_sem]; rfl) rfl) ?_) | (refine zp rfl rfl (pl_store (by simp (decide := true) only [go_sem]; rfl) (by simp (decide := true) only [go_sem]; rfl) (by simp (decide := true) only [go_sem]; rfl) (by rfl) (by rfl) (by kernel_rfl) (by rfl) (by rfl)) ?_) | fail)
  refine ARun.q1 rfl rfl (ql_buildSlice (by decide) Try.underlying29 sz34 (by kernel_rfl) (by decide) (by simp (decide := true) only [List.map, go_sem] <;> rfl) (by simp (decide := true) only [List.map, go_sem] <;> rfl) (by rfl)) ?_
  repeat (first | (with_reducible first | apply zs | apply zN | apply z1 | apply z2 | apply z3 | apply z4 | apply z5 | apply z6 | refine z7 rfl ?_ | apply zb | apply zk | apply zr | apply ze | apply y1 | apply y2) | ((with_reducible apply zR); (refine ⟨rfl, rfl, ?_⟩; simp (decide := true) only [go_sem, List.map]; rfl)) | ((with_reducible apply zG); (simp (decide := true) only [go_sem]; rfl); (simp (decide := true) only [go_sem]; (repeat simp (decide := true) only [go_sem]); rfl)) | (refine zp rfl rfl (pl_box (by simp (decide := true) only [go_sem]; rfl) rfl) ?_) | (refine zp rfl rfl (pl_alloc (by simp only [go_sem]; rfl) rfl) ?_) | (refine zp rfl rfl (pl_store (by simp (decide := true) only [go_sem]; rfl) (by simp (decide := true) only [go_sem]; rfl) (by simp (decide := true) only [go_sem]; rfl) (by rfl) (by rfl) (by kernel_rfl) (by rfl) (by rfl)) ?_) | fail)
  refine ARun.q1 rfl rfl (ql_build pl31 zero31 (by simp (decide := true) only [List.map, go_sem] <;> rfl)) ?_
  repeat (first | (with_reducible first | apply zs | apply zN | apply z1 | apply z2 | apply z3 | apply z4 | apply z5 | apply z6 | refine z7 rfl ?_ | apply zb | apply zk | apply zr | apply ze | apply y1 | apply y2) | ((with_reducible apply zR); (refine ⟨rfl, rfl, ?_⟩; simp (decide := true) only [go_sem, List.map]; rfl)) | ((with_reducible apply zG); (simp (decide := true) only [go_sem]; rfl); (simp (decide := true) only [go_sem]; (repeat simp (decide := true) only [go_sem]); rfl)) | (refine zp rfl rfl (pl_box (by simp (decide := true) only [go_sem]; rfl) rfl) ?_) | (refine zp rfl rfl (pl_alloc (by simp only [go_sem]; rfl) rfl) ?_) | (refine zp rfl rfl (pl_store (by simp (decide := true) only [go_sem]; rfl) (by simp (decide := true) only [go_sem]; rfl) (by simp (decide := true) only [go_sem]; rfl) (by rfl) (by rfl) (by kernel_rfl) (by rfl) (by rfl)) ?_) | fail)
  refine ARun.q1 rfl rfl (ql_build pl31 zero31 (by simp (decide := true) only [List.map, go_sem] <;> rfl)) ?_
  repeat (first | (with_reducible first | apply zs | apply zN | apply z1 | apply z2 | apply z3 | apply z4 | apply z5 | apply z6 | refine z7 rfl ?_ | apply zb | apply zk | apply zr | apply ze | apply y1 | apply y2) | ((with_reducible apply zR); (refine ⟨rfl, rfl, ?_⟩; simp (decide := true) only [go_sem, List.map]; rfl)) | ((with_reducible apply zG); (simp (decide := true) only [go_sem]; rfl); (simp (decide := true) only [go_sem]; (repeat simp (decide := true) only [go_sem]); rfl)) | (refine zp rfl rfl (pl_box (by simp (decide := true) only [go_sem]; rfl) rfl) ?_) | (refine zp rfl rfl (pl_alloc (by simp only [go_sem]; rfl) rfl) ?_) | (refine zp rfl rfl (pl_store (by simp (decide := true) only [go_sem]; rfl) (by simp (decide := true) only [go_sem]; rfl) (by simp (decide := true) only [go_sem]; rfl) (by rfl) (by rfl) (by kernel_rfl) (by rfl) (by rfl)) ?_) | fail)
  refine ARun.p1 rfl rfl (pl_buildSlice (by decide) Try.underlying22 sz31 (by kernel_rfl) (by decide) (by simp (decide := true) only [List.map, go_sem] <;> rfl) (by simp (decide := true) only [List.map, go_sem] <;> rfl) (by rfl)) ?_
  repeat (first | (with_reducible first | apply zs | apply zN | apply z1 | apply z2 | apply z3 | apply z4 | apply z5 | apply z6 | refine z7 rfl ?_ | apply zb | apply zk | apply zr | apply ze | apply y1 | apply y2) | ((with_reducible apply zR); (refine ⟨rfl, rfl, ?_⟩; simp (decide := true) only [go_sem, List.map]; rfl)) | ((with_reducible apply zG); (simp (decide := true) only [go_sem]; rfl); (simp (decide := true) only [go_sem]; (repeat simp (decide := true) only [go_sem]); rfl)) | (refine zp rfl rfl (pl_box (by simp (decide := true) only [go_sem]; rfl) rfl) ?_) | (refine zp rfl rfl (pl_alloc (by simp only [go_sem]; rfl) rfl) ?_) | (refine zp rfl rfl (pl_store (by simp (decide := true) only [go_sem]; rfl) (by simp (decide := true) only [go_sem]; rfl) (by simp (decide := true) only [go_sem]; rfl) (by rfl) (by rfl) (by kernel_rfl) (by rfl) (by rfl)) ?_) | fail)
  refine ARun.q1 rfl rfl (ql_build pl24 zero24 (by simp (decide := true) only [List.map, go_sem] <;> rfl)) ?_
  repeat (first | (with_reducible first | apply zs | apply zN | apply z1 | apply z2 | apply z3 | apply z4 | apply z5 | apply z6 | refine z7 rfl ?_ | apply zb | apply zk | apply zr | apply ze | apply y1 | apply y2) | ((with_reducible apply zR); (refine ⟨rfl, rfl, ?_⟩; simp (decide := true) only [go_sem, List.map]; rfl)) | ((with_reducible apply zG); (simp (decide := true) only [go_sem]; rfl); (simp (decide := true) only [go_sem]; (repeat simp (decide := true) only [go_sem]); rfl)) | (refine zp rfl rfl (pl_box (by simp (decide := true) only [go_sem]; rfl) rfl) ?_) | (refine zp rfl rfl (pl_alloc (by simp only [go_sem]; rfl) rfl) ?_) | (refine zp rfl rfl (pl_store (by simp (decide := true) only [go_sem]; rfl) (by simp (decide := true) only [go_sem]; rfl) (by simp (decide := true) only [go_sem]; rfl) (by rfl) (by rfl) (by kernel_rfl) (by rfl) (by rfl)) ?_) | fail)
  have hz : ∀ (H : List ABlk) (a b c d e : Int), LendL H [.int a, .int b, .int c, .int d, .int e, .base (.slice none 0 0)] [.int a, .int b, .int c, .int d, .int e, .lst []] := fun H a b c d e =>
    ⟨.pu (.base _), .pu (.base _), .pu (.base _), .pu (.base _), .pu (.base _), .nilS, trivial⟩
  have hz4 : ∀ (H : List ABlk) (a b c d e : Int), LendL H [.int a, .int b, .int c, .int d, .int e, .lst [.int 0]] [.int a, .int b, .int c, .int d, .int e, .lst [.int 0]] := fun H a b c d e =>
    ⟨.pu (.base _), .pu (.base _), .pu (.base _), .pu (.base _), .pu (.base _), .pu (Pu_int1 0), trivial⟩
  refine ARun.q1 rfl rfl (ql_callM (args := [encT aP1]) rfl (by simp (decide := true) only [go_sem] <;> rfl) (by simp (decide := true) only [go_sem, List.map]; exact ⟨.agg' ⟨.ownL rfl rfl ⟨⟨.pu (.base _), .pu (.base _), .lst ⟨hz _ _ _ _ _ _, hz _ _ _ _ _ _, hz _ _ _ _ _ _, hz4 _ _ _ _ _ _, hz _ _ _ _ _ _, trivial⟩, trivial⟩, ⟨.pu (.base _), .pu (.base _), .nilS, trivial⟩, trivial⟩, .nilS, .pu (.base _), trivial⟩, trivial⟩) (.tup (by intro c hc; simp at hc; rcases hc with rfl | rfl | rfl <;> exact .base _)) (e1 ▸ check_all aP1 h1)) ?_
  repeat (first | (with_reducible first | apply zs | apply zN | apply z1 | apply z2 | apply z3 | apply z4 | apply z5 | apply z6 | refine z7 rfl ?_ | apply zb | apply zk | apply zr | apply ze | apply y1 | apply y2) | ((with_reducible apply zR); (refine ⟨rfl, rfl, ?_⟩; simp (decide := true) only [go_sem, List.map]; rfl)) | ((with_reducible apply zG); (simp (decide := true) only [go_sem]; rfl); (simp (decide := true) only [go_sem]; (repeat simp (decide := true) only [go_sem]); rfl)) | (refine zp rfl rfl (pl_box (by simp (decide := true) only [go_sem]; rfl) rfl) ?_) | (refine zp rfl rfl (pl_alloc (by simp only [go_sem]; rfl) rfl) ?_) | (refine zp rfl rfl (pl_store (by simp (decide := true) only [go_sem]; rfl) (by simp (decide := true) only [go_sem]; rfl) (by simp (decide := true) only [go_sem]; rfl) (by rfl) (by rfl) (by kernel_rfl) (by rfl) (by rfl)) ?_) | fail)
  with_reducible apply AWp.drawK (k := 8) [none, none, none, none, some 0, none, none, some 1] (fun c => match c with | 0 => aH0 | 1 => aH0 ++ [⟨34, 6, [wz1, wz2]⟩] | _ => aH0 ++ [⟨34, 6, [wz1, wz2, wz4, wz5]⟩]) 2 follows
  · refine ⟨rfl, rfl, by kernel_rfl, by decide, ?_, ?_⟩
    · simp (decide := true) only [go_sem, List.map, List.take]; rfl
    · simp (decide := true) only [go_sem, List.map, List.drop]; rfl
  · kernel_rfl
  · rfl
  refine GRun.qf2 (v := .ptr 1 1 0 0) rfl rfl (by rfl) (by rfl) (by rfl) ?_
  refine GRun.qf2 (v := .own 0 2 0 2) rfl rfl (by rfl) (by rfl) (by rfl) ?_
  refine GRun.qf2 (v := .lst [wz1, wz2, wz3, wz4, wz5]) rfl rfl (by rfl) (by rfl) (by rfl) ?_
  refine GRun.q1 (v := .lst [wz1, wz2]) rfl rfl (fun c hc => ql_slice_lst (es := [wz1, wz2, wz3, wz4, wz5]) (l := 0) (h := 2) (sz := 6) rfl Try.underlying29 rfl rfl (by decide) (by decide) sz34 (by simp [AV.cells])) ?_
  refine GRun.p1 (v := .own 2 2 0 2) rfl rfl (fun ρ' h => pl_append_nil (ρ := ρ') (H := aH0) (es := [wz1, wz2]) (h (.const (.slice none 0 0)) (by simp [Op.operands, Call.operands])) (h (.tmp 27) (by simp [Op.operands, Call.operands])) Try.underlying29 el34 (by simp [AV.cells, okCells, isOne]; decide) (by decide) (by decide)) ?_
  refine GRun.qf2 (v := .lst [wz1, wz2, wz3, wz4, wz5]) rfl rfl (by rfl) (by rfl) (by rfl) ?_
  refine GRun.q1 (v := .lst [wz4, wz5]) rfl rfl (fun c hc => ql_slice_lst (es := [wz1, wz2, wz3, wz4, wz5]) (l := 3) (h := 5) (sz := 6) rfl Try.underlying29 rfl rfl (by decide) (by decide) sz34 (by simp [AV.cells])) ?_
  refine GRun.p1 (v := .own 2 4 0 4) rfl rfl (fun ρ' h => pl_append (ρ := ρ') (H := aH0 ++ [⟨34, 6, [wz1, wz2]⟩]) (b := 2) (tot := 2) (es := [wz4, wz5]) (h (.tmp 28) (by simp [Op.operands, Call.operands])) (h (.tmp 30) (by simp [Op.operands, Call.operands])) rfl rfl Try.underlying29 el34 rfl rfl (by decide) (by simp [AV.cells, okCells, isOne]; decide) (by decide) (by decide)) ?_
  refine GRun.nil ?_
  refine ARun.q1 rfl rfl (ql_indexAddr_own (b := 0) (tot := 2) (off := 0) (len := 2) rfl rfl Try.underlying22 rfl rfl (by decide) (by decide) sz31) ?_
  show ARun _ _ _ _ _ ⟨_, aH0 ++ [⟨34, 6, [wz1, wz2, wz4, wz5]⟩]⟩
  repeat (first | (with_reducible first | apply zs | apply zN | apply z1 | apply z2 | apply z3 | apply z4 | apply z5 | apply z6 | refine z7 rfl ?_ | apply zb | apply zk | apply zr | apply ze | apply y1 | apply y2) | ((with_reducible apply zR); (refine ⟨rfl, rfl, ?_⟩; simp (decide := true) only [go_sem, List.map]; rfl)) | ((with_reducible apply zG); (simp (decide := true) only [go_sem]; rfl); (simp (decide := true) only [go_sem]; (repeat simp (decide := true) only [go_sem]); rfl)) | (refine zp rfl rfl (pl_box (by simp (decide := true) only [go_sem]; rfl) rfl) ?_) | (refine zp rfl rfl (pl_alloc (by simp only [go_sem]; rfl) rfl) ?_) | (refine zp rfl rfl (pl_store (by simp (decide := true) only [go_sem]; rfl) (by simp (decide := true) only [go_sem]; rfl) (by simp (decide := true) only [go_sem]; rfl) (by rfl) (by rfl) (by kernel_rfl) (by rfl) (by rfl)) ?_) | fail)
  refine ARun.gl rfl rfl (by simp (decide := true) only [go_sem] <;> rfl) (fun hg => ql_callM (args := [encT aP2]) rfl (by simp (decide := true) only [go_sem] <;> rfl) (by simp (decide := true) only [go_sem, List.map]; exact ⟨.agg' ⟨.ownL rfl rfl ⟨⟨.pu (.base _), .pu (.base _), .ownL rfl rfl ⟨hz _ _ _ _ _ _, hz _ _ _ _ _ _, hz4 _ _ _ _ _ _, hz _ _ _ _ _ _, trivial⟩, trivial⟩, ⟨.pu (.base _), .pu (.base _), .nilS, trivial⟩, trivial⟩, .nilS, .pu (.base _), trivial⟩, trivial⟩) (.base _) (accepted_ok aP2 h2)) ?_
  repeat (first | (with_reducible first | apply zs | apply zN | apply z1 | apply z2 | apply z3 | apply z4 | apply z5 | apply z6 | refine z7 rfl ?_ | apply zb | apply zk | apply zr | apply ze | apply y1 | apply y2) | ((with_reducible apply zR); (refine ⟨rfl, rfl, ?_⟩; simp (decide := true) only [go_sem, List.map]; rfl)) | ((with_reducible apply zG); (simp (decide := true) only [go_sem]; rfl); (simp (decide := true) only [go_sem]; (repeat simp (decide := true) only [go_sem]); rfl)) | (refine zp rfl rfl (pl_box (by simp (decide := true) only [go_sem]; rfl) rfl) ?_) | (refine zp rfl rfl (pl_alloc (by simp only [go_sem]; rfl) rfl) ?_) | (refine zp rfl rfl (pl_store (by simp (decide := true) only [go_sem]; rfl) (by simp (decide := true) only [go_sem]; rfl) (by simp (decide := true) only [go_sem]; rfl) (by rfl) (by rfl) (by kernel_rfl) (by rfl) (by rfl)) ?_) | fail)
  exact Ret.bool rfl (by simp [e2])
end Go.Ab
set_option maxHeartbeats 4000000
namespace Go.Ab
open Go Go.Ab Go.Proofs Go.Ab.Ty
set_option linter.unusedSimpArgs false
set_option linter.unusedVariables false

instance (s : Stp) : Decidable (noneT s) := by unfold noneT; infer_instance
instance (l : Lk) (i : Int) (s : Stp) : Decidable (spawn l i s) := by unfold spawn; infer_instance
set_option synthInstance.maxSize 4000 in
set_option synthInstance.maxHeartbeats 400000 in
instance (l : Lk) (i : Int) (s : Stp) : Decidable (okStep l i s) := by unfold okStep; infer_instance
instance (l : Lk) : Decidable (okCode l) := by unfold okCode; infer_instance
instance (p : Tk) : Decidable (okValid p) := by unfold okValid; infer_instance
theorem aV1 : okValid aP1 := by decide
theorem aV2 : okValid aP2 := by decide
theorem dupl1 (r : Rg) (x : Int) : ¬ dupl r [x] := by
  rintro ⟨i, j, hi, hj, _⟩
  simp at hi; omega
theorem wI (x : Int) (h1 : -9223372036854775808 ≤ x) (h2 : x ≤ 9223372036854775807) : IntKind.i64.wrap x = x := wrap_id h1 h2
theorem w1 : IntKind.i64.wrap 1 = 1 := by decide
theorem w2 : IntKind.i64.wrap 2 = 2 := by decide
theorem aE1 : numsF aP1 (nums aP1) = (0, 4, 220) := by
  have hn : nums aP1 = [0, 1] := by decide
  rw [hn]
  have : codeF aP1 0 = some (4, 220) := by
    simp [codeF, codeOf, cod, nth, aP1, startF, startN, stepsF, aS1, aS2, aS3, aS4, aS5, afterE, afterR, freshR, start0, w1, w2, mustF, updI, joinF, joinO, joinN, repl, sendE, sendR, dupl1, goneF]
  simp [numsF, this]
theorem aE2 : numsF aP2 (nums aP2) = (0, 0, 0) := by
  have hn : nums aP2 = [0, 1] := by decide
  rw [hn]
  have h0 : codeF aP2 0 = none := by
    simp [codeF, codeOf, cod, nth, aP2, startF, startN, stepsF, aS1, aS2, aS3, aS4, aS5, afterE, afterR, freshR, start0, w1, w2, mustF, updI, joinF, joinO, joinN, repl, sendE, sendR, dupl1, goneF]
  have h1 : codeF aP2 1 = none := by
    simp [codeF, codeOf, cod, nth, aP2, startF, startN, stepsF]
  simp [numsF, h0, h1]
theorem awake_true : Fn Try.prog 11 [] (.bool true) := awake_ok aV1 aV2 aE1 aE2
end Go.Ab
