/- Ranges over strings; a list of characters turned into a string. -/
import Derived.Test.YtjfahhbobiiphaaAbJ
import Derived.Test.YtjfahhbobiiphaaAbG
set_option linter.unusedSimpArgs false
set_option linter.unusedVariables false
namespace Go.Ab
open Go Go.RowKit

def iterB (s : ByteArray) (pos : Nat) : ABlk := ⟨iterTy, 2, [.agg [.base (.string s), .int pos]]⟩
theorem PuB_iter (s : ByteArray) (pos : Nat) : ∀ e ∈ (iterB s pos).es, ∀ c ∈ e.cells, Pu c := fun e he c hc => by
  simp only [iterB, List.mem_singleton] at he; subst he
  simp only [AV.cells, List.mem_cons, List.not_mem_nil, or_false] at hc
  rcases hc with rfl | rfl <;> exact .base _
section
variable {P : Program} {w w' : World} {w0 : Base} {O : Nat → Prop} {ι : Nat → Option Nat} {H : List ABlk} {u : Value}
theorem iter_inv (hs : Sit w0 O ι H w) {b : Nat} {s : ByteArray} {pos : Nat} (hb : H[b]? = some (iterB s pos)) (hv : VR w (OO O ι H) ι H (.iterv b) u) :
    ∃ x, u = .pointer (some ⟨x, 0, none⟩) ∧ ι b = some x ∧ w.heap[x]? = some (.stringIter s pos) := by
  cases hv with
  | staleIter b blk a hb' h => rw [hb] at hb'; cases hb'; simp [iterB] at h
  | iterv b blk x hb' ht hi =>
    rw [hb] at hb'; cases hb'
    obtain ⟨_, c, hc, _, _, hel⟩ := hs.heap b _ x hb hi
    obtain ⟨s', pos', h1, rfl⟩ := rowAt_iter hc
    obtain ⟨u0, h2, h3⟩ := hel 0 0 _ _ rfl rfl
    obtain ⟨u1, h4, h5⟩ := hel 0 1 _ _ rfl rfl
    have h3 := h3.base_inv
    have h5 := h5.base_inv
    simp [iterB] at h2 h4
    subst h3; subst h5
    injection h2 with h2
    injection h4 with _ h4
    have h4 : pos' = pos := by omega
    subst h2; subst h4
    exact ⟨x, rfl, hi, h1⟩
theorem pl_rangeStr {ρ : Operand → AV} {t : TypeId} {x : Operand} {s : ByteArray} (hx : ρ x = .base (.string s)) (ht : P.underlying t = some .string) : PL P H ρ (.range t x) (.iterv H.length) (H ++ [iterB s 0]) := by
  refine PL.of_run fun w0 O ι a w hs hv o ho => ?_
  have h1 := hv x; rw [hx] at h1
  have h1 := h1.base_inv
  obtain ⟨h4, h5⟩ := hs.newO (iterB s 0) #[.string s, .int .i64 0] (.stringIter s 0) rfl w (Below.refl _ _) rfl (by simp [iterB]) (by simp [iterB, AV.cells]) (fun i j e c he hc => by
    cases i with
    | zero =>
      simp [iterB] at he; subst he
      match j with
      | 0 => simp [AV.cells] at hc; subst hc; exact ⟨.string s, rfl, .base _⟩
      | 1 => simp [AV.cells] at hc; subst hc; exact ⟨.int .i64 0, rfl, .base _⟩
      | j + 2 => simp [AV.cells] at hc
    | succ i => simp [iterB] at he)
  refine ⟨.pointer (some ⟨w.heap.size, 0, none⟩), _, _, _, ?_, .inl rfl, h4, h5, ?_⟩
  · simp only [execOp, ho, h1, Instr.range, run_underlying ht, Sem.run_bind, run_newObj, World.alloc_eq, Sem.run_pure, Result.andThen_ok]
  · exact .iterv _ (iterB s 0) _ (by simp) rfl (upd_same _ _ _)
theorem run_getObj_iter {x : Nat} {s : ByteArray} {pos : Nat} (h : w.heap[x]? = some (.stringIter s pos)) : (getObj x).run P w = .ok (.stringIter s pos) w := by simp [getObj, Sem.run, h]
theorem run_setObj_iter {x : Nat} {s : ByteArray} {pos : Nat} (o : Obj) (h : w.heap[x]? = some (.stringIter s pos)) : (setObj x o).run P w = .ok () { w with heap := w.heap.setIfInBounds x o } := by simp [setObj, Sem.run, h]
theorem pl_nextStr {ρ : Operand → AV} {x : Operand} {b : Nat} {s : ByteArray} {pos : Nat} (hx : ρ x = .iterv b) (hb : H[b]? = some (iterB s pos)) (hp : pos < s.size) :
    PL P H ρ (.next x true) (.tup [.bool true, .int pos, .base (.int .i32 (Utf8.decode s pos).1)]) (H.set b (iterB s (pos + (Utf8.decode s pos).2))) := by
  refine PL.of_run fun w0 O ι a w hs hv o ho => ?_
  have h1 := hv x; rw [hx] at h1
  obtain ⟨z, h2, hi, h3⟩ := iter_inv hs hb h1
  obtain ⟨p2, hp2⟩ : ∃ p2, p2 = pos + (Utf8.decode s pos).2 := ⟨_, rfl⟩
  rw [← hp2]
  have hzl : z < w.heap.size := (Array.getElem?_eq_some_iff.1 h3).1
  have hnew : ({ w with heap := w.heap.setIfInBounds z (.stringIter s p2) } : World).heap[z]? = some (.stringIter s p2) := by simp [hzl]
  have hoth : ∀ k, k ≠ z → ({ w with heap := w.heap.setIfInBounds z (.stringIter s p2) } : World).heap[k]? = w.heap[k]? := fun k hk => by simp [Ne.symm hk]
  obtain ⟨g1, g2⟩ := hs.set (w' := { w with heap := w.heap.setIfInBounds z (.stringIter s p2) }) (b := b) (x := z) (blk := iterB s pos) (blk2 := iterB s p2) hb hi rfl rfl rfl
    ⟨rfl, rfl, rfl, by simp, fun k hk => hoth k (by omega)⟩ hoth (c := #[.string s, .int .i64 pos]) (c' := #[.string s, .int .i64 p2])
    (by rw [rowAt, h3]; rfl) (by rw [rowAt, hnew]; rfl) rfl (fun c ty fz h => by rw [h3] at h; cases h) (by simp [iterB, AV.cells]) (fun i j e c he hc => by
      cases i with
      | succ i => simp [iterB] at he
      | zero =>
        simp [iterB] at he; subst he
        match j with
        | 0 => simp [AV.cells] at hc; subst hc; exact ⟨.string s, rfl, .base _⟩
        | 1 => simp [AV.cells] at hc; subst hc; exact ⟨.int .i64 p2, rfl, .base _⟩
        | j + 2 => simp [AV.cells] at hc)
  refine ⟨.tuple #[.bool true, goInt pos, .int .i32 (Utf8.decode s pos).1], _, ι, _, ?_, .inl rfl, g1, g2, ?_⟩
  · simp only [execOp, ho, h2, Instr.next, Sem.run_bind, run_getObj_iter h3, Result.andThen_ok, hp, if_true, run_setObj_iter _ h3, Sem.run_pure, ← hp2]
  · refine .tup _ _ rfl fun j c u hc hu => ?_
    match j with
    | 0 => simp at hc hu; subst hc; subst hu; exact .base _
    | 1 => simp at hc hu; subst hc; subst hu; exact .base _
    | 2 => simp at hc hu; subst hc; subst hu; exact .base _
    | j + 3 => simp at hc
theorem ql_nextEnd {ρ : Operand → AV} {x : Operand} {b : Nat} {s : ByteArray} {pos : Nat} (hx : ρ x = .iterv b) (hb : H[b]? = some (iterB s pos)) (hp : s.size ≤ pos) : QL P H ρ (.next x true) (.tup [.bool false]) := by
  refine QL.of_run fun w0 O ι a w hs hv o ho => ?_
  have h1 := hv x (by simp [Op.operands]); rw [hx] at h1
  obtain ⟨z, h2, hi, h3⟩ := iter_inv hs hb h1
  have hn : ¬ pos < s.size := by omega
  refine ⟨.tuple #[.bool false], ?_, .tup _ _ rfl fun j c u hc hu => ?_⟩
  · simp only [execOp, ho, h2, Instr.next, Sem.run_bind, run_getObj_iter h3, Result.andThen_ok, hn, if_false, Sem.run_pure]
  · match j with
    | 0 => simp at hc hu; subst hc; subst hu; exact .base _
    | j + 1 => simp at hc
end
theorem Pub.iterv {H : List ABlk} {k b : Nat} (hb : b < k) : Pub H k (.iterv b) (.iterv b) := fun H2 w0 w O ι ι2 u hs v hu => by
  have hr : pre k b = some b := pre_lt hb
  cases hu with
  | staleIter b blk a h1 h2 =>
    obtain ⟨blk2, e1, e2, e3, e4⟩ := v.idx b b blk hr h1
    exact .staleIter _ blk2 _ e1 (by omega)
  | iterv b blk x h1 ht hi =>
    obtain ⟨blk2, e1, e2, e3, e4⟩ := v.idx b b blk hr h1
    exact .iterv _ blk2 x e1 (e2.trans ht) (e4.trans hi)
theorem NilR.iterv {H : List ABlk} {b : Nat} : NilR H (.iterv b) (.iterv b) := .mv fun H2 w O ι ι2 u v hu => by
  cases hu with
  | staleIter b blk a h1 h2 =>
    obtain ⟨blk2, e1, e2, e3, e4⟩ := v b b blk rfl h1
    exact .staleIter _ blk2 _ e1 (by omega)
  | iterv b blk x h1 ht hi =>
    obtain ⟨blk2, e1, e2, e3, e4⟩ := v b b blk rfl h1
    exact .iterv _ blk2 x e1 (e2.trans ht) (e4.trans hi)
end Go.Ab
