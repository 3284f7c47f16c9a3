/- Simple operations are sound; calls; indexes; slices. -/
import Derived.Test.YthjeoagadjdilaaAbB
set_option linter.unusedSimpArgs false
set_option linter.unusedVariables false
namespace Go.Ab
open Go Go.RowKit
set_option linter.unusedVariables false

theorem asIntOf_run {P : Program} {w : World} {k : IntKind} {n : Int} : (asIntOf (.int k n)).run P w = .ok (k, n) w := rfl

set_option maxHeartbeats 1000000 in
theorem qfun_sound {P : Program} {H : List ABlk} {ρ : Operand → AV} {o : Oper} {v : AV} (h : qfun P H ρ o.op = some v) : QOp P H ρ o v := by
  refine QOp.of_run fun w0 O ι a w hs hv => ?_
  obtain ⟨dst, op, ty, pos, after, guard⟩ := o
  simp only at h hv
  unfold qfun at h
  split at h
  · rename_i x
    injection h with h; subst h
    exact ⟨_, rfl, hv x (by simp [Op.operands])⟩
  · rename_i x
    injection h with h; subst h
    exact ⟨_, rfl, hv x (by simp [Op.operands])⟩
  · -- pick
    rename_i c x y
    split at h
    · rename_i t hc
      have h1 := hv c (by simp [Op.operands]); rw [hc] at h1
      have h1 := h1.base_inv
      unfold pickF at h
      split at h
      · rename_i p q hp hq
        injection h with h; subst h
        cases t with
        | true =>
          have h2 := (hv x (by simp [Op.operands])).strip (c := true) rfl
          rw [hp] at h2
          have h2 := h2.base_inv
          exact ⟨.bool p, by simp [execOp, h1, asBool, h2], .base _⟩
        | false =>
          have h2 := (hv y (by simp [Op.operands])).strip (c := !false) rfl
          rw [hq] at h2
          have h2 := h2.base_inv
          exact ⟨.bool q, by simp [execOp, h1, asBool, h2], .base _⟩
      · cases h
    · cases h
  · -- load
    rename_i t x
    split at h
    · rename_i e off hx
      have h1 := hv x (by simp [Op.operands]); rw [hx] at h1
      obtain ⟨ad, h2, h3, h4, h5⟩ := h1.iptr_inv
      obtain ⟨u, hu, hvu⟩ := ldE_run (P := P) h h5
      have hadd : (⟨ad.block, ad.off - off + off, none⟩ : Addr) = ad := by cases ad; simp_all
      rw [hadd] at hu
      exact ⟨u, by simp [execOp, h2, Instr.loadAt, Instr.sureAddr, hu], hvu⟩
    · rename_i b tot i off hx
      have h1 := hv x (by simp [Op.operands]); rw [hx] at h1
      split at h
      · rename_i blk hb
        split at h
        · rename_i ht
          split at h
          · rename_i e he
            obtain ⟨y, hy, h2, h3⟩ := h1.ptr_inv hs hb ht he
            obtain ⟨u, hu, hvu⟩ := ldE_run (P := P) h h3
            exact ⟨u, by simp [execOp, h2, Instr.loadAt, Instr.sureAddr, hu], hvu⟩
          · cases h
        · cases h
      · cases h
    · cases h
  · -- fieldAddr
    rename_i s x f
    split at h
    · rename_i n e off hn hx
      injection h with h; subst h
      have h1 := hv x (by simp [Op.operands]); rw [hx] at h1
      generalize hx' : a.eval x = X at h1
      cases h1 with
      | iptr e off ad val hsp hoff hc hvv =>
      refine ⟨.pointer (some ⟨ad.block, ad.off + n, none⟩), ?_, ?_⟩
      · have hr := fieldPlace_run hn ad hsp (w := w)
        simp only [execOp, hx', Sem.run_bind, hr, Result.andThen_ok, Sem.run_pure]
      · exact .iptr e (off + n) _ val rfl (by simp; omega) (fun j c hj => by have := hc j c hj; rw [show ad.off + n - (off + n) = ad.off - off by omega]; exact this) hvv
    · rename_i n b tot i off hn hx
      split at h
      · rename_i hf
        injection h with h; subst h
        have h1 := hv x (by simp [Op.operands]); rw [hx] at h1
        obtain ⟨y, blk, hi, hb, ht, h2⟩ := h1.ptr_fresh hf
        refine ⟨.pointer (some ⟨y, i * blk.sz + off + n, none⟩), by have hr := fieldPlace_run hn ⟨y, i * blk.sz + off, none⟩ rfl (w := w); simp only [execOp, h2, Sem.run_bind, hr, Result.andThen_ok, Sem.run_pure], ?_⟩
        rw [Nat.add_assoc]
        exact .ptr b tot i (off + n) blk y hb ht hi
      · cases h
    · cases h
  · -- field
    rename_i t x f
    split at h
    · rename_i cs hx
      have h1 := hv x (by simp [Op.operands]); rw [hx] at h1
      obtain ⟨arr, h2, h3, h4⟩ := h1.agg_inv
      unfold fieldF at h
      split at h
      · rename_i fs hu
        split at h
        · rename_i fd hf
          obtain ⟨u, hr, hvu⟩ := part_run (P := P) h3 h4 h
          exact ⟨u, by simp [execOp, h2, Instr.field, run_underlying hu, hf, asAgg, hr], hvu⟩
        · cases h
      · cases h
    · cases h
  · -- binOp
    rename_i op t x y yt
    obtain ⟨u, h1, h2, h3⟩ := binF_run (X := x) (Y := y) h (hv x (by simp [Op.operands])) (hv y (by simp [Op.operands]))
    exact ⟨u, by simp [execOp, h1, h2], h3⟩
  · rename_i t x
    split at h
    · rename_i b hx
      injection h with h; subst h
      have h1 := hv x (by simp [Op.operands]); rw [hx] at h1
      have h1 := h1.base_inv
      exact ⟨_, by simp [execOp, h1, Op.unary], .base _⟩
    · cases h
  · rename_i t x
    split at h
    · rename_i k n hx
      injection h with h; subst h
      have h1 := hv x (by simp [Op.operands]); rw [hx] at h1
      have h1 := h1.base_inv
      exact ⟨_, by simp only [execOp, h1, Op.unary, Op.intArith, Sem.run_bind, Sem.run_pure, Result.andThen_ok], .base _⟩
    · cases h
  · -- extract
    rename_i x i
    split at h
    · rename_i vs hx
      have h1 := hv x (by simp [Op.operands]); rw [hx] at h1
      obtain ⟨arr, h2, h3, h4⟩ := h1.tup_inv
      obtain ⟨u, hu⟩ := cells_getD h3 (List.getElem?_eq_some_iff.1 h).1
      exact ⟨u, by simp [execOp, h2, Instr.extract, hu], h4 _ _ _ h hu⟩
    · cases h
  · -- nilCheck
    rename_i x
    split at h
    · rename_i b tot i off hx
      split at h
      · rename_i hf
        injection h with h; subst h
        have h1 := hv x (by simp [Op.operands]); rw [hx] at h1
        obtain ⟨y, blk, hi, hb, ht, h2⟩ := h1.ptr_fresh hf
        exact ⟨a.eval x, by simp [execOp, h2], h1⟩
      · cases h
    · rename_i e off hx
      injection h with h; subst h
      have h1 := hv x (by simp [Op.operands]); rw [hx] at h1
      obtain ⟨ad, h2, h3, h4, h5⟩ := h1.iptr_inv
      exact ⟨a.eval x, by simp [execOp, h2], h1⟩
    · cases h
  · -- convert
    rename_i s d x
    split at h
    · rename_i k n hx
      split at h
      · rename_i sd k' hsd hd
        injection h with h; subst h
        have h1 := hv x (by simp [Op.operands]); rw [hx] at h1
        have h1 := h1.base_inv
        exact ⟨_, by simp [execOp, h1, convert, run_underlying hsd, run_underlying hd, Conv.intToInt], .base _⟩
      · cases h
    · cases h
  · -- makeFunc
    rename_i f first caps
    split at h
    case h_2 => cases h
    rename_i hfirst
    injection h with h; subst h
    have hfirst : first = #[] := by cases first; simp_all
    subst hfirst
    refine ⟨.func (.func f) #[] (caps.map a.eval), by simp only [execOp, Instr.makeFunc, Sem.run_bind, Sem.run_pure, Result.andThen_ok, List.map_toArray, List.map_nil], ?_⟩
    refine .clo _ _ _ (by simp) fun j c u hj hu => ?_
    simp only [List.getElem?_map, Array.getElem?_map, Array.getElem?_toList, Option.map_eq_some_iff] at hj hu
    obtain ⟨x, hx, rfl⟩ := hj
    obtain ⟨y, hy, rfl⟩ := hu
    rw [hx] at hy; cases hy
    exact hv x (by simp only [Op.operands, Array.empty_append]; exact Array.mem_of_getElem? hx)
  · -- len
    rename_i cl
    split at h
    case h_2 => cases h
    rename_i x t h5 h6 h7
    obtain ⟨ce, as, ts⟩ := cl
    simp only at h5 h6 h7
    subst h5
    have h6 : as = #[x] := by cases as; simp_all
    have h7 : ts = #[t] := by cases ts; simp_all
    subst h6; subst h7
    obtain ⟨u, h1, h2⟩ := lenF_run (P := P) (ty := ty) h (hv x (by simp [Op.operands, Call.operands]))
    refine ⟨u, ?_, h2⟩
    simp only [execOp, resolve, invoke, builtin, Sem.run_bind, Sem.run_pure, Result.andThen_ok, List.map_toArray, List.map_cons, List.map_nil, h1]
  · cases h
end Go.Ab
