/- Part of the proof. -/
import Derived.Test.YtjfahhbobiiphaaXB
set_option linter.unusedSimpArgs false
set_option linter.unusedVariables false
set_option maxHeartbeats 4000000
namespace Go.Ab
open Go Go.Ab Go.Proofs Go.Ab.Ty

def smallX (r : Rx) : Prop := r.cnt ≤ 80 ∧ r.thin
open Classical in
theorem small_ok (l : List Rx) (hn : l.length ≤ maxLen) (hl : ∀ x ∈ l, x.ok) : Fn Try.prog 15 [.lst (l.map encX)] (.bool (decide (∀ x ∈ l, smallX x))) := by
  unfold maxLen at hn
  refine Fn.intro' [(0, .lst (l.map encX))] 1 24 Try.func15 (by kernel_rfl) rfl rfl rfl rfl rfl ?_
  refine goB ?_
  refine AWp.loopP (J := fun k : Nat => k ≤ l.length ∧ ∀ i, ∀ h : i < l.length, i < k → smallX l[i]) (fun k => [(3, .int k)]) (fun k => l.length - k) 0 ⟨Nat.zero_le _, fun i h h' => by omega⟩ .wk ?_
  rintro k ⟨hk, he⟩
  refine goB ?_
  refine ifA (fun hd => ?_) (fun hd => ?_)
  · simp at hd
    refine goB ?_
    have hm : l[k] ∈ l := List.getElem_mem _
    rcases hx : l[k] with ⟨o1, s1, l1⟩
    have i1 := nodes_ok _ (hl _ hm)
    have i2 := thin_ok _ (hl _ hm)
    rw [hx, encX_mk] at i1 i2
    refine ARun.q1 rfl rfl (ql_indexAddr_lst rfl rfl Try.underlying22 (by omega) (e := .agg [.int o1, str s1, .lst (l1.map encX)]) (by simp [hd, hx, encX_mk]) (by kernel_rfl)) ?_
    refine goB ?_
    refine callA (i1) ?_
    refine goB ?_
    refine gqA (h := fun hg => ql_indexAddr_lst (by simp +decide only [go_sem] <;> rfl) (by simp +decide only [go_sem] <;> rfl) Try.underlying22 (by omega) (e := .agg [.int o1, str s1, .lst (l1.map encX)]) (by simp [hd, hx, encX_mk]) (by kernel_rfl)) (hr := ?_)
    refine goB ?_
    refine gcallA (i := fun hg => i2) (hr := ?_)
    refine goB ?_
    refine ifA (fun hq => ?_) (fun hq => ?_)
    · simp at hq
      refine goB ?_
      exact Ret.bool rfl (by
        rw [decide_eq_true_iff]
        exact ⟨fun h => (nomatch h), fun h => absurd (hx ▸ h _ hm) (fun ⟨h1, h2⟩ => by
          rcases hq with h | h
          · omega
          · exact h h2)⟩)
    · simp at hq
      refine goB ?_
      rw [wrap_succ (by omega)]
      refine ⟨k + 1, ⟨by omega, fun i h hi => ?_⟩, by omega, .wk⟩
      by_cases e : i = k
      · subst e; rw [hx]; exact ⟨by omega, hq.2⟩
      · exact he i h (by omega)
  simp at hd
  refine goB ?_
  exact Ret.bool rfl (by rw [decide_eq_true_iff]; exact ⟨fun _ => fun x hx => by obtain ⟨i, hi, rfl⟩ := List.mem_iff_getElem.1 hx; exact he i hi (by omega), fun _ => rfl⟩)
end Go.Ab
set_option maxHeartbeats 4000000
namespace Go.Ab
open Go Go.Ab Go.Proofs Go.Ab.Ty

theorem bs_toList {s t : ByteArray} : s.toList = t.toList ↔ s = t := by
  rw [ByteArray.toList_eq, ByteArray.toList_eq]
  refine ⟨fun h => ?_, fun h => by rw [h]⟩
  cases s; cases t; simp only at h
  congr 1
  exact Array.toList_inj.1 h
end Go.Ab
set_option maxHeartbeats 4000000
namespace Go.Ab
open Go Go.Ab Go.Proofs Go.Ab.Ty

mutual
def szR : Rx → Nat → Nat × Nat
  | .mk _ _ l, v => (min (szL l v (1, v)).1 61, (szL l v (1, v)).2)
def szL : List Rx → Nat → Nat × Nat → Nat × Nat
  | [], _, a => a
  | r :: l, v, a => if a.1 ≤ 60 ∧ v < 13 then szL l v (a.1 + (szR r (v + 1)).1, max a.2 (szR r (v + 1)).2) else a
end
theorem szR_le : ∀ (r : Rx) (v : Nat), (szR r v).1 ≤ 61
  | .mk _ _ l, v => by rw [szR]; exact Nat.min_le_right ..
def encSz (a : Nat × Nat) : AV := .tup [.int a.1, .int a.2]
theorem szR_deep (r : Rx) : ∀ v : Nat, v ≤ 13 → (szR r v).2 ≤ 13 := by
  induction r using Rx.ind with
  | h o s l ih =>
  intro v hv
  rw [szR]
  suffices ∀ (L : List Rx) (a : Nat × Nat), (∀ x ∈ L, ∀ v : Nat, v ≤ 13 → (szR x v).2 ≤ 13) → a.2 ≤ 13 → (szL L v a).2 ≤ 13 from this l (1, v) ih hv
  intro L
  induction L with
  | nil => intro a _ h; exact h
  | cons r L ih2 =>
    intro a h ha
    rw [szL]
    split
    · rename_i hc
      have h1 := h r (by simp) (v + 1) (by omega)
      exact ih2 _ (fun x hx => h x (by simp [hx])) (by simp only; omega)
    · exact ha
theorem refSize_ok (r : Rx) : ∀ v : Nat, r.ok → v ≤ 13 → Fn Try.prog 64 [encX r, .int v] (encSz (szR r v)) := by
  induction r using Rx.ind with
  | h o s l ih =>
  intro v hok hv
  obtain ⟨hs, hn, hl⟩ := ok_sub hok
  unfold maxLen at hs hn
  rw [encX_mk]
  refine Fn.intro' [(0, .agg [.int o, str s, .lst (l.map encX)]), (1, .int v)] 2 47 Try.func64 (by kernel_rfl) rfl rfl rfl rfl rfl ?_
  refine goB ?_
  refine AWp.loopP (J := fun x : Nat × Nat × Nat => x.1 ≤ l.length ∧ x.2.1 ≤ 121 ∧ x.2.2 ≤ 13 ∧ szL l v (1, v) = szL (l.drop x.1) v x.2) (fun x => [(8, .int x.1), (6, .int x.2.1), (7, .int x.2.2)]) (fun x => l.length - x.1) (0, 1, v) ⟨Nat.zero_le _, by simp, hv, rfl⟩ .wk ?_
  rintro ⟨k, n, d⟩ ⟨hk, h1, h2, he⟩
  simp only at hk h1 h2 he ⊢
  refine goB ?_
  refine ifA (fun hd => ?_) (fun hd => ?_)
  · simp at hd
    refine goB ?_
    have hkl : k < l.length := by omega
    have hm : l[k] ∈ l := List.getElem_mem _
    rw [List.drop_eq_getElem_cons hkl, szL, if_pos ⟨by simp only; omega, by omega⟩] at he
    rcases hx : l[k] with ⟨o1, s1, l1⟩
    have ih1 := ih _ hm (v + 1) (hl _ hm) (by omega)
    have hle := szR_le l[k] (v + 1)
    have hdp := szR_deep l[k] (v + 1) (by omega)
    rw [hx] at ih1 hle hdp he
    rw [encX_mk] at ih1
    refine ARun.q1 rfl rfl (ql_indexAddr_lst rfl rfl Try.underlying22 (by omega) (e := .agg [.int o1, str s1, .lst (l1.map encX)]) (by simp [hkl, hx, encX_mk]) (by kernel_rfl)) ?_
    refine goB ?_
    rw [wrap_succ (by omega)]
    refine callA (ih1) ?_
    simp only [encSz]
    refine goB ?_
    rw [wrap_id (x := (n : Int) + ((szR (Rx.mk o1 s1 l1) (v + 1)).1 : Int)) (by omega) (by omega), wrap_succ (by omega)]
    have e1 : (n : Int) + ((szR (Rx.mk o1 s1 l1) (v + 1)).1 : Int) = ((n + (szR (Rx.mk o1 s1 l1) (v + 1)).1 : Nat) : Int) := by omega
    have e2 : max (d : Int) ((szR (Rx.mk o1 s1 l1) (v + 1)).2 : Int) = ((max d (szR (Rx.mk o1 s1 l1) (v + 1)).2 : Nat) : Int) := by omega
    rw [e1, e2]
    exact ⟨(k + 1, n + (szR (Rx.mk o1 s1 l1) (v + 1)).1, max d (szR (Rx.mk o1 s1 l1) (v + 1)).2), ⟨by simp only; omega, by simp only; omega, by simp only; omega, he⟩, by simp only; omega, .wk⟩
  simp at hd
  refine goB ?_
  have hf : szL (l.drop k) v (n, d) = (n, d) := by
    by_cases hkl : k < l.length
    · rw [List.drop_eq_getElem_cons hkl, szL, if_neg (by
        simp only
        intro ⟨h3, h4⟩
        exact absurd (hd hkl (by omega)) (by omega))]
    · rw [List.drop_eq_nil_of_le (by omega), szL]
  rw [hf] at he
  have e3 : min (n : Int) 61 = ((min n 61 : Nat) : Int) := by omega
  exact Ret.data rfl (by simp only [packA, lk, List.map, if_true]; rw [szR, he]; simp [encSz, e3, packA, lk]) (.tup fun c hc => by
    simp only [List.mem_cons, List.not_mem_nil, or_false] at hc
    rcases hc with rfl | rfl <;> exact .base _)
end Go.Ab
