/- Part of the proof. -/
import Derived.Test.YtjfahhbobiiphaaXE
set_option linter.unusedSimpArgs false
set_option linter.unusedVariables false
set_option maxHeartbeats 4000000
namespace Go.Ab
open Go Go.Ab Go.Proofs Go.Ab.Ty

open Classical in
noncomputable def firstI {α : Type} (p : α → Prop) : List α → Nat → Int
  | [], _ => -1
  | x :: l, i => if p x then i else firstI p l (i + 1)
theorem firstI_ge {α : Type} (p : α → Prop) : ∀ (l : List α) (i : Nat), 0 ≤ firstI p l i ↔ ∃ x ∈ l, p x
  | [], i => by simp [firstI]
  | x :: l, i => by
    rw [firstI]
    split
    · rename_i h; simp [h]
    · rename_i h; rw [firstI_ge p l (i + 1)]; simp [h]
theorem firstI_drop {α : Type} {p : α → Prop} {l : List α} {k : Nat} (h : k < l.length) : firstI p (l.drop k) k = open Classical in if p l[k] then (k : Int) else firstI p (l.drop (k + 1)) (k + 1) := by
  rw [List.drop_eq_getElem_cons h, firstI]
open Classical in
theorem indexFunc_ok {fid : FuncId} {caps : List AV} {p : Rx → Prop} {l : List Rx} (hn : l.length ≤ maxLen) (hc : ∀ c ∈ caps, Pu c) (h : ∀ x ∈ l, Fn Try.prog fid (encX x :: caps) (.bool (decide (p x)))) :
    Fn Try.prog 122 [.lst (l.map encX), .clo fid caps] (.int (firstI p l 0)) := by
  unfold maxLen at hn
  refine Fn.intro' [(0, .lst (l.map encX)), (1, .clo fid caps)] 2 19 Try.func122 (by kernel_rfl) rfl rfl rfl rfl rfl ?_
  refine goB ?_
  refine AWp.loopP (J := fun k : Nat => k ≤ l.length ∧ firstI p l 0 = firstI p (l.drop k) k) (fun k => [(8, .int k)]) (fun k => l.length - k) 0 ⟨Nat.zero_le _, rfl⟩ .wk ?_
  rintro k ⟨hk, he⟩
  refine goB ?_
  refine ifA (fun hd => ?_) (fun hd => ?_)
  · simp at hd
    refine goB ?_
    have hm : l[k] ∈ l := List.getElem_mem _
    have ih1 := h _ hm
    rw [firstI_drop hd] at he
    rcases hx : l[k] with ⟨o1, s1, l1⟩
    rw [hx] at ih1 he
    rw [encX_mk] at ih1
    refine ARun.q1 rfl rfl (ql_indexAddr_lst rfl rfl Try.underlying22 (by omega) (e := .agg [.int o1, str s1, .lst (l1.map encX)]) (by simp [hd, hx, encX_mk]) (by kernel_rfl)) ?_
    refine goB ?_
    refine ARun.q1 rfl rfl (ql_callC ih1 rfl (by simp +decide only [go_sem] <;> rfl) rfl (by simpa using hc)) ?_
    refine goB ?_
    refine ifA (fun hq => ?_) (fun hq => ?_)
    · simp at hq
      rw [if_pos hq] at he
      refine goB ?_
      exact Ret.data rfl (by simp [packA, lk, he]) (.base _)
    · simp at hq
      rw [if_neg hq] at he
      refine goB ?_
      rw [wrap_succ (by omega)]
      exact ⟨k + 1, ⟨by omega, he⟩, by omega, .wk⟩
  simp at hd
  refine goB ?_
  exact Ret.data rfl (by rw [he, List.drop_eq_nil_of_le (by omega)]; rfl) (.base _)
open Classical in
theorem containsFunc_ok {fid : FuncId} {caps : List AV} {p : Rx → Prop} {l : List Rx} (hn : l.length ≤ maxLen) (hc : ∀ c ∈ caps, Pu c) (h : ∀ x ∈ l, Fn Try.prog fid (encX x :: caps) (.bool (decide (p x)))) :
    Fn Try.prog 91 [.lst (l.map encX), .clo fid caps] (.bool (decide (∃ x ∈ l, p x))) := by
  have i1 := indexFunc_ok hn hc h
  refine Fn.intro' [(0, .lst (l.map encX)), (1, .clo fid caps)] 2 9 Try.func91 (by kernel_rfl) rfl rfl rfl rfl rfl ?_
  refine goB ?_
  refine ARun.q1 rfl rfl (ql_callC i1 rfl (by simp +decide only [go_sem] <;> rfl) (by simp +decide only [go_sem] <;> rfl) (by simpa using Pu.clo hc)) ?_
  refine goB ?_
  exact Ret.bool rfl (by rw [decide_eq_true_iff, decide_eq_true_iff, ← firstI_ge p l 0])
theorem kinds_spec (o : Int) : ((getM kinds o).isSome = true ∧ (getM kinds o).getD 0 = 0 ∧ (o = 1 ∨ o = 2 ∨ o = 3)) ∨ ((getM kinds o).isSome = true ∧ (getM kinds o).getD 0 = 2 ∧ (o = 4 ∨ o = 5 ∨ o = 7)) ∨
    ((getM kinds o).isSome = true ∧ (getM kinds o).getD 0 = 1 ∧ (o = 6 ∨ o = 8)) ∨ ((getM kinds o).isSome = false ∧ o ≠ 1 ∧ o ≠ 2 ∧ o ≠ 3 ∧ o ≠ 4 ∧ o ≠ 5 ∧ o ≠ 6 ∧ o ≠ 7 ∧ o ≠ 8) := by
  by_cases h : o = 1 ∨ o = 2 ∨ o = 3 ∨ o = 4 ∨ o = 5 ∨ o = 6 ∨ o = 7 ∨ o = 8
  · rcases h with rfl | rfl | rfl | rfl | rfl | rfl | rfl | rfl <;> simp [kinds, getM]
  · right; right; right
    refine ⟨?_, by omega⟩
    simp only [kinds, getM]
    rw [if_neg (by omega), if_neg (by omega), if_neg (by omega), if_neg (by omega), if_neg (by omega), if_neg (by omega), if_neg (by omega), if_neg (by omega)]
    rfl
open Classical in
theorem shaped_ok (r : Rx) (hok : r.ok) : Fn Try.prog 78 [encX r] (.bool (decide r.wf)) := by
  induction r using Rx.ind with
  | h o s l ih =>
  obtain ⟨hs, hn, hl⟩ := ok_sub hok
  have hsub : ∀ x ∈ l, Fn Try.prog 106 [encX x] (.bool (@decide (¬ x.wf) (propDecidable _))) := by
    intro x hx
    have i1 := ih x hx (hl x hx)
    obtain ⟨o1, s1, l1⟩ := x
    rw [encX_mk] at i1 ⊢
    refine Fn.intro' [(0, .agg [.int o1, str s1, .lst (l1.map encX)])] 1 6 Try.func106 (by kernel_rfl) rfl rfl rfl rfl rfl ?_
    refine goB ?_
    refine callA (i1) ?_
    refine goB ?_
    exact Ret.bool rfl (by simp)
  have hcf := containsFunc_ok (caps := []) (p := fun x => ¬ x.wf) hn (by simp) hsub
  have hko := kindOf_ok o
  unfold maxLen at hs hn
  rw [encX_mk]
  refine Fn.intro' [(0, .agg [.int o, str s, .lst (l.map encX)])] 1 99 Try.func78 (by kernel_rfl) rfl rfl rfl rfl rfl ?_
  refine goB ?_
  have hsp := kinds_spec o
  generalize hK : (getM kinds o).getD 0 = K at hsp hko
  generalize hB : (getM kinds o).isSome = B at hsp hko
  clear hK hB
  refine callA (hko) ?_
  refine goB ?_
  refine ifA (fun h1 => ?_) (fun h1 => ?_)
  · simp [-List.length_eq_zero_iff] at h1
    refine goB ?_
    exact Ret.ff rfl (by
      rw [wf_sub]
      rintro ⟨hno, _⟩
      unfold nodeOk at hno
      split at hno <;> rcases hsp with hsp | hsp | hsp | hsp <;> (obtain ⟨rfl, hsp⟩ := hsp; simp [-List.length_eq_zero_iff] at h1 <;> omega))
  simp [-List.length_eq_zero_iff] at h1
  refine goB ?_
  refine ifA (fun h2 => ?_) (fun h2 => ?_)
  · simp at h2
    refine goB ?_
    exact Ret.ff rfl (by
      rw [wf_sub]
      rintro ⟨hno, _⟩
      unfold nodeOk at hno
      split at hno <;> omega)
  simp at h2
  refine goB ?_
  refine keA [0, 1, 2, 62, 63] ?_
  refine AWp.loopP (J := fun k : Nat => k ≤ s.size ∧ ∀ i, i < s.size → i < k → chOk s i) (fun k => [(63, .int k)]) (fun k => s.size - k) 0 ⟨Nat.zero_le _, fun i h h' => by omega⟩ .wk ?_
  rintro k ⟨hk, he⟩
  refine goB ?_
  refine ifA (fun hd => ?_) (fun hd => ?_)
  · simp at hd
    have hk1 : k - 1 < s.size := by omega
    refine goB ?_
    refine drA (k := 28) follows (hr := ?_)
    refine goB ?_
    refine ARun.q1 rfl rfl (ql_index_str rfl rfl Try.underlying9 (by omega) (bs_get (i := k) (by omega))) ?_
    refine goB ?_
    refine gqA (h := fun hg => ql_index_str (by simp +decide only [go_sem] <;> rfl) (by simp +decide only [go_sem] <;> rfl) Try.underlying9 (by omega) (bs_get (i := k) (by omega))) (hr := ?_)
    refine goB ?_
    refine gqA (h := fun hg => ql_index_str (by simp +decide only [go_sem] <;> rfl) (by simp +decide only [go_sem] <;> rfl) Try.underlying9 (by omega) (bs_get (i := k) (by omega))) (hr := ?_)
    refine goB ?_
    refine gqA (h := fun hg => ql_index_str (by simp +decide only [go_sem] <;> rfl) (by simp +decide only [go_sem] <;> rfl) Try.underlying9 (by simp [gc, allL] at hg; rw [wrap_id (by omega) (by omega)]; omega) (by simp [gc, allL] at hg; rw [wrap_id (by omega) (by omega)]; exact bs_getI (by omega) hk1)) (hr := ?_)
    refine goB ?_
    refine ifA (fun hq => ?_) (fun hq => ?_)
    · simp at hq
      refine goB ?_
      exact Ret.ff rfl (by
        rw [wf_sub]
        rintro ⟨hno, _⟩
        unfold nodeOk at hno
        split at hno
        · have := hno.2.2.2 k hd hd
          unfold okB at this
          rcases hq with hq | ⟨hq, hq2⟩
          · have := this.1; omega
          · have := this.2 hq; omega
        · omega)
    simp at hq
    refine goB ?_
    rw [wrap_succ (by omega)]
    refine ⟨k + 1, ⟨by omega, fun i h hi => ?_⟩, by omega, .wk⟩
    by_cases e : i = k
    · subst e; exact fun _ => ⟨by unfold okB; omega, fun h0 => by have := hq.2 h0; omega⟩
    · exact he i h (by omega)
  simp at hd
  refine goB ?_
  refine ARun.q1 rfl rfl (ql_callC hcf rfl (by simp +decide only [go_sem] <;> rfl) rfl (by simpa using Pu.clo (by simp))) ?_
  refine goB ?_
  exact Ret.bool rfl (by
    rw [decide_eq_true_iff, wf_sub]
    simp
    intro _
    unfold nodeOk
    split
    · rcases hsp with hsp | hsp | hsp | hsp
      · exact ⟨by have := h1.1.1.2 hsp.2.1; omega, by omega, by omega, fun i hi => he i hi (by omega)⟩
      all_goals omega
    · have hz : s.size = 0 := by omega
      refine ⟨hz, ?_⟩
      rcases hsp with hsp | hsp | hsp | hsp
      · have := h1.1.1.2 hsp.2.1; omega
      · have := h1.2 hsp.2.1; omega
      · have := h1.1.2 hsp.2.1; omega
      · have := h1.1.1.1; simp [hsp.1] at this)
open Classical in
theorem valid_ok (r : Rx) (hok : r.ok) (hc : r.cnt ≤ 1000000000) : Fn Try.prog 40 [encX r] (.bool (decide r.valid)) := by
  have i1 := size_ok r hok hc
  have i2 := shaped_ok r hok
  have hdef : r.valid ↔ (r.cnt ≤ 60 ∧ r.dep ≤ 12) ∧ r.wf := Iff.rfl
  generalize r.cnt = n at i1 hdef
  generalize r.dep = d at i1 hdef
  obtain ⟨o, s, l⟩ := r
  rw [encX_mk] at i1 i2 ⊢
  refine Fn.intro' [(0, .agg [.int o, str s, .lst (l.map encX)])] 1 20 Try.func40 (by kernel_rfl) rfl rfl rfl rfl rfl ?_
  refine goB ?_
  refine callA (i1) ?_
  simp only [encSz]
  refine goB ?_
  refine gcallA (i := fun hg => i2) (hr := ?_)
  refine goB ?_
  exact Ret.bool rfl (by
    rw [decide_eq_true_iff, hdef]
    simp
    intro _; omega)
end Go.Ab
