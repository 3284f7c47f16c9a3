/- Part of the proof. -/
import Derived.Test.YtjfahhbobiiphaaXF
set_option linter.unusedSimpArgs false
set_option linter.unusedVariables false
set_option maxHeartbeats 4000000
namespace Go.Ab
open Go Go.Ab Go.Proofs Go.Ab.Ty

def opN (o : Int) (ps : List Prop) : Prop := o = 2 ∨ o = 6 ∨ (o = 4 ∨ o = 7) ∧ (∀ p ∈ ps, p) ∨ o = 5 ∧ (∃ p ∈ ps, p) ∨ o = 8 ∧ ¬ ps.headD False
mutual
def Rx.nul : Rx → Prop
  | .mk o _ l => opN o (nuls l)
def nuls : List Rx → List Prop
  | [] => []
  | r :: l => r.nul :: nuls l
end
theorem nuls_map : ∀ l : List Rx, nuls l = l.map Rx.nul
  | [] => rfl
  | r :: l => by rw [nuls, nuls_map l]; rfl
theorem nul_mk (o : Int) (s : ByteArray) (l : List Rx) : (Rx.mk o s l).nul ↔ o = 2 ∨ o = 6 ∨ (o = 4 ∨ o = 7) ∧ (∀ x ∈ l, x.nul) ∨ o = 5 ∧ (∃ x ∈ l, x.nul) ∨ o = 8 ∧ ¬ (l.map Rx.nul).headD False := by
  rw [Rx.nul, nuls_map]
  unfold opN
  simp only [List.mem_map]
  constructor
  · rintro (h | h | h | h | h)
    · exact .inl h
    · exact .inr (.inl h)
    · exact .inr (.inr (.inl ⟨h.1, fun x hx => h.2 _ ⟨x, hx, rfl⟩⟩))
    · obtain ⟨h1, p, ⟨x, hx, rfl⟩, h2⟩ := h
      exact .inr (.inr (.inr (.inl ⟨h1, x, hx, h2⟩)))
    · exact .inr (.inr (.inr (.inr h)))
  · rintro (h | h | h | h | h)
    · exact .inl h
    · exact .inr (.inl h)
    · exact .inr (.inr (.inl ⟨h.1, fun p ⟨x, hx, e⟩ => e ▸ h.2 x hx⟩))
    · obtain ⟨h1, x, hx, h2⟩ := h
      exact .inr (.inr (.inr (.inl ⟨h1, _, ⟨x, hx, rfl⟩, h2⟩)))
    · exact .inr (.inr (.inr (.inr h)))
theorem nul8 {s : ByteArray} {x : Rx} : (Rx.mk 8 s [x]).nul ↔ ¬ x.nul := by rw [nul_mk]; simp
theorem wf1 {o : Int} {S : ByteArray} {l : List Rx} (hno : nodeOk o S l.length) (h : o = 6 ∨ o = 8) : ∃ x, l = [x] :=
  List.length_eq_one_iff.1 (by unfold nodeOk at hno; rw [if_neg (by omega)] at hno; omega)
open Classical in
theorem nullable_ok (r : Rx) (hok : r.ok) (hwf : r.wf) : Fn Try.prog 59 [encX r] (.bool (decide r.nul)) := by
  induction r using Rx.ind with
  | h o s l ih =>
  obtain ⟨hs, hn, hl⟩ := ok_sub hok
  obtain ⟨hno, hlw⟩ := wf_sub.1 hwf
  have hsub : ∀ x ∈ l, Fn Try.prog 90 [encX x] (.bool (@decide (¬ x.nul) (propDecidable _))) := by
    intro x hx
    have i1 := ih x hx (hl x hx) (hlw x hx)
    obtain ⟨o1, s1, l1⟩ := x
    rw [encX_mk] at i1 ⊢
    refine Fn.intro' [(0, .agg [.int o1, str s1, .lst (l1.map encX)])] 1 6 Try.func90 (by kernel_rfl) rfl rfl rfl rfl rfl ?_
    refine goB ?_
    refine callA (i1) ?_
    refine goB ?_
    exact Ret.bool rfl (by simp)
  have hcf := containsFunc_ok (caps := []) (p := fun x => ¬ x.nul) hn (by simp) hsub
  have hcg := containsFunc_ok (caps := []) (p := fun x => x.nul) (l := l) hn (by simp) (fun x hx => ih x hx (hl x hx) (hlw x hx))
  unfold maxLen at hs hn
  rw [encX_mk]
  refine Fn.intro' [(0, .agg [.int o, str s, .lst (l.map encX)])] 1 30 Try.func59 (by kernel_rfl) rfl rfl rfl rfl rfl ?_
  refine goB ?_
  refine ifA (fun g2 => ?_) (fun g2 => ?_)
  · simp at g2
    refine goB ?_
    refine ifA (fun g => ?_) (fun g => ?_)
    · refine goB ?_
      exact Ret.tt rfl ((nul_mk o s l).2 (.inl g2))
    simp at g; omega
  simp at g2
  refine goB ?_
  refine ifA (fun g6 => ?_) (fun g6 => ?_)
  · simp at g6
    refine goB ?_
    exact Ret.tt rfl ((nul_mk o s l).2 (.inr (.inl g6)))
  simp at g6
  refine goB ?_
  refine keA [1, 2, 3, 5, 9] ?_
  refine AWp.joinP [(9, .bool (decide (o = 4 ∨ o = 7)))] ?_ ?_
  · refine ifA (fun ho => ?_) (fun ho => ?_)
    · refine goB ?_
      exact .env' (by simp +decide only [go_sem]; simp at ho; simp [ho, Le.refl])
    refine goB ?_
    exact .env' (by simp +decide only [go_sem]; simp at ho; simp [ho, Le.refl])
  refine goB ?_
  refine ifA (fun g47 => ?_) (fun g47 => ?_)
  · simp at g47
    refine goB ?_
    refine ARun.q1 rfl rfl (ql_callC hcf rfl (by simp +decide only [go_sem] <;> rfl) rfl (by simpa using Pu.clo (by simp))) ?_
    refine goB ?_
    exact Ret.bool rfl (by rw [decide_eq_true_iff, nul_mk]; simp; grind)
  simp at g47
  refine goB ?_
  refine ifA (fun g5 => ?_) (fun g5 => ?_)
  · simp at g5
    refine goB ?_
    refine ARun.q1 rfl rfl (ql_callC hcg rfl (by simp +decide only [go_sem] <;> rfl) rfl (by simpa using Pu.clo (by simp))) ?_
    refine goB ?_
    exact Ret.bool rfl (by rw [decide_eq_true_iff, nul_mk]; simp; grind)
  simp at g5
  refine goB ?_
  refine ifA (fun g8 => ?_) (fun g8 => ?_)
  · simp at g8
    obtain ⟨x, rfl⟩ := wf1 hno (.inr g8)
    have i1 := hsub x (by simp)
    rcases hx : x with ⟨o1, s1, l1⟩
    rw [hx, encX_mk] at i1
    refine goB ?_
    refine ARun.q1 rfl rfl (ql_indexAddr_lst rfl rfl Try.underlying22 (by omega) (e := .agg [.int o1, str s1, .lst (l1.map encX)]) (by simp [hx, encX_mk]) (by kernel_rfl)) ?_
    refine goB ?_
    refine callA (i1) ?_
    refine goB ?_
    exact Ret.bool rfl (by subst hx g8; simp only [decide_eq_true_eq]; exact nul8.symm)
  simp at g8
  refine goB ?_
  exact Ret.ff rfl (by rw [nul_mk]; omega)
open Classical in
theorem refNullable_ok (r : Rx) (hok : r.ok) (hwf : r.wf) : Fn Try.prog 60 [encX r] (.bool (decide r.nul)) := by
  induction r using Rx.ind with
  | h o s l ih =>
  obtain ⟨hs, hn, hl⟩ := ok_sub hok
  obtain ⟨hno, hlw⟩ := wf_sub.1 hwf
  unfold maxLen at hs hn
  rw [encX_mk]
  refine Fn.intro' [(0, .agg [.int o, str s, .lst (l.map encX)])] 1 50 Try.func60 (by kernel_rfl) rfl rfl rfl rfl rfl ?_
  refine goB ?_
  refine ifA (fun g2 => ?_) (fun g2 => ?_)
  · simp at g2
    refine goB ?_
    refine ifA (fun g => ?_) (fun g => ?_)
    · refine goB ?_
      exact Ret.tt rfl ((nul_mk o s l).2 (.inl g2))
    simp at g; omega
  simp at g2
  refine goB ?_
  refine ifA (fun g6 => ?_) (fun g6 => ?_)
  · simp at g6
    refine goB ?_
    exact Ret.tt rfl ((nul_mk o s l).2 (.inr (.inl g6)))
  simp at g6
  refine goB ?_
  refine ifA (fun g8 => ?_) (fun g8 => ?_)
  · simp at g8
    obtain ⟨x, rfl⟩ := wf1 hno (.inr g8)
    have i1 := ih x (by simp) (hl x (by simp)) (hlw x (by simp))
    rcases hx : x with ⟨o1, s1, l1⟩
    rw [hx, encX_mk] at i1
    refine goB ?_
    refine ARun.q1 rfl rfl (ql_indexAddr_lst rfl rfl Try.underlying22 (by omega) (e := .agg [.int o1, str s1, .lst (l1.map encX)]) (by simp [hx, encX_mk]) (by kernel_rfl)) ?_
    refine goB ?_
    refine callA (i1) ?_
    refine goB ?_
    exact Ret.bool rfl (by subst hx g8; simp [nul8])
  simp at g8
  refine goB ?_
  refine keA [1, 2, 6, 18] ?_
  refine AWp.joinP [(18, .bool (decide (o = 4 ∨ o = 7)))] ?_ ?_
  · refine ifA (fun ho => ?_) (fun ho => ?_)
    · refine goB ?_
      exact .env' (by simp +decide only [go_sem]; simp at ho; simp [ho, Le.refl])
    refine goB ?_
    exact .env' (by simp +decide only [go_sem]; simp at ho; simp [ho, Le.refl])
  refine goB ?_
  refine ifA (fun g47 => ?_) (fun g47 => ?_)
  · simp at g47
    refine goB ?_
    refine AWp.loopP (J := fun k : Nat => k ≤ l.length ∧ ∀ i, ∀ h : i < l.length, i < k → (l[i]).nul) (fun k => [(3, .int k)]) (fun k => l.length - k) 0 ⟨Nat.zero_le _, fun i h h' => by omega⟩ .wk ?_
    rintro k ⟨hk, he⟩
    refine goB ?_
    refine ifA (fun hd => ?_) (fun hd => ?_)
    · simp at hd
      refine goB ?_
      have hm : l[k] ∈ l := List.getElem_mem _
      have ih1 := ih _ hm (hl _ hm) (hlw _ hm)
      rcases hx : l[k] with ⟨o1, s1, l1⟩
      rw [hx, encX_mk] at ih1
      refine ARun.q1 rfl rfl (ql_indexAddr_lst rfl rfl Try.underlying22 (by omega) (e := .agg [.int o1, str s1, .lst (l1.map encX)]) (by simp [hd, hx, encX_mk]) (by kernel_rfl)) ?_
      refine goB ?_
      refine callA (ih1) ?_
      refine goB ?_
      refine ifA (fun hq => ?_) (fun hq => ?_)
      · simp at hq
        refine goB ?_
        exact Ret.ff rfl (by rw [nul_mk]; intro h; have := hx ▸ hm; grind)
      simp at hq
      refine goB ?_
      rw [wrap_succ (by omega)]
      refine ⟨k + 1, ⟨by omega, fun i h hi => ?_⟩, by omega, .wk⟩
      by_cases e : i = k
      · subst e; rw [hx]; exact hq
      · exact he i h (by omega)
    simp at hd
    refine goB ?_
    exact Ret.tt rfl ((nul_mk o s l).2 (.inr (.inr (.inl ⟨g47, fun x hx => by obtain ⟨i, hi, rfl⟩ := List.mem_iff_getElem.1 hx; exact he i hi (by omega)⟩))))
  simp at g47
  refine goB ?_
  refine ifA (fun g5 => ?_) (fun g5 => ?_)
  · simp at g5
    refine goB ?_
    refine AWp.loopP (J := fun k : Nat => k ≤ l.length ∧ ∀ i, ∀ h : i < l.length, i < k → ¬ (l[i]).nul) (fun k => [(4, .int k)]) (fun k => l.length - k) 0 ⟨Nat.zero_le _, fun i h h' => by omega⟩ .wk ?_
    rintro k ⟨hk, he⟩
    refine goB ?_
    refine ifA (fun hd => ?_) (fun hd => ?_)
    · simp at hd
      refine goB ?_
      have hm : l[k] ∈ l := List.getElem_mem _
      have ih1 := ih _ hm (hl _ hm) (hlw _ hm)
      rcases hx : l[k] with ⟨o1, s1, l1⟩
      rw [hx, encX_mk] at ih1
      refine ARun.q1 rfl rfl (ql_indexAddr_lst rfl rfl Try.underlying22 (by omega) (e := .agg [.int o1, str s1, .lst (l1.map encX)]) (by simp [hd, hx, encX_mk]) (by kernel_rfl)) ?_
      refine goB ?_
      refine callA (ih1) ?_
      refine goB ?_
      refine ifA (fun hq => ?_) (fun hq => ?_)
      · simp at hq
        refine goB ?_
        exact Ret.tt rfl ((nul_mk o s l).2 (.inr (.inr (.inr (.inl ⟨g5, l[k], hm, by rw [hx]; exact hq⟩)))))
      simp at hq
      refine goB ?_
      rw [wrap_succ (by omega)]
      refine ⟨k + 1, ⟨by omega, fun i h hi => ?_⟩, by omega, .wk⟩
      by_cases e : i = k
      · subst e; rw [hx]; exact hq
      · exact he i h (by omega)
    simp at hd
    refine goB ?_
    exact Ret.ff rfl (by
      rw [nul_mk]
      have : ∀ x ∈ l, ¬ x.nul := fun x hx => by obtain ⟨i, hi, rfl⟩ := List.mem_iff_getElem.1 hx; exact he i hi (by omega)
      grind)
  simp at g5
  refine goB ?_
  exact Ret.ff rfl (by rw [nul_mk]; omega)
end Go.Ab
