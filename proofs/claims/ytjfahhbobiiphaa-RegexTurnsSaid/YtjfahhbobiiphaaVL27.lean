/- Part of the proof. -/
import Derived.Test.YtjfahhbobiiphaaYR
import Derived.Test.YtjfahhbobiiphaaXO
set_option linter.unusedSimpArgs false
set_option linter.unusedVariables false
set_option maxHeartbeats 4000000
namespace Go.Ab
open Go Go.Ab Go.Proofs Go.Ab.Ty

/-! ### the laws of equal expressions -/
theorem lb_of {c : UInt8} (h : okB c) : ∃ a : Fin 95, lb a = c := by
  refine ⟨⟨c.toNat - 32, by unfold okB at h; omega⟩, ?_⟩
  show UInt8.ofNat (32 + (c.toNat - 32)) = c
  rw [show 32 + (c.toNat - 32) = c.toNat by unfold okB at h; omega]
  exact UInt8.ofNat_toNat
@[simp] theorem Pu_lst2X (o o' : Int) (S S' : ByteArray) (l l' : List Rx) : Pu (.lst [.agg [.int o, str S, .lst (l.map encX)], .agg [.int o', str S', .lst (l'.map encX)]]) := by
  have := Pu_mapX [.mk o S l, .mk o' S' l']
  rwa [List.map_cons, List.map_cons, List.map_nil, encX_mk, encX_mk] at this
theorem tw_of {t : ByteArray} (h : isTx t) : ∃ W : Wd, t = tw W := by
  obtain ⟨_, h⟩ := h
  have go : ∀ l : List UInt8, (∀ c ∈ l, okB c) → ∃ W : Wd, W.map lb = l := by
    intro l
    induction l with
    | nil => intro _; exact ⟨[], rfl⟩
    | cons c l ih =>
      intro hl
      obtain ⟨W, hW⟩ := ih fun d hd => hl d (by simp [hd])
      obtain ⟨a, ha⟩ := lb_of (hl c (by simp))
      exact ⟨a :: W, by rw [List.map_cons, ha, hW]⟩
  obtain ⟨W, hW⟩ := go t.data.toList fun c hc => by
    obtain ⟨i, hi, rfl⟩ := List.getElem_of_mem hc
    exact h i (by rw [Array.length_toList] at hi; exact hi)
  refine ⟨W, ?_⟩
  unfold tw
  rw [hW]
theorem M_tw {t : ByteArray} (h : isTx t) : ∃ W : Wd, ∀ r : Rx, r.wf → (M t r 0 t.size ↔ lng r W) := by
  obtain ⟨W, rfl⟩ := tw_of h
  exact ⟨W, fun r hr => by rw [tw_size]; exact M_lng0 W r hr⟩
theorem Rx.cnt_le80 {r : Rx} (h : smallX r) : r.cnt ≤ 1000000000 := by have := h.1; omega
theorem eqV_err {a b : Rx} (ha : a.valid) (hb : b.valid) : (eqV a b).2 = 0 ∨ (eqV a b).2 = 2 := by
  unfold eqV
  rw [if_pos ⟨ha, hb⟩]
  split
  · exact .inl rfl
  · exact .inr rfl
theorem eqV_bad {a b : Rx} (h : (eqV a b).2 = 2) : (eqV a b).1 = false := by
  unfold eqV at h ⊢
  split
  · split
    · rename_i h1 _ _ _ _ _ _
      rw [if_pos h1] at h
      simp_all
    · rfl
  · rfl
theorem eqV_form {a b : Rx} (h : ¬ (a.valid ∧ b.valid)) : eqV a b = (false, 4) := if_neg h
open Classical in
theorem law_alike (a b : Rx) (ha : a.ok) (hb : b.ok) (L : List ByteArray) : Fn Try.prog 11 [encX a, encX b, .lst (L.map str)] (.bool true) := by
  have i1 := small_ok [a, b] (Nat.le_of_lt (by decide : 2 < maxLen)) (by simp [ha, hb])
  have i2 := refValid_ok a ha
  have i3 := refValid_ok b hb
  have hsm : (∀ x ∈ [a, b], smallX x) → a.cnt ≤ 80 ∧ b.cnt ≤ 80 := fun h => ⟨(h a (by simp)).1, (h b (by simp)).1⟩
  have j1 := fun h : a.cnt ≤ 80 ∧ b.cnt ≤ 80 => equal_ok2 a b ha hb (by omega) (by omega)
  have j2 := fun h : a.cnt ≤ 80 ∧ b.cnt ≤ 80 => equal_ok2 b a hb ha (by omega) (by omega)
  have j3 := fun h : a.cnt ≤ 80 ∧ b.cnt ≤ 80 => equal_ok2 a a ha ha (by omega) (by omega)
  have j4 := fun t : ByteArray => refText_ok t
  have j5 := fun (h : a.cnt ≤ 80 ∧ b.cnt ≤ 80) (t : ByteArray) => matches_ok a ha (by omega) t
  have j6 := fun (h : a.cnt ≤ 80 ∧ b.cnt ≤ 80) (t : ByteArray) => matches_ok b hb (by omega) t
  have j0 := awake_true
  have h1 : a.valid → b.valid → (eqV a b).2 = 0 → (eqV b a).2 = 0 → (eqV a b).1 = (eqV b a).1 := fun v1 v2 e1 e2 => by
    have k1 := eqV_ok v1 v2 e1
    have k2 := eqV_ok v2 v1 e2
    refine bool_iff ?_
    rw [k1, k2]
    exact ⟨fun h w => (h w).symm, fun h w => (h w).symm⟩
  have h2 : a.valid → (eqV a a).2 = 0 → (eqV a a).1 = true := fun v1 e1 => (eqV_ok v1 v1 e1).2 fun w => Iff.rfl
  have h3 : a.valid → b.valid → (eqV a b).2 = 0 → (eqV a b).1 = true → ∀ t, isTx t → matA a t = matA b t ∧ fit a t := fun v1 v2 e1 e2 t ht => by
    have k1 := (eqV_ok v1 v2 e1).1 e2
    obtain ⟨W, hW⟩ := M_tw ht
    have m1 := hW a v1.2
    have m2 := hW b v2.2
    have f1 : fit a t := ⟨v1, ht⟩
    have f2 : fit b t := ⟨v2, ht⟩
    refine ⟨?_, f1⟩
    unfold matA
    rw [if_pos f1, if_pos f2]
    simp only [f1, f2, true_and, m1, m2, k1 W]
  generalize eqV a b = v1 at *
  generalize eqV b a = v2 at *
  generalize eqV a a = v3 at *
  obtain ⟨x1, e1⟩ := v1
  obtain ⟨x2, e2⟩ := v2
  obtain ⟨x3, e3⟩ := v3
  simp only at j1 j2 j3 h1 h2 h3
  unfold matA at j5 j6 h3
  obtain ⟨o, s, l⟩ := a
  obtain ⟨o', s', l'⟩ := b
  rw [List.map_cons, List.map_cons, List.map_nil] at i1
  simp only [encX_mk] at i1 i2 i3 j1 j2 j3 j5 j6 ⊢
  refine Fn.intro' [(0, .agg [.int o, str s, .lst (l.map encX)]), (1, .agg [.int o', str s', .lst (l'.map encX)]), (2, .lst (L.map str))] 3 132 Try.func11 (by kernel_rfl) rfl rfl rfl rfl rfl ?_
  refine goA ?_
  refine bslA Try.underlying22 sz24 ?_
  refine callA (i1) ?_
  refine goB ?_
  refine gcallA (i := fun hg => i2) (hr := ?_)
  refine goB ?_
  refine gcallA (i := fun hg => i3) (hr := ?_)
  refine goB ?_
  refine ifA (fun q1 => ?_) (fun q1 => ?_)
  · refine goB ?_
    exact Ret.bool rfl (by simp)
  simp at q1
  have v1 := q1.1.2
  have v2 := q1.2
  have h80 : (Rx.mk o s l).cnt ≤ 80 ∧ (Rx.mk o' s' l').cnt ≤ 80 := ⟨q1.1.1.1.1.1, q1.1.1.1.2.1⟩
  have hL := q1.1.1.2
  have j1 := j1 h80
  have j2 := j2 h80
  have j3 := j3 h80
  have j5 := j5 h80
  have j6 := j6 h80
  have h1 := h1 v1 v2
  have h2 := h2 v1
  have h3 := h3 v1 v2
  refine goB ?_
  refine callA (j1) ?_
  refine goB ?_
  refine callA (j2) ?_
  refine goB ?_
  refine callA (j3) ?_
  refine goB ?_
  refine ifA (fun q2 => ?_) (fun q2 => ?_)
  · exfalso
    simp at q2
    rcases q2 with ⟨⟨a1, a2⟩, a3⟩ | ⟨a1, a2⟩
    · exact a3 (h1 a1 a2)
    · rw [h2 a1] at a2; cases a2
  refine goB ?_
  refine ifA (fun q3 => ?_) (fun q3 => ?_)
  · refine goB ?_
    refine callA (j0) ?_
    refine goB ?_
    exact Ret.bool rfl (by simp)
  have q3 : e1 = 0 ∧ x1 = true := by simpa using q3
  obtain ⟨rfl, rfl⟩ := q3
  have h3 := h3 rfl rfl
  clear j1 j2 j3 i1 i2 i3 h1 h2 q1
  refine goB ?_
  refine keA [2, 3, 4, 13] ?_
  refine AWp.loopP (J := fun k : Nat => k ≤ L.length) (fun k => [(13, .int k)]) (fun k => L.length - k) 0 (Nat.zero_le _) .wk ?_
  intro k hk
  refine goB ?_
  refine ifA (fun q5 => ?_) (fun q5 => ?_)
  · have q5 := of_decide_eq_true q5
    have hk2 : k < L.length := by omega
    have hg : nth default L (k : Int) = L[k] := nth_eq hk2
    have j4 := j4 L[k]
    have j5 := j5 L[k]
    have j6 := j6 L[k]
    have h3 := h3 L[k]
    refine goB ?_
    rw [hg]
    refine gqA (h := fun hg => ql_idxI (l := L) (by simp +decide only [go_sem] <;> rfl) (by simp +decide only [go_sem] <;> rfl) Try.underlying50 (by omega) (by simp; omega) (by kernel_rfl)) (hr := ?_)
    rw [hg]
    refine goB ?_
    refine gcallA (i := fun hg => j4) (hr := ?_)
    refine goB ?_
    refine ifA (fun q6 => ?_) (fun q6 => ?_)
    · refine goB ?_
      rw [wrap_succ (by omega)]
      exact ⟨k + 1, by omega, by omega, .wk⟩
    have q6 : L[k].size ≤ 50 ∧ isTx L[k] := by
      simp at q6
      exact ⟨by omega, q6.2⟩
    obtain ⟨h4, h5⟩ := h3 q6.2
    rw [← h4] at j6
    rw [if_pos h5] at j5 j6
    generalize decide (fit (Rx.mk o s l) L[k] ∧ M L[k] (Rx.mk o s l) 0 L[k].size) = bA at j5 j6
    clear h4 h3
    refine keA [2, 3, 4, 13] ?_
    refine goB ?_
    refine drA (k := 10) follows (hr := ?_)
    refine goB ?_
    rw [hg]
    refine callA (j5) ?_
    refine goB ?_
    refine drA (k := 10) follows (hr := ?_)
    refine goB ?_
    rw [hg]
    refine callA (j6) ?_
    refine goB ?_
    refine ifA (fun q7 => ?_) (fun q7 => ?_)
    · exfalso
      simp at q7
    refine goB ?_
    rw [wrap_succ (by omega)]
    exact ⟨k + 1, by omega, by omega, .wk⟩
  refine goB ?_
  refine callA (j0) ?_
  refine goB ?_
  exact Ret.bool rfl (by simp)
end Go.Ab
