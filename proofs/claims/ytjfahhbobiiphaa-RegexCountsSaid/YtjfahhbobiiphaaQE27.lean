/- Part of the proof. -/
import Derived.Test.YtjfahhbobiiphaaZE
import Derived.Test.YtjfahhbobiiphaaXL
import Derived.Test.YtjfahhbobiiphaaVM27
set_option linter.unusedSimpArgs false
set_option linter.unusedVariables false
set_option maxHeartbeats 4000000
namespace Go.Ab
open Go Go.Ab Go.Proofs Go.Ab.Ty

theorem ctV_form {r : Rx} (h : ¬ r.valid) (n : Int) : ctV r n = (0, 4) := if_neg h
theorem ctV_out {r : Rx} (h : r.valid) {n : Int} (hn : n < 0 ∨ 20 < n) : ctV r n = (0, 1) := (ct_err h n).1 hn
theorem ctV_in {r : Rx} (h : r.valid) {n : Int} (hn : ¬ (n < 0 ∨ 20 < n)) : (ctV r n).2 = 2 ∨ (ctV r n).2 = 0 := by
  rcases (ct_err h n).2 with h1 | h1 | h1
  · exact .inl (by rw [h1])
  · exact .inr h1
  · exact absurd h1 hn
@[simp] theorem Pu_n1c (o : Int) (S : ByteArray) (l : List Rx) (a : Int) (A : ByteArray) : Pu (.agg [.int a, str A, .lst [.agg [.int o, str S, .lst (l.map encX)]]]) := .agg (Pu_nC (Pu_l1 (Pu_X o S l)))
open Classical in
theorem law_counts (a : Rx) (n : Int) (ha : a.ok) (hn1 : -9223372036854775808 ≤ n) (hn2 : n ≤ 9223372036854775807) : Fn Try.prog 13 [encX a, .int n] (.bool true) := by
  have i1 := small_ok [a] (Nat.le_of_lt (by decide : 1 < maxLen)) (by simp [ha])
  have i2 := refValid_ok a ha
  have j1 := fun h : a.cnt ≤ 80 => count_ok a n ha (by omega)
  have j2 := fun h : a.valid => fixed_ok a ha h
  have j5 := fun (h : a.valid) (h2 : a.fixed) => countR_ok a n h.2 h2 ha
  have k2 := refValid_ok (notR a) (ok_1 ha)
  have k3 := fun h : (notR a).valid => fixed_ok (notR a) (ok_1 ha) h
  have k4 := fun h : a.cnt ≤ 80 => count_ok (notR a) n (ok_1 ha) (by simp only [cnt_mk, cnts]; omega)
  have j0 := awake_true
  have h1 := fun h : ¬ a.valid => ctV_form h n
  have h2 := fun (h : a.valid) (h' : n < 0 ∨ 20 < n) => ctV_out h h'
  have h3 := fun (h : a.valid) (h' : ¬ (n < 0 ∨ 20 < n)) => ctV_in h h'
  have h4 := fun (h : a.valid) (h2 : a.fixed) => ct_eq h h2 n
  have h6 : a.valid → a.fixed → (notR a).valid → (notR a).fixed → ∀ N : Nat, n = N → N ≤ 7 → (ctV a n).2 = 0 → (ctV (notR a) n).2 = 0 ∧ (ctV a n).1 + (ctV (notR a) n).1 = (95 : Int) ^ N ∧ 0 ≤ (ctV a n).1 := fun q1 q2 q3 q4 N hN hN7 he => by
    subst hN
    obtain ⟨c, e1, e2⟩ := ct_not q1 q2 q3 q4 hN7 (a := (ctV a N).1) (Prod.ext rfl he)
    rw [e1]
    refine ⟨rfl, e2, ?_⟩
    unfold ctV
    rw [if_pos q1]
    split
    · exact Int.le_refl _
    · split
      · unfold ctM; split
        · exact Int.le_refl _
        · exact Int.natCast_nonneg _
      · exact Int.le_refl _
  generalize ctV a n = v1 at *
  generalize ctV (notR a) n = v3 at *
  generalize ctQ a n = v2 at *
  obtain ⟨x1, e1⟩ := v1
  obtain ⟨x2, e2⟩ := v2
  obtain ⟨x3, e3⟩ := v3
  simp only at j1 j5 k4 h1 h2 h3 h4 h6
  obtain ⟨o, s, l⟩ := a
  rw [List.map_cons, List.map_nil] at i1
  simp only [encX_mk, List.map_cons, List.map_nil, notR] at i1 i2 j1 j2 j5 k2 k3 k4 ⊢
  refine Fn.intro' [(0, .agg [.int o, str s, .lst (l.map encX)]), (1, .int n)] 2 126 Try.func13 (by kernel_rfl) rfl rfl rfl rfl rfl ?_
  refine goA ?_
  refine bslA Try.underlying22 sz24 ?_
  refine callA (i1) ?_
  refine goB ?_
  refine ifA (fun q1 => ?_) (fun q1 => ?_)
  · refine goB ?_
    exact Ret.bool rfl (by simp)
  simp at q1
  have h80 : (Rx.mk o s l).cnt ≤ 80 := q1.1
  have j1 := j1 h80
  have k4 := k4 h80
  refine goB ?_
  refine callA (j1) ?_
  refine goB ?_
  refine callA (i2) ?_
  refine goB ?_
  by_cases hv : (Rx.mk o s l).valid
  rotate_left
  · have h1 := h1 hv
    simp only [Prod.mk.injEq] at h1
    obtain ⟨rfl, rfl⟩ := h1
    refine ift_ ?_ ?_ rfl
    rotate_left
    · simp [hv]
    refine goB ?_
    refine gcallA (i := fun hg => j0) (hr := ?_)
    refine goB ?_
    exact Ret.bool rfl (by simp)
  refine iff_ ?_ ?_ rfl
  rotate_left
  · simp [hv]
  have j2 := j2 hv
  refine goB ?_
  refine callA (j2) ?_
  refine goB ?_
  by_cases hx : (Rx.mk o s l).fixed
  rotate_left
  · refine ift_ ?_ ?_ rfl
    rotate_left
    · simp [hx]
    by_cases hn : n < 0 ∨ 20 < n
    · have h2 := h2 hv hn
      simp only [Prod.mk.injEq] at h2
      obtain ⟨rfl, rfl⟩ := h2
      refine goB ?_
      refine ift_ ?_ ?_ rfl
      rotate_left
      · simp; omega
      refine goB ?_
      refine gcallA (i := fun hg => j0) (hr := ?_)
      refine goB ?_
      exact Ret.bool rfl (by simp)
    · have h3 := h3 hv hn
      refine goB ?_
      refine iff_ ?_ ?_ rfl
      rotate_left
      · simp; omega
      refine goB ?_
      refine gcallA (i := fun hg => j0) (hr := ?_)
      refine goB ?_
      exact Ret.bool rfl (by rcases h3 with rfl | rfl <;> simp)
  refine iff_ ?_ ?_ rfl
  rotate_left
  · simp [hx]
  have j5 := j5 hv hx
  have h4 := h4 hv hx
  simp only [Prod.mk.injEq] at h4
  obtain ⟨rfl, rfl⟩ := h4
  refine goB ?_
  refine callA (j5) ?_
  refine goB ?_
  refine iff_ ?_ ?_ rfl
  rotate_left
  · simp
  refine AWp.skip (z1 ?_)
  refine keF [1, 2, 5, 6] ?_
  refine goB ?_
  refine bldA pl24 zero24 ?_
  refine goB ?_
  by_cases hP : e1 ≠ 0 ∨ 7 < n
  · rw [show (bif e1 != 0 then true else decide (n > 7)) = true by rcases hP with h | h <;> simp [h]]
    refine gcallA (i := fun hg => k2) (hr := ?_)
    refine goB ?_
    refine gxA (.bool false) ?_
    refine goB ?_
    refine ift_ ?_ ?_ rfl
    rotate_left
    · simp
    refine goB ?_
    refine callA (j0) ?_
    refine goB ?_
    exact Ret.bool rfl (by simp)
  rw [show (bif e1 != 0 then true else decide (n > 7)) = false by
    have h1 : e1 = 0 := Classical.byContradiction fun h => hP (.inl h)
    have h2 : ¬ 7 < n := fun h => hP (.inr h)
    subst h1
    simp; omega]
  refine gcallA (i := fun hg => k2) (hr := ?_)
  refine goB ?_
  by_cases hv2 : (notR (.mk o s l)).valid
  rotate_left
  · rw [decide_eq_false hv2]
    refine goB ?_
    refine gxA (.bool false) ?_
    refine goB ?_
    refine ift_ ?_ ?_ rfl
    rotate_left
    · simp
    refine goB ?_
    refine callA (j0) ?_
    refine goB ?_
    exact Ret.bool rfl (by simp)
  have k3 := k3 hv2
  rw [decide_eq_true hv2]
  refine gcallA (i := fun hg => k3) (hr := ?_)
  refine goB ?_
  by_cases hx2 : (notR (.mk o s l)).fixed
  rotate_left
  · refine ift_ ?_ ?_ rfl
    rotate_left
    · simp [hx2]
    refine goB ?_
    refine callA (j0) ?_
    refine goB ?_
    exact Ret.bool rfl (by simp)
  refine iff_ ?_ ?_ rfl
  rotate_left
  · simp [hx2]
  obtain rfl : e1 = 0 := Classical.byContradiction fun h => hP (.inl h)
  have hn7 : ¬ 7 < n := fun h => hP (.inr h)
  have hn0 : ¬ (n < 0 ∨ 20 < n) := fun h => by
    have := h2 hv h
    simp only [Prod.mk.injEq] at this
    omega
  obtain ⟨N, rfl⟩ : ∃ N : Nat, n = N := ⟨n.toNat, by omega⟩
  obtain ⟨rfl, h8, h9⟩ := h6 hv hx hv2 hx2 N rfl (by omega) rfl
  refine AWp.skip (z1 ?_)
  refine keF [1, 2, 5, 6, 9] ?_
  refine (show AWp Try.prog _ _ _ ⟨[(1, .int N), (2, .ptr 0 1 0 0), (5, .int x1), (6, .int 0), (9, .ptr 1 1 0 0)], [boxX o s l, ⟨24, 3, [.agg [.int 8, str ByteArray.empty, .lst [.agg [.int o, str s, .lst (l.map encX)]]]]⟩]⟩ from ?_)
  refine goB ?_
  refine AWp.loop (J := fun j : Nat => j ≤ N) (fun j => ⟨[(1, .int N), (2, .ptr 0 1 0 0), (5, .int x1), (6, .int 0), (9, .ptr 1 1 0 0), (10, .int ((95 ^ j : Nat) : Int)), (11, .int j)], [boxX o s l, ⟨24, 3, [.agg [.int 8, str ByteArray.empty, .lst [.agg [.int o, str s, .lst (l.map encX)]]]]⟩]⟩) (fun j => N - j) 0 (Nat.zero_le _) .wf ?_
  intro j hj
  have hpw : 95 ^ j ≤ 95 ^ 7 := Nat.pow_le_pow_right (by decide) (by omega)
  have h957 : (95 : Nat) ^ 7 = 69833729609375 := by decide
  have hps : 95 ^ (j + 1) = 95 ^ j * 95 := Nat.pow_succ ..
  generalize hpj : 95 ^ j = pj at *
  refine goB ?_
  refine ifA (fun hc => ?_) (fun hc => ?_)
  · simp at hc
    have hc2 : j < N := by omega
    refine goB ?_
    rw [wrap_succ (by omega), show ((pj : Nat) : Int) * 95 = ((pj * 95 : Nat) : Int) by simp, wrap_id (x := ((pj * 95 : Nat) : Int)) (by omega) (by omega)]
    refine ⟨j + 1, hc2, by omega, ?_⟩
    rw [hps]
    exact .wf
  simp at hc
  obtain rfl : j = N := by omega
  refine goB ?_
  refine callA (k4) ?_
  refine goB ?_
  have hsum : x1 + x3 = (pj : Int) := by rw [h8, ← hpj]; simp
  rw [hsum, wrap_id (x := (pj : Int)) (by omega) (by omega)]
  refine gcallA (i := fun hg => j0) (hr := ?_)
  refine goB ?_
  exact Ret.bool rfl (by simp)
end Go.Ab
