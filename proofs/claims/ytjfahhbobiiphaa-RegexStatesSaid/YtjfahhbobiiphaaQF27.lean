/- Part of the proof. -/
import Derived.Test.YtjfahhbobiiphaaZE
import Derived.Test.YtjfahhbobiiphaaXL
set_option linter.unusedSimpArgs false
set_option linter.unusedVariables false
set_option maxHeartbeats 4000000
namespace Go.Ab
open Go Go.Ab Go.Proofs Go.Ab.Ty

theorem stsV_form {r : Rx} (h : ¬ r.valid) : stsV r = (0, 4) := if_neg h
theorem shV_form {r : Rx} (h : ¬ r.valid) : shV r = ((ByteArray.empty, false), 4) := if_neg h
theorem stsV_err {r : Rx} (h : r.valid) : (stsV r).2 = 0 ∨ (stsV r).2 = 2 := by
  unfold stsV
  rw [if_pos h]
  split
  · exact .inl rfl
  · exact .inr rfl
theorem shV_err {r : Rx} (h : r.valid) : (shV r).2 = 0 ∨ (shV r).2 = 2 := by
  unfold shV
  rw [if_pos h]
  split
  · exact .inl rfl
  · exact .inr rfl
open Classical in
theorem law_states (a : Rx) (ha : a.ok) : Fn Try.prog 14 [encX a] (.bool true) := by
  have i1 := small_ok [a] (Nat.le_of_lt (by decide : 1 < maxLen)) (by simp [ha])
  have i2 := refValid_ok a ha
  have j1 := fun h : a.cnt ≤ 80 => statesV_ok a ha (by omega)
  have j2 := fun h : a.cnt ≤ 80 => shortest_ok a ha (by omega)
  have j3 := fun h : a.valid => fixed_ok a ha h
  have j4 := fun (h : a.valid) (e : Int) => told_ok e [a] (by simp) (by simp [ha]) (by simp [h])
  have k1 := fun (h : a.valid) (h2 : a.fixed) => statesR_ok a h.2 h2 ha
  have k2 := fun (h : a.valid) (h2 : a.fixed) => shortestR_ok a h.2 h2 ha
  have j0 := awake_true
  have h1 := fun h : ¬ a.valid => stsV_form h
  have h2 := fun h : ¬ a.valid => shV_form h
  have h3 := fun h : a.valid => stsV_err h
  have h4 := fun h : a.valid => shV_err h
  have h5 := fun (h : a.valid) (h2 : a.fixed) => sts_eq h h2
  have h6 := fun (h : a.valid) (h2 : a.fixed) => sh_eq h h2
  generalize stsV a = v1 at *
  generalize shV a = v2 at *
  generalize stsR a = v3 at *
  generalize shR a = v4 at *
  obtain ⟨n1, e1⟩ := v1
  obtain ⟨⟨s1, b1⟩, f1⟩ := v2
  obtain ⟨n2, e2⟩ := v3
  obtain ⟨⟨s2, b2⟩, f2⟩ := v4
  simp only at j1 j2 k1 k2 h1 h2 h3 h4 h5 h6
  obtain ⟨o, s, l⟩ := a
  rw [List.map_cons, List.map_nil] at i1
  simp only [List.map_cons, List.map_nil] at j4
  simp only [encX_mk] at i1 i2 j1 j2 j3 j4 k1 k2 ⊢
  refine Fn.intro' [(0, .agg [.int o, str s, .lst (l.map encX)])] 1 105 Try.func14 (by kernel_rfl) rfl rfl rfl rfl rfl ?_
  refine goA ?_
  refine bslA Try.underlying22 sz24 ?_
  refine callA (i1) ?_
  refine goB ?_
  refine ifA (fun q1 => ?_) (fun q1 => ?_)
  · refine goB ?_
    exact Ret.bool rfl (by simp)
  simp at q1
  have h80 : (Rx.mk o s l).cnt ≤ 80 := q1.1
  have j1 := j1 h80
  have j2 := j2 h80
  refine goB ?_
  refine callA (j1) ?_
  refine goB ?_
  refine callA (j2) ?_
  refine goB ?_
  refine callA (i2) ?_
  refine goB ?_
  by_cases hv : (Rx.mk o s l).valid
  rotate_left
  · have h1 := h1 hv
    have h2 := h2 hv
    simp only [Prod.mk.injEq] at h1 h2
    obtain ⟨rfl, rfl⟩ := h1
    obtain ⟨⟨rfl, rfl⟩, rfl⟩ := h2
    refine ift_ ?_ ?_ rfl
    rotate_left
    · simp [hv]
    refine goB ?_
    refine gcallA (i := fun hg => j0) (hr := ?_)
    refine goB ?_
    exact Ret.bool rfl (by simp)
  refine iff_ ?_ ?_ rfl
  rotate_left
  · simp [hv]
  have j3 := j3 hv
  have j4 := j4 hv
  have h3 := h3 hv
  have h4 := h4 hv
  refine goB ?_
  refine callA (j3) ?_
  refine goB ?_
  by_cases hx : (Rx.mk o s l).fixed
  rotate_left
  · refine ift_ ?_ ?_ rfl
    rotate_left
    · simp [hx]
    have j4a := j4 e1
    have j4b := j4 f1
    refine goB ?_
    refine callA (j4a) ?_
    refine goB ?_
    refine gqA (v := .lst [.agg [.int o, str s, .lst (l.map encX)]]) (h := fun hg => ql_buildSlice (by decide) Try.underlying22 sz24 (by kernel_rfl) (by decide) (by (simp +decide only [List.map, go_sem, stripL] <;> rfl)) (by (simp +decide only [List.map, go_sem, stripL] <;> rfl)) rfl) (hr := ?_)
    refine goB ?_
    refine gcallA (i := fun hg => j4b) (hr := ?_)
    refine goB ?_
    refine gcallA (i := fun hg => j0) (hr := ?_)
    refine goB ?_
    exact Ret.bool rfl (by
      rcases h3 with rfl | rfl <;> rcases h4 with rfl | rfl <;> simp [hx])
  refine iff_ ?_ ?_ rfl
  rotate_left
  · simp [hx]
  have k1 := k1 hv hx
  have k2 := k2 hv hx
  have h5 := h5 hv hx
  have h6 := h6 hv hx
  simp only [Prod.mk.injEq] at h5 h6
  obtain ⟨rfl, rfl⟩ := h5
  obtain ⟨⟨rfl, rfl⟩, rfl⟩ := h6
  refine goB ?_
  refine callA (k1) ?_
  refine goB ?_
  refine callA (k2) ?_
  refine goB ?_
  refine gcallA (i := fun hg => j0) (hr := ?_)
  refine goB ?_
  exact Ret.bool rfl (by simp)
end Go.Ab
