/- Part of the proof. -/
import Derived.Test.YtjfahhbobiiphaaZB
import Derived.Test.YtjfahhbobiiphaaXL
set_option linter.unusedSimpArgs false
set_option linter.unusedVariables false
set_option maxHeartbeats 4000000
namespace Go.Ab
open Go Go.Ab Go.Proofs Go.Ab.Ty

@[simp] theorem Pu_lst2Xe (o o' : Int) (S S' : ByteArray) (l l' : List Rx) : Pu (.lst [.agg [.int o, str S, .lst (l.map encX)], .agg [.int o', str S', .lst (l'.map encX)]]) := by
  have := Pu_mapX [.mk o S l, .mk o' S' l']
  rwa [List.map_cons, List.map_cons, List.map_nil, encX_mk, encX_mk] at this
theorem eqV_err2 {a b : Rx} (ha : a.valid) (hb : b.valid) : (eqV a b).2 = 0 ∨ (eqV a b).2 = 2 := by
  unfold eqV
  rw [if_pos ⟨ha, hb⟩]
  split
  · exact .inl rfl
  · exact .inr rfl
theorem eqV_form2 {a b : Rx} (h : ¬ (a.valid ∧ b.valid)) : eqV a b = (false, 4) := if_neg h
theorem lo_sz {r : Rx} (hv : r.valid) (hx : r.fixed) {g : Fin 95 → Nat} {nk : Nat} {m : Mb} (hb : MbOk g nk (lng r) m) : (loR r = none ↔ 200 < m.2.length) := by
  obtain ⟨hc, hf⟩ := hx
  have hal := hb.gm.al
  obtain ⟨m0, h0⟩ := madeR_small hv.2 (lvs_14 hv.2 hc) hf
  have hk := (madeR_ok hv.2 (Nat.le_trans (lvs_14 hv.2 hc) (by decide)) h0).1
  have hlo : loR r = leastR m0 := by unfold loR; rw [h0]; rfl
  rw [hlo]
  rcases h1 : leastR m0 with _ | m'
  · have := leastR_none hk h1 hb.lm
    exact ⟨fun _ => by omega, fun _ => rfl⟩
  · obtain ⟨k1, k2, k3⟩ := leastR_ok hk h1
    have := k2.size hb.lm
    exact ⟨fun h => (by cases h), fun h => by omega⟩
theorem eq_eq {a b : Rx} (ha : a.valid) (hb : b.valid) (hxa : a.fixed) (hxb : b.fixed) : eqV a b = eqR a b := by
  obtain ⟨k1, _⟩ := mcR_ok (Ss := setsR a ++ setsR b) a ha.2 hxa.2 (fun S h => List.mem_append_left _ h)
  obtain ⟨k3, _⟩ := mcR_ok (Ss := setsR a ++ setsR b) b hb.2 hxb.2 (fun S h => List.mem_append_right _ h)
  have l1 := lo_sz ha hxa k1
  have l2 := lo_sz hb hxb k3
  have s1 := sameR_ok k1 k3
  have e1 := eqV_ok ha hb
  unfold eqR gs2
  generalize gsB (keyB (setsR a ++ setsR b)) = gs at *
  generalize mcR gs a = ma at *
  generalize mcR gs b = mb at *
  rcases h1 : loR a with _ | m
  · rw [if_pos (.inl (l1.1 h1))]; unfold eqV; rw [if_pos ⟨ha, hb⟩, h1]
  rcases h2 : loR b with _ | n
  · rw [if_pos (.inr (l2.1 h2))]; unfold eqV; rw [if_pos ⟨ha, hb⟩, h1, h2]
  have hn : ¬ (200 < ma.2.length ∨ 200 < mb.2.length) := by
    rintro (h | h)
    · rw [l1.2 h] at h1; cases h1
    · rw [l2.2 h] at h2; cases h2
  rw [if_neg hn]
  have e2 : (eqV a b).2 = 0 := by unfold eqV; rw [if_pos ⟨ha, hb⟩, h1, h2]
  exact Prod.ext (bool_iff ((e1 e2).trans s1.symm)) e2
open Classical in
theorem law_equals (a b : Rx) (ha : a.ok) (hb : b.ok) : Fn Try.prog 10 [encX a, encX b] (.bool true) := by
  have i1 := small_ok [a, b] (Nat.le_of_lt (by decide : 2 < maxLen)) (by simp [ha, hb])
  have i2 := refValid_ok a ha
  have i3 := refValid_ok b hb
  have j1 := fun h : a.cnt ≤ 80 ∧ b.cnt ≤ 80 => equal_ok2 a b ha hb (by omega) (by omega)
  have j2 := fun h : a.valid => fixed_ok a ha h
  have j3 := fun h : b.valid => fixed_ok b hb h
  have j4 := fun (h : a.valid ∧ b.valid) (e : Int) => told_ok e [a, b] (by simp) (by simp [ha, hb]) (by simp [h.1, h.2])
  have j5 := fun (h : a.valid ∧ b.valid) (h2 : a.fixed ∧ b.fixed) => equalR_ok a b h.1.2 h.2.2 h2.1 h2.2 ha hb
  have j0 := awake_true
  have h1 : ¬ (a.valid ∧ b.valid) → eqV a b = (false, 4) := eqV_form2
  have h2 : a.valid → b.valid → (eqV a b).2 = 0 ∨ (eqV a b).2 = 2 := eqV_err2
  have h3 : a.valid ∧ b.valid → a.fixed ∧ b.fixed → eqV a b = eqR a b := fun h h2 => eq_eq h.1 h.2 h2.1 h2.2
  generalize eqV a b = v1 at *
  generalize eqR a b = v2 at *
  obtain ⟨x1, e1⟩ := v1
  obtain ⟨x2, e2⟩ := v2
  simp only at j1 j5 h1 h2 h3
  obtain ⟨o, s, l⟩ := a
  obtain ⟨o', s', l'⟩ := b
  rw [List.map_cons, List.map_cons, List.map_nil] at i1
  simp only [List.map_cons, List.map_nil] at j4
  simp only [encX_mk] at i1 i2 i3 j1 j2 j3 j4 j5 ⊢
  refine Fn.intro' [(0, .agg [.int o, str s, .lst (l.map encX)]), (1, .agg [.int o', str s', .lst (l'.map encX)])] 2 70 Try.func10 (by kernel_rfl) rfl rfl rfl rfl rfl ?_
  refine goA ?_
  refine bslA Try.underlying22 sz24 ?_
  refine callA (i1) ?_
  refine goB ?_
  refine ifA (fun q1 => ?_) (fun q1 => ?_)
  · refine goB ?_
    exact Ret.bool rfl (by simp)
  simp at q1
  have h80 : (Rx.mk o s l).cnt ≤ 80 ∧ (Rx.mk o' s' l').cnt ≤ 80 := ⟨q1.1.1, q1.2.1⟩
  have j1 := j1 h80
  refine goB ?_
  refine callA (j1) ?_
  refine goB ?_
  refine callA (i2) ?_
  refine goB ?_
  refine gcallA (i := fun hg => i3) (hr := ?_)
  refine goB ?_
  by_cases hv : (Rx.mk o s l).valid ∧ (Rx.mk o' s' l').valid
  rotate_left
  · obtain ⟨rfl, rfl⟩ : x1 = false ∧ e1 = 4 := by simpa using h1 hv
    refine ift_ ?_ ?_ rfl
    rotate_left
    · by_cases hv1 : (Rx.mk o s l).valid
      · have hv2 : ¬ (Rx.mk o' s' l').valid := fun h => hv ⟨hv1, h⟩
        simp [hv1, hv2]
      · simp [hv1]
    refine goB ?_
    refine gcallA (i := fun hg => j0) (hr := ?_)
    refine goB ?_
    exact Ret.bool rfl (by simp)
  refine iff_ ?_ ?_ rfl
  rotate_left
  · simp [hv.1, hv.2]
  have j2 := j2 hv.1
  have j3 := j3 hv.2
  have j4 := j4 hv e1
  have h2 := h2 hv.1 hv.2
  refine goB ?_
  refine callA (j2) ?_
  refine goB ?_
  refine gcallA (i := fun hg => j3) (hr := ?_)
  refine goB ?_
  by_cases hx : (Rx.mk o s l).fixed ∧ (Rx.mk o' s' l').fixed
  rotate_left
  · refine ift_ ?_ ?_ rfl
    rotate_left
    · by_cases hx1 : (Rx.mk o s l).fixed
      · have hx2 : ¬ (Rx.mk o' s' l').fixed := fun h => hx ⟨hx1, h⟩
        simp [hx1, hx2]
      · simp [hx1]
    refine goB ?_
    refine callA (j4) ?_
    refine goB ?_
    refine gcallA (i := fun hg => j0) (hr := ?_)
    refine goB ?_
    have hxx : ¬ ∀ x ∈ [Rx.mk o s l, Rx.mk o' s' l'], x.fixed := fun h => hx ⟨h _ (by simp), h _ (by simp)⟩
    exact Ret.bool rfl (by
      rcases h2 with rfl | rfl
      · simp
      · simp
        by_cases hq : (Rx.mk o s l).fixed
        · exact .inr fun h => hx ⟨hq, h⟩
        · exact .inl hq)
  refine iff_ ?_ ?_ rfl
  rotate_left
  · simp [hx.1, hx.2]
  have j5 := j5 hv hx
  obtain ⟨rfl, rfl⟩ : x1 = x2 ∧ e1 = e2 := by simpa using h3 hv hx
  refine goB ?_
  refine callA (j5) ?_
  refine goB ?_
  refine gcallA (i := fun hg => j0) (hr := ?_)
  refine goB ?_
  exact Ret.bool rfl (by simp)
end Go.Ab
