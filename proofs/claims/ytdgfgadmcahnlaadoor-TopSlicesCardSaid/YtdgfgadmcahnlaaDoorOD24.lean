/- Part of the proof. -/
import Derived.Test.YtdgfgadmcahnlaaDoorCI24
import Derived.Test.YtdgfgadmcahnlaaDoorLW24
set_option linter.unusedSimpArgs false
set_option linter.unusedVariables false
set_option maxHeartbeats 4000000
namespace Go.Ab
open Go Go.Ab Go.Proofs Go.Ab.Ty
attribute [local go_sem] toL_eq

/-! ### Equal is an equivalence, Less an order -/
theorem fine_ok (s : ByteArray) : FnM Tryd.prog mm24 51 [str s] (.bool (decide (errF s = 0))) := by
  have i1 := countX_ok s
  generalize errF s = E at *
  refine FnM.intro' [(0, str s)] 1 12 Tryd.func51 (by kernel_rfl) rfl rfl rfl rfl rfl ?_
  refine goB ?_
  refine callA (i1) ?_
  refine goB ?_
  exact Ret.bool rfl (by simp)
theorem eq52_ok (a b : ByteArray) : FnM Tryd.prog mm24 52 [str a, str b] (.bool (eqS a b)) := by
  have i1 := equalX_ok a b
  have hE : eqS a b = true → errB a b = 0 := fun h => by simp [eqS] at h; exact h.1
  generalize errB a b = E at *
  generalize eqS a b = X at *
  refine FnM.intro' [(0, str a), (1, str b)] 2 18 Tryd.func52 (by kernel_rfl) rfl rfl rfl rfl rfl ?_
  refine goB ?_
  refine callA (i1) ?_
  refine goB ?_
  exact Ret.bool rfl (by cases X <;> simp at hE ⊢; exact hE)
theorem lt53_ok (a b : ByteArray) : FnM Tryd.prog mm24 53 [str a, str b] (.bool (ltS a b)) := by
  have i1 := lessX_ok a b
  have hE : ltS a b = true → errB a b = 0 := fun h => by simp [ltS] at h; exact h.1
  generalize errB a b = E at *
  generalize ltS a b = X at *
  refine FnM.intro' [(0, str a), (1, str b)] 2 18 Tryd.func53 (by kernel_rfl) rfl rfl rfl rfl rfl ?_
  refine goB ?_
  refine callA (i1) ?_
  refine goB ?_
  exact Ret.bool rfl (by cases X <;> simp at hE ⊢; exact hE)
theorem errB_of {a b : ByteArray} (h1 : errF a = 0) (h2 : errF b = 0) : errB a b = 0 := by rw [errB, if_pos h1, h2]
theorem eqS_of {a b : ByteArray} (h1 : errF a = 0) (h2 : errF b = 0) : eqS a b = decide (canS a = canS b) := by simp [eqS, errB_of h1 h2]
theorem ltS_of {a b : ByteArray} (h1 : errF a = 0) (h2 : errF b = 0) : ltS a b = Op.bytesLess (canS a).toList (canS b).toList := by simp [ltS, errB_of h1 h2]
theorem errF_can (s : ByteArray) : errF (canS s) = 0 ∨ errF (canS s) = 2 := by
  have := canS_vd s
  rw [errF]
  rw [if_pos this]
  split
  · exact .inr rfl
  · exact .inl rfl

theorem order_law (a b c : ByteArray) : FnM Tryd.prog mm24 11 [str a, str b, str c] (.bool true) := by
  have f1 := fine_ok a
  have f2 := fine_ok b
  have f3 := fine_ok c
  have aw := awake_ok
  have iaa := eq52_ok a a
  have iab := eq52_ok a b
  have iba := eq52_ok b a
  have ibc := eq52_ok b c
  have iac := eq52_ok a c
  have ilab := lt53_ok a b
  have ilba := lt53_ok b a
  have ilbc := lt53_ok b c
  have ilac := lt53_ok a c
  have c1 := canX_ok a
  have c2 := canX_ok (canS a)
  have c3 := eq52_ok a (canS a)
  have hE : canE a = if errF a = 0 then canS a else ⟨#[]⟩ := rfl
  have hE2 : canE (canS a) = if errF (canS a) = 0 then canS (canS a) else ⟨#[]⟩ := rfl
  rw [canS_idem] at hE2
  have hx := errF_can a
  have v1 := @eqS_of a a
  have v2 := @eqS_of a b
  have v3 := @eqS_of b a
  have v4 := @eqS_of b c
  have v5 := @eqS_of a c
  have v6 := @ltS_of a b
  have v7 := @ltS_of b a
  have v8 := @ltS_of b c
  have v9 := @ltS_of a c
  have v10 := @eqS_of a (canS a)
  rw [canS_idem] at v10
  have t1 : (canS a).toList = (canS b).toList ↔ canS a = canS b := ⟨fun h => of_decide_eq_true (by rw [← toL_eq]; simp [h]), fun h => by rw [h]⟩
  have tri := bl_tot (canS a).toList (canS b).toList
  have as1 := @bl_asym (canS a).toList (canS b).toList
  have as2 := @bl_asym (canS b).toList (canS a).toList
  have tr1 := @bl_trans (canS a).toList (canS b).toList (canS c).toList
  have ir := bl_irr (canS a).toList
  rw [t1] at tri
  generalize canE (canS a) = CE2 at *
  generalize canE a = CE at *
  generalize errF (canS a) = ECA at *
  generalize eqS a (canS a) = exa at *
  generalize eqS a a = eaa at *
  generalize eqS a b = eab at *
  generalize eqS b a = eba at *
  generalize eqS b c = ebc at *
  generalize eqS a c = eac at *
  generalize ltS a b = lab at *
  generalize ltS b a = lba at *
  generalize ltS b c = lbc at *
  generalize ltS a c = lac at *
  generalize errF a = EA at *
  generalize errF b = EB at *
  generalize errF c = EC at *
  refine FnM.intro' [(0, str a), (1, str b), (2, str c)] 3 127 Tryd.func11 (by kernel_rfl) rfl rfl rfl rfl rfl ?_
  refine goB ?_
  refine callA (f1) ?_
  refine goB ?_
  refine callA (f2) ?_
  refine goB ?_
  refine callA (f3) ?_
  refine goB ?_
  refine ifA (fun h => ?_) (fun h => ?_)
  · refine goB ?_
    refine callA (aw) ?_
    refine goB ?_
    exact Ret.bool rfl Iff.rfl
  simp at h
  obtain ⟨⟨h1, h2⟩, h3⟩ := h
  have v1 := v1 h1 h1
  have v2 := v2 h1 h2
  have v3 := v3 h2 h1
  have v4 := v4 h2 h3
  have v5 := v5 h1 h3
  have v6 := v6 h1 h2
  have v7 := v7 h2 h1
  have v8 := v8 h2 h3
  have v9 := v9 h1 h3
  rw [if_pos h1] at hE
  subst hE
  rw [h1] at c1
  have htr : eab = true → ebc = true → eac = true := fun e1 e2 => by
    rw [v2, decide_eq_true_iff] at e1
    rw [v4, decide_eq_true_iff] at e2
    rw [v5, decide_eq_true_iff, e1, e2]
  have ltr : lab = true → lbc = true → lac = true := fun e1 e2 => by rw [v9]; exact tr1 (v6 ▸ e1) (v8 ▸ e2)
  obtain rfl : eaa = true := by rw [v1]; simp
  have hcase : (eab = true ∧ eba = true ∧ lab = false ∧ lba = false) ∨ (eab = false ∧ eba = false ∧ lab = true ∧ lba = false) ∨ (eab = false ∧ eba = false ∧ lab = false ∧ lba = true) := by
    rw [v2, v3, v6, v7]
    rcases tri with e | e | e
    · left; rw [e] at ir ⊢; simp [ir]
    · right; left
      have n1 := as1 e
      refine ⟨?_, ?_, e, n1⟩
      · rw [decide_eq_false_iff_not]; intro q; rw [q] at e n1; rw [e] at n1; cases n1
      · rw [decide_eq_false_iff_not]; intro q; rw [q] at e n1; rw [e] at n1; cases n1
    · right; right
      have n1 := as2 e
      refine ⟨?_, ?_, n1, e⟩
      · rw [decide_eq_false_iff_not]; intro q; rw [q] at e n1; rw [e] at n1; cases n1
      · rw [decide_eq_false_iff_not]; intro q; rw [q] at e n1; rw [e] at n1; cases n1
  clear v1 v2 v3 v4 v5 v6 v7 v8 v9 tri as1 as2 tr1 ir t1
  refine goB ?_
  refine callA (iab) ?_
  refine goB ?_
  rcases hcase with ⟨rfl, rfl, rfl, rfl⟩ | ⟨rfl, rfl, rfl, rfl⟩ | ⟨rfl, rfl, rfl, rfl⟩
  · refine ifT ?_
    refine goB ?_
    refine callA (ilab) ?_
    refine goB ?_
    refine ifF ?_
    refine goB ?_
    refine callA (ilba) ?_
    refine goB ?_
    refine ifF ?_
    refine goB ?_
    refine gcallA (i := fun hg => iaa) (hr := ?_)
    refine goB ?_
    refine gcallA (i := fun hg => iab) (hr := ?_)
    refine goB ?_
    refine gcallA (i := fun hg => iba) (hr := ?_)
    refine goB ?_
    refine gcallA (i := fun hg => iab) (hr := ?_)
    refine goB ?_
    refine gcallA (i := fun hg => ibc) (hr := ?_)
    refine goB ?_
    refine gcallA (i := fun hg => iac) (hr := ?_)
    refine goB ?_
    refine gcallA (i := fun hg => ilab) (hr := ?_)
    refine goB ?_
    refine gcallA (i := fun hg => ilbc) (hr := ?_)
    refine goB ?_
    refine gcallA (i := fun hg => ilac) (hr := ?_)
    refine goB ?_
    refine ifA (fun h => ?_) (fun h => ?_)
    · exfalso; cases ebc <;> cases eac <;> cases lbc <;> cases lac <;> first | exact absurd h (by decide) | exact absurd (htr rfl rfl) (by decide) | exact absurd (ltr rfl rfl) (by decide)
    refine goB ?_
    refine callA (c1) ?_
    refine goB ?_
    refine ifF ?_
    refine goB ?_
    refine callA (c2) ?_
    refine goB ?_
    refine gcallA (i := fun hg => c3) (hr := ?_)
    refine goB ?_
    refine gcallA (i := fun hg => aw) (hr := ?_)
    refine goB ?_
    exact Ret.bool rfl (by
      rcases hx with rfl | rfl
      · simp [hE2, v10 h1 rfl]
      · simp)
  · refine ifF ?_
    refine goB ?_
    refine callA (ilab) ?_
    refine goB ?_
    refine ifT ?_
    refine goB ?_
    refine callA (ilba) ?_
    refine goB ?_
    refine ifF ?_
    refine goB ?_
    refine gcallA (i := fun hg => iaa) (hr := ?_)
    refine goB ?_
    refine gcallA (i := fun hg => iab) (hr := ?_)
    refine goB ?_
    refine gcallA (i := fun hg => iba) (hr := ?_)
    refine goB ?_
    refine gcallA (i := fun hg => iab) (hr := ?_)
    refine goB ?_
    refine gcallA (i := fun hg => ibc) (hr := ?_)
    refine goB ?_
    refine gcallA (i := fun hg => iac) (hr := ?_)
    refine goB ?_
    refine gcallA (i := fun hg => ilab) (hr := ?_)
    refine goB ?_
    refine gcallA (i := fun hg => ilbc) (hr := ?_)
    refine goB ?_
    refine gcallA (i := fun hg => ilac) (hr := ?_)
    refine goB ?_
    refine ifA (fun h => ?_) (fun h => ?_)
    · exfalso; cases ebc <;> cases eac <;> cases lbc <;> cases lac <;> first | exact absurd h (by decide) | exact absurd (htr rfl rfl) (by decide) | exact absurd (ltr rfl rfl) (by decide)
    refine goB ?_
    refine callA (c1) ?_
    refine goB ?_
    refine ifF ?_
    refine goB ?_
    refine callA (c2) ?_
    refine goB ?_
    refine gcallA (i := fun hg => c3) (hr := ?_)
    refine goB ?_
    refine gcallA (i := fun hg => aw) (hr := ?_)
    refine goB ?_
    exact Ret.bool rfl (by
      rcases hx with rfl | rfl
      · simp [hE2, v10 h1 rfl]
      · simp)
  · refine ifF ?_
    refine goB ?_
    refine callA (ilab) ?_
    refine goB ?_
    refine ifF ?_
    refine goB ?_
    refine callA (ilba) ?_
    refine goB ?_
    refine ifT ?_
    refine goB ?_
    refine gcallA (i := fun hg => iaa) (hr := ?_)
    refine goB ?_
    refine gcallA (i := fun hg => iab) (hr := ?_)
    refine goB ?_
    refine gcallA (i := fun hg => iba) (hr := ?_)
    refine goB ?_
    refine gcallA (i := fun hg => iab) (hr := ?_)
    refine goB ?_
    refine gcallA (i := fun hg => ibc) (hr := ?_)
    refine goB ?_
    refine gcallA (i := fun hg => iac) (hr := ?_)
    refine goB ?_
    refine gcallA (i := fun hg => ilab) (hr := ?_)
    refine goB ?_
    refine gcallA (i := fun hg => ilbc) (hr := ?_)
    refine goB ?_
    refine gcallA (i := fun hg => ilac) (hr := ?_)
    refine goB ?_
    refine ifA (fun h => ?_) (fun h => ?_)
    · exfalso; cases ebc <;> cases eac <;> cases lbc <;> cases lac <;> first | exact absurd h (by decide) | exact absurd (htr rfl rfl) (by decide) | exact absurd (ltr rfl rfl) (by decide)
    refine goB ?_
    refine callA (c1) ?_
    refine goB ?_
    refine ifF ?_
    refine goB ?_
    refine callA (c2) ?_
    refine goB ?_
    refine gcallA (i := fun hg => c3) (hr := ?_)
    refine goB ?_
    refine gcallA (i := fun hg => aw) (hr := ?_)
    refine goB ?_
    exact Ret.bool rfl (by
      rcases hx with rfl | rfl
      · simp [hE2, v10 h1 rfl]
      · simp)
end Go.Ab
