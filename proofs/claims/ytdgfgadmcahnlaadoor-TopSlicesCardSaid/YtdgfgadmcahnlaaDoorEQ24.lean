/- Part of the proof. -/
import Derived.Test.YtdgfgadmcahnlaaDoorTN
set_option linter.unusedSimpArgs false
set_option linter.unusedVariables false
set_option maxHeartbeats 4000000
namespace Go.Ab
open Go Go.Ab Go.Proofs Go.Ab.Ty
attribute [local go_sem] toL_eq

/-! ### Canonical, Equal, Less of the document; the two laws -/
theorem refCanX_ok (s : ByteArray) : Fn Tryd.prog 31 [str s] (.tup [str (canE s), .int (errF s)]) := by
  have hc := fit_ok s
  have hm := fun h h2 => refCanonical_ok s h h2
  have hN : canE s = if errF s = 0 then canS s else ⟨#[]⟩ := rfl
  have he := errF_sz (s := s)
  generalize canE s = N at *
  generalize errF s = E at *
  refine Fn.intro' [(0, str s)] 1 12 Tryd.func31 (by kernel_rfl) rfl rfl rfl rfl rfl ?_
  refine goB ?_
  refine callA (hc) ?_
  refine goB ?_
  refine ifA (fun h1 => ?_) (fun h1 => ?_)
  · simp at h1
    rw [if_neg h1] at hN
    refine goB ?_
    exact Ret.data rfl (by rw [hN]; rfl) (Pu_t2s _ _)
  simp at h1
  rw [if_pos h1] at hN
  obtain ⟨hsz, hvd⟩ := he h1
  refine goB ?_
  refine callA ((hm (by omega) hvd)) ?_
  refine goB ?_
  exact Ret.data rfl (by rw [hN, h1]; rfl) (Pu_t2s _ _)
theorem both_ok (a b : ByteArray) : Fn Tryd.prog 76 [str a, str b] (.int (errB a b)) := by
  have h1 := fit_ok a
  have h2 := fit_ok b
  have hN : errB a b = if errF a = 0 then errF b else errF a := rfl
  generalize errB a b = N at *
  generalize errF a = A at *
  generalize errF b = B at *
  refine Fn.intro' [(0, str a), (1, str b)] 2 13 Tryd.func76 (by kernel_rfl) rfl rfl rfl rfl rfl ?_
  refine goB ?_
  refine callA (h1) ?_
  refine goB ?_
  refine ifA (fun hc => ?_) (fun hc => ?_)
  · simp at hc
    rw [if_neg hc] at hN
    refine goB ?_
    exact Ret.data rfl (by rw [hN]; rfl) (.base _)
  simp at hc
  rw [if_pos hc] at hN
  refine goB ?_
  refine callA (h2) ?_
  refine goB ?_
  exact Ret.data rfl (by rw [hN]; rfl) (.base _)
theorem errB_v {a b : ByteArray} (h : errB a b = 0) : (a.size ≤ 400 ∧ Vd a 0) ∧ b.size ≤ 400 ∧ Vd b 0 := ⟨errF_sz (errB_0 h).1, errF_sz (errB_0 h).2⟩
theorem refEqualX_ok (a b : ByteArray) : Fn Tryd.prog 33 [str a, str b] (.tup [.bool (eqS a b), .int (errB a b)]) := by
  have hc := both_ok a b
  have h2 := fun h h' => refCanonical_ok a h h'
  have h3 := fun h h' => refCanonical_ok b h h'
  have hN : eqS a b = (decide (errB a b = 0) && decide (canS a = canS b)) := rfl
  have he := errB_v (a := a) (b := b)
  generalize eqS a b = N at *
  generalize errB a b = E at *
  refine Fn.intro' [(0, str a), (1, str b)] 2 18 Tryd.func33 (by kernel_rfl) rfl rfl rfl rfl rfl ?_
  refine goB ?_
  refine callA (hc) ?_
  refine goB ?_
  refine ifA (fun h1 => ?_) (fun h1 => ?_)
  · simp at h1
    refine goB ?_
    exact Ret.data rfl (by rw [hN, decide_eq_false h1]; rfl) (Pu_t2b _ _)
  simp at h1
  obtain ⟨⟨s1, v1⟩, s2, v2⟩ := he h1
  refine goB ?_
  refine callA ((h2 (by omega) v1)) ?_
  refine goB ?_
  refine callA ((h3 (by omega) v2)) ?_
  refine goB ?_
  exact Ret.data rfl (by rw [hN, h1]; rfl) (Pu_t2b _ _)
theorem refLessX_ok (a b : ByteArray) : Fn Tryd.prog 35 [str a, str b] (.tup [.bool (ltS a b), .int (errB a b)]) := by
  have hc := both_ok a b
  have h2 := fun h h' => refCanonical_ok a h h'
  have h3 := fun h h' => refCanonical_ok b h h'
  have hN : ltS a b = (decide (errB a b = 0) && Op.bytesLess (canS a).toList (canS b).toList) := rfl
  have he := errB_v (a := a) (b := b)
  generalize ltS a b = N at *
  generalize errB a b = E at *
  refine Fn.intro' [(0, str a), (1, str b)] 2 18 Tryd.func35 (by kernel_rfl) rfl rfl rfl rfl rfl ?_
  refine goB ?_
  refine callA (hc) ?_
  refine goB ?_
  refine ifA (fun h1 => ?_) (fun h1 => ?_)
  · simp at h1
    refine goB ?_
    exact Ret.data rfl (by rw [hN, decide_eq_false h1]; rfl) (Pu_t2b _ _)
  simp at h1
  obtain ⟨⟨s1, v1⟩, s2, v2⟩ := he h1
  refine goB ?_
  refine callA ((h2 (by omega) v1)) ?_
  refine goB ?_
  refine callA ((h3 (by omega) v2)) ?_
  refine goB ?_
  exact Ret.data rfl (by rw [hN, h1]; rfl) (Pu_t2b _ _)
theorem canonical_law (s : ByteArray) : FnM Tryd.prog mm24 5 [str s] (.bool true) := by
  have i1 := long_ok s
  have i2 := awake_ok
  have i3 := canX_ok s
  have i4 := refCanX_ok s
  generalize canE s = R at *
  generalize errF s = E at *
  refine FnM.intro' [(0, str s)] 1 31 Tryd.func5 (by kernel_rfl) rfl rfl rfl rfl rfl ?_
  refine goB ?_
  refine callA (i1) ?_
  refine goB ?_
  refine ifA (fun h => ?_) (fun h => ?_)
  · refine goB ?_
    refine callA (i2) ?_
    refine goB ?_
    exact Ret.bool rfl Iff.rfl
  refine goB ?_
  refine callA (i3) ?_
  refine goB ?_
  refine callA (i4) ?_
  refine goB ?_
  refine gcallA (i := fun hg => i2) (hr := ?_)
  refine goB ?_
  exact Ret.bool rfl (by simp)
theorem equals_law (a b : ByteArray) : FnM Tryd.prog mm24 6 [str a, str b] (.bool true) := by
  have i0 := long_ok a
  have i1 := long_ok b
  have i2 := awake_ok
  have i3 := equalX_ok a b
  have i4 := refEqualX_ok a b
  have i5 := lessX_ok a b
  have i6 := refLessX_ok a b
  generalize eqS a b = R at *
  generalize ltS a b = L at *
  generalize errB a b = E at *
  refine FnM.intro' [(0, str a), (1, str b)] 2 65 Tryd.func6 (by kernel_rfl) rfl rfl rfl rfl rfl ?_
  refine goB ?_
  refine callA (i0) ?_
  refine goB ?_
  refine gcallA (i := fun hg => i1) (hr := ?_)
  refine goB ?_
  refine ifA (fun h => ?_) (fun h => ?_)
  · refine goB ?_
    refine callA (i2) ?_
    refine goB ?_
    exact Ret.bool rfl Iff.rfl
  refine goB ?_
  refine callA (i3) ?_
  refine goB ?_
  refine callA (i4) ?_
  refine goB ?_
  refine callA (i5) ?_
  refine goB ?_
  refine callA (i6) ?_
  refine goB ?_
  refine gcallA (i := fun hg => i2) (hr := ?_)
  refine goB ?_
  exact Ret.bool rfl (by simp)
end Go.Ab
