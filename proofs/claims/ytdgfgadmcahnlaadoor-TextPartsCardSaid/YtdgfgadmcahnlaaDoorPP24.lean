/- Part of the proof. -/
import Derived.Test.YtdgfgadmcahnlaaDoorPT24
set_option linter.unusedSimpArgs false
set_option linter.unusedVariables false
set_option maxHeartbeats 4000000
namespace Go.Ab
open Go Go.Ab Go.Proofs Go.Ab.Ty

/-! ### the law of the parts of a split text -/
noncomputable def sumC (l : List ByteArray) (k : Nat) : Nat := ((l.take k).map fun x => (clu x).length).sum
theorem sumC_s {l : List ByteArray} {k : Nat} (h : k < l.length) : sumC l (k + 1) = sumC l k + (clu l[k]).length := by
  unfold sumC
  rw [List.take_succ_eq_append_getElem h, List.map_append, List.sum_append]; simp
theorem sumC_le (l : List ByteArray) (k : Nat) : sumC l k ≤ (l.map fun x => (clu x).length).sum := by
  unfold sumC
  rw [List.map_take]
  exact sum_take_le _ _
theorem splE_0 {s p : ByteArray} (h : splE s p = 0) : errB s p = 0 ∧ p.size ≠ 0 := by
  unfold splE at h
  split at h
  · split at h
    · cases h
    · exact ⟨by assumption, by assumption⟩
  · exact absurd h (by assumption)
theorem parts_law (s p : ByteArray) : FnM Tryd.prog mm24 19 [str s, str p] (.bool true) := by
  have i0 := awake_ok
  have i1 := split_ok s p
  have i2 := find_ok s p
  have i3 := countX_ok s
  have i4 := countX_ok p
  have i5 := fun x : ByteArray => find_ok x p
  have i6 := fun x : ByteArray => countX_ok x
  have hA := fun h => parts_all (s := s) (p := p) (splE_0 h).1 (splE_0 h).2
  have hB := fun h => errB_0 (splE_0 (s := s) (p := p) h).1
  have hC := fun h => (splE_0 (s := s) (p := p) h).1
  have hcs : errF s = 0 → cluE s = clu s := fun h => by rw [cluE, if_pos h]
  have hcp : errF p = 0 → cluE p = clu p := fun h => by rw [cluE, if_pos h]
  have hcx : ∀ x, errF x = 0 → cluE x = clu x := fun x h => by rw [cluE, if_pos h]
  have k1 := clu_len s
  have k2 := clu_len p
  have m1 := mks_len s
  have m2 := mks_len p
  have sz1 := fun h => (errF_sz (s := s) h).1
  have sz2 := fun h => (errF_sz (s := p) h).1
  refine FnM.intro' [(0, str s), (1, str p)] 2 123 Tryd.func19 (by kernel_rfl) rfl rfl rfl rfl rfl ?_
  refine goB ?_
  refine callA (i1) ?_
  refine goB ?_
  refine ifA (fun h => ?_) (fun h => ?_)
  · refine goB ?_
    refine callA (i0) ?_
    refine goB ?_
    exact Ret.bool rfl Iff.rfl
  simp at h
  obtain ⟨b1, b2⟩ := hB h
  obtain ⟨a1, a2, a3, a4, a5⟩ := hA h
  have hC := hC h
  rw [hcs b1, b1] at i3
  rw [hcp b2, b2] at i4
  rw [hC] at i2
  have sz1 := sz1 b1
  have sz2 := sz2 b2
  clear hA hB
  have hs5 := sumC_le (splR s p)
  have hs0 : sumC (splR s p) 0 = 0 := rfl
  have hsn : sumC (splR s p) (splR s p).length = ((splR s p).map fun x => (clu x).length).sum := by unfold sumC; rw [List.take_length]
  have hss := fun k (h : k < (splR s p).length) => sumC_s h
  have hll := splR_len s p
  generalize splR s p = L at *
  generalize findR s p = F at *
  have hmul : (clu p).length * (L.length - 1) ≤ (clu s).length := by omega
  refine goB ?_
  refine callA (i2) ?_
  refine goB ?_
  refine gqA (h := fun hg => ql_idxI (l := L) (by simp +decide only [go_sem] <;> rfl) (by simp +decide only [go_sem] <;> rfl) Tryd.underlying25 (by omega) (by simp; omega) (by kernel_rfl)) (hr := ?_)
  refine goB ?_
  have hg0 : nth default L (0 : Int) = L[0] := nth_eq a1
  refine ifA (fun h2 => ?_) (fun h2 => ?_)
  · exfalso
    rw [hg0, ba_eq] at h2
    by_cases hF : F = -1
    · have h3 := a3 hF
      simp only [h3, hF] at h2
      simp at h2
    · have h3 : ¬ L.length = 1 := fun e => hF (a2.1 e)
      have h4 : ¬ ((L.length : Int) = 1) := by omega
      simp [hF, h4] at h2
      rw [h2] at a1
      simp at a1
  refine goB ?_
  refine callA (i3) ?_
  refine goB ?_
  refine callA (i4) ?_
  refine goB ?_
  refine ifF ?_
  refine goB ?_
  have hM : IntKind.i64.wrap (((clu p).length : Int) * IntKind.i64.wrap ((L.length : Int) - 1)) = (((clu p).length * (L.length - 1) + sumC L 0 : Nat) : Int) := by
    have hm2 : (((clu p).length * (L.length - 1) : Nat) : Int) = ((clu p).length : Int) * ((L.length : Int) - 1) := by
      rw [Int.natCast_mul]; congr 1; omega
    rw [wrap_id (x := (L.length : Int) - 1) (by omega) (by omega), ← hm2, wrap_id (by omega) (by omega), hs0, Nat.add_zero]
  rw [hM]
  generalize (clu p).length * (L.length - 1) = M at *
  refine keA [0, 1, 5, 9, 13, 14, 1000000] ?_
  refine AWp.loopP (J := fun k : Nat => k ≤ L.length) (fun k => [(13, .int ((M + sumC L k : Nat) : Int)), (14, .int k)]) (fun k => L.length - k) 0 (Nat.zero_le _) .wk ?_
  intro k hk
  refine goB ?_
  refine ifA (fun h3 => ?_) (fun h3 => ?_)
  · have h3 := of_decide_eq_true h3
    have hk2 : k < L.length := by omega
    have hg : nth default L (k : Int) = L[k] := nth_eq hk2
    obtain ⟨c1, c2, c3, c4⟩ := a4 _ (List.getElem_mem hk2)
    have i5 := i5 L[k]
    have i6 := i6 L[k]
    rw [c2, c3] at i5
    rw [hcx _ c1, c1] at i6
    have hss := hss k hk2
    have hs6 := hs5 (k + 1)
    refine goB ?_
    rw [hg]
    refine callA (i5) ?_
    refine goB ?_
    rw [hg]
    refine callA (i6) ?_
    refine goB ?_
    refine ifF ?_
    refine goB ?_
    rw [wrap_succ (by omega), wrap_id (by omega) (by omega), show ((M + sumC L k : Nat) : Int) + (clu L[k]).length = ((M + sumC L (k + 1) : Nat) : Int) by omega]
    exact ⟨k + 1, by omega, by omega, .wk⟩
  have h3 := of_decide_eq_false h3
  obtain rfl : k = L.length := by omega
  rw [hsn, a5]
  refine goB ?_
  refine gcallA (i := fun hg => i0) (hr := ?_)
  refine goB ?_
  exact Ret.bool rfl (by simp)
end Go.Ab
