/- Part of the proof. -/
import Derived.Test.YtdgfgadmcahnlaaDoorAW24
set_option linter.unusedSimpArgs false
set_option linter.unusedVariables false
set_option maxHeartbeats 4000000
namespace Go.Ab
open Go Go.Ab Go.Proofs Go.Ab.Ty
attribute [local go_sem] toL_eq

/-! ### the laws that want no canonical form but awake's -/
theorem long_ok (s : ByteArray) : Fn Tryd.prog 29 [str s] (.bool (decide (500 < s.size))) := by
  refine Fn.intro' [(0, str s)] 1 6 Tryd.func29 (by kernel_rfl) rfl rfl rfl rfl rfl ?_
  refine goB ?_
  exact Ret.bool rfl (by simp; omega)
theorem encO_int (l : List Nat) : l.map encO = (l.map Int.ofNat).map AV.int := by rw [List.map_map]; rfl
theorem mksE_len (s : ByteArray) : (mksE s).length ≤ 1000 := by
  unfold mksE
  split
  · rename_i h
    have := (errF_sz h).1
    unfold bnds
    have h1 := bF_len s (nch s)
    have h2 := nch_le s
    split <;> simp <;> omega
  · simp
theorem cluE_len (s : ByteArray) : (cluE s).length ≤ 1000 := by
  unfold cluE
  split
  · rename_i h
    have := (errF_sz h).1
    have h1 := clu_len s
    have h2 := mks_len s
    omega
  · simp
theorem decE_len (s : ByteArray) : (decE s).length ≤ 1000 := by
  unfold decE
  split
  · rename_i h
    have := (errF_sz h).1
    have h2 := nch_le s
    rw [riL_len]; omega
  · simp
theorem classes_law (c : Int) (hc : -9223372036854775808 ≤ c ∧ c ≤ 9223372036854775807) : FnM Tryd.prog mm24 3 [.int c] (.bool true) := by
  have i1 := class_ok c hc
  have i2 := refClass_ok c hc
  have i3 := awake_ok
  refine FnM.intro' [(0, .int c)] 1 11 Tryd.func3 (by kernel_rfl) rfl rfl rfl rfl rfl ?_
  refine goB ?_
  refine callA (i1) ?_
  refine goB ?_
  refine callA (i2) ?_
  refine goB ?_
  refine gcallA (i := fun hg => i3) (hr := ?_)
  refine goB ?_
  exact Ret.bool rfl (by simp)
theorem decodes_law (s : ByteArray) : FnM Tryd.prog mm24 8 [str s] (.bool true) := by
  have i1 := long_ok s
  have i2 := awake_ok
  have i3 := decode_ok s
  have i4 := refDecode_ok s
  have i5 := fun h => valid_ok s h
  have i6 := fun h => refValid_ok s h
  have hl := decE_len s
  have i7 := eqInts_ok (decE s) (decE s) (by omega) (by omega)
  generalize decE s = D at *
  generalize errF s = E at *
  refine FnM.intro' [(0, str s)] 1 38 Tryd.func8 (by kernel_rfl) rfl rfl rfl rfl rfl ?_
  refine goB ?_
  refine callA (i1) ?_
  refine goB ?_
  refine ifA (fun h => ?_) (fun h => ?_)
  · refine goB ?_
    refine callA (i2) ?_
    refine goB ?_
    exact Ret.bool rfl Iff.rfl
  have h := of_decide_eq_false h
  refine goB ?_
  refine callA (i3) ?_
  refine goB ?_
  refine callA (i4) ?_
  refine goB ?_
  refine callA ((i5 (by omega))) ?_
  refine goB ?_
  refine callA ((i6 (by omega))) ?_
  refine goB ?_
  refine gcallA (i := fun hg => i7) (hr := ?_)
  refine goB ?_
  refine gcallA (i := fun hg => i2) (hr := ?_)
  refine goB ?_
  exact Ret.bool rfl (by simp)
theorem bounds_law (s : ByteArray) : FnM Tryd.prog mm24 9 [str s] (.bool true) := by
  have i1 := long_ok s
  have i2 := awake_ok
  have i3 := boundsX_ok s
  have i4 := refBoundsX_ok s
  have i5 := clustersX_ok s
  have i6 := refClustersX_ok s
  have i7 := countX_ok s
  have i8 := refCountX_ok s
  have hl := mksE_len s
  have hl2 := cluE_len s
  rw [encO_int] at i3 i4
  have i9 := eqInts_ok ((mksE s).map Int.ofNat) ((mksE s).map Int.ofNat) (by rw [List.length_map]; omega) (by rw [List.length_map]; omega)
  have i10 := eqStrs_ok (cluE s) (cluE s) (by omega) (by omega)
  generalize (mksE s).map Int.ofNat = D at *
  generalize cluE s = C at *
  generalize errF s = E at *
  refine FnM.intro' [(0, str s)] 1 79 Tryd.func9 (by kernel_rfl) rfl rfl rfl rfl rfl ?_
  refine goB ?_
  refine callA (i1) ?_
  refine goB ?_
  refine ifA (fun h => ?_) (fun h => ?_)
  · refine goB ?_
    refine callA (i2) ?_
    refine goB ?_
    exact Ret.bool rfl Iff.rfl
  refine goB ?_
  refine callA (i3) ?_
  refine goB ?_
  refine callA (i4) ?_
  refine goB ?_
  refine callA (i5) ?_
  refine goB ?_
  refine callA (i6) ?_
  refine goB ?_
  refine callA (i7) ?_
  refine goB ?_
  refine callA (i8) ?_
  refine goB ?_
  refine gcallA (i := fun hg => i9) (hr := ?_)
  refine goB ?_
  refine gcallA (i := fun hg => i10) (hr := ?_)
  refine goB ?_
  refine gcallA (i := fun hg => i2) (hr := ?_)
  refine goB ?_
  exact Ret.bool rfl (by simp)
theorem slices_law (s : ByteArray) (f t : Int) : FnM Tryd.prog mm24 12 [str s, .int f, .int t] (.bool true) := by
  have i1 := long_ok s
  have i2 := awake_ok
  have i3 := slice_ok s f t
  have i4 := refSlice_ok s f t
  generalize slcS s f t = S at *
  refine FnM.intro' [(0, str s), (1, .int f), (2, .int t)] 3 39 Tryd.func12 (by kernel_rfl) rfl rfl rfl rfl rfl ?_
  refine goB ?_
  refine callA (i1) ?_
  refine goB ?_
  refine ifA (fun h => ?_) (fun h => ?_)
  · refine goB ?_
    refine callA (i2) ?_
    refine goB ?_
    exact Ret.bool rfl Iff.rfl
  refine goB ?_
  refine callA (i3) ?_
  refine goB ?_
  refine callA (i4) ?_
  refine goB ?_
  refine gcallA (i := fun hg => i2) (hr := ?_)
  refine goB ?_
  exact Ret.bool rfl (by simp)
theorem steps_law (s : ByteArray) (n : Int) : FnM Tryd.prog mm24 14 [str s, .int n] (.bool true) := by
  have i1 := long_ok s
  have i2 := awake_ok
  have i3 := nth_ok s n
  have i4 := refNth_ok s n
  have i5 := after_ok s n
  have i6 := refAfter_ok s n
  have i7 := before_ok s n
  have i8 := refBefore_ok s n
  generalize nthS s n = S at *
  generalize nearS s n 1 = A at *
  generalize nearS s n (-1) = B at *
  refine FnM.intro' [(0, str s), (1, .int n)] 2 87 Tryd.func14 (by kernel_rfl) rfl rfl rfl rfl rfl ?_
  refine goB ?_
  refine callA (i1) ?_
  refine goB ?_
  refine ifA (fun h => ?_) (fun h => ?_)
  · refine goB ?_
    refine callA (i2) ?_
    refine goB ?_
    exact Ret.bool rfl Iff.rfl
  refine goB ?_
  refine callA (i3) ?_
  refine goB ?_
  refine callA (i4) ?_
  refine goB ?_
  refine callA (i5) ?_
  refine goB ?_
  refine callA (i6) ?_
  refine goB ?_
  refine callA (i7) ?_
  refine goB ?_
  refine callA (i8) ?_
  refine goB ?_
  refine gcallA (i := fun hg => i2) (hr := ?_)
  refine goB ?_
  exact Ret.bool rfl (by simp)
theorem revE_size {s : ByteArray} (h : errF s = 0) : (revE s).size = s.size := by
  rw [revE, if_pos h, cat_rev, clu_size]
theorem reverses_law (s : ByteArray) : FnM Tryd.prog mm24 16 [str s] (.bool true) := by
  have i1 := long_ok s
  have i2 := awake_ok
  have i3 := reverseX_ok s
  have i4 := refReverse_ok s
  have hs := revE_size (s := s)
  generalize revE s = R at *
  generalize errF s = E at *
  refine FnM.intro' [(0, str s)] 1 40 Tryd.func16 (by kernel_rfl) rfl rfl rfl rfl rfl ?_
  refine goB ?_
  refine callA (i1) ?_
  refine goB ?_
  refine ifA (fun h => ?_) (fun h => ?_)
  · refine goB ?_
    refine callA (i2) ?_
    refine goB ?_
    exact Ret.bool rfl Iff.rfl
  refine goB ?_
  refine callA (i3) ?_
  refine goB ?_
  refine callA (i4) ?_
  refine goB ?_
  refine ifA (fun h2 => ?_) (fun h2 => ?_)
  · simp at h2
  refine goB ?_
  refine gcallA (i := fun hg => i2) (hr := ?_)
  refine goB ?_
  exact Ret.bool rfl (by
    by_cases h3 : E = 0
    · simp [h3, hs h3]
    · simp [h3])
end Go.Ab
