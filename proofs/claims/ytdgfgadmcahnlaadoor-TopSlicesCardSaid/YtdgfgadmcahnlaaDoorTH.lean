/- Part of the proof. -/
import Derived.Test.YtdgfgadmcahnlaaDoorTF
import Derived.Test.YtdgfgadmcahnlaaDoorTG
set_option linter.unusedSimpArgs false
set_option linter.unusedVariables false
set_option maxHeartbeats 4000000
namespace Go.Ab
open Go Go.Ab Go.Proofs Go.Ab.Ty

/-! ### the document's answers -/
theorem place_ok (B : List Nat) (hB : B.length ≤ 1000000) (v : Int) : Fn Tryd.prog 89 [.lst (B.map encO), .int v] (.int (ixO B v)) := by
  refine Fn.intro' [(0, .lst (B.map encO)), (1, .int v)] 2 19 Tryd.func89 (by kernel_rfl) rfl rfl rfl rfl rfl ?_
  refine goB ?_
  refine AWp.loopP (J := fun k : Nat => k ≤ B.length ∧ ∀ j, ∀ hj : j < B.length, j < k → ((B[j]) : Int) ≠ v) (fun k => [(5, .int k)]) (fun k => B.length - k) 0 ⟨Nat.zero_le _, by omega⟩ .wk ?_
  rintro k ⟨hk, hn⟩
  refine goB ?_
  refine ifA (fun h => ?_) (fun h => ?_)
  · have h := of_decide_eq_true h
    have hg : nth default B (k : Int) = B[k] := nth_eq (by omega)
    refine goB ?_
    rw [hg]
    refine goB ?_
    refine ifA (fun h2 => ?_) (fun h2 => ?_)
    · have h2 := of_decide_eq_true h2
      refine goB ?_
      exact Ret.data rfl (by rw [ixO_some (by omega) h2 hn]; rfl) (.base _)
    · have h2 := of_decide_eq_false h2
      refine goB ?_
      rw [wrap_succ (by omega)]
      refine ⟨k + 1, ⟨by omega, fun j hj hjk => ?_⟩, by omega, .wk⟩
      by_cases e : j < k
      · exact hn j hj e
      · obtain rfl : j = k := by omega
        exact h2
  · have h := of_decide_eq_false h
    refine goB ?_
    exact Ret.data rfl (by rw [ixO_none fun j hj => hn j hj (by omega)]; rfl) (.base _)
theorem step_ok (s : ByteArray) (v step : Int) (hst : -1000 ≤ step ∧ step ≤ 1000) : Fn Tryd.prog 91 [str s, .int v, .int step] (.tup [.int (nearS s v step).1, .int (nearS s v step).2]) := by
  have hc := fit_ok s
  have hm := fun h h2 => bounds_ok s h h2
  have hi := fun h => place_ok (mks s) h v
  have hl := mks_len s
  have hx := ixO_cases (mks s) v
  have hN : nearS s v step = if errF s = 0 then (if ixO (mks s) v < 0 then (0, 241) else if ixO (mks s) v + step < 0 ∨ (mks s).length ≤ ixO (mks s) v + step then (0, 1) else (((nth default (mks s) (ixO (mks s) v + step) : Nat) : Int), 0)) else (0, errF s) := rfl
  have he := errF_sz (s := s)
  generalize nearS s v step = N at *
  generalize errF s = E at *
  generalize ixO (mks s) v = x at *
  generalize mks s = B at *
  refine Fn.intro' [(0, str s), (1, .int v), (2, .int step)] 3 41 Tryd.func91 (by kernel_rfl) rfl rfl rfl rfl rfl ?_
  refine goB ?_
  refine callA (hc) ?_
  refine goB ?_
  refine ifA (fun h1 => ?_) (fun h1 => ?_)
  · simp at h1
    rw [if_neg h1] at hN
    refine goB ?_
    exact Ret.data rfl (by rw [hN]; rfl) (Pu_t2 _ _)
  simp at h1
  rw [if_pos h1] at hN
  obtain ⟨hsz, hvd⟩ := he h1
  refine goB ?_
  refine callA ((hm (by omega) hvd)) ?_
  refine goB ?_
  refine callA ((hi (by omega))) ?_
  refine goB ?_
  refine ifA (fun h2 => ?_) (fun h2 => ?_)
  · simp at h2
    rw [if_pos (by omega)] at hN
    refine goB ?_
    exact Ret.data rfl (by rw [hN]; rfl) (Pu_t2 _ _)
  simp at h2
  rw [if_neg (by omega)] at hN
  have hx2 : x < B.length := by rcases hx with ⟨h, _⟩ | ⟨i, h, h3, _⟩ <;> omega
  have hw : IntKind.i64.wrap (x + step) = x + step := wrap_id (by omega) (by omega)
  refine goB ?_
  simp only [hw]
  refine keA [0, 1, 2, 6, 7, 9, 10, 34] ?_
  refine ifA (fun h3 => ?_) (fun h3 => ?_)
  · rw [if_pos (by simp at h3; omega)] at hN
    refine goB ?_
    exact Ret.data rfl (by rw [hN]; rfl) (Pu_t2 _ _)
  rw [if_neg (by simp at h3; omega)] at hN
  have h4 : 0 ≤ x + step ∧ x + step < B.length := by simp at h3; omega
  refine goB ?_
  rw [hw]
  refine goB ?_
  exact Ret.data rfl (by rw [hN]; rfl) (Pu_t2 _ _)
theorem refAfter_ok (s : ByteArray) (v : Int) : Fn Tryd.prog 57 [str s, .int v] (.tup [.int (nearS s v 1).1, .int (nearS s v 1).2]) := by
  have i1 := step_ok s v 1 (by omega)
  generalize nearS s v 1 = N at *
  refine Fn.intro' [(0, str s), (1, .int v)] 2 11 Tryd.func57 (by kernel_rfl) rfl rfl rfl rfl rfl ?_
  refine goB ?_
  refine callA (i1) ?_
  refine goB ?_
  exact Ret.data rfl rfl (Pu_t2 _ _)
theorem refBefore_ok (s : ByteArray) (v : Int) : Fn Tryd.prog 58 [str s, .int v] (.tup [.int (nearS s v (-1)).1, .int (nearS s v (-1)).2]) := by
  have i1 := step_ok s v (-1) (by omega)
  generalize nearS s v (-1) = N at *
  refine Fn.intro' [(0, str s), (1, .int v)] 2 11 Tryd.func58 (by kernel_rfl) rfl rfl rfl rfl rfl ?_
  refine goB ?_
  refine callA (i1) ?_
  refine goB ?_
  exact Ret.data rfl rfl (Pu_t2 _ _)
theorem refNth_ok (s : ByteArray) (n : Int) : Fn Tryd.prog 56 [str s, .int n] (.tup [.int (nthS s n).1, .int (nthS s n).2]) := by
  have hc := fit_ok s
  have hm := fun h h2 => bounds_ok s h h2
  have hl := mks_len s
  have hN : nthS s n = if errF s = 0 then (if n < 0 ∨ (mks s).length ≤ n then (0, 1) else (((nth default (mks s) n : Nat) : Int), 0)) else (0, errF s) := rfl
  have he := errF_sz (s := s)
  generalize nthS s n = N at *
  generalize errF s = E at *
  generalize mks s = B at *
  refine Fn.intro' [(0, str s), (1, .int n)] 2 27 Tryd.func56 (by kernel_rfl) rfl rfl rfl rfl rfl ?_
  refine goB ?_
  refine callA (hc) ?_
  refine goB ?_
  refine ifA (fun h1 => ?_) (fun h1 => ?_)
  · simp at h1
    rw [if_neg h1] at hN
    refine goB ?_
    exact Ret.data rfl (by rw [hN]; rfl) (Pu_t2 _ _)
  simp at h1
  rw [if_pos h1] at hN
  obtain ⟨hsz, hvd⟩ := he h1
  refine goB ?_
  refine callA ((hm (by omega) hvd)) ?_
  refine goB ?_
  refine ifA (fun h3 => ?_) (fun h3 => ?_)
  · rw [if_pos (by simp at h3; omega)] at hN
    refine goB ?_
    exact Ret.data rfl (by rw [hN]; rfl) (Pu_t2 _ _)
  rw [if_neg (by simp at h3; omega)] at hN
  have h4 : 0 ≤ n ∧ n < B.length := by simp at h3; omega
  refine goB ?_
  exact Ret.data rfl (by rw [hN]; rfl) (Pu_t2 _ _)
theorem refClustersX_ok (s : ByteArray) : Fn Tryd.prog 44 [str s] (.tup [.lst ((cluE s).map str), .int (errF s)]) := by
  have hc := fit_ok s
  have hm := fun h h2 => refClusters_ok s h h2
  have hN : cluE s = if errF s = 0 then clu s else [] := rfl
  have he := errF_sz (s := s)
  generalize cluE s = N at *
  generalize errF s = E at *
  refine Fn.intro' [(0, str s)] 1 12 Tryd.func44 (by kernel_rfl) rfl rfl rfl rfl rfl ?_
  refine goB ?_
  refine callA (hc) ?_
  refine goB ?_
  refine ifA (fun h1 => ?_) (fun h1 => ?_)
  · simp at h1
    rw [if_neg h1] at hN
    refine goB ?_
    exact Ret.pub rfl (by rw [hN]; exact Pub.tup' ⟨Pub.nilS, Pub.pu (.base _), trivial⟩)
  simp at h1
  rw [if_pos h1] at hN
  obtain ⟨hsz, hvd⟩ := he h1
  refine goB ?_
  refine callA ((hm (by omega) hvd)) ?_
  refine goB ?_
  exact Ret.pub rfl (by rw [hN, h1]; exact Pub.tup' ⟨Pub.pu (Pu_strs _), Pub.pu (.base _), trivial⟩)
theorem refCountX_ok (s : ByteArray) : Fn Tryd.prog 46 [str s] (.tup [.int ((cluE s).length : Nat), .int (errF s)]) := by
  have hc := refClustersX_ok s
  generalize cluE s = N at *
  generalize errF s = E at *
  refine Fn.intro' [(0, str s)] 1 14 Tryd.func46 (by kernel_rfl) rfl rfl rfl rfl rfl ?_
  refine goB ?_
  refine callA (hc) ?_
  refine goB ?_
  exact Ret.data rfl rfl (Pu_t2 _ _)
theorem boundsX_ok (s : ByteArray) : FnM Tryd.prog mm24 36 [str s] (.tup [.lst ((mksE s).map encO), .int (errF s)]) := by
  have hc := check_ok [s] (by simp)
  rw [errL_1] at hc
  have hm := fun h => boundaries_ok s h
  have hN : mksE s = if errF s = 0 then bnds s else [] := rfl
  have he := errF_sz (s := s)
  generalize mksE s = N at *
  generalize errF s = E at *
  refine FnM.intro' [(0, str s)] 1 13 Tryd.func36 (by kernel_rfl) rfl rfl rfl rfl rfl ?_
  refine goB ?_
  refine callA (hc) ?_
  refine goB ?_
  refine ifA (fun h1 => ?_) (fun h1 => ?_)
  · simp at h1
    rw [if_neg h1] at hN
    refine goB ?_
    exact Ret.pub rfl (by rw [hN]; exact Pub.tup' ⟨Pub.nilS, Pub.pu (.base _), trivial⟩)
  simp at h1
  rw [if_pos h1] at hN
  have hsz := (he h1).1
  refine goB ?_
  refine callA ((hm (by omega))) ?_
  refine goB ?_
  exact Ret.pub rfl (by rw [hN, h1]; exact Pub.tup' ⟨Pub.pu (Pu_encOL _), Pub.pu (.base _), trivial⟩)
theorem refBoundsX_ok (s : ByteArray) : Fn Tryd.prog 43 [str s] (.tup [.lst ((mksE s).map encO), .int (errF s)]) := by
  have hc := fit_ok s
  have hm := fun h h2 => bounds_ok s h h2
  have hN : mksE s = if errF s = 0 then bnds s else [] := rfl
  have he := errF_sz (s := s)
  have hb : bnds s = if 0 < s.size then bF s (nch s) ++ [s.size] else [] := rfl
  have hk : mks s = if 0 < s.size then bF s (nch s) ++ [s.size] else [0] := rfl
  generalize mksE s = N at *
  generalize errF s = E at *
  generalize mks s = B at *
  generalize bnds s = B2 at *
  refine Fn.intro' [(0, str s)] 1 15 Tryd.func43 (by kernel_rfl) rfl rfl rfl rfl rfl ?_
  refine goB ?_
  refine callA (hc) ?_
  refine goB ?_
  refine ifA (fun h1 => ?_) (fun h1 => ?_)
  · simp at h1
    rw [if_neg h1] at hN
    refine goB ?_
    exact Ret.pub rfl (by rw [hN]; exact Pub.tup' ⟨Pub.nilS, Pub.pu (.base _), trivial⟩)
  simp at h1
  rw [if_pos h1] at hN
  obtain ⟨hsz, hvd⟩ := he h1
  refine goB ?_
  refine ifA (fun h2 => ?_) (fun h2 => ?_)
  · have h2 := of_decide_eq_true h2
    rw [if_neg (by omega)] at hb
    refine goB ?_
    exact Ret.pub rfl (by rw [hN, h1, hb]; exact Pub.tup' ⟨Pub.nilS, Pub.pu (.base _), trivial⟩)
  have h2 := of_decide_eq_false h2
  rw [if_pos (by omega)] at hb hk
  refine goB ?_
  refine callA ((hm (by omega) hvd)) ?_
  refine goB ?_
  exact Ret.pub rfl (by rw [hN, h1, hb, hk]; exact Pub.tup' ⟨Pub.pu (Pu_encOL _), Pub.pu (.base _), trivial⟩)
end Go.Ab
set_option maxHeartbeats 4000000
namespace Go.Ab
open Go Go.Ab Go.Proofs Go.Ab.Ty

/-! ### lists that are equal; what lies between two offsets; characters -/
theorem eqInts_ok (a b : List Int) (ha : a.length ≤ 1000000) (hb : b.length ≤ 1000000) : Fn Tryd.prog 38 [.lst (a.map AV.int), .lst (b.map AV.int)] (.bool (decide (a = b))) := by
  refine Fn.intro' [(0, .lst (a.map AV.int)), (1, .lst (b.map AV.int))] 2 26 Tryd.func38 (by kernel_rfl) rfl rfl rfl rfl rfl ?_
  refine goB ?_
  refine ifA (fun h => ?_) (fun h => ?_)
  · simp at h
    refine goB ?_
    exact Ret.data rfl (by rw [decide_eq_false (show ¬ a = b from fun e => h (by rw [e]))]; rfl) (.base _)
  simp at h
  have hl : a.length = b.length := by omega
  refine goB ?_
  refine AWp.loopP (J := fun k : Nat => k ≤ a.length ∧ ∀ j, ∀ hj : j < a.length, j < k → a[j] = b[j]'(by omega)) (fun k => [(5, .int k)]) (fun k => a.length - k) 0 ⟨Nat.zero_le _, by omega⟩ .wk ?_
  rintro k ⟨hk, hn⟩
  refine goB ?_
  refine ifA (fun hd => ?_) (fun hd => ?_)
  · have hd := of_decide_eq_true hd
    have e1 : nth 0 a (k : Int) = a[k] := nth_eq (by omega)
    have e2 : nth 0 b (k : Int) = b[k]'(by omega) := nth_eq (by omega)
    refine goB ?_
    refine drA (k := 9) follows (hr := ?_)
    refine goB ?_
    rw [e1, e2]
    refine ifA (fun h2 => ?_) (fun h2 => ?_)
    · simp at h2
      refine goB ?_
      exact Ret.data rfl (by rw [decide_eq_false (show ¬ a = b from fun e => h2 (by subst e; rfl))]; rfl) (.base _)
    simp at h2
    refine goB ?_
    rw [wrap_succ (by omega)]
    refine ⟨k + 1, ⟨by omega, fun j hj hjk => ?_⟩, by omega, .wk⟩
    by_cases e : j < k
    · exact hn j hj e
    · obtain rfl : j = k := by omega
      exact h2
  have hd := of_decide_eq_false hd
  refine goB ?_
  exact Ret.data rfl (by rw [decide_eq_true (show a = b from List.ext_getElem hl fun j h1 h3 => hn j h1 (by omega))]; rfl) (.base _)
theorem ba_eq (x y : ByteArray) : (x.toList == y.toList) = decide (x = y) := by
  rw [ba_toList, ba_toList, Bool.eq_iff_iff, beq_iff_eq, decide_eq_true_iff]
  exact ⟨fun h => ByteArray.ext (Array.ext' h), fun h => by rw [h]⟩
theorem eqStrs_ok (a b : List ByteArray) (ha : a.length ≤ 1000000) (hb : b.length ≤ 1000000) : Fn Tryd.prog 47 [.lst (a.map str), .lst (b.map str)] (.bool (decide (a = b))) := by
  refine Fn.intro' [(0, .lst (a.map str)), (1, .lst (b.map str))] 2 26 Tryd.func47 (by kernel_rfl) rfl rfl rfl rfl rfl ?_
  refine goB ?_
  refine ifA (fun h => ?_) (fun h => ?_)
  · simp at h
    refine goB ?_
    exact Ret.data rfl (by rw [decide_eq_false (show ¬ a = b from fun e => h (by rw [e]))]; rfl) (.base _)
  simp at h
  have hl : a.length = b.length := by omega
  refine goB ?_
  refine AWp.loopP (J := fun k : Nat => k ≤ a.length ∧ ∀ j, ∀ hj : j < a.length, j < k → a[j] = b[j]'(by omega)) (fun k => [(5, .int k)]) (fun k => a.length - k) 0 ⟨Nat.zero_le _, by omega⟩ .wk ?_
  rintro k ⟨hk, hn⟩
  refine goB ?_
  refine ifA (fun hd => ?_) (fun hd => ?_)
  · have hd := of_decide_eq_true hd
    have e1 : nth default a (k : Int) = a[k] := nth_eq (by omega)
    have e2 : nth default b (k : Int) = b[k]'(by omega) := nth_eq (by omega)
    refine goB ?_
    refine drA (k := 9) follows (hr := ?_)
    refine goB ?_
    rw [e1, e2]
    refine ifA (fun h2 => ?_) (fun h2 => ?_)
    · rw [ba_eq] at h2
      simp at h2
      refine goB ?_
      exact Ret.data rfl (by rw [decide_eq_false (show ¬ a = b from fun e => h2 (by subst e; rfl))]; rfl) (.base _)
    rw [ba_eq] at h2
    simp at h2
    refine goB ?_
    rw [wrap_succ (by omega)]
    refine ⟨k + 1, ⟨by omega, fun j hj hjk => ?_⟩, by omega, .wk⟩
    by_cases e : j < k
    · exact hn j hj e
    · obtain rfl : j = k := by omega
      exact h2
  have hd := of_decide_eq_false hd
  refine goB ?_
  exact Ret.data rfl (by rw [decide_eq_true (show a = b from List.ext_getElem hl fun j h1 h3 => hn j h1 (by omega))]; rfl) (.base _)
noncomputable def slcS (s : ByteArray) (f t : Int) : ByteArray × Int :=
  if errF s = 0 then (if ixO (mks s) f < 0 ∨ ixO (mks s) t < 0 then (⟨#[]⟩, 241) else if t < f then (⟨#[]⟩, 1) else (s.extract f.toNat t.toNat, 0)) else (⟨#[]⟩, errF s)
theorem contains_ok (B : List Nat) (hB : B.length ≤ 1000000) (v : Int) : Fn Tryd.prog 83 [.lst (B.map encO), .int v] (.bool (decide (0 ≤ ixO B v))) := by
  have i1 := index_ok B hB v
  refine Fn.intro' [(0, .lst (B.map encO)), (1, .int v)] 2 9 Tryd.func83 (by kernel_rfl) rfl rfl rfl rfl rfl ?_
  refine goB ?_
  refine callA (i1) ?_
  refine goB ?_
  exact Ret.bool rfl (by simp)
theorem slcT (s : ByteArray) : ∀ f t : Int, slcS s f t = if errF s = 0 then (if ixO (mks s) f < 0 ∨ ixO (mks s) t < 0 then (⟨#[]⟩, 241) else if t < f then (⟨#[]⟩, 1) else (s.extract f.toNat t.toNat, 0)) else (⟨#[]⟩, errF s) := fun _ _ => rfl
theorem ix_le {s : ByteArray} {v : Int} (h : ¬ ixO (mks s) v < 0) : 0 ≤ v ∧ v ≤ s.size := by
  rcases ixO_cases (mks s) v with ⟨e, _⟩ | ⟨i, hi, e, e2⟩
  · omega
  · have := mks_le s _ (List.getElem_mem hi); omega
theorem Pu_t2s (x : ByteArray) (n : Int) : Pu (.tup [str x, .int n]) := .tup fun c hc => by
  simp only [List.mem_cons, List.not_mem_nil, or_false] at hc
  rcases hc with rfl | rfl <;> exact .base _
theorem slice_ok (s : ByteArray) (f t : Int) : FnM Tryd.prog mm24 48 [str s, .int f, .int t] (.tup [str (slcS s f t).1, .int (slcS s f t).2]) := by
  have hc := check_ok [s] (by simp)
  rw [errL_1] at hc
  have hm := fun h => marks_ok s h
  have hl := mks_len s
  have c1 := fun h => contains_ok (mks s) h f
  have c2 := fun h => contains_ok (mks s) h t
  have lf := ix_le (s := s) (v := f)
  have lt := ix_le (s := s) (v := t)
  have hN := slcT s f t
  have he := errF_sz (s := s)
  generalize slcS s f t = N at *
  generalize errF s = E at *
  generalize ixO (mks s) f = xf at *
  generalize ixO (mks s) t = xt at *
  generalize mks s = B at *
  refine FnM.intro' [(0, str s), (1, .int f), (2, .int t)] 3 35 Tryd.func48 (by kernel_rfl) rfl rfl rfl rfl rfl ?_
  refine goB ?_
  refine callA (hc) ?_
  refine goB ?_
  refine ifA (fun h1 => ?_) (fun h1 => ?_)
  · simp at h1
    rw [if_neg h1] at hN
    refine goB ?_
    exact Ret.data rfl (by rw [hN]; rfl) (Pu_t2s _ _)
  simp at h1
  rw [if_pos h1] at hN
  have hsz := (he h1).1
  refine goB ?_
  refine callA ((hm (by omega))) ?_
  refine goB ?_
  refine callA ((c1 (by omega))) ?_
  refine goB ?_
  refine gcallA (i := fun hg => (c2 (by omega))) (hr := ?_)
  refine goB ?_
  refine ifA (fun h3 => ?_) (fun h3 => ?_)
  · rw [if_pos (by simp at h3; omega)] at hN
    refine goB ?_
    exact Ret.data rfl (by rw [hN]; rfl) (Pu_t2s _ _)
  have h4 : ¬ xf < 0 ∧ ¬ xt < 0 := by simp at h3; omega
  have lf := lf h4.1
  have lt := lt h4.2
  rw [if_neg (by omega)] at hN
  refine goB ?_
  refine ifA (fun h5 => ?_) (fun h5 => ?_)
  · rw [if_pos (by simp at h5; omega)] at hN
    refine goB ?_
    exact Ret.data rfl (by rw [hN]; rfl) (Pu_t2s _ _)
  have h5 := of_decide_eq_false h5
  rw [if_neg (by omega)] at hN
  obtain ⟨a, rfl⟩ : ∃ a : Nat, f = a := ⟨f.toNat, by omega⟩
  obtain ⟨b, rfl⟩ : ∃ b : Nat, t = b := ⟨t.toNat, by omega⟩
  refine goB ?_
  refine ARun.q1 rfl rfl (ql_slice_str (l := a) (h := b) rfl Tryd.underlying9 (by simp [bnd, lk, go_sem]) (by simp [bnd, lk, go_sem]) (by omega) (by omega)) ?_
  refine goB ?_
  exact Ret.data rfl (by rw [hN]; rfl) (Pu_t2s _ _)
theorem refSlice_ok (s : ByteArray) (f t : Int) : Fn Tryd.prog 54 [str s, .int f, .int t] (.tup [str (slcS s f t).1, .int (slcS s f t).2]) := by
  have hc := fit_ok s
  have hm := fun h h2 => bounds_ok s h h2
  have hl := mks_len s
  have c1 := fun h => place_ok (mks s) h f
  have c2 := fun h => place_ok (mks s) h t
  have lf := ix_le (s := s) (v := f)
  have lt := ix_le (s := s) (v := t)
  have hN := slcT s f t
  have he := errF_sz (s := s)
  generalize slcS s f t = N at *
  generalize errF s = E at *
  generalize ixO (mks s) f = xf at *
  generalize ixO (mks s) t = xt at *
  generalize mks s = B at *
  refine Fn.intro' [(0, str s), (1, .int f), (2, .int t)] 3 34 Tryd.func54 (by kernel_rfl) rfl rfl rfl rfl rfl ?_
  refine goB ?_
  refine callA (hc) ?_
  refine goB ?_
  refine ifA (fun h1 => ?_) (fun h1 => ?_)
  · simp at h1
    rw [if_neg h1] at hN
    refine goB ?_
    exact Ret.data rfl (by rw [hN]; rfl) (Pu_t2s _ _)
  simp at h1
  rw [if_pos h1] at hN
  obtain ⟨hsz, hvd⟩ := he h1
  refine goB ?_
  refine callA ((hm (by omega) hvd)) ?_
  refine goB ?_
  refine callA ((c1 (by omega))) ?_
  refine goB ?_
  refine gcallA (i := fun hg => (c2 (by omega))) (hr := ?_)
  refine goB ?_
  refine ifA (fun h3 => ?_) (fun h3 => ?_)
  · rw [if_pos (by simp at h3; omega)] at hN
    refine goB ?_
    exact Ret.data rfl (by rw [hN]; rfl) (Pu_t2s _ _)
  have h4 : ¬ xf < 0 ∧ ¬ xt < 0 := by simp at h3; omega
  have lf := lf h4.1
  have lt := lt h4.2
  rw [if_neg (by omega)] at hN
  refine goB ?_
  refine ifA (fun h5 => ?_) (fun h5 => ?_)
  · rw [if_pos (by simp at h5; omega)] at hN
    refine goB ?_
    exact Ret.data rfl (by rw [hN]; rfl) (Pu_t2s _ _)
  have h5 := of_decide_eq_false h5
  rw [if_neg (by omega)] at hN
  obtain ⟨a, rfl⟩ : ∃ a : Nat, f = a := ⟨f.toNat, by omega⟩
  obtain ⟨b, rfl⟩ : ∃ b : Nat, t = b := ⟨t.toNat, by omega⟩
  refine goB ?_
  refine ARun.q1 rfl rfl (ql_slice_str (l := a) (h := b) rfl Tryd.underlying9 (by simp [bnd, lk, go_sem]) (by simp [bnd, lk, go_sem]) (by omega) (by omega)) ?_
  refine goB ?_
  exact Ret.data rfl (by rw [hN]; rfl) (Pu_t2s _ _)
noncomputable def decE (s : ByteArray) : List Int := if errF s = 0 then riL s (nch s) else []
theorem decode_ok (s : ByteArray) : FnM Tryd.prog mm24 39 [str s] (.tup [.lst ((decE s).map AV.int), .int (errF s)]) := by
  have hc := check_ok [s] (by simp)
  rw [errL_1] at hc
  have hN : decE s = if errF s = 0 then riL s (nch s) else [] := rfl
  have he := errF_sz (s := s)
  generalize decE s = N at *
  generalize errF s = E at *
  refine FnM.intro' [(0, str s)] 1 25 Tryd.func39 (by kernel_rfl) rfl rfl rfl rfl rfl ?_
  refine goB ?_
  refine callA (hc) ?_
  refine goB ?_
  refine ifA (fun h1 => ?_) (fun h1 => ?_)
  · simp at h1
    rw [if_neg h1] at hN
    refine goB ?_
    exact Ret.pub rfl (by rw [hN]; exact Pub.tup' ⟨Pub.nilS, Pub.pu (.base _), trivial⟩)
  simp at h1
  rw [if_pos h1] at hN
  have hsz := (he h1).1
  refine goB ?_
  refine ARun.p1 rfl rfl (pl_rangeStr (by simp +decide only [go_sem] <;> rfl) Tryd.underlying9) ?_
  refine goB ?_
  refine AWp.loop (J := fun k : Nat => ∀ j, j < k → pz s j < s.size)
    (fun k => ⟨[(0, str s), (2, .base (.slice none 0 0)), (3, .base (.int .i64 0)), (5, .own 1 k 0 k), (15, .iterv 0)], [iterB s (pz s k), ⟨3, 1, (riL s k).map AV.int⟩]⟩) (fun k => s.size - pz s k) 0 (fun j h => by omega) (.nil 3 1 (by simp +decide [List.forall_mem_cons, lk, putE, cut, Le.refl])) ?_
  intro k hk
  refine goB ?_
  by_cases h : pz s k < s.size
  · have hr := rn_rg s k
    have hkl := pz_ge s k
    have hk1 : ∀ j, j < k + 1 → pz s j < s.size := fun j hj => by
      by_cases e : j < k
      · exact hk j e
      · obtain rfl : j = k := by omega
        exact h
    refine ARun.p1 rfl rfl (pl_nextStr (by simp +decide only [go_sem] <;> rfl) rfl h) ?_
    refine goB ?_
    refine ifT ?_
    refine goB ?_
    rw [dec_pz s k h, show ((Utf8.decode s (pz s k)).1 : Int) = rnA s k from rfl, wrap_id (by omega) (by omega)]
    refine goB ?_
    refine ARun.p1 rfl rfl (pl_append (b := 1) (tot := k) (es := [.int (rnA s k)]) (by simp +decide only [go_sem] <;> rfl) (by simp +decide only [go_sem] <;> rfl) rfl (by simp [riL_len]) Tryd.underlying37 el3d rfl rfl (by simp) (fun e he => by rw [List.mem_singleton] at he; subst he; exact ⟨rfl, rfl⟩) (by simp; omega) (by simp; omega)) ?_
    rw [← riL_s]
    refine goB ?_
    exact ⟨k + 1, hk1, by have := pz_lt h; omega, .wk⟩
  · refine ARun.q1 rfl rfl (ql_nextEnd (by simp +decide only [go_sem] <;> rfl) rfl (by omega)) ?_
    have hn : k = nch s := (nch_eq hk (by omega)).symm
    refine goB ?_
    refine ifF ?_
    refine goB ?_
    exact Ret.pub rfl (by rw [hN, h1, ← hn]; exact Pub.tup' ⟨Pub.ownM (by decide) rfl (riL_len s k) fun x _ => Pu_cI x, Pub.pu (.base _), trivial⟩)
theorem refDecode_ok (s : ByteArray) : Fn Tryd.prog 40 [str s] (.tup [.lst ((decE s).map AV.int), .int (errF s)]) := by
  have hc := fit_ok s
  have hm := fun h h2 => chars_ok s h h2
  have hN : decE s = if errF s = 0 then riL s (nch s) else [] := rfl
  have he := errF_sz (s := s)
  generalize decE s = N at *
  generalize errF s = E at *
  refine Fn.intro' [(0, str s)] 1 18 Tryd.func40 (by kernel_rfl) rfl rfl rfl rfl rfl ?_
  refine goB ?_
  refine callA (hc) ?_
  refine goB ?_
  refine ifA (fun h1 => ?_) (fun h1 => ?_)
  · simp at h1
    rw [if_neg h1] at hN
    refine goB ?_
    exact Ret.pub rfl (by rw [hN]; exact Pub.tup' ⟨Pub.nilS, Pub.pu (.base _), trivial⟩)
  simp at h1
  rw [if_pos h1] at hN
  obtain ⟨hsz, hvd⟩ := he h1
  refine goB ?_
  refine callA ((hm (by omega) hvd)) ?_
  refine goB ?_
  exact Ret.pub rfl (by rw [hN, h1]; exact Pub.tup' ⟨Pub.pu (Pu_riL _ _), Pub.pu (.base _), trivial⟩)
end Go.Ab
set_option maxHeartbeats 4000000
namespace Go.Ab
open Go Go.Ab Go.Proofs Go.Ab.Ty

/-! ### the document's Reverse -/
theorem cat_snoc (l : List ByteArray) (x : ByteArray) : cat (l ++ [x]) = cat l ++ x := by
  apply ByteArray.ext
  apply Array.ext'
  simp [cat, ByteArray.data_append]
theorem cat_nil : cat [] = ⟨#[]⟩ := rfl
theorem drop_rev {l : List ByteArray} {m : Nat} (h : m < l.length) : (l.drop m).reverse = (l.drop (m + 1)).reverse ++ [l[m]] := by
  rw [List.drop_eq_getElem_cons h, List.reverse_cons]
theorem drop_sz (L : List ByteArray) (j : Nat) : (cat (L.drop j).reverse).size ≤ (cat L).size := by
  rw [cat_rev, cat_size, cat_size]
  conv => rhs; rw [← List.take_append_drop j L]
  rw [List.map_append, List.sum_append]; omega
theorem refReverse_ok (s : ByteArray) : Fn Tryd.prog 61 [str s] (.tup [str (revE s), .int (errF s)]) := by
  have hc := fit_ok s
  have hm := fun h h2 => refClusters_ok s h h2
  have hN : revE s = if errF s = 0 then cat (clu s).reverse else ⟨#[]⟩ := rfl
  have he := errF_sz (s := s)
  have hln := clu_len s
  have hcs := clu_size s
  have hml := mks_len s
  generalize revE s = N at *
  generalize errF s = E at *
  generalize clu s = L at *
  refine Fn.intro' [(0, str s)] 1 29 Tryd.func61 (by kernel_rfl) rfl rfl rfl rfl rfl ?_
  refine goB ?_
  refine callA (hc) ?_
  refine goB ?_
  refine ifA (fun h1 => ?_) (fun h1 => ?_)
  · simp at h1
    rw [if_neg h1] at hN
    refine goB ?_
    exact Ret.data rfl (by rw [hN]; rfl) (Pu_t2s _ _)
  simp at h1
  rw [if_pos h1] at hN
  obtain ⟨hsz, hvd⟩ := he h1
  refine goB ?_
  refine callA ((hm (by omega) hvd)) ?_
  refine goB ?_
  rw [wrap_id (by omega) (by omega)]
  refine keA [0, 2, 3, 5, 6, 7] ?_
  refine AWp.loopP (J := fun m : Nat => m ≤ L.length) (fun m => [(6, str (cat (L.drop m).reverse)), (7, .int ((m : Int) - 1))]) (fun m => m) L.length (Nat.le_refl _) (by rw [List.drop_length]; exact .wk) ?_
  intro m hm2
  refine goB ?_
  refine ifA (fun h => ?_) (fun h => ?_)
  · have h := of_decide_eq_true h
    obtain ⟨j, rfl⟩ : ∃ j, m = j + 1 := ⟨m - 1, by omega⟩
    have ej : ((j + 1 : Nat) : Int) - 1 = (j : Int) := by omega
    have hg : nth default L (j : Int) = L[j] := nth_eq (by omega)
    rw [ej]
    refine goB ?_
    rw [hg]
    have hs0 := drop_sz L j
    rw [drop_rev (l := L) (m := j) (by omega), cat_snoc, ByteArray.size_append] at hs0
    refine ARun.q1 rfl rfl (ql_addStr (a := cat (L.drop (j + 1)).reverse) (b := L[j]) (by simp +decide only [go_sem] <;> rfl) (by simp +decide only [go_sem] <;> rfl) (by omega)) ?_
    refine goB ?_
    rw [wrap_id (by omega) (by omega)]
    refine ⟨j, by omega, by omega, ?_⟩
    rw [drop_rev (l := L) (m := j) (by omega), cat_snoc]
    exact .wk
  have h := of_decide_eq_false h
  obtain rfl : m = 0 := by omega
  refine goB ?_
  exact Ret.data rfl (by rw [hN, h1]; rfl) (Pu_t2s _ _)
end Go.Ab
