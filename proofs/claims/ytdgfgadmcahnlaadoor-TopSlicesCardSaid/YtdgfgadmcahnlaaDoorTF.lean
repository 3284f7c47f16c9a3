/- Part of the proof. -/
import Derived.Test.YtdgfgadmcahnlaaDoorTE
set_option linter.unusedSimpArgs false
set_option linter.unusedVariables false
set_option maxHeartbeats 4000000
namespace Go.Ab
open Go Go.Ab Go.Proofs Go.Ab.Ty

/-! ### clusters -/
theorem bF_lt {s : ByteArray} : ∀ {k : Nat}, k ≤ nch s → ∀ x ∈ bF s k, x < s.size ∧ x < pz s k
  | 0, _, x, h => by cases h
  | k + 1, hk, x, h => by
    have h1 : pz s k < s.size := nch_lt (by omega)
    have h2 := pz_lt h1
    have ih := bF_lt (s := s) (k := k) (by omega) x
    rw [bF] at h
    split at h
    · rcases List.mem_append.1 h with h | h
      · have := ih h; omega
      · rw [List.mem_singleton] at h; omega
    · have := ih h; omega
theorem bF_inc {s : ByteArray} : ∀ {k : Nat}, k ≤ nch s → (bF s k).Pairwise (· < ·)
  | 0, _ => .nil
  | k + 1, hk => by
    rw [bF]
    split
    · rw [List.pairwise_append]
      exact ⟨bF_inc (by omega), List.pairwise_singleton _ _, fun a ha b hb => by rw [List.mem_singleton] at hb; have := bF_lt (k := k) (by omega) a ha; omega⟩
    · exact bF_inc (by omega)
theorem mks_le (s : ByteArray) : ∀ x ∈ mks s, x ≤ s.size := fun x h => by
  unfold mks at h
  split at h
  · rcases List.mem_append.1 h with h | h
    · have := bF_lt (Nat.le_refl _) x h; omega
    · rw [List.mem_singleton] at h; omega
  · rw [List.mem_singleton] at h; omega
theorem mks_inc (s : ByteArray) : (mks s).Pairwise (· < ·) := by
  unfold mks
  split
  · rw [List.pairwise_append]
    exact ⟨bF_inc (Nat.le_refl _), List.pairwise_singleton _ _, fun a ha b hb => by rw [List.mem_singleton] at hb; have := bF_lt (Nat.le_refl _) a ha; omega⟩
  · exact List.pairwise_singleton _ _
theorem mks_len (s : ByteArray) : 1 ≤ (mks s).length ∧ (mks s).length ≤ s.size + 1 := by
  have h1 := bF_len s (nch s)
  have h2 := nch_le s
  unfold mks
  split
  · simp; omega
  · simp
def mk (s : ByteArray) (B : List Nat) (i : Nat) : Nat := nth default B (i : Int)
theorem mk_get {s : ByteArray} {B : List Nat} {i : Nat} (h : i < B.length) : mk s B i = B[i] := nth_eq h
def cutB (s : ByteArray) (B : List Nat) (k : Nat) : List ByteArray := (List.range k).map fun i => s.extract (mk s B i) (mk s B (i + 1))
theorem cutB_s (s : ByteArray) (B : List Nat) (k : Nat) : (cutB s B (k + 1)).map str = (cutB s B k).map str ++ [str (s.extract (mk s B k) (mk s B (k + 1)))] := by simp [cutB, List.range_succ]
theorem cutB_len (s : ByteArray) (B : List Nat) (k : Nat) : (cutB s B k).length = k := by simp [cutB]
noncomputable def clu (s : ByteArray) : List ByteArray := cutB s (mks s) ((mks s).length - 1)
theorem mk_ord (s : ByteArray) {i : Nat} (h : i + 1 < (mks s).length) : mk s (mks s) i < mk s (mks s) (i + 1) ∧ mk s (mks s) (i + 1) ≤ s.size := by
  rw [mk_get (by omega), mk_get h]
  exact ⟨List.pairwise_iff_getElem.1 (mks_inc s) i (i + 1) (by omega) h (by omega), mks_le s _ (List.getElem_mem h)⟩
theorem Pu_str (x : ByteArray) : ∀ c ∈ (str x).cells, Pu c := fun c hc => by simp only [AV.cells, List.mem_singleton] at hc; subst hc; exact .base _
theorem refClusters_ok (s : ByteArray) (hs : s.size ≤ 900000) (hv : Vd s 0) : Fn Tryd.prog 82 [str s] (.lst ((clu s).map str)) := by
  have hb := bounds_ok s hs hv
  have ho := fun i h => mk_ord s (i := i) h
  have hl := mks_len s
  unfold clu
  generalize mks s = B at *
  refine Fn.intro' [(0, str s)] 1 30 Tryd.func82 (by kernel_rfl) rfl rfl rfl rfl rfl ?_
  refine goB ?_
  refine callA (hb) ?_
  refine goB ?_
  refine AWp.loop (J := fun k : Nat => k + 1 ≤ B.length)
    (fun k => ⟨[(0, str s), (2, .base (.slice none 0 0)), (3, .lst (B.map encO)), (4, .own 0 k 0 k), (5, .int k)], [⟨9, 1, (cutB s B k).map str⟩]⟩) (fun k => B.length - k) 0 (by omega) (.nil 9 1 (by simp [List.forall_mem_cons, lk, Le.refl])) ?_
  intro k hk
  refine goB ?_
  rw [wrap_succ (by omega)]
  refine ifA (fun h => ?_) (fun h => ?_)
  · have h := of_decide_eq_true h
    have ho := ho k (by omega)
    refine goB ?_
    refine drA (k := 13) follows (hr := ?_)
    refine goB ?_
    rw [wrap_succ (by omega)]
    refine goB ?_
    rw [show nth default B (k : Int) = mk s B k from rfl, show nth default B ((k + 1 : Nat) : Int) = mk s B (k + 1) from rfl]
    refine ARun.q1 rfl rfl (ql_slice_str (l := mk s B k) (h := mk s B (k + 1)) rfl Tryd.underlying9 (by simp [bnd, lk, go_sem]) (by simp [bnd, lk, go_sem]) (by omega) (by omega)) ?_
    refine goB ?_
    refine ARun.p1 rfl rfl (pl_append (b := 0) (tot := k) (es := [str (s.extract (mk s B k) (mk s B (k + 1)))]) (by simp +decide only [go_sem] <;> rfl) (by simp +decide only [go_sem] <;> rfl) rfl (by simp [cutB_len]) Tryd.underlying25 el9d rfl rfl (by simp) (fun e he => by rw [List.mem_singleton] at he; subst he; exact ⟨rfl, rfl⟩) (by simp; omega) (by simp; omega)) ?_
    rw [← cutB_s]
    refine goB ?_
    rw [wrap_succ (by omega)]
    exact ⟨k + 1, by omega, by omega, .wk⟩
  have h := of_decide_eq_false h
  refine goB ?_
  exact Ret.pub rfl (by rw [show B.length - 1 = k by omega]; exact Pub.ownM (by decide) rfl (cutB_len s B k) fun x _ => Pu_str x)
theorem clusters_ok (s : ByteArray) (hs : s.size ≤ 900000) : Fn Tryd.prog 69 [str s] (.lst ((clu s).map str)) := by
  have hb := boundaries_ok s hs
  have ho := fun i h => mk_ord s (i := i) h
  have hl := mks_len s
  have hbm : bnds s = mks s ∨ (bnds s = [] ∧ (mks s).length = 1) := by
    unfold bnds mks
    split
    · exact .inl rfl
    · exact .inr ⟨rfl, rfl⟩
  unfold clu
  generalize mks s = B at *
  generalize bnds s = B2 at *
  have hB2 : B2.length ≤ B.length ∧ B.length ≤ B2.length + 1 ∧ (B2.length = B.length ∨ B.length = 1) := by
    rcases hbm with rfl | ⟨rfl, h⟩
    · omega
    · simp; omega
  refine Fn.intro' [(0, str s)] 1 29 Tryd.func69 (by kernel_rfl) rfl rfl rfl rfl rfl ?_
  refine goB ?_
  refine callA (hb) ?_
  refine goB ?_
  refine AWp.loop (J := fun k : Nat => k + 1 ≤ B.length)
    (fun k => ⟨[(0, str s), (2, .base (.slice none 0 0)), (3, .lst (B2.map encO)), (4, .own 0 k 0 k), (5, .int (k + 1 : Nat))], [⟨9, 1, (cutB s B k).map str⟩]⟩) (fun k => B.length - k) 0 (by omega) (.nil 9 1 (by simp [List.forall_mem_cons, lk, Le.refl])) ?_
  intro k hk
  refine goB ?_
  refine ifA (fun h => ?_) (fun h => ?_)
  · have h := of_decide_eq_true h
    obtain rfl : B2 = B := by
      rcases hbm with e | ⟨rfl, _⟩
      · exact e
      · simp at h; omega
    have ho := ho k (by omega)
    refine goB ?_
    refine drA (k := 13) follows (hr := ?_)
    refine goB ?_
    rw [wrap_id (by omega) (by omega), show ((k + 1 : Nat) : Int) - 1 = (k : Int) by omega]
    refine goB ?_
    rw [show nth default B2 (k : Int) = mk s B2 k from rfl, show nth default B2 ((k + 1 : Nat) : Int) = mk s B2 (k + 1) from rfl]
    refine ARun.q1 rfl rfl (ql_slice_str (l := mk s B2 k) (h := mk s B2 (k + 1)) rfl Tryd.underlying9 (by simp [bnd, lk, go_sem]) (by simp [bnd, lk, go_sem]) (by omega) (by omega)) ?_
    refine goB ?_
    refine ARun.p1 rfl rfl (pl_append (b := 0) (tot := k) (es := [str (s.extract (mk s B2 k) (mk s B2 (k + 1)))]) (by simp +decide only [go_sem] <;> rfl) (by simp +decide only [go_sem] <;> rfl) rfl (by simp [cutB_len]) Tryd.underlying25 el9d rfl rfl (by simp) (fun e he => by rw [List.mem_singleton] at he; subst he; exact ⟨rfl, rfl⟩) (by simp; omega) (by simp; omega)) ?_
    rw [← cutB_s]
    refine goB ?_
    rw [wrap_succ (by omega)]
    exact ⟨k + 1, by omega, by omega, .wk⟩
  have h := of_decide_eq_false h
  refine goB ?_
  exact Ret.pub rfl (by rw [show B.length - 1 = k by omega]; exact Pub.ownM (by decide) rfl (cutB_len s B k) fun x _ => Pu_str x)
end Go.Ab
set_option maxHeartbeats 4000000
namespace Go.Ab
open Go Go.Ab Go.Proofs Go.Ab.Ty

/-! ### steps from mark to mark -/
def ixO (B : List Nat) (v : Int) : Int := match B.findIdx? (fun (b : Nat) => decide ((b : Int) = v)) with
  | some i => i
  | none => -1
theorem ixO_some {B : List Nat} {v : Int} {i : Nat} (h : i < B.length) (e : (B[i] : Int) = v) (hn : ∀ j, ∀ hj : j < B.length, j < i → ((B[j]) : Int) ≠ v) : ixO B v = i := by
  unfold ixO
  have : B.findIdx? (fun (b : Nat) => decide ((b : Int) = v)) = some i := List.findIdx?_eq_some_iff_getElem.2 ⟨h, by simpa using e, fun j hj => by simpa using hn j (by omega) hj⟩
  rw [this]
theorem ixO_none {B : List Nat} {v : Int} (hn : ∀ j, ∀ hj : j < B.length, ((B[j]) : Int) ≠ v) : ixO B v = -1 := by
  unfold ixO
  have : B.findIdx? (fun (b : Nat) => decide ((b : Int) = v)) = none := List.findIdx?_eq_none_iff.2 fun x hx => by
    obtain ⟨j, hj, rfl⟩ := List.getElem_of_mem hx
    simpa using hn j hj
  rw [this]
theorem ixO_cases (B : List Nat) (v : Int) : (ixO B v = -1 ∧ ∀ j, ∀ hj : j < B.length, ((B[j]) : Int) ≠ v) ∨ ∃ i, ∃ h : i < B.length, ixO B v = i ∧ (B[i] : Int) = v := by
  by_cases h : ∃ j, ∃ hj : j < B.length, ((B[j]) : Int) = v
  · right
    rcases e : B.findIdx? (fun (b : Nat) => decide ((b : Int) = v)) with _ | i
    · obtain ⟨j, hj, h2⟩ := h
      have := List.findIdx?_eq_none_iff.1 e B[j] (List.getElem_mem hj)
      simp [h2] at this
    · obtain ⟨h1, h2, _⟩ := List.findIdx?_eq_some_iff_getElem.1 e
      exact ⟨i, h1, by unfold ixO; rw [e], by simpa using h2⟩
  · left
    have hn : ∀ j, ∀ hj : j < B.length, ((B[j]) : Int) ≠ v := fun j hj e => h ⟨j, hj, e⟩
    exact ⟨ixO_none hn, hn⟩
theorem index_ok (B : List Nat) (hB : B.length ≤ 1000000) (v : Int) : Fn Tryd.prog 97 [.lst (B.map encO), .int v] (.int (ixO B v)) := by
  refine Fn.intro' [(0, .lst (B.map encO)), (1, .int v)] 2 19 Tryd.func97 (by kernel_rfl) rfl rfl rfl rfl rfl ?_
  refine goB ?_
  refine AWp.loopP (J := fun k : Nat => k ≤ B.length ∧ ∀ j, ∀ hj : j < B.length, j < k → ((B[j]) : Int) ≠ v) (fun k => [(8, .int k)]) (fun k => B.length - k) 0 ⟨Nat.zero_le _, by omega⟩ .wk ?_
  rintro k ⟨hk, hn⟩
  refine goB ?_
  refine ifA (fun h => ?_) (fun h => ?_)
  · have h := of_decide_eq_true h
    have hg : nth default B (k : Int) = B[k] := nth_eq (by omega)
    refine goB ?_
    rw [hg]
    refine goB ?_
    refine ifA (fun h2 => ?_) (fun h2 => ?_)
    · have h2 := of_decide_eq_true h2
      refine goB ?_
      exact Ret.data rfl (by rw [ixO_some (by omega) h2.symm hn]; rfl) (.base _)
    · have h2 := of_decide_eq_false h2
      refine goB ?_
      rw [wrap_succ (by omega)]
      refine ⟨k + 1, ⟨by omega, fun j hj hjk => ?_⟩, by omega, .wk⟩
      by_cases e : j < k
      · exact hn j hj e
      · obtain rfl : j = k := by omega
        exact fun e => h2 e.symm
  · have h := of_decide_eq_false h
    refine goB ?_
    exact Ret.data rfl (by rw [ixO_none fun j hj => hn j hj (by omega)]; rfl) (.base _)
theorem Pu_t2 (a b : Int) : Pu (.tup [.int a, .int b]) := .tup fun c hc => by
  simp only [List.mem_cons, List.not_mem_nil, or_false] at hc
  rcases hc with rfl | rfl <;> exact .base _
noncomputable def nearS (s : ByteArray) (v step : Int) : Int × Int :=
  if errF s = 0 then (if ixO (mks s) v < 0 then (0, 241) else if ixO (mks s) v + step < 0 ∨ (mks s).length ≤ ixO (mks s) v + step then (0, 1) else (((nth default (mks s) (ixO (mks s) v + step) : Nat) : Int), 0)) else (0, errF s)
noncomputable def nthS (s : ByteArray) (n : Int) : Int × Int :=
  if errF s = 0 then (if n < 0 ∨ (mks s).length ≤ n then (0, 1) else (((nth default (mks s) n : Nat) : Int), 0)) else (0, errF s)
theorem errL_1 (s : ByteArray) : errL [s] = errF s := by
  simp only [errL]; split
  · rename_i h; exact h.symm
  · rfl
theorem errF_sz {s : ByteArray} (h : errF s = 0) : s.size ≤ 400 ∧ Vd s 0 := (errF_0 s).1 h
theorem near_ok (s : ByteArray) (v step : Int) (hst : -1000 ≤ step ∧ step ≤ 1000) : FnM Tryd.prog mm24 70 [str s, .int v, .int step] (.tup [.int (nearS s v step).1, .int (nearS s v step).2]) := by
  have hc := check_ok [s] (by simp)
  rw [errL_1] at hc
  have hm := fun h => marks_ok s h
  have hi := fun h => index_ok (mks s) h v
  have hl := mks_len s
  have hx := ixO_cases (mks s) v
  have hN : nearS s v step = if errF s = 0 then (if ixO (mks s) v < 0 then (0, 241) else if ixO (mks s) v + step < 0 ∨ (mks s).length ≤ ixO (mks s) v + step then (0, 1) else (((nth default (mks s) (ixO (mks s) v + step) : Nat) : Int), 0)) else (0, errF s) := rfl
  have he := errF_sz (s := s)
  generalize nearS s v step = N at *
  generalize errF s = E at *
  generalize ixO (mks s) v = x at *
  generalize mks s = B at *
  refine FnM.intro' [(0, str s), (1, .int v), (2, .int step)] 3 39 Tryd.func70 (by kernel_rfl) rfl rfl rfl rfl rfl ?_
  refine goB ?_
  refine callA (hc) ?_
  refine goB ?_
  refine ifA (fun h1 => ?_) (fun h1 => ?_)
  · simp at h1
    rw [if_neg h1] at hN
    refine goB ?_
    exact Ret.data rfl (by rw [hN]; rfl) (Pu_t2 _ _)
  simp at h1
  rw [if_pos h1] at hN
  have hsz := (he h1).1
  refine goB ?_
  refine callA ((hm (by omega))) ?_
  refine goB ?_
  refine callA ((hi (by omega))) ?_
  refine goB ?_
  refine ifA (fun h2 => ?_) (fun h2 => ?_)
  · simp at h2
    rw [if_pos (by omega)] at hN
    refine goB ?_
    exact Ret.data rfl (by rw [hN]; rfl) (Pu_t2 _ _)
  simp at h2
  rw [if_neg (by omega)] at hN
  have hx2 : x < B.length := by rcases hx with ⟨h, _⟩ | ⟨i, h, h3, _⟩ <;> omega
  refine goB ?_
  rw [wrap_id (by omega) (by omega)]
  refine ifA (fun h3 => ?_) (fun h3 => ?_)
  · rw [if_pos (by simp at h3; omega)] at hN
    refine goB ?_
    exact Ret.data rfl (by rw [hN]; rfl) (Pu_t2 _ _)
  rw [if_neg (by simp at h3; omega)] at hN
  have h4 : 0 ≤ x + step ∧ x + step < B.length := by simp at h3; omega
  refine goB ?_
  exact Ret.data rfl (by rw [hN]; rfl) (Pu_t2 _ _)
theorem after_ok (s : ByteArray) (v : Int) : FnM Tryd.prog mm24 25 [str s, .int v] (.tup [.int (nearS s v 1).1, .int (nearS s v 1).2]) := by
  have i1 := near_ok s v 1 (by omega)
  generalize nearS s v 1 = N at *
  refine FnM.intro' [(0, str s), (1, .int v)] 2 11 Tryd.func25 (by kernel_rfl) rfl rfl rfl rfl rfl ?_
  refine goB ?_
  refine callA (i1) ?_
  refine goB ?_
  exact Ret.data rfl rfl (Pu_t2 _ _)
theorem before_ok (s : ByteArray) (v : Int) : FnM Tryd.prog mm24 26 [str s, .int v] (.tup [.int (nearS s v (-1)).1, .int (nearS s v (-1)).2]) := by
  have i1 := near_ok s v (-1) (by omega)
  generalize nearS s v (-1) = N at *
  refine FnM.intro' [(0, str s), (1, .int v)] 2 11 Tryd.func26 (by kernel_rfl) rfl rfl rfl rfl rfl ?_
  refine goB ?_
  refine callA (i1) ?_
  refine goB ?_
  exact Ret.data rfl rfl (Pu_t2 _ _)
theorem nth_ok (s : ByteArray) (n : Int) : FnM Tryd.prog mm24 27 [str s, .int n] (.tup [.int (nthS s n).1, .int (nthS s n).2]) := by
  have hc := check_ok [s] (by simp)
  rw [errL_1] at hc
  have hm := fun h => marks_ok s h
  have hl := mks_len s
  have hN : nthS s n = if errF s = 0 then (if n < 0 ∨ (mks s).length ≤ n then (0, 1) else (((nth default (mks s) n : Nat) : Int), 0)) else (0, errF s) := rfl
  have he := errF_sz (s := s)
  generalize nthS s n = N at *
  generalize errF s = E at *
  generalize mks s = B at *
  refine FnM.intro' [(0, str s), (1, .int n)] 2 28 Tryd.func27 (by kernel_rfl) rfl rfl rfl rfl rfl ?_
  refine goB ?_
  refine callA (hc) ?_
  refine goB ?_
  refine ifA (fun h1 => ?_) (fun h1 => ?_)
  · simp at h1
    rw [if_neg h1] at hN
    refine goB ?_
    exact Ret.data rfl (by rw [hN]; rfl) (Pu_t2 _ _)
  simp at h1
  rw [if_pos h1] at hN
  have hsz := (he h1).1
  refine goB ?_
  refine callA ((hm (by omega))) ?_
  refine goB ?_
  refine ifA (fun h3 => ?_) (fun h3 => ?_)
  · rw [if_pos (by simp at h3; omega)] at hN
    refine goB ?_
    exact Ret.data rfl (by rw [hN]; rfl) (Pu_t2 _ _)
  rw [if_neg (by simp at h3; omega)] at hN
  have h4 : 0 ≤ n ∧ n < B.length := by simp at h3; omega
  refine goB ?_
  exact Ret.data rfl (by rw [hN]; rfl) (Pu_t2 _ _)
noncomputable def cluE (s : ByteArray) : List ByteArray := if errF s = 0 then clu s else []
noncomputable def mksE (s : ByteArray) : List Nat := if errF s = 0 then bnds s else []
theorem clustersX_ok (s : ByteArray) : FnM Tryd.prog mm24 23 [str s] (.tup [.lst ((cluE s).map str), .int (errF s)]) := by
  have hc := check_ok [s] (by simp)
  rw [errL_1] at hc
  have hm := fun h => clusters_ok s h
  have hN : cluE s = if errF s = 0 then clu s else [] := rfl
  have he := errF_sz (s := s)
  generalize cluE s = N at *
  generalize errF s = E at *
  refine FnM.intro' [(0, str s)] 1 13 Tryd.func23 (by kernel_rfl) rfl rfl rfl rfl rfl ?_
  refine goB ?_
  refine callA (hc) ?_
  refine goB ?_
  refine ifA (fun h1 => ?_) (fun h1 => ?_)
  · simp at h1
    rw [if_neg h1] at hN
    refine goB ?_
    exact Ret.pub rfl (by rw [hN]; exact Pub.tup' ⟨Pub.nilS, Pub.pu (.base _), trivial⟩)
  simp at h1
  rw [if_pos h1] at hN
  have hsz := (he h1).1
  refine goB ?_
  refine callA ((hm (by omega))) ?_
  refine goB ?_
  exact Ret.pub rfl (by rw [hN, h1]; exact Pub.tup' ⟨Pub.pu (Pu_strs _), Pub.pu (.base _), trivial⟩)
theorem countX_ok (s : ByteArray) : FnM Tryd.prog mm24 45 [str s] (.tup [.int ((cluE s).length : Nat), .int (errF s)]) := by
  have hc := check_ok [s] (by simp)
  rw [errL_1] at hc
  have hm := fun h => clusters_ok s h
  have hN : cluE s = if errF s = 0 then clu s else [] := rfl
  have he := errF_sz (s := s)
  generalize cluE s = N at *
  generalize errF s = E at *
  refine FnM.intro' [(0, str s)] 1 14 Tryd.func45 (by kernel_rfl) rfl rfl rfl rfl rfl ?_
  refine goB ?_
  refine callA (hc) ?_
  refine goB ?_
  refine ifA (fun h1 => ?_) (fun h1 => ?_)
  · simp at h1
    rw [if_neg h1] at hN
    refine goB ?_
    exact Ret.data rfl (by rw [hN]; rfl) (Pu_t2 _ _)
  simp at h1
  rw [if_pos h1] at hN
  have hsz := (he h1).1
  refine goB ?_
  refine callA ((hm (by omega))) ?_
  refine goB ?_
  exact Ret.data rfl (by rw [hN, h1]; rfl) (Pu_t2 _ _)
end Go.Ab
