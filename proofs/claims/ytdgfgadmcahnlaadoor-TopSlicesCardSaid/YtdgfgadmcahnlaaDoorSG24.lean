/- Part of the proof. -/
import Derived.Test.YtdgfgadmcahnlaaDoorTP
import Derived.Test.YtdgfgadmcahnlaaDoorUR24
set_option linter.unusedSimpArgs false
set_option linter.unusedVariables false
set_option maxHeartbeats 4000000
namespace Go.Ab
open Go Go.Ab Go.Proofs

/-! ### the clusters of a part between two boundaries: plain -/
theorem mI_inc (s : ByteArray) : (mI s).Pairwise (· < ·) := by
  rw [mI]
  exact List.pairwise_append.2 ⟨bI_inc, List.pairwise_singleton _ _, fun a ha b hb => by rw [List.mem_singleton] at hb; subst hb; exact (bI_lt ha).1⟩
theorem mI_len (s : ByteArray) : (mI s).length = (clu s).length + 1 := by
  have h1 := clu_len s
  have h2 := mks_len s
  have h3 : (mks s).length = (mI s).length := by rw [mks_I, List.length_map]
  omega
theorem mI_lt (s : ByteArray) {i j : Nat} (hij : i < j) (hj : j < (mI s).length) : (mI s)[i]'(by omega) < (mI s)[j] :=
  List.pairwise_iff_getElem.1 (mI_inc s) i j (by omega) hj hij
theorem mI_le (s : ByteArray) {i j : Nat} (hij : i ≤ j) (hj : j < (mI s).length) : (mI s)[i]'(by omega) ≤ (mI s)[j] := by
  rcases Nat.lt_or_ge i j with h | h
  · exact Nat.le_of_lt (mI_lt s h hj)
  · obtain rfl : i = j := by omega
    exact Nat.le_refl _
theorem mI_drop {s : ByteArray} {i : Nat} (h : i < (mI s).length) : (bI (cls s) (mI s)[i]).length = i ∧
    (mI s).drop i = (bI (shf (cls s) (mI s)[i]) (nch s - (mI s)[i]) ++ [nch s - (mI s)[i]]).map ((mI s)[i] + ·) := by
  obtain ⟨h1, h2⟩ := mI_B (List.getElem_mem h)
  have hc := mI_cut h2 h1
  generalize ha : (mI s)[i] = a at *
  have hrl : ∃ r, bI (shf (cls s) a) (nch s - a) ++ [nch s - a] = 0 :: r := by
    rcases Nat.eq_zero_or_pos (nch s - a) with e | e
    · rw [e]; exact ⟨[], rfl⟩
    · obtain ⟨r, hr⟩ := bI_head (cl := shf (cls s) a) (nch s - a) e
      exact ⟨r ++ [nch s - a], by rw [hr]; rfl⟩
  obtain ⟨r, hr⟩ := hrl
  rw [hr] at hc
  have hk : (bI (cls s) a).length < (mI s).length := by rw [hc]; simp
  have hg : (mI s)[(bI (cls s) a).length]'hk = a := by
    have : (mI s)[(bI (cls s) a).length]? = some a := by rw [hc]; simp
    rw [List.getElem?_eq_getElem hk] at this; injection this
  have hlen : (bI (cls s) a).length = i := by
    rcases Nat.lt_trichotomy (bI (cls s) a).length i with q | q | q
    · have := mI_lt s q h; omega
    · exact q
    · have := mI_lt s q hk; omega
  refine ⟨hlen, ?_⟩
  rw [hr, hc, ← hlen, List.drop_left]
theorem part_atB {s : ByteArray} (hv : Vd s 0) {i j : Nat} (hij : i ≤ j) (hj : j < (mI s).length) :
    mI (part s ((mI s)[i]'(by omega)) (mI s)[j]) = (((mI s).drop i).take (j - i + 1)).map (· - (mI s)[i]'(by omega)) := by
  have hi : i < (mI s).length := by omega
  have hab := mI_le s hij hj
  obtain ⟨hbn, _⟩ := mI_B (List.getElem_mem hj)
  obtain ⟨li, hd⟩ := mI_drop hi
  generalize ha : (mI s)[i] = a at *
  generalize hb : (mI s)[j] = b at *
  have han : a ≤ nch s := by omega
  -- the rest of the text
  have hT : mI (part s a (nch s)) = bI (shf (cls s) a) (nch s - a) ++ [nch s - a] := part_mI hv han (Nat.le_refl _)
  rw [← hT] at hd
  have hmj : (mI (part s a (nch s)))[j - i]? = some (b - a) := by
    have : ((mI s).drop i)[j - i]? = some b := by rw [List.getElem?_drop, show i + (j - i) = j by omega, List.getElem?_eq_getElem hj, hb]
    rw [hd, List.getElem?_map] at this
    cases hx : (mI (part s a (nch s)))[j - i]? with
    | none => rw [hx] at this; cases this
    | some z => rw [hx] at this; simp at this; congr 1; omega
  obtain ⟨hjl, hje⟩ := List.getElem?_eq_some_iff.1 hmj
  obtain ⟨lj, hd2⟩ := mI_drop hjl
  rw [hje] at lj hd2
  have htk : (mI (part s a (nch s))).take (j - i + 1) = bI (shf (cls s) a) (b - a) ++ [b - a] := by
    obtain ⟨g1, g2⟩ := mI_B (List.getElem_mem hjl)
    rw [hje] at g1 g2
    have hc := mI_cut g2 g1
    rw [part_bI hv han (Nat.le_refl _) (by omega)] at hc lj
    rw [List.take_succ_eq_append_getElem hjl, hje]
    congr 1
    conv => lhs; rw [hc]
    rw [← lj, List.take_left]
  rw [part_mI hv hab hbn, hd, ← List.map_take, htk, List.map_map]
  conv => lhs; rw [← List.map_id (bI (shf (cls s) a) (b - a) ++ [b - a])]
  apply List.map_congr_left
  intro x _
  simp
theorem ext_ext (s : ByteArray) {a b c d : Nat} (h : a + d ≤ b) : (s.extract a b).extract c d = s.extract (a + c) (a + d) := by
  apply ByteArray.ext
  have h1 := ByteArray.data_extract (a := s.extract a b) (b := c) (e := d)
  have h2 := ByteArray.data_extract (a := s) (b := a) (e := b)
  have h3 := ByteArray.data_extract (a := s) (b := a + c) (e := a + d)
  rw [h1, h2, h3, Array.extract_extract, Nat.min_eq_left h]
theorem part_part {s : ByteArray} (hv : Vd s 0) {a b c d : Nat} (hab : a ≤ b) (hb : b ≤ nch s) (hcd : c ≤ d) (hd : d ≤ b - a) : part (part s a b) c d = part s (a + c) (a + d) := by
  have e1 := part_pz hv hab hb c (by omega)
  have e2 := part_pz hv hab hb d hd
  have e3 := pz_mono s (show a + d ≤ b by omega)
  have h1 : part (part s a b) c d = (part s a b).extract (pz (part s a b) c) (pz (part s a b) d) := rfl
  have h2 : part s (a + c) (a + d) = s.extract (pz s (a + c)) (pz s (a + d)) := rfl
  rw [h1, h2, ← e1, ← e2]
  generalize pz (part s a b) c = x at *
  generalize pz (part s a b) d = y at *
  exact ext_ext s (by omega)
theorem clu_at {s : ByteArray} {i : Nat} (h : i < (clu s).length) : (clu s)[i] = part s ((mI s)[i]'(by rw [mI_len]; omega)) ((mI s)[i + 1]'(by rw [mI_len]; omega)) := by
  obtain ⟨a, b, _, _, h3, h4, h5⟩ := clu_get' h
  obtain ⟨_, e1⟩ := List.getElem?_eq_some_iff.1 h4
  obtain ⟨_, e2⟩ := List.getElem?_eq_some_iff.1 h5
  rw [h3, e1, e2]
noncomputable def seg (s : ByteArray) (i j : Nat) : ByteArray := part s (((mI s)[i]?).getD 0) (((mI s)[j]?).getD 0)
theorem mI_get {s : ByteArray} {i : Nat} (h : i ≤ (clu s).length) : ((mI s)[i]?).getD 0 = (mI s)[i]'(by rw [mI_len]; omega) := by
  rw [List.getElem?_eq_getElem (by rw [mI_len]; omega)]; rfl
theorem seg_clu {s : ByteArray} (hv : Vd s 0) {i j : Nat} (hij : i ≤ j) (hj : j ≤ (clu s).length) : clu (seg s i j) = ((clu s).drop i).take (j - i) := by
  have hl := mI_len s
  have hm := part_atB hv hij (by omega)
  rw [seg, mI_get (by omega), mI_get hj]
  have hab := mI_le s hij (by omega)
  obtain ⟨hbn, _⟩ := mI_B (s := s) (List.getElem_mem (show j < (mI s).length by omega))
  have hlen : (clu (part s (mI s)[i] (mI s)[j])).length = j - i := by
    have := mI_len (part s (mI s)[i] (mI s)[j])
    rw [hm] at this
    simp at this; omega
  apply List.ext_getElem
  · rw [hlen]; simp; omega
  · intro k h1 h2
    have hk : k < j - i := by omega
    have g : ∀ q, (hq : q ≤ j - i) → (mI (part s (mI s)[i] (mI s)[j]))[q]'(by rw [mI_len]; omega) = (mI s)[i + q] - (mI s)[i] := fun q hq => by
      simp only [hm, List.getElem_map, List.getElem_take, List.getElem_drop]
    rw [clu_at h1, g k (by omega), g (k + 1) (by omega)]
    have o1 := mI_le s (i := i) (j := i + k) (by omega) (by omega)
    have o2 := mI_lt s (i := i + k) (j := i + (k + 1)) (by omega) (by omega)
    have o3 := mI_le s (i := i + (k + 1)) (j := j) (by omega) (by omega)
    rw [part_part hv hab hbn (by omega) (by omega), show (mI s)[i] + ((mI s)[i + k] - (mI s)[i]) = (mI s)[i + k] by omega, show (mI s)[i] + ((mI s)[i + (k + 1)] - (mI s)[i]) = (mI s)[i + (k + 1)] by omega]
    simp only [List.getElem_take, List.getElem_drop]
    rw [clu_at (by omega)]
    rfl
theorem cat_one (x : ByteArray) : cat [x] = x := by
  apply ByteArray.ext
  simp [cat]
theorem part_self (s : ByteArray) (a : Nat) : part s a a = ⟨#[]⟩ := by
  have : (part s a a).size = 0 := by rw [part_size]; omega
  generalize part s a a = x at *
  obtain ⟨⟨l⟩⟩ := x
  have : l.length = 0 := this
  rw [List.eq_nil_of_length_eq_zero this]
theorem seg_self (s : ByteArray) (i : Nat) : seg s i i = ⟨#[]⟩ := part_self _ _
theorem seg_app {s : ByteArray} {i j k : Nat} (hij : i ≤ j) (hjk : j ≤ k) (hk : k ≤ (clu s).length) : seg s i j ++ seg s j k = seg s i k := by
  have hl := mI_len s
  rw [seg, seg, seg, mI_get (by omega), mI_get (by omega), mI_get hk]
  have o1 := mI_le s hij (by omega)
  have o2 := mI_le s hjk (by omega)
  exact ext_app s (pz_mono s o1) (pz_mono s o2) (pz_le s _)
theorem seg_one {s : ByteArray} {i : Nat} (h : i < (clu s).length) : seg s i (i + 1) = (clu s)[i] := by
  rw [seg, mI_get (by omega), mI_get (by omega), clu_at h]
theorem cat_seg {s : ByteArray} {i : Nat} : ∀ n, i + n ≤ (clu s).length → cat (((clu s).drop i).take n) = seg s i (i + n)
  | 0, h => by rw [Nat.add_zero, seg_self]; rfl
  | n + 1, h => by
    have ih := cat_seg (s := s) (i := i) n (by omega)
    have hn : n < ((clu s).drop i).length := by rw [List.length_drop]; omega
    rw [List.take_succ_eq_append_getElem hn, cat_snoc, ih, List.getElem_drop, ← seg_one (by omega), seg_app (by omega) (by omega) (by omega)]
    rfl
theorem mI_0 (s : ByteArray) (h : 0 < (mI s).length) : (mI s)[0] = 0 := by
  rcases Nat.eq_zero_or_pos (nch s) with e | e
  · simp only [mI, e, bI]; rfl
  · obtain ⟨r, hr⟩ := bI_head (cl := cls s) (nch s) e
    simp only [mI, hr]; rfl
theorem mI_end (s : ByteArray) (h : (clu s).length < (mI s).length) : (mI s)[(clu s).length] = nch s := by
  have hl := mI_len s
  have e : (bI (cls s) (nch s)).length = (clu s).length := by rw [mI] at hl; simp at hl; omega
  simp only [mI, ← e]
  simp
theorem seg_all (s : ByteArray) : seg s 0 (clu s).length = s := by
  have hl := mI_len s
  rw [seg, mI_get (by omega), mI_get (Nat.le_refl _), mI_0, mI_end, part_all]
theorem cat_clu (s : ByteArray) : cat (clu s) = s := by
  have := cat_seg (s := s) (i := 0) (clu s).length (by omega)
  rw [Nat.zero_add, seg_all, List.drop_zero, List.take_length] at this
  exact this
theorem seg_vd {s : ByteArray} (hv : Vd s 0) {i j : Nat} (hij : i ≤ j) (hj : j ≤ (clu s).length) : Vd (seg s i j) 0 := by
  have hl := mI_len s
  rw [seg, mI_get (by omega), mI_get hj]
  exact part_vd hv (mI_le s hij (by omega)) (mI_B (List.getElem_mem _)).1
theorem seg_size {s : ByteArray} {i j : Nat} : (seg s i j).size ≤ s.size := by
  rw [seg, part_size]
  have := pz_le s (((mI s)[j]?).getD 0)
  omega
theorem seg_err {s : ByteArray} (h : errF s = 0) {i j : Nat} (hij : i ≤ j) (hj : j ≤ (clu s).length) : errF (seg s i j) = 0 := by
  obtain ⟨h1, h2⟩ := (errF_0 s).1 h
  exact (errF_0 _).2 ⟨by have := seg_size (s := s) (i := i) (j := j); omega, seg_vd h2 hij hj⟩
theorem seg_cf {s : ByteArray} (hv : Vd s 0) {i j : Nat} (hij : i ≤ j) (hj : j ≤ (clu s).length) : cf (seg s i j) = ((cf s).drop i).take (j - i) := by
  rw [cf, seg_clu hv hij hj, cf, List.map_take, List.map_drop]
end Go.Ab
