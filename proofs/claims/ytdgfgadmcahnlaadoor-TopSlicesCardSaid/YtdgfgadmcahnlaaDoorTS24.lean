/- Part of the proof. -/
import Derived.Test.YtdgfgadmcahnlaaDoorPT24
import Derived.Test.YtdgfgadmcahnlaaDoorCT24
set_option linter.unusedSimpArgs false
set_option linter.unusedVariables false
set_option maxHeartbeats 4000000
namespace Go.Ab
open Go Go.Ab Go.Proofs Go.Ab.Ty

/-! ### texts that are parts of one text, one after the other (plain) -/
inductive Ct (s : ByteArray) : Nat → List ByteArray → Nat → Prop
  | nil (a : Nat) (h : a ≤ (clu s).length) : Ct s a [] a
  | cons {a b e : Nat} {l : List ByteArray} (h : a ≤ b) (t : Ct s b l e) : Ct s a (seg s a b :: l) e
theorem Ct.le {s : ByteArray} {a e : Nat} {l : List ByteArray} (h : Ct s a l e) : a ≤ e ∧ e ≤ (clu s).length := by
  induction h with
  | nil a h => exact ⟨Nat.le_refl _, h⟩
  | cons h t ih => exact ⟨by omega, ih.2⟩
theorem Ct.app {s : ByteArray} {a e f : Nat} {l m : List ByteArray} (h : Ct s a l e) (h2 : Ct s e m f) : Ct s a (l ++ m) f := by
  induction h with
  | nil a h => exact h2
  | cons h t ih => exact .cons h (ih h2)
theorem Ct.split {s : ByteArray} : ∀ {a e : Nat} {l m : List ByteArray}, Ct s a (l ++ m) e → ∃ b, Ct s a l b ∧ Ct s b m e
  | a, e, [], m, h => ⟨a, .nil a (by have := h.le; omega), h⟩
  | a, e, x :: l, m, h => by
    cases h with
    | cons h t =>
      obtain ⟨b, h1, h2⟩ := Ct.split t
      exact ⟨b, .cons h h1, h2⟩
theorem Ct.at {s : ByteArray} {a e k : Nat} {l : List ByteArray} (h : Ct s a l e) (hk : k < l.length) : ∃ b c, b ≤ c ∧ Ct s a (l.take k) b ∧ l[k] = seg s b c ∧ Ct s c (l.drop (k + 1)) e := by
  rw [← List.take_append_drop k l] at h
  obtain ⟨b, h1, h2⟩ := Ct.split h
  rw [List.drop_eq_getElem_cons hk] at h2
  generalize hx : l[k] = x at h2
  cases h2 with
  | cons h t => exact ⟨b, _, h, h1, rfl, t⟩
theorem Ct.cat {s : ByteArray} {a e : Nat} {l : List ByteArray} (h : Ct s a l e) : cat l = seg s a e := by
  induction h with
  | nil a h => rw [seg_self]; rfl
  | cons h t ih =>
    rw [← seg_app h t.le.1 t.le.2, ← ih]
    simp [Go.Ab.cat, ByteArray.ext_iff]
theorem Ct.clus {s : ByteArray} (hv : Vd s 0) {a e : Nat} {l : List ByteArray} (h : Ct s a l e) : (l.map clu).flatten = ((clu s).drop a).take (e - a) := by
  induction h with
  | nil a h => simp
  | @cons a b e l h t ih =>
    have := t.le
    rw [List.map_cons, List.flatten_cons, ih, seg_clu hv h (by omega)]
    rw [show e - a = (b - a) + (e - b) by omega, List.take_add, List.drop_drop, show a + (b - a) = b by omega]
theorem Ct.err {s : ByteArray} (he : errF s = 0) {a e : Nat} {l : List ByteArray} (h : Ct s a l e) : ∀ x ∈ l, errF x = 0 := by
  induction h with
  | nil a h => simp
  | cons h t ih =>
    intro x hx
    rcases List.mem_cons.1 hx with rfl | hx
    · exact seg_err he h (by have := t.le; omega)
    · exact ih x hx
theorem seg_seg {s : ByteArray} (hv : Vd s 0) {b c p q : Nat} (hbc : b ≤ c) (hc : c ≤ (clu s).length) (hpq : p ≤ q) (hq : b + q ≤ c) : seg (seg s b c) p q = seg s (b + p) (b + q) := by
  have hcl := seg_clu hv hbc hc
  have hlen : (clu (seg s b c)).length = c - b := by rw [hcl]; simp; omega
  have h1 := cat_seg (s := seg s b c) (i := p) (q - p) (by omega)
  have h2 := cat_seg (s := s) (i := b + p) (q - p) (by omega)
  rw [show p + (q - p) = q by omega] at h1
  rw [show b + p + (q - p) = b + q by omega] at h2
  rw [← h1, ← h2, hcl, List.drop_take, List.take_take, List.drop_drop, Nat.min_eq_left (by omega)]
noncomputable def cutP (x : ByteArray) (q : Nat) : Nat := pz x (((mI x)[q]?).getD 0)
theorem cutP_0 (x : ByteArray) : cutP x 0 = 0 := by
  have := mI_len x
  rw [cutP, mI_get (Nat.zero_le _), mI_0]; rfl
theorem cutP_end (x : ByteArray) : cutP x (clu x).length = x.size := by
  have := mI_len x
  rw [cutP, mI_get (Nat.le_refl _), mI_end, nch_at]
theorem cutP_mem {x : ByteArray} {q : Nat} (h : q ≤ (clu x).length) : cutP x q ∈ mks x ∧ (mks x)[q]? = some (cutP x q) := by
  have := mI_len x
  have e : (mks x)[q]? = some (cutP x q) := by
    rw [mks_I, List.getElem?_map, cutP, mI_get h, List.getElem?_eq_getElem (by omega)]; rfl
  exact ⟨List.mem_of_getElem? e, e⟩
theorem ixO_in {B : List Nat} {v : Nat} (h : v ∈ B) : ¬ ixO B v < 0 := by
  rcases ixO_cases B v with ⟨e, h2⟩ | ⟨i, hi, e, e2⟩
  · obtain ⟨i, hi, rfl⟩ := List.getElem_of_mem h
    exact absurd rfl (h2 i hi)
  · omega
theorem nthS_cut {x : ByteArray} (he : errF x = 0) {q : Nat} (h : q ≤ (clu x).length) : nthS x q = (((cutP x q : Nat) : Int), 0) := by
  have hl := clu_len x
  have hm := mks_len x
  have hI := mI_len x
  have hml : (mks x).length = (clu x).length + 1 := by rw [mks_I, List.length_map, hI]
  have := (cutP_mem h).2
  rw [nthS, if_pos he, if_neg (by omega)]
  rw [List.getElem?_eq_getElem (by omega)] at this
  injection this with this
  rw [nth_eq (by omega), this]
theorem slcS_cut {x : ByteArray} (he : errF x = 0) {p q : Nat} (hpq : p ≤ q) (h : q ≤ (clu x).length) : slcS x (cutP x p : Nat) (cutP x q : Nat) = (seg x p q, 0) := by
  have hI := mI_len x
  have hle : cutP x p ≤ cutP x q := by
    rw [cutP, cutP, mI_get h, mI_get (show p ≤ (clu x).length by omega)]
    exact pz_mono x (mI_le x hpq (by omega))
  rw [slcT, if_pos he, if_neg (fun hh => hh.elim (ixO_in (cutP_mem (show p ≤ (clu x).length by omega)).1) (ixO_in (cutP_mem h).1)), if_neg (by omega)]
  simp only [Int.toNat_natCast]
  rfl
theorem mk_cut {x : ByteArray} {q : Nat} (h : q ≤ (clu x).length) : mk x (mks x) q = cutP x q := by
  have hI := mI_len x
  have hml : (mks x).length = (clu x).length + 1 := by rw [mks_I, List.length_map, hI]
  have := (cutP_mem h).2
  rw [List.getElem?_eq_getElem (by omega)] at this
  injection this with this
  rw [mk, nth_eq (by omega), this]
theorem cutP_le {x : ByteArray} {p q : Nat} (hpq : p ≤ q) (h : q ≤ (clu x).length) : cutP x p ≤ cutP x q := by
  have hI := mI_len x
  rw [cutP, cutP, mI_get h, mI_get (show p ≤ (clu x).length by omega)]
  exact pz_mono x (mI_le x hpq (by omega))
theorem seg_len {x : ByteArray} {p q : Nat} (hpq : p ≤ q) (h : q ≤ (clu x).length) : (seg x p q).size = cutP x q - cutP x p := by
  rw [seg, part_size]; rfl
theorem fo_at {L P : List ByteArray} : ∀ n i j, occ L P j = true → i ≤ j → j < i + n → ∃ k, fo L P n i = some k ∧ k ≤ j
  | 0, i, j, _, _, _ => by omega
  | n + 1, i, j, h, h1, h2 => by
    rw [fo]
    by_cases h3 : occ L P i = true
    · rw [if_pos h3]; exact ⟨i, rfl, h1⟩
    · rw [if_neg h3]
      have : i ≠ j := fun e => h3 (e ▸ h)
      exact fo_at n (i + 1) j h (by omega) (by omega)
theorem find_seg {s : ByteArray} (he : errF s = 0) {b c : Nat} (hbc : b ≤ c) (hc : c ≤ (clu s).length) : errB s (seg s b c) = 0 ∧ 0 ≤ findR s (seg s b c) ∧ findR s (seg s b c) ≤ cutP s b := by
  have hv := (errF_sz he).2
  have hB : errB s (seg s b c) = 0 := errB_of he (seg_err he hbc hc)
  have hcl : (cf s).length = (clu s).length := by rw [cf, List.length_map]
  have ho : occ (cf s) (cf (seg s b c)) b = true := by
    rw [seg_cf hv hbc hc]
    refine decide_eq_true ?_
    congr 1
    simp; omega
  obtain ⟨k, hk, hkb⟩ := fo_at ((cf s).length + 1) 0 b ho (Nat.zero_le _) (by omega)
  refine ⟨hB, ?_, ?_⟩
  · rw [findR, if_pos hB, hk, foV]; omega
  · rw [findR, if_pos hB, hk, foV, mk_cut (by omega)]
    have := cutP_le hkb (show b ≤ (clu s).length by omega)
    omega
theorem Ct.cut {s : ByteArray} (he : errF s = 0) {l : List ByteArray} (h : Ct s 0 l (clu s).length) {k q : Nat} (hk : k < l.length) (hq : q ≤ (clu l[k]).length) :
    Ct s 0 (l.take k ++ (seg l[k] 0 q :: seg l[k] q (clu l[k]).length :: l.drop (k + 1))) (clu s).length := by
  have hv := (errF_sz he).2
  obtain ⟨b, c, hbc, h1, h2, h3⟩ := h.at hk
  have hc := h3.le
  have hlen : (clu (seg s b c)).length = c - b := by rw [seg_clu hv hbc hc.1 |>.trans rfl]; simp; omega
  generalize l[k] = x at *
  subst h2
  rw [hlen] at hq ⊢
  have hcc : c ≤ (clu s).length := by omega
  rw [seg_seg hv hbc hcc (Nat.zero_le _) (by omega), seg_seg hv hbc hcc hq (by omega), Nat.add_zero, show b + (c - b) = c by omega]
  exact h1.app (.cons (by omega) (.cons (by omega) h3))
end Go.Ab
