/- Part of the proof. -/
import Derived.Test.YtdgfgadmcahnlaaDoorTQ
import Derived.Test.YtdgfgadmcahnlaaDoorSG24
import Derived.Test.YtdgfgadmcahnlaaDoorOD24
set_option linter.unusedSimpArgs false
set_option linter.unusedVariables false
set_option maxHeartbeats 4000000
namespace Go.Ab
open Go Go.Ab Go.Proofs Go.Ab.Ty

/-! ### the parts of a split text, as places in its row of clusters (plain) -/
noncomputable def sgF (L P : List ByteArray) : Nat → Nat → Nat → List (Nat × Nat)
  | 0, _, f => [(f, L.length)]
  | n + 1, i, f => if i < L.length then (if occ L P i then (f, i) :: sgF L P n (i + P.length) (i + P.length) else sgF L P n (i + 1) f) else [(f, L.length)]
theorem splF_sg (W L P : List ByteArray) (hW : W.length = L.length) : ∀ n i f out, splF W L P n i f out = out ++ (sgF L P n i f).map fun x => cat ((W.drop x.1).take (x.2 - x.1))
  | 0, i, f, out => by
    have : (W.drop f).take (L.length - f) = W.drop f := List.take_of_length_le (by simp; omega)
    simp only [splF, sgF, List.map_cons, List.map_nil, this]
  | n + 1, i, f, out => by
    have : (W.drop f).take (L.length - f) = W.drop f := List.take_of_length_le (by simp; omega)
    simp only [splF, sgF]
    split
    · split
      · rw [splF_sg W L P hW n]; simp
      · exact splF_sg W L P hW n _ _ _
    · simp only [List.map_cons, List.map_nil, this]
theorem sgF_in {L P : List ByteArray} (hP : 0 < P.length) : ∀ n i f, L.length < n + i → f ≤ i → i ≤ L.length → (∀ k, f ≤ k → k < i → occ L P k = false) →
    ∀ x ∈ sgF L P n i f, x.1 ≤ x.2 ∧ x.2 ≤ L.length ∧ ∀ k, x.1 ≤ k → k < x.2 → occ L P k = false
  | 0, i, f, hn, _, hi, _ => by omega
  | n + 1, i, f, hn, hf, hi, hk => by
    intro x hx
    rw [sgF] at hx
    by_cases h1 : i < L.length
    · rw [if_pos h1] at hx
      by_cases h2 : occ L P i = true
      · rw [if_pos h2] at hx
        have := occ_le h2
        rcases List.mem_cons.1 hx with rfl | hx
        · exact ⟨hf, hi, hk⟩
        · exact sgF_in hP n (i + P.length) (i + P.length) (by omega) (Nat.le_refl _) (by omega) (fun k a b => by omega) x hx
      · rw [if_neg h2] at hx
        have h2 : occ L P i = false := by simpa using h2
        exact sgF_in hP n (i + 1) f (by omega) (by omega) (by omega) (fun k a b => by
          rcases Nat.lt_or_ge k i with c | c
          · exact hk k a c
          · rw [show k = i by omega]; exact h2) x hx
    · rw [if_neg h1] at hx
      obtain rfl : i = L.length := by omega
      rw [List.mem_singleton] at hx
      subst hx
      exact ⟨hf, Nat.le_refl _, hk⟩
theorem sgF_pos (L P : List ByteArray) : ∀ n i f, 0 < (sgF L P n i f).length
  | 0, i, f => by simp [sgF]
  | n + 1, i, f => by
    rw [sgF]
    split
    · split
      · simp
      · exact sgF_pos L P n _ _
    · simp
theorem sgF_sum {L P : List ByteArray} (hP : 0 < P.length) : ∀ n i f, L.length < n + i → f ≤ i → i ≤ L.length →
    P.length * ((sgF L P n i f).length - 1) + ((sgF L P n i f).map fun x => x.2 - x.1).sum = L.length - f
  | 0, i, f, hn, _, hi => by omega
  | n + 1, i, f, hn, hf, hi => by
    rw [sgF]
    by_cases h1 : i < L.length
    · rw [if_pos h1]
      by_cases h2 : occ L P i = true
      · rw [if_pos h2]
        have := occ_le h2
        have ih := sgF_sum (L := L) hP n (i + P.length) (i + P.length) (by omega) (Nat.le_refl _) (by omega)
        have hp := sgF_pos L P n (i + P.length) (i + P.length)
        generalize sgF L P n (i + P.length) (i + P.length) = r at *
        obtain ⟨m, hm⟩ : ∃ m, r.length = m + 1 := ⟨r.length - 1, by omega⟩
        simp only [List.length_cons, List.map_cons, List.sum_cons, hm] at ih ⊢
        simp only [Nat.add_sub_cancel] at ih ⊢
        rw [Nat.mul_succ]
        omega
      · rw [if_neg h2]
        exact sgF_sum hP n (i + 1) f (by omega) (by omega) (by omega)
    · rw [if_neg h1]
      simp
theorem occ_far {L P : List ByteArray} (hP : 0 < P.length) {i : Nat} (h : L.length ≤ i) : occ L P i = false := by
  cases ho : occ L P i with
  | false => rfl
  | true => have := occ_le ho; omega
theorem fo_none {L P : List ByteArray} : ∀ n i, (∀ k, i ≤ k → occ L P k = false) → fo L P n i = none
  | 0, i, h => rfl
  | n + 1, i, h => by
    rw [fo, if_neg (by rw [h i (Nat.le_refl _)]; simp)]
    exact fo_none n _ fun k hk => h k (by omega)
theorem sgF_one {L P : List ByteArray} (hP : 0 < P.length) : ∀ n i f, L.length < n + i → f ≤ i → i ≤ L.length →
    ((sgF L P n i f).length = 1 ↔ fo L P n i = none) ∧ (fo L P n i = none → sgF L P n i f = [(f, L.length)])
  | 0, i, f, hn, _, hi => by omega
  | n + 1, i, f, hn, hf, hi => by
    rw [sgF, fo]
    by_cases h1 : i < L.length
    · rw [if_pos h1]
      by_cases h2 : occ L P i = true
      · rw [if_pos h2, if_pos h2]
        have hp := sgF_pos L P n (i + P.length) (i + P.length)
        refine ⟨?_, by simp⟩
        simp only [List.length_cons, reduceCtorEq, iff_false]
        omega
      · rw [if_neg h2, if_neg h2]
        exact sgF_one hP n (i + 1) f (by omega) (by omega) (by omega)
    · rw [if_neg h1, if_neg (by rw [occ_far hP (show L.length ≤ i by omega)]; simp), fo_none n (i + 1) fun k hk => occ_far hP (show L.length ≤ k by omega)]
      simp
theorem occ_seg {L P : List ByteArray} {a b k : Nat} (hb : b ≤ L.length) (hab : a ≤ b) (hP : 0 < P.length) (h : occ ((L.drop a).take (b - a)) P k = true) : occ L P (a + k) = true ∧ a + k < b := by
  have hl := occ_le h
  have e : ((L.drop a).take (b - a)).length = b - a := by simp; omega
  rw [e] at hl
  unfold occ at h ⊢
  have h := of_decide_eq_true h
  refine ⟨decide_eq_true ?_, by omega⟩
  rw [List.drop_take, List.take_take, Nat.min_eq_left (by omega), List.drop_drop] at h
  exact h
theorem foV_neg (s : ByteArray) (o : Option Nat) : foV s o = -1 ↔ o = none := by
  cases o with
  | none => simp [foV]
  | some i => simp [foV]
theorem parts_all {s p : ByteArray} (he : errB s p = 0) (hp : p.size ≠ 0) : 0 < (splR s p).length ∧ ((splR s p).length = 1 ↔ findR s p = -1) ∧ (findR s p = -1 → splR s p = [s]) ∧
    (∀ x ∈ splR s p, errF x = 0 ∧ errB x p = 0 ∧ findR x p = -1 ∧ (clu x).length ≤ (clu s).length) ∧ (clu p).length * ((splR s p).length - 1) + ((splR s p).map fun x => (clu x).length).sum = (clu s).length := by
  obtain ⟨h1, h2⟩ := errB_0 he
  have hv := (errF_sz h1).2
  have hcl : (cf s).length = (clu s).length := by rw [cf, List.length_map]
  have hP : 0 < (cf p).length := by
    rw [cf, List.length_map]
    rcases Nat.eq_zero_or_pos (clu p).length with h | h
    · exact absurd (clu_ne.1 (List.eq_nil_of_length_eq_zero h)) hp
    · exact h
  have hPc : (cf p).length = (clu p).length := by rw [cf, List.length_map]
  have e : splR s p = (sgF (cf s) (cf p) ((cf s).length + 1) 0 0).map fun x => cat (((clu s).drop x.1).take (x.2 - x.1)) := by
    rw [splR, if_pos he, if_neg hp, splF_sg _ _ _ hcl.symm, List.nil_append]
  have a1 := sgF_in (L := cf s) hP ((cf s).length + 1) 0 0 (by omega) (Nat.le_refl _) (Nat.zero_le _) (fun k a b => by omega)
  have a2 := sgF_sum (L := cf s) hP ((cf s).length + 1) 0 0 (by omega) (Nat.le_refl _) (Nat.zero_le _)
  have a3 := sgF_one (L := cf s) hP ((cf s).length + 1) 0 0 (by omega) (Nat.le_refl _) (Nat.zero_le _)
  have a4 := sgF_pos (cf s) (cf p) ((cf s).length + 1) 0 0
  have hF : findR s p = -1 ↔ fo (cf s) (cf p) ((cf s).length + 1) 0 = none := by rw [findR, if_pos he, foV_neg]
  have hseg : ∀ x ∈ sgF (cf s) (cf p) ((cf s).length + 1) 0 0, cat (((clu s).drop x.1).take (x.2 - x.1)) = seg s x.1 x.2 := fun x hx => by
    obtain ⟨b1, b2, _⟩ := a1 x hx
    rw [cat_seg _ (by omega), show x.1 + (x.2 - x.1) = x.2 by omega]
  have hlen : ∀ x ∈ sgF (cf s) (cf p) ((cf s).length + 1) 0 0, (clu (cat (((clu s).drop x.1).take (x.2 - x.1)))).length = x.2 - x.1 := fun x hx => by
    obtain ⟨b1, b2, _⟩ := a1 x hx
    rw [hseg x hx, seg_clu hv b1 (by omega)]
    simp; omega
  generalize sgF (cf s) (cf p) ((cf s).length + 1) 0 0 = G at *
  refine ⟨by rw [e, List.length_map]; exact a4, by rw [e, List.length_map, hF]; exact a3.1, fun h => ?_, fun y hy => ?_, ?_⟩
  · rw [e, a3.2 (hF.1 h)]
    simp only [List.map_cons, List.map_nil]
    rw [cat_seg _ (by omega), Nat.zero_add, Nat.sub_zero, hcl, seg_all]
  · rw [e] at hy
    obtain ⟨x, hx, rfl⟩ := List.mem_map.1 hy
    obtain ⟨b1, b2, b3⟩ := a1 x hx
    have hl := hlen x hx
    simp only [hseg x hx] at hl ⊢
    have s1 := seg_err h1 b1 (show x.2 ≤ (clu s).length by omega)
    refine ⟨s1, errB_of s1 h2, ?_, by omega⟩
    rw [findR, if_pos (errB_of s1 h2), foV_neg, seg_cf hv b1 (by omega)]
    refine fo_none _ _ fun k _ => ?_
    cases ho : occ (((cf s).drop x.1).take (x.2 - x.1)) (cf p) k with
    | false => rfl
    | true =>
      obtain ⟨c1, c2⟩ := occ_seg b2 b1 hP ho
      rw [b3 _ (by omega) c2] at c1
      cases c1
  · rw [e, List.length_map, List.map_map, ← hPc, ← hcl, ← Nat.sub_zero (cf s).length, ← a2]
    congr 2
    exact List.map_congr_left fun x hx => hlen x hx
end Go.Ab
