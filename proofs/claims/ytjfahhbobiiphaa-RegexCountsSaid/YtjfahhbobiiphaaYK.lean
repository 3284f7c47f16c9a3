/- Part of the proof. -/
import Derived.Test.YtjfahhbobiiphaaYH
import Derived.Test.YtjfahhbobiiphaaAbF
set_option linter.unusedSimpArgs false
set_option linter.unusedVariables false
namespace Go.Ab
open Go Go.RowKit

theorem getM_zip {α κ : Type} [DecidableEq κ] (k : α → κ) (x : κ) : ∀ (L : List α) (n : Nat), getM ((L.zipIdx n).map fun p => (k p.1, ((p.2 : Nat) : Int))) x = if x ∈ L.map k then some (((L.map k).idxOf x + n : Nat) : Int) else none
  | [], n => by simp [getM]
  | y :: L, n => by
    rw [List.zipIdx_cons, List.map_cons, getM, getM_zip k x L (n + 1)]
    simp only [List.map_cons, List.mem_cons, List.idxOf_cons]
    by_cases e : k y = x
    · rw [if_pos e, if_pos (.inl e.symm), beq_iff_eq.2 e]
      simp
    · rw [if_neg e, beq_eq_false_iff_ne.2 e]
      by_cases h : x ∈ L.map k
      · rw [if_pos h, if_pos (.inr h)]
        simp only [cond_false]
        congr 2
        omega
      · rw [if_neg h, if_neg (by rintro (h1 | h1); exact e h1.symm; exact h h1)]
section
variable {κ : Type} [DecidableEq κ]
def fsN (K : Nat → κ) : Nat → List Nat
  | 0 => []
  | i + 1 => if K i ∈ (fsN K i).map K then fsN K i else fsN K i ++ [i]
theorem fsN_lt (K : Nat → κ) : ∀ i, ∀ x ∈ fsN K i, x < i
  | 0, x, h => by simp [fsN] at h
  | i + 1, x, h => by
    rw [fsN] at h
    split at h
    · have := fsN_lt K i x h; omega
    · rcases List.mem_append.1 h with h | h
      · have := fsN_lt K i x h; omega
      · rw [List.mem_singleton] at h; omega
theorem fsN_len (K : Nat → κ) : ∀ i, (fsN K i).length ≤ i
  | 0 => by simp [fsN]
  | i + 1 => by
    have := fsN_len K i
    rw [fsN]; split
    · omega
    · simp; omega
theorem fsN_pre (K : Nat → κ) (i : Nat) : ∀ m, ∃ t, fsN K (i + m) = fsN K i ++ t
  | 0 => ⟨[], by simp⟩
  | m + 1 => by
    obtain ⟨t, h⟩ := fsN_pre K i m
    rw [← Nat.add_assoc, fsN]
    split
    · exact ⟨t, h⟩
    · exact ⟨t ++ [i + m], by rw [h, List.append_assoc]⟩
theorem fsN_nodup (K : Nat → κ) : ∀ i, ((fsN K i).map K).Nodup
  | 0 => by simp [fsN]
  | i + 1 => by
    have ih := fsN_nodup K i
    rw [fsN]
    split
    · exact ih
    · rename_i h
      rw [List.map_append, List.nodup_append]
      exact ⟨ih, by simp, fun a ha b hb => by
        simp only [List.map_cons, List.map_nil, List.mem_singleton] at hb
        subst hb; exact fun e => h (e ▸ ha)⟩
theorem mem_fsN (K : Nat → κ) : ∀ i j, j < i → K j ∈ (fsN K i).map K
  | 0, j, h => by omega
  | i + 1, j, h => by
    rw [fsN]
    rcases Nat.lt_or_ge j i with h1 | h1
    · have := mem_fsN K i j h1
      split
      · exact this
      · rw [List.map_append]; exact List.mem_append.2 (.inl this)
    · obtain rfl : j = i := by omega
      split
      · assumption
      · simp
def grN (K : Nat → κ) (i : Nat) : Nat := ((fsN K (i + 1)).map K).idxOf (K i)
theorem grN_old (K : Nat → κ) (i : Nat) (h : K i ∈ (fsN K i).map K) : grN K i = ((fsN K i).map K).idxOf (K i) := by
  unfold grN; rw [fsN, if_pos h]
theorem grN_new (K : Nat → κ) (i : Nat) (h : ¬ K i ∈ (fsN K i).map K) : grN K i = (fsN K i).length := by
  unfold grN; rw [fsN, if_neg h, List.map_append, List.idxOf_append, if_neg h]; simp
theorem grN_in (K : Nat → κ) {i n : Nat} (h : i < n) : grN K i = ((fsN K n).map K).idxOf (K i) := by
  obtain ⟨t, ht⟩ := fsN_pre K (i + 1) (n - (i + 1))
  rw [show i + 1 + (n - (i + 1)) = n by omega] at ht
  rw [ht, List.map_append, List.idxOf_append, if_pos (mem_fsN K (i + 1) i (by omega))]
  rfl
theorem grN_lt (K : Nat → κ) {i n : Nat} (h : i < n) : grN K i < (fsN K n).length := by
  rw [grN_in K h]
  have := List.idxOf_lt_length_of_mem (mem_fsN K n i h)
  simpa using this
theorem grN_at (K : Nat → κ) {i n : Nat} (h : i < n) : ∃ j, (fsN K n)[grN K i]? = some j ∧ j < n ∧ K j = K i := by
  have h1 := grN_lt K h
  have h2 := List.getElem_idxOf (List.idxOf_lt_length_of_mem (mem_fsN K n i h))
  refine ⟨(fsN K n)[grN K i], List.getElem?_eq_getElem h1, fsN_lt K n _ (List.getElem_mem _), ?_⟩
  simp only [grN_in K h]
  rw [List.getElem_map] at h2
  exact h2
theorem grN_sur (K : Nat → κ) {n x : Nat} (h : x < (fsN K n).length) : grN K ((fsN K n)[x]) = x := by
  have h1 := fsN_lt K n _ (List.getElem_mem h)
  rw [grN_in K h1]
  have := (fsN_nodup K n).idxOf_getElem x (by simpa using h)
  simpa using this
def mpN {μ : Type} (K : Nat → κ) (e : κ → μ) (i : Nat) : List (μ × Int) := (fsN K i).zipIdx.map fun p => (e (K p.1), ((p.2 : Nat) : Int))
theorem mpN_get {μ : Type} [DecidableEq μ] (K : Nat → κ) (e : κ → μ) (he : ∀ a b, e a = e b → a = b) (i : Nat) (x : κ) : getM (mpN K e i) (e x) = if x ∈ (fsN K i).map K then some ((((fsN K i).map K).idxOf x : Nat) : Int) else none := by
  unfold mpN
  rw [getM_zip (fun j => e (K j))]
  have h1 : e x ∈ (fsN K i).map (fun j => e (K j)) ↔ x ∈ (fsN K i).map K := by
    simp only [List.mem_map]
    exact ⟨fun ⟨j, h, h2⟩ => ⟨j, h, he _ _ h2⟩, fun ⟨j, h, h2⟩ => ⟨j, h, by rw [h2]⟩⟩
  have h2 : ((fsN K i).map (fun j => e (K j))).idxOf (e x) = ((fsN K i).map K).idxOf x := by
    generalize fsN K i = L
    induction L with
    | nil => rfl
    | cons y L ih =>
      rw [List.map_cons, List.map_cons, List.idxOf_cons, List.idxOf_cons, ih]
      by_cases h : K y = x
      · rw [h]; simp
      · rw [beq_eq_false_iff_ne.2 h, beq_eq_false_iff_ne.2 (fun h3 => h (he _ _ h3))]
  by_cases h : x ∈ (fsN K i).map K
  · rw [if_pos h, if_pos (h1.2 h), h2]; rfl
  · rw [if_neg h, if_neg (fun h3 => h (h1.1 h3))]
theorem mpN_new {μ : Type} [DecidableEq μ] (K : Nat → κ) (e : κ → μ) (he : ∀ a b, e a = e b → a = b) (i : Nat) (h : ¬ K i ∈ (fsN K i).map K) : mpN K e (i + 1) = setM (mpN K e i) (e (K i)) ((fsN K i).length : Int) := by
  rw [setM_none _ _ _ (by rw [mpN_get K e he, if_neg h])]
  unfold mpN
  rw [fsN, if_neg h, List.zipIdx_append, List.map_append]
  simp
theorem mpN_old {μ : Type} (K : Nat → κ) (e : κ → μ) (i : Nat) (h : K i ∈ (fsN K i).map K) : mpN K e (i + 1) = mpN K e i := by
  unfold mpN; rw [fsN, if_pos h]
end
end Go.Ab
namespace Go.Ab
open Go Go.RowKit

section
variable {β γ μ : Type} [DecidableEq β] [DecidableEq μ]
def ixN (all : List β) (x : β) : Nat := (addN all x).idxOf x
theorem rowX_snoc' (δ : γ → β) (g : γ) (gs : List γ) (all : List β) (row : List Nat) : rowX δ (gs ++ [g]) all row = (addN (rowX δ gs all row).1 (δ g), (rowX δ gs all row).2 ++ [ixN (rowX δ gs all row).1 (δ g)]) := rowX_snoc δ g gs all row
theorem ixN_new {all : List β} {x : β} (h : ¬ x ∈ all) : ixN all x = all.length := by unfold ixN; rw [addN_idx, if_neg h]
def numM (key : β → μ) (all : List β) : List (μ × Int) := all.zipIdx.map fun p => (key p.1, ((p.2 : Nat) : Int))
theorem numM_get (key : β → μ) (hk : ∀ a b, key a = key b → a = b) (all : List β) (x : β) : getM (numM key all) (key x) = if x ∈ all then some ((ixN all x : Nat) : Int) else none := by
  unfold numM
  rw [getM_zip key]
  have h1 : key x ∈ all.map key ↔ x ∈ all := by
    simp only [List.mem_map]
    exact ⟨fun ⟨j, h, h2⟩ => hk _ _ h2 ▸ h, fun h => ⟨x, h, rfl⟩⟩
  by_cases h : x ∈ all
  · rw [if_pos h, if_pos (h1.2 h)]
    have h2 : (all.map key).idxOf (key x) = ixN all x := by
      unfold ixN
      rw [addN_idx, if_pos h]
      clear h h1
      induction all with
      | nil => rfl
      | cons y L ih =>
        rw [List.map_cons, List.idxOf_cons, List.idxOf_cons, ih]
        by_cases h : y = x
        · rw [h]; simp
        · rw [beq_eq_false_iff_ne.2 h, beq_eq_false_iff_ne.2 (fun h3 => h (hk _ _ h3))]
    rw [h2]; rfl
  · rw [if_neg h, if_neg (fun h3 => h (h1.1 h3))]
theorem numM_new (key : β → μ) (hk : ∀ a b, key a = key b → a = b) {all : List β} {x : β} (h : ¬ x ∈ all) : setM (numM key all) (key x) (all.length : Int) = numM key (all ++ [x]) := by
  rw [setM_none _ _ _ (by rw [numM_get key hk, if_neg h])]
  unfold numM
  rw [List.zipIdx_append, List.map_append]
  simp
theorem addN_old {all : List β} {x : β} (h : x ∈ all) : addN all x = all := if_pos h
theorem addN_new {all : List β} {x : β} (h : ¬ x ∈ all) : addN all x = all ++ [x] := if_neg h
theorem addN_len (all : List β) (x : β) : (addN all x).length ≤ all.length + 1 := by
  unfold addN; split
  · omega
  · simp
theorem rowX_len (δ : γ → β) (all : List β) : ∀ (n : Nat) (gs : List γ), gs.length = n → (rowX δ gs all []).1.length ≤ all.length + n ∧ (rowX δ gs all []).2.length = n
  | 0, gs, h => by
    have := List.eq_nil_of_length_eq_zero h
    subst this; simp [rowX]
  | n + 1, gs, h => by
    have hne : gs ≠ [] := fun e => by rw [e] at h; simp at h
    obtain ⟨gs, g, rfl⟩ : ∃ a b, gs = a ++ [b] := ⟨gs.dropLast, gs.getLast hne, (List.dropLast_concat_getLast hne).symm⟩
    simp only [List.length_append, List.length_cons, List.length_nil] at h
    have ih := rowX_len δ all n gs (by omega)
    rw [rowX_snoc']
    have := addN_len (rowX δ gs all []).1 (δ g)
    simp only [List.length_append, List.length_cons, List.length_nil]
    omega
end
end Go.Ab
namespace Go.Ab
open Go Go.RowKit
set_option linter.unusedSectionVars false

section
variable {β μ : Type} [DecidableEq β] [DecidableEq μ]
theorem numM_get' (key : β → μ) {all : List β} {x : β} (hk : ∀ a ∈ all, key a = key x → a = x) : getM (numM key all) (key x) = if x ∈ all then some ((ixN all x : Nat) : Int) else none := by
  unfold numM
  rw [getM_zip key]
  have h1 : key x ∈ all.map key ↔ x ∈ all := by
    simp only [List.mem_map]
    exact ⟨fun ⟨j, h, h2⟩ => hk _ h h2 ▸ h, fun h => ⟨x, h, rfl⟩⟩
  by_cases h : x ∈ all
  · rw [if_pos h, if_pos (h1.2 h)]
    have h2 : (all.map key).idxOf (key x) = ixN all x := by
      unfold ixN
      rw [addN_idx, if_pos h]
      clear h h1
      induction all with
      | nil => rfl
      | cons y L ih =>
        rw [List.map_cons, List.idxOf_cons, List.idxOf_cons, ih fun a ha => hk a (by simp [ha])]
        by_cases h : y = x
        · rw [h]; simp
        · rw [beq_eq_false_iff_ne.2 h, beq_eq_false_iff_ne.2 (fun h3 => h (hk _ (by simp) h3))]
    rw [h2]; rfl
  · rw [if_neg h, if_neg (fun h3 => h (h1.1 h3))]
theorem numM_new' (key : β → μ) {all : List β} {x : β} (hk : ∀ a ∈ all, key a = key x → a = x) (h : ¬ x ∈ all) : setM (numM key all) (key x) (all.length : Int) = numM key (all ++ [x]) := by
  rw [setM_none _ _ _ (by rw [numM_get' key hk, if_neg h])]
  unfold numM
  rw [List.zipIdx_append, List.map_append]
  simp
theorem numM_len (key : β → μ) (all : List β) : (numM key all).length = all.length := by simp [numM]
theorem ixN_old {all : List β} {x : β} (h : x ∈ all) : ixN all x = all.idxOf x := by unfold ixN; rw [addN_old h]
end
def mixN (n : Nat) (D : List Nat) (j : Nat) : List Nat := (List.range n).map fun i => if i < j then D.getD i 0 else 0
theorem mixN_len (n : Nat) (D : List Nat) (j : Nat) : (mixN n D j).length = n := by simp [mixN]
theorem mixN_set (n : Nat) (D : List Nat) (j : Nat) (h : j < n) : (mixN n D j).set j (D.getD j 0) = mixN n D (j + 1) := by
  refine List.ext_getElem (by simp [mixN]) fun i h1 h2 => ?_
  rw [List.getElem_set]
  simp only [mixN, List.getElem_map, List.getElem_range]
  split
  · rename_i e; subst e; rw [if_pos (by omega)]
  · rename_i e
    by_cases h3 : i < j
    · rw [if_pos h3, if_pos (by omega)]
    · rw [if_neg h3, if_neg (by omega)]
theorem mixN_skip (n : Nat) (D : List Nat) (j : Nat) (h : D.getD j 0 = 0) : mixN n D j = mixN n D (j + 1) := by
  refine List.map_congr_left fun i _ => ?_
  by_cases h3 : i < j
  · rw [if_pos h3, if_pos (by omega)]
  · rw [if_neg h3]
    by_cases h4 : i < j + 1
    · obtain rfl : i = j := by omega
      rw [if_pos h4, h]
    · rw [if_neg h4]
theorem mixN_all (n : Nat) (D : List Nat) (h : D.length = n) : mixN n D n = D := by
  refine List.ext_getElem (by simp [mixN, h]) fun i h1 h2 => ?_
  rw [mixN_len] at h1
  simp only [mixN, List.getElem_map, List.getElem_range]
  rw [if_pos h1, List.getD_eq_getElem?_getD, List.getElem?_eq_getElem h2]; rfl
def kyB (l : List Nat) : List UInt8 := l.map fun x => UInt8.ofNat x
theorem kyB_inj : ∀ {a b : List Nat}, (∀ x ∈ a, x < 256) → (∀ x ∈ b, x < 256) → kyB a = kyB b → a = b
  | [], [], _, _, _ => rfl
  | [], _ :: _, _, _, h => by simp [kyB] at h
  | _ :: _, [], _, _, h => by simp [kyB] at h
  | x :: a, y :: b, ha, hb, h => by
    simp only [kyB, List.map_cons, List.cons.injEq] at h
    have h1 := congrArg UInt8.toNat h.1
    rw [UInt8.toNat_ofNat', UInt8.toNat_ofNat', Nat.mod_eq_of_lt (ha x (by simp)), Nat.mod_eq_of_lt (hb y (by simp))] at h1
    rw [h1, kyB_inj (fun z hz => ha z (by simp [hz])) (fun z hz => hb z (by simp [hz])) h.2]
section
variable {rows : List (List Nat)}
theorem numL_le (rows : List (List Nat)) (cl : List Nat) {i j : Nat} (h : i ≤ j) : ∃ t, numL rows cl j = numL rows cl i ++ t := by
  have := numL_pre rows cl i (j - i)
  rwa [show i + (j - i) = j by omega] at this
theorem numL_lenle (rows : List (List Nat)) (cl : List Nat) {i j : Nat} (h : i ≤ j) : (numL rows cl i).length ≤ (numL rows cl j).length := by
  obtain ⟨t, ht⟩ := numL_le rows cl h
  rw [ht, List.length_append]; omega
theorem idxOf_any {β : Type} (i1 i2 : BEq β) (h1 : @LawfulBEq β i1) (h2 : @LawfulBEq β i2) (x : β) (l : List β) : @List.idxOf β i1 x l = @List.idxOf β i2 x l := by
  unfold List.idxOf
  congr 1
  funext y
  rw [Bool.eq_iff_iff]
  exact (@beq_iff_eq β i1 h1 y x).trans (@beq_iff_eq β i2 h2 y x).symm
theorem refL_ix {cl : List Nat} {i : Nat} (h : i < rows.length) : (refL rows cl).getD i 0 = ixN (numL rows cl i) (keyL rows cl i) := by
  rw [refL_get h]
  obtain ⟨t, ht⟩ := numL_le rows cl (show i + 1 ≤ rows.length from h)
  unfold ixN
  rw [ht, numL_succ, List.idxOf_append, if_pos (mem_addN _ _)]
  exact idxOf_any _ _ inferInstance inferInstance _ _
theorem clF_ix {cl0 : List Nat} {i : Nat} (h : i < rows.length) : (clF rows cl0).getD i 0 = ixN (numL rows (clF rows cl0) i) (keyL rows (clF rows cl0) i) := by
  have := refL_ix (cl := clF rows cl0) h
  rwa [clF_fix.1] at this
theorem ixN_lt {β : Type} [DecidableEq β] {all : List β} {x : β} : ixN all x < all.length ↔ x ∈ all := by
  by_cases h : x ∈ all
  · rw [ixN_old h]; exact ⟨fun _ => h, fun _ => List.idxOf_lt_length_of_mem h⟩
  · rw [ixN_new h]; exact ⟨fun h2 => absurd h2 (Nat.lt_irrefl _), fun h2 => absurd h2 h⟩
theorem rowF_at {cl0 : List Nat} {i c : Nat} (h : i < rows.length) (hc : (clF rows cl0).getD i 0 = c) : rowF rows cl0 c = (rows.getD i []).map fun x => (clF rows cl0).getD x 0 := by
  have h1 := fsF_ok (hc ▸ clF_lt (cl0 := cl0) h : c < cntF rows cl0)
  have h2 := clF_key (cl0 := cl0) h1.1 h (h1.2.trans hc.symm)
  unfold keyL at h2
  injection h2 with h2 h3
theorem clR_fine0 {cl0 : List Nat} {i j : Nat} (hi : i < rows.length) (hj : j < rows.length) : ∀ k, (clR rows cl0 k).getD i 0 = (clR rows cl0 k).getD j 0 → cl0.getD i 0 = cl0.getD j 0
  | 0, h => h
  | k + 1, h => clR_fine0 hi hj k (clR_fine hi hj h)
def cl0A (acs : List Bool) : List Nat := acs.map fun a => if a = acR acs 0 then 0 else 1
theorem cl0A_len (acs : List Bool) : (cl0A acs).length = acs.length := by simp [cl0A]
theorem cl0A_get {acs : List Bool} {i : Nat} (h : i < acs.length) : (cl0A acs).getD i 0 = if acR acs i = acR acs 0 then 0 else 1 := by
  unfold cl0A
  rw [List.getD_eq_getElem?_getD, List.getElem?_map, List.getElem?_eq_getElem h]
  simp only [Option.map_some, Option.getD_some]
  rw [show acR acs i = acs[i] by unfold acR; rw [List.getD_eq_getElem?_getD, List.getElem?_eq_getElem h]; rfl]
theorem cl0A_iff {acs : List Bool} {i j : Nat} (hi : i < acs.length) (hj : j < acs.length) : (cl0A acs).getD i 0 = (cl0A acs).getD j 0 ↔ acR acs i = acR acs j := by
  rw [cl0A_get hi, cl0A_get hj]
  cases acR acs i <;> cases acR acs j <;> cases acR acs 0 <;> simp
theorem acF_at {acs : List Bool} {i c : Nat} (hl : acs.length = rows.length) (h : i < rows.length) (hc : (clF rows (cl0A acs)).getD i 0 = c) : acR acs (fsF rows (cl0A acs) c) = acR acs i := by
  have h1 := fsF_ok (hc ▸ clF_lt (cl0 := cl0A acs) h : c < cntF rows (cl0A acs))
  exact (cl0A_iff (by rw [hl]; exact h1.1) (by rw [hl]; exact h)).1 (clR_fine0 h1.1 h _ (h1.2.trans hc.symm))
def leastR (m : List Int × List (List Nat) × List Bool) : Option (List Int × List (List Nat) × List Bool) :=
  if cntF m.2.1 (cl0A m.2.2) ≤ 200 then some (m.1, rowsF m.2.1 (cl0A m.2.2), acsF m.2.1 (cl0A m.2.2) m.2.2) else none
def ctR (rows : List (List Nat)) (cl0 : List Nat) : Nat → Nat
  | 0 => 0
  | k + 1 => cntR rows cl0 k
theorem clR_len {cl0 : List Nat} (h : cl0.length = rows.length) : ∀ k, (clR rows cl0 k).length = rows.length
  | 0 => h
  | k + 1 => refL_len _ _
theorem getD_lt {l : List Nat} {i n : Nat} (h : ∀ x ∈ l, x < n) (hn : 0 < n) : l.getD i 0 < n := by
  rw [List.getD_eq_getElem?_getD]
  cases h1 : l[i]? with
  | none => exact hn
  | some x => exact h x (List.mem_of_getElem? h1)
theorem clR_small (acs : List Bool) (hl : acs.length = rows.length) : ∀ k, ctR rows (cl0A acs) k ≤ 200 → ∀ x ∈ clR rows (cl0A acs) k, x < 256
  | 0, _, x, hx => by
    obtain ⟨a, _, rfl⟩ := List.mem_map.1 hx
    split <;> omega
  | k + 1, h, x, hx => by
    obtain ⟨i, hi, rfl⟩ := List.getElem_of_mem hx
    have hi2 : i < rows.length := by rwa [show (clR rows (cl0A acs) (k + 1)).length = rows.length from refL_len _ _] at hi
    have := refL_lt (cl := clR rows (cl0A acs) k) hi2
    rw [List.getD_eq_getElem?_getD, List.getElem?_eq_getElem (by rw [refL_len]; exact hi2), Option.getD_some] at this
    have h2 : (numL rows (clR rows (cl0A acs) k) rows.length).length ≤ 200 := h
    show (refL rows (clR rows (cl0A acs) k))[i] < 256
    omega
theorem keyL_small {cl : List Nat} (h : ∀ x ∈ cl, x < 256) (i : Nat) : ∀ x ∈ keyL rows cl i, x < 256 := fun x hx => by
  rcases List.mem_cons.1 hx with rfl | hx
  · exact getD_lt h (by omega)
  · obtain ⟨y, _, rfl⟩ := List.mem_map.1 hx
    exact getD_lt h (by omega)
theorem numL_small {cl : List Nat} (h : ∀ x ∈ cl, x < 256) {i : Nat} : ∀ l ∈ numL rows cl i, ∀ x ∈ l, x < 256 := fun l hl => by
  obtain ⟨j, _, rfl⟩ := mem_numL.1 hl
  exact keyL_small h j
end
end Go.Ab
