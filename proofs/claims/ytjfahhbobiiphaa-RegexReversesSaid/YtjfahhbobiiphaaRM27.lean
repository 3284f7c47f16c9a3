/- Part of the proof. -/
import Derived.Test.YtjfahhbobiiphaaRX27
import Derived.Test.YtjfahhbobiiphaaXK
set_option linter.unusedSimpArgs false
set_option linter.unusedVariables false
set_option maxHeartbeats 4000000
namespace Go.Ab
open Go Go.Ab Go.Proofs Go.Ab.Ty

/-! ### the language, read backwards -/
def Mir (n : Nat) (A B : Rl) : Prop := ∀ i j, i ≤ j → j ≤ n → (A i j ↔ B (n - j) (n - i))
def MonR (A : Rl) : Prop := ∀ i j, A i j → i ≤ j
theorem MonR.comp {A B : Rl} (ha : MonR A) (hb : MonR B) : MonR (comp A B) := fun i j ⟨k, h1, h2⟩ => Nat.le_trans (ha _ _ h1) (hb _ _ h2)
theorem MonR.step {o : Int} {A B : Rl} (ha : MonR A) (hb : MonR B) : MonR (stepR o A B) := by
  unfold stepR
  split
  · exact ha.comp hb
  split
  · exact fun i j h => h.elim (ha i j) (hb i j)
  · exact fun i j h => ha i j h.1
theorem MonR.M (s : ByteArray) (r : Rx) : MonR (M s r) := fun i j h => (M_fwd s r i j h).1
theorem Star.monR {A : Rl} (ha : MonR A) {i j : Nat} (h : Star A i j) : i ≤ j := by
  induction h with
  | refl => exact Nat.le_refl _
  | step h _ ih => have := ha _ _ h; omega
def Ch : List Rl → Rl
  | [] => fun i j => i = j
  | R :: l => comp R (Ch l)
theorem foldl_Ch : ∀ (l : List Rl) (A : Rl) (i j : Nat), l.foldl (stepR 4) A i j ↔ comp A (Ch l) i j
  | [], A, i, j => ⟨fun h => ⟨j, h, rfl⟩, fun ⟨k, h, e⟩ => by cases e; exact h⟩
  | R :: l, A, i, j => by
    rw [List.foldl_cons, foldl_Ch l]
    show comp (comp A R) (Ch l) i j ↔ comp A (comp R (Ch l)) i j
    exact ⟨fun ⟨k, ⟨p, h1, h2⟩, h3⟩ => ⟨p, h1, k, h2, h3⟩, fun ⟨p, h1, k, h2, h3⟩ => ⟨k, ⟨p, h1, h2⟩, h3⟩⟩
theorem foldR_Ch {l : List Rl} (hl : l ≠ []) (i j : Nat) : foldR 4 l i j ↔ Ch l i j := by
  cases l with
  | nil => exact absurd rfl hl
  | cons R l => exact foldl_Ch l R i j
theorem Ch_append : ∀ (l m : List Rl) (i j : Nat), Ch (l ++ m) i j ↔ comp (Ch l) (Ch m) i j
  | [], m, i, j => ⟨fun h => ⟨i, rfl, h⟩, fun ⟨k, e, h⟩ => by cases e; exact h⟩
  | R :: l, m, i, j => by
    show comp R (Ch (l ++ m)) i j ↔ comp (comp R (Ch l)) (Ch m) i j
    constructor
    · rintro ⟨k, h1, h2⟩
      obtain ⟨p, h3, h4⟩ := (Ch_append l m k j).1 h2
      exact ⟨p, ⟨k, h1, h3⟩, h4⟩
    · rintro ⟨p, ⟨k, h1, h3⟩, h4⟩
      exact ⟨k, h1, (Ch_append l m k j).2 ⟨p, h3, h4⟩⟩
section
variable {n : Nat} {f g : Rx → Rl}
theorem Ch_mon : ∀ {l : List Rx}, (∀ x ∈ l, MonR (f x)) → MonR (Ch (l.map f))
  | [], _ => fun i j h => Nat.le_of_eq h
  | x :: l, h => (h x (by simp)).comp (Ch_mon fun y hy => h y (by simp [hy]))
theorem Ch_monr : ∀ {l : List Rx}, (∀ x ∈ l, MonR (f x)) → MonR (Ch (l.map f).reverse)
  | [], _ => fun i j h => Nat.le_of_eq h
  | x :: l, h => by
    intro i j hc
    rw [List.map_cons, List.reverse_cons] at hc
    obtain ⟨k, h1, p, h2, h3⟩ := (Ch_append _ _ _ _).1 hc
    have e1 := Ch_monr (l := l) (fun y hy => h y (by simp [hy])) _ _ h1
    have e2 := h x (by simp) _ _ h2
    cases h3; omega
theorem Ch_mir : ∀ {l : List Rx}, (∀ x ∈ l, Mir n (f x) (g x)) → (∀ x ∈ l, MonR (f x)) → (∀ x ∈ l, MonR (g x)) → Mir n (Ch (l.map f).reverse) (Ch (l.map g))
  | [], _, _, _ => fun i j h1 h2 => by
    show i = j ↔ n - j = n - i
    omega
  | x :: l, h, hf, hg => fun i j h1 h2 => by
    have ih := Ch_mir (l := l) (fun y hy => h y (by simp [hy])) (fun y hy => hf y (by simp [hy])) (fun y hy => hg y (by simp [hy]))
    have m1 := Ch_monr (l := l) (fun y hy => hf y (by simp [hy]))
    have m2 := Ch_mon (l := l) (fun y hy => hg y (by simp [hy]))
    rw [List.map_cons, List.reverse_cons]
    show _ ↔ comp (g x) (Ch (l.map g)) (n - j) (n - i)
    constructor
    · intro hc
      obtain ⟨k, h3, p, h4, h5⟩ := (Ch_append _ _ _ _).1 hc
      cases h5
      have e1 := m1 _ _ h3
      have e2 := hf x (by simp) _ _ h4
      exact ⟨n - k, (h x (by simp) k j e2 h2).1 h4, (ih i k e1 (by omega)).1 h3⟩
    · rintro ⟨q, h4, h3⟩
      have e1 := m2 _ _ h3
      have e2 := hg x (by simp) _ _ h4
      obtain ⟨k, rfl⟩ : ∃ k, q = n - k := ⟨n - q, by omega⟩
      have hk : min k n ≤ n := by omega
      rw [show n - k = n - min k n by omega] at h3 h4 e1 e2
      exact (Ch_append _ _ _ _).2 ⟨min k n, (ih i (min k n) (by omega) (by omega)).2 h3, j, (h x (by simp) (min k n) j (by omega) h2).2 h4, rfl⟩
theorem Mir.step {o : Int} (ho : o ≠ 4) {A1 A2 B1 B2 : Rl} (h1 : Mir n A1 B1) (h2 : Mir n A2 B2) : Mir n (stepR o A1 A2) (stepR o B1 B2) := by
  unfold stepR
  rw [if_neg ho, if_neg ho]
  split
  · exact fun i j hij hj => or_congr (h1 i j hij hj) (h2 i j hij hj)
  · exact fun i j hij hj => and_congr (h1 i j hij hj) (h2 i j hij hj)
theorem Mir.foldl {o : Int} (ho : o ≠ 4) : ∀ {l : List Rx} {A B : Rl}, (∀ x ∈ l, Mir n (f x) (g x)) → Mir n A B → Mir n ((l.map f).foldl (stepR o) A) ((l.map g).foldl (stepR o) B)
  | [], A, B, _, h => h
  | x :: l, A, B, hl, h => Mir.foldl ho (l := l) (fun y hy => hl y (by simp [hy])) (h.step ho (hl x (by simp)))
theorem Star.snoc {A : Rl} {i j k : Nat} (h : Star A i j) (h2 : A j k) : Star A i k := by
  induction h with
  | refl => exact .step h2 (.refl _)
  | step h _ ih => exact .step h (ih h2)
theorem Mir.star {A B : Rl} (h : Mir n A B) (ma : MonR A) (mb : MonR B) : Mir n (Star A) (Star B) := fun i j hij hj => by
  constructor
  · intro hs
    induction hs with
    | refl => exact .refl _
    | @step i k j h1 h2 ih =>
      have e1 := ma _ _ h1
      have e2 := h2.monR ma
      exact (ih e2 hj).snoc ((h i k e1 (by omega)).1 h1)
  · intro hs
    generalize hx : n - j = x at hs
    generalize hy : n - i = y at hs
    induction hs generalizing j with
    | refl =>
      obtain rfl : i = j := by omega
      exact .refl _
    | @step x k y h1 h2 ih =>
      have e1 := mb _ _ h1
      have e2 := h2.monR mb
      subst hx
      subst hy
      have hk : n - (n - k) = k := by omega
      refine (ih (n - k) (by omega) (by omega) hk rfl).snoc ((h (n - k) j (by omega) hj).2 ?_)
      rw [hk]; exact h1
end
theorem M_rev {s t : ByteArray} (ht : t.size = s.size) (hg : ∀ i, ∀ h : i < s.size, t[i]'(by omega) = s[s.size - 1 - i]'(by omega)) (r : Rx) : Mir s.size (M t (revX r)) (M s r) := by
  induction r using Rx.ind with
  | h o S l ih =>
  intro i j hij hj
  by_cases ho : o = 4
  · subst ho
    rw [revX_mk, if_pos rfl, M_mk, M_mk]
    have h4 : foldR 4 ((l.map revX).reverse.map (M t)) i j ↔ foldR 4 (l.map (M s)) (s.size - j) (s.size - i) := by
      cases l with
      | nil => exact Iff.rfl
      | cons x l =>
        rw [foldR_Ch (by simp), foldR_Ch (by simp), List.map_reverse, List.map_map]
        exact Ch_mir (f := M t ∘ revX) (g := M s) ih (fun x _ => .M _ _) (fun x _ => .M _ _) i j hij hj
    unfold opM
    rw [h4]
    constructor
    · rintro ⟨e1, e2, e3⟩
      refine ⟨by omega, by omega, ?_⟩
      rcases e3 with e | e | e | e | e
      · exact absurd e.1 (by decide)
      · exact absurd e.1 (by decide)
      · exact .inr (.inr (.inl e))
      · exact absurd e.1 (by decide)
      · exact absurd e.1 (by decide)
    · rintro ⟨e1, e2, e3⟩
      refine ⟨by omega, by omega, ?_⟩
      rcases e3 with e | e | e | e | e
      · exact absurd e.1 (by decide)
      · exact absurd e.1 (by decide)
      · exact .inr (.inr (.inl e))
      · exact absurd e.1 (by decide)
      · exact absurd e.1 (by decide)
  · rw [revX_mk, if_neg ho, M_mk, M_mk, List.map_map]
    have h4 : foldR o (l.map (M t ∘ revX)) i j ↔ foldR o (l.map (M s)) (s.size - j) (s.size - i) := by
      cases l with
      | nil => exact Iff.rfl
      | cons x l => exact Mir.foldl (f := M t ∘ revX) (g := M s) ho (fun y hy => ih y (by simp [hy])) (ih x (by simp)) i j hij hj
    have h6 : Star ((l.map (M t ∘ revX)).headD noR) i j ↔ Star ((l.map (M s)).headD noR) (s.size - j) (s.size - i) := by
      cases l with
      | nil => exact Mir.star (n := s.size) (A := noR) (B := noR) (fun _ _ _ _ => Iff.rfl) (fun _ _ h => h.elim) (fun _ _ h => h.elim) i j hij hj
      | cons x l => exact Mir.star (ih x (by simp)) (.M _ _) (.M _ x) i j hij hj
    have h8 : (l.map (M t ∘ revX)).headD noR i j ↔ (l.map (M s)).headD noR (s.size - j) (s.size - i) := by
      cases l with
      | nil => exact Iff.rfl
      | cons x l => exact ih x (by simp) i j hij hj
    have h3 : (∃ h : i < t.size, isIn S t[i]) ∧ j = i + 1 ↔ (∃ h : s.size - j < s.size, isIn S s[s.size - j]) ∧ j = i + 1 := by
      constructor
      · rintro ⟨⟨h, hi⟩, e⟩
        rw [hg i (by omega)] at hi
        subst e
        exact ⟨⟨by omega, by simpa [show s.size - (i + 1) = s.size - 1 - i by omega] using hi⟩, rfl⟩
      · rintro ⟨⟨h, hi⟩, e⟩
        subst e
        refine ⟨⟨by omega, ?_⟩, rfl⟩
        rw [hg i (by omega)]
        simpa [show s.size - (i + 1) = s.size - 1 - i by omega] using hi
    unfold opM
    rw [h4, h6, h8]
    constructor
    · rintro ⟨e1, e2, e3⟩
      refine ⟨by omega, by omega, ?_⟩
      rcases e3 with e | e | e | e | e
      · exact .inl ⟨e.1, by omega⟩
      · obtain ⟨q, _⟩ := h3.1 ⟨e.2.2, e.2.1⟩
        exact .inr (.inl ⟨e.1, by omega, q⟩)
      · exact .inr (.inr (.inl e))
      · exact .inr (.inr (.inr (.inl e)))
      · exact .inr (.inr (.inr (.inr e)))
    · rintro ⟨e1, e2, e3⟩
      refine ⟨hij, by omega, ?_⟩
      rcases e3 with e | e | e | e | e
      · exact .inl ⟨e.1, by omega⟩
      · have ej : j = i + 1 := by omega
        obtain ⟨q, _⟩ := h3.2 ⟨e.2.2, ej⟩
        exact .inr (.inl ⟨e.1, ej, q⟩)
      · exact .inr (.inr (.inl e))
      · exact .inr (.inr (.inr (.inl e)))
      · exact .inr (.inr (.inr (.inr e)))
end Go.Ab
