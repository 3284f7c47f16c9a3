/- Part of the proof. -/
import Derived.Test.YtjfahhbobiiphaaXL
import Derived.Test.YtjfahhbobiiphaaAbF
set_option linter.unusedSimpArgs false
set_option linter.unusedVariables false
set_option maxHeartbeats 4000000
namespace Go.Ab
open Go Go.Ab Go.Proofs Go.Ab.Ty

def encP (p : Nat × Nat) : AV := .agg [.int p.1, .int p.2]
theorem Pu_cP (p : Nat × Nat) : ∀ c ∈ (encP p).cells, Pu c := fun c hc => by
  simp only [encP, AV.cells, List.mem_cons, List.not_mem_nil, or_false] at hc
  rcases hc with rfl | rfl <;> exact .base _
@[simp] theorem Pu_mapP (l : List (Nat × Nat)) : Pu (.lst (l.map encP)) := .lst fun e he c hc => by
  obtain ⟨x, _, rfl⟩ := List.mem_map.1 he
  exact Pu_cP x c hc
end Go.Ab
set_option maxHeartbeats 4000000
namespace Go.Ab
open Go Go.Ab Go.Proofs Go.Ab.Ty

def Corr (a m : Nat) (A B : Rl) : Prop := ∀ i j, i ≤ j → j ≤ m → (A i j ↔ B (a + i) (a + j))
def Mon (A : Rl) : Prop := ∀ i j, A i j → i ≤ j
theorem Mon.comp {A B : Rl} (ha : Mon A) (hb : Mon B) : Mon (comp A B) := fun i j ⟨k, h1, h2⟩ => Nat.le_trans (ha _ _ h1) (hb _ _ h2)
theorem Mon.step {o : Int} {A B : Rl} (ha : Mon A) (hb : Mon B) : Mon (stepR o A B) := by
  unfold stepR
  split
  · exact ha.comp hb
  split
  · exact fun i j h => h.elim (ha i j) (hb i j)
  · exact fun i j h => ha i j h.1
theorem Mon.M (s : ByteArray) (r : Rx) : Mon (M s r) := fun i j h => (M_fwd s r i j h).1
section
variable {a m : Nat}
theorem Corr.comp {A1 A2 B1 B2 : Rl} (h1 : Corr a m A1 B1) (h2 : Corr a m A2 B2) (m1 : Mon A1) (m2 : Mon A2) (n1 : Mon B1) (n2 : Mon B2) : Corr a m (comp A1 A2) (comp B1 B2) := fun i j hij hj => by
  constructor
  · rintro ⟨k, k1, k2⟩
    have e1 := m1 _ _ k1
    have e2 := m2 _ _ k2
    exact ⟨a + k, (h1 i k e1 (by omega)).1 k1, (h2 k j e2 hj).1 k2⟩
  · rintro ⟨k, k1, k2⟩
    have e1 := n1 _ _ k1
    have e2 := n2 _ _ k2
    obtain ⟨p, rfl⟩ : ∃ p, k = a + p := ⟨k - a, by omega⟩
    exact ⟨p, (h1 i p (by omega) (by omega)).2 k1, (h2 p j (by omega) hj).2 k2⟩
theorem Corr.step {o : Int} {A1 A2 B1 B2 : Rl} (h1 : Corr a m A1 B1) (h2 : Corr a m A2 B2) (m1 : Mon A1) (m2 : Mon A2) (n1 : Mon B1) (n2 : Mon B2) : Corr a m (stepR o A1 A2) (stepR o B1 B2) := by
  unfold stepR
  split
  · exact h1.comp h2 m1 m2 n1 n2
  split
  · exact fun i j hij hj => or_congr (h1 i j hij hj) (h2 i j hij hj)
  · exact fun i j hij hj => and_congr (h1 i j hij hj) (h2 i j hij hj)
theorem Corr.foldl {s t : ByteArray} {o : Int} : ∀ {l : List Rx} {A B : Rl}, (∀ x ∈ l, Corr a m (M t x) (M s x)) → Corr a m A B → Mon A → Mon B → Corr a m ((l.map (M t)).foldl (stepR o) A) ((l.map (M s)).foldl (stepR o) B)
  | [], A, B, _, h, _, _ => h
  | x :: l, A, B, hl, h, ma, mb => Corr.foldl (l := l) (fun y hy => hl y (by simp [hy])) (h.step (hl x (by simp)) ma (.M t x) mb (.M s x)) (ma.step (.M t x)) (mb.step (.M s x))
theorem Star.mon {A : Rl} (ha : Mon A) {i j : Nat} (h : Star A i j) : i ≤ j := by
  induction h with
  | refl => exact Nat.le_refl _
  | step h _ ih => have := ha _ _ h; omega
theorem Corr.star {A B : Rl} (h : Corr a m A B) (ma : Mon A) (mb : Mon B) : Corr a m (Star A) (Star B) := fun i j hij hj => by
  constructor
  · intro hs
    induction hs with
    | refl => exact .refl _
    | @step i k j h1 h2 ih =>
      have e1 := ma _ _ h1
      have e2 := h2.mon ma
      exact .step ((h i k e1 (by omega)).1 h1) (ih e2 hj)
  · intro hs
    generalize hx : a + i = x at hs
    generalize hy : a + j = y at hs
    induction hs generalizing i with
    | refl =>
      obtain rfl : i = j := by omega
      exact .refl _
    | @step x k y h1 h2 ih =>
      have e1 := mb _ _ h1
      have e2 := h2.mon mb
      obtain ⟨p, rfl⟩ : ∃ p, k = a + p := ⟨k - a, by omega⟩
      subst hx
      exact .step ((h i p (by omega) (by omega)).2 h1) (ih p (by omega) rfl hy)
end
end Go.Ab
