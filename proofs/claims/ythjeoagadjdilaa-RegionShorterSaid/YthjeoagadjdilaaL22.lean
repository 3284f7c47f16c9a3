import Derived.Test.YthjeoagadjdilaaB22
namespace Go.Ab
open Go Go.Ab Go.Proofs Go.Ab.Ty
set_option linter.unusedSimpArgs false
set_option linter.unusedVariables false
theorem okVars1 {n v : Int} : okVars n [v] ↔ 0 ≤ v ∧ v < n := by simp [okVars]
theorem okVars2 {n v w : Int} : okVars n [v, w] ↔ (0 ≤ v ∧ v < n) ∧ (0 ≤ w ∧ w < n) ∧ v ≠ w := by
  simp [okVars, and_assoc]
theorem take_all {l : List Stp} {i : Nat} (hi : i ≤ l.length) (q : Stp → Prop) : (∀ x ∈ l.take i, q x) ↔ ∀ k : Nat, (k : Int) < i → q (stp l k) := by
  constructor
  · intro h k hk
    have : k < l.length := by omega
    rw [show stp l k = l[k] from nth_eq this]
    exact h _ (List.mem_iff_getElem.2 ⟨k, by rw [List.length_take]; omega, by rw [List.getElem_take]⟩)
  · intro h x hx
    obtain ⟨k, hk, rfl⟩ := List.mem_iff_getElem.1 hx
    rw [List.length_take] at hk
    have := h k (by omega)
    rw [show stp l k = l[k]'(by omega) from nth_eq (by omega)] at this
    rw [List.getElem_take]; exact this
theorem fits_step {l : Lk} {i : Nat} (hi : i ≤ l.c.steps.length) {s : Stp} (h : okFits l.p l.c i l.own l.method s) : okStep l i s := by
  obtain ⟨⟨ho, ⟨z1, z2, z3, z4, z5⟩, ⟨r1, r2⟩, hl, hv⟩, f1, f6, f7, f8, f9⟩ := h
  have hta := fun q => take_all (q := q) hi
  unfold okStep
  rw [Int.toNat_natCast]
  rcases (by omega : s.op = 1 ∨ s.op = 2 ∨ s.op = 3 ∨ s.op = 4 ∨ s.op = 5 ∨ s.op = 6 ∨ s.op = 7 ∨ s.op = 8 ∨ s.op = 9 ∨ s.op = 10 ∨ s.op = 11 ∨ s.op = 12) with e | e | e | e | e | e | e | e | e | e | e | e
  · simp [e, u1, u2, u3, u4, u5] at *; exact ⟨okVars1.2 r1, z2, f1.1, f1.2, z4, by simp [z5]⟩
  · simp [e, u1, u2, u3, u4, u5] at *; exact ⟨okVars2.2 ⟨r1, ⟨r2.1, r2.2.1⟩, r2.2.2⟩, z3, z4, by simp [z5]⟩
  · simp [e, u1, u2, u3, u4, u5] at *; exact ⟨okVars2.2 ⟨r1, ⟨r2.1, r2.2.1⟩, r2.2.2⟩, z3, z4, by simp [z5]⟩
  · simp [e, u1, u2, u3, u4, u5] at *; exact ⟨okVars1.2 r1, z2, z3, z4, by simp [z5]⟩
  · simp [e, u1, u2, u3, u4, u5] at *; exact ⟨okVars1.2 r1, z2, f1.1, f1.2, z4, by simp [z5]⟩
  · simp [e, u1, u2, u3, u4, u5] at *; exact ⟨⟨z1, z2⟩, by omega, by omega, by omega, by omega, f6.2.1, f6.2.2, hv⟩
  · simp only [e, hta] at *; simp [u1, u2, u3, u4, u5] at *; exact ⟨⟨z1, z2⟩, f7.1, ⟨z4, by simp [z5]⟩, ⟨f7.2.1, f7.2.2.1⟩, f7.2.2.2⟩
  · simp [e, u1, u2, u3, u4, u5] at *; exact ⟨⟨z1, z2⟩, f8.1, f8.2.1, f8.2.2.1, z4, f8.2.2.2, by omega, hv⟩
  · simp [e, u1, u2, u3, u4, u5] at *; exact ⟨⟨z1, z2⟩, by omega, by omega, by omega, by omega, f9.2.1, f9.2.2, hv⟩
  · simp [e, u1, u2, u3, u4, u5] at *; exact ⟨⟨z1, z2⟩, f7.1, ⟨z4, by simp [z5]⟩, ⟨f7.2.1, f7.2.2⟩⟩
  · simp [e, u1, u2, u3, u4, u5] at *; exact ⟨⟨z1, z2⟩, z3, z4, by simp [z5]⟩
  · simp [e, u1, u2, u3, u4, u5] at *; exact ⟨⟨z1, z2⟩, z3, z4, by simp [z5]⟩
theorem step_fits {l : Lk} {i : Nat} (hi : i ≤ l.c.steps.length) {s : Stp} (hp : ∀ n : Int, 0 ≤ n → n < l.p.codes.length → (cod l.p.codes n).params ≤ 4) (hm : ∀ n : Int, 0 ≤ n → n < l.p.methods.length → (cod l.p.methods n).params ≤ 4) (h : okStep l i s) : okFits l.p l.c i l.own l.method s := by
  have hta := fun q => take_all (q := q) hi
  unfold okStep at h
  rw [Int.toNat_natCast] at h
  have hnil : ∀ {n : Int}, s.vars.length = 0 → s.vars = [] ∧ s.vars.length ≤ 4 ∧ okVars n s.vars := fun h => by
    have := List.eq_nil_of_length_eq_zero h
    rw [this]; simp [okVars]
  rcases h with ⟨ho, h1, h2, h3, h4, h5, h6⟩ | ⟨ho, h1, h2, h3, h4⟩ | ⟨ho, h1, h2, h3, h4, h5⟩ | ⟨ho, ⟨h1, h1'⟩, h2, h3, h4, h5, h6, h7, h8⟩ | ⟨ho, ⟨h1, h1'⟩, h2, ⟨h3, h3'⟩, h4, h5⟩ | ⟨ho, ⟨h1, h1'⟩, h2, h3, h4, h5, h6, h7, h8⟩ | ⟨ho, ⟨h1, h1'⟩, h2, h3, h4, h5, h6, h7, h8⟩ | ⟨ho, ⟨h1, h1'⟩, h2, h3, h4⟩
  · obtain ⟨g1, g2, g3⟩ := hnil (n := l.c.vars) h6
    rw [okVars1] at h1
    rcases ho with e | e <;> simp [okFits, okFormed, u1, u2, u3, u4, u5, e, h1, h2, h3, h4, h5, g1, okVars]
  · obtain ⟨g1, g2, g3⟩ := hnil (n := l.c.vars) h4
    rw [okVars2] at h1
    rcases ho with e | e <;> simp [okFits, okFormed, u1, u2, u3, u4, u5, e, h1, h2, h3, g1, okVars]
  · obtain ⟨g1, g2, g3⟩ := hnil (n := l.c.vars) h5
    rw [okVars1] at h1
    simp [okFits, okFormed, u1, u2, u3, u4, u5, ho, h1, h2, h3, h4, g1, okVars]
  · have := hp s.task (by omega) h5
    have g : s.vars.length ≤ 4 := by omega
    simp [okFits, okFormed, u1, u2, u3, u4, u5, ho, h1, h1', h2, h3, g, h8]
    exact ⟨by omega, h6, h7⟩
  · obtain ⟨g1, g2, g3⟩ := hnil (n := l.c.vars) h3'
    obtain ⟨h4, h4'⟩ := h4
    rcases ho with e | e
    · simp only [e, hta] at h5
      simp at h5
      simp [okFits, okFormed, u1, u2, u3, u4, u5, e, h1, h1', h2, h3, h4, h4', g1, okVars]
      exact h5
    · simp [okFits, okFormed, u1, u2, u3, u4, u5, e, h1, h1', h2, h3, h4, h4', g1, okVars]
  · have g : s.vars.length ≤ 4 := by omega
    simp [okFits, okFormed, u1, u2, u3, u4, u5, ho, h1, h1', h2, h3, h4, h5, g, h8]
    omega
  · have := hm s.task h4 h5
    have g : s.vars.length ≤ 4 := by omega
    simp [okFits, okFormed, u1, u2, u3, u4, u5, ho, h1, h1', h2, h3, h4, h5, g, h8]
    exact ⟨h6, h7⟩
  · obtain ⟨g1, g2, g3⟩ := hnil (n := l.c.vars) h4
    rcases ho with e | e <;> simp [okFits, okFormed, u1, u2, u3, u4, u5, e, h1, h1', h2, h3, g1, okVars]

theorem valid_iff (p : Tk) : okValid p ↔ okRef p := by
  constructor
  · rintro ⟨h, hc, hm⟩
    have hp : ∀ n : Int, 0 ≤ n → n < (p.codes.length : Int) → (cod p.codes n).params ≤ 4 := fun n h0 h1 => by
      have := (hc n.toNat (by omega)).1.2.1
      rwa [Int.toNat_of_nonneg h0] at this
    have hq : ∀ n : Int, 0 ≤ n → n < (p.methods.length : Int) → (cod p.methods n).params ≤ 4 := fun n h0 h1 => by
      have := (hm n.toNat (by omega)).1.2.1
      rwa [Int.toNat_of_nonneg h0] at this
    refine ⟨h, fun i hi => ⟨(hc i hi).1, fun j hj => ?_⟩, fun i hi => ⟨(hm i hi).1, fun j hj => ?_⟩⟩
    · exact step_fits (l := ⟨p, cod p.codes i, i, false⟩) (Nat.le_of_lt hj) hp hq ((hc i hi).2 j hj)
    · exact step_fits (l := ⟨p, cod p.methods i, i, true⟩) (Nat.le_of_lt hj) hp hq ((hm i hi).2 j hj)
  · rintro ⟨h, hc, hm⟩
    refine ⟨h, fun i hi => ⟨(hc i hi).1, fun j hj => ?_⟩, fun i hi => ⟨(hm i hi).1, fun j hj => ?_⟩⟩
    · exact fits_step (l := ⟨p, cod p.codes i, i, false⟩) (Nat.le_of_lt hj) ((hc i hi).2 j hj)
    · exact fits_step (l := ⟨p, cod p.methods i, i, true⟩) (Nat.le_of_lt hj) ((hm i hi).2 j hj)
end Go.Ab
