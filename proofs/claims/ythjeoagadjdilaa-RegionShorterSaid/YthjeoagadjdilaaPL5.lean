import Derived.Test.YthjeoagadjdilaaSH22
namespace Go.Ab
open Go Go.Ab Go.Proofs Go.Ab.Ty
set_option linter.unusedSimpArgs false
set_option linter.unusedVariables false

theorem stepsF_take {l : List Stp} : ∀ {r : Rg} {i : Int} (k : Nat), stepsF r l i = none → stepsF r (l.take k) i = none := by
  induction l with
  | nil => intro r i k h; simpa using h
  | cons s l ih =>
    intro r i k h
    cases k with
    | zero => rfl
    | succ k =>
      simp only [List.take_succ_cons, stepsF] at h ⊢
      split at h
      · rename_i e; rw [if_pos e]; exact ih k h
      · cases h
theorem stepsF_ne {l : List Stp} : ∀ {r : Rg} {i k e : Int}, stepsF r l i = some (k, e) → e ≠ 0 := by
  induction l with
  | nil => intro r i k e h; cases h
  | cons s l ih =>
    intro r i k e h
    simp only [stepsF] at h
    split at h
    · exact ih h
    · rename_i hne; injection h with h; injection h with h1 h2; subst h2; exact hne
theorem numsF_none {p : Tk} : ∀ {l : List Int}, (numsF p l).2.2 = 0 ↔ ∀ n ∈ l, codeF p n = none := by
  intro l
  induction l with
  | nil => simp [numsF]
  | cons n l ih =>
    simp only [numsF]
    cases h : codeF p n with
    | none => simp [h, ih]
    | some x =>
      obtain ⟨k, e⟩ := x
      have := stepsF_ne h
      simp [h, this]
theorem okStep_cong {l l' : Lk} {j : Nat} {s : Stp} (h : okStep l j s) (hv : l'.c.vars = l.c.vars) (hl : l'.p.codes.length = l.p.codes.length) (hc : ∀ k, (cod l'.p.codes k).params = (cod l.p.codes k).params)
    (hm : l'.p.methods = l.p.methods) (ha : l'.p.actors = l.p.actors) (ho : l'.own = l.own) (hmm : l'.method = l.method) (ht : l'.c.steps.take j = l.c.steps.take j) (hs : ∀ k : Int, 0 ≤ k → k < j → stp l'.c.steps k = stp l.c.steps k) : okStep l' j s := by
  unfold okStep at h ⊢
  rw [Int.toNat_natCast] at h ⊢
  simp only [hv, hl, hc, hm, ha, ho, hmm, ht]
  rcases h with h | h | h | h | ⟨h1, h2, h3, h4, ⟨h5, h6⟩, h7⟩ | h | h | h
  · exact .inl h
  · exact .inr (.inl h)
  · exact .inr (.inr (.inl h))
  · exact .inr (.inr (.inr (.inl h)))
  · exact .inr (.inr (.inr (.inr (.inl ⟨h1, h2, h3, h4, ⟨h5, by rw [hs s.n h5.1 h5.2]; exact h6⟩, h7⟩))))
  · exact .inr (.inr (.inr (.inr (.inr (.inl h)))))
  · exact .inr (.inr (.inr (.inr (.inr (.inr (.inl h))))))
  · exact .inr (.inr (.inr (.inr (.inr (.inr (.inr h))))))

theorem shorter_cod (p : Tk) {n : Nat} (hn : n < p.codes.length) (i : Int) : cod (shorter p n).codes i = if i.toNat = n then { cod p.codes n with steps := (cod p.codes n).steps.take ((cod p.codes n).steps.length - 1) } else cod p.codes i := by
  simp only [cod, nth, shorter, List.getElem?_set]
  by_cases e : i.toNat = n
  · subst e; simp [hn]
  · simp [e, Ne.symm e]
theorem shorter_okCode {p : Tk} {n : Nat} (hn : n < p.codes.length) {c c' : Cd} {own : Int} {m : Bool} (h : okCode ⟨p, c, own, m⟩) (h1 : c'.params = c.params) (h2 : c'.vars = c.vars) (h3 : ∃ k, c'.steps = c.steps.take k) : okCode ⟨shorter p n, c', own, m⟩ := by
  obtain ⟨k, hk⟩ := h3
  obtain ⟨hh, hst⟩ := h
  have hlen : c'.steps.length ≤ c.steps.length := by rw [hk, List.length_take]; omega
  refine ⟨by simp only [h1, h2] at *; omega, fun j hj => ?_⟩
  simp only at hj
  have hjk : j < k := by rw [hk, List.length_take] at hj; omega
  have hst' : ∀ i : Int, 0 ≤ i → i ≤ j → stp c'.steps i = stp c.steps i := fun i h0 hi => by
    simp only [stp, nth, hk, List.getElem?_take, show i.toNat < k by omega, if_true]
  have h5 := hst j (by simp only; omega)
  rw [show stp (Lk.mk (shorter p n) c' own m).c.steps j = stp c.steps j from hst' j (by omega) (by omega)]
  refine okStep_cong h5 h2 (by simp [shorter]) (fun i => ?_) rfl rfl rfl rfl ?_ fun i h0 hi => hst' i h0 (by omega)
  · rw [shorter_cod p hn]
    split
    · rename_i e
      simp only [cod, nth, ← e, Int.toNat_natCast]
    · rfl
  · simp only [hk, List.take_take]
    rw [Nat.min_eq_left (by omega)]
theorem shorter_acc {p : Tk} {n : Nat} (hn : n < p.codes.length) (h : acc p) : acc (shorter p n) := by
  obtain ⟨⟨hh, hc, hm⟩, hz⟩ := h
  have hlen : (shorter p n).codes.length = p.codes.length := by simp [shorter]
  refine ⟨⟨by rw [hlen]; exact hh, fun i hi => ?_, fun i hi => ?_⟩, ?_⟩
  · rw [hlen] at hi
    rw [shorter_cod p hn]
    split
    · rename_i e
      simp only [Int.toNat_natCast] at e
      subst e
      exact shorter_okCode hn (hc i hi) rfl rfl ⟨_, rfl⟩
    · exact shorter_okCode hn (hc i hi) rfl rfl ⟨_, (List.take_length ..).symm⟩
  · exact shorter_okCode hn (hm i hi) rfl rfl ⟨_, (List.take_length ..).symm⟩
  · have hnums : nums (shorter p n) = nums p := by simp [nums, shorter]
    rw [hnums]
    rw [numsF_none] at hz ⊢
    intro m hm'
    have h1 := hz m hm'
    unfold codeF codeOf at h1 ⊢
    by_cases e : m < 0
    · simp only [e, if_true] at h1 ⊢; exact h1
    · simp only [e, if_false] at h1 ⊢
      rw [shorter_cod p hn]
      split
      · rename_i e2
        have e3 : cod p.codes m = cod p.codes n := by simp only [cod, nth, e2, Int.toNat_natCast]
        rw [e3] at h1
        exact stepsF_take _ h1
      · exact h1
theorem law5 (p : Tk) (n : Int) : Fn Try.prog 5 [encT p, .int n] (.bool true) := law_shorter p n fun n hn _ h => shorter_acc hn h
end Go.Ab
