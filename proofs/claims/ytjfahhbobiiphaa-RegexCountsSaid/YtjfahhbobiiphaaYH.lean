/- Part of the proof. -/
import Derived.Test.YtjfahhbobiiphaaAbA
set_option linter.unusedSimpArgs false
set_option linter.unusedVariables false
namespace Go.Ab

theorem sub_len {β : Type} [DecidableEq β] : ∀ (l U : List β), l.Nodup → (∀ x ∈ l, x ∈ U) → l.length ≤ U.length
  | [], U, _, _ => Nat.zero_le _
  | x :: l, U, hn, h => by
    rw [List.nodup_cons] at hn
    have hx := h x (by simp)
    have h1 := sub_len l (U.erase x) hn.2 fun y hy => by
      have : y ≠ x := fun e => hn.1 (e ▸ hy)
      exact (List.mem_erase_of_ne this).2 (h y (by simp [hy]))
    have h2 := List.length_erase_of_mem hx
    have h3 := List.length_pos_of_mem hx
    simp only [List.length_cons]
    omega
theorem cover_nodup {β : Type} [DecidableEq β] : ∀ (U l : List β), U.Nodup → (∀ x ∈ U, x ∈ l) → l.length = U.length → l.Nodup
  | [], l, _, _, h => by simp at h; subst h; simp
  | x :: U, l, hn, h, hl => by
    rw [List.nodup_cons] at hn
    have hx := h x (by simp)
    have h2 := List.length_erase_of_mem hx
    have h3 := List.length_pos_of_mem hx
    simp only [List.length_cons] at hl
    have hU : ∀ y ∈ U, y ∈ l.erase x := fun y hy => by
      have : y ≠ x := fun e => hn.1 (e ▸ hy)
      exact (List.mem_erase_of_ne this).2 (h y (by simp [hy]))
    have h1 := cover_nodup U (l.erase x) hn.2 hU (by omega)
    have hnot : x ∉ l.erase x := fun hx2 => by
      have h4 := sub_len U ((l.erase x).erase x) hn.2 fun y hy => by
        have : y ≠ x := fun e => hn.1 (e ▸ hy)
        exact (List.mem_erase_of_ne this).2 (hU y hy)
      have h5 := List.length_erase_of_mem hx2
      have h6 := List.length_pos_of_mem hx2
      omega
    exact (List.perm_cons_erase hx).nodup_iff.2 (List.nodup_cons.2 ⟨hnot, h1⟩)
theorem inj_le {n m : Nat} (f : Nat → Nat) (hf : ∀ q, q < n → f q < m) (hi : ∀ p q, p < n → q < n → f p = f q → p = q) : n ≤ m := by
  have h := sub_len ((List.range n).map f) (List.range m) (by
    rw [List.Nodup, List.pairwise_map]
    refine List.Pairwise.imp_of_mem ?_ List.nodup_range
    intro a b ha hb hab e
    exact hab (hi a b (List.mem_range.1 ha) (List.mem_range.1 hb) e)) (fun x hx => by
    obtain ⟨q, hq, rfl⟩ := List.mem_map.1 hx
    exact List.mem_range.2 (hf q (List.mem_range.1 hq)))
  simpa using h

section
variable {α : Type}
def dr (st : Nat → α → Nat) (q : Nat) (w : List α) : Nat := w.foldl st q
theorem dr_app (st : Nat → α → Nat) (q : Nat) (u v : List α) : dr st q (u ++ v) = dr st (dr st q u) v := List.foldl_append ..
theorem dr_nil (st : Nat → α → Nat) (q : Nat) : dr st q [] = q := rfl
theorem dr_cons (st : Nat → α → Nat) (q : Nat) (a : α) (w : List α) : dr st q (a :: w) = dr st (st q a) w := rfl
theorem dr_lt {st : Nat → α → Nat} {n : Nat} (h : ∀ q, q < n → ∀ a, st q a < n) : ∀ (w : List α) (q : Nat), q < n → dr st q w < n
  | [], q, hq => hq
  | a :: w, q, hq => dr_lt h w _ (h q hq a)
structure Rd (L : List α → Prop) (n : Nat) (st : Nat → α → Nat) (ac : Nat → Bool) : Prop where
  pos : 0 < n
  cl : ∀ q, q < n → ∀ a, st q a < n
  lang : ∀ w, ac (dr st 0 w) = true ↔ L w
  reach : ∀ q, q < n → ∃ w, dr st 0 w = q
structure Lm (L : List α → Prop) (n : Nat) (st : Nat → α → Nat) (ac : Nat → Bool) : Prop extends Rd L n st ac where
  sep : ∀ p q, p < n → q < n → (∀ w, ac (dr st p w) = ac (dr st q w)) → p = q
theorem bool_iff {a b : Bool} (h : a = true ↔ b = true) : a = b := by cases a <;> cases b <;> simp_all
theorem Lm.le {L : List α → Prop} {n m : Nat} {st st' : Nat → α → Nat} {ac ac' : Nat → Bool} (h : Lm L n st ac) (k : Rd L m st' ac') : n ≤ m := by
  have hw : ∀ q, ∃ w : List α, q < n → dr st 0 w = q := fun q => by
    by_cases hq : q < n
    · obtain ⟨w, hw⟩ := h.reach q hq; exact ⟨w, fun _ => hw⟩
    · exact ⟨[], fun hq' => absurd hq' hq⟩
  obtain ⟨W, hW⟩ := Classical.axiomOfChoice hw
  refine inj_le (fun q => dr st' 0 (W q)) (fun q hq => dr_lt k.cl _ _ k.pos) fun p q hp hq e => h.sep p q hp hq fun v => ?_
  have e1 := h.lang (W p ++ v)
  have e2 := h.lang (W q ++ v)
  have e3 := k.lang (W p ++ v)
  have e4 := k.lang (W q ++ v)
  rw [dr_app, hW p hp] at e1
  rw [dr_app, hW q hq] at e2
  rw [dr_app] at e3 e4
  rw [e] at e3
  exact bool_iff (e1.trans (e3.symm.trans (e4.trans e2.symm)))
theorem Lm.size {L : List α → Prop} {n m : Nat} {st st' : Nat → α → Nat} {ac ac' : Nat → Bool} (h : Lm L n st ac) (k : Lm L m st' ac') : n = m :=
  Nat.le_antisymm (h.le k.toRd) (k.le h.toRd)
theorem Lm.congr {L L' : List α → Prop} {n : Nat} {st : Nat → α → Nat} {ac : Nat → Bool} (h : Lm L n st ac) (he : ∀ w, L w ↔ L' w) : Lm L' n st ac :=
  ⟨⟨h.pos, h.cl, fun w => (h.lang w).trans (he w), h.reach⟩, h.sep⟩
theorem Lm.flip {L : List α → Prop} {n : Nat} {st : Nat → α → Nat} {ac : Nat → Bool} (h : Lm L n st ac) : Lm (fun w => ¬ L w) n st (fun q => !ac q) :=
  ⟨⟨h.pos, h.cl, fun w => by rw [← h.lang w]; simp, h.reach⟩, fun p q hp hq e => h.sep p q hp hq fun w => by have := e w; simpa using this⟩

def uq {β : Type} [DecidableEq β] : List β → List β → List β
  | acc, [] => acc
  | acc, x :: l => uq (if x ∈ acc then acc else acc ++ [x]) l
theorem uq_nodup {β : Type} [DecidableEq β] : ∀ (l acc : List β), acc.Nodup → (uq acc l).Nodup
  | [], acc, h => h
  | x :: l, acc, h => by
    rw [uq]
    refine uq_nodup l _ ?_
    split
    · exact h
    · rename_i hx
      rw [List.nodup_append]
      exact ⟨h, by simp, fun a ha b hb => by rw [List.mem_singleton] at hb; subst hb; exact fun e => hx (e ▸ ha)⟩
theorem mem_uq {β : Type} [DecidableEq β] {y : β} : ∀ (l acc : List β), y ∈ uq acc l ↔ y ∈ acc ∨ y ∈ l
  | [], acc => by simp [uq]
  | x :: l, acc => by
    rw [uq, mem_uq l]
    split
    · rename_i h; simp; grind
    · simp; grind
theorem uq_snoc {β : Type} [DecidableEq β] (x : β) : ∀ (l acc : List β), uq acc (l ++ [x]) = if x ∈ uq acc l then uq acc l else uq acc l ++ [x]
  | [], acc => rfl
  | y :: l, acc => by rw [List.cons_append, uq, uq_snoc x l, uq]
end
end Go.Ab
namespace Go.Ab

section
variable {β γ : Type} [DecidableEq β]
def addN (all : List β) (x : β) : List β := if x ∈ all then all else all ++ [x]
theorem addN_pre (all : List β) (x : β) : ∃ m, addN all x = all ++ m := by
  unfold addN; split
  · exact ⟨[], by simp⟩
  · exact ⟨[x], rfl⟩
theorem mem_addN (all : List β) (x : β) : x ∈ addN all x := by
  unfold addN; split
  · assumption
  · simp
theorem addN_nodup {all : List β} (x : β) (h : all.Nodup) : (addN all x).Nodup := by
  unfold addN; split
  · exact h
  · rename_i hx
    rw [List.nodup_append]
    exact ⟨h, by simp, fun a ha b hb => by rw [List.mem_singleton] at hb; subst hb; exact fun e => hx (e ▸ ha)⟩
theorem of_addN {all : List β} {x y : β} (h : y ∈ addN all x) : y ∈ all ∨ y = x := by
  unfold addN at h; split at h
  · exact .inl h
  · simpa using h
theorem addN_idx (all : List β) (x : β) : (addN all x).idxOf x = if x ∈ all then all.idxOf x else all.length := by
  unfold addN; split
  · rfl
  · rename_i h
    rw [List.idxOf_append, if_neg h]
    simp
def rowX (δ : γ → β) : List γ → List β → List Nat → List β × List Nat
  | [], all, row => (all, row)
  | g :: gs, all, row => rowX δ gs (addN all (δ g)) (row ++ [(addN all (δ g)).idxOf (δ g)])
theorem rowX_snoc (δ : γ → β) (g : γ) : ∀ (gs : List γ) (all : List β) (row : List Nat), rowX δ (gs ++ [g]) all row = (addN (rowX δ gs all row).1 (δ g), (rowX δ gs all row).2 ++ [(addN (rowX δ gs all row).1 (δ g)).idxOf (δ g)])
  | [], all, row => rfl
  | x :: gs, all, row => by rw [List.cons_append, rowX, rowX_snoc δ g gs, rowX]
theorem idxOf_at {x : β} {l : List β} (h : x ∈ l) : l[l.idxOf x]? = some x := by
  have h1 : l.idxOf x < l.length := List.idxOf_lt_length_of_mem h
  rw [List.getElem?_eq_getElem h1]; congr 1; exact List.getElem_idxOf h1
structure RowOk (δ : γ → β) (gs : List γ) (all : List β) (r : List β × List Nat) : Prop where
  pre : ∃ m, r.1 = all ++ m
  nd : all.Nodup → r.1.Nodup
  len : r.2.length = gs.length
  lt : ∀ x ∈ r.2, x < r.1.length
  nx : ∀ j : Nat, ∀ g : γ, gs[j]? = some g → ∃ x, r.2[j]? = some x ∧ r.1[x]? = some (δ g)
  mem : ∀ y ∈ r.1, y ∈ all ∨ ∃ g ∈ gs, y = δ g
theorem rowX_ok (δ : γ → β) (all : List β) : ∀ n, ∀ gs : List γ, gs.length = n → RowOk δ gs all (rowX δ gs all []) := by
  intro n
  induction n with
  | zero =>
    intro gs h
    have := List.eq_nil_of_length_eq_zero h
    subst this
    exact ⟨⟨[], by simp [rowX]⟩, fun h => h, rfl, by simp [rowX], by simp, fun y hy => .inl hy⟩
  | succ n ih =>
    intro gs h
    have hne : gs ≠ [] := fun e => by rw [e] at h; simp at h
    obtain ⟨gs, g, rfl⟩ : ∃ a b, gs = a ++ [b] := ⟨gs.dropLast, gs.getLast hne, (List.dropLast_concat_getLast hne).symm⟩
    simp only [List.length_append, List.length_cons, List.length_nil] at h
    obtain ⟨⟨m, p⟩, nd, len, lt, nx, mem⟩ := ih gs (by omega)
    rw [rowX_snoc]
    generalize rowX δ gs all [] = r at *
    obtain ⟨m2, p2⟩ := addN_pre r.1 (δ g)
    have hl : r.1.length ≤ (addN r.1 (δ g)).length := by rw [p2]; simp
    have hi := idxOf_at (mem_addN r.1 (δ g))
    refine ⟨⟨m ++ m2, by rw [p2, p]; simp⟩, fun h => addN_nodup _ (nd h), by simp [len], fun x hx => ?_, fun j g' hj => ?_, fun y hy => ?_⟩
    · rcases List.mem_append.1 hx with hx | hx
      · exact Nat.lt_of_lt_of_le (lt x hx) hl
      · rw [List.mem_singleton] at hx; subst hx; exact List.idxOf_lt_length_of_mem (mem_addN _ _)
    · rcases Nat.lt_or_ge j gs.length with h1 | h1
      · rw [List.getElem?_append_left h1] at hj
        obtain ⟨x, e1, e2⟩ := nx j g' hj
        refine ⟨x, by rw [List.getElem?_append_left (by omega)]; exact e1, ?_⟩
        rw [p2, List.getElem?_append_left]
        · exact e2
        · exact (List.getElem?_eq_some_iff.1 e2).1
      · rw [List.getElem?_append_right h1] at hj
        have h2 : j - gs.length = 0 := by
          rcases Nat.eq_zero_or_pos (j - gs.length) with h | h
          · exact h
          · rw [List.getElem?_eq_none (by simp only [List.length_cons, List.length_nil]; omega)] at hj; cases hj
        rw [h2] at hj
        simp at hj
        subst hj
        refine ⟨(addN r.1 (δ g)).idxOf (δ g), ?_, hi⟩
        rw [List.getElem?_append_right (by omega), show j - r.2.length = 0 by omega]
        rfl
    · rcases of_addN hy with hy | hy
      · rcases mem y hy with h | ⟨g', h1, h2⟩
        · exact .inl h
        · exact .inr ⟨g', by simp [h1], h2⟩
      · exact .inr ⟨g, by simp, hy⟩
def xs (δ : β → γ → β) (gs : List γ) (s0 : β) : Nat → List β × List (List Nat)
  | 0 => ([s0], [])
  | k + 1 => match (xs δ gs s0 k).1[k]? with
    | some s => ((rowX (δ s) gs (xs δ gs s0 k).1 []).1, (xs δ gs s0 k).2 ++ [(rowX (δ s) gs (xs δ gs s0 k).1 []).2])
    | none => xs δ gs s0 k
theorem xs_some {δ : β → γ → β} {gs : List γ} {s0 : β} {k : Nat} {s : β} (h : (xs δ gs s0 k).1[k]? = some s) :
    xs δ gs s0 (k + 1) = ((rowX (δ s) gs (xs δ gs s0 k).1 []).1, (xs δ gs s0 k).2 ++ [(rowX (δ s) gs (xs δ gs s0 k).1 []).2]) := by
  rw [xs, h]
theorem xs_none {δ : β → γ → β} {gs : List γ} {s0 : β} {k : Nat} (h : (xs δ gs s0 k).1.length ≤ k) : xs δ gs s0 (k + 1) = xs δ gs s0 k := by
  rw [xs, List.getElem?_eq_none h]
theorem xs_stop {δ : β → γ → β} {gs : List γ} {s0 : β} {k : Nat} (h : (xs δ gs s0 k).1.length ≤ k) : ∀ m, xs δ gs s0 (k + m) = xs δ gs s0 k
  | 0 => rfl
  | m + 1 => by
    have := xs_stop h m
    rw [← Nat.add_assoc, xs_none (by rw [this]; omega), this]
structure XsOk (δ : β → γ → β) (gs : List γ) (s0 : β) (k : Nat) (r : List β × List (List Nat)) : Prop where
  nd : r.1.Nodup
  zero : r.1[0]? = some s0
  len : r.2.length ≤ k ∧ r.2.length ≤ r.1.length ∧ (k ≤ r.1.length → r.2.length = k) ∧ (r.2.length < k → r.2.length = r.1.length)
  wd : ∀ x ∈ r.2, x.length = gs.length
  lt : ∀ x ∈ r.2, ∀ y ∈ x, y < r.1.length
  nx : ∀ i j : Nat, ∀ s row g, r.1[i]? = some s → r.2[i]? = some row → gs[j]? = some g → ∃ x, row[j]? = some x ∧ r.1[x]? = some (δ s g)
  reach : ∀ s ∈ r.1, ∃ w : List γ, (∀ g ∈ w, g ∈ gs) ∧ w.foldl δ s0 = s
theorem xs_ok (δ : β → γ → β) (gs : List γ) (s0 : β) : ∀ k, XsOk δ gs s0 k (xs δ gs s0 k)
  | 0 => ⟨by simp [xs], rfl, by simp [xs], by simp [xs], by simp [xs], by simp [xs], fun s hs => by
      simp [xs] at hs; subst hs; exact ⟨[], by simp, rfl⟩⟩
  | k + 1 => by
    have ih := xs_ok δ gs s0 k
    cases hs : (xs δ gs s0 k).1[k]? with
    | none =>
      have h1 := List.getElem?_eq_none_iff.1 hs
      rw [xs_none h1]
      have h2 := ih.len
      exact ⟨ih.nd, ih.zero, ⟨by omega, by omega, by omega, fun _ => by
        rcases Nat.lt_or_ge (xs δ gs s0 k).2.length k with h | h
        · exact h2.2.2.2 h
        · omega⟩, ih.wd, ih.lt, ih.nx, ih.reach⟩
    | some s =>
      have h1 := (List.getElem?_eq_some_iff.1 hs).1
      rw [xs_some hs]
      have hr := rowX_ok (δ s) (xs δ gs s0 k).1 gs.length gs rfl
      obtain ⟨nd, zero, len, wd, lt, nx, reach⟩ := ih
      generalize xs δ gs s0 k = p at *
      generalize rowX (δ s) gs p.1 [] = r at *
      obtain ⟨m, hm⟩ := hr.pre
      have hlen : p.1.length ≤ r.1.length := by rw [hm]; simp
      have hk : p.2.length = k := len.2.2.1 (by omega)
      refine ⟨hr.nd nd, ?_, ?_, fun x hx => ?_, fun x hx y hy => ?_, fun i j s' row g hi hro hg => ?_, fun s' hs' => ?_⟩
      · simp only [hm]; rw [List.getElem?_append_left (by omega)]; exact zero
      · simp only [List.length_append, List.length_cons, List.length_nil]; omega
      · rcases List.mem_append.1 hx with hx | hx
        · exact wd x hx
        · rw [List.mem_singleton] at hx; subst hx; exact hr.len
      · rcases List.mem_append.1 hx with hx | hx
        · exact Nat.lt_of_lt_of_le (lt x hx y hy) hlen
        · rw [List.mem_singleton] at hx; subst hx; exact hr.lt y hy
      · simp only at hi hro ⊢
        rcases Nat.lt_or_ge i k with h2 | h2
        · rw [List.getElem?_append_left (by omega)] at hro
          rw [hm, List.getElem?_append_left (by omega)] at hi
          obtain ⟨x, e1, e2⟩ := nx i j s' row g hi hro hg
          exact ⟨x, e1, by rw [hm, List.getElem?_append_left (List.getElem?_eq_some_iff.1 e2).1]; exact e2⟩
        · have h3 : i = k := by
            have := (List.getElem?_eq_some_iff.1 hro).1
            simp only [List.length_append, List.length_cons, List.length_nil] at this
            omega
          subst h3
          rw [List.getElem?_append_right (by omega), show i - p.2.length = 0 by omega] at hro
          simp at hro
          subst hro
          rw [hm, List.getElem?_append_left h1, hs] at hi
          injection hi with hi; subst hi
          exact hr.nx j g hg
      · rcases hr.mem s' hs' with h2 | ⟨g, h2, h3⟩
        · exact reach s' h2
        · obtain ⟨w, h4, h5⟩ := reach s (List.mem_of_getElem? hs)
          exact ⟨w ++ [g], fun x hx => by
            rcases List.mem_append.1 hx with hx | hx
            · exact h4 x hx
            · rw [List.mem_singleton] at hx; subst hx; exact h2, by rw [List.foldl_append, h5, h3]; rfl⟩
theorem xs_mono (δ : β → γ → β) (gs : List γ) (s0 : β) (k : Nat) : ∀ m, (xs δ gs s0 k).1.length ≤ (xs δ gs s0 (k + m)).1.length
  | 0 => Nat.le_refl _
  | m + 1 => by
    refine Nat.le_trans (xs_mono δ gs s0 k m) ?_
    rw [← Nat.add_assoc]
    cases hs : (xs δ gs s0 (k + m)).1[k + m]? with
    | none => rw [xs_none (List.getElem?_eq_none_iff.1 hs)]; exact Nat.le_refl _
    | some s =>
      rw [xs_some hs]
      obtain ⟨m', h⟩ := (rowX_ok (δ s) (xs δ gs s0 (k + m)).1 gs.length gs rfl).pre
      simp only [h, List.length_append]; omega
end
end Go.Ab
namespace Go.Ab

section
variable {α : Type}
structure Gm (g : α → Nat) (k : Nat) (rows : List (List Nat)) (acs : List Bool) : Prop where
  pos : 0 < rows.length
  al : acs.length = rows.length
  wd : ∀ r ∈ rows, r.length = k
  lt : ∀ r ∈ rows, ∀ x ∈ r, x < rows.length
  gk : ∀ a, g a < k
  sur : ∀ x, x < k → ∃ a, g a = x
def stR (g : α → Nat) (rows : List (List Nat)) (q : Nat) (a : α) : Nat := (rows.getD q []).getD (g a) 0
def acR (acs : List Bool) (q : Nat) : Bool := acs.getD q false
theorem Gm.cl {g : α → Nat} {k : Nat} {rows : List (List Nat)} {acs : List Bool} (h : Gm g k rows acs) (q : Nat) (hq : q < rows.length) (a : α) : stR g rows q a < rows.length := by
  unfold stR
  have h1 : rows[q] ∈ rows := List.getElem_mem hq
  have h2 := h.wd _ h1
  rw [show rows.getD q [] = rows[q] by rw [List.getD_eq_getElem?_getD, List.getElem?_eq_getElem hq, Option.getD_some], List.getD_eq_getElem?_getD, List.getElem?_eq_getElem (by rw [h2]; exact h.gk a), Option.getD_some]
  exact h.lt _ h1 _ (List.getElem_mem _)
def keyL (rows : List (List Nat)) (cl : List Nat) (i : Nat) : List Nat := cl.getD i 0 :: (rows.getD i []).map fun x => cl.getD x 0
def keysL (rows : List (List Nat)) (cl : List Nat) (i : Nat) : List (List Nat) := (List.range i).map (keyL rows cl)
def numL (rows : List (List Nat)) (cl : List Nat) (i : Nat) : List (List Nat) := uq [] (keysL rows cl i)
def refL (rows : List (List Nat)) (cl : List Nat) : List Nat := (List.range rows.length).map fun i => (numL rows cl rows.length).idxOf (keyL rows cl i)
def clR (rows : List (List Nat)) (cl0 : List Nat) : Nat → List Nat
  | 0 => cl0
  | k + 1 => refL rows (clR rows cl0 k)
def cntR (rows : List (List Nat)) (cl0 : List Nat) (k : Nat) : Nat := (numL rows (clR rows cl0 k) rows.length).length
theorem numL_succ (rows : List (List Nat)) (cl : List Nat) (i : Nat) : numL rows cl (i + 1) = addN (numL rows cl i) (keyL rows cl i) := by
  unfold numL keysL addN
  rw [List.range_succ, List.map_append, List.map_cons, List.map_nil, uq_snoc]
theorem numL_pre (rows : List (List Nat)) (cl : List Nat) (i : Nat) : ∀ m, ∃ t, numL rows cl (i + m) = numL rows cl i ++ t
  | 0 => ⟨[], by simp⟩
  | m + 1 => by
    obtain ⟨t, h⟩ := numL_pre rows cl i m
    obtain ⟨t2, h2⟩ := addN_pre (numL rows cl (i + m)) (keyL rows cl (i + m))
    exact ⟨t ++ t2, by rw [← Nat.add_assoc, numL_succ, h2, h, List.append_assoc]⟩
theorem numL_nodup (rows : List (List Nat)) (cl : List Nat) (i : Nat) : (numL rows cl i).Nodup := uq_nodup _ _ (by simp)
theorem mem_numL {rows : List (List Nat)} {cl : List Nat} {i : Nat} {x : List Nat} : x ∈ numL rows cl i ↔ ∃ j, j < i ∧ keyL rows cl j = x := by
  unfold numL keysL
  rw [mem_uq]; simp
theorem refL_len (rows : List (List Nat)) (cl : List Nat) : (refL rows cl).length = rows.length := by simp [refL]
theorem refL_get {rows : List (List Nat)} {cl : List Nat} {i : Nat} (h : i < rows.length) : (refL rows cl).getD i 0 = (numL rows cl rows.length).idxOf (keyL rows cl i) := by
  rw [List.getD_eq_getElem?_getD, List.getElem?_eq_getElem (by rw [refL_len]; exact h)]; simp [refL]
theorem idxOf_inj {β : Type} [BEq β] [LawfulBEq β] {l : List β} {x y : β} (hx : x ∈ l) (hy : y ∈ l) (h : l.idxOf x = l.idxOf y) : x = y := by
  have h1 := List.idxOf_lt_length_of_mem hx
  have h2 := List.idxOf_lt_length_of_mem hy
  have e1 := List.getElem_idxOf h1
  have e2 := List.getElem_idxOf h2
  rw [← e1, ← e2]
  congr 1
theorem refL_eq {rows : List (List Nat)} {cl : List Nat} {i j : Nat} (hi : i < rows.length) (hj : j < rows.length) : (refL rows cl).getD i 0 = (refL rows cl).getD j 0 ↔ keyL rows cl i = keyL rows cl j := by
  rw [refL_get hi, refL_get hj]
  exact ⟨fun h => idxOf_inj (mem_numL.2 ⟨i, hi, rfl⟩) (mem_numL.2 ⟨j, hj, rfl⟩) h, fun h => by rw [h]⟩
theorem refL_lt {rows : List (List Nat)} {cl : List Nat} {i : Nat} (h : i < rows.length) : (refL rows cl).getD i 0 < (numL rows cl rows.length).length := by
  rw [refL_get h]; exact List.idxOf_lt_length_of_mem (mem_numL.2 ⟨i, h, rfl⟩)
theorem refL_sur {rows : List (List Nat)} {cl : List Nat} {c : Nat} (h : c < (numL rows cl rows.length).length) : ∃ i, i < rows.length ∧ (refL rows cl).getD i 0 = c := by
  obtain ⟨i, h1, h2⟩ := mem_numL.1 (List.getElem_mem h)
  refine ⟨i, h1, ?_⟩
  rw [refL_get h1, h2]
  exact (numL_nodup rows cl rows.length).idxOf_getElem c h
theorem clR_eq {g : α → Nat} {k : Nat} {rows : List (List Nat)} {acs : List Bool} (hm : Gm g k rows acs) {cl0 : List Nat} (h0 : ∀ i j, i < rows.length → j < rows.length → (cl0.getD i 0 = cl0.getD j 0 ↔ acR acs i = acR acs j)) :
    ∀ n i j, i < rows.length → j < rows.length → ((clR rows cl0 n).getD i 0 = (clR rows cl0 n).getD j 0 ↔ ∀ w : List α, w.length ≤ n → acR acs (dr (stR g rows) i w) = acR acs (dr (stR g rows) j w))
  | 0, i, j, hi, hj => by
    rw [clR, h0 i j hi hj]
    exact ⟨fun h w hw => by
      rw [List.eq_nil_of_length_eq_zero (Nat.le_zero.1 hw)]; exact h, fun h => h [] (Nat.le_refl _)⟩
  | n + 1, i, j, hi, hj => by
    have ih := clR_eq hm h0 n
    have hk : ∀ i, i < rows.length → (rows.getD i []).length = k := fun i hi => by
      rw [List.getD_eq_getElem?_getD, List.getElem?_eq_getElem hi, Option.getD_some]; exact hm.wd _ (List.getElem_mem hi)
    have hkey : keyL rows (clR rows cl0 n) i = keyL rows (clR rows cl0 n) j ↔ ((clR rows cl0 n).getD i 0 = (clR rows cl0 n).getD j 0 ∧ ∀ a : α, (clR rows cl0 n).getD (stR g rows i a) 0 = (clR rows cl0 n).getD (stR g rows j a) 0) := by
      unfold keyL
      rw [List.cons.injEq]
      refine and_congr_right fun _ => ⟨fun h a => ?_, fun h => ?_⟩
      · have h2 := congrArg (fun l : List Nat => l[g a]?) h
        simp only [List.getElem?_map] at h2
        have e1 : (rows.getD i [])[g a]? = some (stR g rows i a) := by
          unfold stR; rw [List.getD_eq_getElem?_getD (l := rows.getD i []), List.getElem?_eq_getElem (by rw [hk i hi]; exact hm.gk a)]; rfl
        have e2 : (rows.getD j [])[g a]? = some (stR g rows j a) := by
          unfold stR; rw [List.getD_eq_getElem?_getD (l := rows.getD j []), List.getElem?_eq_getElem (by rw [hk j hj]; exact hm.gk a)]; rfl
        rw [e1, e2] at h2
        simpa using h2
      · refine List.ext_getElem (by rw [List.length_map, List.length_map, hk i hi, hk j hj]) fun x h1 h2 => ?_
        rw [List.length_map, hk i hi] at h1
        obtain ⟨a, rfl⟩ := hm.sur x h1
        have h3 := h a
        unfold stR at h3
        rw [List.getD_eq_getElem?_getD (l := rows.getD i []), List.getElem?_eq_getElem (by rw [hk i hi]; exact h1), Option.getD_some,
          List.getD_eq_getElem?_getD (l := rows.getD j []), List.getElem?_eq_getElem (by rw [hk j hj]; exact h1), Option.getD_some] at h3
        simpa using h3
    rw [clR, refL_eq hi hj, hkey, ih i j hi hj]
    constructor
    · rintro ⟨h1, h2⟩ w hw
      cases w with
      | nil => exact h1 [] (Nat.zero_le _)
      | cons a w =>
        simp only [List.length_cons] at hw
        exact (ih _ _ (hm.cl i hi a) (hm.cl j hj a)).1 (h2 a) w (by omega)
    · intro h
      refine ⟨fun w hw => h w (by omega), fun a => (ih _ _ (hm.cl i hi a) (hm.cl j hj a)).2 fun w hw => h (a :: w) (by simp; omega)⟩
theorem clR_fine {rows : List (List Nat)} {cl : List Nat} {i j : Nat} (hi : i < rows.length) (hj : j < rows.length) (h : (refL rows cl).getD i 0 = (refL rows cl).getD j 0) : cl.getD i 0 = cl.getD j 0 := by
  rw [refL_eq hi hj] at h
  unfold keyL at h
  injection h
theorem cnt_mono (rows : List (List Nat)) (cl : List Nat) : (numL rows cl rows.length).length ≤ (numL rows (refL rows cl) rows.length).length := by
  have h := sub_len (List.range (numL rows cl rows.length).length) ((numL rows (refL rows cl) rows.length).map fun x => x.headD 0) List.nodup_range fun c hc => by
    obtain ⟨i, h1, h2⟩ := refL_sur (List.mem_range.1 hc)
    exact List.mem_map.2 ⟨keyL rows (refL rows cl) i, mem_numL.2 ⟨i, h1, rfl⟩, h2⟩
  simpa using h
theorem cnt_stable {rows : List (List Nat)} {cl : List Nat} (h : (numL rows (refL rows cl) rows.length).length = (numL rows cl rows.length).length) {i j : Nat} (hi : i < rows.length) (hj : j < rows.length) :
    (refL rows (refL rows cl)).getD i 0 = (refL rows (refL rows cl)).getD j 0 ↔ (refL rows cl).getD i 0 = (refL rows cl).getD j 0 := by
  refine ⟨clR_fine hi hj, fun he => ?_⟩
  rw [refL_eq hi hj]
  have h2 := cover_nodup (List.range (numL rows cl rows.length).length) ((numL rows (refL rows cl) rows.length).map fun x => x.headD 0) List.nodup_range (fun c hc => by
    obtain ⟨i, h1, h2⟩ := refL_sur (List.mem_range.1 hc)
    exact List.mem_map.2 ⟨keyL rows (refL rows cl) i, mem_numL.2 ⟨i, h1, rfl⟩, h2⟩) (by simpa using h)
  have hmi : keyL rows (refL rows cl) i ∈ numL rows (refL rows cl) rows.length := mem_numL.2 ⟨i, hi, rfl⟩
  have hmj : keyL rows (refL rows cl) j ∈ numL rows (refL rows cl) rows.length := mem_numL.2 ⟨j, hj, rfl⟩
  exact inj_of_nodup_map h2 hmi hmj he
where
  inj_of_nodup_map {β δ : Type} {f : β → δ} {l : List β} (h : (l.map f).Nodup) {x y : β} (hx : x ∈ l) (hy : y ∈ l) (e : f x = f y) : x = y := by
    obtain ⟨a, ha, e1⟩ := List.getElem_of_mem hx
    obtain ⟨b, hb, e2⟩ := List.getElem_of_mem hy
    have ha' : a < (l.map f).length := by simpa using ha
    have hb' : b < (l.map f).length := by simpa using hb
    have : a = b := by
      rcases Nat.lt_trichotomy a b with h1 | h1 | h1
      · exact absurd (by simp [e1, e2, e]) (List.pairwise_iff_getElem.1 h a b ha' hb' h1)
      · exact h1
      · exact absurd (by simp [e1, e2, e]) (List.pairwise_iff_getElem.1 h b a hb' ha' h1)
    subst this; rw [← e1, ← e2]
end
end Go.Ab
namespace Go.Ab

section
variable {α : Type}
theorem uq_two {β δ : Type} [DecidableEq β] [DecidableEq δ] (f : Nat → β) (f' : Nat → δ) (n : Nat) (h : ∀ i j, i < n → j < n → (f i = f j ↔ f' i = f' j)) :
    ∀ m, m ≤ n → ∃ R : List Nat, (∀ x ∈ R, x < n) ∧ uq [] ((List.range m).map f) = R.map f ∧ uq [] ((List.range m).map f') = R.map f'
  | 0, _ => ⟨[], by simp, rfl, rfl⟩
  | m + 1, hm => by
    obtain ⟨R, h1, h2, h3⟩ := uq_two f f' n h m (by omega)
    rw [List.range_succ, List.map_append, List.map_append, List.map_cons, List.map_nil, List.map_cons, List.map_nil, uq_snoc, uq_snoc, h2, h3]
    have hiff : f m ∈ R.map f ↔ f' m ∈ R.map f' := by
      simp only [List.mem_map]
      exact ⟨fun ⟨x, hx, e⟩ => ⟨x, hx, (h x m (h1 x hx) (by omega)).1 e⟩, fun ⟨x, hx, e⟩ => ⟨x, hx, (h x m (h1 x hx) (by omega)).2 e⟩⟩
    by_cases hc : f m ∈ R.map f
    · rw [if_pos hc, if_pos (hiff.1 hc)]
      exact ⟨R, h1, rfl, rfl⟩
    · rw [if_neg hc, if_neg (fun h => hc (hiff.2 h))]
      exact ⟨R ++ [m], fun x hx => by
        rcases List.mem_append.1 hx with hx | hx
        · exact h1 x hx
        · rw [List.mem_singleton] at hx; omega, by simp, by simp⟩
theorem idx_two {β δ : Type} [BEq β] [LawfulBEq β] [BEq δ] [LawfulBEq δ] (f : Nat → β) (f' : Nat → δ) (i : Nat) : ∀ R : List Nat, (∀ x ∈ R, f x = f i ↔ f' x = f' i) → (R.map f).idxOf (f i) = (R.map f').idxOf (f' i)
  | [], _ => rfl
  | x :: R, h => by
    rw [List.map_cons, List.map_cons, List.idxOf_cons, List.idxOf_cons, idx_two f f' i R fun y hy => h y (by simp [hy])]
    have := h x (by simp)
    by_cases e : f x = f i
    · rw [beq_iff_eq.2 e, beq_iff_eq.2 (this.1 e)]
    · rw [beq_eq_false_iff_ne.2 e, beq_eq_false_iff_ne.2 (fun e2 => e (this.2 e2))]
theorem refL_congr {rows : List (List Nat)} {cl cl' : List Nat} (h : ∀ i j, i < rows.length → j < rows.length → (keyL rows cl i = keyL rows cl j ↔ keyL rows cl' i = keyL rows cl' j)) :
    refL rows cl = refL rows cl' ∧ (numL rows cl rows.length).length = (numL rows cl' rows.length).length := by
  obtain ⟨R, h1, h2, h3⟩ := uq_two (keyL rows cl) (keyL rows cl') rows.length h rows.length (Nat.le_refl _)
  have e1 : numL rows cl rows.length = R.map (keyL rows cl) := h2
  have e2 : numL rows cl' rows.length = R.map (keyL rows cl') := h3
  refine ⟨List.map_congr_left fun i hi => ?_, by rw [e1, e2]; simp⟩
  rw [e1, e2]
  exact idx_two _ _ i R fun x hx => h x i (h1 x hx) (List.mem_range.1 hi)
variable {rows : List (List Nat)} {cl0 : List Nat}
theorem clR_next {k : Nat} (h : cntR rows cl0 (k + 1) = cntR rows cl0 k) : clR rows cl0 (k + 2) = clR rows cl0 (k + 1) ∧ cntR rows cl0 (k + 2) = cntR rows cl0 (k + 1) := by
  have hs := fun i j hi hj => cnt_stable (rows := rows) (cl := clR rows cl0 k) h (i := i) (j := j) hi hj
  have h1 : clR rows cl0 (k + 2) = clR rows cl0 (k + 1) := (refL_congr (cl := clR rows cl0 (k + 1)) (cl' := clR rows cl0 k) fun i j hi hj => by
    rw [← refL_eq hi hj, ← refL_eq hi hj]; exact hs i j hi hj).1
  exact ⟨h1, by unfold cntR; rw [h1]⟩
theorem clR_rest {k : Nat} (h : cntR rows cl0 (k + 1) = cntR rows cl0 k) : ∀ m, clR rows cl0 (k + 1 + m) = clR rows cl0 (k + 1) ∧ cntR rows cl0 (k + 1 + m) = cntR rows cl0 (k + 1)
  | 0 => ⟨rfl, rfl⟩
  | m + 1 => by
    have ih := clR_rest h m
    have h2 : cntR rows cl0 (k + m + 1) = cntR rows cl0 (k + m) := by
      cases m with
      | zero => exact h
      | succ m =>
        have ih2 := clR_rest h m
        rw [show k + (m + 1) + 1 = k + 1 + (m + 1) by omega, ih.2, show k + (m + 1) = k + 1 + m by omega, ih2.2]
    have h3 := clR_next h2
    rw [show k + 1 + (m + 1) = k + m + 2 by omega, h3.1, h3.2, show k + m + 1 = k + 1 + m by omega]
    exact ih
theorem cntR_le (k : Nat) : cntR rows cl0 k ≤ rows.length := by
  have h := sub_len (numL rows (clR rows cl0 k) rows.length) (keysL rows (clR rows cl0 k) rows.length) (numL_nodup _ _ _) fun x hx => by
    have := (mem_uq _ _).1 hx; simpa using this
  rw [keysL, List.length_map, List.length_range] at h
  exact h
theorem cntR_mono (k : Nat) : cntR rows cl0 k ≤ cntR rows cl0 (k + 1) := cnt_mono _ _
theorem cntR_grow : ∀ k, (∀ j, j < k → cntR rows cl0 (j + 1) ≠ cntR rows cl0 j) → k ≤ cntR rows cl0 k
  | 0, _ => Nat.zero_le _
  | k + 1, h => by
    have h1 := cntR_grow k fun j hj => h j (by omega)
    have h2 := h k (by omega)
    have h3 := cntR_mono (rows := rows) (cl0 := cl0) k
    omega
theorem cntR_stops : ∃ k, k ≤ rows.length ∧ cntR rows cl0 (k + 1) = cntR rows cl0 k := Classical.byContradiction fun h => by
  have h1 := cntR_grow (rows := rows) (cl0 := cl0) (rows.length + 1) fun j hj e => h ⟨j, by omega, e⟩
  have h2 := cntR_le (rows := rows) (cl0 := cl0) (rows.length + 1)
  omega
def clF (rows : List (List Nat)) (cl0 : List Nat) : List Nat := clR rows cl0 (rows.length + 2)
def cntF (rows : List (List Nat)) (cl0 : List Nat) : Nat := cntR rows cl0 (rows.length + 1)
theorem clF_stop {k : Nat} (h : cntR rows cl0 (k + 1) = cntR rows cl0 k) : clR rows cl0 (k + 2) = clF rows cl0 ∧ cntR rows cl0 (k + 1) = cntF rows cl0 := by
  obtain ⟨k0, h0, h1⟩ := cntR_stops (rows := rows) (cl0 := cl0)
  have a := clR_rest h
  have b := clR_rest h1
  have e1 := b (rows.length + 1 - k0)
  have e2 := b (rows.length - k0)
  rw [show k0 + 1 + (rows.length + 1 - k0) = rows.length + 2 by omega] at e1
  rw [show k0 + 1 + (rows.length - k0) = rows.length + 1 by omega] at e2
  have e3 := a (1 + k0)
  have e4 := b (1 + k)
  rw [show k0 + 1 + (1 + k) = k + 1 + (1 + k0) by omega] at e4
  refine ⟨((clR_next h).1.trans (e3.1.symm.trans e4.1)).trans e1.1.symm, (e3.2.symm.trans e4.2).trans e2.2.symm⟩
theorem cntR_leF (k : Nat) : cntR rows cl0 k ≤ cntF rows cl0 := by
  obtain ⟨k0, h0, h1⟩ := cntR_stops (rows := rows) (cl0 := cl0)
  have b := clR_rest h1
  have e2 := b (rows.length - k0)
  rw [show k0 + 1 + (rows.length - k0) = rows.length + 1 by omega] at e2
  have mono : ∀ m, cntR rows cl0 k ≤ cntR rows cl0 (k + m) := fun m => by
    induction m with
    | zero => exact Nat.le_refl _
    | succ m ih => exact Nat.le_trans ih (cntR_mono _)
  have h2 := mono (k0 + 1)
  rw [show k + (k0 + 1) = k0 + 1 + k by omega, (b k).2, ← e2.2] at h2
  exact h2
theorem clF_fix : refL rows (clF rows cl0) = clF rows cl0 ∧ (numL rows (clF rows cl0) rows.length).length = cntF rows cl0 := by
  obtain ⟨k0, h0, h1⟩ := cntR_stops (rows := rows) (cl0 := cl0)
  have b := clR_rest h1
  have e1 := b (rows.length + 1 - k0)
  have e2 := b (rows.length - k0)
  have e3 := b (rows.length + 2 - k0)
  rw [show k0 + 1 + (rows.length + 1 - k0) = rows.length + 2 by omega] at e1
  rw [show k0 + 1 + (rows.length - k0) = rows.length + 1 by omega] at e2
  rw [show k0 + 1 + (rows.length + 2 - k0) = rows.length + 3 by omega] at e3
  exact ⟨e3.1.trans e1.1.symm, e1.2.trans e2.2.symm⟩
theorem clF_len : (clF rows cl0).length = rows.length := refL_len _ _
theorem clF_lt {i : Nat} (h : i < rows.length) : (clF rows cl0).getD i 0 < cntF rows cl0 := by
  have := refL_lt (cl := clF rows cl0) h
  rwa [clF_fix.1, clF_fix.2] at this
theorem clF_sur {c : Nat} (h : c < cntF rows cl0) : ∃ i, i < rows.length ∧ (clF rows cl0).getD i 0 = c := by
  have := refL_sur (rows := rows) (cl := clF rows cl0) (c := c) (by rw [clF_fix.2]; exact h)
  rwa [clF_fix.1] at this
theorem clF_zero (h : 0 < rows.length) : (clF rows cl0).getD 0 0 = 0 := by
  rw [← clF_fix.1, refL_get h]
  obtain ⟨t, ht⟩ := numL_pre rows (clF rows cl0) 1 (rows.length - 1)
  rw [show 1 + (rows.length - 1) = rows.length by omega] at ht
  rw [ht, show numL rows (clF rows cl0) 1 = [keyL rows (clF rows cl0) 0] from rfl]
  simp [List.idxOf_cons]
theorem clF_key {i j : Nat} (hi : i < rows.length) (hj : j < rows.length) (h : (clF rows cl0).getD i 0 = (clF rows cl0).getD j 0) : keyL rows (clF rows cl0) i = keyL rows (clF rows cl0) j := by
  rw [← refL_eq hi hj, clF_fix.1]; exact h
def fsF (rows : List (List Nat)) (cl0 : List Nat) (c : Nat) : Nat := (clF rows cl0).idxOf c
theorem fsF_ok {c : Nat} (h : c < cntF rows cl0) : fsF rows cl0 c < rows.length ∧ (clF rows cl0).getD (fsF rows cl0 c) 0 = c := by
  obtain ⟨i, h1, h2⟩ := clF_sur h
  have hm : c ∈ clF rows cl0 := by
    rw [← h2, List.getD_eq_getElem?_getD, List.getElem?_eq_getElem (by rw [clF_len]; exact h1)]; exact List.getElem_mem _
  have h3 := List.idxOf_lt_length_of_mem hm
  refine ⟨by rw [clF_len] at h3; exact h3, ?_⟩
  unfold fsF
  rw [List.getD_eq_getElem?_getD, List.getElem?_eq_getElem h3]
  simp [List.getElem_idxOf]
def rowF (rows : List (List Nat)) (cl0 : List Nat) (c : Nat) : List Nat := (rows.getD (fsF rows cl0 c) []).map fun x => (clF rows cl0).getD x 0
def rowsF (rows : List (List Nat)) (cl0 : List Nat) : List (List Nat) := (List.range (cntF rows cl0)).map (rowF rows cl0)
def acsF (rows : List (List Nat)) (cl0 : List Nat) (acs : List Bool) : List Bool := (List.range (cntF rows cl0)).map fun c => acR acs (fsF rows cl0 c)
theorem rowsF_len : (rowsF rows cl0).length = cntF rows cl0 := by simp [rowsF]
theorem cntF_pos (h : 0 < rows.length) : 0 < cntF rows cl0 := Nat.lt_of_le_of_lt (Nat.zero_le _) (clF_lt h)
variable {g : α → Nat} {k : Nat} {acs : List Bool}
theorem gmF (hm : Gm g k rows acs) : Gm g k (rowsF rows cl0) (acsF rows cl0 acs) := by
  have hr : ∀ c, c < cntF rows cl0 → rows.getD (fsF rows cl0 c) [] ∈ rows := fun c hc => by
    have := (fsF_ok hc).1
    rw [List.getD_eq_getElem?_getD, List.getElem?_eq_getElem this]; exact List.getElem_mem _
  refine ⟨by rw [rowsF_len]; exact cntF_pos hm.pos, by simp [rowsF, acsF], fun r h => ?_, fun r h x hx => ?_, hm.gk, hm.sur⟩
  · obtain ⟨c, hc, rfl⟩ := List.mem_map.1 h
    rw [rowF, List.length_map]; exact hm.wd _ (hr c (List.mem_range.1 hc))
  · obtain ⟨c, hc, rfl⟩ := List.mem_map.1 h
    obtain ⟨y, hy, rfl⟩ := List.mem_map.1 hx
    rw [rowsF_len]
    exact clF_lt (hm.lt _ (hr c (List.mem_range.1 hc)) y hy)
theorem stF {i : Nat} (hm : Gm g k rows acs) (hi : i < rows.length) (a : α) : stR g (rowsF rows cl0) ((clF rows cl0).getD i 0) a = (clF rows cl0).getD (stR g rows i a) 0 := by
  have hc := clF_lt (cl0 := cl0) hi
  obtain ⟨h1, h2⟩ := fsF_ok hc
  have h3 := clF_key (cl0 := cl0) h1 hi h2
  unfold keyL at h3
  injection h3 with h3 h4
  have hlen : (rows.getD i []).length = k := by
    rw [List.getD_eq_getElem?_getD, List.getElem?_eq_getElem hi, Option.getD_some]; exact hm.wd _ (List.getElem_mem hi)
  unfold stR
  rw [show (rowsF rows cl0).getD ((clF rows cl0).getD i 0) [] = rowF rows cl0 ((clF rows cl0).getD i 0) by
    rw [List.getD_eq_getElem?_getD, List.getElem?_eq_getElem (by rw [rowsF_len]; exact hc)]; simp [rowsF]]
  rw [rowF, h4, List.getD_eq_getElem?_getD, List.getElem?_map, List.getD_eq_getElem?_getD (l := rows.getD i []), List.getElem?_eq_getElem (by rw [hlen]; exact hm.gk a)]
  rfl
theorem drF (hm : Gm g k rows acs) : ∀ (w : List α) (i : Nat), i < rows.length → dr (stR g (rowsF rows cl0)) ((clF rows cl0).getD i 0) w = (clF rows cl0).getD (dr (stR g rows) i w) 0
  | [], i, hi => rfl
  | a :: w, i, hi => by rw [dr_cons, dr_cons, stF hm hi, drF hm w _ (hm.cl i hi a)]
theorem lmF (hm : Gm g k rows acs) (h0 : ∀ i j, i < rows.length → j < rows.length → (cl0.getD i 0 = cl0.getD j 0 ↔ acR acs i = acR acs j)) {L : List α → Prop} (hr : Rd L rows.length (stR g rows) (acR acs)) :
    Lm L (rowsF rows cl0).length (stR g (rowsF rows cl0)) (acR (acsF rows cl0 acs)) := by
  have hG := gmF (cl0 := cl0) hm
  have hE := clR_eq hm h0
  have hac : ∀ i, i < rows.length → acR (acsF rows cl0 acs) ((clF rows cl0).getD i 0) = acR acs i := fun i hi => by
    have hc := clF_lt (cl0 := cl0) hi
    obtain ⟨h1, h2⟩ := fsF_ok hc
    have := (hE _ _ _ h1 hi).1 h2 [] (Nat.zero_le _)
    rw [show acR (acsF rows cl0 acs) ((clF rows cl0).getD i 0) = acR acs (fsF rows cl0 ((clF rows cl0).getD i 0)) by
      unfold acR acsF; rw [List.getD_eq_getElem?_getD, List.getElem?_map, List.getElem?_range hc]; rfl]
    exact this
  have hd := drF (cl0 := cl0) hm
  refine ⟨⟨hG.pos, hG.cl, fun w => ?_, fun c hc => ?_⟩, fun p q hp hq e => ?_⟩
  · have h1 := hd w 0 hm.pos
    rw [clF_zero hm.pos] at h1
    rw [h1, hac _ (dr_lt hm.cl w 0 hm.pos)]
    exact hr.lang w
  · rw [rowsF_len] at hc
    obtain ⟨i, h1, h2⟩ := clF_sur hc
    obtain ⟨w, h3⟩ := hr.reach i h1
    refine ⟨w, ?_⟩
    have h4 := hd w 0 hm.pos
    rw [clF_zero hm.pos] at h4
    rw [h4, h3, h2]
  · rw [rowsF_len] at hp hq
    obtain ⟨i, h1, rfl⟩ := clF_sur hp
    obtain ⟨j, h2, rfl⟩ := clF_sur hq
    refine (hE _ _ _ h1 h2).2 fun w _ => ?_
    have := e w
    rw [hd w i h1, hd w j h2, hac _ (dr_lt hm.cl w i h1), hac _ (dr_lt hm.cl w j h2)] at this
    exact this
end
end Go.Ab
namespace Go.Ab

section
variable {α β γ : Type}
structure XsFin (δ : β → γ → β) (gs : List γ) (s0 : β) (all : List β) (rows : List (List Nat)) : Prop where
  nd : all.Nodup
  zero : all[0]? = some s0
  len : rows.length = all.length
  wd : ∀ x ∈ rows, x.length = gs.length
  lt : ∀ x ∈ rows, ∀ y ∈ x, y < all.length
  nx : ∀ i j : Nat, ∀ s row g, all[i]? = some s → rows[i]? = some row → gs[j]? = some g → ∃ x, row[j]? = some x ∧ all[x]? = some (δ s g)
  reach : ∀ s ∈ all, ∃ w : List γ, (∀ g ∈ w, g ∈ gs) ∧ w.foldl δ s0 = s
theorem xs_fin [DecidableEq β] {δ : β → γ → β} {gs : List γ} {s0 : β} {K : Nat} (h : (xs δ gs s0 K).1.length ≤ K) : XsFin δ gs s0 (xs δ gs s0 K).1 (xs δ gs s0 K).2 := by
  obtain ⟨nd, zero, len, wd, lt, nx, reach⟩ := xs_ok δ gs s0 K
  exact ⟨nd, zero, by
    rcases Nat.lt_or_ge (xs δ gs s0 K).2.length K with h2 | h2
    · exact len.2.2.2 h2
    · omega, wd, lt, nx, reach⟩
variable {δ : β → γ → β} {gs : List γ} {s0 : β} {all : List β} {rows : List (List Nat)}
theorem XsFin.gm (h : XsFin δ gs s0 all rows) {g : α → Nat} (hg : ∀ a, g a < gs.length) (hs : ∀ x, x < gs.length → ∃ a, g a = x) (A : β → Bool) : Gm g gs.length rows (all.map A) := by
  have := (List.getElem?_eq_some_iff.1 h.zero).1
  exact ⟨by rw [h.len]; omega, by simp [h.len], h.wd, fun r hr x hx => by rw [h.len]; exact h.lt r hr x hx, hg, hs⟩
theorem XsFin.st (h : XsFin δ gs s0 all rows) {g : α → Nat} {dl : β → α → β} (hd : ∀ s ∈ all, ∀ a, ∃ x, gs[g a]? = some x ∧ δ s x = dl s a) {q : Nat} {s : β} (hq : all[q]? = some s) (a : α) :
    all[stR g rows q a]? = some (dl s a) := by
  have h1 := (List.getElem?_eq_some_iff.1 hq).1
  obtain ⟨x, h2, h3⟩ := hd s (List.mem_of_getElem? hq) a
  have h1' : q < rows.length := by rw [h.len]; exact h1
  have h4 : rows[q]? = some rows[q] := List.getElem?_eq_getElem h1'
  obtain ⟨y, h5, h6⟩ := h.nx q (g a) s _ x hq h4 h2
  unfold stR
  rw [List.getD_eq_getElem?_getD (l := rows), h4, Option.getD_some, List.getD_eq_getElem?_getD, h5, Option.getD_some, h6, h3]
theorem XsFin.dr (h : XsFin δ gs s0 all rows) {g : α → Nat} {dl : β → α → β} (hd : ∀ s ∈ all, ∀ a, ∃ x, gs[g a]? = some x ∧ δ s x = dl s a) : ∀ (w : List α) (q : Nat) (s : β), all[q]? = some s → all[dr (stR g rows) q w]? = some (w.foldl dl s)
  | [], q, s, hq => hq
  | a :: w, q, s, hq => h.dr hd w _ _ (h.st hd hq a)
theorem XsFin.rd (h : XsFin δ gs s0 all rows) {g : α → Nat} {dl : β → α → β} (hg : ∀ a, g a < gs.length) (hs : ∀ x, x < gs.length → ∃ a, g a = x)
    (hd : ∀ s ∈ all, ∀ a, ∃ x, gs[g a]? = some x ∧ δ s x = dl s a) {A : β → Bool} {L : List α → Prop} (hA : ∀ w, A (w.foldl dl s0) = true ↔ L w) :
    Rd L rows.length (stR g rows) (acR (all.map A)) := by
  have hG := h.gm (g := g) hg hs A
  refine ⟨hG.pos, hG.cl, fun w => ?_, fun q hq => ?_⟩
  · have h1 := h.dr hd w 0 s0 h.zero
    unfold acR
    rw [List.getD_eq_getElem?_getD, List.getElem?_map, h1]
    exact hA w
  · rw [h.len] at hq
    obtain ⟨w, h1, h2⟩ := h.reach all[q] (List.getElem_mem hq)
    have hw : ∃ v : List α, v.foldl dl s0 = all[q] := by
      rw [← h2]
      -- each group has a letter
      have go : ∀ (w : List γ) (p : Nat) (s : β), all[p]? = some s → (∀ g ∈ w, g ∈ gs) → ∃ v : List α, v.foldl dl s = w.foldl δ s := by
        intro w
        induction w with
        | nil => intro p s _ _; exact ⟨[], rfl⟩
        | cons x w ih =>
          intro p s hp hw
          obtain ⟨j, hj, hx⟩ := List.getElem_of_mem (hw x (by simp))
          obtain ⟨a, ha⟩ := hs j hj
          have h5 := h.st hd hp a
          obtain ⟨y, h6, h7⟩ := hd s (List.mem_of_getElem? hp) a
          rw [ha, List.getElem?_eq_getElem hj, hx] at h6
          injection h6 with h6
          obtain ⟨v, hv⟩ := ih _ _ h5 fun g hg => hw g (by simp [hg])
          exact ⟨a :: v, by rw [List.foldl_cons, List.foldl_cons, hv, h6, h7]⟩
      exact go w 0 s0 h.zero h1
    obtain ⟨v, hv⟩ := hw
    refine ⟨v, ?_⟩
    have h1 := h.dr hd v 0 s0 h.zero
    rw [hv] at h1
    obtain ⟨hlt, he⟩ := List.getElem?_eq_some_iff.1 h1
    rcases Nat.lt_trichotomy (Go.Ab.dr (stR g rows) 0 v) q with hl | hl | hl
    · exact absurd he (List.pairwise_iff_getElem.1 h.nd _ _ hlt hq hl)
    · exact hl
    · exact absurd he.symm (List.pairwise_iff_getElem.1 h.nd _ _ hq hlt hl)
end
end Go.Ab
