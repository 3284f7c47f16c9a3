/- A nil slice, in a slot or in a cell, is an own slice without elements. -/
import Derived.Test.YtjfahhbobiiphaaAbE
set_option linter.unusedSimpArgs false
set_option linter.unusedVariables false
namespace Go.Ab
open Go Go.RowKit

def NilR (H : List ABlk) (a b : AV) : Prop := ∀ (H3 : List ABlk) (w : World) (O : Nat → Prop) (ι ι2 : Nat → Option Nat) (u : Value), Idx some ι ι2 H H3 → (∃ blk, H3[H.length]? = some blk ∧ blk.es = []) → ι2 H.length = none → VR w O ι H a u → VR w O ι2 H3 b u
theorem NilR.mv {H : List ABlk} {a b : AV} (h : MvR some H a b) : NilR H a b := fun H3 w O ι ι2 u v _ _ hu => h H3 w O ι ι2 u v hu
theorem NilR.pu {H : List ABlk} {a : AV} (h : Pu a) : NilR H a a := .mv (.pu h)
theorem NilR.ptr {H : List ABlk} {b tot i off : Nat} : NilR H (.ptr b tot i off) (.ptr b tot i off) := .mv (.ptr rfl)
theorem NilR.own {H : List ABlk} {b tot off len : Nat} : NilR H (.own b tot off len) (.own b tot off len) := .mv (.own rfl)
theorem NilR.nil {H : List ABlk} {m : Nat} (hm : H.length = m) : NilR H (.base (.slice none 0 0)) (.own m 0 0 0) := fun H3 w O ι ι2 u v ⟨blk, h1, h2⟩ h3 hu => by
  subst hm
  have := hu.base_inv; subst this
  exact .ownNil _ blk h1 h2 h3
def NilL (H : List ABlk) : List AV → List AV → Prop
  | [], [] => True
  | a :: l, b :: m => NilR H a b ∧ NilL H l m
  | _, _ => False
theorem NilL.len {H : List ABlk} : ∀ {l m : List AV}, NilL H l m → l.length = m.length
  | [], [], _ => rfl
  | _ :: l, _ :: m, h => by simp [NilL.len h.2]
theorem NilL.get {H : List ABlk} : ∀ {l m : List AV}, NilL H l m → ∀ (j : Nat) (a b : AV), l[j]? = some a → m[j]? = some b → NilR H a b
  | _ :: l, _ :: m, h, 0, a, b, h1, h2 => by cases h1; cases h2; exact h.1
  | _ :: l, _ :: m, h, j + 1, a, b, h1, h2 => NilL.get h.2 j a b h1 h2
def BlkNil (H : List ABlk) (b b2 : ABlk) : Prop := b2.ty = b.ty ∧ b2.sz = b.sz ∧ b2.es.length = b.es.length ∧
  ∀ (i : Nat) (e e2 : AV), b.es[i]? = some e → b2.es[i]? = some e2 → e.cells.length = e2.cells.length ∧ ∀ (k : Nat) (c c2 : AV), e.cells[k]? = some c → e2.cells[k]? = some c2 → NilR H c c2
theorem BlkNil.pu {H : List ABlk} {b : ABlk} (h : ∀ e ∈ b.es, ∀ c ∈ e.cells, Pu c) : BlkNil H b b :=
  ⟨rfl, rfl, rfl, fun i e e2 h1 h2 => by
    rw [h1] at h2; injection h2 with h2; subst h2
    exact ⟨rfl, fun k c c2 h3 h4 => by
      rw [h3] at h4; injection h4 with h4; subst h4
      exact .pu (h e (List.mem_of_getElem? h1) c (List.mem_of_getElem? h3))⟩⟩
theorem BlkNil.one {H : List ABlk} {ty sz : Nat} {e e2 : AV} (h : NilL H e.cells e2.cells) : BlkNil H ⟨ty, sz, [e]⟩ ⟨ty, sz, [e2]⟩ :=
  ⟨rfl, rfl, rfl, fun i x x2 h1 h2 => by
    cases i with
    | zero => simp at h1 h2; subst h1; subst h2; exact ⟨h.len, h.get⟩
    | succ i => simp at h1⟩
def NilB (H : List ABlk) : List ABlk → List ABlk → Prop
  | [], [] => True
  | a :: l, b :: m => BlkNil H a b ∧ NilB H l m
  | _, _ => False
theorem NilB.len {H : List ABlk} : ∀ {l m : List ABlk}, NilB H l m → l.length = m.length
  | [], [], _ => rfl
  | _ :: l, _ :: m, h => by simp [NilB.len h.2]
theorem NilB.get {H : List ABlk} : ∀ {l m : List ABlk}, NilB H l m → ∀ (j : Nat) (a b : ABlk), l[j]? = some a → m[j]? = some b → BlkNil H a b
  | _ :: l, _ :: m, h, 0, a, b, h1, h2 => by cases h1; cases h2; exact h.1
  | _ :: l, _ :: m, h, j + 1, a, b, h1, h2 => NilB.get h.2 j a b h1 h2
def NilE (H : List ABlk) (E : Env) : Env → Prop
  | [] => True
  | (t, v) :: l => NilR H (lk E t) v ∧ NilE H E l
theorem NilE.all {H : List ABlk} {E : Env} : ∀ {E2 : Env}, NilE H E E2 → ∀ p ∈ E2, NilR H (lk E p.1) p.2
  | [], _, p, h => by cases h
  | (t, v) :: l, ⟨h1, h2⟩, p, h => by
    rcases List.mem_cons.1 h with rfl | h
    · exact h1
    · exact NilE.all h2 p h
theorem Wk.nilC {n : Fr} {E E2 : Env} {H H2 : List ABlk} (ty sz : Nat) (hB : NilB H H H2) (hE : NilE H E E2) : Wk n ⟨E, H⟩ ⟨E2, H2 ++ [⟨ty, sz, []⟩]⟩ := fun w0 O ι a w hs => by
  have hl := hB.len
  obtain ⟨H3, hH3⟩ : ∃ H3, H3 = H2 ++ [(⟨ty, sz, []⟩ : ABlk)] := ⟨_, rfl⟩
  rw [← hH3]
  let ι2 : Nat → Option Nat := fun b => if b = H.length then none else ι b
  have hi2 : ∀ b, b < H.length → ι2 b = ι b := fun b hb => if_neg (by omega)
  have hget : ∀ b blk, H[b]? = some blk → ∃ blk2, H3[b]? = some blk2 ∧ BlkNil H blk blk2 := fun b blk hb => by
    have hbl := (List.getElem?_eq_some_iff.1 hb).1
    have h2 : H2[b]? = some (H2[b]'(by omega)) := List.getElem?_eq_getElem (by omega)
    exact ⟨_, by rw [hH3, List.getElem?_append_left (by omega)]; exact h2, hB.get b _ _ hb h2⟩
  have hinv : ∀ b x, b < H3.length → ι2 b = some x → b < H.length ∧ ι b = some x := fun b x hb hx => by
    rw [hH3] at hb
    simp only [List.length_append, List.length_singleton] at hb
    by_cases e : b = H.length
    · simp [ι2, e] at hx
    · exact ⟨by omega, by simpa [ι2, e] using hx⟩
  have hOO : ∀ x, OO O ι2 H3 x ↔ OO O ι H x := fun x => by
    constructor
    · rintro (h | ⟨b, hb, hx⟩)
      · exact .inl h
      · obtain ⟨h1, h2⟩ := hinv b x hb hx; exact .inr ⟨b, h1, h2⟩
    · rintro (h | ⟨b, hb, hx⟩)
      · exact .inl h
      · exact .inr ⟨b, by rw [hH3]; simp; omega, by rw [hi2 b hb]; exact hx⟩
  have v : Idx some ι ι2 H H3 := fun b j blk hr hb => by
    injection hr with hr; subst hr
    obtain ⟨blk2, h1, h2, h3, h4, _⟩ := hget b blk hb
    exact ⟨blk2, h1, h4, h3, hi2 b (List.getElem?_eq_some_iff.1 hb).1⟩
  have hnew : ∃ blk, H3[H.length]? = some blk ∧ blk.es = [] := ⟨⟨ty, sz, []⟩, by rw [hH3, hl]; simp, rfl⟩
  have hnone : ι2 H.length = none := if_pos rfl
  have conv : ∀ {c c2 : AV} {u : Value}, NilR H c c2 → VR w (OO O ι H) ι H c u → VR w (OO O ι2 H3) ι2 H3 c2 u := fun h hu => (h H3 w _ ι ι2 _ v hnew hnone hu).lessO fun x hx => (hOO x).1 hx
  have hold : ∀ b blk2, H3[b]? = some blk2 → b < H.length → ∃ blk, H[b]? = some blk ∧ BlkNil H blk blk2 := fun b blk2 h2 hb => by
    have h1 := List.getElem?_eq_getElem hb
    obtain ⟨b2, h3, h4⟩ := hget b _ h1
    rw [h2] at h3; injection h3 with h3; subst h3
    exact ⟨_, h1, h4⟩
  refine ⟨ι2, ⟨fun b blk2 x h2 hx => ?_, fun b blk2 h2 hx => ?_, fun b b' x hb hb' hx hx' => ?_, hs.sit.below, hs.sit.old, fun x b hO hb hx => ?_, ?_⟩, hs.defers, hs.size, hs.hand, fun t => ?_⟩
  · obtain ⟨h3, h4⟩ := hinv b x (List.getElem?_eq_some_iff.1 h2).1 hx
    obtain ⟨blk, h1, e1, e2, e3, e4⟩ := hold b blk2 h2 h3
    obtain ⟨k1, c, k2, k3, k4, k5⟩ := hs.sit.heap b blk x h1 h4
    refine ⟨k1, c, by rw [e1]; exact k2, by rw [e2, e3]; exact k3, fun e he => ?_, fun i k e2' d he hd => ?_⟩
    · obtain ⟨i, hi', he'⟩ := List.mem_iff_getElem.1 he
      have hei : blk.es[i]? = some (blk.es[i]'(by omega)) := List.getElem?_eq_getElem (by omega)
      obtain ⟨f1, _⟩ := e4 i _ e hei (by rw [List.getElem?_eq_getElem hi', he'])
      rw [← f1, e2]
      exact k4 _ (List.getElem_mem _)
    · have hil : i < blk.es.length := by rw [← e3]; exact (List.getElem?_eq_some_iff.1 he).1
      have hei : blk.es[i]? = some blk.es[i] := List.getElem?_eq_getElem hil
      obtain ⟨f1, f2⟩ := e4 i _ e2' hei he
      have hkl : k < blk.es[i].cells.length := by rw [f1]; exact (List.getElem?_eq_some_iff.1 hd).1
      obtain ⟨u, hu, hv⟩ := k5 i k _ _ hei (List.getElem?_eq_getElem hkl)
      exact ⟨u, by rw [e2]; exact hu, conv (f2 k _ d (List.getElem?_eq_getElem hkl) hd) hv⟩
  · by_cases hb : b < H.length
    · obtain ⟨blk, h1, e1, e2, e3, _⟩ := hold b blk2 h2 hb
      have := hs.sit.empt b blk h1 (by rw [← hi2 b hb]; exact hx)
      rw [this] at e3
      exact List.eq_nil_of_length_eq_zero e3
    · have hbl := (List.getElem?_eq_some_iff.1 h2).1
      have hbe : b = H2.length := by rw [hH3] at hbl; simp at hbl; omega
      rw [hH3, hbe] at h2
      simp at h2; subst h2; rfl
  · obtain ⟨h1, h2⟩ := hinv b x hb hx
    obtain ⟨h3, h4⟩ := hinv b' x hb' hx'
    exact hs.sit.inj b b' x h1 h3 h2 h4
  · obtain ⟨h1, h2⟩ := hinv b x hb hx
    exact hs.sit.disj x b hO h1 h2
  · refine hs.sit.hist.trans ⟨fun b blk h => ?_, fun b x blk blk' c ty' fz h h2 _ hi hc => ⟨c, ty', fz, hc, rfl⟩⟩
    obtain ⟨blk2, h1, h2, h3, h4, _⟩ := hget b blk h
    exact ⟨blk2, h1, by omega, fun _ => ⟨h3, hi2 b (List.getElem?_eq_some_iff.1 h).1⟩⟩
  · rcases lk_mem E2 t with h1 | ⟨p, hp, h1, h2⟩
    · show VR _ _ _ _ (lk E2 t) _; rw [h1]; exact .bad _
    · show VR _ _ _ _ (lk E2 t) _; rw [h2]; subst h1; exact conv (hE.all p hp) (hs.vals p.1)
end Go.Ab
