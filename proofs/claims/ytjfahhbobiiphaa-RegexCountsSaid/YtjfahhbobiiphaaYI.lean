/- Part of the proof. -/
import Derived.Test.YtjfahhbobiiphaaYH
import Derived.Test.YtjfahhbobiiphaaXV
set_option linter.unusedSimpArgs false
set_option linter.unusedVariables false
namespace Go.Ab
open Go Go.Ab Go.Proofs

abbrev Wd := List (Fin 95)
abbrev Lg := Wd → Prop
def lb (a : Fin 95) : UInt8 := UInt8.ofNat (32 + a.val)
inductive StarW (L : Lg) : Lg
  | nil : StarW L []
  | app {u v : Wd} (h : L u) (h2 : StarW L v) : StarW L (u ++ v)
def catW : List Lg → Lg
  | [] => fun w => w = []
  | L :: l => fun w => ∃ u v, w = u ++ v ∧ L u ∧ catW l v
def noL : Lg := fun _ => False
def opL (o : Int) (S : ByteArray) (l : List Lg) : Lg := fun w =>
  (o = 2 ∧ w = []) ∨ (o = 3 ∧ ∃ a, w = [a] ∧ isIn S (lb a)) ∨ (o = 4 ∧ catW l w) ∨ (o = 5 ∧ ∃ L ∈ l, L w) ∨ (o = 6 ∧ StarW (l.headD noL) w) ∨ (o = 7 ∧ ∀ L ∈ l, L w) ∨ (o = 8 ∧ ¬ l.headD noL w)
mutual
def lng : Rx → Lg
  | .mk o S l => opL o S (lngs l)
def lngs : List Rx → List Lg
  | [] => []
  | r :: l => lng r :: lngs l
end
theorem lngs_map : ∀ l : List Rx, lngs l = l.map lng
  | [] => rfl
  | r :: l => by rw [lngs, lngs_map l]; rfl
theorem lng_mk (o : Int) (S : ByteArray) (l : List Rx) : lng (.mk o S l) = opL o S (l.map lng) := by rw [lng, lngs_map]
end Go.Ab
namespace Go.Ab
open Go Go.Ab Go.Proofs

inductive Wp (B : Nat → Fin 95 → Prop) (fol : Nat → Nat → Prop) : Nat → Wd → Nat → Prop
  | one {p : Nat} {a : Fin 95} (h : B p a) : Wp B fol p [a] p
  | step {p p' q : Nat} {a : Fin 95} {w : Wd} (h : B p a) (h2 : fol p p') (h3 : Wp B fol p' w q) : Wp B fol p (a :: w) q
variable {B : Nat → Fin 95 → Prop}
theorem Wp.ne {fol : Nat → Nat → Prop} {p q : Nat} {w : Wd} (h : Wp B fol p w q) : w ≠ [] := by cases h <;> simp
theorem Wp.mono {fol fol' : Nat → Nat → Prop} {B' : Nat → Fin 95 → Prop} (lo hi : Nat) (hB : ∀ p a, lo ≤ p → p < hi → B p a → B' p a) (hf : ∀ p q, lo ≤ p → p < hi → fol p q → fol' p q ∧ lo ≤ q ∧ q < hi) {p q : Nat} {w : Wd} (h : Wp B fol p w q) (h1 : lo ≤ p) (h2 : p < hi) :
    Wp B' fol' p w q ∧ lo ≤ q ∧ q < hi := by
  induction h with
  | one h => exact ⟨.one (hB _ _ h1 h2 h), h1, h2⟩
  | step h h3 h4 ih =>
    obtain ⟨e1, e2, e3⟩ := hf _ _ h1 h2 h3
    obtain ⟨a, b⟩ := ih e2 e3
    exact ⟨.step (hB _ _ h1 h2 h) e1 a, b⟩
theorem Wp.app {fol : Nat → Nat → Prop} {p p1 p2 q : Nat} {u v : Wd} (h : Wp B fol p u p1) (hf : fol p1 p2) (h2 : Wp B fol p2 v q) : Wp B fol p (u ++ v) q := by
  induction h with
  | one h => exact .step h hf h2
  | step h h3 h4 ih => exact .step h h3 (ih hf)
theorem Wp.snoc {fol : Nat → Nat → Prop} {p q : Nat} {w : Wd} {a : Fin 95} : Wp B fol p (w ++ [a]) q ↔ (w = [] ∧ p = q ∧ B q a) ∨ (∃ q', Wp B fol p w q' ∧ fol q' q ∧ B q a) := by
  constructor
  · induction w generalizing p with
    | nil =>
      intro h
      cases h with
      | one h => exact .inl ⟨rfl, rfl, h⟩
      | step h h2 h3 => exact absurd rfl h3.ne
    | cons b w ih =>
      intro h
      rw [List.cons_append] at h
      generalize hv : w ++ [a] = v at h
      cases h with
      | one h => simp at hv
      | step h h2 h3 =>
        rw [← hv] at h3
        rcases ih h3 with ⟨e1, e2, e3⟩ | ⟨q', e1, e2, e3⟩
        · subst e1; subst e2
          exact .inr ⟨_, .one h, h2, e3⟩
        · exact .inr ⟨q', .step h h2 e1, e2, e3⟩
  · rintro (⟨rfl, rfl, h⟩ | ⟨q', h1, h2, h3⟩)
    · exact .one h
    · exact h1.app h2 (.one h3)
structure GlOk (B : Nat → Fin 95 → Prop) (lo hi : Nat) (fi la : Nat → Prop) (fol : Nat → Nat → Prop) (em : Prop) (L : Lg) : Prop where
  f : ∀ p, fi p → lo ≤ p ∧ p < hi
  l : ∀ p, la p → lo ≤ p ∧ p < hi
  e : ∀ p q, fol p q → lo ≤ p ∧ p < hi ∧ lo ≤ q ∧ q < hi
  nil : L [] ↔ em
  lang : ∀ w, w ≠ [] → (L w ↔ ∃ p q, fi p ∧ la q ∧ Wp B fol p w q)
theorem GlOk.congr {lo hi : Nat} {fi la fi' la' : Nat → Prop} {fol fol' : Nat → Nat → Prop} {em em' : Prop} {L L' : Lg} {B' : Nat → Fin 95 → Prop} (h : GlOk B lo hi fi la fol em L)
    (h1 : ∀ p, fi' p ↔ fi p) (h2 : ∀ p, la' p ↔ la p) (h3 : ∀ p q, fol' p q ↔ fol p q) (h4 : em' ↔ em) (h5 : ∀ w, L' w ↔ L w) (h6 : ∀ p a, lo ≤ p → p < hi → (B' p a ↔ B p a)) : GlOk B' lo hi fi' la' fol' em' L' := by
  refine ⟨fun p hp => h.f p ((h1 p).1 hp), fun p hp => h.l p ((h2 p).1 hp), fun p q hp => h.e p q ((h3 p q).1 hp), by rw [h5, h4]; exact h.nil, fun w hw => ?_⟩
  rw [h5, h.lang w hw]
  constructor
  · rintro ⟨p, q, a, b, c⟩
    exact ⟨p, q, (h1 p).2 a, (h2 q).2 b, (c.mono lo hi (fun p a x y => (h6 p a x y).2) (fun p q x y z => ⟨(h3 p q).2 z, (h.e p q z).2.2⟩) (h.f p a).1 (h.f p a).2).1⟩
  · rintro ⟨p, q, a, b, c⟩
    exact ⟨p, q, (h1 p).1 a, (h2 q).1 b, (c.mono lo hi (fun p a x y => (h6 p a x y).1) (fun p q x y z => ⟨(h3 p q).1 z, (h.e p q ((h3 p q).1 z)).2.2⟩) (h.f p ((h1 p).1 a)).1 (h.f p ((h1 p).1 a)).2).1⟩
theorem gl_none (B : Nat → Fin 95 → Prop) (lo : Nat) : GlOk B lo lo (fun _ => False) (fun _ => False) (fun _ _ => False) False (fun _ => False) :=
  ⟨fun _ h => h.elim, fun _ h => h.elim, fun _ _ h => h.elim, Iff.rfl, fun w _ => ⟨fun h => h.elim, fun ⟨_, _, h, _⟩ => h.elim⟩⟩
theorem gl_nil (B : Nat → Fin 95 → Prop) (lo : Nat) : GlOk B lo lo (fun _ => False) (fun _ => False) (fun _ _ => False) True (fun w => w = []) :=
  ⟨fun _ h => h.elim, fun _ h => h.elim, fun _ _ h => h.elim, by simp, fun w hw => ⟨fun h => (hw h).elim, fun ⟨_, _, h, _⟩ => h.elim⟩⟩
theorem gl_set (B : Nat → Fin 95 → Prop) (lo : Nat) : GlOk B lo (lo + 1) (fun p => p = lo) (fun p => p = lo) (fun _ _ => False) False (fun w => ∃ a, w = [a] ∧ B lo a) :=
  ⟨fun p h => by omega, fun p h => by omega, fun _ _ h => h.elim, by simp, fun w hw => ⟨fun ⟨a, h1, h2⟩ => ⟨lo, lo, rfl, rfl, by rw [h1]; exact .one h2⟩, fun ⟨p, q, h1, h2, h3⟩ => by
    subst h1
    cases h3 with
    | one h => exact ⟨_, rfl, h⟩
    | step _ h _ => exact h.elim⟩⟩
variable {lo mid hi : Nat} {f1 l1 f2 l2 : Nat → Prop} {o1 o2 : Nat → Nat → Prop} {e1 e2 : Prop} {L1 L2 : Lg}
theorem gl_alt (h : GlOk B lo mid f1 l1 o1 e1 L1) (k : GlOk B mid hi f2 l2 o2 e2 L2) (hm : lo ≤ mid ∧ mid ≤ hi) :
    GlOk B lo hi (fun p => f1 p ∨ f2 p) (fun p => l1 p ∨ l2 p) (fun p q => o1 p q ∨ o2 p q) (e1 ∨ e2) (fun w => L1 w ∨ L2 w) := by
  refine ⟨fun p hp => ?_, fun p hp => ?_, fun p q hp => ?_, or_congr h.nil k.nil, fun w hw => ?_⟩
  · rcases hp with hp | hp
    · have := h.f p hp; omega
    · have := k.f p hp; omega
  · rcases hp with hp | hp
    · have := h.l p hp; omega
    · have := k.l p hp; omega
  · rcases hp with hp | hp
    · have := h.e p q hp; omega
    · have := k.e p q hp; omega
  · rw [h.lang w hw, k.lang w hw]
    constructor
    · rintro (⟨p, q, a, b, c⟩ | ⟨p, q, a, b, c⟩)
      · exact ⟨p, q, .inl a, .inl b, (c.mono lo mid (fun _ _ _ _ x => x) (fun p q _ _ z => ⟨.inl z, (h.e p q z).2.2⟩) (h.f p a).1 (h.f p a).2).1⟩
      · exact ⟨p, q, .inr a, .inr b, (c.mono mid hi (fun _ _ _ _ x => x) (fun p q _ _ z => ⟨.inr z, (k.e p q z).2.2⟩) (k.f p a).1 (k.f p a).2).1⟩
    · rintro ⟨p, q, a, b, c⟩
      rcases a with a | a
      · obtain ⟨c1, c2, c3⟩ := c.mono (fol' := o1) lo mid (fun _ _ _ _ x => x) (fun p q x y z => by
          rcases z with z | z
          · exact ⟨z, (h.e p q z).2.2⟩
          · have := k.e p q z; omega) (h.f p a).1 (h.f p a).2
        rcases b with b | b
        · exact .inl ⟨p, q, a, b, c1⟩
        · have := k.l q b; omega
      · obtain ⟨c1, c2, c3⟩ := c.mono (fol' := o2) mid hi (fun _ _ _ _ x => x) (fun p q x y z => by
          rcases z with z | z
          · have := h.e p q z; omega
          · exact ⟨z, (k.e p q z).2.2⟩) (k.f p a).1 (k.f p a).2
        rcases b with b | b
        · have := h.l q b; omega
        · exact .inr ⟨p, q, a, b, c1⟩
theorem gl_cat (h : GlOk B lo mid f1 l1 o1 e1 L1) (k : GlOk B mid hi f2 l2 o2 e2 L2) (hm : lo ≤ mid ∧ mid ≤ hi) :
    GlOk B lo hi (fun p => f1 p ∨ (e1 ∧ f2 p)) (fun p => (e2 ∧ l1 p) ∨ l2 p) (fun p q => o1 p q ∨ o2 p q ∨ (l1 p ∧ f2 q)) (e1 ∧ e2) (fun w => ∃ u v, w = u ++ v ∧ L1 u ∧ L2 v) := by
  refine ⟨fun p hp => ?_, fun p hp => ?_, fun p q hp => ?_, ?_, fun w hw => ?_⟩
  · rcases hp with hp | ⟨_, hp⟩
    · have := h.f p hp; omega
    · have := k.f p hp; omega
  · rcases hp with ⟨_, hp⟩ | hp
    · have := h.l p hp; omega
    · have := k.l p hp; omega
  · rcases hp with hp | hp | ⟨hp, hq⟩
    · have := h.e p q hp; omega
    · have := k.e p q hp; omega
    · have := h.l p hp; have := k.f q hq; omega
  · rw [← h.nil, ← k.nil]
    constructor
    · rintro ⟨u, v, e, a, b⟩
      have : u = [] ∧ v = [] := by simpa using e.symm
      rw [this.1] at a; rw [this.2] at b
      exact ⟨a, b⟩
    · rintro ⟨a, b⟩; exact ⟨[], [], rfl, a, b⟩
  have up1 : ∀ {p q w}, f1 p → Wp B o1 p w q → Wp B (fun p q => o1 p q ∨ o2 p q ∨ (l1 p ∧ f2 q)) p w q := fun a c => (c.mono lo mid (fun _ _ _ _ x => x) (fun p q _ _ z => ⟨.inl z, (h.e p q z).2.2⟩) (h.f _ a).1 (h.f _ a).2).1
  have up2 : ∀ {p q w}, f2 p → Wp B o2 p w q → Wp B (fun p q => o1 p q ∨ o2 p q ∨ (l1 p ∧ f2 q)) p w q := fun a c => (c.mono mid hi (fun _ _ _ _ x => x) (fun p q _ _ z => ⟨.inr (.inl z), (k.e p q z).2.2⟩) (k.f _ a).1 (k.f _ a).2).1
  have dn2 : ∀ {p q w}, mid ≤ p → p < hi → Wp B (fun p q => o1 p q ∨ o2 p q ∨ (l1 p ∧ f2 q)) p w q → Wp B o2 p w q ∧ mid ≤ q ∧ q < hi := fun a b c => c.mono mid hi (fun _ _ _ _ x => x) (fun p q x y z => by
    rcases z with z | z | z
    · have := h.e p q z; omega
    · exact ⟨z, (k.e p q z).2.2⟩
    · have := h.l p z.1; omega) a b
  have dn1 : ∀ {p q w}, lo ≤ p → p < mid → Wp B (fun p q => o1 p q ∨ o2 p q ∨ (l1 p ∧ f2 q)) p w q → (Wp B o1 p w q ∧ lo ≤ q ∧ q < mid) ∨ ∃ u v p1 p2, w = u ++ v ∧ Wp B o1 p u p1 ∧ l1 p1 ∧ f2 p2 ∧ Wp B o2 p2 v q ∧ mid ≤ q ∧ q < hi := by
    intro p q w a b c
    induction c with
    | one h => exact .inl ⟨.one h, a, b⟩
    | step hB hf hc ih =>
      rename_i p p' q x w
      rcases hf with z | z | z
      · have hz := h.e _ _ z
        rcases ih hz.2.2.1 hz.2.2.2 with ⟨i1, i2⟩ | ⟨u, v, p1, p2, i1, i2, i3, i4, i5⟩
        · exact .inl ⟨.step hB z i1, i2⟩
        · exact .inr ⟨x :: u, v, p1, p2, by rw [i1]; rfl, .step hB z i2, i3, i4, i5⟩
      · have := k.e _ _ z; omega
      · have hz := k.f _ z.2
        have := dn2 hz.1 hz.2 hc
        exact .inr ⟨[x], w, p, p', rfl, .one hB, z.1, z.2, this⟩
  constructor
  · rintro ⟨u, v, rfl, a, b⟩
    by_cases hu : u = []
    · subst hu
      by_cases hv : v = []
      · subst hv; exact absurd rfl hw
      · obtain ⟨p, q, x, y, z⟩ := (k.lang v hv).1 b
        exact ⟨p, q, .inr ⟨h.nil.1 a, x⟩, .inr y, up2 x z⟩
    · obtain ⟨p, q, x, y, z⟩ := (h.lang u hu).1 a
      by_cases hv : v = []
      · subst hv
        rw [List.append_nil]
        exact ⟨p, q, .inl x, .inl ⟨k.nil.1 b, y⟩, up1 x z⟩
      · obtain ⟨p', q', x', y', z'⟩ := (k.lang v hv).1 b
        exact ⟨p, q', .inl x, .inr y', (up1 x z).app (.inr (.inr ⟨y, x'⟩)) (up2 x' z')⟩
  · rintro ⟨p, q, a, b, c⟩
    rcases a with a | ⟨ae, a⟩
    · rcases dn1 (h.f p a).1 (h.f p a).2 c with ⟨c1, c2, c3⟩ | ⟨u, v, p1, p2, i1, i2, i3, i4, i5, i6⟩
      · rcases b with ⟨be, b⟩ | b
        · exact ⟨w, [], by simp, (h.lang w hw).2 ⟨p, q, a, b, c1⟩, k.nil.2 be⟩
        · have := k.l q b; omega
      · refine ⟨u, v, i1, (h.lang u i2.ne).2 ⟨p, p1, a, i3, i2⟩, (k.lang v i5.ne).2 ⟨p2, q, i4, ?_, i5⟩⟩
        rcases b with ⟨be, b⟩ | b
        · have := h.l q b; omega
        · exact b
    · obtain ⟨c1, c2⟩ := dn2 (k.f p a).1 (k.f p a).2 c
      refine ⟨[], w, rfl, h.nil.2 ae, (k.lang w hw).2 ⟨p, q, a, ?_, c1⟩⟩
      rcases b with ⟨be, b⟩ | b
      · have := h.l q b; omega
      · exact b
theorem gl_star (h : GlOk B lo hi f1 l1 o1 e1 L1) : GlOk B lo hi f1 l1 (fun p q => o1 p q ∨ (l1 p ∧ f1 q)) True (StarW L1) := by
  refine ⟨h.f, h.l, fun p q hp => ?_, ⟨fun _ => trivial, fun _ => .nil⟩, fun w hw => ?_⟩
  · rcases hp with hp | hp
    · exact h.e p q hp
    · have := h.l p hp.1; have := h.f q hp.2; omega
  have up : ∀ {p q w}, f1 p → Wp B o1 p w q → Wp B (fun p q => o1 p q ∨ (l1 p ∧ f1 q)) p w q := fun a c => (c.mono lo hi (fun _ _ _ _ x => x) (fun p q _ _ z => ⟨.inl z, (h.e p q z).2.2⟩) (h.f _ a).1 (h.f _ a).2).1
  constructor
  · intro hs
    induction hs with
    | nil => exact absurd rfl hw
    | app hu hv ih =>
      rename_i u v
      by_cases hu0 : u = []
      · subst hu0; exact ih hw
      · obtain ⟨p, q, x, y, z⟩ := (h.lang u hu0).1 hu
        by_cases hv0 : v = []
        · subst hv0
          rw [List.append_nil]
          exact ⟨p, q, x, y, up x z⟩
        · obtain ⟨p', q', x', y', z'⟩ := ih hv0
          exact ⟨p, q', x, y', (up x z).app (.inr ⟨y, x'⟩) z'⟩
  · -- a path ends in a part
    have go : ∀ {p q w}, l1 q → Wp B (fun p q => o1 p q ∨ (l1 p ∧ f1 q)) p w q → (Wp B o1 p w q) ∨ ∃ u v p1, w = u ++ v ∧ Wp B o1 p u p1 ∧ l1 p1 ∧ StarW L1 v := by
      intro p q w b c
      induction c with
      | one h => exact .inl (.one h)
      | step hB hf hc ih =>
        rename_i p p' q x w
        rcases hf with z | z
        · rcases ih b with i | ⟨u, v, p1, i1, i2, i3, i4⟩
          · exact .inl (.step hB z i)
          · exact .inr ⟨x :: u, v, p1, by rw [i1]; rfl, .step hB z i2, i3, i4⟩
        · rcases ih b with i | ⟨u, v, p1, i1, i2, i3, i4⟩
          · refine .inr ⟨[x], w, p, rfl, .one hB, z.1, ?_⟩
            have : w = w ++ [] := by simp
            rw [this]
            exact .app ((h.lang w i.ne).2 ⟨p', q, z.2, b, i⟩) .nil
          · refine .inr ⟨[x], w, p, rfl, .one hB, z.1, ?_⟩
            rw [i1]
            exact .app ((h.lang u i2.ne).2 ⟨p', p1, z.2, i3, i2⟩) i4
    rintro ⟨p, q, a, b, c⟩
    rcases go b c with c1 | ⟨u, v, p1, i1, i2, i3, i4⟩
    · have : w = w ++ [] := by simp
      rw [this]
      exact .app ((h.lang w hw).2 ⟨p, q, a, b, c1⟩) .nil
    · rw [i1]
      exact .app ((h.lang u i2.ne).2 ⟨p, p1, a, i3, i2⟩) i4
theorem catW_snoc (L : Lg) : ∀ (l : List Lg) (w : Wd), catW (l ++ [L]) w ↔ ∃ u v, w = u ++ v ∧ catW l u ∧ L v
  | [], w => by
    simp only [List.nil_append, catW]
    constructor
    · rintro ⟨u, v, rfl, h1, rfl⟩; exact ⟨[], u, by simp, rfl, h1⟩
    · rintro ⟨u, v, rfl, rfl, h1⟩; exact ⟨v, [], by simp, h1, rfl⟩
  | R :: l, w => by
    simp only [List.cons_append, catW, catW_snoc L l]
    constructor
    · rintro ⟨u, v, rfl, h1, u2, v2, rfl, h2, h3⟩; exact ⟨u ++ u2, v2, by simp, ⟨u, u2, rfl, h1, h2⟩, h3⟩
    · rintro ⟨u, v, rfl, ⟨u2, v2, rfl, h1, h2⟩, h3⟩; exact ⟨u2, v2 ++ v, by simp, h1, v2, v, rfl, h2, h3⟩
end Go.Ab
