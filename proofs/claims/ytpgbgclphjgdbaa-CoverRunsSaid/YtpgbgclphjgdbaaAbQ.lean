/- Part of the proof. -/
import Derived.Scope
import Derived.Test.YtpgbgclphjgdbaaAbB
import Derived.Test.YtpgbgclphjgdbaaAbP
set_option linter.unusedSimpArgs false
set_option linter.unusedVariables false
namespace Go.Ab
open Go Go.RowKit
section
variable {P : Program} {n : Fr} {Q : Exit → ASt → Prop} {s : ASt}
/-! ### a loop, turn by turn -/
def AWpI (P : Program) (n : Fr) (c : Code) (Q : Exit → ASt → Prop) (s : ASt) : Prop :=
  ∀ (w0 : Base) (O : Nat → Prop) (ι : Nat → Option Nat) (a : Act) (w : World), SR n w0 O s ι a w → ∀ (b : Frame) (k : List Item) (cs : List Frame),
    ∃ e a' w', liftQ w0 O n Q e a' w' ∧ Arrives P (lone (b.at a (.code c :: .inLoop c :: k)) cs w) b k cs e a' w'
theorem AWpI.turn {c : Code} (h : AWp P n c (thenQ (AWpI P n c Q) Q) s) : AWpI P n c Q s := by
  intro w0 O ι a w hs b k cs
  obtain ⟨e, a1, w1, ⟨s', ι', hq, hs'⟩, harr⟩ := h w0 O ι a w hs b (.inLoop c :: k) cs
  cases e with
  | normal =>
    obtain ⟨e2, a2, w2, hq2, harr2⟩ := hq w0 O ι' a1 w1 hs' b k cs
    exact ⟨e2, a2, w2, hq2, .of_steps (Steps.trans harr (.one step_inLoop)) harr2⟩
  | exit id => exact ⟨_, a1, w1, ⟨s', ι', hq, hs'⟩, .pass (x := .inLoop c) rfl (fun _ _ => .inl (by simp)) harr⟩
  | goto l => exact ⟨_, a1, w1, ⟨s', ι', hq, hs'⟩, .pass (x := .inLoop c) rfl (fun _ _ => .inl (by simp)) harr⟩
  | ret => exact ⟨_, a1, w1, ⟨s', ι', hq, hs'⟩, .pass (x := .inLoop c) rfl (fun _ _ => .inl (by simp)) harr⟩
  | panic ch => exact ⟨_, a1, w1, ⟨s', ι', hq, hs'⟩, .pass (x := .inLoop c) rfl (fun _ _ => .inl (by simp)) harr⟩
  | outgrown => exact ⟨_, a1, w1, ⟨s', ι', hq, hs'⟩, .pass (x := .inLoop c) rfl (fun _ _ => .inl (by simp)) harr⟩
theorem AWp.turn {c : Code} (h : AWp P n c (thenQ (AWpI P n c Q) Q) s) : AWp P n (.loop c) Q s := by
  intro w0 O ι a w hs b k cs
  obtain ⟨e, a', w', hq, harr⟩ := AWpI.turn h w0 O ι a w hs b k cs
  exact ⟨e, a', w', hq, .of_steps (.one step_loop) harr⟩
end
end Go.Ab
namespace Go.Ab
open Go Go.RowKit
section
variable {P : Program} {H : List ABlk} {ρ : Operand → AV}
/-! ### nothing is appended to data -/
theorem VR.nil0 {w : World} {O : Nat → Prop} {ι : Nat → Option Nat} {X : Value} {x : AV} (hx : x = .lst [] ∨ x = .base (.slice none 0 0)) (h : VR w O ι H x X) : VR w O ι H (.lst []) X := by
  rcases hx with rfl | rfl
  · exact h
  · cases h; exact .lnil
theorem ql_append_data {s x : Operand} {t el : TypeId} {size bytes : Nat} {es : List AV} {e : AV} (hsv : ρ s = .lst es) (hx : ρ x = e) (he : e = .lst [] ∨ e = .base (.slice none 0 0)) (ht : P.underlying t = some (.slice el)) (hel : elI P el size bytes = true) :
    QL P H ρ (.call { callee := .builtin .append, args := #[s, x], argTypes := #[t, t] }) (.lst es) := by
  refine QL.of_run fun w0 O ι a w hs hv o ho => ?_
  have h1 := hv s (by simp [Op.operands, Call.operands]); rw [hsv] at h1
  have h2 := hv x (by simp [Op.operands, Call.operands]); rw [hx] at h2
  have h2 := h2.nil0 he
  have key : ∀ v, a.eval s = v → (Builtin.append_ #[t, t] o.type #[v, a.eval x]).run P w = .ok v w → (execOp a.eval o).run P w = .ok (.value v) w := fun v e h => by
    exact append_exec (ρ := ρ) ho (by rw [e]; exact h)
  generalize hX : a.eval s = X at h1
  cases h1 with
  | lnil => exact ⟨_, key _ hX (append_none_run ht hel h2), .lnil⟩
  | lst es a n cap s val hn hcap hmax hlen hspot hc hv =>
    exact ⟨_, key _ hX (append_zero_run ht hel h2 a n cap hcap), .lst es a n cap s val hn hcap hmax hlen hspot hc hv⟩
end
end Go.Ab
namespace Go.Ab
open Go Go.RowKit
section
variable {P : Program} {H : List ABlk} {ρ : Operand → AV}
theorem ql_append_nil0 {s x : Operand} {t el : TypeId} {size bytes : Nat} {e : AV} (hsv : ρ s = .base (.slice none 0 0)) (hx : ρ x = e) (he : e = .lst [] ∨ e = .base (.slice none 0 0)) (ht : P.underlying t = some (.slice el)) (hel : elI P el size bytes = true) :
    QL P H ρ (.call { callee := .builtin .append, args := #[s, x], argTypes := #[t, t] }) (.base (.slice none 0 0)) := by
  refine QL.of_run fun w0 O ι a w hs hv o ho => ?_
  have h1 := hv s (by simp [Op.operands, Call.operands]); rw [hsv] at h1
  have h2 := hv x (by simp [Op.operands, Call.operands]); rw [hx] at h2
  have h2 := h2.nil0 he
  generalize hX : a.eval s = X at h1
  cases h1
  exact ⟨_, append_exec (ρ := ρ) ho (by rw [hX]; exact append_none_run ht hel h2), .base _⟩
theorem ql_eqnil_nil {t el yt : TypeId} {x y : Operand} (hx : ρ x = .base (.slice none 0 0)) (hy : ρ y = .base (.slice none 0 0)) (ht : P.underlying t = some (.slice el)) : QL P H ρ (.binOp .eql t x y yt) (.bool true) := by
  refine QL.of_run fun w0 O ι a w hs hv o ho => ?_
  have h1 := hv x (by simp [Op.operands]); rw [hx] at h1
  have h2 := hv y (by simp [Op.operands]); rw [hy] at h2
  have e1 := h1.base_inv
  have e2 := h2.base_inv
  exact ⟨_, ql_eqnil_run (b := true) ho e1 e2 (run_equal_slice_nil w t el none 0 0 ht), .base _⟩
end
end Go.Ab
namespace Go.Ab
open Go Go.RowKit
/-! ### a contract for what says more -/
def LeL : List AV → List AV → Prop
  | [], [] => True
  | a :: l, b :: m => Le a b ∧ LeL l m
  | _, _ => False
theorem LeL.len : ∀ {l m : List AV}, LeL l m → l.length = m.length
  | [], [], _ => rfl
  | _ :: l, _ :: m, h => congrArg (· + 1) (LeL.len h.2)
theorem LeL.get : ∀ {l m : List AV}, LeL l m → ∀ (j : Nat) (a b : AV), l[j]? = some a → m[j]? = some b → Le a b
  | a :: l, b :: m, h, 0, x, y, hx, hy => by
    injection hx with hx; injection hy with hy; subst hx; subst hy; exact h.1
  | a :: l, b :: m, h, j + 1, x, y, hx, hy => LeL.get h.2 j x y hx hy
theorem LeL.at {l m : List AV} (h : LeL l m) {j : Nat} {b : AV} (hb : m[j]? = some b) : ∃ a, l[j]? = some a ∧ Le a b := by
  have hj : j < l.length := by rw [h.len]; exact (List.getElem?_eq_some_iff.1 hb).1
  exact ⟨_, List.getElem?_eq_getElem hj, h.get j _ b (List.getElem?_eq_getElem hj) hb⟩
theorem Le.nil : Le (.base (.slice none 0 0)) (.lst []) := fun w O ι H u hu => by cases hu; exact .lnil
theorem Le.aggL {cs ds : List AV} (h : LeL cs ds) : Le (.agg cs) (.agg ds) := fun w O ι H u hu => by
  cases hu with
  | agg cs arr hlen hh =>
    refine .agg ds arr (by rw [hlen, h.len]) fun j c u hc hu => ?_
    obtain ⟨a, ha, hl⟩ := h.at hc
    exact hl _ _ _ _ _ (hh j a u ha hu)
theorem Le.lst1 {e d : AV} (h : LeL e.cells d.cells) : Le (.lst [e]) (.lst [d]) := fun w O ι H u hu => by
  cases hu with
  | lst es a n cap s val hn hcap hmax hlen hspot hc hv =>
    refine .lst [d] a n cap s val hn hcap hmax (fun x hx => ?_) (fun x hx => hspot e (List.mem_singleton.2 rfl)) (fun i j x c hx hc' => ?_) (fun i j x c hx hc' => ?_)
    · rw [List.mem_singleton] at hx; subst hx
      rw [← h.len]; exact hlen e (List.mem_singleton.2 rfl)
    · cases i with
      | zero =>
        injection hx with hx; subst hx
        obtain ⟨y, hy, _⟩ := h.at hc'
        exact hc 0 j e y rfl hy
      | succ i => cases hx
    · cases i with
      | zero =>
        injection hx with hx; subst hx
        obtain ⟨y, hy, hl⟩ := h.at hc'
        exact hl _ _ _ _ _ (hv 0 j e y rfl hy)
      | succ i => cases hx
theorem FnM.le {P : Program} {m : List (Addr × Value)} {f : FuncId} {args args' : List AV} {d : AV} (h : FnM P m f args d) (hl : LeL args' args) : FnM P m f args' d :=
  ⟨h.1, fun w O vs h1 h2 h3 h4 => h.2 w O vs h1 h2 (h3.trans hl.len) fun j a u ha hu => by
    obtain ⟨b, hb, hle⟩ := hl.at ha
    exact hle _ _ _ _ _ (h4 j b u hb hu)⟩
end Go.Ab
namespace Go.Ab
open Go Go.RowKit
section
variable {P : Program} {n : Fr} {s : ASt}
/-! ### scopes and labels that nobody jumps to -/
def noG (Q : Exit → ASt → Prop) : Exit → ASt → Prop
  | .goto _, _ => False
  | e, s => Q e s
theorem AWp.scope {c : Code} {Q : Exit → ASt → Prop} (h : AWp P n c (noG Q) s) : AWp P n (.scope c) Q s := fun w0 O ι a w hs => by
  refine wp_scope_straight (wp_mono (h w0 O ι a w hs) ?_)
  rintro e a w ⟨s', ι', h1, h2⟩
  cases e with
  | goto l => exact h1.elim
  | _ => exact ⟨s', ι', h1, h2⟩
theorem AWp.scopeR {c : Code} {rs : List ResultVar} {d : AV} (h : AWp P n c (retQ P rs d) s) : AWp P n (.scope c) (retQ P rs d) s :=
  AWp.scope (h.mono fun e s hq => by cases e <;> exact hq)
theorem AWp.label {l : Nat} {Q : Exit → ASt → Prop} (h : Q .normal s) : AWp P n (.label l) Q s := fun w0 O ι a w hs => wp_label ⟨s, ι, h, hs⟩
end
end Go.Ab
