/- Code: the rules for statements, loops, functions. -/
import Derived.Test.YthgicbkdckpeaaaDoorG04
set_option linter.unusedSimpArgs false
set_option linter.unusedVariables false
namespace Go.Ab
open Go Go.RowKit

def ARun (P : Program) (n : Fr) (q : Bool) (l : List LOp) (K : ASt → Prop) (s : ASt) : Prop := ∃ s', Tr P n q l s s' ∧ K s'

section
variable {P : Program} {n : Fr} {q : Bool} {l : List LOp} {o : LOp} {K : ASt → Prop} {s : ASt}
theorem ARun.nil (h : K s) : ARun P n q [] K s := ⟨s, .nil s, h⟩
theorem ARun.batch {r : List LOp} {s1 : ASt} (h : batch P n l s = (r, s1)) (hr : ARun P n q r K s1) : ARun P n q l K s := let ⟨s', h1, h2⟩ := hr; ⟨s', .batch h h1, h2⟩
theorem ARun.q1 {v : AV} (hg : o.g = none) (hd : dstOk n o.dst = true) (h : QL P s.H (ev s.env) o.op v) (hr : ARun P n q l K ⟨putE s.env o.dst v, s.H⟩) : ARun P n q (o :: l) K s :=
  let ⟨s', h1, h2⟩ := hr; ⟨s', .q1 o l s v s' hg hd h.t h1, h2⟩
theorem ARun.p1 {v : AV} {H' : List ABlk} (hg : o.g = none) (hd : dstOk n o.dst = true) (h : PL P s.H (ev s.env) o.op v H') (hr : ARun P n false l K ⟨putE s.env o.dst v, H'⟩) : ARun P n false (o :: l) K s :=
  let ⟨s', h1, h2⟩ := hr; ⟨s', .p1 o l s v H' s' rfl hg hd h h1, h2⟩
theorem ARun.gf {t : Tmp} {want b : Bool} (hg : o.g = some (t, want)) (hd : dstOk n o.dst = true) (hb : lk s.env t = .base (.bool b)) (hw : gc b want = false) (hr : ARun P n q l K ⟨putE s.env o.dst .bad, s.H⟩) : ARun P n q (o :: l) K s :=
  let ⟨s', h1, h2⟩ := hr; ⟨s', .gf o l s t want b s' hg hd hb hw h1, h2⟩
theorem ARun.gl {t : Tmp} {want : Bool} {L : List Bool} {v : AV} (hg : o.g = some (t, want)) (hd : dstOk n o.dst = true) (hb : gval want (lk s.env t) = some L)
    (h : allL L = true → QL P s.H (fun x => stripL L (ev s.env x)) o.op v) (hr : ARun P n q l K ⟨putE s.env o.dst (wrapL L v), s.H⟩) : ARun P n q (o :: l) K s :=
  let ⟨s', h1, h2⟩ := hr; ⟨s', .gq o l s t want L v s' hg hd hb h h1, h2⟩
theorem ARun.gq {t : Tmp} {want b : Bool} {v : AV} (hg : o.g = some (t, want)) (hd : dstOk n o.dst = true) (hb : lk s.env t = .base (.bool b))
    (h : gc b want = true → QL P s.H (fun x => stripA (gc b want) (ev s.env x)) o.op v) (hr : ARun P n q l K ⟨putE s.env o.dst (.under (gc b want) v), s.H⟩) : ARun P n q (o :: l) K s :=
  .gl (L := [gc b want]) hg hd (by rw [hb]; rfl) (fun hl => h (by simpa [allL] using hl)) hr
theorem ARun.gp {t : Tmp} {want b : Bool} {v : AV} {H' : List ABlk} (hg : o.g = some (t, want)) (hd : dstOk n o.dst = true) (hb : lk s.env t = .base (.bool b)) (hw : gc b want = true)
    (h : PL P s.H (fun x => stripA true (ev s.env x)) o.op v H') (hr : ARun P n false l K ⟨putE s.env o.dst v, H'⟩) : ARun P n false (o :: l) K s :=
  let ⟨s', h1, h2⟩ := hr; ⟨s', .gp o l s t want [true] v H' s' rfl hg hd (by rw [hb]; simp [gval, hw]) rfl h h1, h2⟩
theorem ARun.gpl {t : Tmp} {want : Bool} {L : List Bool} {v : AV} {H' : List ABlk} (hg : o.g = some (t, want)) (hd : dstOk n o.dst = true) (hb : gval want (lk s.env t) = some L) (hw : allL L = true)
    (h : PL P s.H (fun x => stripL L (ev s.env x)) o.op v H') (hr : ARun P n false l K ⟨putE s.env o.dst v, H'⟩) : ARun P n false (o :: l) K s :=
  let ⟨s', h1, h2⟩ := hr; ⟨s', .gp o l s t want L v H' s' rfl hg hd hb hw h h1, h2⟩
end

def liftQ (w0 : Base) (O : Nat → Prop) (n : Fr) (Q : Exit → ASt → Prop) (e : Exit) (a : Act) (w : World) : Prop := ∃ s' ι', Q e s' ∧ SR n w0 O s' ι' a w

def AWp (P : Program) (n : Fr) (c : Code) (Q : Exit → ASt → Prop) (s : ASt) : Prop :=
  ∀ (w0 : Base) (O : Nat → Prop) (ι : Nat → Option Nat) (a : Act) (w : World), SR n w0 O s ι a w → c.wp P (liftQ w0 O n Q) a w

def thenQ (K : ASt → Prop) (Q : Exit → ASt → Prop) : Exit → ASt → Prop
  | .normal, s => K s
  | e, s => Q e s

def blkQ (id : Nat) (Q : Exit → ASt → Prop) : Exit → ASt → Prop
  | .exit id', s => if id' = id then Q .normal s else Q (.exit id') s
  | e, s => Q e s

def Wk (n : Fr) (s s2 : ASt) : Prop := ∀ (w0 : Base) (O : Nat → Prop) (ι : Nat → Option Nat) (a : Act) (w : World), SR n w0 O s ι a w → ∃ ι2, SR n w0 O s2 ι2 a w

section
variable {P : Program} {n : Fr} {Q : Exit → ASt → Prop} {s : ASt}

theorem AWp.region {id : Nat} {ops : Array Oper} {D : List (Option Tmp)} {l : List LOp} (hD : ops.toList.map (·.dst) = D) (hgk : ops.toList.all (gOk D) = true) (hl : ops.toList.map (lite D) = l)
    (h : ARun P n false l (Q .normal) s) : AWp P n (.region id ops false) Q s := by
  intro w0 O ι a w hs
  obtain ⟨s', h1, h2⟩ := h
  refine wp_region ?_
  have := Tr_ops (P := P) (n := n) hD hgk ops.toList 0 s s' rfl (by rw [hl]; exact h1) w0 O ι a w hs
  rw [List.range_eq_range', ← Array.length_toList]
  have hmono : ∀ (l : List Nat) (a : Act) (w : World), wpOps P ops (normQ w0 O n s') l a w → wpOps P ops (liftQ w0 O n Q) l a w := by
    intro l
    induction l with
    | nil => rintro a w ⟨_, ι', h⟩; exact ⟨s', ι', h2, h⟩
    | cons i l ih =>
      intro a w h
      rw [wpOps_cons] at h ⊢
      unfold wpOp at h ⊢
      split
      · rename_i ho
        rw [ho] at h
        exact ih _ _ h
      · rename_i o ho
        rw [ho] at h
        simp only at h
        split
        · rename_i hw
          rw [if_pos hw] at h
          rcases h with h | ⟨_, a0, w1, hq, _⟩
          · refine .inl ?_
            have h1 := Oper.wp_mono (fun a w => ih a w) h
            unfold Oper.wp at h1 ⊢
            generalize (execOp a.eval o).run P w = r at h1 ⊢
            cases r with
            | ok nx w' =>
              cases nx <;> simp only [Oper.upon] at h1 ⊢ <;> first
                | exact h1
                | exact Calls.mono h1 fun e w'' he => by
                    cases e with
                    | returned v => exact he
                    | panicked ch => obtain ⟨hx, _⟩ := he; cases hx
                    | outgrown => obtain ⟨a0, w0', hx, _⟩ := he; cases hx
            | halt x w' =>
              cases x <;> simp only [Oper.upon] at h1 ⊢ <;> first
                | exact h1
                | (obtain ⟨hx, _⟩ := h1; cases hx)
          · cases hq
        · rename_i hw
          rw [if_neg hw] at h
          exact ih _ _ h
  exact hmono _ _ _ this

theorem AWp.draw {id : Nat} {ops : Array Oper} {D : List (Option Tmp)} {k : Nat} {l1 l2 : List LOp} (hm : P.follows .mixedOrders = true) (hD : ops.toList.map (·.dst) = D) (hgk : ops.toList.all (gOk D) = true)
    (hf : drawOk D ops k = true) (hk : k ≤ ops.size) (hl1 : (ops.toList.take k).map (lite D) = l1) (hl2 : (ops.toList.drop k).map (lite D) = l2)
    (h : ARun P n true l1 (fun s1 => ARun P n false l2 (Q .normal) s1) s) : AWp P n (.region id ops true) Q s := by
  intro w0 O ι a w hs
  obtain ⟨s1, h1, s', h2, h3⟩ := h
  refine wp_mono (Tr_draw (q := false) hD hgk hf hk hm (by rw [hl1]; exact h1) (by rw [hl2]; exact h2) id hs) ?_
  rintro e a w ⟨rfl, ι', h⟩
  exact ⟨s', ι', h3, h⟩

theorem AWp.seq {x y : Code} (h : AWp P n x (thenQ (AWp P n y Q) Q) s) : AWp P n (.seq x y) Q s := by
  intro w0 O ι a w hs
  refine wp_seq (wp_mono (h w0 O ι a w hs) ?_)
  rintro e a w ⟨s', ι', h1, h2⟩
  cases e with
  | normal => exact h1 w0 O ι' a w h2
  | _ => exact ⟨s', ι', h1, h2⟩

theorem AWp.skip (h : Q .normal s) : AWp P n .skip Q s := fun w0 O ι a w hs => wp_skip ⟨s, ι, h, hs⟩
theorem AWp.ret (h : Q .ret s) : AWp P n .ret Q s := fun w0 O ι a w hs => wp_ret ⟨s, ι, h, hs⟩
theorem AWp.exit {id : Nat} (h : Q (.exit id) s) : AWp P n (.exit id) Q s := fun w0 O ι a w hs => wp_exit ⟨s, ι, h, hs⟩

theorem AWp.cond {c : Operand} {x y : Code} {b : Bool} (hc : ev s.env c = .base (.bool b)) (ht : b = true → AWp P n x Q s) (hf : b = false → AWp P n y Q s) : AWp P n (.cond c x y) Q s := by
  intro w0 O ι a w hs
  have h1 := hs.ops c
  rw [hc] at h1
  exact wp_cond_split h1.base_inv (fun h => ht h w0 O ι a w hs) (fun h => hf h w0 O ι a w hs)

theorem AWp.block {id : Nat} {c : Code} (h : AWp P n c (blkQ id Q) s) : AWp P n (.block id c) Q s := by
  intro w0 O ι a w hs
  refine wp_block (wp_mono (h w0 O ι a w hs) ?_)
  rintro e a w ⟨s', ι', h1, h2⟩
  cases e with
  | exit id' =>
    simp only [blkQ] at h1
    simp only [Exit.inBlock]
    split
    · rename_i e; rw [if_pos e] at h1; exact ⟨s', ι', h1, h2⟩
    · rename_i e; rw [if_neg e] at h1; exact ⟨s', ι', h1, h2⟩
  | _ => exact ⟨s', ι', h1, h2⟩

theorem AWp.weaken {c : Code} {s2 : ASt} (hw : Wk n s s2) (h : AWp P n c Q s2) : AWp P n c Q s := by
  intro w0 O ι a w hs
  obtain ⟨ι2, hs2⟩ := hw _ _ _ _ _ hs
  exact h w0 O ι2 a w hs2

theorem AWp.mono {c : Code} {Q' : Exit → ASt → Prop} (h : AWp P n c Q' s) (hq : ∀ e s, Q' e s → Q e s) : AWp P n c Q s :=
  fun w0 O ι a w hs => wp_mono (h w0 O ι a w hs) fun e a w ⟨s', ι', h1, h2⟩ => ⟨s', ι', hq _ _ h1, h2⟩

theorem AWp.loop {X : Type} (J : X → Prop) (I : X → ASt) (μ : X → Nat) {c : Code} (x0 : X) (h0 : J x0) (hw : Wk n s (I x0))
    (hr : ∀ x, J x → AWp P n c (thenQ (fun s' => ∃ y, J y ∧ μ y < μ x ∧ Wk n s' (I y)) Q) (I x)) : AWp P n (.loop c) Q s := by
  intro w0 O ι a w hs
  obtain ⟨ι0, hs0⟩ := hw _ _ _ _ _ hs
  have key : ∀ (m : Nat) (x : X), μ x = m → J x → ∀ ι a w, SR n w0 O (I x) ι a w → ∀ (b : Frame) (k : List Item) (cs : List Frame),
      ∃ e a' w', liftQ w0 O n Q e a' w' ∧ Arrives P (lone (b.at a (.code c :: .inLoop c :: k)) cs w) b k cs e a' w' := by
    intro m
    induction m using Nat.strongRecOn with
    | _ m ih =>
      intro x hm hx ι a w hs b k cs
      obtain ⟨e, a1, w1, ⟨s', ι', hq, hs'⟩, harr⟩ := hr x hx w0 O ι a w hs b (.inLoop c :: k) cs
      cases e with
      | normal =>
        obtain ⟨y, hy, hlt, hwk⟩ := hq
        obtain ⟨ι2, hs2⟩ := hwk _ _ _ _ _ hs'
        obtain ⟨e2, a2, w2, hq2, harr2⟩ := ih (μ y) (hm ▸ hlt) y rfl hy ι2 a1 w1 hs2 b k cs
        exact ⟨e2, a2, w2, hq2, .of_steps (Steps.trans harr (.one step_inLoop)) harr2⟩
      | exit id => exact ⟨_, a1, w1, ⟨s', ι', hq, hs'⟩, .pass (x := .inLoop c) rfl (fun _ _ => .inl (by simp)) harr⟩
      | goto l => exact ⟨_, a1, w1, ⟨s', ι', hq, hs'⟩, .pass (x := .inLoop c) rfl (fun _ _ => .inl (by simp)) harr⟩
      | ret => exact ⟨_, a1, w1, ⟨s', ι', hq, hs'⟩, .pass (x := .inLoop c) rfl (fun _ _ => .inl (by simp)) harr⟩
      | panic ch => exact ⟨_, a1, w1, ⟨s', ι', hq, hs'⟩, .pass (x := .inLoop c) rfl (fun _ _ => .inl (by simp)) harr⟩
      | outgrown => exact ⟨_, a1, w1, ⟨s', ι', hq, hs'⟩, .pass (x := .inLoop c) rfl (fun _ _ => .inl (by simp)) harr⟩
  intro b k cs
  obtain ⟨e, a', w', hq, harr⟩ := key _ x0 rfl h0 ι0 a w hs0 b k cs
  exact ⟨e, a', w', hq, .of_steps (.one step_loop) harr⟩
end
end Go.Ab
