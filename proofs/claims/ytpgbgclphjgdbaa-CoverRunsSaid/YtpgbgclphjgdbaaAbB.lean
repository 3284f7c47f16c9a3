/- Code: the rules for statements, loops, functions. -/
import Derived.Maps.AppendAt
import Derived.Test.YtpgbgclphjgdbaaAbA
set_option linter.unusedSimpArgs false
set_option linter.unusedVariables false
namespace Go.Ab
open Go Go.RowKit

def ARun (P : Program) (n : Fr) (q : Bool) (l : List LOp) (K : ASt → Prop) (s : ASt) : Prop := ∃ s', Tr P n q l s s' ∧ K s'

section
variable {P : Program} {n : Fr} {q : Bool} {l : List LOp} {o : LOp} {K : ASt → Prop} {s : ASt}
theorem ARun.nil (h : K s) : ARun P n q [] K s := ⟨s, .nil s, h⟩
theorem ARun.batch {r : List LOp} {s1 : ASt} (h : batch P n l s = (r, s1)) (hr : ARun P n q r K s1) : ARun P n q l K s := let ⟨s', h1, h2⟩ := hr; ⟨s', .batch h h1, h2⟩
theorem ARun.q1 {v : AV} (hg : o.g = none) (hd : dstOk n o.dst = true) (h : QL P s.H (ev s.env) o.op v) (hr : ARun P n q l K ⟨putE s.env o.dst v, s.H⟩) : ARun P n q (o :: l) K s :=
  let ⟨s', h1, h2⟩ := hr; ⟨s', .q1 o l s v s' hg hd h.t h1, h2⟩
theorem ARun.q1t {v : AV} (hg : o.g = none) (hd : dstOk n o.dst = true) (h : QLt P s.H (ev s.env) o.op o.ty v) (hr : ARun P n q l K ⟨putE s.env o.dst v, s.H⟩) : ARun P n q (o :: l) K s :=
  let ⟨s', h1, h2⟩ := hr; ⟨s', .q1 o l s v s' hg hd h h1, h2⟩
theorem ARun.p1 {v : AV} {H' : List ABlk} (hg : o.g = none) (hd : dstOk n o.dst = true) (h : PL P s.H (ev s.env) o.op v H') (hr : ARun P n false l K ⟨putE s.env o.dst v, H'⟩) : ARun P n false (o :: l) K s :=
  let ⟨s', h1, h2⟩ := hr; ⟨s', .p1 o l s v H' s' rfl hg hd h h1, h2⟩
theorem ARun.gf {t : Tmp} {want b : Bool} (hg : o.g = some (t, want)) (hd : dstOk n o.dst = true) (hb : lk s.env t = .base (.bool b)) (hw : gc b want = false) (hr : ARun P n q l K ⟨putE s.env o.dst .bad, s.H⟩) : ARun P n q (o :: l) K s :=
  let ⟨s', h1, h2⟩ := hr; ⟨s', .gf o l s t want b s' hg hd hb hw h1, h2⟩
theorem ARun.gl {t : Tmp} {want : Bool} {L : List Bool} {v : AV} (hg : o.g = some (t, want)) (hd : dstOk n o.dst = true) (hb : gval want (lk s.env t) = some L)
    (h : allL L = true → QL P s.H (fun x => stripL L (ev s.env x)) o.op v) (hr : ARun P n q l K ⟨putE s.env o.dst (wrapL L v), s.H⟩) : ARun P n q (o :: l) K s :=
  let ⟨s', h1, h2⟩ := hr; ⟨s', .gq o l s t want L v s' hg hd hb h h1, h2⟩
theorem ARun.gq {t : Tmp} {want b : Bool} {v : AV} (hg : o.g = some (t, want)) (hd : dstOk n o.dst = true) (hb : lk s.env t = .base (.bool b))
    (h : gc b want = true → QL P s.H (fun x => stripA (gc b want) (ev s.env x)) o.op v) (hr : ARun P n q l K ⟨putE s.env o.dst (.under (gc b want) v), s.H⟩) : ARun P n q (o :: l) K s :=
  .gl (L := [gc b want]) hg hd (by rw [hb]; rfl) (fun hl => h (by simpa [allL] using hl)) hr
theorem ARun.gp {t : Tmp} {want b : Bool} {v : AV} {H' : List ABlk} (hg : o.g = some (t, want)) (hd : dstOk n o.dst = true) (hb : lk s.env t = .base (.bool b)) (hw : gc b want = true)
    (h : PL P s.H (fun x => stripA true (ev s.env x)) o.op v H') (hr : ARun P n false l K ⟨putE s.env o.dst v, H'⟩) : ARun P n false (o :: l) K s :=
  let ⟨s', h1, h2⟩ := hr; ⟨s', .gp o l s t want [true] v H' s' rfl hg hd (by rw [hb]; simp [gval, hw]) rfl h h1, h2⟩
theorem ARun.gpl {t : Tmp} {want : Bool} {L : List Bool} {v : AV} {H' : List ABlk} (hg : o.g = some (t, want)) (hd : dstOk n o.dst = true) (hb : gval want (lk s.env t) = some L) (hw : allL L = true)
    (h : PL P s.H (fun x => stripL L (ev s.env x)) o.op v H') (hr : ARun P n false l K ⟨putE s.env o.dst v, H'⟩) : ARun P n false (o :: l) K s :=
  let ⟨s', h1, h2⟩ := hr; ⟨s', .gp o l s t want L v H' s' rfl hg hd hb hw h h1, h2⟩
end

def liftQ (w0 : Base) (O : Nat → Prop) (n : Fr) (Q : Exit → ASt → Prop) (e : Exit) (a : Act) (w : World) : Prop := ∃ s' ι', Q e s' ∧ SR n w0 O s' ι' a w

def AWp (P : Program) (n : Fr) (c : Code) (Q : Exit → ASt → Prop) (s : ASt) : Prop :=
  ∀ (w0 : Base) (O : Nat → Prop) (ι : Nat → Option Nat) (a : Act) (w : World), SR n w0 O s ι a w → c.wp P (liftQ w0 O n Q) a w

def thenQ (K : ASt → Prop) (Q : Exit → ASt → Prop) : Exit → ASt → Prop
  | .normal, s => K s
  | e, s => Q e s

def blkQ (id : Nat) (Q : Exit → ASt → Prop) : Exit → ASt → Prop
  | .exit id', s => if id' = id then Q .normal s else Q (.exit id') s
  | e, s => Q e s

def Wk (n : Fr) (s s2 : ASt) : Prop := ∀ (w0 : Base) (O : Nat → Prop) (ι : Nat → Option Nat) (a : Act) (w : World), SR n w0 O s ι a w → ∃ ι2, SR n w0 O s2 ι2 a w

section
variable {P : Program} {n : Fr} {Q : Exit → ASt → Prop} {s : ASt}

theorem AWp.region {id : Nat} {ops : Array Oper} {D : List (Option Tmp)} {l : List LOp} (hD : ops.toList.map (·.dst) = D) (hgk : ops.toList.all (gOk D) = true) (hl : ops.toList.map (lite D) = l)
    (h : ARun P n false l (Q .normal) s) : AWp P n (.region id ops false) Q s := by
  intro w0 O ι a w hs
  obtain ⟨s', h1, h2⟩ := h
  refine wp_region ?_
  have := Tr_ops (P := P) (n := n) hD hgk ops.toList 0 s s' rfl (by rw [hl]; exact h1) w0 O ι a w hs
  rw [List.range_eq_range', ← Array.length_toList]
  have hmono : ∀ (l : List Nat) (a : Act) (w : World), wpOps P ops (normQ w0 O n s') l a w → wpOps P ops (liftQ w0 O n Q) l a w := by
    intro l
    induction l with
    | nil => rintro a w ⟨_, ι', h⟩; exact ⟨s', ι', h2, h⟩
    | cons i l ih =>
      intro a w h
      rw [wpOps_cons] at h ⊢
      unfold wpOp at h ⊢
      split
      · rename_i ho
        rw [ho] at h
        exact ih _ _ h
      · rename_i o ho
        rw [ho] at h
        simp only at h
        split
        · rename_i hw
          rw [if_pos hw] at h
          rcases h with h | ⟨_, a0, w1, hq, _⟩
          · refine .inl ?_
            have h1 := Oper.wp_mono (fun a w => ih a w) h
            unfold Oper.wp at h1 ⊢
            generalize (execOp a.eval o).run P w = r at h1 ⊢
            cases r with
            | ok nx w' =>
              cases nx <;> simp only [Oper.upon] at h1 ⊢ <;> first
                | exact h1
                | exact Calls.mono h1 fun e w'' he => by
                    cases e with
                    | returned v => exact he
                    | panicked ch => obtain ⟨hx, _⟩ := he; cases hx
                    | outgrown => obtain ⟨a0, w0', hx, _⟩ := he; cases hx
            | halt x w' =>
              cases x <;> simp only [Oper.upon] at h1 ⊢ <;> first
                | exact h1
                | (obtain ⟨hx, _⟩ := h1; cases hx)
          · cases hq
        · rename_i hw
          rw [if_neg hw] at h
          exact ih _ _ h
  exact hmono _ _ _ this

theorem AWp.draw {id : Nat} {ops : Array Oper} {D : List (Option Tmp)} {k : Nat} {l1 l2 : List LOp} (hm : P.follows .mixedOrders = true) (hD : ops.toList.map (·.dst) = D) (hgk : ops.toList.all (gOk D) = true)
    (hf : drawOk D ops k = true) (hk : k ≤ ops.size) (hl1 : (ops.toList.take k).map (lite D) = l1) (hl2 : (ops.toList.drop k).map (lite D) = l2)
    (h : ARun P n true l1 (fun s1 => ARun P n false l2 (Q .normal) s1) s) : AWp P n (.region id ops true) Q s := by
  intro w0 O ι a w hs
  obtain ⟨s1, h1, s', h2, h3⟩ := h
  refine wp_mono (Tr_draw (q := false) hD hgk hf hk hm (by rw [hl1]; exact h1) (by rw [hl2]; exact h2) id hs) ?_
  rintro e a w ⟨rfl, ι', h⟩
  exact ⟨s', ι', h3, h⟩

theorem AWp.seq {x y : Code} (h : AWp P n x (thenQ (AWp P n y Q) Q) s) : AWp P n (.seq x y) Q s := by
  intro w0 O ι a w hs
  refine wp_seq (wp_mono (h w0 O ι a w hs) ?_)
  rintro e a w ⟨s', ι', h1, h2⟩
  cases e with
  | normal => exact h1 w0 O ι' a w h2
  | _ => exact ⟨s', ι', h1, h2⟩

theorem AWp.skip (h : Q .normal s) : AWp P n .skip Q s := fun w0 O ι a w hs => wp_skip ⟨s, ι, h, hs⟩
theorem AWp.ret (h : Q .ret s) : AWp P n .ret Q s := fun w0 O ι a w hs => wp_ret ⟨s, ι, h, hs⟩
theorem AWp.exit {id : Nat} (h : Q (.exit id) s) : AWp P n (.exit id) Q s := fun w0 O ι a w hs => wp_exit ⟨s, ι, h, hs⟩

theorem AWp.cond {c : Operand} {x y : Code} {b : Bool} (hc : ev s.env c = .base (.bool b)) (ht : b = true → AWp P n x Q s) (hf : b = false → AWp P n y Q s) : AWp P n (.cond c x y) Q s := by
  intro w0 O ι a w hs
  have h1 := hs.ops c
  rw [hc] at h1
  exact wp_cond_split h1.base_inv (fun h => ht h w0 O ι a w hs) (fun h => hf h w0 O ι a w hs)

theorem AWp.block {id : Nat} {c : Code} (h : AWp P n c (blkQ id Q) s) : AWp P n (.block id c) Q s := by
  intro w0 O ι a w hs
  refine wp_block (wp_mono (h w0 O ι a w hs) ?_)
  rintro e a w ⟨s', ι', h1, h2⟩
  cases e with
  | exit id' =>
    simp only [blkQ] at h1
    simp only [Exit.inBlock]
    split
    · rename_i e; rw [if_pos e] at h1; exact ⟨s', ι', h1, h2⟩
    · rename_i e; rw [if_neg e] at h1; exact ⟨s', ι', h1, h2⟩
  | _ => exact ⟨s', ι', h1, h2⟩

theorem AWp.weaken {c : Code} {s2 : ASt} (hw : Wk n s s2) (h : AWp P n c Q s2) : AWp P n c Q s := by
  intro w0 O ι a w hs
  obtain ⟨ι2, hs2⟩ := hw _ _ _ _ _ hs
  exact h w0 O ι2 a w hs2

theorem AWp.mono {c : Code} {Q' : Exit → ASt → Prop} (h : AWp P n c Q' s) (hq : ∀ e s, Q' e s → Q e s) : AWp P n c Q s :=
  fun w0 O ι a w hs => wp_mono (h w0 O ι a w hs) fun e a w ⟨s', ι', h1, h2⟩ => ⟨s', ι', hq _ _ h1, h2⟩

theorem AWp.loop {X : Type} (J : X → Prop) (I : X → ASt) (μ : X → Nat) {c : Code} (x0 : X) (h0 : J x0) (hw : Wk n s (I x0))
    (hr : ∀ x, J x → AWp P n c (thenQ (fun s' => ∃ y, J y ∧ μ y < μ x ∧ Wk n s' (I y)) Q) (I x)) : AWp P n (.loop c) Q s := by
  intro w0 O ι a w hs
  obtain ⟨ι0, hs0⟩ := hw _ _ _ _ _ hs
  have key : ∀ (m : Nat) (x : X), μ x = m → J x → ∀ ι a w, SR n w0 O (I x) ι a w → ∀ (b : Frame) (k : List Item) (cs : List Frame),
      ∃ e a' w', liftQ w0 O n Q e a' w' ∧ Arrives P (lone (b.at a (.code c :: .inLoop c :: k)) cs w) b k cs e a' w' := by
    intro m
    induction m using Nat.strongRecOn with
    | _ m ih =>
      intro x hm hx ι a w hs b k cs
      obtain ⟨e, a1, w1, ⟨s', ι', hq, hs'⟩, harr⟩ := hr x hx w0 O ι a w hs b (.inLoop c :: k) cs
      cases e with
      | normal =>
        obtain ⟨y, hy, hlt, hwk⟩ := hq
        obtain ⟨ι2, hs2⟩ := hwk _ _ _ _ _ hs'
        obtain ⟨e2, a2, w2, hq2, harr2⟩ := ih (μ y) (hm ▸ hlt) y rfl hy ι2 a1 w1 hs2 b k cs
        exact ⟨e2, a2, w2, hq2, .of_steps (Steps.trans harr (.one step_inLoop)) harr2⟩
      | exit id => exact ⟨_, a1, w1, ⟨s', ι', hq, hs'⟩, .pass (x := .inLoop c) rfl (fun _ _ => .inl (by simp)) harr⟩
      | goto l => exact ⟨_, a1, w1, ⟨s', ι', hq, hs'⟩, .pass (x := .inLoop c) rfl (fun _ _ => .inl (by simp)) harr⟩
      | ret => exact ⟨_, a1, w1, ⟨s', ι', hq, hs'⟩, .pass (x := .inLoop c) rfl (fun _ _ => .inl (by simp)) harr⟩
      | panic ch => exact ⟨_, a1, w1, ⟨s', ι', hq, hs'⟩, .pass (x := .inLoop c) rfl (fun _ _ => .inl (by simp)) harr⟩
      | outgrown => exact ⟨_, a1, w1, ⟨s', ι', hq, hs'⟩, .pass (x := .inLoop c) rfl (fun _ _ => .inl (by simp)) harr⟩
  intro b k cs
  obtain ⟨e, a', w', hq, harr⟩ := key _ x0 rfl h0 ι0 a w hs0 b k cs
  exact ⟨e, a', w', hq, .of_steps (.one step_loop) harr⟩
end
end Go.Ab
namespace Go.Ab
open Go Go.RowKit

def Le (a b : AV) : Prop := ∀ (w : World) (O : Nat → Prop) (ι : Nat → Option Nat) (H : List ABlk) (u : Value), VR w O ι H a u → VR w O ι H b u
theorem Le.refl (a : AV) : Le a a := fun _ _ _ _ _ h => h
theorem Le.bad (a : AV) : Le a .bad := fun _ _ _ _ _ _ => .bad _
theorem Le.of_eq {a b : AV} (h : a = b) : Le a b := h ▸ .refl a
theorem Le.under_true (a : AV) : Le (.under true a) a := fun _ _ _ _ _ h => h.under_inv rfl

theorem lk_mem : ∀ (E : Env) (t : Nat), lk E t = .bad ∨ ∃ p ∈ E, p.1 = t ∧ lk E t = p.2
  | [], t => .inl rfl
  | (k, v) :: E, t => by
    unfold lk
    split
    · rename_i h; exact .inr ⟨(k, v), by simp, h, rfl⟩
    · rcases lk_mem E t with h | ⟨p, h1, h2, h3⟩
      · exact .inl h
      · exact .inr ⟨p, by simp [h1], h2, h3⟩

theorem Wk.env {n : Fr} {E E2 : Env} {H : List ABlk} (h : ∀ p ∈ E2, Le (lk E p.1) p.2) : Wk n ⟨E, H⟩ ⟨E2, H⟩ := fun w0 O ι a w hs =>
  ⟨ι, hs.sit, hs.defers, hs.size, hs.hand, fun t => by
    rcases lk_mem E2 t with h1 | ⟨p, hp, h1, h2⟩
    · show VR _ _ _ _ (lk E2 t) _; rw [h1]; exact .bad _
    · show VR _ _ _ _ (lk E2 t) _; rw [h2]; subst h1; exact h p hp _ _ _ _ _ (hs.vals p.1)⟩

structure View (r : Nat → Option Nat) (ι ι2 : Nat → Option Nat) (H H2 : List ABlk) : Prop where
  idx : ∀ (b j : Nat) (blk : ABlk), r b = some j → H[b]? = some blk → ∃ blk2, H2[j]? = some blk2 ∧ blk2.es.length = blk.es.length ∧ blk2.sz = blk.sz ∧ ι2 j = ι b
  back : ∀ (j x : Nat), j < H2.length → ι2 j = some x → ∃ b, b < H.length ∧ r b = some j ∧ ι b = some x

def PubR (r : Nat → Option Nat) (H : List ABlk) (a b : AV) : Prop := ∀ (H2 : List ABlk) (w0 : Base) (w : World) (O : Nat → Prop) (ι ι2 : Nat → Option Nat) (u : Value), Sit w0 O ι H w → View r ι ι2 H H2 → VR w (OO O ι H) ι H a u → VR w (OO O ι2 H2) ι2 H2 b u

section
variable {r : Nat → Option Nat} {H : List ABlk}
theorem View.OO {H2 : List ABlk} {O : Nat → Prop} {ι ι2 : Nat → Option Nat} (v : View r ι ι2 H H2) {x : Nat} (h : OO O ι2 H2 x) : OO O ι H x := by
  rcases h with h | ⟨j, hj, hx⟩
  · exact .inl h
  · obtain ⟨b, hb, _, hi⟩ := v.back j x hj hx
    exact .inr ⟨b, hb, hi⟩
theorem PubR.pu {a : AV} (h : Pu a) : PubR r H a a := fun H2 w0 w O ι ι2 u hs v hu => ((h _ _ _ _ _ hu).lessO fun x hx => v.OO hx).back
theorem PubR.bad (a : AV) : PubR r H a .bad := fun _ _ _ _ _ _ _ _ _ _ => .bad _
theorem PubR.le {a b c : AV} (h : Le a b) (h2 : PubR r H b c) : PubR r H a c := fun H2 w0 w O ι ι2 u hs v hu => h2 H2 w0 w O ι ι2 u hs v (h _ _ _ _ _ hu)
theorem PubR.agg {cs ds : List AV} (hl : cs.length = ds.length) (h : ∀ (j : Nat) (c d : AV), cs[j]? = some c → ds[j]? = some d → PubR r H c d) : PubR r H (.agg cs) (.agg ds) := fun H2 w0 w O ι ι2 u hs v hu => by
  obtain ⟨arr, rfl, h1, h2⟩ := hu.agg_inv
  refine .agg ds arr (h1.trans hl) fun j d u hd hu => ?_
  have hj : j < cs.length := by rw [hl]; exact (List.getElem?_eq_some_iff.1 hd).1
  exact h j _ d (List.getElem?_eq_getElem hj) hd H2 w0 w O ι ι2 u hs v (h2 j _ u (List.getElem?_eq_getElem hj) hu)
theorem PubR.tup {cs ds : List AV} (hl : cs.length = ds.length) (h : ∀ (j : Nat) (c d : AV), cs[j]? = some c → ds[j]? = some d → PubR r H c d) : PubR r H (.tup cs) (.tup ds) := fun H2 w0 w O ι ι2 u hs v hu => by
  obtain ⟨arr, rfl, h1, h2⟩ := hu.tup_inv
  refine .tup ds arr (h1.trans hl) fun j d u hd hu => ?_
  have hj : j < cs.length := by rw [hl]; exact (List.getElem?_eq_some_iff.1 hd).1
  exact h j _ d (List.getElem?_eq_getElem hj) hd H2 w0 w O ι ι2 u hs v (h2 j _ u (List.getElem?_eq_getElem hj) hu)
theorem PubR.clo {f : FuncId} {cs ds : List AV} (hl : cs.length = ds.length) (h : ∀ (j : Nat) (c d : AV), cs[j]? = some c → ds[j]? = some d → PubR r H c d) : PubR r H (.clo f cs) (.clo f ds) := fun H2 w0 w O ι ι2 u hs v hu => by
  cases hu with
  | clo f cs arr h1 h2 =>
  refine .clo f ds arr (h1.trans hl) fun j d u hd hu => ?_
  have hj : j < cs.length := by rw [hl]; exact (List.getElem?_eq_some_iff.1 hd).1
  exact h j _ d (List.getElem?_eq_getElem hj) hd H2 w0 w O ι ι2 u hs v (h2 j _ u (List.getElem?_eq_getElem hj) hu)
theorem PubR.nilS : PubR r H (.base (.slice none 0 0)) (.lst []) := fun H2 w0 w O ι ι2 u hs v hu => by
  have := hu.base_inv; subst this; exact .lnil
theorem PubR.ptr {b j tot i off : Nat} (hb : r b = some j) : PubR r H (.ptr b tot i off) (.ptr j tot i off) := fun H2 w0 w O ι ι2 u hs v hu => by
  cases hu with
  | stalePtr b tot i off blk a h1 h2 =>
    obtain ⟨blk2, e1, e2, e3, e4⟩ := v.idx b j blk hb h1
    exact .stalePtr _ _ _ _ blk2 _ e1 (by omega)
  | ptr b tot i off blk x h1 ht hi hcx =>
    obtain ⟨blk2, e1, e2, e3, e4⟩ := v.idx b j blk hb h1
    have := VR.ptr (w := w) (O := OO O ι2 H2) j tot i off blk2 x e1 (e2.trans ht) (e4.trans hi) hcx
    rwa [e3] at this
theorem PubR.view {b j tot i off n : Nat} (hb : r b = some j) : PubR r H (.view b tot i off n) (.view j tot i off n) := fun H2 w0 w O ι ι2 u hs v hu => by
  cases hu with
  | staleView b tot i off n blk a m c h1 h2 =>
    obtain ⟨blk2, e1, e2, e3, e4⟩ := v.idx b j blk hb h1
    exact .staleView _ _ _ _ _ blk2 _ _ _ e1 (by omega)
  | view b tot i off n blk x cap h1 ht hi hcx hcap hmax =>
    obtain ⟨blk2, e1, e2, e3, e4⟩ := v.idx b j blk hb h1
    have := VR.view (w := w) (O := OO O ι2 H2) j tot i off n blk2 x cap e1 (e2.trans ht) (e4.trans hi) hcx hcap hmax
    rwa [e3] at this
theorem PubR.own {b j tot off len : Nat} (hb : r b = some j) : PubR r H (.own b tot off len) (.own j tot off len) := fun H2 w0 w O ι ι2 u hs v hu => by
  cases hu with
  | staleOwn b tot off len blk a n c h1 h2 =>
    obtain ⟨blk2, e1, e2, e3, e4⟩ := v.idx b j blk hb h1
    exact .staleOwn _ _ _ _ blk2 _ _ _ e1 (by omega)
  | ownNil b blk h1 he hi =>
    obtain ⟨blk2, e1, e2, e3, e4⟩ := v.idx b j blk hb h1
    rw [he] at e2
    exact .ownNil j blk2 e1 (List.eq_nil_of_length_eq_zero e2) (e4.trans hi)
  | own b tot off len blk x n cap a h1 ht hi hn hl hcap ha =>
    obtain ⟨blk2, e1, e2, e3, e4⟩ := v.idx b j blk hb h1
    exact .own _ _ _ _ blk2 x n cap a e1 (e2.trans ht) (e4.trans hi) hn hl hcap (by rw [e3]; exact ha)

theorem not_OO_view {w0 : Base} {w : World} {O : Nat → Prop} {ι ι2 : Nat → Option Nat} {H2 : List ABlk} (hs : Sit w0 O ι H w) (v : View r ι ι2 H H2) {b x : Nat} {blk : ABlk} (h1 : H[b]? = some blk) (hk : r b = none) (hi : ι b = some x) : ¬ OO O ι2 H2 x := by
  have hbl : b < H.length := (List.getElem?_eq_some_iff.1 h1).1
  rintro (h | ⟨j, hj, hx⟩)
  · exact hs.disj x b h hbl hi
  · obtain ⟨b', hb', hr, hx'⟩ := v.back j x hj hx
    have := hs.inj b b' x hbl hb' hi hx'
    subst this
    rw [hk] at hr; cases hr

theorem PubR.lst {b tot off len : Nat} {blk : ABlk} {ds : List AV} (hk : r b = none) (h1 : H[b]? = some blk) (ht : blk.es.length = tot) (hl : off + len ≤ tot) (hdl : ds.length = len)
    (hd : ∀ (i : Nat) (e d : AV), i < len → blk.es[off + i]? = some e → ds[i]? = some d → e.cells.length = d.cells.length ∧ ∀ (j : Nat) (c c' : AV), e.cells[j]? = some c → d.cells[j]? = some c' → PubR r H c c') :
    PubR r H (.own b tot off len) (.lst ds) := fun H2 w0 w O ι ι2 u hs v hu => by
  have hbl : b < H.length := (List.getElem?_eq_some_iff.1 h1).1
  cases hu with
  | staleOwn b tot off len blk' a n c h1' h2 => rw [h1] at h1'; cases h1'; omega
  | ownNil b blk' h1' he hi =>
    have : ds = [] := List.eq_nil_of_length_eq_zero hdl
    subst this; exact .lnil
  | own b tot off len blk' x n cap a h1' ht' hi hn hl' hcap ha =>
    rw [h1] at h1'; cases h1'
    obtain ⟨hx0, c0, hc, hcs, hsz, hel⟩ := hs.heap b blk x h1 hi
    rcases Nat.eq_zero_or_pos len with h0 | hpos
    · have : ds = [] := List.eq_nil_of_length_eq_zero (by omega)
      subst this
      exact .lst [] a n cap 0 (fun _ _ => undef) (by simp; omega) (by omega) (by have : 0 ≤ maxLen := Nat.zero_le _; omega) (by simp) (by simp) (by simp) (by simp)
    · obtain ⟨rfl, hmx, c1, ty, fz, hc1, hc2⟩ := ha (.inl (by omega))
      have hnot : ¬ OO O ι2 H2 x := not_OO_view hs v h1 hk hi
      have hat : ∀ (i j : Nat) (d c : AV), ds[i]? = some d → d.cells[j]? = some c → ∃ u, w.cell? ⟨x, off * blk.sz + i * blk.sz + j, none⟩ = some u ∧ VR w (OO O ι2 H2) ι2 H2 c u := by
        intro i j d c hdi hcj
        have hil : i < len := by rw [← hdl]; exact (List.getElem?_eq_some_iff.1 hdi).1
        have hei : blk.es[off + i]? = some (blk.es[off + i]'(by omega)) := List.getElem?_eq_getElem (by omega)
        obtain ⟨h3, h4⟩ := hd i _ d hil hei hdi
        have hcj' : j < (blk.es[off + i]'(by omega)).cells.length := by rw [h3]; exact (List.getElem?_eq_some_iff.1 hcj).1
        obtain ⟨u, hu, hv⟩ := hel (off + i) j _ _ hei (List.getElem?_eq_getElem hcj')
        obtain ⟨ty3, fz3, hc⟩ := rowAt_el hc ⟨c1, ty, fz, hc1⟩
        refine ⟨u, ?_, h4 j _ c (List.getElem?_eq_getElem hcj') hcj H2 w0 w O ι ι2 u hs v hv⟩
        rw [← Nat.add_mul]
        simpa [World.cell?, hc] using hu
      have hsize : ∀ d ∈ ds, d.cells.length = blk.sz := by
        intro d hdm
        obtain ⟨i, hi', hdi⟩ := List.mem_iff_getElem.1 hdm
        have hdi' : ds[i]? = some d := by rw [List.getElem?_eq_getElem hi', hdi]
        have hei : blk.es[off + i]? = some (blk.es[off + i]'(by omega)) := List.getElem?_eq_getElem (by omega)
        obtain ⟨h3, _⟩ := hd i _ d (by omega) hei hdi'
        rw [← h3]
        exact hsz _ (List.getElem_mem _)
      exact .lst ds _ n cap blk.sz (fun i j => (w.cell? ⟨x, off * blk.sz + i * blk.sz + j, none⟩).getD undef) (by omega) (by omega) (by omega) hsize (fun _ _ => rfl)
        (fun i j d c hdi hcj => by obtain ⟨u, hu, _⟩ := hat i j d c hdi hcj; exact ⟨hnot, by simp only [hu, Option.getD_some]⟩)
        (fun i j d c hdi hcj => by obtain ⟨u, hu, hv⟩ := hat i j d c hdi hcj; simpa only [hu, Option.getD_some] using hv)

structure Sel (m : Nat) (r : Nat → Option Nat) (q : Nat → Nat) (H H2 : List ABlk) : Prop where
  hand : ∀ b, b < m → r b = some b
  fro : ∀ j, j < H2.length → q j < H.length ∧ r (q j) = some j
  too : ∀ b j, b < H.length → r b = some j → q j = b ∧ j < H2.length
  blk : ∀ j blk blk2, H[q j]? = some blk → H2[j]? = some blk2 → blk2.ty = blk.ty ∧ blk2.sz = blk.sz ∧ blk2.es.length = blk.es.length ∧
    ∀ (i : Nat) (e e2 : AV), blk.es[i]? = some e → blk2.es[i]? = some e2 → e.cells.length = e2.cells.length ∧ ∀ (k : Nat) (c c2 : AV), e.cells[k]? = some c → e2.cells[k]? = some c2 → PubR r H c c2
theorem Sel.view {m : Nat} {q : Nat → Nat} {H2 : List ABlk} (s : Sel m r q H H2) (ι : Nat → Option Nat) : View r ι (fun j => ι (q j)) H H2 :=
  ⟨fun b j blk hr hb => by
      have hbl := (List.getElem?_eq_some_iff.1 hb).1
      obtain ⟨e, hj⟩ := s.too b j hbl hr
      have h2 : H2[j]? = some H2[j] := List.getElem?_eq_getElem hj
      obtain ⟨_, h3, h4, _⟩ := s.blk j blk _ (by rw [e]; exact hb) h2
      exact ⟨_, h2, h4, h3, by rw [e]⟩,
   fun j x hj hx => ⟨q j, (s.fro j hj).1, (s.fro j hj).2, hx⟩⟩
theorem Sit.sel {m : Nat} {q : Nat → Nat} {H2 : List ABlk} {w0 : Base} {w : World} {O : Nat → Prop} {ι : Nat → Option Nat} (hs : Sit w0 O ι H w) (hm : w0.H.length = m) (s : Sel m r q H H2) : Sit w0 O (fun j => ι (q j)) H2 w := by
  have v := s.view ι
  have hget : ∀ j blk2, H2[j]? = some blk2 → ∃ blk, H[q j]? = some blk := fun j blk2 h => ⟨_, List.getElem?_eq_getElem (s.fro j (List.getElem?_eq_some_iff.1 h).1).1⟩
  refine ⟨fun j blk2 x h2 hi => ?_, fun j blk2 h2 hi => ?_, fun j j' x hj hj' hx hx' => ?_, hs.below, hs.old, fun x j hO hj => hs.disj x _ hO (s.fro j hj).1, ?_⟩
  · obtain ⟨blk, h1⟩ := hget j blk2 h2
    obtain ⟨e1, e2, e3, e4⟩ := s.blk j blk blk2 h1 h2
    obtain ⟨k1, c, k2, k3, k4, k5⟩ := hs.heap _ blk x h1 hi
    refine ⟨k1, c, by rw [e1]; exact k2, by rw [e2, e3]; exact k3, fun e he => ?_, fun i k e2' d he hd => ?_⟩
    · obtain ⟨i, hi', he'⟩ := List.mem_iff_getElem.1 he
      have hei : blk.es[i]? = some (blk.es[i]'(by omega)) := List.getElem?_eq_getElem (by omega)
      obtain ⟨f1, _⟩ := e4 i _ e hei (by rw [List.getElem?_eq_getElem hi', he'])
      rw [← f1, e2]
      exact k4 _ (List.getElem_mem _)
    · have hil : i < blk.es.length := by rw [← e3]; exact (List.getElem?_eq_some_iff.1 he).1
      have hei : blk.es[i]? = some blk.es[i] := List.getElem?_eq_getElem hil
      obtain ⟨f1, f2⟩ := e4 i _ e2' hei he
      have hkl : k < blk.es[i].cells.length := by rw [f1]; exact (List.getElem?_eq_some_iff.1 hd).1
      obtain ⟨u, hu, hv⟩ := k5 i k _ _ hei (List.getElem?_eq_getElem hkl)
      exact ⟨u, by rw [e2]; exact hu, f2 k _ d (List.getElem?_eq_getElem hkl) hd H2 w0 w O ι _ u hs v hv⟩
  · obtain ⟨blk, h1⟩ := hget j blk2 h2
    obtain ⟨e1, e2, e3, e4⟩ := s.blk j blk blk2 h1 h2
    have := hs.empt _ blk h1 hi
    rw [this] at e3
    exact List.eq_nil_of_length_eq_zero e3
  · have := hs.inj _ _ x (s.fro j hj).1 (s.fro j' hj').1 hx hx'
    have h1 := (s.fro j hj).2
    rw [this, (s.fro j' hj').2] at h1
    injection h1 with h1; exact h1.symm
  · have hb : ∀ b blk, w0.H[b]? = some blk → b < m := fun b blk h => by rw [← hm]; exact (List.getElem?_eq_some_iff.1 h).1
    refine ⟨fun b blk h => ?_, fun b x blk blk' c ty fz h h2 hl hi hc => ?_⟩
    · obtain ⟨blk1, k1, k2, k3⟩ := hs.hist.blk b blk h
      obtain ⟨blk2, f1, f2, f3, f4⟩ := v.idx b b blk1 (s.hand b (hb b blk h)) k1
      refine ⟨blk2, f1, by omega, fun e => ?_⟩
      obtain ⟨g1, g2⟩ := k3 (by omega)
      exact ⟨f3.trans g1, f4.trans g2⟩
    · obtain ⟨blk1, k1, k2, k3⟩ := hs.hist.blk b blk h
      obtain ⟨blk2, f1, f2, f3, f4⟩ := v.idx b b blk1 (s.hand b (hb b blk h)) k1
      rw [h2] at f1; injection f1 with f1; subst f1
      exact hs.hist.size b x blk blk1 c ty fz h k1 (by omega) hi hc
theorem Wk.sel {n : Fr} {q : Nat → Nat} {H2 : List ABlk} {E E2 : Env} (s : Sel n.m r q H H2) (h : ∀ p ∈ E2, PubR r H (lk E p.1) p.2) : Wk n ⟨E, H⟩ ⟨E2, H2⟩ := fun w0 O ι a w hs =>
  ⟨_, hs.sit.sel hs.hand s, hs.defers, hs.size, hs.hand, fun t => by
    rcases lk_mem E2 t with h1 | ⟨p, hp, h1, h2⟩
    · show VR _ _ _ _ (lk E2 t) _; rw [h1]; exact .bad _
    · show VR _ _ _ _ (lk E2 t) _; rw [h2]; subst h1; exact h p hp H2 w0 w O ι _ _ hs.sit (s.view ι) (hs.vals p.1)⟩
end

def pre (k : Nat) (b : Nat) : Option Nat := if b < k then some b else none
theorem pre_lt {k b : Nat} (h : b < k) : pre k b = some b := if_pos h
theorem pre_ge {k b : Nat} (h : k ≤ b) : pre k b = none := if_neg (by omega)
abbrev Pub (H : List ABlk) (k : Nat) (a b : AV) : Prop := PubR (pre k) H a b

section
variable {H : List ABlk} {k : Nat}
theorem Pub.pu {a : AV} (h : Pu a) : Pub H k a a := PubR.pu h
theorem Pub.bad (a : AV) : Pub H k a .bad := PubR.bad a
theorem Pub.le {a b c : AV} (h : Le a b) (h2 : Pub H k b c) : Pub H k a c := PubR.le h h2
theorem Pub.agg {cs ds : List AV} (hl : cs.length = ds.length) (h : ∀ (j : Nat) (c d : AV), cs[j]? = some c → ds[j]? = some d → Pub H k c d) : Pub H k (.agg cs) (.agg ds) := PubR.agg hl h
theorem Pub.tup {cs ds : List AV} (hl : cs.length = ds.length) (h : ∀ (j : Nat) (c d : AV), cs[j]? = some c → ds[j]? = some d → Pub H k c d) : Pub H k (.tup cs) (.tup ds) := PubR.tup hl h
theorem Pub.nilS : Pub H k (.base (.slice none 0 0)) (.lst []) := PubR.nilS
theorem Pub.ptr {b tot i off : Nat} (hb : b < k) : Pub H k (.ptr b tot i off) (.ptr b tot i off) := PubR.ptr (pre_lt hb)
theorem Pub.own {b tot off len : Nat} (hb : b < k) : Pub H k (.own b tot off len) (.own b tot off len) := PubR.own (pre_lt hb)
theorem Pub.lst {b tot off len : Nat} {blk : ABlk} {ds : List AV} (hk : k ≤ b) (h1 : H[b]? = some blk) (ht : blk.es.length = tot) (hl : off + len ≤ tot) (hdl : ds.length = len)
    (hd : ∀ (i : Nat) (e d : AV), i < len → blk.es[off + i]? = some e → ds[i]? = some d → e.cells.length = d.cells.length ∧ ∀ (j : Nat) (c c' : AV), e.cells[j]? = some c → d.cells[j]? = some c' → Pub H k c c') :
    Pub H k (.own b tot off len) (.lst ds) := PubR.lst (pre_ge hk) h1 ht hl hdl hd
theorem Sel.pre {m : Nat} {H2 : List ABlk} (hk : k ≤ H.length) (hm : m ≤ k) (hl : H2.length = k) (hb : ∀ (j : Nat) (blk blk2 : ABlk), H[j]? = some blk → H2[j]? = some blk2 → blk2.ty = blk.ty ∧ blk2.sz = blk.sz ∧ blk2.es.length = blk.es.length ∧
    ∀ (i : Nat) (e e2 : AV), blk.es[i]? = some e → blk2.es[i]? = some e2 → e.cells.length = e2.cells.length ∧ ∀ (k' : Nat) (c c2 : AV), e.cells[k']? = some c → e2.cells[k']? = some c2 → Pub H k c c2) : Sel m (pre k) id H H2 :=
  ⟨fun b h => pre_lt (by omega), fun j hj => ⟨show j < H.length by omega, pre_lt (show j < k by omega)⟩, (fun b j hb h => by
    unfold Ab.pre at h
    split at h
    · injection h with h; subst h; exact ⟨rfl, by omega⟩
    · cases h), hb⟩
theorem Wk.trim {n : Fr} {E E2 : Env} (k : Nat) (hm : n.m ≤ k) (h : ∀ p ∈ E2, Pub H k (lk E p.1) p.2) (hc : ∀ blk ∈ H.take k, ∀ e ∈ blk.es, ∀ c ∈ e.cells, Pub H k c c) : Wk n ⟨E, H⟩ ⟨E2, H.take k⟩ := by
  rcases Nat.le_total k H.length with hk | hk
  · refine Wk.sel (r := Ab.pre k) (q := id) (.pre hk hm (by simp; omega) fun j blk blk2 h1 h2 => ?_) h
    have hj : j < k := by have := (List.getElem?_eq_some_iff.1 h2).1; simp at this; omega
    have hmem := List.mem_of_getElem? h2
    rw [List.getElem?_take, if_pos hj, h1] at h2
    injection h2 with h2; subst h2
    exact ⟨rfl, rfl, rfl, fun i e e2 he he2 => by
      rw [he] at he2; injection he2 with he2; subst he2
      exact ⟨rfl, fun k' c c2 hc1 hc2 => by
        rw [hc1] at hc2; injection hc2 with hc2; subst hc2
        exact hc blk hmem e (List.mem_of_getElem? he) c (List.mem_of_getElem? hc1)⟩⟩
  · intro w0 O ι a w hs
    have e : H.take k = H := List.take_of_length_le hk
    rw [e]
    have v : View (Ab.pre k) ι ι H H := ⟨(fun b j blk hr hb => by
        unfold Ab.pre at hr
        split at hr
        · injection hr with hr; subst hr; exact ⟨blk, hb, rfl, rfl, rfl⟩
        · cases hr), fun j x hj hx => ⟨j, hj, pre_lt (by omega), hx⟩⟩
    exact ⟨ι, hs.sit, hs.defers, hs.size, hs.hand, fun t => by
      rcases lk_mem E2 t with h1 | ⟨p, hp, h1, h2⟩
      · show VR _ _ _ _ (lk E2 t) _; rw [h1]; exact .bad _
      · show VR _ _ _ _ (lk E2 t) _; rw [h2]; subst h1; exact h p hp H w0 w O ι ι _ hs.sit v (hs.vals p.1)⟩
end

section
variable {H : List ABlk} {k : Nat}
theorem Wk.nil {n : Fr} {E E2 : Env} (ty sz : Nat) (h : ∀ p ∈ E2, Le (lk E p.1) p.2 ∨ (lk E p.1 = .base (.slice none 0 0) ∧ p.2 = .own H.length 0 0 0)) : Wk n ⟨E, H⟩ ⟨E2, H ++ [⟨ty, sz, []⟩]⟩ := fun w0 O ι a w hs => by
  let ι2 : Nat → Option Nat := fun b => if b = H.length then none else ι b
  have hlt : ∀ b blk, H[b]? = some blk → (H ++ [⟨ty, sz, []⟩])[b]? = some blk ∧ ι2 b = ι b := fun b blk hb => by
    have : b < H.length := (List.getElem?_eq_some_iff.1 hb).1
    exact ⟨by rw [List.getElem?_append_left this]; exact hb, if_neg (by omega)⟩
  have hinv : ∀ b x, b < (H ++ [(⟨ty, sz, []⟩ : ABlk)]).length → ι2 b = some x → b < H.length ∧ ι b = some x := fun b x hb hx => by
    simp only [List.length_append, List.length_singleton] at hb
    by_cases e : b = H.length
    · simp [ι2, e] at hx
    · exact ⟨by omega, by simpa [ι2, e] using hx⟩
  have hOO : ∀ x, OO O ι2 (H ++ [⟨ty, sz, []⟩]) x → OO O ι H x := by
    rintro x (h | ⟨b, hb, hx⟩)
    · exact .inl h
    · obtain ⟨h1, h2⟩ := hinv b x hb hx; exact .inr ⟨b, h1, h2⟩
  have g : Goes w (OO O ι H) ι H w (OO O ι2 (H ++ [⟨ty, sz, []⟩])) ι2 (H ++ [⟨ty, sz, []⟩]) :=
    ⟨fun _ _ _ h => h, fun _ _ h _ h' => h (hOO _ h'), fun b blk hb => ⟨blk, (hlt b blk hb).1, Nat.le_refl _, fun _ => ⟨rfl, (hlt b blk hb).2⟩⟩,
     fun b x blk blk' c ty fz _ _ _ _ h => ⟨c, ty, fz, h, rfl⟩⟩
  have hinv2 : ∀ b blk x, (H ++ [(⟨ty, sz, []⟩ : ABlk)])[b]? = some blk → ι2 b = some x → H[b]? = some blk ∧ ι b = some x := fun b blk x hb hx => by
    obtain ⟨h1, h2⟩ := hinv b x (List.getElem?_eq_some_iff.1 hb).1 hx
    rw [List.getElem?_append_left h1] at hb
    exact ⟨hb, h2⟩
  refine ⟨ι2, ⟨fun b blk x hb hx => ?_, fun b blk hb hx => ?_, fun b b' x hb hb' hx hx' => ?_, hs.sit.below, hs.sit.old, fun x b hO hb hx => ?_, hs.sit.hist.trans g.grow⟩, hs.defers, hs.size, hs.hand, fun t => ?_⟩
  · obtain ⟨h1, h2⟩ := hinv2 b blk x hb hx
    obtain ⟨h3, h4⟩ := hs.sit.heap b blk x h1 h2
    exact ⟨h3, h4.mono g rfl⟩
  · by_cases e : b < H.length
    · rw [List.getElem?_append_left e] at hb
      exact hs.sit.empt b blk hb (by rw [← (hlt b blk hb).2]; exact hx)
    · rw [List.getElem?_append_right (by omega)] at hb
      cases hd : b - H.length with
      | zero => rw [hd] at hb; simp at hb; subst hb; rfl
      | succ m => rw [hd] at hb; simp at hb
  · obtain ⟨h1, h2⟩ := hinv b x hb hx
    obtain ⟨h3, h4⟩ := hinv b' x hb' hx'
    exact hs.sit.inj b b' x h1 h3 h2 h4
  · obtain ⟨h1, h2⟩ := hinv b x hb hx
    exact hs.sit.disj x b hO h1 h2
  · rcases lk_mem E2 t with h1 | ⟨p, hp, h1, h2⟩
    · show VR _ _ _ _ (lk E2 t) _; rw [h1]; exact .bad _
    · show VR _ _ _ _ (lk E2 t) _
      rw [h2]; subst h1
      have hv := hs.vals p.1
      rcases h p hp with h | ⟨h3, h4⟩
      · exact h _ _ _ _ _ (hv.mono g)
      · rw [show lk (⟨E, H⟩ : ASt).env p.1 = lk E p.1 from rfl, h3] at hv
        have := hv.base_inv
        rw [h4, this]
        exact .ownNil _ ⟨ty, sz, []⟩ (by simp) rfl (if_pos rfl)
end

/-! ### functions -/
def ldPtr (P : Program) (H : List ABlk) (t : TypeId) : AV → Option AV
  | .ptr b tot i off => match H[b]? with
    | some blk => if blk.es.length = tot then match blk.es[i]? with
      | some e => ldE (aggTy P t) (szTy P t) e off
      | none => none else none
    | none => none
  | _ => none

def resVal (P : Program) (s : ASt) : ResultVar → Option AV
  | .tmp t => some (lk s.env t)
  | .cell a t => ldPtr P s.H t (lk s.env a)

def resVals (P : Program) (s : ASt) : List ResultVar → Option (List AV)
  | [] => some []
  | r :: rs => match resVal P s r, resVals P s rs with
    | some v, some vs => some (v :: vs)
    | _, _ => none

def packA : List AV → AV
  | [v] => v
  | vs => .tup vs

def Ret (P : Program) (rs : List ResultVar) (d : AV) (s : ASt) : Prop := ∃ vs, resVals P s rs = some vs ∧ Pub s.H 0 (packA vs) d

def retQ (P : Program) (rs : List ResultVar) (d : AV) : Exit → ASt → Prop
  | .normal, s | .ret, s => Ret P rs d s
  | _, _ => False

def resF (tmps : Array Value) : ResultVar → Sem Value
  | .tmp t => pure (tmps.getD t undef)
  | .cell a t => do loadVar t (← asAddr (tmps.getD a undef))

section
variable {P : Program} {w : World} {w0 : Base} {O : Nat → Prop} {ι : Nat → Option Nat} {n : Fr}

theorem resVal_run {s : ASt} {a : Act} (hs : SR n w0 O s ι a w) {r : ResultVar} {v : AV} (h : resVal P s r = some v) :
    ∃ u, (resF a.tmps r).run P w = .ok u w ∧ VR w (OO O ι s.H) ι s.H v u := by
  cases r with
  | tmp t =>
    simp only [resVal] at h
    injection h with h; subst h
    exact ⟨_, rfl, hs.vals t⟩
  | cell b t =>
    simp only [resVal] at h
    have h1 := hs.vals b
    generalize lk s.env b = A at h h1
    unfold ldPtr at h
    split at h
    · split at h
      · rename_i blk hb
        split at h
        · rename_i ht
          split at h
          · rename_i e he
            obtain ⟨y, hy, h2, h3⟩ := h1.ptr_inv hs.sit hb ht he
            obtain ⟨u, hu, hvu⟩ := ldE_run (P := P) h h3
            exact ⟨u, by simp only [resF, Sem.run_bind, h2, asAddr, Sem.run_pure, Result.andThen_ok, hu], hvu⟩
          · cases h
        · cases h
      · cases h
    · cases h

theorem results_run {s : ASt} {a : Act} (hs : SR n w0 O s ι a w) {fn : Func} {vs : List AV} (h : resVals P s fn.results.toList = some vs) :
    ∃ u, (results fn a.tmps).run P w = .ok u w ∧ VR w (OO O ι s.H) ι s.H (packA vs) u := by
  have key : ∀ (rs : List ResultVar) (vs : List AV), resVals P s rs = some vs → ∃ us : List Value, us.length = vs.length ∧ (∀ (j : Nat) (c : AV) (u : Value), vs[j]? = some c → us[j]? = some u → VR w (OO O ι s.H) ι s.H c u) ∧
      (rs.mapM (resF a.tmps)).run P w = .ok us w := by
    intro rs
    induction rs with
    | nil => intro vs h; simp only [resVals] at h; injection h with h; subst h; exact ⟨[], rfl, by simp, rfl⟩
    | cons r rs ih =>
      intro vs h
      simp only [resVals] at h
      split at h
      · rename_i v vs' hv hvs
        injection h with h; subst h
        obtain ⟨us, h1, h2, h3⟩ := ih vs' hvs
        obtain ⟨u, h4, h5⟩ := resVal_run hs hv
        refine ⟨u :: us, by simp [h1], fun j c u' hc hu => ?_, ?_⟩
        · cases j with
          | zero => simp at hc hu; subst hc; subst hu; exact h5
          | succ j => exact h2 j c u' (by simpa using hc) (by simpa using hu)
        · rw [List.mapM_cons]
          simp only [Sem.run_bind, h3, h4, Result.andThen_ok, Sem.run_pure]
      · cases h
  obtain ⟨us, h1, h2, h3⟩ := key _ vs h
  have hres : results fn a.tmps = (fn.results.mapM (resF a.tmps) >>= fun vs => pure (if h : vs.size = 1 then vs[0] else .tuple vs)) := rfl
  rw [hres, Array.mapM_eq_mapM_toList]
  simp only [bind_map_left, Sem.run_bind, h3, Result.andThen_ok, Sem.run_pure]
  refine ⟨_, rfl, ?_⟩
  match vs, us, h1, h2 with
  | [v], [u], _, h2 => exact h2 0 v u rfl rfl
  | [], [], _, h2 => exact .tup [] #[] rfl (by simp)
  | v :: v2 :: vs, u :: u2 :: us, h1, h2 =>
    rw [dif_neg (by simp)]
    exact .tup _ _ (by simp at h1 ⊢; exact h1) fun j c u hc hu => h2 j c u hc (by simpa using hu)

theorem FnM.introE {m : List (Addr × Value)} (X : Env) (hX : X = [] ∨ X = [(memSlot, .mem m)]) {f : FuncId} {fn : Func} {c : Code} {args : List AV} {d : AV} (hf : P.funcs[f]? = some fn) (hn : (fn.name == "runtime.NumGoroutine") = false) (hb : fn.body = some c) (ha : args.length ≤ fn.ntmps)
    (h : AWp P ⟨fn.ntmps, 0⟩ c (retQ P fn.results.toList d) ⟨(args.zipIdx.map fun (a, i) => (i, a)) ++ X, []⟩) (hms : X = [] ∨ fn.ntmps ≤ memSlot) : FnM P m f args d := by
  refine ⟨⟨fn, hf, hn, by rw [hb]; rfl⟩, fun w O vs hmem hO hl hv => ?_⟩
  refine calls_of_wp hf hb ?_
  have hlk : ∀ (l : List AV) (k t : Nat), lk ((l.zipIdx k).map (fun (a, i) => (i, a)) ++ X) t = if k ≤ t ∧ t < k + l.length then (l[t - k]?).getD .bad else lk X t := by
    intro l
    induction l with
    | nil => intro k t; simp; intro h1 h2; omega
    | cons x l ih =>
      intro k t
      simp only [List.zipIdx_cons, List.map_cons, List.cons_append, lk, ih, List.length_cons]
      split
      · rename_i e; subst e; simp
      · rename_i e
        by_cases hlt : k ≤ t ∧ t < k + (l.length + 1)
        · rw [if_pos (by omega), if_pos hlt, show t - k = (t - (k + 1)) + 1 by omega]; rfl
        · rw [if_neg (by omega), if_neg hlt]
  have hs : SR ⟨fn.ntmps, 0⟩ (base0 w) O ⟨args.zipIdx.map (fun (a, i) => (i, a)) ++ X, []⟩ noB { tmps := vs ++ Array.replicate (fn.ntmps - vs.size) undef, defers := [] } w := by
    refine ⟨⟨fun b blk x h => by simp at h, fun b blk h => by simp at h, fun b b' x h => by simp at h, Bel.refl .., hO, fun x b _ h => by simp at h, .refl ..⟩, rfl, by simp; omega, rfl, fun t => ?_⟩
    show VR _ _ _ _ (lk (args.zipIdx.map (fun (a, i) => (i, a)) ++ X) t) _
    rw [hlk args 0 t]
    split
    · rename_i htt
      simp only [Nat.sub_zero]
      have htl : t < args.length := by omega
      rw [List.getElem?_eq_getElem htl, Option.getD_some]
      have hu : vs[t]? = some vs[t] := Array.getElem?_eq_getElem (by omega)
      have h1 := hv t _ _ (List.getElem?_eq_getElem htl) hu
      rw [Array.getD_eq_getD_getElem?, Array.getElem?_append_left (by omega), hu]
      refine h1.lessO fun y hy => ?_
      rcases hy with hy | ⟨b, hb, _⟩
      · exact hy
      · simp at hb
    · rcases hX with rfl | rfl
      · exact .bad _
      · show VR _ _ _ _ (if memSlot = t then AV.mem m else .bad) _
        split
        · refine .mem _ _ fun p hp => ⟨fun hO' => ?_, (hmem p hp).2⟩
          rcases hO' with hO' | ⟨b, hb, _⟩
          · exact (hmem p hp).1 hO'
          · simp at hb
        · exact .bad _
  refine wp_mono (h (base0 w) O noB _ w hs) ?_
  have fin : ∀ (s' : ASt) (ι' : Nat → Option Nat) (a : Act) (w' : World), Ret P fn.results.toList d s' → SR ⟨fn.ntmps, 0⟩ (base0 w) O s' ι' a w' →
      a.defers = [] ∧ ∃ v, (results fn a.tmps).run P w' = .ok v w' ∧ ∃ v', Ending.returned v = .returned v' ∧ VR w' O noB [] d v' ∧ Below w.heap.size w w' := by
    rintro s' ι' a w' ⟨rs, h1, h2⟩ hs'
    obtain ⟨u, h3, h4⟩ := results_run hs' h1
    refine ⟨hs'.defers, u, h3, u, rfl, ?_, hs'.sit.below.below⟩
    have h5 := h2 [] (base0 w) w' O ι' ι' u hs'.sit ⟨fun b j blk hr => by simp [pre] at hr, fun j x hj => by simp at hj⟩ h4
    have h6 : VR w' O ι' [] d u := h5.lessO fun x hx => .inl hx
    exact h6.mono ⟨fun _ _ _ h => h, fun _ _ h _ => h, fun b blk h => by simp at h, fun b x blk blk' c ty fz h => by simp at h⟩
  rintro e a w' ⟨s', ι', h1, h2⟩
  cases e with
  | normal => exact fin s' ι' a w' h1 h2
  | ret => exact fin s' ι' a w' h1 h2
  | _ => exact h1.elim
theorem FnM.intro {m : List (Addr × Value)} {f : FuncId} {fn : Func} {c : Code} {args : List AV} {d : AV} (hf : P.funcs[f]? = some fn) (hn : (fn.name == "runtime.NumGoroutine") = false) (hb : fn.body = some c) (ha : args.length ≤ fn.ntmps)
    (h : AWp P ⟨fn.ntmps, 0⟩ c (retQ P fn.results.toList d) ⟨(args.zipIdx.map fun (a, i) => (i, a)) ++ [(memSlot, .mem m)], []⟩) (hms : fn.ntmps ≤ memSlot) : FnM P m f args d := .introE _ (.inr rfl) hf hn hb ha h (.inr hms)
theorem Fn.intro {f : FuncId} {fn : Func} {c : Code} {args : List AV} {d : AV} (hf : P.funcs[f]? = some fn) (hn : (fn.name == "runtime.NumGoroutine") = false) (hb : fn.body = some c) (ha : args.length ≤ fn.ntmps)
    (h : AWp P ⟨fn.ntmps, 0⟩ c (retQ P fn.results.toList d) ⟨args.zipIdx.map fun (a, i) => (i, a), []⟩) : Fn P f args d := .introE [] (.inl rfl) hf hn hb ha (by rw [List.append_nil]; exact h) (.inl rfl)
end
end Go.Ab
namespace Go.Ab
open Go Go.RowKit

section
variable {P : Program} {H : List ABlk} {ρ : Operand → AV}

theorem ql_call {c : Call} {fx : Operand} {f : FuncId} {caps : List AV} {d : AV} (hc : c.callee = .value fx)
    (hf : ρ fx = .clo f caps) (hp : ∀ a ∈ c.args.toList.map ρ ++ caps, Pu a) {m : List (Addr × Value)} (h : FnM P m f (c.args.toList.map ρ ++ caps) d) (hm : MemIn m ρ := by exact .inl rfl) : QL P H ρ (.call c) d :=
  fun o ho => q_call ho hc hf hp h hm

theorem ql_fun {op : Op} {v : AV} (h : qfun P H ρ op = some v) : QL P H ρ op v := fun o ho => qfun_sound (by rw [ho]; exact h)

theorem QL.of_run {op : Op} {v : AV}
    (h : ∀ (w0 : Base) (O : Nat → Prop) (ι : Nat → Option Nat) (a : Act) (w : World), Sit w0 O ι H w →
      (∀ x, x ∈ op.operands → VR w (OO O ι H) ι H (ρ x) (a.eval x)) → ∀ o : Oper, o.op = op → ∃ u, (execOp a.eval o).run P w = .ok (.value u) w ∧ VR w (OO O ι H) ι H v u) : QL P H ρ op v :=
  fun o ho => QOp.of_run fun w0 O ι a w hs hv => h w0 O ι a w hs (by rw [← ho]; exact hv) o ho

theorem sizeOf_run {w : World} {t : TypeId} {n : Nat} (h : szTy P t = some n) : (sizeOf t).run P w = .ok n w := by
  unfold szTy at h
  cases hi : P.info? t with
  | none => simp [hi] at h
  | some i => simp [hi] at h; simp [sizeOf, typeInfo, hi, h]

theorem add_eq (a : Addr) (n : Nat) (h : a.spot = none) : a.add n = ⟨a.block, a.off + n, none⟩ := by
  unfold Addr.add
  split
  · rename_i h0; cases a; simp_all
  · rfl

theorem ql_indexAddr_lst {t el : TypeId} {x i : Operand} {k : IntKind} {n : Int} {es : List AV} {e : AV} (hx : ρ x = .lst es) (hi : ρ i = .base (.int k n)) (ht : P.underlying t = some (.slice el))
    (h0 : 0 ≤ n) (he : es[n.toNat]? = some e) (hsz : szTy P el = some e.cells.length) : QL P H ρ (.indexAddr t x i) (.iptr e 0) := by
  refine QL.of_run fun w0 O ι a w hs hv o ho => ?_
  have h1 := hv x (by simp [Op.operands])
  have h2 := hv i (by simp [Op.operands])
  rw [hx] at h1
  rw [hi] at h2
  have h2 := h2.base_inv
  generalize hX : a.eval x = X at h1
  have hlt : n.toNat < es.length := (List.getElem?_eq_some_iff.1 he).1
  cases h1 with
  | lnil => simp at hlt
  | lst es ad m cap s val hn hcap hmax hlen hspot hc hvv =>
    have hmem : e ∈ es := List.mem_of_getElem? he
    have hs' := hlen e hmem
    have hsp := hspot e hmem
    refine ⟨.pointer (some (ad.add (n.toNat * e.cells.length))), ?_, ?_⟩
    · have hb : 0 ≤ n ∧ n < (m : Int) := ⟨h0, by omega⟩
      simp only [execOp, ho, hX, h2, Instr.indexAt, asIntOf_run, run_underlying ht, sizeOf_run hsz, Sem.run_bind, Sem.run_pure, Result.andThen_ok, Sem.run_ite, if_pos hb]
    · rw [add_eq _ _ hsp]
      refine .iptr e 0 _ (val n.toNat) rfl (Nat.zero_le _) (fun j c hj => ?_) fun j c hj => hvv _ _ _ _ he hj
      have := hc _ _ _ _ he hj
      rw [hs']
      exact this

theorem ql_indexAddr_own {t el : TypeId} {x i : Operand} {k : IntKind} {n : Int} {b tot off len : Nat} {blk : ABlk} (hx : ρ x = .own b tot off len) (hi : ρ i = .base (.int k n)) (ht : P.underlying t = some (.slice el))
    (hb : H[b]? = some blk) (htot : blk.es.length = tot) (h0 : 0 ≤ n) (hn : n < len) (hsz : szTy P el = some blk.sz) : QL P H ρ (.indexAddr t x i) (.ptr b tot (off + n.toNat) 0) := by
  refine QL.of_run fun w0 O ι a w hs hv o ho => ?_
  have h1 := hv x (by simp [Op.operands])
  have h2 := hv i (by simp [Op.operands])
  rw [hx] at h1
  rw [hi] at h2
  have h2 := h2.base_inv
  generalize hX : a.eval x = X at h1
  cases h1 with
  | staleOwn b tot off len blk' a n c hb' hlt => rw [hb] at hb'; cases hb'; omega
  | ownNil b blk' hb' he hi' => omega
  | own b tot off len blk' y m cap ad hb' ht' hi' hn' hl hcap ha =>
    rw [hb] at hb'; cases hb'
    obtain ⟨rfl, _, cc, cty, cfz, hcc, _⟩ := ha (.inl (by omega))
    refine ⟨.pointer (some ⟨y, off * blk.sz + n.toNat * blk.sz, none⟩), ?_, ?_⟩
    · have hbd : 0 ≤ n ∧ n < (m : Int) := ⟨h0, by omega⟩
      have hadd := add_eq ⟨y, off * blk.sz, none⟩ (n.toNat * blk.sz) rfl
      simp only [execOp, ho, hX, h2, Instr.indexAt, asIntOf_run, run_underlying ht, sizeOf_run hsz, Sem.run_bind, Sem.run_pure, Result.andThen_ok, Sem.run_ite, if_pos hbd, hadd]
    · rw [← Nat.add_mul]
      exact .ptr b tot (off + n.toNat) 0 blk y hb ht' hi' ⟨cc, cty, cfz, hcc⟩

theorem ql_indexAddr_iptr {t el : TypeId} {x i : Operand} {k : IntKind} {n : Int} {e : AV} {off len sz : Nat} (hx : ρ x = .iptr e off) (hi : ρ i = .base (.int k n)) (ht : P.underlying t = some (.array len el))
    (h0 : 0 ≤ n) (hn : n < len) (hsz : szTy P el = some sz) : QL P H ρ (.indexAddr t x i) (.iptr e (off + n.toNat * sz)) := by
  refine QL.of_run fun w0 O ι a w hs hv o ho => ?_
  have h1 := hv x (by simp [Op.operands])
  have h2 := hv i (by simp [Op.operands])
  rw [hx] at h1
  rw [hi] at h2
  have h2 := h2.base_inv
  generalize hX : a.eval x = X at h1
  cases h1 with
  | iptr e off ad val hsp hoff hc hvv =>
    refine ⟨.pointer (some ⟨ad.block, ad.off + n.toNat * sz, none⟩), ?_, ?_⟩
    · have hbd : 0 ≤ n ∧ n < (len : Int) := ⟨h0, hn⟩
      have hadd := add_eq ad (n.toNat * sz) hsp
      simp only [execOp, ho, hX, h2, Instr.indexAt, asIntOf_run, run_underlying ht, sizeOf_run hsz, Sem.run_bind, Sem.run_pure, Result.andThen_ok, Sem.run_ite, if_pos hbd, hadd, Instr.sureAddr]
    · exact .iptr e _ _ val rfl (by simp; omega) (fun j c hj => by have := hc j c hj; rw [show ad.off + n.toNat * sz - (off + n.toNat * sz) = ad.off - off by omega]; exact this) hvv

theorem ql_indexAddr_ptr {t el : TypeId} {x i : Operand} {k : IntKind} {n : Int} {b tot i0 off len sz : Nat} (hx : ρ x = .ptr b tot i0 off) (hf : fresh H b tot = true) (hi : ρ i = .base (.int k n)) (ht : P.underlying t = some (.array len el))
    (h0 : 0 ≤ n) (hn : n < len) (hsz : szTy P el = some sz) : QL P H ρ (.indexAddr t x i) (.ptr b tot i0 (off + n.toNat * sz)) := by
  refine QL.of_run fun w0 O ι a w hs hv o ho => ?_
  have h1 := hv x (by simp [Op.operands])
  have h2 := hv i (by simp [Op.operands])
  rw [hx] at h1
  rw [hi] at h2
  have h2 := h2.base_inv
  obtain ⟨y, blk, hy, hb, ht', hX, hcx⟩ := h1.ptr_fresh hf
  refine ⟨.pointer (some ⟨y, i0 * blk.sz + (off + n.toNat * sz), none⟩), ?_, .ptr b tot i0 _ blk y hb ht' hy hcx⟩
  have hbd : 0 ≤ n ∧ n < (len : Int) := ⟨h0, hn⟩
  have hadd := add_eq ⟨y, i0 * blk.sz + off, none⟩ (n.toNat * sz) rfl
  simp only [execOp, ho, hX, h2, Instr.indexAt, asIntOf_run, run_underlying ht, sizeOf_run hsz, Sem.run_bind, Sem.run_pure, Result.andThen_ok, Sem.run_ite, if_pos hbd, hadd, Instr.sureAddr, Nat.add_assoc]

theorem ql_index_arr {t el : TypeId} {x i : Operand} {k : IntKind} {n : Int} {cs : List AV} {v : AV} {len sz : Nat} (hx : ρ x = .agg cs) (hi : ρ i = .base (.int k n)) (ht : P.underlying t = some (.array len el))
    (h0 : 0 ≤ n) (hn : n < len) (hsz : szTy P el = some sz) (hv' : ldE (aggTy P el) (some sz) (.agg cs) (n.toNat * sz) = some v) : QL P H ρ (.index t x i) v := by
  refine QL.of_run fun w0 O ι a w hs hv o ho => ?_
  have h1 := hv x (by simp [Op.operands])
  have h2 := hv i (by simp [Op.operands])
  rw [hx] at h1
  rw [hi] at h2
  have h2 := h2.base_inv
  obtain ⟨arr, hX, h3, h4⟩ := h1.agg_inv
  obtain ⟨u, hr, hvu⟩ := part_run (P := P) h3 h4 (by rw [hsz]; exact hv')
  have hbd : 0 ≤ n ∧ n < (len : Int) := ⟨h0, hn⟩
  exact ⟨u, by simp only [execOp, ho, hX, h2, Instr.index, asIntOf_run, run_underlying ht, sizeOf_run hsz, Sem.run_bind, Sem.run_pure, Result.andThen_ok, Sem.run_ite, if_pos hbd, hr], hvu⟩

theorem ql_index_str {t : TypeId} {x i : Operand} {k : IntKind} {n : Int} {s : ByteArray} {c : UInt8} (hx : ρ x = .base (.string s)) (hi : ρ i = .base (.int k n)) (ht : P.underlying t = some .string)
    (h0 : 0 ≤ n) (hc : s[n.toNat]? = some c) : QL P H ρ (.index t x i) (.base (.int .u8 c.toNat)) := by
  refine QL.of_run fun w0 O ι a w hs hv o ho => ?_
  have h1 := hv x (by simp [Op.operands])
  have h2 := hv i (by simp [Op.operands])
  rw [hx] at h1
  rw [hi] at h2
  have h2 := h2.base_inv
  have h1 := h1.base_inv
  exact ⟨_, by simp only [execOp, ho, h1, h2, Instr.index, asIntOf_run, run_underlying ht, Sem.run_bind, Sem.run_pure, Result.andThen_ok, if_pos h0, hc], .base _⟩

/-! ### slices -/
def bnd (ρ : Operand → AV) (d : Nat) : Option Operand → Option Nat
  | none => some d
  | some x => match ρ x with
    | .base (.int _ n) => if 0 ≤ n then some n.toNat else none
    | _ => none

theorem sliceBound_run {w : World} {k : IntKind} {n : Int} {y : Nat} {code : BoundsCode} (h0 : 0 ≤ n) (h : n ≤ y) : (Instr.sliceBound (.int k n) y code).run P w = .ok n.toNat w := by
  simp only [Instr.sliceBound, asIntOf_run, Sem.run_bind, Result.andThen_ok, Sem.run_ite, if_pos (And.intro h0 h), Sem.run_pure]

theorem sliceBounds_run {w : World} {a : Act} {O : Nat → Prop} {ι : Nat → Option Nat} {isSl : Bool} {len cap l h : Nat} {lo hi : Option Operand} (hv : ∀ x, (lo = some x ∨ hi = some x) → VR w O ι H (ρ x) (a.eval x))
    (hlo : bnd ρ 0 lo = some l) (hhi : bnd ρ len hi = some h) (hlh : l ≤ h) (hc : h ≤ cap) : (Instr.sliceBounds isSl len cap (lo.map a.eval) (hi.map a.eval) none).run P w = .ok (l, h, cap) w := by
  have hl : ∀ x, lo = some x → ∃ k n, a.eval x = .int k n ∧ 0 ≤ n ∧ l = n.toNat := by
    intro x hx
    subst hx
    simp only [bnd] at hlo
    split at hlo
    · rename_i k n hρ
      split at hlo
      · rename_i h0
        injection hlo with hlo
        have := hv x (.inl rfl); rw [hρ] at this
        exact ⟨k, n, this.base_inv, h0, hlo.symm⟩
      · cases hlo
    · cases hlo
  have hh : ∀ x, hi = some x → ∃ k n, a.eval x = .int k n ∧ 0 ≤ n ∧ h = n.toNat := by
    intro x hx
    subst hx
    simp only [bnd] at hhi
    split at hhi
    · rename_i k n hρ
      split at hhi
      · rename_i h0
        injection hhi with hhi
        have := hv x (.inr rfl); rw [hρ] at this
        exact ⟨k, n, this.base_inv, h0, hhi.symm⟩
      · cases hhi
    · cases hhi
  unfold Instr.sliceBounds
  cases hi with
  | none =>
    simp only [bnd] at hhi
    injection hhi with hhi
    cases lo with
    | none =>
      simp only [bnd] at hlo
      injection hlo with hlo
      subst hlo; subst hhi
      simp only [Option.map_none, Sem.run_bind, Sem.run_pure, Result.andThen_ok]
    | some x =>
      obtain ⟨k, n, h1, h2, h3⟩ := hl x rfl
      subst hhi; subst h3
      simp only [Option.map_none, Option.map_some, Sem.run_bind, Sem.run_pure, Result.andThen_ok, h1, sliceBound_run h2 (show n ≤ (len : Int) by omega)]
  | some y =>
    obtain ⟨k', n', h1', h2', h3'⟩ := hh y rfl
    subst h3'
    cases lo with
    | none =>
      simp only [bnd] at hlo
      injection hlo with hlo
      subst hlo
      simp only [Option.map_none, Option.map_some, Sem.run_bind, Sem.run_pure, Result.andThen_ok, h1', sliceBound_run h2' (show n' ≤ (cap : Int) by omega)]
    | some x =>
      obtain ⟨k, n, h1, h2, h3⟩ := hl x rfl
      subst h3
      simp only [Option.map_some, Sem.run_bind, Sem.run_pure, Result.andThen_ok, h1, h1', sliceBound_run h2' (show n' ≤ (cap : Int) by omega), sliceBound_run h2 (show n ≤ (n'.toNat : Int) by omega)]

theorem ql_slice_lst {t el : TypeId} {x : Operand} {lo hi : Option Operand} {es : List AV} {l h sz : Nat} (hx : ρ x = .lst es) (ht : P.underlying t = some (.slice el)) (hlo : bnd ρ 0 lo = some l) (hhi : bnd ρ es.length hi = some h)
    (hlh : l ≤ h) (hh : h ≤ es.length) (hsz : szTy P el = some sz) (hes : ∀ e ∈ es, e.cells.length = sz) : QL P H ρ (.slice t x lo hi none) (.lst ((es.drop l).take (h - l))) := by
  refine QL.of_run fun w0 O ι a w hs hv o ho => ?_
  have h1 := hv x (by simp [Op.operands])
  have hv2 : ∀ y, (lo = some y ∨ hi = some y) → VR w (OO O ι H) ι H (ρ y) (a.eval y) := by
    rintro y (rfl | rfl) <;> exact hv y (by simp [Op.operands])
  rw [hx] at h1
  generalize hX : a.eval x = X at h1
  cases h1 with
  | lnil =>
    simp only [List.length_nil] at hhi hh
    have hr := sliceBounds_run (P := P) (cap := 0) (isSl := true) hv2 hlo hhi hlh (by omega)
    have : l = 0 := by omega
    have : h = 0 := by omega
    subst l; subst h
    refine ⟨.slice none 0 0, ?_, by simpa using VR.lnil⟩
    simp only [execOp, ho, hX, Instr.sliceAt, run_underlying ht, Instr.slice, Option.map_none, hr, sizeOf_run hsz, Sem.run_bind, Sem.run_pure, Result.andThen_ok, if_true, Nat.sub_zero]
  | lst es ad m cap s val hn hcap hmax hlen hspot hc hvv =>
    subst hn
    have hr := sliceBounds_run (P := P) (cap := cap) (isSl := true) hv2 hlo hhi hlh (by omega)
    have hmem : ∀ e, e ∈ (es.drop l).take (h - l) → e ∈ es := fun e he => List.mem_of_mem_drop (List.mem_of_mem_take he)
    have hget : ∀ i e, ((es.drop l).take (h - l))[i]? = some e → es[l + i]? = some e := by
      intro i e he
      rw [List.getElem?_take] at he
      split at he
      · rwa [List.getElem?_drop] at he
      · cases he
    by_cases hcl : cap = l
    · refine ⟨.slice (some ad) (h - l) (cap - l), ?_, ?_⟩
      · simp only [execOp, ho, hX, Instr.sliceAt, run_underlying ht, Instr.slice, Option.map_none, hr, sizeOf_run hsz, Sem.run_bind, Sem.run_pure, Result.andThen_ok, if_pos hcl]
      · have : (es.drop l).take (h - l) = [] := by simp; omega
        rw [this]
        exact .lst [] ad _ _ 0 (fun _ _ => undef) (by simp; omega) (by omega) (by have : 0 ≤ maxLen := Nat.zero_le _; omega) (by simp) (by simp) (by simp) (by simp)
    · refine ⟨.slice (some (ad.add (l * sz))) (h - l) (cap - l), ?_, ?_⟩
      · simp only [execOp, ho, hX, Instr.sliceAt, run_underlying ht, Instr.slice, Option.map_none, hr, sizeOf_run hsz, Sem.run_bind, Sem.run_pure, Result.andThen_ok, if_neg hcl, Option.map_some]
      · refine .lst _ _ _ _ sz (fun i j => val (l + i) j) (by simp; omega) (by omega) (by omega) (fun e he => hes e (hmem e he)) (fun e he => ?_) (fun i j e c he hj => ?_) fun i j e c he hj => hvv _ _ _ _ (hget i e he) hj
        · rw [add_eq _ _ (hspot e (hmem e he))]
        · have he' := hget i e he
          have hs' : s = sz := by rw [← hlen e (List.mem_of_getElem? he'), hes e (List.mem_of_getElem? he')]
          have := hc _ _ _ _ he' hj
          rw [add_eq _ _ (hspot e (List.mem_of_getElem? he'))]
          rw [hs', Nat.add_mul, ← Nat.add_assoc] at this
          exact this

theorem ql_slice_str {t : TypeId} {x : Operand} {lo hi : Option Operand} {s : ByteArray} {l h : Nat} (hx : ρ x = .base (.string s)) (ht : P.underlying t = some .string) (hlo : bnd ρ 0 lo = some l) (hhi : bnd ρ s.size hi = some h)
    (hlh : l ≤ h) (hh : h ≤ s.size) : QL P H ρ (.slice t x lo hi none) (.base (.string (s.extract l h))) := by
  refine QL.of_run fun w0 O ι a w hs hv o ho => ?_
  have h1 := hv x (by simp [Op.operands])
  have hv2 : ∀ y, (lo = some y ∨ hi = some y) → VR w (OO O ι H) ι H (ρ y) (a.eval y) := by
    rintro y (rfl | rfl) <;> exact hv y (by simp [Op.operands])
  rw [hx] at h1
  have h1 := h1.base_inv
  have hr := sliceBounds_run (P := P) (cap := s.size) (isSl := false) hv2 hlo hhi hlh hh
  exact ⟨_, by simp only [execOp, ho, h1, Instr.sliceAt, run_underlying ht, Instr.slice, Option.map_none, Option.isSome_none, Bool.false_eq_true, if_false, hr, Sem.run_bind, Sem.run_pure, Result.andThen_ok], .base _⟩

theorem ql_slice_nil {t el : TypeId} {x : Operand} {lo hi : Option Operand} {sz : Nat} (hx : ρ x = .base (.slice none 0 0)) (ht : P.underlying t = some (.slice el)) (hlo : bnd ρ 0 lo = some 0) (hhi : bnd ρ 0 hi = some 0) (hsz : szTy P el = some sz) :
    QL P H ρ (.slice t x lo hi none) (.base (.slice none 0 0)) := by
  refine QL.of_run fun w0 O ι a w hs hv o ho => ?_
  have h1 := hv x (by simp [Op.operands])
  have hv2 : ∀ y, (lo = some y ∨ hi = some y) → VR w (OO O ι H) ι H (ρ y) (a.eval y) := by
    rintro y (rfl | rfl) <;> exact hv y (by simp [Op.operands])
  rw [hx] at h1
  have h1 := h1.base_inv
  have hr := sliceBounds_run (P := P) (cap := 0) (isSl := true) hv2 hlo hhi (Nat.le_refl _) (Nat.le_refl _)
  exact ⟨_, by simp only [execOp, ho, h1, Instr.sliceAt, run_underlying ht, Instr.slice, Option.map_none, hr, sizeOf_run hsz, Sem.run_bind, Sem.run_pure, Result.andThen_ok, if_true, Nat.sub_zero], .base _⟩
end
end Go.Ab
namespace Go.Ab
open Go Go.RowKit

attribute [go_sem] memSlot cv batch qstep qfun ev lk putE stripA stripL wrapL gval lite gc ldE binF intBin strBin boolBin lenF pickF fieldF fresh resVal resVals ldPtr packA AV.cells bnd

theorem dstOk_none (n : Fr) : dstOk n none = true := rfl
theorem Fr_n (k : Nat) : (OfNat.ofNat k : Fr).n = k := rfl
theorem Fr_m (k : Nat) : (OfNat.ofNat k : Fr).m = 0 := rfl
attribute [go_sem] Fr_n Fr_m
theorem dstOk_some (n : Fr) (t : Nat) : dstOk n (some t) = decide (t < n.n) := by
  rw [Bool.eq_iff_iff]; simp [dstOk]
attribute [go_sem] dstOk_none dstOk_some

section
variable {P : Program} {n : Fr} {K : ASt → Prop} {Q : Exit → ASt → Prop} {s : ASt}
theorem ARun.go {q : Bool} {o : LOp} {l r : List LOp} {s0 s1 : ASt} (h : qstep P n o s = some s0) (h2 : Go.Ab.batch P n l s0 = (r, s1)) (hr : ARun P n q r K s1) : ARun P n q (o :: l) K s :=
  ARun.batch (l := o :: l) (by simp only [Ab.batch, h]; exact h2) hr
def RegL (ops : Array Oper) (D : List (Option Tmp)) (l : List LOp) : Prop := ops.toList.map (·.dst) = D ∧ ops.toList.all (gOk D) = true ∧ ops.toList.map (lite D) = l
theorem AWp.regionL {id : Nat} {ops : Array Oper} {D : List (Option Tmp)} {l : List LOp} (h : RegL ops D l) (hr : ARun P n false l (Q .normal) s) : AWp P n (.region id ops false) Q s := AWp.region h.1 h.2.1 h.2.2 hr
def RegD (ops : Array Oper) (k : Nat) (D : List (Option Tmp)) (l1 l2 : List LOp) : Prop :=
  ops.toList.map (·.dst) = D ∧ ops.toList.all (gOk D) = true ∧ drawOk D ops k = true ∧ k ≤ ops.size ∧ (ops.toList.take k).map (lite D) = l1 ∧ (ops.toList.drop k).map (lite D) = l2
theorem AWp.drawL {id : Nat} {ops : Array Oper} {D : List (Option Tmp)} {k : Nat} {l1 l2 : List LOp} (hm : P.follows .mixedOrders = true) (h : RegD ops k D l1 l2)
    (hr : ARun P n true l1 (fun s1 => ARun P n false l2 (Q .normal) s1) s) : AWp P n (.region id ops true) Q s := AWp.draw hm h.1 h.2.1 h.2.2.1 h.2.2.2.1 h.2.2.2.2.1 h.2.2.2.2.2 hr
theorem thenQ_n (h : K s) : thenQ K Q .normal s := h
theorem thenQ_r (h : Q .ret s) : thenQ K Q .ret s := h
theorem thenQ_e {id : Nat} (h : Q (.exit id) s) : thenQ K Q (.exit id) s := h
theorem blkQ_n {id : Nat} (h : Q .normal s) : blkQ id Q .normal s := h
theorem blkQ_r {id : Nat} (h : Q .ret s) : blkQ id Q .ret s := h
theorem blkQ_e {id : Nat} (h : Q .normal s) : blkQ id Q (.exit id) s := by simpa [blkQ] using h
theorem blkQ_o {id id' : Nat} (hne : (id' == id) = false) (h : Q (.exit id') s) : blkQ id Q (.exit id') s := by
  simp only [blkQ]; rw [if_neg (by simpa using hne)]; exact h

theorem retQ_n {rs : List ResultVar} {d : AV} (h : Ret P rs d s) : retQ P rs d .normal s := h
theorem retQ_r {rs : List ResultVar} {d : AV} (h : Ret P rs d s) : retQ P rs d .ret s := h

theorem Ret.data {rs : List ResultVar} {d : AV} {vs : List AV} (h : resVals P s rs = some vs) (he : packA vs = d) (hp : Pu d) : Ret P rs d s := ⟨vs, h, by rw [he]; exact .pu hp⟩
theorem Ret.pub {rs : List ResultVar} {d : AV} {vs : List AV} (h : resVals P s rs = some vs) (hp : Pub s.H 0 (packA vs) d) : Ret P rs d s := ⟨vs, h, hp⟩
end

def WkE (E : Env) : Env → Prop
  | [] => True
  | (t, v) :: r => Le (lk E t) v ∧ WkE E r
theorem WkE.all {E : Env} : ∀ {E2 : Env}, WkE E E2 → ∀ p ∈ E2, Le (lk E p.1) p.2
  | [], _, p, h => by cases h
  | (t, v) :: r, ⟨h1, h2⟩, p, h => by
    rcases List.mem_cons.1 h with rfl | h
    · exact h1
    · exact WkE.all h2 p h
theorem Wk.env' {n : Fr} {E E2 : Env} {H : List ABlk} (h : WkE E E2) : Wk n ⟨E, H⟩ ⟨E2, H⟩ := .env h.all
theorem Le_self (a : AV) : Le a a = True := by simp [Le.refl]
theorem Le_bad (a : AV) : Le a .bad = True := by simp [Le.bad]
theorem Le_ut (a : AV) : Le (.under true a) a = True := by simp [Le.under_true]
attribute [go_sem] WkE Le_self Le_bad Le_ut

def WkP (H : List ABlk) (k : Nat) (E : Env) : Env → Prop
  | [] => True
  | (t, v) :: r => Pub H k (lk E t) v ∧ WkP H k E r
theorem WkP.all {H : List ABlk} {k : Nat} {E : Env} : ∀ {E2 : Env}, WkP H k E E2 → ∀ p ∈ E2, Pub H k (lk E p.1) p.2
  | [], _, p, h => by cases h
  | (t, v) :: r, ⟨h1, h2⟩, p, h => by
    rcases List.mem_cons.1 h with rfl | h
    · exact h1
    · exact WkP.all h2 p h
theorem Wk.trimM {n : Fr} {E E2 : Env} {H H2 : List ABlk} (k : Nat) (hm : n.m ≤ k) (h2 : H.take k = H2) (h : WkP H k E E2) (hc : ∀ blk ∈ H2, ∀ e ∈ blk.es, ∀ c ∈ e.cells, Pub H k c c) : Wk n ⟨E, H⟩ ⟨E2, H2⟩ := by
  subst h2; exact .trim k hm h.all hc
theorem Wk.trim' {nn : Nat} {E E2 : Env} {H H2 : List ABlk} (k : Nat) (h2 : H.take k = H2) (h : WkP H k E E2) (hc : ∀ blk ∈ H2, ∀ e ∈ blk.es, ∀ c ∈ e.cells, Pub H k c c) : Wk (OfNat.ofNat nn) ⟨E, H⟩ ⟨E2, H2⟩ := .trimM k (Nat.zero_le _) h2 h hc

theorem Wk.refl {n : Fr} (s : ASt) : Wk n s s := fun w0 O ι a w h => ⟨ι, h⟩
theorem Wk.trans {n : Fr} {s s2 s3 : ASt} (h : Wk n s s2) (h2 : Wk n s2 s3) : Wk n s s3 := fun w0 O ι a w hs => by
  obtain ⟨ι2, h3⟩ := h w0 O ι a w hs
  exact h2 w0 O ι2 a w h3

theorem wrap_id {x : Int} (h1 : -9223372036854775808 ≤ x) (h2 : x ≤ 9223372036854775807) : IntKind.i64.wrap x = x := by
  exact IntWalk.i64_in _ ⟨h1, h2⟩
theorem wrap_succ {n : Nat} (h : n < 9223372036854775807) : IntKind.i64.wrap ((n : Int) + 1) = ((n + 1 : Nat) : Int) := by
  rw [wrap_id (by omega) (by omega)]; rfl

theorem Fn.intro' {P : Program} {f : FuncId} {fn : Func} {c : Code} {args : List AV} {d : AV} (E : Env) (m n : Nat) (hf : P.funcs[f]? = some fn) (hn : (fn.name == "runtime.NumGoroutine") = false) (hb : fn.body = some c)
    (hm : args.length = m) (hnt : fn.ntmps = n) (ha : Nat.ble m n = true) (hE : args.zipIdx.map (fun (a, i) => (i, a)) = E)
    (h : AWp P (OfNat.ofNat n) c (retQ P fn.results.toList d) ⟨E, []⟩) : Fn P f args d := by
  refine Fn.intro hf hn hb (by rw [hm, hnt]; exact Nat.le_of_ble_eq_true ha) ?_
  rw [hE, hnt]; exact h
theorem FnM.intro' {P : Program} {mm : List (Addr × Value)} {f : FuncId} {fn : Func} {c : Code} {args : List AV} {d : AV} (E : Env) (m n : Nat) (hf : P.funcs[f]? = some fn) (hn : (fn.name == "runtime.NumGoroutine") = false) (hb : fn.body = some c)
    (hm : args.length = m) (hnt : fn.ntmps = n) (ha : Nat.ble m n = true) (hE : args.zipIdx.map (fun (a, i) => (i, a)) = E)
    (h : AWp P (OfNat.ofNat n) c (retQ P fn.results.toList d) ⟨E ++ [(memSlot, .mem mm)], []⟩) (hms : Nat.ble n memSlot = true := by rfl) : FnM P mm f args d := by
  refine FnM.intro hf hn hb (by rw [hm, hnt]; exact Nat.le_of_ble_eq_true ha) ?_ (by rw [hnt]; exact Nat.le_of_ble_eq_true hms)
  rw [hE, hnt]; exact h
end Go.Ab
namespace Go.Ab
open Go Go.RowKit

def isOne : AV → Bool
  | .base v => v.oneCell'
  | .lst _ | .own _ _ _ _ | .ptr _ _ _ _ | .iptr _ _ | .clo _ _ => true
  | _ => false
attribute [go_sem] isOne Value.oneCell'

section
variable {P : Program} {w w' : World} {w0 : Base} {O : Nat → Prop} {ι : Nat → Option Nat} {H : List ABlk} {u : Value}

theorem VR.one {c : AV} (h : isOne c = true) (hv : VR w O ι H c u) : u.oneCell' = true ∧ u.cells = #[u] := by
  cases hv <;> first
    | (exact ⟨rfl, rfl⟩)
    | (simp [isOne] at h; done)
    | (cases u <;> simp_all [isOne, Value.oneCell', Value.cells])

def okCells (v : AV) : Bool := match v with
  | .agg cs => cs.all isOne
  | v => isOne v

theorem VR.cells {v : AV} (h : okCells v = true) (hv : VR w O ι H v u) : u.cells.size = v.cells.length ∧ (∀ (j : Nat) (c : AV) (x : Value), v.cells[j]? = some c → u.cells[j]? = some x → VR w O ι H c x) ∧ ∀ x ∈ u.cells, x.oneCell' = true := by
  cases v with
  | agg cs =>
    obtain ⟨arr, rfl, h1, h2⟩ := hv.agg_inv
    refine ⟨h1, h2, fun x hx => ?_⟩
    obtain ⟨j, hj, rfl⟩ := Array.mem_iff_getElem.1 hx
    have hj' : j < cs.length := by rw [← h1]; exact hj
    have hc : cs[j]? = some cs[j] := List.getElem?_eq_getElem hj'
    have hu : arr[j]? = some arr[j] := Array.getElem?_eq_getElem hj
    exact (VR.one (List.all_eq_true.1 h _ (List.getElem_mem hj')) (h2 j _ _ hc hu)).1
  | _ =>
    obtain ⟨h1, h2⟩ := VR.one (c := _) (by simpa [okCells] using h) hv
    rw [h2]
    refine ⟨rfl, fun j c x hc hx => ?_, fun x hx => ?_⟩
    · cases j with
      | zero =>
        simp only [AV.cells, List.getElem?_cons_zero, Option.some.injEq] at hc
        simp at hx
        subst hc; subst hx; exact hv
      | succ j => simp [AV.cells] at hc
    · simp at hx; subst hx; exact h1

def upd (ι : Nat → Option Nat) (b x : Nat) : Nat → Option Nat := fun b' => if b' = b then some x else ι b'
theorem upd_same (ι : Nat → Option Nat) (b x : Nat) : upd ι b x b = some x := if_pos rfl
theorem upd_other {ι : Nat → Option Nat} {b b' x : Nat} (h : b' ≠ b) : upd ι b x b' = ι b' := if_neg h

theorem Sit.newO (hs : Sit w0 O ι H w) (blk : ABlk) (c : Array Value) (ob : Obj) (hob : objRow ob = some (c, blk.ty)) (wd : World) (hwd : Below w.heap.size w wd) (hsz : wd.heap.size = w.heap.size) (h1 : blk.es.length * blk.sz ≤ c.size) (h2 : ∀ e ∈ blk.es, e.cells.length = blk.sz)
    (h3 : ∀ (i j : Nat) (e d : AV), blk.es[i]? = some e → e.cells[j]? = some d → ∃ u, c[i * blk.sz + j]? = some u ∧ VR w (OO O ι H) ι H d u) :
    Sit w0 O (upd ι H.length w.heap.size) (H ++ [blk]) (wd.alloc ob) ∧
    Goes w (OO O ι H) ι H (wd.alloc ob) (OO O (upd ι H.length w.heap.size) (H ++ [blk])) (upd ι H.length w.heap.size) (H ++ [blk]) := by
  have hb : Below w.heap.size w (wd.alloc ob) := hwd.alloc (by omega) _
  have hold : ∀ x, O x → x < w.heap.size := hs.old
  have hinv : ∀ b x, b < (H ++ [blk]).length → upd ι H.length w.heap.size b = some x → (b = H.length ∧ x = w.heap.size) ∨ (b < H.length ∧ ι b = some x) := by
    intro b x hb hx
    by_cases e : b = H.length
    · subst e; rw [upd_same] at hx; injection hx with hx; exact .inl ⟨rfl, hx.symm⟩
    · rw [upd_other e] at hx; exact .inr ⟨by simp at hb; omega, hx⟩
  have hrng : ∀ b x, b < H.length → ι b = some x → x < w.heap.size := fun b x hb hx => (hs.heap b _ x (List.getElem?_eq_getElem hb) hx).2.lt
  have g : Goes w (OO O ι H) ι H (wd.alloc ob) (OO O (upd ι H.length w.heap.size) (H ++ [blk])) (upd ι H.length w.heap.size) (H ++ [blk]) := by
    refine ⟨fun p u _ h => by rw [hb.cell (World.block_lt_of_cell? _ _ h)]; exact h, fun p u h hc => ?_, fun b bk h => ?_, fun b x bk bk' c' ty fz h1 h2 _ hi h => ?_⟩
    · rintro (ho | ⟨b, hbl, hx⟩)
      · exact h (.inl ho)
      · rcases hinv b _ hbl hx with ⟨_, e⟩ | ⟨h4, h5⟩
        · have := World.block_lt_of_cell? _ _ hc; omega
        · exact h (.inr ⟨b, h4, h5⟩)
    · have hlt := (List.getElem?_eq_some_iff.1 h).1
      exact ⟨bk, by rw [List.getElem?_append_left hlt]; exact h, Nat.le_refl _, fun _ => ⟨rfl, upd_other (by omega)⟩⟩
    · have hlt : x < w.heap.size := hrng b x (List.getElem?_eq_some_iff.1 h1).1 hi
      exact ⟨c', ty, fz, by rw [hb.block x hlt]; exact h, rfl⟩
  refine ⟨⟨fun b bk x h hx => ?_, fun b bk h hx => ?_, fun b b' x h h' hx hx' => ?_, hs.below.step hb, fun x hx => Nat.lt_of_lt_of_le (hs.old x hx) hb.size, fun x b hO hbl hx => ?_, hs.hist.trans g.grow⟩, g⟩
  · rcases hinv b x (List.getElem?_eq_some_iff.1 h).1 hx with ⟨rfl, rfl⟩ | ⟨h4, h5⟩
    · rw [List.getElem?_append_right (Nat.le_refl _)] at h
      simp at h; subst h
      refine ⟨.inl hs.below.size, c, ?_, h1, h2, fun i j e d he hd => ?_⟩
      · rw [← hsz, rowAt, heap_alloc_new wd _]; exact hob
      · obtain ⟨u, hu, hv⟩ := h3 i j e d he hd
        exact ⟨u, hu, hv.mono g⟩
    · rw [List.getElem?_append_left h4] at h
      obtain ⟨h6, h7⟩ := hs.heap b bk x h h5
      exact ⟨h6, h7.mono g (hb.block x h7.lt)⟩
  · by_cases e : b = H.length
    · subst e; rw [upd_same] at hx; cases hx
    · have hlt : b < H.length := by have := (List.getElem?_eq_some_iff.1 h).1; simp at this; omega
      rw [List.getElem?_append_left hlt] at h
      rw [upd_other e] at hx
      exact hs.empt b bk h hx
  · rcases hinv b x h hx with ⟨rfl, rfl⟩ | ⟨h4, h5⟩
    · rcases hinv b' _ h' hx' with ⟨rfl, _⟩ | ⟨h6, h7⟩
      · rfl
      · have := hrng b' _ h6 h7; omega
    · rcases hinv b' x h' hx' with ⟨rfl, rfl⟩ | ⟨h6, h7⟩
      · have := hrng b _ h4 h5; omega
      · exact hs.inj b b' x h4 h6 h5 h7
  · rcases hinv b x hbl hx with ⟨_, e⟩ | ⟨h4, h5⟩
    · have := hs.old x hO; omega
    · exact hs.disj x b hO h4 h5

theorem Sit.new (hs : Sit w0 O ι H w) (blk : ABlk) (c : Array Value) (hmt : blk.ty < mapTy) (wd : World) (hwd : Below w.heap.size w wd) (hsz : wd.heap.size = w.heap.size) (h1 : blk.es.length * blk.sz ≤ c.size) (h2 : ∀ e ∈ blk.es, e.cells.length = blk.sz)
    (h3 : ∀ (i j : Nat) (e d : AV), blk.es[i]? = some e → e.cells[j]? = some d → ∃ u, c[i * blk.sz + j]? = some u ∧ VR w (OO O ι H) ι H d u) :
    Sit w0 O (upd ι H.length w.heap.size) (H ++ [blk]) (wd.alloc (.cells c blk.ty)) ∧
    Goes w (OO O ι H) ι H (wd.alloc (.cells c blk.ty)) (OO O (upd ι H.length w.heap.size) (H ++ [blk])) (upd ι H.length w.heap.size) (H ++ [blk]) :=
  hs.newO blk c (.cells c blk.ty) (by simp [objRow, hmt]) wd hwd hsz h1 h2 h3

theorem PL.of_run {ρ : Operand → AV} {op : Op} {v : AV} {H' : List ABlk}
    (h : ∀ (w0 : Base) (O : Nat → Prop) (ι : Nat → Option Nat) (a : Act) (w : World), Sit w0 O ι H w → (∀ x, VR w (OO O ι H) ι H (ρ x) (a.eval x)) → ∀ o : Oper, o.op = op →
      ∃ u w' ι' nx, (execOp a.eval o).run P w = .ok nx w' ∧ (nx = .value u ∨ (nx = .skip ∧ u = undef)) ∧ Sit w0 O ι' H' w' ∧ Goes w (OO O ι H) ι H w' (OO O ι' H') ι' H' ∧ VR w' (OO O ι' H') ι' H' v u) : PL P H ρ op v H' := by
  intro o ho w0 O ι a w hs hv K Q hK
  obtain ⟨u, w', ι', nx, hr, hnx, h1, h2, h3⟩ := h w0 O ι a w hs hv o ho
  unfold Oper.wp
  rw [hr]
  rcases hnx with rfl | ⟨rfl, rfl⟩
  · exact hK u w' ι' h1 h2 h3
  · exact hK undef w' ι' h1 h2 h3

theorem pl_box {ρ : Operand → AV} {el : TypeId} {x : Operand} {v : AV} (hx : ρ x = v) (hc : okCells v = true) (hmt : el < mapTy := by decide) : PL P H ρ (.box el x) (.ptr H.length 1 0 0) (H ++ [⟨el, v.cells.length, [v]⟩]) := by
  refine PL.of_run fun w0 O ι a w hs hv o ho => ?_
  have h1 := hv x
  rw [hx] at h1
  obtain ⟨h2, h3, _⟩ := h1.cells hc
  have hcell : ∀ (i j : Nat) (e d : AV), [v][i]? = some e → e.cells[j]? = some d → ∃ u, (a.eval x).cells[i * v.cells.length + j]? = some u ∧ VR w (OO O ι H) ι H d u := by
    intro i j e d he hd
    cases i with
    | zero =>
      simp at he; subst he
      have hj : j < (a.eval x).cells.size := by rw [h2]; exact (List.getElem?_eq_some_iff.1 hd).1
      exact ⟨_, by rw [Nat.zero_mul, Nat.zero_add]; exact Array.getElem?_eq_getElem hj, h3 j d _ hd (Array.getElem?_eq_getElem hj)⟩
    | succ i => simp at he
  obtain ⟨h4, h5⟩ := hs.new ⟨el, v.cells.length, [v]⟩ (a.eval x).cells hmt w (Below.refl _ _) rfl (by simp [h2]) (by simp) hcell
  refine ⟨.pointer (some ⟨w.heap.size, 0, none⟩), _, _, _, ?_, .inl rfl, h4, h5, ?_⟩
  · simp only [execOp, ho, Instr.box, newVar, newRow, Sem.run_bind, run_newObj, World.alloc_eq, Sem.run_pure, Result.andThen_ok]
  · have := VR.ptr (w := w.alloc (.cells (a.eval x).cells el)) (O := OO O (upd ι H.length w.heap.size) (H ++ [⟨el, v.cells.length, [v]⟩])) (ι := upd ι H.length w.heap.size) (H := H ++ [⟨el, v.cells.length, [v]⟩])
      H.length 1 0 0 ⟨el, v.cells.length, [v]⟩ w.heap.size (by simp) rfl (upd_same _ _ _) ⟨_, _, _, heap_alloc_new w _⟩
    simpa using this

def zeroA (P : Program) (t : TypeId) : Option AV := ((P.info? t).bind (·.zero)).map cv

theorem zero_run {t : TypeId} {z : AV} (h : zeroA P t = some z) : ∃ zv, (zeroValue t).run P w = .ok zv w ∧ z = cv zv := by
  unfold zeroA at h
  cases hi : P.info? t with
  | none => simp [hi] at h
  | some i =>
    cases hz : i.zero with
    | none => simp [hi, hz] at h
    | some zv => simp [hi, hz] at h; exact ⟨zv, by simp [zeroValue, typeInfo, hi, hz], h.symm⟩

theorem pl_alloc {ρ : Operand → AV} {el : TypeId} {z : AV} (hz : zeroA P el = some z) (hc : okCells z = true) (hmt : el < mapTy := by decide) : PL P H ρ (.alloc el) (.ptr H.length 1 0 0) (H ++ [⟨el, z.cells.length, [z]⟩]) := by
  refine PL.of_run fun w0 O ι a w hs hv o ho => ?_
  obtain ⟨zv, hr, rfl⟩ := zero_run (w := w) hz
  obtain ⟨h2, h3, _⟩ := (VR.cv w (OO O ι H) ι H zv).cells hc
  have hcell : ∀ (i j : Nat) (e d : AV), [cv zv][i]? = some e → e.cells[j]? = some d → ∃ u, zv.cells[i * (cv zv).cells.length + j]? = some u ∧ VR w (OO O ι H) ι H d u := by
    intro i j e d he hd
    cases i with
    | zero =>
      simp at he; subst he
      have hj : j < zv.cells.size := by rw [h2]; exact (List.getElem?_eq_some_iff.1 hd).1
      exact ⟨_, by rw [Nat.zero_mul, Nat.zero_add]; exact Array.getElem?_eq_getElem hj, h3 j d _ hd (Array.getElem?_eq_getElem hj)⟩
    | succ i => simp at he
  obtain ⟨h4, h5⟩ := hs.new ⟨el, (cv zv).cells.length, [cv zv]⟩ zv.cells hmt w (Below.refl _ _) rfl (by simp [h2]) (by simp) hcell
  refine ⟨.pointer (some ⟨w.heap.size, 0, none⟩), _, _, _, ?_, .inl rfl, h4, h5, ?_⟩
  · simp only [execOp, ho, Instr.alloc, newVar, newRow, hr, Sem.run_bind, run_newObj, World.alloc_eq, Sem.run_pure, Result.andThen_ok]
  · have := VR.ptr (w := w.alloc (.cells zv.cells el)) (O := OO O (upd ι H.length w.heap.size) (H ++ [⟨el, (cv zv).cells.length, [cv zv]⟩])) (ι := upd ι H.length w.heap.size) (H := H ++ [⟨el, (cv zv).cells.length, [cv zv]⟩])
      H.length 1 0 0 ⟨el, (cv zv).cells.length, [cv zv]⟩ w.heap.size (by simp) rfl (upd_same _ _ _) ⟨_, _, _, heap_alloc_new w _⟩
    simpa using this
end
end Go.Ab
namespace Go.Ab
open Go Go.RowKit

def stE (e : AV) (off : Nat) (vs : List AV) : Option AV :=
  match e with
  | .agg cs => if off + vs.length ≤ cs.length then some (.agg (match vs with
    | [c] => cs.set off c
    | vs => if off = 0 ∧ vs.length = cs.length then vs else cs.take off ++ vs ++ cs.drop (off + vs.length))) else none
  | _ => match off, vs with
    | 0, [c] => if isOne c then some c else none
    | _, _ => none

theorem stE_cells {e e' : AV} {off : Nat} {vs : List AV} (h : stE e off vs = some e') : off + vs.length ≤ e.cells.length ∧ e'.cells.length = e.cells.length ∧
    ∀ (j : Nat) (d : AV), e'.cells[j]? = some d → if off ≤ j ∧ j < off + vs.length then vs[j - off]? = some d else e.cells[j]? = some d := by
  unfold stE at h
  split at h
  · rename_i cs
    split at h
    · rename_i hle
      injection h with h; subst h
      refine ⟨hle, ?_, ?_⟩
      · split
        · simp [AV.cells]
        · split
          · rename_i h2; exact h2.2
          · simp only [AV.cells, List.length_append, List.length_take, List.length_drop]; omega
      · intro j d hd
        split at hd
        · rename_i c
          simp only [AV.cells, List.length_singleton] at hd hle ⊢
          rw [List.getElem?_set] at hd
          by_cases e : off = j
          · subst e
            rw [if_pos rfl, if_pos (by omega)] at hd
            rw [if_pos (by omega)]; simpa using hd
          · rw [if_neg e] at hd
            rw [if_neg (by omega)]; exact hd
        · split at hd
          · rename_i h2
            obtain ⟨rfl, h3⟩ := h2
            simp only [AV.cells] at hd ⊢
            have hj := (List.getElem?_eq_some_iff.1 hd).1
            rw [if_pos (by omega)]; simpa using hd
          · simp only [AV.cells] at hd ⊢
            rw [List.getElem?_append, List.getElem?_append] at hd
            simp only [List.length_append, List.length_take] at hd
            by_cases h1 : j < off
            · rw [if_pos (by omega), if_pos (by omega), List.getElem?_take, if_pos h1] at hd
              rw [if_neg (by omega)]; exact hd
            · by_cases h2 : j < off + vs.length
              · rw [if_pos (by omega), if_neg (by omega)] at hd
                rw [if_pos ⟨by omega, h2⟩, ← hd]; congr 1; omega
              · rw [if_neg (by omega), List.getElem?_drop] at hd
                rw [if_neg (by omega), ← hd]; congr 1; omega
    · cases h
  · rename_i hne
    split at h
    · rename_i c
      split at h
      · rename_i hc
        injection h with h; subst h
        have hec : e.cells = [e] := by cases e <;> first | rfl | (exact absurd rfl (hne _))
        have hcc : c.cells = [c] := by cases c <;> first | rfl | (simp [isOne] at hc)
        refine ⟨by simp [hec], by rw [hec, hcc]; rfl, fun j d hd => ?_⟩
        rw [hcc] at hd
        cases j with
        | zero => simp at hd; subst hd; simp
        | succ j => simp at hd
      · cases h
    · cases h

section
variable {P : Program} {w w' : World} {w0 : Base} {O : Nat → Prop} {ι : Nat → Option Nat} {H : List ABlk} {u : Value}

theorem heap_setCells (x : Nat) : ∀ (vs : List Value) (o : Nat) (w : World) (c : Array Value) (ty : TypeId) (fz : Nat × Nat), w.heap[x]? = some (.cells c ty fz) → o + vs.length ≤ c.size →
    ∃ c', (w.setCells x o vs).heap[x]? = some (.cells c' ty fz) ∧ c'.size = c.size ∧ ∀ j, c'[j]? = if o ≤ j ∧ j < o + vs.length then vs[j - o]? else c[j]?
  | [], o, w, c, ty, fz, h, _ => ⟨c, h, rfl, fun j => by rw [if_neg (by simp)]⟩
  | v :: r, o, w, c, ty, fz, h, hl => by
    have h1 : (w.setCell ⟨x, o, none⟩ v).heap[x]? = some (.cells (c.setIfInBounds o v) ty fz) := by
      simp [World.setCell, Array.getElem?_modify, h]
    simp only [List.length_cons] at hl
    obtain ⟨c', h2, h3, h4⟩ := heap_setCells x r (o + 1) _ _ ty fz h1 (by simp; omega)
    refine ⟨c', h2, by simpa using h3, fun j => ?_⟩
    rw [h4 j]
    by_cases e : j = o
    · subst e
      rw [if_neg (by omega), if_pos (by simp), Array.getElem?_setIfInBounds, if_pos rfl, if_pos (by omega)]
      simp
    · by_cases h5 : o + 1 ≤ j ∧ j < o + 1 + r.length
      · rw [if_pos h5, if_pos (by simp; omega), show j - o = (j - (o + 1)) + 1 by omega]; rfl
      · rw [if_neg h5, if_neg (by simp; omega), Array.getElem?_setIfInBounds, if_neg (by omega)]

theorem heap_setCells_other (x : Nat) : ∀ (vs : List Value) (o : Nat) (w : World) (k : Nat), k ≠ x → (w.setCells x o vs).heap[k]? = w.heap[k]?
  | [], _, _, _, _ => rfl
  | v :: r, o, w, k, h => by
    rw [World.setCells, heap_setCells_other x r (o + 1) _ k h]
    exact Below.heap_setCell w ⟨x, o, none⟩ v k h

theorem size_setCells (x : Nat) : ∀ (vs : List Value) (o : Nat) (w : World), (w.setCells x o vs).heap.size = w.heap.size
  | [], _, _ => rfl
  | v :: r, o, w => by rw [World.setCells, size_setCells x r]; simp

theorem below_setCells (B x : Nat) (hx : B ≤ x) : ∀ (vs : List Value) (o : Nat) (w : World), Below B w (w.setCells x o vs)
  | [], _, w => Below.refl _ _
  | v :: r, o, w => ((Below.refl B w).setCell (p := ⟨x, o, none⟩) hx v).trans (below_setCells B x hx r (o + 1) _)

theorem Sit.set (hs : Sit w0 O ι H w) {b x : Nat} {blk blk2 : ABlk} (hb : H[b]? = some blk) (hi : ι b = some x) (h2s : blk2.sz = blk.sz) (h2t : blk2.ty = blk.ty) (h2l : blk2.es.length = blk.es.length) (hw' : Below x w w') (hoth : ∀ k, k ≠ x → w'.heap[k]? = w.heap[k]?)
    {c c' : Array Value} (hc : rowAt w x = some (c, blk.ty)) (hc' : rowAt w' x = some (c', blk.ty)) (hcs : c'.size = c.size) (hcc : ∀ c ty fz, w.heap[x]? = some (.cells c ty fz) → ∃ c' ty' fz', w'.heap[x]? = some (.cells c' ty' fz') ∧ c'.size = c.size) (he : ∀ e ∈ blk2.es, e.cells.length = blk2.sz)
    (hv : ∀ (i j : Nat) (e d : AV), blk2.es[i]? = some e → e.cells[j]? = some d → ∃ u, c'[i * blk2.sz + j]? = some u ∧ VR w (OO O ι H) ι H d u) :
    Sit w0 O ι (H.set b blk2) w' ∧ Goes w (OO O ι H) ι H w' (OO O ι (H.set b blk2)) ι (H.set b blk2) := by
  have hbl : b < H.length := (List.getElem?_eq_some_iff.1 hb).1
  have hget : ∀ b' bk, (H.set b blk2)[b']? = some bk → (b' = b ∧ bk = blk2) ∨ (b' ≠ b ∧ H[b']? = some bk) := by
    intro b' bk h
    rw [List.getElem?_set] at h
    by_cases e : b = b'
    · subst e; rw [if_pos rfl, if_pos hbl] at h; injection h with h; exact .inl ⟨rfl, h.symm⟩
    · rw [if_neg e] at h; exact .inr ⟨fun e' => e e'.symm, h⟩
  have hOO : ∀ y, OO O ι (H.set b blk2) y ↔ OO O ι H y := fun y => by unfold OO rng; simp
  have hxlo : w0.w.heap.size ≤ x ∨ w0.S x := (hs.heap b blk x hb hi).1
  have g : Goes w (OO O ι H) ι H w' (OO O ι (H.set b blk2)) ι (H.set b blk2) := by
    refine ⟨fun p u h hcell => ?_, fun p u h _ h' => h ((hOO _).1 h'), fun b' bk h => ?_, fun b' y bk bk' c1 ty fz h1 h2 _ hi' h => ?_⟩
    · have : p.block ≠ x := fun e => h (.inr ⟨b, hbl, by rw [e]; exact hi⟩)
      rw [World.cell?_of_block (hoth _ this)]; exact hcell
    · by_cases e : b' = b
      · subst e
        rw [hb] at h; injection h with h; subst h
        exact ⟨blk2, by simp [hbl], by omega, fun _ => ⟨h2s, rfl⟩⟩
      · exact ⟨bk, by rw [List.getElem?_set_ne (fun e' => e e'.symm)]; exact h, Nat.le_refl _, fun _ => ⟨rfl, rfl⟩⟩
    · by_cases e : y = x
      · subst e
        exact hcc _ _ _ h
      · exact ⟨c1, ty, fz, by rw [hoth y e]; exact h, rfl⟩
  refine ⟨⟨fun b' bk y h hy => ?_, fun b' bk h hy => ?_, fun b1 b2 y h1 h2 => hs.inj b1 b2 y (by simpa using h1) (by simpa using h2), hs.below.change hw'.os hw'.tape hw'.output hw'.size (fun k _ hk => by
      rcases Classical.em (k = x) with e | e
      · rw [e]; exact hxlo
      · exact absurd (hoth k e) hk),
    fun y hy => Nat.lt_of_lt_of_le (hs.old y hy) hw'.size, fun y b1 hO h1 => hs.disj y b1 hO (by simpa using h1), hs.hist.trans g.grow⟩, g⟩
  · rcases hget b' bk h with ⟨rfl, rfl⟩ | ⟨hne, h'⟩
    · rw [hi] at hy; injection hy with hy; subst hy
      obtain ⟨_, c0, hc0, hsz0, _, _⟩ := hs.heap b' blk x hb hi
      rw [hc] at hc0; injection hc0 with hc0; injection hc0 with hc0 _; subst hc0
      refine ⟨hxlo, c', by rw [h2t]; exact hc', by rw [h2l, h2s, hcs]; exact hsz0, he, fun i j e d hie hjd => ?_⟩
      obtain ⟨u, hu, hvu⟩ := hv i j e d hie hjd
      exact ⟨u, hu, hvu.mono g⟩
    · obtain ⟨h3, h4⟩ := hs.heap b' bk y h' hy
      have hyx : y ≠ x := fun e => hne (hs.inj b' b y (List.getElem?_eq_some_iff.1 h').1 hbl hy (by rw [e]; exact hi))
      exact ⟨h3, h4.mono g (hoth y hyx)⟩
  · rcases hget b' bk h with ⟨rfl, rfl⟩ | ⟨hne, h'⟩
    · rw [hi] at hy; cases hy
    · exact hs.empt b' bk h' hy

theorem mul_lt_of {i j n s : Nat} (hi : i < n) (hj : j < s) : i * s + j < n * s := by
  have : (i + 1) * s ≤ n * s := Nat.mul_le_mul_right s hi
  rw [Nat.add_mul] at this
  omega

theorem div_of {i j s : Nat} (hj : j < s) : (i * s + j) / s = i ∧ (i * s + j) % s = j := by
  have hs : 0 < s := by omega
  constructor
  · rw [Nat.mul_comm, Nat.mul_add_div hs, Nat.div_eq_of_lt hj]; rfl
  · rw [Nat.mul_comm, Nat.mul_add_mod, Nat.mod_eq_of_lt hj]

theorem pl_store {ρ : Operand → AV} {t : TypeId} {x y : Operand} {b tot i off : Nat} {blk : ABlk} {e e' v : AV} (hx : ρ x = .ptr b tot i off) (hy : ρ y = v) (hb : H[b]? = some blk) (ht : blk.es.length = tot) (he : blk.es[i]? = some e)
    (hsz : szTy P t = some v.cells.length) (hc : okCells v = true) (hst : stE e off v.cells = some e') (hmt : blk.ty < mapTy := by first | decide | exact ltMap rfl) : PL P H ρ (.store t x y) .bad (H.set b { blk with es := blk.es.set i e' }) := by
  refine PL.of_run fun w0 O ι a w hs hv o ho => ?_
  have h1 := hv x; rw [hx] at h1
  have h2 := hv y; rw [hy] at h2
  obtain ⟨z, hi, hX, hel⟩ := h1.ptr_inv hs hb ht he
  have hcx : ∃ c ty fz, w.heap[z]? = some (.cells c ty fz) := by
    obtain ⟨y, blk', f1, f2, f3, f4, f5⟩ := h1.ptr_fresh (by simp [fresh, hb, ht])
    rw [hi] at f1; injection f1 with f1; subst f1; exact f5
  obtain ⟨h3, h4, h5⟩ := h2.cells hc
  obtain ⟨h6, h7, h8⟩ := stE_cells hst
  obtain ⟨hz0, c, hcz, hcl, hsz', hrow⟩ := hs.heap b blk z hb hi
  have hcz := rowAt_inv hcz hcx hmt
  have hil : i < blk.es.length := (List.getElem?_eq_some_iff.1 he).1
  have hesz : e.cells.length = blk.sz := hsz' e (List.mem_of_getElem? he)
  have hrange : i * blk.sz + off + v.cells.length ≤ c.size := by
    have : (i + 1) * blk.sz ≤ blk.es.length * blk.sz := Nat.mul_le_mul_right _ hil
    rw [Nat.add_mul] at this
    omega
  have hcellat : ∀ j, j < c.size → w.cell? ⟨z, j, none⟩ = c[j]? := fun j hj => by simp [World.cell?, hcz]
  have hrun : (storeVar t ⟨z, i * blk.sz + off, none⟩ (a.eval y)).run P w = .ok () (w.setCells z (i * blk.sz + off) (a.eval y).cells.toList) := by
    have hl : (a.eval y).cells.toList.length = v.cells.length := by simpa using h3
    have := run_storeCells_cells (P := P) z (i * blk.sz + off) (a.eval y).cells.toList 0 w
      (fun j hj => by rw [hcellat _ (by omega), Array.getElem?_eq_getElem (show i * blk.sz + off + 0 + j < c.size by omega)]; rfl)
      (fun j hj => by simp [World.frozen?, hcz]) (fun v hv => h5 v (by simpa using hv))
    unfold szTy at hsz
    cases hq : P.info? t with
    | none => simp [hq] at hsz
    | some ii =>
      simp [hq] at hsz
      simp only [Nat.add_zero] at this
      have hne : ¬ ((a.eval y).cells.size ≠ ii.size) := by omega
      simp only [storeVar, sizeOf, typeInfo, Sem.run_bind, run_program, Result.andThen_ok, hq, Sem.run_pure, Sem.run_ite, if_neg hne, this]
  obtain ⟨c', hc', hcs', hj'⟩ := heap_setCells z (a.eval y).cells.toList (i * blk.sz + off) w c blk.ty (0, 0) hcz (by simp [h3]; omega)
  obtain ⟨h9, h10⟩ := hs.set (blk2 := { blk with es := blk.es.set i e' }) hb hi rfl rfl (by simp) (below_setCells z z (Nat.le_refl _) _ _ _) (fun k hk => heap_setCells_other z _ _ _ k hk) (rowAt_cells hcz hmt) (rowAt_cells hc' hmt) hcs' (fun c1 ty1 fz1 h => by rw [hcz] at h; injection h with h; injection h with h a b; subst h; exact ⟨c', _, _, hc', hcs'⟩)
    (fun e1 he1 => by
      rcases List.mem_or_eq_of_mem_set he1 with h | h
      · exact hsz' e1 h
      · rw [h, h7]; exact hesz)
    (fun i1 j1 e1 d1 hi1 hj1 => by
      simp only at hi1 ⊢
      rw [List.getElem?_set] at hi1
      have hj1l : j1 < blk.sz := by
        by_cases e : i = i1
        · subst e; rw [if_pos rfl, if_pos hil] at hi1; injection hi1 with hi1; subst hi1
          rw [← hesz, ← h7]; exact (List.getElem?_eq_some_iff.1 hj1).1
        · rw [if_neg e] at hi1
          rw [← hsz' e1 (List.mem_of_getElem? hi1)]; exact (List.getElem?_eq_some_iff.1 hj1).1
      by_cases e : i = i1
      · subst e
        rw [if_pos rfl, if_pos hil] at hi1; injection hi1 with hi1; subst hi1
        have h11 := h8 j1 d1 hj1
        rw [hj']
        simp only [Array.length_toList, Array.getElem?_toList]
        by_cases h12 : off ≤ j1 ∧ j1 < off + v.cells.length
        · rw [if_pos h12] at h11
          rw [if_pos (by omega)]
          have hlt : j1 - off < (a.eval y).cells.size := by omega
          refine ⟨_, by rw [show i * blk.sz + j1 - (i * blk.sz + off) = j1 - off by omega]; exact Array.getElem?_eq_getElem hlt, h4 _ _ _ h11 (Array.getElem?_eq_getElem hlt)⟩
        · rw [if_neg h12] at h11
          rw [if_neg (by omega)]
          exact hrow i j1 e d1 he h11
      · rw [if_neg e] at hi1
        rw [hj', if_neg]
        · exact hrow i1 j1 e1 d1 hi1 hj1
        · simp only [Array.length_toList]
          intro hcon
          rcases Nat.lt_or_ge i i1 with h | h
          · have : (i + 1) * blk.sz ≤ i1 * blk.sz := Nat.mul_le_mul_right _ h
            rw [Nat.add_mul] at this; omega
          · have : (i1 + 1) * blk.sz ≤ i * blk.sz := Nat.mul_le_mul_right _ (by omega)
            rw [Nat.add_mul] at this; omega)
  refine ⟨undef, _, ι, .skip, ?_, .inr ⟨rfl, rfl⟩, h9, h10, .bad _⟩
  simp only [execOp, ho, hX, Instr.storeAt, Instr.sureAddr, Sem.run_bind, Sem.run_pure, Result.andThen_ok, hrun]
end
end Go.Ab
