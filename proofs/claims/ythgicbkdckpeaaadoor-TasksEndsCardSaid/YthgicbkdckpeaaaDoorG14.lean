/- Drawn regions in which memory changes stage by stage; a reading operation need only be right at the stages that can come before it (bound). -/
import Derived.Scope
import Derived.Test.YthgicbkdckpeaaaDoorG11
import Derived.Test.YthgicbkdckpeaaaDoorG13
import Derived.Test.YthgicbkdckpeaaaDoorG12
import Derived.Test.YthgicbkdckpeaaaDoorG05
set_option linter.unusedSimpArgs false
set_option linter.unusedVariables false
namespace Go.Ab
open Go Go.RowKit

section
variable {P : Program} {n : Fr} {w w' : World} {w0 : Base} {O : Nat → Prop} {ι ι' : Nat → Option Nat} {H H' : List ABlk} {u : Value}

inductive TrB (P : Program) (n : Fr) (HS : Nat → List ABlk) (m : Nat) : List LOp → List (Option Nat) → List Nat → Env → Env → Prop
  | nil (E : Env) : TrB P n HS m [] [] [] E E
  | q (o : LOp) (l : List LOp) (sl : List (Option Nat)) (b : Nat) (bl : List Nat) (E : Env) (v : AV) (E' : Env) (h : ∀ c, c ≤ m → c ≤ b → StepF P n (HS c) (lk E) o v) (hr : TrB P n HS m l sl bl (putE E o.dst v) E') : TrB P n HS m (o :: l) (none :: sl) (b :: bl) E E'
  | p (o : LOp) (l : List LOp) (sl : List (Option Nat)) (b : Nat) (bl : List Nat) (E : Env) (v : AV) (E' : Env) (c : Nat) (h : StepG P n (HS c) (lk E) o v (HS (c + 1))) (hr : TrB P n HS m l sl bl (putE E o.dst v) E') : TrB P n HS m (o :: l) (some c :: sl) (b :: bl) E E'

theorem TrB.all {HS : Nat → List ABlk} {m : Nat} : ∀ {l : List LOp} {sl : List (Option Nat)} {bl : List Nat} {E E' : Env}, TrB P n HS m l sl bl E E' → ∃ (g : Nat → Nat → AV) (vs : Nat → AV), g 0 = lk E ∧ g l.length = lk E' ∧
    ∀ i o, l[i]? = some o → ((sl.getD i none = none ∧ ∀ c, c ≤ m → c ≤ bl.getD i m → StepF P n (HS c) (g i) o (vs i)) ∨ ∃ c, sl.getD i none = some c ∧ StepG P n (HS c) (g i) o (vs i) (HS (c + 1))) ∧ g (i + 1) = updF (g i) o.dst (vs i)
  | _, _, _, E, _, .nil _ => ⟨fun _ => lk E, fun _ => .bad, rfl, rfl, fun i o h => by simp at h⟩
  | _, _, _, E, E', .q o l sl b bl _ v _ h hr => by
    obtain ⟨g, vs, h4, h5, h6⟩ := hr.all
    refine ⟨fun i => match i with | 0 => lk E | i + 1 => g i, fun i => match i with | 0 => v | i + 1 => vs i, rfl, h5, fun i o' ho' => ?_⟩
    cases i with
    | zero =>
      simp at ho'; subst ho'
      exact ⟨.inl ⟨rfl, h⟩, by show g 0 = _; rw [h4, lk_putE]⟩
    | succ i => exact h6 i o' (by simpa using ho')
  | _, _, _, E, E', .p o l sl b bl _ v _ c h hr => by
    obtain ⟨g, vs, h4, h5, h6⟩ := hr.all
    refine ⟨fun i => match i with | 0 => lk E | i + 1 => g i, fun i => match i with | 0 => v | i + 1 => vs i, rfl, h5, fun i o' ho' => ?_⟩
    cases i with
    | zero =>
      simp at ho'; subst ho'
      exact ⟨.inr ⟨c, rfl, h⟩, by show g 0 = _; rw [h4, lk_putE]⟩
    | succ i => exact h6 i o' (by simpa using ho')

def BRun (P : Program) (n : Fr) (HS : Nat → List ABlk) (m : Nat) (l : List LOp) (sl : List (Option Nat)) (bl : List Nat) (K : Env → Prop) (E : Env) : Prop := ∃ E', TrB P n HS m l sl bl E E' ∧ K E'
section
variable {HS : Nat → List ABlk} {m b : Nat} {o : LOp} {l : List LOp} {sl : List (Option Nat)} {bl : List Nat} {E : Env} {v : AV} {K : Env → Prop}
theorem BRun.nil (h : K E) : BRun P n HS m [] [] [] K E := ⟨E, .nil E, h⟩
theorem BRun.q1 (hg : o.g = none) (hd : dstOk n o.dst = true) (h : ∀ c, c ≤ m → c ≤ b → QL P (HS c) (ev E) o.op v) (hr : BRun P n HS m l sl bl K (putE E o.dst v)) : BRun P n HS m (o :: l) (none :: sl) (b :: bl) K E :=
  let ⟨E', h1, h2⟩ := hr; ⟨E', .q o l sl b bl E v E' (fun c hc hb => .q1 v hg hd (by rw [show evF (lk E) = ev E from funext fun x => (ev_eq E x).symm]; exact (h c hc hb).t)) h1, h2⟩
theorem BRun.q0 (hg : o.g = none) (hd : dstOk n o.dst = true) (h : QL P (HS 0) (ev E) o.op v) (hr : BRun P n HS m l sl bl K (putE E o.dst v)) : BRun P n HS m (o :: l) (none :: sl) (0 :: bl) K E :=
  .q1 hg hd (fun c _ hc => by have : c = 0 := by omega
                              subst this; exact h) hr
theorem BRun.p1 {c : Nat} (hg : o.g = none) (hd : dstOk n o.dst = true) (h : PLo P (HS c) (ev E) o.op v (HS (c + 1))) (hr : BRun P n HS m l sl bl K (putE E o.dst v)) : BRun P n HS m (o :: l) (some c :: sl) (b :: bl) K E :=
  let ⟨E', h1, h2⟩ := hr; ⟨E', .p o l sl b bl E v E' c ⟨hg, hd, by rw [show evF (lk E) = ev E from funext fun x => (ev_eq E x).symm]; exact h⟩ h1, h2⟩
theorem BRun.qf1 (hg : o.g = none) (hd : dstOk n o.dst = true) (h0 : qfun P (HS 0) (ev E) o.op = some v) (h1 : qfun P (HS 1) (ev E) o.op = some v) (hr : BRun P n HS 1 l sl bl K (putE E o.dst v)) : BRun P n HS 1 (o :: l) (none :: sl) (b :: bl) K E :=
  .q1 hg hd (fun c hc _ => ql_fun (by rcases (by omega : c = 0 ∨ c = 1) with h | h <;> subst h <;> assumption)) hr
end
end
theorem PubR.same {H : List ABlk} (a : AV) : PubR some H a a := fun H2 w0 w O ι ι2 u hs v hu => hu.mono
  ⟨fun _ _ _ h => h, fun p c h _ h2 => h (v.OO h2), fun b blk hb => by
      obtain ⟨blk2, e1, e2, e3, e4⟩ := v.idx b b blk rfl hb
      exact ⟨blk2, e1, Nat.le_of_eq e2.symm, fun _ => ⟨e3, e4⟩⟩,
   fun b x blk blk' c ty fz _ _ _ _ h => ⟨c, ty, fz, h, rfl⟩⟩
theorem RetH.same {P : Program} {rs : List ResultVar} {n : Fr} {d : AV} {H' : List ABlk} {s : ASt} {vs : List AV} (h : resVals P s rs = some vs) (hd : packA vs = d) (hH : s.H = H') : RetH P rs n d H' s :=
  ⟨s, vs, some, fun j => j, .refl s, h, ⟨fun b _ => rfl, fun j hj => ⟨by rw [hH]; exact hj, rfl⟩, fun b j hb hr => by injection hr with hr; subst hr; exact ⟨rfl, by rw [← hH]; exact hb⟩,
    fun j blk blk2 h1 h2 => by
      rw [hH, h2] at h1; injection h1 with h1; subst h1
      exact ⟨rfl, rfl, rfl, fun i e e2 h3 h4 => by
        rw [h3] at h4; injection h4 with h4; subst h4
        exact ⟨rfl, fun k c c2 h5 h6 => by rw [h5] at h6; injection h6 with h6; subst h6; exact .same _⟩⟩⟩, by rw [hd]; exact .same _⟩
end Go.Ab
namespace Go.Ab
open Go Go.RowKit
end Go.Ab
namespace Go.Ab
open Go Go.RowKit
theorem iff_ {P : Program} {n : Fr} {Q : Exit → ASt → Prop} {s : ASt} {b : Bool} {cc : Operand} {x y : Code} (h : AWp P n y Q s) (hb : b = false := by first | rfl | simp) (hc : ev s.env cc = .base (.bool b) := by rfl) : AWp P n (.cond cc x y) Q s := AWp.cond hc (fun h2 => by rw [hb] at h2; cases h2) (fun _ => h)
theorem ift_ {P : Program} {n : Fr} {Q : Exit → ASt → Prop} {s : ASt} {b : Bool} {cc : Operand} {x y : Code} (h : AWp P n x Q s) (hb : b = true := by first | rfl | simp) (hc : ev s.env cc = .base (.bool b) := by rfl) : AWp P n (.cond cc x y) Q s := AWp.cond hc (fun _ => h) (fun h2 => by rw [hb] at h2; cases h2)
theorem iftd_ {P : Program} {n : Fr} {Q : Exit → ASt → Prop} {s : ASt} {p : Prop} [Decidable p] {cc : Operand} {x y : Code} (hc : ev s.env cc = .base (.bool (decide p))) (hp : p) (h : AWp P n x Q s) : AWp P n (.cond cc x y) Q s := AWp.cond hc (fun _ => h) (fun h2 => absurd hp (of_decide_eq_false h2))
end Go.Ab
namespace Go.Ab
open Go Go.RowKit
theorem PubR.iptr {r : Nat → Option Nat} {H : List ABlk} {b tot i off : Nat} {blk : ABlk} {e d : AV} (hk : r b = none) (h1 : H[b]? = some blk) (ht : blk.es.length = tot) (he : blk.es[i]? = some e)
    (hd : PubRL r H e.cells d.cells) : PubR r H (.ptr b tot i off) (.iptr d off) := fun H2 w0 w O ι ι2 u hs v hu => by
  cases hu with
  | stalePtr b tot i off blk' a h1' h2 => rw [h1] at h1'; cases h1'; omega
  | ptr b tot i off blk' x h1' ht' hi hcx =>
    rw [h1] at h1'; cases h1'
    obtain ⟨hx0, c0, hc, hcs, hsz, hel⟩ := hs.heap b blk x h1 hi
    have hnot : ¬ OO O ι2 H2 x := not_OO_view hs v h1 hk hi
    have hat : ∀ (j : Nat) (c : AV), d.cells[j]? = some c → ∃ u, w.cell? ⟨x, i * blk.sz + j, none⟩ = some u ∧ VR w (OO O ι2 H2) ι2 H2 c u := by
      intro j c hcj
      have hj : j < e.cells.length := by rw [hd.len]; exact (List.getElem?_eq_some_iff.1 hcj).1
      have hej : e.cells[j]? = some e.cells[j] := List.getElem?_eq_getElem hj
      obtain ⟨u, hu, hv⟩ := hel i j e _ he hej
      obtain ⟨ty3, fz3, hc⟩ := rowAt_el hc hcx
      exact ⟨u, by simpa [World.cell?, hc] using hu, hd.get j _ c hej hcj H2 w0 w O ι ι2 u hs v hv⟩
    refine .iptr d off _ (fun j => (w.cell? ⟨x, i * blk.sz + j, none⟩).getD undef) rfl (Nat.le_add_left _ _) (fun j c hcj => ?_) (fun j c hcj => ?_)
    · obtain ⟨u, hu, _⟩ := hat j c hcj
      refine ⟨hnot, ?_⟩
      show w.cell? ⟨x, i * blk.sz + off - off + j, none⟩ = _
      rw [Nat.add_sub_cancel, hu]; rfl
    · obtain ⟨u, hu, hv⟩ := hat j c hcj
      simpa only [hu, Option.getD_some] using hv
end Go.Ab
namespace Go.Ab
open Go Go.RowKit
section
variable {P : Program} {H : List ABlk} {w w' : World} {w0 : Base} {O : Nat → Prop} {ι : Nat → Option Nat}
end
end Go.Ab
namespace Go.Ab
open Go Go.RowKit
def InB (r : Nat → Option Nat) (HC : List ABlk) : List Nat → List ABlk → Prop
  | [], [] => True
  | b :: e, k :: H => (∃ bc, HC[b]? = some bc ∧ BlkMv r HC bc k) ∧ InB r HC e H
  | _, _ => False
def OutB (r : Nat → Option Nat) (H' : List ABlk) : List ABlk → List ABlk → Prop
  | [], [] => True
  | k :: H, n :: N => BlkMv r H' k n ∧ OutB r H' H N
  | _, _ => False
theorem InB.len {r : Nat → Option Nat} {HC : List ABlk} : ∀ {e : List Nat} {H : List ABlk}, InB r HC e H → e.length = H.length
  | [], [], _ => rfl
  | b :: e, k :: H, h => by simp [InB.len h.2]
theorem InB.get {r : Nat → Option Nat} {HC : List ABlk} : ∀ {e : List Nat} {H : List ABlk}, InB r HC e H → ∀ (j b : Nat), e[j]? = some b → ∃ bc bk, HC[b]? = some bc ∧ H[j]? = some bk ∧ BlkMv r HC bc bk
  | [], [], _, j, b, h => by simp at h
  | b0 :: e, k :: H, h, 0, b, hb => by
    simp at hb; subst hb
    obtain ⟨bc, h1, h2⟩ := h.1
    exact ⟨bc, k, h1, rfl, h2⟩
  | b0 :: e, k :: H, h, j + 1, b, hb => by
    simp at hb
    obtain ⟨bc, bk, h1, h2, h3⟩ := InB.get h.2 j b hb
    exact ⟨bc, bk, h1, by simpa using h2, h3⟩
theorem OutB.len {r : Nat → Option Nat} {H' : List ABlk} : ∀ {H N : List ABlk}, OutB r H' H N → H.length = N.length
  | [], [], _ => rfl
  | k :: H, n :: N, h => by simp [OutB.len h.2]
theorem OutB.get {r : Nat → Option Nat} {H' : List ABlk} : ∀ {H N : List ABlk}, OutB r H' H N → ∀ (j : Nat) (k n : ABlk), H[j]? = some k → N[j]? = some n → BlkMv r H' k n
  | [], [], _, j, k, n, h1, h2 => by simp at h1
  | k0 :: H, n0 :: N, h, 0, k, n, h1, h2 => by simp at h1 h2; subst h1; subst h2; exact h.1
  | k0 :: H, n0 :: N, h, j + 1, k, n, h1, h2 => by simp at h1 h2; exact OutB.get h.2 j k n h1 h2
section
variable {P : Program} {HC : List ABlk}
theorem BlkMv.one {r : Nat → Option Nat} {H : List ABlk} {ty sz : Nat} {e e2 : AV} (h : MvL r H e.cells e2.cells) : BlkMv r H ⟨ty, sz, [e]⟩ ⟨ty, sz, [e2]⟩ :=
  ⟨rfl, rfl, rfl, fun i x x2 h1 h2 => by
    cases i with
    | succ i => simp at h1
    | zero =>
      simp at h1 h2; subst h1; subst h2
      exact ⟨h.len, h.get⟩⟩
end
end Go.Ab
namespace Go.Ab
open Go Go.RowKit
theorem Wk.wf {n : Fr} {E E2 : Env} {H H2 : List ABlk} (hH : H = H2 := by rfl) (h : WkE E E2 := by repeat (first | exact trivial | refine And.intro (Le.of_eq rfl) ?_ | refine And.intro (Le.bad _) ?_ | refine And.intro (Le.under_true _) ?_)) : Wk n ⟨E, H⟩ ⟨E2, H2⟩ := .env2 hH h
end Go.Ab
namespace Go.Ab
open Go Go.RowKit
section
variable {P : Program} {n : Fr} {Q : Exit → ASt → Prop} {c : Code}
end
end Go.Ab
namespace Go.Ab
open Go Go.RowKit
section
variable {p q : Prop}
end
section
variable {P : Program} {n : Fr} {q : Bool} {K : ASt → Prop} {Q : Exit → ASt → Prop} {s : ASt}
end
end Go.Ab
namespace Go.Ab
open Go Go.RowKit Go.MapKept

section
variable {α β : Type} [DecidableEq α] {P : Program} {w : World} {kt : TypeId} {enc : α → Value}
end
section
variable {P : Program} {w w' : World} {w0 : Base} {O : Nat → Prop} {ι : Nat → Option Nat} {H : List ABlk} {u : Value}
abbrev agg2 (p : Int × Int) : AV := .agg [.int p.1, .int p.2]
end
end Go.Ab
namespace Go.Ab
open Go Go.RowKit Go.MapKept
section
variable {P : Program} {w : World} {O : Nat → Prop} {ι : Nat → Option Nat} {H : List ABlk} {u : Value}
end
end Go.Ab
namespace Go.Ab
open Go Go.RowKit

section
variable {P : Program} {n : Fr} {w w' : World} {w0 : Base} {O : Nat → Prop} {ι ι' : Nat → Option Nat} {H H' : List ABlk} {u : Value}

inductive TrM (P : Program) (n : Fr) (HS : Nat → List ABlk) : List LOp → List (Option Nat) → List (List Nat) → Env → Env → Prop
  | nil (E : Env) : TrM P n HS [] [] [] E E
  | q (o : LOp) (l : List LOp) (sl : List (Option Nat)) (b : List Nat) (bl : List (List Nat)) (E : Env) (v : AV) (E' : Env) (h : ∀ S, S ∈ b → StepF P n (HS S) (lk E) o v) (hr : TrM P n HS l sl bl (putE E o.dst v) E') : TrM P n HS (o :: l) (none :: sl) (b :: bl) E E'
  | p (o : LOp) (l : List LOp) (sl : List (Option Nat)) (b : List Nat) (bl : List (List Nat)) (E : Env) (v : AV) (E' : Env) (c : Nat) (h : ∀ S, S ∈ b → StepG P n (HS S) (lk E) o v (HS (S ||| 2 ^ c))) (hr : TrM P n HS l sl bl (putE E o.dst v) E') : TrM P n HS (o :: l) (some c :: sl) (b :: bl) E E'

theorem TrM.all {HS : Nat → List ABlk} : ∀ {l : List LOp} {sl : List (Option Nat)} {bl : List (List Nat)} {E E' : Env}, TrM P n HS l sl bl E E' → ∃ (g : Nat → Nat → AV) (vs : Nat → AV), g 0 = lk E ∧ g l.length = lk E' ∧
    ∀ i o, l[i]? = some o → ((sl.getD i none = none ∧ ∀ S, S ∈ bl.getD i [] → StepF P n (HS S) (g i) o (vs i)) ∨ ∃ c, sl.getD i none = some c ∧ ∀ S, S ∈ bl.getD i [] → StepG P n (HS S) (g i) o (vs i) (HS (S ||| 2 ^ c))) ∧ g (i + 1) = updF (g i) o.dst (vs i)
  | _, _, _, E, _, .nil _ => ⟨fun _ => lk E, fun _ => .bad, rfl, rfl, fun i o h => by simp at h⟩
  | _, _, _, E, E', .q o l sl b bl _ v _ h hr => by
    obtain ⟨g, vs, h4, h5, h6⟩ := hr.all
    refine ⟨fun i => match i with | 0 => lk E | i + 1 => g i, fun i => match i with | 0 => v | i + 1 => vs i, rfl, h5, fun i o' ho' => ?_⟩
    cases i with
    | zero =>
      simp at ho'; subst ho'
      exact ⟨.inl ⟨rfl, h⟩, by show g 0 = _; rw [h4, lk_putE]⟩
    | succ i => exact h6 i o' (by simpa using ho')
  | _, _, _, E, E', .p o l sl b bl _ v _ c h hr => by
    obtain ⟨g, vs, h4, h5, h6⟩ := hr.all
    refine ⟨fun i => match i with | 0 => lk E | i + 1 => g i, fun i => match i with | 0 => v | i + 1 => vs i, rfl, h5, fun i o' ho' => ?_⟩
    cases i with
    | zero =>
      simp at ho'; subst ho'
      exact ⟨.inr ⟨c, rfl, h⟩, by show g 0 = _; rw [h4, lk_putE]⟩
    | succ i => exact h6 i o' (by simpa using ho')

def MRun (P : Program) (n : Fr) (HS : Nat → List ABlk) (l : List LOp) (sl : List (Option Nat)) (bl : List (List Nat)) (K : Env → Prop) (E : Env) : Prop := ∃ E', TrM P n HS l sl bl E E' ∧ K E'
section
variable {HS : Nat → List ABlk} {b : List Nat} {o : LOp} {l : List LOp} {sl : List (Option Nat)} {bl : List (List Nat)} {E : Env} {v : AV} {K : Env → Prop}
theorem MRun.nil (h : K E) : MRun P n HS [] [] [] K E := ⟨E, .nil E, h⟩
theorem MRun.q1 (hg : o.g = none) (hd : dstOk n o.dst = true) (h : ∀ S, S ∈ b → QL P (HS S) (ev E) o.op v) (hr : MRun P n HS l sl bl K (putE E o.dst v)) : MRun P n HS (o :: l) (none :: sl) (b :: bl) K E :=
  let ⟨E', h1, h2⟩ := hr; ⟨E', .q o l sl b bl E v E' (fun S hS => .q1 v hg hd (by rw [show evF (lk E) = ev E from funext fun x => (ev_eq E x).symm]; exact (h S hS).t)) h1, h2⟩
theorem MRun.p1 {c : Nat} (hg : o.g = none) (hd : dstOk n o.dst = true) (h : ∀ S, S ∈ b → PLo P (HS S) (ev E) o.op v (HS (S ||| 2 ^ c))) (hr : MRun P n HS l sl bl K (putE E o.dst v)) : MRun P n HS (o :: l) (some c :: sl) (b :: bl) K E :=
  let ⟨E', h1, h2⟩ := hr; ⟨E', .p o l sl b bl E v E' c (fun S hS => ⟨hg, hd, by rw [show evF (lk E) = ev E from funext fun x => (ev_eq E x).symm]; exact h S hS⟩) h1, h2⟩
end

theorem Sit.fill (hs : Sit w0 O ι H w) {b : Nat} {blk0 : ABlk} (hb0 : H[b]? = some blk0) (he0 : blk0.es = []) (blk : ABlk) (hne : blk.es ≠ []) (c : Array Value) (hmt : blk.ty < mapTy) (h1 : blk.es.length * blk.sz ≤ c.size) (h2 : ∀ e ∈ blk.es, e.cells.length = blk.sz)
    (h3 : ∀ (i j : Nat) (e d : AV), blk.es[i]? = some e → e.cells[j]? = some d → ∃ u, c[i * blk.sz + j]? = some u ∧ VR w (OO O ι H) ι H d u) :
    Sit w0 O (upd ι b w.heap.size) (H.set b blk) (w.alloc (.cells c blk.ty)) ∧
    Goes w (OO O ι H) ι H (w.alloc (.cells c blk.ty)) (OO O (upd ι b w.heap.size) (H.set b blk)) (upd ι b w.heap.size) (H.set b blk) := by
  have hbl : b < H.length := (List.getElem?_eq_some_iff.1 hb0).1
  have hb : Below w.heap.size w (w.alloc (.cells c blk.ty)) := (Below.refl _ _).alloc (by omega) _
  obtain ⟨H2, hH2⟩ : ∃ H2, H2 = H.set b blk := ⟨_, rfl⟩
  rw [← hH2]
  have hlen2 : H2.length = H.length := by rw [hH2]; simp
  have hget : ∀ b' bk, H2[b']? = some bk → (b' = b ∧ bk = blk) ∨ (b' ≠ b ∧ H[b']? = some bk) := by
    intro b' bk h
    rw [hH2, List.getElem?_set] at h
    by_cases e : b = b'
    · subst e; rw [if_pos rfl, if_pos hbl] at h; injection h with h; exact .inl ⟨rfl, h.symm⟩
    · rw [if_neg e] at h; exact .inr ⟨fun e' => e e'.symm, h⟩
  have hinv : ∀ b' x, b' < H2.length → upd ι b w.heap.size b' = some x → (b' = b ∧ x = w.heap.size) ∨ (b' ≠ b ∧ b' < H.length ∧ ι b' = some x) := by
    intro b' x hb' hx
    by_cases e : b' = b
    · subst e; rw [upd_same] at hx; injection hx with hx; exact .inl ⟨rfl, hx.symm⟩
    · rw [upd_other e] at hx; exact .inr ⟨e, by omega, hx⟩
  have hrng : ∀ b x, b < H.length → ι b = some x → x < w.heap.size := fun b x hb hx => (hs.heap b _ x (List.getElem?_eq_getElem hb) hx).2.lt
  have g : Goes w (OO O ι H) ι H (w.alloc (.cells c blk.ty)) (OO O (upd ι b w.heap.size) H2) (upd ι b w.heap.size) H2 := by
    refine ⟨fun p u _ h => by rw [hb.block p (heap_lt h)]; exact h, fun p u h hc => ?_, fun b' bk h => ?_, fun b' x bk bk' c' ty fz h1 h2 hl hi h => ?_⟩
    · rintro (ho | ⟨b', hbl', hx⟩)
      · exact h (.inl ho)
      · rcases hinv b' _ hbl' hx with ⟨_, e⟩ | ⟨_, h4, h5⟩
        · have := heap_lt hc; omega
        · exact h (.inr ⟨b', h4, h5⟩)
    · by_cases e : b' = b
      · subst e
        rw [hb0] at h; injection h with h; subst h
        refine ⟨blk, by rw [hH2]; simp [hbl], by rw [he0]; simp, fun he => ?_⟩
        rw [he0] at he
        exact absurd (List.eq_nil_of_length_eq_zero he) hne
      · exact ⟨bk, by rw [hH2, List.getElem?_set_ne (fun e' => e e'.symm)]; exact h, Nat.le_refl _, fun _ => ⟨rfl, upd_other e⟩⟩
    · have hlt : x < w.heap.size := hrng b' x (List.getElem?_eq_some_iff.1 h1).1 hi
      exact ⟨c', ty, fz, by rw [hb.block x hlt]; exact h, rfl⟩
  refine ⟨⟨fun b' bk x h hx => ?_, fun b' bk h hx => ?_, fun b1 b2 x h h' hx hx' => ?_, hs.below.step hb, fun x hx => Nat.lt_of_lt_of_le (hs.old x hx) hb.size, fun x b' hO hbl' hx => ?_, hs.hist.trans g.grow⟩, g⟩
  · rcases hget b' bk h with ⟨rfl, rfl⟩ | ⟨hne', h'⟩
    · rw [upd_same] at hx; injection hx with hx; subst hx
      refine ⟨.inl hs.below.size, c, ?_, h1, h2, fun i j e d he hd => ?_⟩
      · rw [rowAt, heap_alloc_new w _]; simp [objRow, hmt]
      · obtain ⟨u, hu, hv⟩ := h3 i j e d he hd
        exact ⟨u, hu, hv.mono g⟩
    · rw [upd_other hne'] at hx
      obtain ⟨h6, h7⟩ := hs.heap b' bk x h' hx
      exact ⟨h6, h7.mono g (hb.block x h7.lt)⟩
  · rcases hget b' bk h with ⟨rfl, rfl⟩ | ⟨hne', h'⟩
    · rw [upd_same] at hx; cases hx
    · rw [upd_other hne'] at hx; exact hs.empt b' bk h' hx
  · rcases hinv b1 x h hx with ⟨rfl, rfl⟩ | ⟨n1, h4, h5⟩
    · rcases hinv b2 _ h' hx' with ⟨rfl, _⟩ | ⟨_, h6, h7⟩
      · rfl
      · have := hrng b2 _ h6 h7; omega
    · rcases hinv b2 x h' hx' with ⟨rfl, rfl⟩ | ⟨_, h6, h7⟩
      · have := hrng b1 _ h4 h5; omega
      · exact hs.inj b1 b2 x h4 h6 h5 h7
  · rcases hinv b' x hbl' hx with ⟨_, e⟩ | ⟨_, h4, h5⟩
    · have := hs.old x hO; omega
    · exact hs.disj x b' hO h4 h5
end
end Go.Ab
namespace Go.Ab
open Go Go.RowKit
section
variable {P : Program} {n : Fr} {Q : Exit → ASt → Prop} {s : ASt}
def AWpI (P : Program) (n : Fr) (c : Code) (Q : Exit → ASt → Prop) (s : ASt) : Prop :=
  ∀ (w0 : Base) (O : Nat → Prop) (ι : Nat → Option Nat) (a : Act) (w : World), SR n w0 O s ι a w → ∀ (b : Frame) (k : List Item) (cs : List Frame),
    ∃ e a' w', liftQ w0 O n Q e a' w' ∧ Arrives P (lone (b.at a (.code c :: .inLoop c :: k)) cs w) b k cs e a' w'
theorem AWpI.turn {c : Code} (h : AWp P n c (thenQ (AWpI P n c Q) Q) s) : AWpI P n c Q s := by
  intro w0 O ι a w hs b k cs
  obtain ⟨e, a1, w1, ⟨s', ι', hq, hs'⟩, harr⟩ := h w0 O ι a w hs b (.inLoop c :: k) cs
  cases e with
  | normal =>
    obtain ⟨e2, a2, w2, hq2, harr2⟩ := hq w0 O ι' a1 w1 hs' b k cs
    exact ⟨e2, a2, w2, hq2, .of_steps (Steps.trans harr (.one step_inLoop)) harr2⟩
  | exit id => exact ⟨_, a1, w1, ⟨s', ι', hq, hs'⟩, .pass (x := .inLoop c) rfl (fun _ _ => .inl (by simp)) harr⟩
  | goto l => exact ⟨_, a1, w1, ⟨s', ι', hq, hs'⟩, .pass (x := .inLoop c) rfl (fun _ _ => .inl (by simp)) harr⟩
  | ret => exact ⟨_, a1, w1, ⟨s', ι', hq, hs'⟩, .pass (x := .inLoop c) rfl (fun _ _ => .inl (by simp)) harr⟩
  | panic ch => exact ⟨_, a1, w1, ⟨s', ι', hq, hs'⟩, .pass (x := .inLoop c) rfl (fun _ _ => .inl (by simp)) harr⟩
  | outgrown => exact ⟨_, a1, w1, ⟨s', ι', hq, hs'⟩, .pass (x := .inLoop c) rfl (fun _ _ => .inl (by simp)) harr⟩
theorem AWp.turn {c : Code} (h : AWp P n c (thenQ (AWpI P n c Q) Q) s) : AWp P n (.loop c) Q s := by
  intro w0 O ι a w hs b k cs
  obtain ⟨e, a', w', hq, harr⟩ := AWpI.turn h w0 O ι a w hs b k cs
  exact ⟨e, a', w', hq, .of_steps (.one step_loop) harr⟩
end
end Go.Ab
namespace Go.Ab
open Go Go.RowKit
section
variable {P : Program} {H : List ABlk} {ρ : Operand → AV}
end
end Go.Ab
namespace Go.Ab
open Go Go.RowKit
section
variable {P : Program} {H : List ABlk} {ρ : Operand → AV}
end
end Go.Ab
namespace Go.Ab
open Go Go.RowKit
def LeL : List AV → List AV → Prop
  | [], [] => True
  | a :: l, b :: m => Le a b ∧ LeL l m
  | _, _ => False
theorem LeL.len : ∀ {l m : List AV}, LeL l m → l.length = m.length
  | [], [], _ => rfl
  | _ :: l, _ :: m, h => congrArg (· + 1) (LeL.len h.2)
theorem LeL.get : ∀ {l m : List AV}, LeL l m → ∀ (j : Nat) (a b : AV), l[j]? = some a → m[j]? = some b → Le a b
  | a :: l, b :: m, h, 0, x, y, hx, hy => by
    injection hx with hx; injection hy with hy; subst hx; subst hy; exact h.1
  | a :: l, b :: m, h, j + 1, x, y, hx, hy => LeL.get h.2 j x y hx hy
theorem LeL.at {l m : List AV} (h : LeL l m) {j : Nat} {b : AV} (hb : m[j]? = some b) : ∃ a, l[j]? = some a ∧ Le a b := by
  have hj : j < l.length := by rw [h.len]; exact (List.getElem?_eq_some_iff.1 hb).1
  exact ⟨_, List.getElem?_eq_getElem hj, h.get j _ b (List.getElem?_eq_getElem hj) hb⟩
theorem Le.nil : Le (.base (.slice none 0 0)) (.lst []) := fun w O ι H u hu => by cases hu; exact .lnil
theorem Le.aggL {cs ds : List AV} (h : LeL cs ds) : Le (.agg cs) (.agg ds) := fun w O ι H u hu => by
  cases hu with
  | agg cs arr hlen hh =>
    refine .agg ds arr (by rw [hlen, h.len]) fun j c u hc hu => ?_
    obtain ⟨a, ha, hl⟩ := h.at hc
    exact hl _ _ _ _ _ (hh j a u ha hu)
theorem Le.lst1 {e d : AV} (h : LeL e.cells d.cells) : Le (.lst [e]) (.lst [d]) := fun w O ι H u hu => by
  cases hu with
  | lst es a n cap s val hn hcap hmax hlen hspot hc hv =>
    refine .lst [d] a n cap s val hn hcap hmax (fun x hx => ?_) (fun x hx => hspot e (List.mem_singleton.2 rfl)) (fun i j x c hx hc' => ?_) (fun i j x c hx hc' => ?_)
    · rw [List.mem_singleton] at hx; subst hx
      rw [← h.len]; exact hlen e (List.mem_singleton.2 rfl)
    · cases i with
      | zero =>
        injection hx with hx; subst hx
        obtain ⟨y, hy, _⟩ := h.at hc'
        exact hc 0 j e y rfl hy
      | succ i => cases hx
    · cases i with
      | zero =>
        injection hx with hx; subst hx
        obtain ⟨y, hy, hl⟩ := h.at hc'
        exact hl _ _ _ _ _ (hv 0 j e y rfl hy)
      | succ i => cases hx
theorem FnM.le {P : Program} {m : List (Nat × Obj)} {f : FuncId} {args args' : List AV} {d : AV} (h : FnM P m f args d) (hl : LeL args' args) : FnM P m f args' d :=
  ⟨h.1, fun w O vs h1 h2 h3 h4 => h.2 w O vs h1 h2 (h3.trans hl.len) fun j a u ha hu => by
    obtain ⟨b, hb, hle⟩ := hl.at ha
    exact hle _ _ _ _ _ (h4 j b u hb hu)⟩
end Go.Ab
namespace Go.Ab
open Go Go.RowKit
section
variable {P : Program} {n : Fr} {s : ASt}
def noG (Q : Exit → ASt → Prop) : Exit → ASt → Prop
  | .goto _, _ => False
  | e, s => Q e s
theorem AWp.scope {c : Code} {Q : Exit → ASt → Prop} (h : AWp P n c (noG Q) s) : AWp P n (.scope c) Q s := fun w0 O ι a w hs => by
  refine wp_scope_straight (wp_mono (h w0 O ι a w hs) ?_)
  rintro e a w ⟨s', ι', h1, h2⟩
  cases e with
  | goto l => exact h1.elim
  | _ => exact ⟨s', ι', h1, h2⟩
theorem AWp.label {l : Nat} {Q : Exit → ASt → Prop} (h : Q .normal s) : AWp P n (.label l) Q s := fun w0 O ι a w hs => wp_label ⟨s, ι, h, hs⟩
end
end Go.Ab
namespace Go.Ab
open Go Go.RowKit
section
variable {P : Program} {n : Fr} {HS : Nat → List ABlk} {o : LOp} {l : List LOp} {sl : List (Option Nat)} {bl : List Nat} {E : Env} {v : AV} {K : Env → Prop}
theorem BRun.qf2 (hg : o.g = none) (hd : dstOk n o.dst = true) (h0 : qfun P (HS 0) (ev E) o.op = some v) (h1 : qfun P (HS 1) (ev E) o.op = some v) (h2 : qfun P (HS 2) (ev E) o.op = some v) (hr : BRun P n HS 2 l sl bl K (putE E o.dst v)) : BRun P n HS 2 (o :: l) (none :: sl) (2 :: bl) K E :=
  .q1 hg hd (fun c hc hb => ql_fun (by rcases (by omega : c = 0 ∨ c = 1 ∨ c = 2) with h | h | h <;> subst h <;> assumption)) hr
end
end Go.Ab
namespace Go.Ab
open Go Go.RowKit

section
variable {P : Program} {H : List ABlk} {ρ : Operand → AV}
theorem ql_slice_own {t el : TypeId} {x : Operand} {lo hi : Option Operand} {b tot off len l h : Nat} {blk : ABlk} (hx : ρ x = .own b tot off len) (ht : P.underlying t = some (.slice el)) (hb : H[b]? = some blk) (htot : blk.es.length = tot)
    (hlo : bnd ρ 0 lo = some l) (hhi : bnd ρ len hi = some h) (hlh : l ≤ h) (hh : h ≤ len) (hsz : szTy P el = some blk.sz) : QL P H ρ (.slice t x lo hi none) (.own b tot (off + l) (h - l)) := by
  refine QL.of_run fun w0 O ι a w hs hv o ho => ?_
  have h1 := hv x (by simp [Op.operands])
  have hv2 : ∀ y, (lo = some y ∨ hi = some y) → VR w (OO O ι H) ι H (ρ y) (a.eval y) := by
    rintro y (rfl | rfl) <;> exact hv y (by simp [Op.operands])
  rw [hx] at h1
  generalize hX : a.eval x = X at h1
  cases h1 with
  | staleOwn b tot off len blk' ad n c hb' hlt => rw [hb] at hb'; cases hb'; omega
  | ownNil b blk' hb' he hi' =>
    have hr := sliceBounds_run (P := P) (cap := 0) (isSl := true) hv2 hlo hhi hlh (by omega)
    have : l = 0 := by omega
    have : h = 0 := by omega
    subst l; subst h
    refine ⟨.slice none 0 0, ?_, .ownNil b blk' hb' he hi'⟩
    simp only [execOp, ho, hX, Instr.sliceAt, run_underlying ht, Instr.slice, Option.map_none, hr, sizeOf_run hsz, Sem.run_bind, Sem.run_pure, Result.andThen_ok, if_true, Nat.sub_zero]
  | own b tot off len blk' y n cap ad hb' ht' hi' hn hl hcap ha =>
    have hbb := hb'
    rw [hb] at hbb; cases hbb
    subst hn
    have hr := sliceBounds_run (P := P) (cap := cap) (isSl := true) hv2 hlo hhi hlh (by omega)
    by_cases hcl : cap = l
    · refine ⟨.slice (some ad) (h - l) (cap - l), ?_, ?_⟩
      · simp only [execOp, ho, hX, Instr.sliceAt, run_underlying ht, Instr.slice, Option.map_none, hr, sizeOf_run hsz, Sem.run_bind, Sem.run_pure, Result.andThen_ok, if_pos hcl]
      · refine .own b tot (off + l) (h - l) blk y _ _ _ hb' ht' hi' rfl (by omega) (by omega) fun hc => ?_
        obtain ⟨h2, h3, h4⟩ := ha (.inr (by omega))
        have e1 : l = 0 := by omega
        have e2 : off = 0 := by omega
        subst e1; subst e2
        exact ⟨by simpa using h2, by omega, by simpa using h4⟩
    · refine ⟨.slice (some (ad.add (l * blk.sz))) (h - l) (cap - l), ?_, ?_⟩
      · simp only [execOp, ho, hX, Instr.sliceAt, run_underlying ht, Instr.slice, Option.map_none, hr, sizeOf_run hsz, Sem.run_bind, Sem.run_pure, Result.andThen_ok, if_neg hcl, Option.map_some]
      · refine .own b tot (off + l) (h - l) blk y _ _ _ hb' ht' hi' rfl (by omega) (by omega) fun hc => ?_
        obtain ⟨h2, h3, c, ty, fz, h4, h5⟩ := ha (.inl (by omega))
        subst h2
        refine ⟨?_, by omega, c, ty, fz, h4, by rw [← h5]; congr 1; omega⟩
        rw [add_eq _ _ rfl, Nat.add_mul]
end
end Go.Ab
