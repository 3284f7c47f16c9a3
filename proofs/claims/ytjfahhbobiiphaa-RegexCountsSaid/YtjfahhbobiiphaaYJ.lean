/- Part of the proof. -/
import Derived.Test.YtjfahhbobiiphaaYI
import Derived.Test.YtjfahhbobiiphaaXV
set_option linter.unusedSimpArgs false
set_option linter.unusedVariables false
namespace Go.Ab
open Go Go.Ab Go.Proofs

abbrev B64 := BitVec 64
def bt (n : Nat) : B64 := 1#64 <<< n
theorem bt_get {n i : Nat} (h : n < 64) : (bt n).getLsbD i = decide (i = n) := by
  unfold bt
  rw [BitVec.getLsbD_shiftLeft, BitVec.getLsbD_one]
  by_cases e : i = n
  · subst e; simp [h]
  · simp only [e, decide_false]
    by_cases h1 : i < 64 <;> simp [h1]
    omega
structure Ch where
  b : List ByteArray
  f : List B64
structure En where
  fi : B64
  la : B64
  em : Bool
def lnk (fr to : B64) (f : List B64) : List B64 := f.mapIdx fun i x => if fr.getLsbD i then x ||| to else x
def addA (out e : En) : En := ⟨out.fi ||| e.fi, out.la ||| e.la, out.em || e.em⟩
def addC (out e : En) : En := ⟨if out.em then out.fi ||| e.fi else out.fi, (if e.em then out.la else 0) ||| e.la, out.em && e.em⟩
mutual
def gA : Rx → Ch → Ch × En
  | .mk o S l, c => if o = 2 then (c, ⟨0, 0, true⟩) else if o = 3 then (⟨c.b ++ [S], c.f ++ [0]⟩, ⟨bt c.b.length, bt c.b.length, false⟩)
    else if o = 6 then gS l c else if o = 5 then gL l c ⟨0, 0, false⟩ else if o = 4 then gC l c ⟨0, 0, true⟩ else (c, ⟨0, 0, false⟩)
def gS : List Rx → Ch → Ch × En
  | [], c => (c, ⟨0, 0, false⟩)
  | x :: _, c => (⟨(gA x c).1.b, lnk (gA x c).2.la (gA x c).2.fi (gA x c).1.f⟩, ⟨(gA x c).2.fi, (gA x c).2.la, true⟩)
def gL : List Rx → Ch → En → Ch × En
  | [], c, out => (c, out)
  | x :: l, c, out => gL l (gA x c).1 (addA out (gA x c).2)
def gC : List Rx → Ch → En → Ch × En
  | [], c, out => (c, out)
  | x :: l, c, out => gC l ⟨(gA x c).1.b, lnk out.la (gA x c).2.fi (gA x c).1.f⟩ (addC out (gA x c).2)
end
mutual
def lvs : Rx → Nat
  | .mk o S l => if o = 3 then 1 else lvsL l
def lvsL : List Rx → Nat
  | [] => 0
  | x :: l => lvs x + lvsL l
end
theorem lvs_mk (o : Int) (S : ByteArray) (l : List Rx) : lvs (.mk o S l) = if o = 3 then 1 else lvsL l := by rw [lvs]
def Bc (b : List ByteArray) (p : Nat) (a : Fin 95) : Prop := ∃ S, b[p]? = some S ∧ isIn S (lb a)
def bs (x : B64) (p : Nat) : Prop := x.getLsbD p = true
def folR (lo hi : Nat) (f : List B64) (p q : Nat) : Prop := lo ≤ p ∧ p < hi ∧ ∃ x, f[p]? = some x ∧ bs x q
theorem bs_zero (p : Nat) : ¬ bs 0 p := by unfold bs; simp
theorem bs_zero' (p : Nat) : bs (0#64) p ↔ False := ⟨bs_zero p, fun h => h.elim⟩
theorem bs_or (x y : B64) (p : Nat) : bs (x ||| y) p ↔ bs x p ∨ bs y p := by unfold bs; simp
theorem bs_bt {n p : Nat} (h : n < 64) : bs (bt n) p ↔ p = n := by unfold bs; rw [bt_get h]; simp
theorem lnk_len (fr to : B64) (f : List B64) : (lnk fr to f).length = f.length := by simp [lnk]
theorem lnk_get (fr to : B64) (f : List B64) (i : Nat) : (lnk fr to f)[i]? = (f[i]?).map fun x => if fr.getLsbD i then x ||| to else x := by simp [lnk, List.getElem?_mapIdx]
structure AddOk (c : Ch) (k : Nat) (q : Ch × En) (L : Lg) : Prop where
  lb : q.1.b.length = c.b.length + k
  lf : q.1.f.length = c.b.length + k
  pb : ∀ i, i < c.b.length → q.1.b[i]? = c.b[i]?
  pf : ∀ i, i < c.b.length → q.1.f[i]? = c.f[i]?
  ok : GlOk (Bc q.1.b) c.b.length (c.b.length + k) (bs q.2.fi) (bs q.2.la) (folR c.b.length (c.b.length + k) q.1.f) (q.2.em = true) L
theorem lnk_pre {fr to : B64} {f : List B64} {i : Nat} (h : ¬ bs fr i) : (lnk fr to f)[i]? = f[i]? := by
  have h : fr.getLsbD i = false := by simpa [bs] using h
  rw [lnk_get, h]; simp
theorem folR_lnk {lo hi : Nat} {fr to : B64} {f : List B64} {p q : Nat} (hf : ∀ p, bs fr p → lo ≤ p ∧ p < hi) (hl : hi ≤ f.length) : folR lo hi (lnk fr to f) p q ↔ folR lo hi f p q ∨ (bs fr p ∧ bs to q) := by
  unfold folR
  rw [lnk_get]
  constructor
  · rintro ⟨h1, h2, x, h3, h4⟩
    cases hx : f[p]? with
    | none => rw [hx] at h3; cases h3
    | some y =>
      rw [hx, Option.map_some] at h3
      injection h3 with h3
      by_cases hp : fr.getLsbD p
      · rw [if_pos hp] at h3
        rw [← h3, bs_or] at h4
        rcases h4 with h4 | h4
        · exact .inl ⟨h1, h2, y, rfl, h4⟩
        · exact .inr ⟨hp, h4⟩
      · rw [if_neg hp] at h3
        rw [← h3] at h4
        exact .inl ⟨h1, h2, y, rfl, h4⟩
  · rintro (⟨h1, h2, x, h3, h4⟩ | ⟨h1, h2⟩)
    · refine ⟨h1, h2, _, by rw [h3]; rfl, ?_⟩
      split
      · rw [bs_or]; exact .inl h4
      · exact h4
    · have h3 := hf p h1
      have h4 : p < f.length := by omega
      refine ⟨h3.1, h3.2, _, by rw [List.getElem?_eq_getElem h4]; rfl, ?_⟩
      have h5 : fr.getLsbD p = true := h1
      simp only [h5, if_true]
      rw [bs_or]; exact .inr h2
theorem folR_split {lo mid hi : Nat} {f : List B64} (h1 : lo ≤ mid) (h2 : mid ≤ hi) (p q : Nat) : folR lo hi f p q ↔ folR lo mid f p q ∨ folR mid hi f p q := by
  unfold folR
  constructor
  · rintro ⟨a, b, c⟩
    rcases Nat.lt_or_ge p mid with h | h
    · exact .inl ⟨a, h, c⟩
    · exact .inr ⟨h, b, c⟩
  · rintro (⟨a, b, c⟩ | ⟨a, b, c⟩)
    · exact ⟨a, by omega, c⟩
    · exact ⟨by omega, b, c⟩
theorem folR_pre {lo hi : Nat} {f f' : List B64} (h : ∀ i, i < hi → f'[i]? = f[i]?) (p q : Nat) : folR lo hi f' p q ↔ folR lo hi f p q := by
  unfold folR
  constructor
  · rintro ⟨a, b, c⟩; rw [h p b] at c; exact ⟨a, b, c⟩
  · rintro ⟨a, b, c⟩; rw [← h p b] at c; exact ⟨a, b, c⟩
theorem AddOk.alt {c : Ch} {k m : Nat} {q q2 : Ch × En} {L L2 : Lg} (h : AddOk c k q L) (h2 : AddOk q.1 m q2 L2) : AddOk c (k + m) (q2.1, addA q.2 q2.2) (fun w => L w ∨ L2 w) := by
  have e1 := h.lb
  have e2 := h.lf
  have e3 := h2.lb
  have e4 := h2.lf
  have hm := h2.ok
  rw [e1] at hm
  have h0 := h.ok
  have h0' : GlOk (Bc q2.1.b) c.b.length (c.b.length + k) (bs q.2.fi) (bs q.2.la) (folR c.b.length (c.b.length + k) q2.1.f) (q.2.em = true) L :=
    h0.congr (fun _ => Iff.rfl) (fun _ => Iff.rfl) (folR_pre fun i hi => h2.pf i (by omega)) Iff.rfl (fun _ => Iff.rfl) fun p a _ hp => by
      unfold Bc; rw [h2.pb p (by omega)]
  have := gl_alt h0' hm ⟨by omega, by omega⟩
  refine ⟨by simp only; omega, by simp only; omega, fun i hi => (h2.pb i (by omega)).trans (h.pb i hi), fun i hi => (h2.pf i (by omega)).trans (h.pf i hi), ?_⟩
  rw [Nat.add_assoc] at this
  refine this.congr (fun p => bs_or _ _ p) (fun p => bs_or _ _ p) (fun p q => ?_) (by simp [addA]) (fun _ => Iff.rfl) fun _ _ _ _ => Iff.rfl
  rw [folR_split (mid := c.b.length + k) (by omega) (by omega)]
theorem AddOk.cat {c : Ch} {k m : Nat} {q q2 : Ch × En} {L L2 : Lg} (h : AddOk c k q L) (h2 : AddOk q.1 m q2 L2) : AddOk c (k + m) (⟨q2.1.b, lnk q.2.la q2.2.fi q2.1.f⟩, addC q.2 q2.2) (fun w => ∃ u v, w = u ++ v ∧ L u ∧ L2 v) := by
  have e1 := h.lb
  have e2 := h.lf
  have e3 := h2.lb
  have e4 := h2.lf
  have hm := h2.ok
  rw [e1] at hm
  have h0 := h.ok
  have h0' : GlOk (Bc q2.1.b) c.b.length (c.b.length + k) (bs q.2.fi) (bs q.2.la) (folR c.b.length (c.b.length + k) q2.1.f) (q.2.em = true) L :=
    h0.congr (fun _ => Iff.rfl) (fun _ => Iff.rfl) (folR_pre fun i hi => h2.pf i (by omega)) Iff.rfl (fun _ => Iff.rfl) fun p a _ hp => by
      unfold Bc; rw [h2.pb p (by omega)]
  have := gl_cat h0' hm ⟨by omega, by omega⟩
  refine ⟨by simp only; omega, by simp only [lnk_len]; omega, fun i hi => (h2.pb i (by omega)).trans (h.pb i hi), fun i hi => ?_, ?_⟩
  · have : ¬ bs q.2.la i := fun hb => by have := h0.l i hb; omega
    exact (lnk_pre this).trans ((h2.pf i (by omega)).trans (h.pf i hi))
  rw [Nat.add_assoc] at this
  refine this.congr (fun p => ?_) (fun p => ?_) (fun p q => ?_) (by simp [addC]) (fun _ => Iff.rfl) fun _ _ _ _ => Iff.rfl
  · simp only [addC]
    split
    · rename_i h; rw [bs_or]; simp [h]
    · rename_i h; simp [h]
  · simp only [addC, bs_or]
    split
    · rename_i h; simp [h]
    · rename_i h; simp [h, bs_zero']
  · rw [folR_lnk (fun p hp => ⟨(h0.l p hp).1, by have := (h0.l p hp).2; omega⟩) (by omega), folR_split (mid := c.b.length + k) (by omega) (by omega), or_assoc]
theorem AddOk.star {c : Ch} {k : Nat} {q : Ch × En} {L : Lg} (h : AddOk c k q L) : AddOk c k (⟨q.1.b, lnk q.2.la q.2.fi q.1.f⟩, ⟨q.2.fi, q.2.la, true⟩) (StarW L) := by
  have e1 := h.lb
  have e2 := h.lf
  have h0 := h.ok
  have := gl_star h0
  refine ⟨e1, by simp only [lnk_len]; omega, fun i hi => h.pb i hi, fun i hi => ?_, ?_⟩
  · have : ¬ bs q.2.la i := fun hb => by have := h0.l i hb; omega
    exact (lnk_pre this).trans (h.pf i hi)
  refine this.congr (fun p => Iff.rfl) (fun p => Iff.rfl) (fun p q => ?_) (by simp) (fun _ => Iff.rfl) fun _ _ _ _ => Iff.rfl
  rw [folR_lnk (fun p hp => h0.l p hp) (by omega)]
theorem AddOk.lang {c : Ch} {k : Nat} {q : Ch × En} {L L' : Lg} (h : AddOk c k q L) (he : ∀ w, L' w ↔ L w) : AddOk c k q L' :=
  ⟨h.lb, h.lf, h.pb, h.pf, h.ok.congr (fun _ => Iff.rfl) (fun _ => Iff.rfl) (fun _ _ => Iff.rfl) Iff.rfl he fun _ _ _ _ => Iff.rfl⟩
theorem AddOk.none {c : Ch} (hc : c.f.length = c.b.length) : AddOk c 0 (c, ⟨0, 0, false⟩) (fun _ => False) :=
  ⟨rfl, hc, fun _ _ => rfl, fun _ _ => rfl, (gl_none (Bc c.b) c.b.length).congr (fun p => by simp [bs_zero']) (fun p => by simp [bs_zero']) (fun p q => by
    unfold folR; simp; omega) (by simp) (fun _ => Iff.rfl) fun _ _ _ _ => Iff.rfl⟩
theorem AddOk.emp {c : Ch} (hc : c.f.length = c.b.length) : AddOk c 0 (c, ⟨0, 0, true⟩) (fun w => w = []) :=
  ⟨rfl, hc, fun _ _ => rfl, fun _ _ => rfl, (gl_nil (Bc c.b) c.b.length).congr (fun p => by simp [bs_zero']) (fun p => by simp [bs_zero']) (fun p q => by
    unfold folR; simp; omega) (by simp) (fun _ => Iff.rfl) fun _ _ _ _ => Iff.rfl⟩
theorem AddOk.set {c : Ch} (hc : c.f.length = c.b.length) (hn : c.b.length < 64) (S : ByteArray) : AddOk c 1 (⟨c.b ++ [S], c.f ++ [0]⟩, ⟨bt c.b.length, bt c.b.length, false⟩) (fun w => ∃ a, w = [a] ∧ isIn S (Go.Ab.lb a)) := by
  refine ⟨by simp, by simp [hc], fun i hi => by simp only; rw [List.getElem?_append_left hi], fun i hi => by simp only; rw [List.getElem?_append_left (by omega)], ?_⟩
  have hB : ∀ a, Bc (c.b ++ [S]) c.b.length a ↔ isIn S (Go.Ab.lb a) := fun a => by
    unfold Bc; simp
  refine (gl_set (Bc (c.b ++ [S])) c.b.length).congr (fun p => bs_bt hn) (fun p => bs_bt hn) (fun p q => ?_) (by simp) (fun w => by simp [hB]) fun _ _ _ _ => Iff.rfl
  unfold folR
  simp only [iff_false]
  rintro ⟨h1, h2, x, h3, h4⟩
  have : p = c.f.length := by omega
  subst this
  simp at h3
  subst h3
  exact bs_zero _ h4
theorem gA_ok (r : Rx) : r.wf → r.tight → ∀ c : Ch, c.f.length = c.b.length → c.b.length + lvs r ≤ 63 → AddOk c (lvs r) (gA r c) (lng r) := by
  induction r using Rx.ind with
  | h o S l ih =>
  intro hw ht c hc hn
  have hl := (wf_sub.1 hw).2
  have hno := (wf_sub.1 hw).1
  obtain ⟨h7, h8, htl⟩ := tight_sub.1 ht
  replace ih := fun x hx => ih x hx (hl x hx) (htl x hx)
  unfold nodeOk at hno
  rw [lvs_mk] at hn ⊢
  rw [gA, lng_mk]
  by_cases h3 : o = 3
  · subst h3
    rw [if_pos rfl] at hn ⊢
    rw [if_neg (by omega), if_pos rfl]
    exact (AddOk.set hc (by omega) S).lang fun w => by unfold opL; simp
  rw [if_neg h3] at hno
  rw [if_neg h3] at hn ⊢
  rcases hno.2 with ⟨h1 | h1, h2⟩ | ⟨h1 | h1 | h1, h2, h28⟩ | ⟨h1 | h1, h2⟩
  · subst h1
    obtain rfl := List.eq_nil_of_length_eq_zero h2
    simp only [if_neg (show ¬ ((1 : Int) = 2) by omega), if_neg (show ¬ ((1 : Int) = 3) by omega), if_neg (show ¬ ((1 : Int) = 6) by omega), if_neg (show ¬ ((1 : Int) = 5) by omega), if_neg (show ¬ ((1 : Int) = 4) by omega)]
    exact (AddOk.none hc).lang fun w => by unfold opL; simp
  · subst h1
    obtain rfl := List.eq_nil_of_length_eq_zero h2
    rw [if_pos rfl]
    exact (AddOk.emp hc).lang fun w => by unfold opL; simp
  · subst h1
    simp only [if_neg (show ¬ ((4 : Int) = 2) by omega), if_neg (show ¬ ((4 : Int) = 3) by omega), if_neg (show ¬ ((4 : Int) = 6) by omega), if_neg (show ¬ ((4 : Int) = 5) by omega), if_true]
    clear h28 h2 hw ht hl hno htl
    have go : ∀ (l : List Rx) (q : Ch × En) (k : Nat) (P : List Lg), (∀ x ∈ l, ∀ c : Ch, c.f.length = c.b.length → c.b.length + lvs x ≤ 63 → AddOk c (lvs x) (gA x c) (lng x)) → AddOk c k q (catW P) → c.b.length + (k + lvsL l) ≤ 63 → AddOk c (k + lvsL l) (gC l q.1 q.2) (catW (P ++ l.map lng)) := by
      intro l
      induction l with
      | nil => intro q k P _ h _; rw [gC, lvsL, List.map_nil, List.append_nil, Nat.add_zero]; exact h
      | cons x l ih2 =>
        intro q k P ihl h hk
        rw [lvsL] at hk
        have h2 := ihl x (by simp) q.1 (h.lf.trans h.lb.symm) (by rw [h.lb]; omega)
        have h3 := (h.cat h2).lang (fun w => catW_snoc (lng x) P w)
        have h4 := ih2 (⟨(gA x q.1).1.b, lnk q.2.la (gA x q.1).2.fi (gA x q.1).1.f⟩, addC q.2 (gA x q.1).2) (k + lvs x) (P ++ [lng x]) (fun y hy => ihl y (by simp [hy])) h3 (by omega)
        rw [gC, lvsL, List.map_cons, ← Nat.add_assoc]
        rw [List.append_assoc] at h4
        exact h4
    have := go l (c, ⟨0, 0, true⟩) 0 [] ih ((AddOk.emp hc).lang fun w => Iff.rfl) (by omega)
    rw [Nat.zero_add] at this
    exact this.lang fun w => by unfold opL; simp
  · subst h1
    simp only [if_neg (show ¬ ((5 : Int) = 2) by omega), if_neg (show ¬ ((5 : Int) = 3) by omega), if_neg (show ¬ ((5 : Int) = 6) by omega), if_true]
    clear h28 h2 hw ht hl hno htl
    have go : ∀ (l : List Rx) (q : Ch × En) (k : Nat) (P : List Lg), (∀ x ∈ l, ∀ c : Ch, c.f.length = c.b.length → c.b.length + lvs x ≤ 63 → AddOk c (lvs x) (gA x c) (lng x)) → AddOk c k q (fun w => ∃ L ∈ P, L w) → c.b.length + (k + lvsL l) ≤ 63 → AddOk c (k + lvsL l) (gL l q.1 q.2) (fun w => ∃ L ∈ P ++ l.map lng, L w) := by
      intro l
      induction l with
      | nil => intro q k P _ h _; rw [gL, lvsL, List.map_nil, List.append_nil, Nat.add_zero]; exact h
      | cons x l ih2 =>
        intro q k P ihl h hk
        rw [lvsL] at hk
        have h2 := ihl x (by simp) q.1 (h.lf.trans h.lb.symm) (by rw [h.lb]; omega)
        have h3 : AddOk c (k + lvs x) ((gA x q.1).1, addA q.2 (gA x q.1).2) (fun w => ∃ L ∈ P ++ [lng x], L w) := (h.alt h2).lang (fun w => by
          constructor
          · rintro ⟨L, hL, hw⟩
            rcases List.mem_append.1 hL with h | h
            · exact .inl ⟨L, h, hw⟩
            · rw [List.mem_singleton] at h; subst h; exact .inr hw
          · rintro (⟨L, hL, hw⟩ | hw)
            · exact ⟨L, List.mem_append.2 (.inl hL), hw⟩
            · exact ⟨lng x, by simp, hw⟩)
        have h4 := ih2 ((gA x q.1).1, addA q.2 (gA x q.1).2) (k + lvs x) (P ++ [lng x]) (fun y hy => ihl y (by simp [hy])) h3 (by omega)
        rw [gL, lvsL, List.map_cons, ← Nat.add_assoc]
        rw [List.append_assoc] at h4
        exact h4
    have := go l (c, ⟨0, 0, false⟩) 0 [] ih ((AddOk.none hc).lang fun w => by simp) (by omega)
    rw [Nat.zero_add] at this
    exact this.lang fun w => by unfold opL; simp
  · exact absurd h1 h7
  · subst h1
    match l, h2 with
    | [x], _ =>
    simp only [if_neg (show ¬ ((6 : Int) = 2) by omega), if_neg (show ¬ ((6 : Int) = 3) by omega), if_true]
    rw [lvsL, lvsL, Nat.add_zero] at hn ⊢
    have := (ih x (by simp) c hc hn).star
    rw [gS]
    exact this.lang fun w => by unfold opL; simp
  · exact absurd h1 h8
end Go.Ab
namespace Go.Ab
open Go Go.Ab Go.Proofs

structure Cx where
  b : List ByteArray
  f : List B64
  fi : B64
  la : B64
  em : Bool
def chX0 (r : Rx) : Cx := ⟨(gA r ⟨[], []⟩).1.b, (gA r ⟨[], []⟩).1.f, (gA r ⟨[], []⟩).2.fi, (gA r ⟨[], []⟩).2.la, (gA r ⟨[], []⟩).2.em⟩
def toC (c : Cx) (s : B64) : Nat → B64
  | 0 => if s.getLsbD 63 then c.fi else 0
  | k + 1 => if s.getLsbD k then toC c s k ||| c.f.getD k 0 else toC c s k
open Classical in
noncomputable def outC (c : Cx) (t : B64) (x : UInt8) : Nat → B64
  | 0 => 0
  | k + 1 => if t.getLsbD k = true ∧ isIn (c.b.getD k ByteArray.empty) x then outC c t x k ||| bt k else outC c t x k
noncomputable def nxC (c : Cx) (s : B64) (x : UInt8) : B64 := outC c (toC c s c.f.length) x c.b.length
def accC (c : Cx) (s : B64) : Bool := decide (s &&& c.la ≠ 0) || (c.em && s.getLsbD 63)
def stC : B64 := bt 63
theorem toC_get (c : Cx) (s : B64) (q : Nat) : ∀ k, k ≤ c.f.length → (bs (toC c s k) q ↔ (bs s 63 ∧ bs c.fi q) ∨ ∃ p, p < k ∧ bs s p ∧ ∃ x, c.f[p]? = some x ∧ bs x q)
  | 0, _ => by
    rw [toC]
    split
    · rename_i h
      exact ⟨fun hq => .inl ⟨h, hq⟩, fun hq => by
        rcases hq with hq | ⟨p, hp, _⟩
        · exact hq.2
        · omega⟩
    · rename_i h
      exact ⟨fun hq => (bs_zero q hq).elim, fun hq => by
        rcases hq with hq | ⟨p, hp, _⟩
        · exact absurd hq.1 h
        · omega⟩
  | k + 1, hk => by
    have ih := toC_get c s q k (by omega)
    have hg : c.f[k]? = some (c.f.getD k 0) := by rw [List.getD_eq_getElem?_getD, List.getElem?_eq_getElem (by omega)]; rfl
    rw [toC]
    split
    · rename_i h
      rw [bs_or, ih]
      constructor
      · rintro ((h1 | ⟨p, h1, h2⟩) | h1)
        · exact .inl h1
        · exact .inr ⟨p, by omega, h2⟩
        · exact .inr ⟨k, by omega, h, _, hg, h1⟩
      · rintro (h1 | ⟨p, h1, h2, x, h3, h4⟩)
        · exact .inl (.inl h1)
        · rcases Nat.lt_or_ge p k with h5 | h5
          · exact .inl (.inr ⟨p, h5, h2, x, h3, h4⟩)
          · obtain rfl : p = k := by omega
            rw [hg] at h3; injection h3 with h3; exact .inr (h3 ▸ h4)
    · rename_i h
      rw [ih]
      constructor
      · rintro (h1 | ⟨p, h1, h2⟩)
        · exact .inl h1
        · exact .inr ⟨p, by omega, h2⟩
      · rintro (h1 | ⟨p, h1, h2, h3⟩)
        · exact .inl h1
        · rcases Nat.lt_or_ge p k with h5 | h5
          · exact .inr ⟨p, h5, h2, h3⟩
          · obtain rfl : p = k := by omega
            exact absurd h2 h
theorem outC_get (c : Cx) (t : B64) (x : UInt8) (q : Nat) : ∀ k, k ≤ c.b.length → k ≤ 64 → (bs (outC c t x k) q ↔ q < k ∧ bs t q ∧ ∃ S, c.b[q]? = some S ∧ isIn S x)
  | 0, _, _ => by simp [outC, bs_zero']
  | k + 1, hk, h64 => by
    have ih := outC_get c t x q k (by omega) (by omega)
    have hg : c.b[k]? = some (c.b.getD k ByteArray.empty) := by rw [List.getD_eq_getElem?_getD, List.getElem?_eq_getElem (by omega)]; rfl
    rw [outC]
    split
    · rename_i h
      rw [bs_or, ih, bs_bt (by omega)]
      constructor
      · rintro (⟨h1, h2⟩ | h1)
        · exact ⟨by omega, h2⟩
        · subst h1; exact ⟨by omega, h.1, _, hg, h.2⟩
      · rintro ⟨h1, h2, h3⟩
        rcases Nat.lt_or_ge q k with h4 | h4
        · exact .inl ⟨h4, h2, h3⟩
        · exact .inr (by omega)
    · rename_i h
      rw [ih]
      constructor
      · rintro ⟨h1, h2⟩; exact ⟨by omega, h2⟩
      · rintro ⟨h1, h2, S, h3, h4⟩
        rcases Nat.lt_or_ge q k with h5 | h5
        · exact ⟨h5, h2, S, h3, h4⟩
        · obtain rfl : q = k := by omega
          rw [hg] at h3; injection h3 with h3
          exact absurd ⟨h2, h3 ▸ h4⟩ h
theorem nxC_get {c : Cx} (hb : c.b.length = c.f.length) (h63 : c.b.length ≤ 63) (s : B64) (a : Fin 95) (q : Nat) :
    bs (nxC c s (lb a)) q ↔ Bc c.b q a ∧ ((bs s 63 ∧ bs c.fi q) ∨ ∃ p, bs s p ∧ folR 0 c.b.length c.f p q) := by
  unfold nxC
  rw [outC_get _ _ _ _ _ (Nat.le_refl _) (by omega), toC_get _ _ _ _ (Nat.le_refl _)]
  unfold Bc folR
  constructor
  · rintro ⟨h1, h2, h3⟩
    refine ⟨h3, ?_⟩
    rcases h2 with h2 | ⟨p, h4, h5, h6⟩
    · exact .inl h2
    · exact .inr ⟨p, h5, Nat.zero_le _, by omega, h6⟩
  · rintro ⟨⟨S, h1, h2⟩, h3⟩
    refine ⟨(List.getElem?_eq_some_iff.1 h1).1, ?_, S, h1, h2⟩
    rcases h3 with h3 | ⟨p, h5, _, h6, h7⟩
    · exact .inl h3
    · exact .inr ⟨p, by omega, h5, h7⟩
noncomputable def runC (c : Cx) (w : Wd) : B64 := w.foldl (fun s a => nxC c s (lb a)) stC
theorem runC_snoc (c : Cx) (w : Wd) (a : Fin 95) : runC c (w ++ [a]) = nxC c (runC c w) (lb a) := by unfold runC; rw [List.foldl_append]; rfl
structure CxOk (c : Cx) (L : Lg) : Prop where
  bf : c.b.length = c.f.length
  h63 : c.b.length ≤ 63
  ok : GlOk (Bc c.b) 0 c.b.length (bs c.fi) (bs c.la) (folR 0 c.b.length c.f) (c.em = true) L
theorem chX0_ok {r : Rx} (hw : r.wf) (ht : r.tight) (hn : lvs r ≤ 63) : CxOk (chX0 r) (lng r) ∧ (chX0 r).b.length = lvs r := by
  have := gA_ok r hw ht ⟨[], []⟩ rfl (by simpa using hn)
  obtain ⟨h1, h2, _, _, h5⟩ := this
  simp only [List.length_nil, Nat.zero_add] at h1 h2 h5
  exact ⟨⟨h1.trans h2.symm, by unfold chX0; simp only; omega, by unfold chX0; simp only; rw [h1]; exact h5⟩, h1⟩
theorem runC_get {c : Cx} {L : Lg} (h : CxOk c L) : ∀ n (w : Wd), w.length = n → ∀ q, (bs (runC c w) q ↔ (w = [] ∧ q = 63) ∨ ∃ p, bs c.fi p ∧ Wp (Bc c.b) (folR 0 c.b.length c.f) p w q)
  | 0, w, hw, q => by
    obtain rfl := List.eq_nil_of_length_eq_zero hw
    unfold runC
    rw [List.foldl_nil, stC, bs_bt (by omega)]
    constructor
    · intro h; exact .inl ⟨rfl, h⟩
    · rintro (h | ⟨p, _, h⟩)
      · exact h.2
      · exact absurd rfl h.ne
  | n + 1, w, hw, q => by
    have hne : w ≠ [] := fun e => by rw [e] at hw; simp at hw
    obtain ⟨v, a, rfl⟩ : ∃ v a, w = v ++ [a] := ⟨w.dropLast, w.getLast hne, (List.dropLast_concat_getLast hne).symm⟩
    have hv : v.length = n := by simpa using hw
    have ih := runC_get h n v hv
    rw [runC_snoc, nxC_get h.bf h.h63, ih]
    have h63 := h.h63
    constructor
    · rintro ⟨hB, ⟨h1, h2⟩ | ⟨p, h1, h2⟩⟩
      · rcases h1 with ⟨h1, _⟩ | ⟨p, h1, h3⟩
        · subst h1
          exact .inr ⟨q, h2, .one hB⟩
        · have := (h3.mono (B' := Bc c.b) 0 c.b.length (fun _ _ _ _ x => x) (fun p q _ _ z => ⟨z, (h.ok.e p q z).2.2⟩) (Nat.zero_le _) (h.ok.f p h1).2).2.2
          omega
      · rw [ih] at h1
        rcases h1 with ⟨h1, h3⟩ | ⟨p0, h1, h3⟩
        · have := (h.ok.e p q h2).2.1
          omega
        · exact .inr ⟨p0, h1, Wp.snoc.2 (.inr ⟨p, h3, h2, hB⟩)⟩
    · rintro (h1 | ⟨p, h1, h2⟩)
      · simp at h1
      · rcases Wp.snoc.1 h2 with ⟨e, e2, hB⟩ | ⟨q', h3, h4, hB⟩
        · subst e; subst e2
          exact ⟨hB, .inl ⟨.inl ⟨rfl, rfl⟩, h1⟩⟩
        · exact ⟨hB, .inr ⟨q', (ih q').2 (.inr ⟨p, h1, h3⟩), h4⟩⟩
theorem accC_run {c : Cx} {L : Lg} (h : CxOk c L) (w : Wd) : accC c (runC c w) = true ↔ L w := by
  have hg := runC_get h w.length w rfl
  have h63 := h.h63
  unfold accC
  have hne : (runC c w &&& c.la ≠ 0) ↔ ∃ q, bs (runC c w) q ∧ bs c.la q := by
    constructor
    · intro hx
      refine Classical.byContradiction fun hno => hx ?_
      refine BitVec.eq_of_getLsbD_eq fun i hi => ?_
      rw [BitVec.getLsbD_and]
      cases h1 : (runC c w).getLsbD i with
      | false => simp
      | true =>
        cases h2 : c.la.getLsbD i with
        | false => simp
        | true => exact absurd ⟨i, h1, h2⟩ hno
    · rintro ⟨q, h1, h2⟩ e
      have := congrArg (fun x : B64 => x.getLsbD q) e
      simp only [BitVec.getLsbD_and] at this
      rw [show (runC c w).getLsbD q = true from h1, show c.la.getLsbD q = true from h2] at this
      simp at this
  by_cases hw : w = []
  · subst hw
    rw [h.ok.nil]
    have h1 : bs (runC c []) 63 := (hg 63).2 (.inl ⟨rfl, rfl⟩)
    have h2 : ¬ (runC c [] &&& c.la ≠ 0) := by
      rw [hne]
      rintro ⟨q, h3, h4⟩
      rcases (hg q).1 h3 with ⟨_, h5⟩ | ⟨p, _, h5⟩
      · have := h.ok.l q h4; omega
      · exact absurd rfl h5.ne
    rw [decide_eq_false h2, show (runC c []).getLsbD 63 = true from h1]
    simp
  · rw [h.ok.lang w hw]
    have h1 : (runC c w).getLsbD 63 = false := by
      cases h2 : (runC c w).getLsbD 63 with
      | false => rfl
      | true =>
        rcases (hg 63).1 h2 with ⟨h3, _⟩ | ⟨p, h3, h4⟩
        · exact absurd h3 hw
        · have := (h4.mono (B' := Bc c.b) 0 c.b.length (fun _ _ _ _ x => x) (fun p q _ _ z => ⟨z, (h.ok.e p q z).2.2⟩) (Nat.zero_le _) (h.ok.f p h3).2).2.2
          omega
    rw [h1]
    simp only [Bool.and_false, Bool.or_false, decide_eq_true_eq]
    rw [hne]
    constructor
    · rintro ⟨q, h2, h3⟩
      rcases (hg q).1 h2 with ⟨h4, _⟩ | ⟨p, h4, h5⟩
      · exact absurd h4 hw
      · exact ⟨p, q, h4, h3, h5⟩
    · rintro ⟨p, q, h4, h3, h5⟩
      exact ⟨q, (hg q).2 (.inr ⟨p, h4, h5⟩), h3⟩
end Go.Ab
