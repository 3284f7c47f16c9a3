/- Part of the proof. -/
import Derived.Test.YtjfahhbobiiphaaYJ
import Derived.Test.YtjfahhbobiiphaaYH
import Derived.Test.YtjfahhbobiiphaaYK
set_option linter.unusedSimpArgs false
set_option linter.unusedVariables false
namespace Go.Ab
open Go Go.Ab Go.Proofs

structure Nt where
  f : List (List Nat)
  s : List ByteArray
  t : List Int
def Nt.F (x : Nt) (i : Nat) : List Nat := x.f.getD i []
def Nt.S (x : Nt) (i : Nat) : ByteArray := x.s.getD i ByteArray.empty
def Nt.T (x : Nt) (i : Nat) : Int := x.t.getD i (-1)
def nt0 : Nt := ⟨[], [], []⟩
def Nt.n (x : Nt) : Nat := x.t.length
def Nt.Ok (x : Nt) : Prop := x.f.length = x.t.length ∧ x.s.length = x.t.length
def mor (x : Nt) : Nt := ⟨x.f ++ [[]], x.s ++ [ByteArray.empty], x.t ++ [-1]⟩
def adf (x : Nt) (a : Nat) (bs : List Nat) : Nt := { x with f := x.f.set a (x.F a ++ bs) }
def sett (x : Nt) (a b : Nat) (S : ByteArray) : Nt := ⟨x.f, x.s.set a S, x.t.set a b⟩
mutual
def layN : Rx → Nt → Nt
  | .mk o S l, x => if o = 2 then adf (mor (mor x)) x.n [x.n + 1] else if o = 3 then sett (mor (mor x)) x.n (x.n + 1) S
    else if o = 5 then layL l (mor (mor x)) x.n (x.n + 1) else if o = 4 then adf (layC l (mor (mor x)) x.n).1 (layC l (mor (mor x)) x.n).2 [x.n + 1]
    else if o = 6 then layS l (mor (mor x)) x.n (x.n + 1) else mor (mor x)
def layL : List Rx → Nt → Nat → Nat → Nt
  | [], x, a, b => x
  | r :: l, x, a, b => layL l (adf (adf (layN r x) a [x.n]) (x.n + 1) [b]) a b
def layC : List Rx → Nt → Nat → Nt × Nat
  | [], x, i => (x, i)
  | r :: l, x, i => layC l (adf (layN r x) i [x.n]) (x.n + 1)
def layS : List Rx → Nt → Nat → Nat → Nt
  | [], x, a, b => x
  | r :: l, x, a, b => adf (adf (layN r x) a [x.n, b]) (x.n + 1) [a]
end
theorem getD_snoc {α : Type} (l : List α) (d : α) (i : Nat) : (l ++ [d]).getD i d = l.getD i d := by
  rw [List.getD_eq_getElem?_getD, List.getD_eq_getElem?_getD, List.getElem?_append]
  split
  · rfl
  · rename_i h
    rw [List.getElem?_eq_none (by omega : l.length ≤ i)]
    cases h2 : i - l.length with
    | zero => rfl
    | succ k => simp
theorem getD_set {α : Type} (l : List α) (d v : α) (i j : Nat) (h : i < l.length) : (l.set i v).getD j d = if j = i then v else l.getD j d := by
  rw [List.getD_eq_getElem?_getD, List.getD_eq_getElem?_getD, List.getElem?_set]
  by_cases e : i = j
  · subst e; simp [h]
  · rw [if_neg e, if_neg (fun e' => e e'.symm)]
theorem mor_F (x : Nt) (i : Nat) : (mor x).F i = x.F i := getD_snoc _ _ _
theorem mor_S (x : Nt) (i : Nat) : (mor x).S i = x.S i := getD_snoc _ _ _
theorem mor_T (x : Nt) (i : Nat) : (mor x).T i = x.T i := getD_snoc _ _ _
theorem mor_n (x : Nt) : (mor x).n = x.n + 1 := by simp [mor, Nt.n]
theorem mor_ok {x : Nt} (h : x.Ok) : (mor x).Ok := by
  obtain ⟨h1, h2⟩ := h
  simp [mor, Nt.Ok, h1, h2]
theorem out_F {x : Nt} (h : x.Ok) {i : Nat} (hi : x.n ≤ i) : x.F i = [] := by
  unfold Nt.F; rw [List.getD_eq_getElem?_getD, List.getElem?_eq_none (by rw [h.1]; exact hi)]; rfl
theorem out_T {x : Nt} {i : Nat} (hi : x.n ≤ i) : x.T i = -1 := by
  unfold Nt.T; rw [List.getD_eq_getElem?_getD, List.getElem?_eq_none hi]; rfl
theorem adf_F {x : Nt} (h : x.Ok) {a : Nat} (ha : a < x.n) (bs : List Nat) (i : Nat) : (adf x a bs).F i = if i = a then x.F a ++ bs else x.F i := getD_set _ _ _ _ _ (by rw [h.1]; exact ha)
theorem adf_S (x : Nt) (a : Nat) (bs : List Nat) (i : Nat) : (adf x a bs).S i = x.S i := rfl
theorem adf_T (x : Nt) (a : Nat) (bs : List Nat) (i : Nat) : (adf x a bs).T i = x.T i := rfl
theorem adf_n (x : Nt) (a : Nat) (bs : List Nat) : (adf x a bs).n = x.n := rfl
theorem adf_ok {x : Nt} (h : x.Ok) (a : Nat) (bs : List Nat) : (adf x a bs).Ok := by
  obtain ⟨h1, h2⟩ := h
  simp [adf, Nt.Ok, h1, h2]
inductive Rn (N : Nt) (fin : Nat) : Nat → Nat → Wd → Prop
  | fin : Rn N fin 0 fin []
  | free {k p q : Nat} {w : Wd} (h : q ∈ N.F p) (h2 : Rn N fin k q w) : Rn N fin (k + 1) p w
  | read {k p q : Nat} {a : Fin 95} {w : Wd} (h : N.T p = (q : Int)) (hs : isIn (N.S p) (lb a)) (h2 : Rn N fin k q w) : Rn N fin (k + 1) p (a :: w)
theorem Rn.step {N : Nt} {fin k p : Nat} {w : Wd} (h : Rn N fin k p w) (hp : p ≠ fin) : (∃ q k', q ∈ N.F p ∧ k = k' + 1 ∧ Rn N fin k' q w) ∨ ∃ (q k' : Nat) (a : Fin 95) (v : Wd), N.T p = (q : Int) ∧ isIn (N.S p) (lb a) ∧ w = a :: v ∧ k = k' + 1 ∧ Rn N fin k' q v := by
  cases h with
  | fin => exact absurd rfl hp
  | free h h2 => exact .inl ⟨_, _, h, rfl, h2⟩
  | read h hs h2 => exact .inr ⟨_, _, _, _, h, hs, rfl, rfl, h2⟩
theorem Rn.free1 {N : Nt} {fin k p : Nat} {w : Wd} (h : Rn N fin k p w) (hp : p ≠ fin) (hT : N.T p = -1) : ∃ q k', q ∈ N.F p ∧ k = k' + 1 ∧ Rn N fin k' q w := by
  rcases h.step hp with h | ⟨q, _, _, _, h, _⟩
  · exact h
  · rw [hT] at h; omega
def SameN (N N' : Nt) (lo hi b : Nat) : Prop := ∀ i, lo ≤ i → i < hi → i ≠ b → N'.F i = N.F i ∧ N'.S i = N.S i ∧ N'.T i = N.T i
structure Thr (N : Nt) (fin a b : Nat) (L : Lg) : Prop where
  to : ∀ k w, Rn N fin k a w → ∃ u v k', w = u ++ v ∧ L u ∧ k' < k ∧ Rn N fin k' b v
  of : ∀ u v k, L u → Rn N fin k b v → ∃ k', Rn N fin k' a (u ++ v)
structure LayOk (x y : Nt) (L : Lg) (m : Nat) : Prop where
  ok : y.Ok
  n : x.n + 2 ≤ y.n ∧ y.n ≤ x.n + 2 * m
  old : ∀ i, i < x.n → y.F i = x.F i ∧ y.S i = x.S i ∧ y.T i = x.T i
  out : y.F (x.n + 1) = [] ∧ y.T (x.n + 1) = -1
  lt : ∀ i, x.n ≤ i → i < y.n → (∀ q ∈ y.F i, q < y.n) ∧ (∀ q : Nat, y.T i = q → q < y.n) ∧ -1 ≤ y.T i
  thr : ∀ N' fin, SameN y N' x.n y.n (x.n + 1) → (fin < x.n ∨ y.n ≤ fin ∨ fin = x.n + 1) → Thr N' fin x.n (x.n + 1) L
theorem layL_ok (b0 : Nat) : ∀ (l : List Rx), (∀ r ∈ l, ∀ x : Nt, x.Ok → LayOk x (layN r x) (lng r) r.cnt) → ∀ (x : Nt) (a b : Nat), x.Ok → a < x.n → b < x.n → (layL l x a b).Ok ∧ x.n ≤ (layL l x a b).n ∧ (layL l x a b).n ≤ x.n + 2 * cnts l ∧
    (∀ i, i < x.n → i ≠ a → (layL l x a b).F i = x.F i) ∧ (∀ i, i < x.n → (layL l x a b).S i = x.S i ∧ (layL l x a b).T i = x.T i) ∧
    (∀ i, x.n ≤ i → i < (layL l x a b).n → (∀ q ∈ (layL l x a b).F i, q < (layL l x a b).n) ∧ (∀ q : Nat, (layL l x a b).T i = q → q < (layL l x a b).n) ∧ -1 ≤ (layL l x a b).T i) ∧
    ∃ cs : List Nat, (layL l x a b).F a = x.F a ++ cs ∧ (∀ c ∈ cs, c < (layL l x a b).n) ∧ ∀ N' fin, (∀ i, x.n ≤ i → i < (layL l x a b).n → N'.F i = (layL l x a b).F i ∧ N'.S i = (layL l x a b).S i ∧ N'.T i = (layL l x a b).T i) → (fin < x.n ∨ (layL l x a b).n ≤ fin) →
      (∀ c ∈ cs, ∀ k w, Rn N' fin k c w → ∃ r ∈ l, ∃ u v k', w = u ++ v ∧ lng r u ∧ k' < k ∧ Rn N' fin k' b v) ∧ (∀ r ∈ l, ∀ u v k, lng r u → Rn N' fin k b v → ∃ c ∈ cs, ∃ k', Rn N' fin k' c (u ++ v))
  | [], _, x, a, b, hx, ha, hb => by
    simp only [layL]
    exact ⟨hx, Nat.le_refl _, by simp [cnts], by simp, by simp, fun i h1 h2 => by omega, [], by simp, by simp, fun N' fin _ _ => ⟨by simp, by simp⟩⟩
  | r :: l, hl, x, a, b, hx, ha, hb => by
    have h1 := hl r (by simp) x hx
    generalize hy : layN r x = y at h1
    obtain ⟨k1, k2, k3, k4, k7, k5⟩ := h1
    have hz : (adf (adf y a [x.n]) (x.n + 1) [b]).Ok := adf_ok (adf_ok k1 _ _) _ _
    have hzn : (adf (adf y a [x.n]) (x.n + 1) [b]).n = y.n := rfl
    obtain ⟨i1, i2, i3, i4, i5, i9, cs, i6, i8, i7⟩ := layL_ok b0 l (fun r hr => hl r (by simp [hr])) (adf (adf y a [x.n]) (x.n + 1) [b]) a b hz (by rw [hzn]; omega) (by rw [hzn]; omega)
    have hF : ∀ i, (adf (adf y a [x.n]) (x.n + 1) [b]).F i = if i = x.n + 1 then [b] else if i = a then y.F a ++ [x.n] else y.F i := fun i => by
      have e1 := adf_F (adf_ok k1 a [x.n]) (a := x.n + 1) (by rw [adf_n]; omega) [b] i
      have e2 : (adf y a [x.n]).F (x.n + 1) = [] := by rw [adf_F k1 (by omega), if_neg (by omega), k4.1]
      have e3 := adf_F k1 (a := a) (by omega) [x.n] i
      rw [e1, e2, e3]; rfl
    simp only [layL, hy]
    generalize layL l (adf (adf y a [x.n]) (x.n + 1) [b]) a b = z at *
    rw [hzn] at i2 i3 i4 i5 i7 i9
    refine ⟨i1, by omega, by rw [cnts]; omega, fun i hi hia => ?_, fun i hi => ?_, fun i hi hi2 => ?_, x.n :: cs, ?_, ?_, fun N' fin hN hf => ?_⟩
    · rw [i4 i (by omega) hia, hF, if_neg (by omega), if_neg hia, (k3 i hi).1]
    · obtain ⟨e1, e2⟩ := i5 i (by omega)
      exact ⟨e1.trans (k3 i hi).2.1, e2.trans (k3 i hi).2.2⟩
    · rcases Nat.lt_or_ge i y.n with hlt | hge
      · obtain ⟨e1, e2⟩ := i5 i hlt
        obtain ⟨k71, k72, k73⟩ := k7 i hi hlt
        rw [i4 i hlt (by omega), hF, e2]
        refine ⟨fun q hq => ?_, fun q hq => ?_, k73⟩
        · by_cases e : i = x.n + 1
          · rw [if_pos e, List.mem_singleton] at hq; omega
          · rw [if_neg e, if_neg (by omega)] at hq
            have := k71 q hq; omega
        · have := k72 q hq; omega
      · exact i9 i hge hi2
    · rw [i6, hF, if_neg (by omega), if_pos rfl, (k3 a ha).1, List.append_assoc]; rfl
    · intro c hc
      rcases List.mem_cons.1 hc with rfl | hc
      · omega
      · exact i8 c hc
    · have hNz : ∀ i, x.n ≤ i → i < y.n → N'.F i = (adf (adf y a [x.n]) (x.n + 1) [b]).F i ∧ N'.S i = y.S i ∧ N'.T i = y.T i := fun i h1 h2 => by
        obtain ⟨e1, e2, e3⟩ := hN i h1 (by omega)
        obtain ⟨e4, e5⟩ := i5 i h2
        exact ⟨by rw [e1, i4 i h2 (by omega)], e2.trans e4, e3.trans e5⟩
      have hS : SameN y N' x.n y.n (x.n + 1) := fun i h1 h2 h3 => by
        obtain ⟨e1, e2, e3⟩ := hNz i h1 h2
        exact ⟨by rw [e1, hF, if_neg h3, if_neg (by omega)], e2, e3⟩
      have hT := k5 N' fin hS (by omega)
      have hd := hNz (x.n + 1) (by omega) (by omega)
      have hdF : N'.F (x.n + 1) = [b] := by rw [hd.1, hF, if_pos rfl]
      have hdT : N'.T (x.n + 1) = -1 := by rw [hd.2.2, k4.2]
      obtain ⟨j1, j2⟩ := i7 N' fin (fun i h1 h2 => hN i (by omega) h2) (by omega)
      refine ⟨fun c hc k w hw => ?_, fun s hs u v k hu hv => ?_⟩
      · rcases List.mem_cons.1 hc with rfl | hc
        · obtain ⟨u, v, k', e1, e2, e3, e4⟩ := hT.to k w hw
          obtain ⟨q, k2', e5, e6, e7⟩ := e4.free1 (by omega) hdT
          rw [hdF, List.mem_singleton] at e5
          subst e5
          exact ⟨r, by simp, u, v, k2', e1, e2, by omega, e7⟩
        · obtain ⟨s, hs, u, v, k', e⟩ := j1 c hc k w hw
          exact ⟨s, by simp [hs], u, v, k', e⟩
      · rcases List.mem_cons.1 hs with rfl | hs
        · obtain ⟨k', hk⟩ := hT.of u v (k + 1) hu (.free (by rw [hdF]; simp) hv)
          exact ⟨x.n, by simp, k', hk⟩
        · obtain ⟨c, hc, k', hk⟩ := j2 s hs u v k hu hv
          exact ⟨c, by simp [hc], k', hk⟩
theorem layC_ok : ∀ (l : List Rx), (∀ r ∈ l, ∀ x : Nt, x.Ok → LayOk x (layN r x) (lng r) r.cnt) → ∀ (x : Nt) (a : Nat), x.Ok → a < x.n → l ≠ [] → (layC l x a).1.Ok ∧ x.n + 2 ≤ (layC l x a).1.n ∧ (layC l x a).1.n ≤ x.n + 2 * cnts l ∧
    (∀ i, i < x.n → i ≠ a → (layC l x a).1.F i = x.F i) ∧ (∀ i, i < x.n → (layC l x a).1.S i = x.S i ∧ (layC l x a).1.T i = x.T i) ∧ (layC l x a).1.F a = x.F a ++ [x.n] ∧
    (∀ i, x.n ≤ i → i < (layC l x a).1.n → (∀ q ∈ (layC l x a).1.F i, q < (layC l x a).1.n) ∧ (∀ q : Nat, (layC l x a).1.T i = q → q < (layC l x a).1.n) ∧ -1 ≤ (layC l x a).1.T i) ∧
    x.n ≤ (layC l x a).2 ∧ (layC l x a).2 < (layC l x a).1.n ∧ (layC l x a).1.F (layC l x a).2 = [] ∧ (layC l x a).1.T (layC l x a).2 = -1 ∧
    ∀ N' fin, SameN (layC l x a).1 N' x.n (layC l x a).1.n (layC l x a).2 → (fin < x.n ∨ (layC l x a).1.n ≤ fin ∨ fin = (layC l x a).2) → Thr N' fin x.n (layC l x a).2 (catW (l.map lng))
  | [], _, x, a, hx, ha, hn => absurd rfl hn
  | [r], hl, x, a, hx, ha, _ => by
    have h1 := hl r (by simp) x hx
    simp only [layC]
    generalize hy : layN r x = y at h1
    obtain ⟨k1, k2, k3, k4, k7, k5⟩ := h1
    have hF : ∀ i, (adf y a [x.n]).F i = if i = a then y.F a ++ [x.n] else y.F i := fun i => adf_F k1 (by omega) _ _
    have hn : (adf y a [x.n]).n = y.n := rfl
    rw [hn]
    refine ⟨adf_ok k1 _ _, by omega, by simp only [cnts]; omega, fun i hi hia => ?_, fun i hi => ⟨(k3 i hi).2.1, (k3 i hi).2.2⟩, ?_, fun i hi hi2 => ?_, by omega, by omega, ?_, k4.2, fun N' fin hN hf => ?_⟩
    · rw [hF, if_neg hia, (k3 i hi).1]
    · rw [hF, if_pos rfl, (k3 a ha).1]
    · rw [hF, if_neg (by omega)]; exact k7 i hi hi2
    · rw [hF, if_neg (by omega), k4.1]
    · have hT := k5 N' fin (fun i h1 h2 h3 => by
        obtain ⟨e1, e2, e3⟩ := hN i h1 h2 h3
        exact ⟨by rw [e1, hF, if_neg (by omega)], e2, e3⟩) hf
      refine ⟨fun k w hw => ?_, fun u v k hu hv => ?_⟩
      · obtain ⟨u, v, k', e1, e2, e3⟩ := hT.to k w hw
        exact ⟨u, v, k', e1, ⟨u, [], by simp, e2, rfl⟩, e3⟩
      · obtain ⟨u1, v1, e1, e2, e3⟩ := hu
        have e3 : v1 = [] := e3
        subst e3
        rw [List.append_nil] at e1
        subst e1
        exact hT.of u v k e2 hv
  | r :: r2 :: l, hl, x, a, hx, ha, _ => by
    have h1 := hl r (by simp) x hx
    rw [layC]
    generalize hy : layN r x = y at h1
    obtain ⟨k1, k2, k3, k4, k7, k5⟩ := h1
    have hF : ∀ i, (adf y a [x.n]).F i = if i = a then y.F a ++ [x.n] else y.F i := fun i => adf_F k1 (by omega) _ _
    have hn : (adf y a [x.n]).n = y.n := rfl
    obtain ⟨i1, i2, i3, i4, i5, i6, i12, i7, i8, i9, i10, i11⟩ := layC_ok (r2 :: l) (fun r hr => hl r (by simp [hr])) (adf y a [x.n]) (x.n + 1) (adf_ok k1 _ _) (by rw [hn]; omega) (by simp)
    rw [hn] at i2 i3 i4 i5 i6 i7 i11 i12
    generalize layC (r2 :: l) (adf y a [x.n]) (x.n + 1) = z at *
    obtain ⟨z, i'⟩ := z
    simp only at *
    refine ⟨i1, by omega, by rw [cnts]; omega, fun i hi hia => ?_, fun i hi => ?_, ?_, fun i hi hi2 => ?_, by omega, i8, i9, i10, fun N' fin hN hf => ?_⟩
    · rw [i4 i (by omega) (by omega), hF, if_neg hia, (k3 i hi).1]
    · obtain ⟨e1, e2⟩ := i5 i (by omega)
      exact ⟨e1.trans (k3 i hi).2.1, e2.trans (k3 i hi).2.2⟩
    · rw [i4 a (by omega) (by omega), hF, if_pos rfl, (k3 a ha).1]
    · rcases Nat.lt_or_ge i y.n with hlt | hge
      · obtain ⟨e1, e2⟩ := i5 i hlt
        obtain ⟨k71, k72, k73⟩ := k7 i hi hlt
        rw [e2]
        refine ⟨fun q hq => ?_, fun q hq => ?_, k73⟩
        · by_cases e : i = x.n + 1
          · subst e
            rw [i6, hF, if_neg (by omega), k4.1, List.nil_append, List.mem_singleton] at hq; omega
          · rw [i4 i hlt e, hF, if_neg (by omega)] at hq
            have := k71 q hq; omega
        · have := k72 q hq; omega
      · exact i12 i hge hi2
    · have hT := k5 N' fin (fun i h1 h2 h3 => by
        obtain ⟨e1, e2, e3⟩ := hN i h1 (by omega) (by omega)
        obtain ⟨e4, e5⟩ := i5 i h2
        exact ⟨by rw [e1, i4 i h2 h3, hF, if_neg (by omega)], e2.trans e4, e3.trans e5⟩) (by omega)
      have hT2 := i11 N' fin (fun i h1 h2 h3 => hN i (by omega) h2 h3) (by omega)
      have hd := hN (x.n + 1) (by omega) (by omega) (by omega)
      have hdF : N'.F (x.n + 1) = [y.n] := by rw [hd.1, i6, hF, if_neg (by omega), k4.1]; rfl
      have hdT : N'.T (x.n + 1) = -1 := by rw [hd.2.2, (i5 _ (by omega)).2]; exact k4.2
      refine ⟨fun k w hw => ?_, fun u v k hu hv => ?_⟩
      · obtain ⟨u, v, k', e1, e2, e3, e4⟩ := hT.to k w hw
        obtain ⟨q, k2', e5, e6, e7⟩ := e4.free1 (by omega) hdT
        rw [hdF, List.mem_singleton] at e5
        subst e5
        obtain ⟨u2, v2, k3', f1, f2, f3, f4⟩ := hT2.to k2' v e7
        exact ⟨u ++ u2, v2, k3', by rw [e1, f1, List.append_assoc], ⟨u, u2, rfl, e2, f2⟩, by omega, f4⟩
      · obtain ⟨u1, u2, rfl, f2, f3⟩ := hu
        obtain ⟨k', hk⟩ := hT2.of u2 v k f3 hv
        obtain ⟨k2', hk2⟩ := hT.of u1 (u2 ++ v) (k' + 1) f2 (.free (by rw [hdF]; simp) hk)
        exact ⟨k2', by rw [List.append_assoc]; exact hk2⟩
theorem layN_ok (r : Rx) : r.wf → r.tight → ∀ x : Nt, x.Ok → LayOk x (layN r x) (lng r) r.cnt := by
  induction r using Rx.ind with
  | h o S l ih =>
  intro hw ht x hx
  obtain ⟨hn, hl⟩ := wf_sub.1 hw
  obtain ⟨h7, h8, htl⟩ := tight_sub.1 ht
  replace ih := fun r hr => ih r hr (hl r hr) (htl r hr)
  unfold nodeOk at hn
  have hm : (mor (mor x)).Ok := mor_ok (mor_ok hx)
  have hmn : (mor (mor x)).n = x.n + 2 := by rw [mor_n, mor_n]
  have hmF : ∀ i, (mor (mor x)).F i = x.F i := fun i => by rw [mor_F, mor_F]
  have hmS : ∀ i, (mor (mor x)).S i = x.S i := fun i => by rw [mor_S, mor_S]
  have hmT : ∀ i, (mor (mor x)).T i = x.T i := fun i => by rw [mor_T, mor_T]
  have hoF : ∀ i, x.n ≤ i → x.F i = [] := fun i hi => out_F hx hi
  have hoT : ∀ i, x.n ≤ i → x.T i = -1 := fun i hi => out_T hi
  rw [layN, cnt_mk]
  generalize mor (mor x) = y at *
  by_cases h2 : o = 2
  · subst h2
    rw [if_pos rfl]
    have hF := adf_F hm (a := x.n) (by omega) [x.n + 1]
    refine ⟨adf_ok hm _ _, by rw [adf_n]; omega, fun i hi => ⟨by rw [hF, if_neg (by omega), hmF], by rw [adf_S, hmS], by rw [adf_T, hmT]⟩, ⟨by rw [hF, if_neg (by omega), hmF, hoF _ (by omega)], by rw [adf_T, hmT, hoT _ (by omega)]⟩, fun i hi hi2 => ⟨fun q hq => ?_, fun q hq => ?_, ?_⟩, fun N' fin hN hf => ?_⟩
    · rw [adf_n] at hi2 ⊢
      rw [hF] at hq
      split at hq
      · rw [hmF, hoF _ (by omega), List.nil_append, List.mem_singleton] at hq; omega
      · rw [hmF, hoF _ hi] at hq; simp at hq
    · rw [adf_T, hmT, hoT _ hi] at hq; omega
    · rw [adf_T, hmT, hoT _ hi]; omega
    · rw [adf_n] at hN hf
      obtain ⟨e1, e2, e3⟩ := hN x.n (by omega) (by omega) (by omega)
      have eF : N'.F x.n = [x.n + 1] := by rw [e1, hF, if_pos rfl, hmF, hoF _ (by omega)]; rfl
      have eT : N'.T x.n = -1 := by rw [e3, adf_T, hmT, hoT _ (by omega)]
      refine ⟨fun k w hw => ?_, fun u v k hu hv => ?_⟩
      · obtain ⟨q, k', f1, f2, f3⟩ := hw.free1 (by omega) eT
        rw [eF, List.mem_singleton] at f1
        subst f1
        exact ⟨[], w, k', rfl, by rw [lng_mk]; exact .inl ⟨rfl, rfl⟩, by omega, f3⟩
      · have hu : u = [] := by
          rw [lng_mk] at hu
          simpa [opL] using hu
        subst hu
        exact ⟨k + 1, .free (by rw [eF]; simp) hv⟩
  rw [if_neg h2]
  by_cases h3 : o = 3
  · subst h3
    rw [if_pos rfl]
    have hF : ∀ i, (sett y x.n (x.n + 1) S).F i = y.F i := fun i => rfl
    have hS : ∀ i, (sett y x.n (x.n + 1) S).S i = if i = x.n then S else y.S i := fun i => getD_set _ _ _ _ _ (by rw [hm.2]; unfold Nt.n at hmn ⊢; omega)
    have hT : ∀ i, (sett y x.n (x.n + 1) S).T i = if i = x.n then ((x.n + 1 : Nat) : Int) else y.T i := fun i => getD_set _ _ _ _ _ (by unfold Nt.n at hmn ⊢; omega)
    have hsn : (sett y x.n (x.n + 1) S).n = y.n := by simp [sett, Nt.n]
    refine ⟨by obtain ⟨e1, e2⟩ := hm; simp [sett, Nt.Ok, e1, e2], by rw [hsn]; omega, fun i hi => ⟨by rw [hF, hmF], by rw [hS, if_neg (by omega), hmS], by rw [hT, if_neg (by omega), hmT]⟩, ⟨by rw [hF, hmF, hoF _ (by omega)], by rw [hT, if_neg (by omega), hmT, hoT _ (by omega)]⟩, fun i hi hi2 => ⟨fun q hq => ?_, fun q hq => ?_, ?_⟩, fun N' fin hN hf => ?_⟩
    · rw [hF, hmF, hoF _ hi] at hq; simp at hq
    · rw [hsn] at hi2 ⊢
      rw [hT] at hq
      split at hq
      · omega
      · rw [hmT, hoT _ hi] at hq; omega
    · rw [hT]
      split
      · omega
      · rw [hmT, hoT _ hi]; omega
    · rw [hsn] at hN hf
      obtain ⟨e1, e2, e3⟩ := hN x.n (by omega) (by omega) (by omega)
      have eF : N'.F x.n = [] := by rw [e1, hF, hmF, hoF _ (by omega)]
      have eS : N'.S x.n = S := by rw [e2, hS, if_pos rfl]
      have eT : N'.T x.n = ((x.n + 1 : Nat) : Int) := by rw [e3, hT, if_pos rfl]
      refine ⟨fun k w hw => ?_, fun u v k hu hv => ?_⟩
      · rcases hw.step (by omega) with ⟨q, k', f1, _⟩ | ⟨q, k', a, v, f1, f2, rfl, f4, f5⟩
        · rw [eF] at f1; simp at f1
        · rw [eT] at f1
          rw [eS] at f2
          have : q = x.n + 1 := by omega
          subst this
          exact ⟨[a], v, k', rfl, by rw [lng_mk]; exact .inr (.inl ⟨rfl, a, rfl, f2⟩), by omega, f5⟩
      · obtain ⟨a, rfl, ha⟩ : ∃ a, u = [a] ∧ isIn S (lb a) := by
          rw [lng_mk] at hu
          simpa [opL] using hu
        exact ⟨k + 1, .read eT (by rw [eS]; exact ha) hv⟩
  rw [if_neg h3]
  by_cases h5 : o = 5
  · subst h5
    rw [if_pos rfl]
    obtain ⟨i1, i2, i3, i4, i5, i9, cs, i6, i8, i7⟩ := layL_ok 0 l ih y x.n (x.n + 1) hm (by omega) (by omega)
    generalize layL l y x.n (x.n + 1) = z at *
    rw [hmn] at i2 i3 i4 i5 i7 i9
    refine ⟨i1, by omega, fun i hi => ⟨by rw [i4 i (by omega) (by omega), hmF], by rw [(i5 i (by omega)).1, hmS], by rw [(i5 i (by omega)).2, hmT]⟩, ⟨by rw [i4 _ (by omega) (by omega), hmF, hoF _ (by omega)], by rw [(i5 _ (by omega)).2, hmT, hoT _ (by omega)]⟩, fun i hi hi2 => ?_, fun N' fin hN hf => ?_⟩
    · rcases Nat.lt_or_ge i (x.n + 2) with hlt | hge
      · rw [(i5 i hlt).2, hmT, hoT _ hi]
        refine ⟨fun q hq => ?_, fun q hq => by omega, by omega⟩
        by_cases e : i = x.n
        · subst e
          rw [i6, hmF, hoF _ hi, List.nil_append] at hq
          exact i8 q hq
        · rw [i4 i hlt e, hmF, hoF _ hi] at hq; simp at hq
      · exact i9 i hge hi2
    · obtain ⟨e1, e2, e3⟩ := hN x.n (by omega) (by omega) (by omega)
      have eF : N'.F x.n = cs := by rw [e1, i6, hmF, hoF _ (by omega)]; rfl
      have eT : N'.T x.n = -1 := by rw [e3, (i5 _ (by omega)).2, hmT, hoT _ (by omega)]
      obtain ⟨j1, j2⟩ := i7 N' fin (fun i f1 f2 => hN i (by omega) f2 (by omega)) (by omega)
      refine ⟨fun k w hw => ?_, fun u v k hu hv => ?_⟩
      · obtain ⟨q, k', f1, f2, f3⟩ := hw.free1 (by omega) eT
        rw [eF] at f1
        obtain ⟨r, hr, u, v, k2, g1, g2, g3, g4⟩ := j1 q f1 k' w f3
        exact ⟨u, v, k2, g1, by rw [lng_mk]; exact .inr (.inr (.inr (.inl ⟨rfl, lng r, List.mem_map.2 ⟨r, hr, rfl⟩, g2⟩))), by omega, g4⟩
      · obtain ⟨L, hL, hu⟩ : ∃ L ∈ l.map lng, L u := by
          rw [lng_mk] at hu
          unfold opL at hu
          rcases hu with h | h | h | h | h | h | h
          · omega
          · omega
          · omega
          · exact h.2
          · omega
          · omega
          · omega
        obtain ⟨r, hr, rfl⟩ := List.mem_map.1 hL
        obtain ⟨c, hc, k', hk⟩ := j2 r hr u v k hu hv
        exact ⟨k' + 1, .free (by rw [eF]; exact hc) hk⟩
  rw [if_neg h5]
  by_cases h4 : o = 4
  · subst h4
    rw [if_pos rfl]
    have hne : l ≠ [] := fun h => by subst h; simp at hn
    obtain ⟨i1, i2, i3, i4, i5, i6, i12, i7, i8, i9, i10, i11⟩ := layC_ok l ih y x.n hm (by omega) hne
    generalize layC l y x.n = z at *
    obtain ⟨z, i'⟩ := z
    simp only at *
    rw [hmn] at i2 i3 i4 i5 i6 i7 i11 i12
    have hF := adf_F i1 i8 [x.n + 1]
    refine ⟨adf_ok i1 _ _, by rw [adf_n]; omega, fun i hi => ⟨by rw [hF, if_neg (by omega), i4 i (by omega) (by omega), hmF], by rw [adf_S, (i5 i (by omega)).1, hmS], by rw [adf_T, (i5 i (by omega)).2, hmT]⟩, ⟨by rw [hF, if_neg (by omega), i4 _ (by omega) (by omega), hmF, hoF _ (by omega)], by rw [adf_T, (i5 _ (by omega)).2, hmT, hoT _ (by omega)]⟩, fun i hi hi2 => ?_, fun N' fin hN hf => ?_⟩
    · rw [adf_n] at hi2 ⊢
      rw [adf_T, hF]
      rcases Nat.lt_or_ge i (x.n + 2) with hlt | hge
      · rw [(i5 i hlt).2, hmT, hoT _ hi, if_neg (by omega)]
        refine ⟨fun q hq => ?_, fun q hq => by omega, by omega⟩
        by_cases e : i = x.n
        · subst e
          rw [i6, hmF, hoF _ hi, List.nil_append, List.mem_singleton] at hq
          omega
        · rw [i4 i hlt e, hmF, hoF _ hi] at hq; simp at hq
      · obtain ⟨f1, f2, f3⟩ := i12 i hge hi2
        refine ⟨fun q hq => ?_, f2, f3⟩
        split at hq
        · rw [i9, List.nil_append, List.mem_singleton] at hq; omega
        · exact f1 q hq
    · rw [adf_n] at hN hf
      obtain ⟨e1, e2, e3⟩ := hN x.n (by omega) (by omega) (by omega)
      have eF : N'.F x.n = [x.n + 2] := by rw [e1, hF, if_neg (by omega), i6, hmF, hoF _ (by omega)]; rfl
      have eT : N'.T x.n = -1 := by rw [e3, adf_T, (i5 _ (by omega)).2, hmT, hoT _ (by omega)]
      obtain ⟨g1, g2, g3⟩ := hN i' (by omega) i8 (by omega)
      have gF : N'.F i' = [x.n + 1] := by rw [g1, hF, if_pos rfl, i9]; rfl
      have gT : N'.T i' = -1 := by rw [g3, adf_T, i10]
      have hT := i11 N' fin (fun i f1 f2 f3 => by
        obtain ⟨a1, a2, a3⟩ := hN i (by omega) f2 (by omega)
        exact ⟨by rw [a1, hF, if_neg f3], a2, a3⟩) (by omega)
      refine ⟨fun k w hw => ?_, fun u v k hu hv => ?_⟩
      · obtain ⟨q, k', f1, f2, f3⟩ := hw.free1 (by omega) eT
        rw [eF, List.mem_singleton] at f1
        subst f1
        obtain ⟨u, v, k2, a1, a2, a3, a4⟩ := hT.to k' w f3
        obtain ⟨q, k3, b1, b2, b3⟩ := a4.free1 (by omega) gT
        rw [gF, List.mem_singleton] at b1
        subst b1
        exact ⟨u, v, k3, a1, by rw [lng_mk]; exact .inr (.inr (.inl ⟨rfl, a2⟩)), by omega, b3⟩
      · have hu : catW (l.map lng) u := by
          rw [lng_mk] at hu
          unfold opL at hu
          rcases hu with h | h | h | h | h | h | h
          · omega
          · omega
          · exact h.2
          · omega
          · omega
          · omega
          · omega
        obtain ⟨k', hk⟩ := hT.of u v (k + 1) hu (.free (by rw [gF]; simp) hv)
        exact ⟨k' + 1, .free (by rw [eF]; simp) hk⟩
  rw [if_neg h4]
  by_cases h6 : o = 6
  · subst h6
    rw [if_pos rfl]
    obtain ⟨r, rfl⟩ : ∃ r, l = [r] := by
      match l, hn with
      | [r], _ => exact ⟨r, rfl⟩
      | [], hn => simp at hn
      | _ :: _ :: _, hn => simp at hn
    have h1 := ih r (by simp) y hm
    rw [layS]
    generalize layN r y = z at h1
    obtain ⟨k1, k2, k3, k4, k7, k5⟩ := h1
    rw [hmn] at k2 k3 k4 k5 k7
    rw [hmn]
    have hF : ∀ i, (adf (adf z x.n [x.n + 2, x.n + 1]) (x.n + 2 + 1) [x.n]).F i = if i = x.n + 3 then [x.n] else if i = x.n then [x.n + 2, x.n + 1] else z.F i := fun i => by
      have e1 := adf_F (adf_ok k1 x.n [x.n + 2, x.n + 1]) (a := x.n + 2 + 1) (by rw [adf_n]; omega) [x.n] i
      have e2 : (adf z x.n [x.n + 2, x.n + 1]).F (x.n + 2 + 1) = [] := by rw [adf_F k1 (by omega), if_neg (by omega), k4.1]
      have e3 := adf_F k1 (a := x.n) (by omega) [x.n + 2, x.n + 1] i
      rw [e1, e2, e3, (k3 x.n (by omega)).1, hmF, hoF _ (by omega)]; rfl
    have hzn : (adf (adf z x.n [x.n + 2, x.n + 1]) (x.n + 2 + 1) [x.n]).n = z.n := rfl
    refine ⟨adf_ok (adf_ok k1 _ _) _ _, by rw [hzn]; simp only [cnts]; omega, fun i hi => ⟨by rw [hF, if_neg (by omega), if_neg (by omega), (k3 i (by omega)).1, hmF], by rw [adf_S, adf_S, (k3 i (by omega)).2.1, hmS], by rw [adf_T, adf_T, (k3 i (by omega)).2.2, hmT]⟩, ⟨by rw [hF, if_neg (by omega), if_neg (by omega), (k3 _ (by omega)).1, hmF, hoF _ (by omega)], by rw [adf_T, adf_T, (k3 _ (by omega)).2.2, hmT, hoT _ (by omega)]⟩, fun i hi hi2 => ?_, fun N' fin hN hf => ?_⟩
    · rw [hzn] at hi2 ⊢
      rw [adf_T, adf_T, hF]
      rcases Nat.lt_or_ge i (x.n + 2) with hlt | hge
      · rw [(k3 i hlt).2.2, hmT, hoT _ hi, if_neg (by omega)]
        refine ⟨fun q hq => ?_, fun q hq => by omega, by omega⟩
        split at hq
        · simp only [List.mem_cons, List.not_mem_nil, or_false] at hq; omega
        · rw [(k3 i hlt).1, hmF, hoF _ hi] at hq; simp at hq
      · obtain ⟨f1, f2, f3⟩ := k7 i hge hi2
        refine ⟨fun q hq => ?_, f2, f3⟩
        split at hq
        · rw [List.mem_singleton] at hq; omega
        · rw [if_neg (by omega)] at hq; exact f1 q hq
    · rw [hzn] at hN hf
      obtain ⟨e1, e2, e3⟩ := hN x.n (by omega) (by omega) (by omega)
      have eF : N'.F x.n = [x.n + 2, x.n + 1] := by rw [e1, hF, if_neg (by omega), if_pos rfl]
      have eT : N'.T x.n = -1 := by rw [e3, adf_T, adf_T, (k3 _ (by omega)).2.2, hmT, hoT _ (by omega)]
      obtain ⟨g1, g2, g3⟩ := hN (x.n + 3) (by omega) (by omega) (by omega)
      have gF : N'.F (x.n + 3) = [x.n] := by rw [g1, hF, if_pos rfl]
      have gT : N'.T (x.n + 3) = -1 := by rw [g3, adf_T, adf_T]; exact k4.2
      have hT := k5 N' fin (fun i f1 f2 f3 => by
        obtain ⟨a1, a2, a3⟩ := hN i (by omega) f2 (by omega)
        exact ⟨by rw [a1, hF, if_neg f3, if_neg (by omega)], a2, a3⟩) (by omega)
      have hL : ∀ u, lng (.mk 6 S [r]) u ↔ StarW (lng r) u := fun u => by
        rw [lng_mk]; simp [opL]
      have hto : ∀ n k w, k ≤ n → Rn N' fin k x.n w → ∃ u v k', w = u ++ v ∧ StarW (lng r) u ∧ k' < k ∧ Rn N' fin k' (x.n + 1) v := by
        intro n
        induction n with
        | zero =>
          intro k w hk hw
          obtain ⟨q, k', f1, f2, f3⟩ := hw.free1 (by omega) eT
          omega
        | succ n ihn =>
          intro k w hk hw
          obtain ⟨q, k', f1, f2, f3⟩ := hw.free1 (by omega) eT
          rw [eF] at f1
          simp only [List.mem_cons, List.not_mem_nil, or_false] at f1
          rcases f1 with rfl | rfl
          · obtain ⟨u, v, k2, a1, a2, a3, a4⟩ := hT.to k' w f3
            obtain ⟨q, k3, b1, b2, b3⟩ := a4.free1 (by omega) gT
            rw [gF, List.mem_singleton] at b1
            subst b1
            obtain ⟨u2, v2, k4, c1, c2, c3, c4⟩ := ihn k3 v (by omega) b3
            exact ⟨u ++ u2, v2, k4, by rw [a1, c1, List.append_assoc], .app a2 c2, by omega, c4⟩
          · exact ⟨[], w, k', rfl, .nil, by omega, f3⟩
      refine ⟨fun k w hw => ?_, fun u v k hu hv => ?_⟩
      · obtain ⟨u, v, k', a⟩ := hto k k w (Nat.le_refl _) hw
        exact ⟨u, v, k', a.1, (hL u).2 a.2.1, a.2.2⟩
      · have hu2 := (hL u).1 hu
        clear hto hu
        induction hu2 with
        | nil => exact ⟨k + 1, .free (by rw [eF]; simp) hv⟩
        | @app u1 u2 a1 a2 iha =>
          obtain ⟨k', hk⟩ := iha
          obtain ⟨k2, hk2⟩ := hT.of u1 (u2 ++ v) (k' + 1) a1 (.free (by rw [gF]; simp) hk)
          exact ⟨k2 + 1, by rw [List.append_assoc]; exact .free (by rw [eF]; simp) hk2⟩
  rw [if_neg h6]
  have ho : o = 1 := by
    split at hn <;> omega
  refine ⟨hm, by omega, fun i hi => ⟨hmF i, hmS i, hmT i⟩, ⟨by rw [hmF, hoF _ (by omega)], by rw [hmT, hoT _ (by omega)]⟩, fun i hi hi2 => ⟨fun q hq => ?_, fun q hq => ?_, ?_⟩, fun N' fin hN hf => ?_⟩
  · rw [hmF, hoF _ hi] at hq; simp at hq
  · rw [hmT, hoT _ hi] at hq; omega
  · rw [hmT, hoT _ hi]; omega
  · obtain ⟨e1, e2, e3⟩ := hN x.n (by omega) (by omega) (by omega)
    refine ⟨fun k w hw => ?_, fun u v k hu hv => ?_⟩
    · obtain ⟨q, k', f1, _⟩ := hw.free1 (by omega) (by rw [e3, hmT, hoT _ (by omega)])
      rw [e1, hmF, hoF _ (by omega)] at f1
      simp at f1
    · rw [lng_mk] at hu
      unfold opL at hu
      rcases hu with h | h | h | h | h | h | h <;> omega
end Go.Ab
namespace Go.Ab
open Go Go.Ab Go.Proofs

inductive Fre (N : Nt) : Nat → Nat → Prop
  | refl (p : Nat) : Fre N p p
  | step {p q r : Nat} (h : q ∈ N.F p) (h2 : Fre N q r) : Fre N p r
theorem Fre.trans {N : Nt} {p q r : Nat} (h : Fre N p q) (h2 : Fre N q r) : Fre N p r := by
  induction h with
  | refl => exact h2
  | step h _ ih => exact .step h (ih h2)
def inS (s : List Bool) (p : Nat) : Prop := s.getD p false = true
open Classical in
noncomputable def cloN (N : Nt) (s : List Bool) : List Bool := (List.range N.n).map fun i : Nat => decide (∃ j, inS s j ∧ Fre N j i)
open Classical in
noncomputable def stpN (N : Nt) (s : List Bool) (c : UInt8) : List Bool := (List.range N.n).map fun i : Nat => decide (∃ p, p < N.n ∧ inS s p ∧ N.T p = (i : Int) ∧ isIn (N.S p) c)
noncomputable def dN (N : Nt) (s : List Bool) (c : UInt8) : List Bool := cloN N (stpN N s c)
theorem cloN_len (N : Nt) (s : List Bool) : (cloN N s).length = N.n := by simp [cloN]
theorem stpN_len (N : Nt) (s : List Bool) (c : UInt8) : (stpN N s c).length = N.n := by simp [stpN]
theorem inS_map {n i : Nat} {f : Nat → Bool} : inS ((List.range n).map f) i ↔ i < n ∧ f i = true := by
  unfold inS
  rw [List.getD_eq_getElem?_getD, List.getElem?_map]
  rcases Nat.lt_or_ge i n with h | h
  · rw [List.getElem?_range h]; simp [h]
  · rw [List.getElem?_eq_none (by simpa using h)]; simp; omega
theorem inS_clo {N : Nt} {s : List Bool} {i : Nat} : inS (cloN N s) i ↔ i < N.n ∧ ∃ j, inS s j ∧ Fre N j i := by
  unfold cloN; rw [inS_map]; simp only [decide_eq_true_eq]
theorem inS_stp {N : Nt} {s : List Bool} {c : UInt8} {i : Nat} : inS (stpN N s c) i ↔ i < N.n ∧ ∃ p, p < N.n ∧ inS s p ∧ N.T p = (i : Int) ∧ isIn (N.S p) c := by
  unfold stpN; rw [inS_map]; simp only [decide_eq_true_eq]
structure Nt.In (N : Nt) : Prop where
  f : ∀ p, ∀ q ∈ N.F p, q < N.n
  t : ∀ (p q : Nat), N.T p = (q : Int) → q < N.n
def Clo (N : Nt) (s : List Bool) : Prop := ∀ p q, inS s p → q ∈ N.F p → inS s q
theorem clo_clo {N : Nt} (hN : N.In) (s : List Bool) : Clo N (cloN N s) := fun p q hp hq => by
  rw [inS_clo] at hp ⊢
  obtain ⟨_, j, h1, h2⟩ := hp
  exact ⟨hN.f p q hq, j, h1, h2.trans (.step hq (.refl q))⟩
theorem Rn.fre {N : Nt} {fin k p q : Nat} {w : Wd} (h : Fre N p q) (hw : Rn N fin k q w) : ∃ k', Rn N fin k' p w := by
  induction h with
  | refl => exact ⟨k, hw⟩
  | step h _ ih =>
    obtain ⟨k', hk⟩ := ih hw
    exact ⟨k' + 1, .free h hk⟩
theorem Rn.nil {N : Nt} {fin k p : Nat} {w : Wd} {s : List Bool} (hs : Clo N s) (h : Rn N fin k p w) (hw : w = []) (hp : inS s p) : inS s fin := by
  induction h with
  | fin => exact hp
  | free h _ ih => exact ih hw (hs _ _ hp h)
  | read => cases hw
theorem Rn.cons {N : Nt} (hN : N.In) {fin k p : Nat} {c : Fin 95} {v w : Wd} {s : List Bool} (hl : s.length = N.n) (hs : Clo N s) (h : Rn N fin k p v) (hv : v = c :: w) (hp : inS s p) : ∃ q, inS (dN N s (lb c)) q ∧ ∃ k', Rn N fin k' q w := by
  induction h with
  | fin => cases hv
  | free h _ ih => exact ih hv (hs _ _ hp h)
  | @read k p q a w' h hi h2 _ =>
    injection hv with e1 e2
    subst e1; subst e2
    have hq := hN.t _ _ h
    have hpn : p < N.n := by
      rcases Nat.lt_or_ge p N.n with h' | h'
      · exact h'
      · unfold inS at hp; rw [List.getD_eq_getElem?_getD, List.getElem?_eq_none (by omega)] at hp; cases hp
    exact ⟨q, inS_clo.2 ⟨hq, q, inS_stp.2 ⟨hq, p, hpn, hp, h, hi⟩, .refl q⟩, _, h2⟩
theorem Rn.back {N : Nt} {fin k q : Nat} {c : Fin 95} {w : Wd} {s : List Bool} (hq : inS (dN N s (lb c)) q) (h : Rn N fin k q w) : ∃ p, inS s p ∧ ∃ k', Rn N fin k' p (c :: w) := by
  obtain ⟨_, j, h1, h2⟩ := inS_clo.1 hq
  obtain ⟨_, p, _, h3, h4, h5⟩ := inS_stp.1 h1
  obtain ⟨k', hk⟩ := Rn.fre h2 h
  exact ⟨p, h3, k' + 1, .read h4 h5 hk⟩
theorem run_dN {N : Nt} (hN : N.In) (fin : Nat) : ∀ (w : Wd) (s : List Bool), s.length = N.n → Clo N s → (inS (w.foldl (fun s a => dN N s (lb a)) s) fin ↔ ∃ p, inS s p ∧ ∃ k, Rn N fin k p w)
  | [], s, hl, hs => ⟨fun h => ⟨fin, h, 0, .fin⟩, fun ⟨p, hp, k, h⟩ => h.nil hs rfl hp⟩
  | c :: w, s, hl, hs => by
    rw [List.foldl_cons, run_dN hN fin w (dN N s (lb c)) (cloN_len _ _) (clo_clo hN _)]
    exact ⟨fun ⟨q, hq, k, h⟩ => h.back hq, fun ⟨p, hp, k, h⟩ => h.cons hN hl hs rfl hp⟩
noncomputable def s0N (N : Nt) : List Bool := cloN N ((List.replicate N.n false).set 0 true)
theorem inS_one {n i : Nat} (hn : 0 < n) : inS ((List.replicate n false).set 0 true) i ↔ i = 0 := by
  unfold inS
  rw [getD_set _ _ _ _ _ (by simpa using hn)]
  split
  · simp [*]
  · rw [List.getD_eq_getElem?_getD]
    simp only [List.getElem?_replicate]
    split <;> simp [*]
def ntX (r : Rx) : Nt := layN r nt0
theorem nt0_ok : nt0.Ok := ⟨rfl, rfl⟩
theorem ntX_ok {r : Rx} (hw : r.wf) (ht : r.tight) : LayOk nt0 (ntX r) (lng r) r.cnt := layN_ok r hw ht nt0 nt0_ok
theorem ntX_in {r : Rx} (hw : r.wf) (ht : r.tight) : (ntX r).In := by
  have h := ntX_ok hw ht
  have hlt := h.lt
  have e : nt0.n = 0 := rfl
  rw [e] at hlt
  refine ⟨fun p q hq => ?_, fun p q hq => ?_⟩
  · rcases Nat.lt_or_ge p (ntX r).n with hp | hp
    · exact (hlt p (Nat.zero_le _) hp).1 q hq
    · rw [out_F h.ok hp] at hq; cases hq
  · rcases Nat.lt_or_ge p (ntX r).n with hp | hp
    · exact (hlt p (Nat.zero_le _) hp).2.1 q hq
    · rw [out_T hp] at hq; omega
theorem ntX_run {r : Rx} (hw : r.wf) (ht : r.tight) (w : Wd) : inS (w.foldl (fun s a => dN (ntX r) s (lb a)) (s0N (ntX r))) 1 ↔ lng r w := by
  have h := ntX_ok hw ht
  have hN := ntX_in hw ht
  have e : nt0.n = 0 := rfl
  have hn := h.n
  have hT := h.thr (ntX r) 1 (fun i _ _ _ => ⟨rfl, rfl, rfl⟩) (by rw [e]; omega)
  rw [e] at hn hT
  rw [run_dN hN 1 w (s0N (ntX r)) (cloN_len _ _) (clo_clo hN _)]
  constructor
  · rintro ⟨p, hp, k, hk⟩
    obtain ⟨_, j, h1, h2⟩ := inS_clo.1 hp
    rw [inS_one (by omega)] at h1
    subst h1
    obtain ⟨k', hk'⟩ := Rn.fre h2 hk
    obtain ⟨u, v, k2, rfl, h3, h4, h5⟩ := hT.to k' w hk'
    have hv : v = [] := by
      cases h5 with
      | fin => rfl
      | free hq _ =>
        have := h.out.1
        rw [e] at this
        rw [this] at hq; cases hq
      | read hq _ _ =>
        have := h.out.2
        rw [e] at this
        rw [this] at hq; omega
    subst hv
    rw [List.append_nil]; exact h3
  · intro hw'
    obtain ⟨k, hk⟩ := hT.of w [] 0 hw' .fin
    rw [List.append_nil] at hk
    exact ⟨0, inS_clo.2 ⟨by omega, 0, (inS_one (by omega)).2 rfl, .refl 0⟩, k, hk⟩
mutual
def setsR : Rx → List ByteArray
  | .mk o S l => (if o = 3 then [S] else []) ++ setsRs l
def setsRs : List Rx → List ByteArray
  | [] => []
  | r :: l => setsR r ++ setsRs l
end
theorem mem_setsRs {S : ByteArray} : ∀ {l : List Rx}, S ∈ setsRs l ↔ ∃ r ∈ l, S ∈ setsR r
  | [] => by simp [setsRs]
  | r :: l => by rw [setsRs, List.mem_append, mem_setsRs]; simp
theorem sett_S {x : Nt} {a b : Nat} {S : ByteArray} (i : Nat) : (sett x a b S).S i = x.S i ∨ (sett x a b S).S i = S := by
  unfold sett Nt.S
  simp only
  rw [List.getD_eq_getElem?_getD, List.getElem?_set]
  split
  · split
    · exact .inr rfl
    · rename_i h1 h2
      left; subst h1
      rw [List.getD_eq_getElem?_getD, List.getElem?_eq_none (by omega)]
  · left; rw [List.getD_eq_getElem?_getD]
theorem layN_sets (r : Rx) : ∀ (x : Nt) (i : Nat), (layN r x).S i = x.S i ∨ (layN r x).S i ∈ setsR r := by
  induction r using Rx.ind with
  | h o S l ih =>
  intro x i
  have hm : (mor (mor x)).S i = x.S i := by rw [mor_S, mor_S]
  have goL : ∀ (l : List Rx), (∀ r ∈ l, ∀ (x : Nt) (i : Nat), (layN r x).S i = x.S i ∨ (layN r x).S i ∈ setsR r) → ∀ (x : Nt) (a b : Nat), (layL l x a b).S i = x.S i ∨ (layL l x a b).S i ∈ setsRs l := by
    intro l
    induction l with
    | nil => intro _ x a b; exact .inl rfl
    | cons r l ih2 =>
      intro hl x a b
      rw [layL, setsRs]
      rcases ih2 (fun r hr => hl r (by simp [hr])) (adf (adf (layN r x) a [x.n]) (x.n + 1) [b]) a b with h | h
      · rw [h, adf_S, adf_S]
        rcases hl r (by simp) x i with h | h
        · exact .inl h
        · exact .inr (by simp [h])
      · exact .inr (by simp [h])
  have goC : ∀ (l : List Rx), (∀ r ∈ l, ∀ (x : Nt) (i : Nat), (layN r x).S i = x.S i ∨ (layN r x).S i ∈ setsR r) → ∀ (x : Nt) (a : Nat), (layC l x a).1.S i = x.S i ∨ (layC l x a).1.S i ∈ setsRs l := by
    intro l
    induction l with
    | nil => intro _ x a; exact .inl rfl
    | cons r l ih2 =>
      intro hl x a
      rw [layC, setsRs]
      rcases ih2 (fun r hr => hl r (by simp [hr])) (adf (layN r x) a [x.n]) (x.n + 1) with h | h
      · rw [h, adf_S]
        rcases hl r (by simp) x i with h | h
        · exact .inl h
        · exact .inr (by simp [h])
      · exact .inr (by simp [h])
  rw [layN, setsR]
  split
  · rw [adf_S, hm]; exact .inl rfl
  split
  · rename_i h3
    rcases sett_S (x := mor (mor x)) (a := x.n) (b := x.n + 1) (S := S) i with h | h
    · rw [h, hm]; exact .inl rfl
    · rw [h]; exact .inr (by simp [h3])
  split
  · rcases goL l ih (mor (mor x)) x.n (x.n + 1) with h | h
    · rw [h, hm]; exact .inl rfl
    · exact .inr (by simp [h])
  split
  · rw [adf_S]
    rcases goC l ih (mor (mor x)) x.n with h | h
    · rw [h, hm]; exact .inl rfl
    · exact .inr (by simp [h])
  split
  · cases l with
    | nil => rw [layS, hm]; exact .inl rfl
    | cons r l =>
      rw [layS, adf_S, adf_S, setsRs]
      rcases ih r (by simp) (mor (mor x)) i with h | h
      · rw [h, hm]; exact .inl rfl
      · exact .inr (by simp [h])
  · rw [hm]; exact .inl rfl
theorem dN_congr {r : Rx} {c d : UInt8} (h : ∀ S ∈ setsR r, (isIn S c ↔ isIn S d)) (s : List Bool) : dN (ntX r) s c = dN (ntX r) s d := by
  unfold dN stpN
  congr 1
  refine List.map_congr_left fun i _ => ?_
  have hS : ∀ p, isIn ((ntX r).S p) c ↔ isIn ((ntX r).S p) d := fun p => by
    rcases layN_sets r nt0 p with h1 | h1
    · have e : (ntX r).S p = ByteArray.empty := h1.trans (by simp [nt0, Nt.S])
      rw [e]
      have : ∀ c, ¬ isIn ByteArray.empty c := fun c ⟨i, hi, _⟩ => by
        have : ByteArray.empty.size = 0 := rfl
        omega
      simp [this]
    · exact h _ h1
  rw [decide_eq_decide]
  simp only [hS]
end Go.Ab
