/- Part of the proof. -/
import Derived.Test.YtjfahhbobiiphaaYR
import Derived.Test.YtjfahhbobiiphaaYT
set_option linter.unusedSimpArgs false
set_option linter.unusedVariables false
set_option maxHeartbeats 4000000
namespace Go.Ab
open Go Go.Ab Go.Proofs

def sumN (f : Nat → Nat) : Nat → Nat
  | 0 => 0
  | n + 1 => sumN f n + f n
def cnW (δ : Nat → Nat → Nat) (ac : Nat → Bool) : Nat → Nat → Nat
  | 0, q => if ac q then 1 else 0
  | k + 1, q => sumN (fun c => cnW δ ac k (δ q c)) 95
abbrev mxC : Nat := 1000000000000001
section
variable {κ : Type} [DecidableEq κ]
end
end Go.Ab
set_option maxHeartbeats 4000000
namespace Go.Ab
open Go Go.Ab Go.Proofs

def num (w : Wd) : Nat := w.foldl (fun n a => n * 96 + a.val + 1) 0
theorem num_nil : num [] = 0 := rfl
theorem num_snoc (w : Wd) (a : Fin 95) : num (w ++ [a]) = num w * 96 + a.val + 1 := by unfold num; rw [List.foldl_append]; rfl
theorem Wd.rind {P : Wd → Prop} (h0 : P []) (hs : ∀ w a, P w → P (w ++ [a])) (w : Wd) : P w := by
  have h : ∀ n (w : Wd), w.length = n → P w := by
    intro n
    induction n with
    | zero => intro w hw; rw [List.length_eq_zero_iff] at hw; subst hw; exact h0
    | succ n ih =>
      intro w hw
      rcases List.eq_nil_or_concat w with rfl | ⟨v, a, rfl⟩
      · simp at hw
      · rw [List.concat_eq_append] at hw ⊢
        exact hs _ _ (ih v (by simpa using hw))
  exact h _ w rfl
theorem num_inj : ∀ u v : Wd, num u = num v → u = v := by
  intro u
  induction u using Wd.rind with
  | h0 =>
    intro v h
    rcases List.eq_nil_or_concat v with rfl | ⟨v', b, rfl⟩
    · rfl
    · rw [List.concat_eq_append, num_snoc, num_nil] at h; omega
  | hs u a ih =>
    intro v h
    rcases List.eq_nil_or_concat v with rfl | ⟨v', b, rfl⟩
    · rw [num_snoc, num_nil] at h; omega
    · rw [List.concat_eq_append, num_snoc, num_snoc] at h
      have h1 := a.isLt
      have h2 := b.isLt
      have e1 : num u = num v' := by omega
      have e2 : a = b := Fin.ext (by omega)
      rw [List.concat_eq_append, ih v' e1, e2]
theorem num_len : ∀ u v : Wd, u.length < v.length → num u < num v := by
  intro u
  induction u using Wd.rind with
  | h0 =>
    intro v h
    rcases List.eq_nil_or_concat v with rfl | ⟨v', b, rfl⟩
    · simp at h
    · rw [List.concat_eq_append, num_snoc, num_nil]; omega
  | hs u a ih =>
    intro v h
    rcases List.eq_nil_or_concat v with rfl | ⟨v', b, rfl⟩
    · simp at h
    · rw [List.concat_eq_append] at h ⊢
      have := ih v' (by simp only [List.length_append, List.length_singleton] at h; omega)
      have h1 := a.isLt
      rw [num_snoc, num_snoc]; omega
theorem num_fold (w : Wd) : ∀ n, w.foldl (fun n a => n * 96 + a.val + 1) n = n * 96 ^ w.length + num w := by
  induction w using Wd.rind with
  | h0 => intro n; simp [num_nil]
  | hs w a ih =>
    intro n
    rw [List.foldl_append, ih n, num_snoc, List.length_append, List.length_singleton, Nat.pow_succ]
    show (n * 96 ^ w.length + num w) * 96 + a.val + 1 = _
    rw [Nat.add_mul, Nat.mul_assoc]; omega
theorem num_cons (a : Fin 95) (w : Wd) : num (a :: w) = (a.val + 1) * 96 ^ w.length + num w := by
  have := num_fold w (0 * 96 + a.val + 1)
  have h2 : num (a :: w) = (0 * 96 + a.val + 1) * 96 ^ w.length + num w := this
  rw [h2, Nat.zero_mul, Nat.zero_add]
theorem num_lt (w : Wd) : num w < 96 ^ w.length := by
  induction w using Wd.rind with
  | h0 => simp [num_nil]
  | hs w a ih =>
    have h1 := a.isLt
    rw [num_snoc, List.length_append, List.length_singleton, Nat.pow_succ]; omega
theorem num_cons_lt {a b : Fin 95} {u v : Wd} (hl : u.length = v.length) (h : a.val < b.val) : num (a :: u) < num (b :: v) := by
  rw [num_cons, num_cons, hl]
  have h1 := num_lt u
  rw [hl] at h1
  have h2 : (a.val + 2) * 96 ^ v.length ≤ (b.val + 1) * 96 ^ v.length := Nat.mul_le_mul_right _ (by omega)
  rw [show a.val + 2 = (a.val + 1) + 1 by omega, Nat.succ_mul] at h2
  omega
theorem num_cons_mono {a : Fin 95} {u v : Wd} (h : num u < num v) : num (a :: u) < num (a :: v) := by
  rw [num_cons, num_cons]
  have h1 : u.length ≤ v.length := Nat.le_of_not_lt fun h2 => by have := num_len v u h2; omega
  have h2 : (a.val + 1) * 96 ^ u.length ≤ (a.val + 1) * 96 ^ v.length := Nat.mul_le_mul_left _ (Nat.pow_le_pow_right (by decide) h1)
  omega
def Lst (L : Lg) (w : Wd) : Prop := L w ∧ ∀ u, L u → num w ≤ num u
theorem Lst.eq {L : Lg} {u v : Wd} (h : Lst L u) (k : Lst L v) : u = v := num_inj _ _ (Nat.le_antisymm (h.2 _ k.1) (k.2 _ h.1))
theorem Lst.ex {L : Lg} {u : Wd} (h : L u) : ∃ w, Lst L w := by
  have go : ∀ n (u : Wd), num u ≤ n → L u → ∃ w, Lst L w := by
    intro n
    induction n with
    | zero => intro u hu h; exact ⟨u, h, fun v _ => by omega⟩
    | succ n ih =>
      intro u hu h
      by_cases hx : ∃ v, L v ∧ num v ≤ n
      · obtain ⟨v, h1, h2⟩ := hx; exact ih v h2 h1
      · exact ⟨u, h, fun v hv => by
          have : ¬ num v ≤ n := fun h2 => hx ⟨v, hv, h2⟩
          omega⟩
  exact go _ u (Nat.le_refl _) h
open Classical in
noncomputable def shL (L : Lg) : ByteArray × Bool := if h : ∃ w, Lst L w then (tw h.choose, true) else (ByteArray.empty, false)
theorem shL_some {L : Lg} {w : Wd} (h : Lst L w) : shL L = (tw w, true) := by
  have hx : ∃ w, Lst L w := ⟨w, h⟩
  unfold shL
  rw [dif_pos hx, hx.choose_spec.eq h]
theorem shL_none {L : Lg} (h : ∀ w, ¬ L w) : shL L = (ByteArray.empty, false) := by
  unfold shL
  rw [dif_neg fun ⟨w, hw⟩ => h w hw.1]
section
variable {st : Nat → Fin 95 → Nat} {ac : Nat → Bool}
structure Bfs (st : Nat → Fin 95 → Nat) (ac : Nat → Bool) (Q : List Wd) (k c : Nat) : Prop where
  zero : Q[0]? = some []
  srt : ∀ (i j : Nat) (u v : Wd), i < j → Q[i]? = some u → Q[j]? = some v → num u < num v
  nd : (Q.map (dr st 0)).Nodup
  bd : ∀ x, Q[k]? = some x → ∀ u ∈ Q, num u < num x * 96 + c + 1
  cov : ∀ (i : Nat) (u : Wd) (a : Fin 95), Q[i]? = some u → (i < k ∨ i = k ∧ a.val < c) → ∃ v ∈ Q, dr st 0 v = dr st 0 (u ++ [a]) ∧ num v ≤ num (u ++ [a])
  na : ∀ (i : Nat) (u : Wd), i < k → Q[i]? = some u → ac (dr st 0 u) = false
  ln : ∀ (i : Nat) (u : Wd), Q[i]? = some u → u.length ≤ i
theorem Bfs.init : Bfs st ac [[]] 0 0 where
  zero := rfl
  srt i j u v hij hi hj := by
    have := (List.getElem?_eq_some_iff.1 hj).1
    simp only [List.length_singleton] at this; omega
  nd := by simp
  bd x hx u hu := by simp only [List.mem_singleton] at hu; subst hu; rw [num_nil]; omega
  cov i u a hi h := by omega
  na i u h := by omega
  ln i u h := by
    have h1 := List.mem_of_getElem? h
    rw [List.mem_singleton] at h1; subst h1; exact Nat.zero_le _
theorem Bfs.old {Q : List Wd} {k c : Nat} (h : Bfs st ac Q k c) {x : Wd} (hx : Q[k]? = some x) (hc : c < 95) (hm : st (dr st 0 x) ⟨c, hc⟩ ∈ Q.map (dr st 0)) : Bfs st ac Q k (c + 1) where
  zero := h.zero
  srt := h.srt
  nd := h.nd
  bd y hy u hu := by have := h.bd y hy u hu; omega
  cov i u a hi hh := by
    by_cases he : i = k ∧ a.val = c
    · obtain ⟨rfl, rfl⟩ := he
      rw [hx] at hi; injection hi with hi; subst hi
      obtain ⟨v, hv, he⟩ := List.mem_map.1 hm
      refine ⟨v, hv, by rw [he, dr_app]; rfl, ?_⟩
      have := h.bd _ hx v hv
      rw [num_snoc]; omega
    · exact h.cov i u a hi (by omega)
  na := h.na
  ln := h.ln
theorem Bfs.new {Q : List Wd} {k c : Nat} (h : Bfs st ac Q k c) {x : Wd} (hx : Q[k]? = some x) (hc : c < 95) (hm : ¬ st (dr st 0 x) ⟨c, hc⟩ ∈ Q.map (dr st 0)) : Bfs st ac (Q ++ [x ++ [⟨c, hc⟩]]) k (c + 1) := by
  have hk := (List.getElem?_eq_some_iff.1 hx).1
  have hn : num (x ++ [(⟨c, hc⟩ : Fin 95)]) = num x * 96 + c + 1 := num_snoc _ _
  have hbd := h.bd x hx
  have hlt : ∀ i u, (Q ++ [x ++ [(⟨c, hc⟩ : Fin 95)]])[i]? = some u → (i < Q.length ∧ Q[i]? = some u) ∨ (i = Q.length ∧ u = x ++ [⟨c, hc⟩]) := fun i u hi => by
    rcases Nat.lt_or_ge i Q.length with h1 | h1
    · rw [List.getElem?_append_left h1] at hi; exact .inl ⟨h1, hi⟩
    · have h2 := (List.getElem?_eq_some_iff.1 hi).1
      simp only [List.length_append, List.length_singleton] at h2
      obtain rfl : i = Q.length := by omega
      rw [List.getElem?_append_right (Nat.le_refl _), Nat.sub_self] at hi
      exact .inr ⟨rfl, by injection hi with hi; exact hi.symm⟩
  refine ⟨?_, ?_, ?_, ?_, ?_, ?_, ?_⟩
  · rw [List.getElem?_append_left (by omega)]; exact h.zero
  · intro i j u v hij hi hj
    rcases hlt i u hi with ⟨h1, h2⟩ | ⟨h1, h2⟩
    · rcases hlt j v hj with ⟨h3, h4⟩ | ⟨h3, rfl⟩
      · exact h.srt i j u v hij h2 h4
      · rw [hn]; exact hbd u (List.mem_of_getElem? h2)
    · have h2 := (List.getElem?_eq_some_iff.1 hj).1
      simp only [List.length_append, List.length_singleton] at h2
      omega
  · rw [List.map_append, List.nodup_append]
    refine ⟨h.nd, by simp, fun a ha b hb => ?_⟩
    simp only [List.map_cons, List.map_nil, List.mem_singleton] at hb
    subst hb
    intro e
    subst e
    rw [dr_app] at ha
    exact hm ha
  · intro y hy u hu
    rw [List.getElem?_append_left hk, hx] at hy
    injection hy with hy; subst hy
    rcases List.mem_append.1 hu with h1 | h1
    · have := hbd u h1; omega
    · rw [List.mem_singleton] at h1; subst h1; omega
  · intro i u a hi hh
    rcases hlt i u hi with ⟨h1, h2⟩ | ⟨h1, _⟩
    · by_cases he : i = k ∧ a.val = c
      · obtain ⟨rfl, rfl⟩ := he
        rw [hx] at h2; injection h2 with h2; subst h2
        exact ⟨_, List.mem_append_right _ (List.mem_singleton.2 rfl), rfl, Nat.le_refl _⟩
      · obtain ⟨v, hv, h3⟩ := h.cov i u a h2 (by omega)
        exact ⟨v, List.mem_append_left _ hv, h3⟩
    · omega
  · intro i u hik hi
    rw [List.getElem?_append_left (by omega)] at hi
    exact h.na i u hik hi
  · intro i u hi
    rcases hlt i u hi with ⟨_, h2⟩ | ⟨h1, rfl⟩
    · exact h.ln i u h2
    · have := h.ln k x hx
      rw [List.length_append, List.length_singleton]; omega
theorem Bfs.next {Q : List Wd} {k : Nat} (h : Bfs st ac Q k 95) {x : Wd} (hx : Q[k]? = some x) (hn : ac (dr st 0 x) = false) : Bfs st ac Q (k + 1) 0 where
  zero := h.zero
  srt := h.srt
  nd := h.nd
  bd y hy u hu := by
    have h1 := h.bd x hx u hu
    have h2 := h.srt k (k + 1) x y (by omega) hx hy
    omega
  cov i u a hi hh := by
    have := a.isLt
    exact h.cov i u a hi (by omega)
  na i u hik hi := by
    by_cases he : i = k
    · subst he; rw [hx] at hi; injection hi with hi; subst hi; exact hn
    · exact h.na i u (by omega) hi
  ln := h.ln
theorem Bfs.all {Q : List Wd} {k : Nat} (h : Bfs st ac Q k 0) (u : Wd) : (∃ i v, i < k ∧ Q[i]? = some v ∧ dr st 0 v = dr st 0 u ∧ num v ≤ num u) ∨ (∃ i v, k ≤ i ∧ Q[i]? = some v ∧ num v ≤ num u) := by
  induction u using Wd.rind with
  | h0 =>
    rcases Nat.eq_zero_or_pos k with rfl | hk
    · exact .inr ⟨0, [], Nat.le_refl _, h.zero, Nat.le_refl _⟩
    · exact .inl ⟨0, [], hk, h.zero, rfl, Nat.le_refl _⟩
  | hs u a ih =>
    rcases ih with ⟨i, v, h1, h2, h3, h4⟩ | ⟨i, v, h1, h2, h4⟩
    · obtain ⟨z, k1, k2, k3⟩ := h.cov i v a h2 (.inl h1)
      obtain ⟨j, hj, e⟩ := List.getElem_of_mem k1
      have hj' : Q[j]? = some z := by rw [List.getElem?_eq_getElem hj, e]
      have e1 : dr st 0 z = dr st 0 (u ++ [a]) := by rw [k2, dr_app, dr_app, h3]
      have e2 : num z ≤ num (u ++ [a]) := by rw [num_snoc] at k3 ⊢; omega
      rcases Nat.lt_or_ge j k with h5 | h5
      · exact .inl ⟨j, z, h5, hj', e1, e2⟩
      · exact .inr ⟨j, z, h5, hj', e2⟩
    · exact .inr ⟨i, v, h1, h2, by rw [num_snoc]; omega⟩
theorem Bfs.acc {Q : List Wd} {k : Nat} (h : Bfs st ac Q k 0) {x : Wd} (hx : Q[k]? = some x) (hy : ac (dr st 0 x) = true) {L : Lg} (hL : ∀ w, ac (dr st 0 w) = true ↔ L w) : Lst L x := by
  refine ⟨(hL x).1 hy, fun u hu => ?_⟩
  rcases h.all u with ⟨i, v, h1, h2, h3, h4⟩ | ⟨i, v, h1, h2, h4⟩
  · have h5 := h.na i v h1 h2
    rw [h3, (hL u).2 hu] at h5; cases h5
  · rcases Nat.lt_or_ge k i with h5 | h5
    · have := h.srt k i x v h5 hx h2; omega
    · obtain rfl : i = k := by omega
      rw [hx] at h2; injection h2 with h2; subst h2; exact h4
theorem Bfs.fin {Q : List Wd} {k : Nat} (h : Bfs st ac Q k 0) (hk : Q.length ≤ k) {L : Lg} (hL : ∀ w, ac (dr st 0 w) = true ↔ L w) : ∀ w, ¬ L w := fun u hu => by
  rcases h.all u with ⟨i, v, h1, h2, h3, h4⟩ | ⟨i, v, h1, h2, h4⟩
  · have h5 := h.na i v h1 h2
    rw [h3, (hL u).2 hu] at h5; cases h5
  · have := (List.getElem?_eq_some_iff.1 h2).1; omega
theorem Bfs.len {Q : List Wd} {k c n : Nat} (h : Bfs st ac Q k c) (hp : 0 < n) (hc : ∀ q, q < n → ∀ a, st q a < n) : Q.length ≤ n := by
  have h1 := sub_len (Q.map (dr st 0)) (List.range n) h.nd fun x hx => by
    obtain ⟨w, _, rfl⟩ := List.mem_map.1 hx
    exact List.mem_range.2 (dr_lt hc w 0 hp)
  simpa using h1
variable (st ac) in
open Classical in
noncomputable def ds (q : Nat) : Option Nat := if h : ∃ w, Lst (fun w => ac (dr st q w) = true) w then some h.choose.length else none
theorem ds_lst {q : Nat} {w : Wd} (h : Lst (fun w => ac (dr st q w) = true) w) : ds st ac q = some w.length := by
  have hx : ∃ w, Lst (fun w => ac (dr st q w) = true) w := ⟨w, h⟩
  unfold ds
  rw [dif_pos hx, hx.choose_spec.eq h]
theorem ds_of {q d : Nat} (h : ds st ac q = some d) : ∃ w : Wd, w.length = d ∧ Lst (fun w => ac (dr st q w) = true) w := by
  unfold ds at h
  split at h
  · rename_i hx
    injection h with h
    exact ⟨_, h, hx.choose_spec⟩
  · cases h
theorem ds_le {q : Nat} {w : Wd} (h : ac (dr st q w) = true) : ∃ e, e ≤ w.length ∧ ds st ac q = some e := by
  obtain ⟨v, hv⟩ := Lst.ex (L := fun w => ac (dr st q w) = true) h
  refine ⟨_, ?_, ds_lst hv⟩
  refine Nat.le_of_not_lt fun h2 => ?_
  have := num_len w v h2
  have := hv.2 w h
  omega
theorem ds_zero {q : Nat} : ac q = true ↔ ds st ac q = some 0 := by
  constructor
  · intro h
    obtain ⟨e, h1, h2⟩ := ds_le (st := st) (ac := ac) (q := q) (w := []) h
    rw [h2]; congr 1; simpa using h1
  · intro h
    obtain ⟨w, h1, h2⟩ := ds_of h
    rw [List.length_eq_zero_iff] at h1; subst h1
    exact h2.1
theorem ds_up {q d : Nat} {a : Fin 95} (h : ds st ac (st q a) = some d) : ∃ e, e ≤ d + 1 ∧ ds st ac q = some e := by
  obtain ⟨w, h1, h2⟩ := ds_of h
  obtain ⟨e, h3, h4⟩ := ds_le (st := st) (ac := ac) (q := q) (w := a :: w) h2.1
  exact ⟨e, by rw [List.length_cons, h1] at h3; exact h3, h4⟩
theorem Lst.tl {q : Nat} {a : Fin 95} {v : Wd} (h : Lst (fun w => ac (dr st q w) = true) (a :: v)) : Lst (fun w => ac (dr st (st q a) w) = true) v := by
  refine ⟨h.1, fun u hu => ?_⟩
  refine Nat.le_of_not_lt fun h2 => ?_
  have h3 := num_cons_mono (a := a) h2
  have := h.2 (a :: u) hu
  omega
theorem ds_dn {q d : Nat} (h : ds st ac q = some (d + 1)) : ∃ a, ds st ac (st q a) = some d := by
  obtain ⟨w, h1, h2⟩ := ds_of h
  match w, h1, h2 with
  | a :: v, h1, h2 => exact ⟨a, by rw [ds_lst h2.tl]; simp at h1; rw [h1]⟩
theorem ds_lt {n : Nat} (hc : ∀ q, q < n → ∀ a, st q a < n) {q d : Nat} (hq : q < n) (h : ds st ac q = some d) : d < n := by
  have go : ∀ k, k ≤ d → ∃ p, p < n ∧ ds st ac p = some (d - k) := by
    intro k
    induction k with
    | zero => intro _; exact ⟨q, hq, h⟩
    | succ k ih =>
      intro hk
      obtain ⟨p, h1, h2⟩ := ih (by omega)
      obtain ⟨a, h3⟩ := ds_dn (d := d - (k + 1)) (by rw [h2]; congr 1; omega)
      exact ⟨_, hc p h1 a, h3⟩
  have hw : ∀ i, ∃ p, i < d + 1 → p < n ∧ ds st ac p = some i := fun i => by
    by_cases hi : i < d + 1
    · obtain ⟨p, h1, h2⟩ := go (d - i) (by omega)
      exact ⟨p, fun _ => ⟨h1, by rw [h2]; congr 1; omega⟩⟩
    · exact ⟨0, fun h => absurd h hi⟩
  obtain ⟨W, hW⟩ := Classical.axiomOfChoice hw
  exact inj_le W (fun i hi => (hW i hi).1) fun i j hi hj e => by
    have h1 := (hW i hi).2
    have h2 := (hW j hj).2
    rw [e, h2] at h1
    injection h1 with h1; exact h1.symm
variable (st ac) in
noncomputable def fN (N q : Nat) : Int := match ds st ac q with
  | some d => if d < N then (d : Int) else -1
  | none => -1
theorem fN_eq {N q d : Nat} (h : d < N) : fN st ac N q = (d : Int) ↔ ds st ac q = some d := by
  unfold fN
  split
  · rename_i e he
    rw [he]
    by_cases h1 : e < N
    · rw [if_pos h1, Option.some.injEq]; omega
    · rw [if_neg h1, Option.some.injEq]; omega
  · rename_i he
    rw [he]
    constructor
    · intro h; omega
    · intro h; cases h
theorem fN_neg {N q : Nat} : fN st ac N q < 0 ↔ ∀ d, d < N → ds st ac q ≠ some d := by
  unfold fN
  split
  · rename_i e he
    rw [he]
    by_cases h1 : e < N
    · rw [if_pos h1]
      exact ⟨fun h => by omega, fun h => absurd rfl (h e h1)⟩
    · rw [if_neg h1]
      exact ⟨fun _ d hd h => (by injection h with h; omega), fun _ => by omega⟩
  · rename_i he
    rw [he]
    exact ⟨fun _ d hd h => (by cases h), fun _ => by omega⟩
theorem fN_same {N q : Nat} (h : 0 ≤ fN st ac N q) : fN st ac (N + 1) q = fN st ac N q := by
  unfold fN at h ⊢
  split
  · rename_i e he
    rw [he] at h
    simp only at h
    by_cases h1 : e < N
    · rw [if_pos h1, if_pos (by omega)]
    · rw [if_neg h1] at h; omega
  · rfl
theorem fN_new {N q : Nat} (hN : 1 ≤ N) (h : fN st ac N q < 0) {nk : Nat} {g : Fin 95 → Nat} {δ : Nat → Nat} (hg : ∀ a, g a < nk) (hs : ∀ k, k < nk → ∃ a, g a = k) (hst : ∀ a, st q a = δ (g a)) :
    ((∃ k, k < nk ∧ fN st ac N (δ k) = (N : Int) - 1) → fN st ac (N + 1) q = N) ∧ ((∀ k, k < nk → fN st ac N (δ k) ≠ (N : Int) - 1) → fN st ac (N + 1) q < 0 ∧ fN st ac (N + 1) q = fN st ac N q) := by
  rw [fN_neg] at h
  obtain ⟨M, rfl⟩ : ∃ M, N = M + 1 := ⟨N - 1, by omega⟩
  have e : ((M + 1 : Nat) : Int) - 1 = (M : Int) := by omega
  rw [e]
  constructor
  · rintro ⟨k, hk, h1⟩
    rw [fN_eq (by omega)] at h1
    obtain ⟨a, rfl⟩ := hs k hk
    rw [← hst] at h1
    obtain ⟨e, h2, h3⟩ := ds_up h1
    have : ¬ e < M + 1 := fun h4 => h e h4 h3
    rw [fN_eq (by omega), h3]; congr 1; omega
  · intro h1
    have h2 : ds st ac q ≠ some (M + 1) := fun h2 => by
      obtain ⟨a, ha⟩ := ds_dn h2
      refine h1 (g a) (hg a) ?_
      rw [fN_eq (by omega), ← hst]; exact ha
    have h3 : ∀ d, d < M + 1 + 1 → ds st ac q ≠ some d := fun d hd hx => by
      rcases Nat.lt_or_ge d (M + 1) with h4 | h4
      · exact h d h4 hx
      · obtain rfl : d = M + 1 := by omega
        exact h2 hx
    refine ⟨fN_neg.2 h3, ?_⟩
    have h4 := fN_neg.2 h
    have h5 := fN_neg.2 h3
    unfold fN at h4 h5 ⊢
    split <;> rename_i hh <;> rw [hh] at h4 h5 <;> simp only at h4 h5 ⊢
    split at h4 <;> split at h5 <;> first | omega | rfl
end
open Classical in
noncomputable def shV (r : Rx) : (ByteArray × Bool) × Int := if r.valid then (match loR r with
  | some _ => (shL (lng r), 0)
  | none => ((ByteArray.empty, false), 2)) else ((ByteArray.empty, false), 4)
end Go.Ab
set_option maxHeartbeats 4000000
namespace Go.Ab
open Go Go.Ab Go.Proofs

section
variable {κ : Type} [DecidableEq κ]
theorem fsN_srt (K : Nat → κ) : ∀ (n i j x y : Nat), i < j → (fsN K n)[i]? = some x → (fsN K n)[j]? = some y → x < y
  | 0, i, j, x, y, _, hi, _ => by simp [fsN] at hi
  | n + 1, i, j, x, y, hij, hi, hj => by
    rw [fsN] at hi hj
    split at hi
    · rename_i h
      rw [if_pos h] at hj
      exact fsN_srt K n i j x y hij hi hj
    · rename_i h
      rw [if_neg h] at hj
      have hl := (List.getElem?_eq_some_iff.1 hj).1
      simp only [List.length_append, List.length_singleton] at hl
      have hi2 : i < (fsN K n).length := by omega
      rw [List.getElem?_append_left hi2] at hi
      rcases Nat.lt_or_ge j (fsN K n).length with h1 | h1
      · rw [List.getElem?_append_left h1] at hj
        exact fsN_srt K n i j x y hij hi hj
      · obtain rfl : j = (fsN K n).length := by omega
        rw [List.getElem?_append_right (Nat.le_refl _), Nat.sub_self] at hj
        injection hj with hj
        subst hj
        exact fsN_lt K n x (List.mem_of_getElem? hi)
theorem grN_rep (K : Nat → κ) {n c : Nat} (h : c < n) : ∃ x, (fsN K n)[grN K c]? = some x ∧ x ≤ c := by
  obtain ⟨j, h1, h2, h3⟩ := grN_at K (Nat.lt_succ_self c)
  obtain ⟨t, ht⟩ := fsN_pre K (c + 1) (n - (c + 1))
  rw [show c + 1 + (n - (c + 1)) = n by omega] at ht
  have hl := (List.getElem?_eq_some_iff.1 h1).1
  refine ⟨j, by rw [ht, List.getElem?_append_left hl, h1], ?_⟩
  have := fsN_lt K (c + 1) j (List.mem_of_getElem? h1)
  omega
theorem pick {K : Nat → κ} {st : Nat → Fin 95 → Nat} {ac : Nat → Bool} {δ : Nat → Nat → Nat} (hst : ∀ q a, st q a = δ q (grN K a.val)) {q : Nat} {a : Fin 95} {v : Wd} (h : Lst (fun w => ac (dr st q w) = true) (a :: v)) :
    (∀ k, k < (fsN K 95).length → ds st ac (δ q k) = some v.length → grN K a.val ≤ k) ∧ ds st ac (δ q (grN K a.val)) = some v.length ∧ (fsN K 95)[grN K a.val]? = some a.val := by
  have hd : ds st ac (δ q (grN K a.val)) = some v.length := by rw [← hst]; exact ds_lst h.tl
  -- what another letter with as far a state would be
  have hle : ∀ b : Fin 95, ds st ac (st q b) = some v.length → a.val ≤ b.val := fun b hb => by
    obtain ⟨w, h1, h2⟩ := ds_of hb
    have h3 := h.2 (b :: w) h2.1
    refine Nat.le_of_not_lt fun h4 => ?_
    have := num_cons_lt (u := w) (v := v) h1 h4
    omega
  obtain ⟨x, x1, x2⟩ := grN_rep K (n := 95) a.isLt
  have hx95 : x < 95 := by have := a.isLt; omega
  have hgx : grN K x = grN K a.val := by
    have h1 := (List.getElem?_eq_some_iff.1 x1)
    obtain ⟨hl, he⟩ := h1
    rw [← he]; exact grN_sur K hl
  have hxa : x = a.val := by
    have := hle ⟨x, hx95⟩ (by rw [hst]; simp only; rw [hgx]; exact hd)
    simp only at this; omega
  subst hxa
  refine ⟨fun k hk h1 => ?_, hd, x1⟩
  refine Nat.le_of_not_lt fun h4 => ?_
  obtain ⟨y, y1, y2⟩ : ∃ y, (fsN K 95)[k]? = some y ∧ grN K y = k := ⟨_, List.getElem?_eq_getElem hk, grN_sur K hk⟩
  have hy := fsN_srt K 95 k _ _ _ h4 y1 x1
  have hy95 : y < 95 := Nat.lt_trans hy a.isLt
  have hle := hle ⟨y, hy95⟩ (by rw [hst]; simp only; rw [y2]; exact h1)
  simp only at hle
  exact absurd hle (Nat.not_le_of_lt hy)
end
def mxI (n : Nat) (f g : Nat → Int) (j : Nat) : List Int := (List.range n).map fun i => if i < j then f i else g i
section
variable {n : Nat} {f g : Nat → Int} {j : Nat}
theorem mxI_len (n : Nat) (f g : Nat → Int) (j : Nat) : (mxI n f g j).length = n := by simp [mxI]
theorem mxI_get {i : Nat} (h : i < n) : (mxI n f g j)[i]? = some (if i < j then f i else g i) := by
  unfold mxI; rw [List.getElem?_map, List.getElem?_range h]; rfl
theorem mxI_set (h : j < n) : (mxI n f g j).set j (f j) = mxI n f g (j + 1) := by
  refine List.ext_getElem (by simp [mxI]) fun i h1 h2 => ?_
  simp only [mxI, List.getElem_set, List.getElem_map, List.getElem_range]
  by_cases e : j = i
  · subst e; simp
  · rw [if_neg e]
    by_cases h3 : i < j
    · rw [if_pos h3, if_pos (by omega)]
    · rw [if_neg h3, if_neg (by omega)]
theorem mxI_skip (h : f j = g j) : mxI n f g j = mxI n f g (j + 1) := by
  refine List.ext_getElem (by simp [mxI]) fun i h1 h2 => ?_
  simp only [mxI, List.getElem_map, List.getElem_range]
  by_cases h3 : i < j
  · rw [if_pos h3, if_pos (by omega)]
  · by_cases e : i = j
    · subst e; rw [if_neg h3, if_pos (by omega), h]
    · rw [if_neg h3, if_neg (by omega)]
theorem mxI_0 : mxI n f g 0 = (List.range n).map g := by unfold mxI; simp
theorem mxI_all : mxI n f g n = (List.range n).map f := by
  unfold mxI
  exact List.map_congr_left fun i hi => by rw [if_pos (List.mem_range.1 hi)]
theorem mxI_z : (mxI n f (fun _ => 0) 0).map AV.int = List.replicate n (.base (.int .i64 0)) := by
  refine List.ext_getElem (by simp [mxI]) fun i h1 h2 => ?_
  simp [mxI]
end
section
variable {st : Nat → Fin 95 → Nat} {ac : Nat → Bool}
theorem fN_one (q : Nat) : fN st ac 1 q = if ac q then 0 else -1 := by
  by_cases h : ac q = true
  · rw [if_pos h]; exact (fN_eq (d := 0) (by decide)).2 (ds_zero.1 h)
  · rw [if_neg h]
    have h1 : ds st ac q ≠ some 0 := fun h2 => h (ds_zero.2 h2)
    unfold fN
    split
    · rename_i d hd
      rw [hd] at h1
      have : d ≠ 0 := fun e => h1 (by rw [e])
      rw [if_neg (by omega)]
    · rfl
theorem fN_step {N q : Nat} (hN : 1 ≤ N) : (fN st ac (N + 1) q = (N : Int) - 1 ↔ fN st ac N q = (N : Int) - 1) := by
  obtain ⟨M, rfl⟩ : ∃ M, N = M + 1 := ⟨N - 1, by omega⟩
  have e : ((M + 1 : Nat) : Int) - 1 = (M : Int) := by omega
  rw [e, fN_eq (by omega), fN_eq (by omega)]
end
section
variable {st : Nat → Fin 95 → Nat} {ac : Nat → Bool}
theorem dr_take {w : Wd} {i : Nat} (hi : i < w.length) : dr st 0 (w.take (i + 1)) = st (dr st 0 (w.take i)) w[i] := by
  rw [List.take_succ_eq_append_getElem hi, dr_app]; rfl
theorem Lst.dr {w : Wd} (hw : Lst (fun w => ac (dr st 0 w) = true) w) : ∀ i, i ≤ w.length → Lst (fun v => ac (Go.Ab.dr st (Go.Ab.dr st 0 (w.take i)) v) = true) (w.drop i)
  | 0, _ => by rw [List.take_zero, List.drop_zero]; exact hw
  | i + 1, hi => by
    have h1 := hw.dr i (by omega)
    rw [List.drop_eq_getElem_cons (by omega)] at h1
    have h2 := h1.tl
    rw [← dr_take (st := st) (w := w) (i := i) hi] at h2
    exact h2
theorem fN_le (N q : Nat) : -1 ≤ fN st ac N q ∧ fN st ac N q ≤ N := by
  unfold fN
  split
  · split <;> omega
  · omega
theorem far_at {n : Nat} (hcl : ∀ q, q < n → ∀ a, st q a < n) (h0 : 0 < n) {w : Wd} (hw : Lst (fun w => ac (dr st 0 w) = true) w) {i : Nat} (hi : i ≤ w.length) :
    dr st 0 (w.take i) < n ∧ fN st ac (n + 1) (dr st 0 (w.take i)) = ((w.length - i : Nat) : Int) := by
  have h1 := dr_lt hcl (w.take i) 0 h0
  refine ⟨h1, ?_⟩
  have h2 := ds_lst (hw.dr i hi)
  rw [List.length_drop] at h2
  have h3 := ds_lt hcl h1 h2
  exact (fN_eq (by omega)).2 h2
variable {κ : Type} [DecidableEq κ] in
theorem far_step {K : Nat → κ} {δ : Nat → Nat → Nat} (hst : ∀ q a, st q a = δ q (grN K a.val)) {n : Nat} (hcl : ∀ q, q < n → ∀ a, st q a < n) (h0 : 0 < n) {w : Wd} (hw : Lst (fun w => ac (dr st 0 w) = true) w) {i : Nat} (hi : i < w.length) :
    ∃ k0, k0 < (fsN K 95).length ∧ (∀ k, k < (fsN K 95).length → fN st ac (n + 1) (δ (dr st 0 (w.take i)) k) = fN st ac (n + 1) (dr st 0 (w.take i)) - 1 → k0 ≤ k) ∧ fN st ac (n + 1) (δ (dr st 0 (w.take i)) k0) = fN st ac (n + 1) (dr st 0 (w.take i)) - 1 ∧
      (fsN K 95)[k0]? = some (w[i].val) ∧ δ (dr st 0 (w.take i)) k0 = dr st 0 (w.take (i + 1)) := by
  obtain ⟨h1, h2⟩ := far_at hcl h0 hw (Nat.le_of_lt hi)
  have h3 := hw.dr i (Nat.le_of_lt hi)
  rw [List.drop_eq_getElem_cons hi] at h3
  obtain ⟨p1, p2, p3⟩ := pick hst h3
  have hln : (w.drop (i + 1)).length = w.length - (i + 1) := List.length_drop
  have hlt := ds_lt hcl h1 (ds_lst (hw.dr i (Nat.le_of_lt hi)))
  rw [List.length_drop] at hlt
  have e : ((w.length - i : Nat) : Int) - 1 = ((w.length - (i + 1) : Nat) : Int) := by omega
  rw [h2, e]
  refine ⟨grN K (w[i]).val, grN_lt K (w[i]).isLt, fun k hk h => p1 k hk ?_, ?_, p3, ?_⟩
  · rw [hln]; exact (fN_eq (by omega)).1 h
  · rw [fN_eq (by omega), ← hln]; exact p2
  · rw [dr_take hi, hst]
end
end Go.Ab
