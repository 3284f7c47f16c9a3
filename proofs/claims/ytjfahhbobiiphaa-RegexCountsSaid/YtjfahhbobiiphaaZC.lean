/- Part of the proof. -/
import Derived.Test.YtjfahhbobiiphaaYR
import Derived.Test.YtjfahhbobiiphaaYT
set_option linter.unusedSimpArgs false
set_option linter.unusedVariables false
set_option maxHeartbeats 4000000
namespace Go.Ab
open Go Go.Ab Go.Proofs

def sumN (f : Nat → Nat) : Nat → Nat
  | 0 => 0
  | n + 1 => sumN f n + f n
theorem sumN_congr {f g : Nat → Nat} : ∀ {n : Nat}, (∀ c, c < n → f c = g c) → sumN f n = sumN g n
  | 0, _ => rfl
  | n + 1, h => by rw [sumN, sumN, sumN_congr fun c hc => h c (by omega), h n (by omega)]
theorem sumN_add (f g : Nat → Nat) : ∀ n, sumN f n + sumN g n = sumN (fun c => f c + g c) n
  | 0 => rfl
  | n + 1 => by rw [sumN, sumN, sumN, ← sumN_add f g n]; omega
theorem sumN_const (a : Nat) : ∀ n, sumN (fun _ => a) n = n * a
  | 0 => by simp [sumN]
  | n + 1 => by rw [sumN, sumN_const a n, Nat.succ_mul]
theorem sumN_zero : ∀ n, sumN (fun _ => 0) n = 0 := fun n => by rw [sumN_const]; omega
theorem sumN_one (h : Nat → Nat) (e : Nat) : ∀ n, sumN (fun j => (if e = j then 1 else 0) * h j) n = if e < n then h e else 0
  | 0 => by simp [sumN]
  | n + 1 => by
    rw [sumN, sumN_one h e n]
    rcases Nat.lt_trichotomy e n with h1 | h1 | h1
    · simp [h1, Nat.ne_of_lt h1, show e < n + 1 by omega]
    · subst h1; simp
    · simp [show ¬ e < n by omega, show ¬ e = n by omega, show ¬ e < n + 1 by omega]
def cnW (δ : Nat → Nat → Nat) (ac : Nat → Bool) : Nat → Nat → Nat
  | 0, q => if ac q then 1 else 0
  | k + 1, q => sumN (fun c => cnW δ ac k (δ q c)) 95
theorem cnW_lang {δ δ' : Nat → Nat → Nat} {ac ac' : Nat → Bool} : ∀ (k q q' : Nat), (∀ w : Wd, ac (dr (fun q a => δ q a.val) q w) = ac' (dr (fun q a => δ' q a.val) q' w)) → cnW δ ac k q = cnW δ' ac' k q'
  | 0, q, q', h => by
    have := h []
    rw [dr_nil, dr_nil] at this
    rw [cnW, cnW, this]
  | k + 1, q, q', h => by
    rw [cnW, cnW]
    refine sumN_congr fun c hc => cnW_lang k _ _ fun w => ?_
    have := h (⟨c, hc⟩ :: w)
    rwa [dr_cons, dr_cons] at this
theorem cnW_not (δ : Nat → Nat → Nat) (ac : Nat → Bool) : ∀ k q, cnW δ ac k q + cnW δ (fun q => !ac q) k q = 95 ^ k
  | 0, q => by rw [cnW, cnW]; cases ac q <;> rfl
  | k + 1, q => by
    rw [cnW, cnW, sumN_add, sumN_congr (g := fun _ => 95 ^ k) fun c _ => cnW_not δ ac k _, sumN_const, Nat.pow_succ, Nat.mul_comm]
abbrev mxC : Nat := 1000000000000001
def satC (f : Nat → Nat) : Nat → Nat
  | 0 => 0
  | c + 1 => min (satC f c + f c) mxC
theorem satC_eq (g : Nat → Nat) : ∀ n, satC (fun c => min (g c) mxC) n = min (sumN g n) mxC
  | 0 => by simp [satC, sumN]
  | n + 1 => by rw [satC, sumN, satC_eq g n]; omega
theorem min_mul (A m x : Nat) : min (min A mxC + m * min x mxC) mxC = min (A + m * x) mxC := by
  rcases Nat.eq_zero_or_pos m with rfl | hm
  · simp
  · rcases Nat.le_total x mxC with h | h
    · rw [Nat.min_eq_left h]; omega
    · rw [Nat.min_eq_right h]
      have h1 : mxC ≤ m * mxC := Nat.le_mul_of_pos_left _ hm
      have h2 : m * mxC ≤ m * x := Nat.mul_le_mul_left m h
      omega
theorem satC_mul (m g : Nat → Nat) : ∀ n, satC (fun j => m j * min (g j) mxC) n = min (sumN (fun j => m j * g j) n) mxC
  | 0 => by simp [satC, sumN]
  | n + 1 => by rw [satC, sumN, satC_mul m g n]; exact min_mul _ _ _
section
variable {κ : Type} [DecidableEq κ]
theorem sumN_cnK (K : Nat → κ) (h : Nat → Nat) (n : Nat) : ∀ i, (∀ c, c < i → grN K c < n) → sumN (fun j => cnK K i j * h j) n = sumN (fun c => h (grN K c)) i
  | 0, _ => by
    rw [sumN_congr (g := fun _ => 0) fun c _ => by simp [cnK], sumN_zero]; rfl
  | i + 1, hi => by
    rw [sumN, ← sumN_cnK K h n i fun c hc => hi c (by omega)]
    have h1 := sumN_one h (grN K i) n
    rw [if_pos (hi i (by omega))] at h1
    rw [← h1, sumN_add]
    refine sumN_congr fun j _ => ?_
    rw [cnK_s, Nat.add_mul]
end
def ctM (δ : Nat → Nat → Nat) (ac : Nat → Bool) (n : Nat) : Int × Int := if mxC ≤ cnW δ ac n 0 then (0, 2) else ((cnW δ ac n 0 : Nat), 0)
open Classical in
noncomputable def ctV (r : Rx) (n : Int) : Int × Int := if r.valid then (if n < 0 ∨ 20 < n then (0, 1) else match loR r with
  | some m => ctM (stepN m.1 m.2.1) (acR m.2.2) n.toNat
  | none => (0, 2)) else (0, 4)
end Go.Ab
set_option maxHeartbeats 4000000
namespace Go.Ab
open Go Go.Ab Go.Proofs

def num (w : Wd) : Nat := w.foldl (fun n a => n * 96 + a.val + 1) 0
theorem num_snoc (w : Wd) (a : Fin 95) : num (w ++ [a]) = num w * 96 + a.val + 1 := by unfold num; rw [List.foldl_append]; rfl
theorem Wd.rind {P : Wd → Prop} (h0 : P []) (hs : ∀ w a, P w → P (w ++ [a])) (w : Wd) : P w := by
  have h : ∀ n (w : Wd), w.length = n → P w := by
    intro n
    induction n with
    | zero => intro w hw; rw [List.length_eq_zero_iff] at hw; subst hw; exact h0
    | succ n ih =>
      intro w hw
      rcases List.eq_nil_or_concat w with rfl | ⟨v, a, rfl⟩
      · simp at hw
      · rw [List.concat_eq_append] at hw ⊢
        exact hs _ _ (ih v (by simpa using hw))
  exact h _ w rfl
def Lst (L : Lg) (w : Wd) : Prop := L w ∧ ∀ u, L u → num w ≤ num u
theorem Lst.ex {L : Lg} {u : Wd} (h : L u) : ∃ w, Lst L w := by
  have go : ∀ n (u : Wd), num u ≤ n → L u → ∃ w, Lst L w := by
    intro n
    induction n with
    | zero => intro u hu h; exact ⟨u, h, fun v _ => by omega⟩
    | succ n ih =>
      intro u hu h
      by_cases hx : ∃ v, L v ∧ num v ≤ n
      · obtain ⟨v, h1, h2⟩ := hx; exact ih v h2 h1
      · exact ⟨u, h, fun v hv => by
          have : ¬ num v ≤ n := fun h2 => hx ⟨v, hv, h2⟩
          omega⟩
  exact go _ u (Nat.le_refl _) h
section
variable {st : Nat → Fin 95 → Nat} {ac : Nat → Bool}
structure Bfs (st : Nat → Fin 95 → Nat) (ac : Nat → Bool) (Q : List Wd) (k c : Nat) : Prop where
  zero : Q[0]? = some []
  srt : ∀ (i j : Nat) (u v : Wd), i < j → Q[i]? = some u → Q[j]? = some v → num u < num v
  nd : (Q.map (dr st 0)).Nodup
  bd : ∀ x, Q[k]? = some x → ∀ u ∈ Q, num u < num x * 96 + c + 1
  cov : ∀ (i : Nat) (u : Wd) (a : Fin 95), Q[i]? = some u → (i < k ∨ i = k ∧ a.val < c) → ∃ v ∈ Q, dr st 0 v = dr st 0 (u ++ [a]) ∧ num v ≤ num (u ++ [a])
  na : ∀ (i : Nat) (u : Wd), i < k → Q[i]? = some u → ac (dr st 0 u) = false
  ln : ∀ (i : Nat) (u : Wd), Q[i]? = some u → u.length ≤ i
theorem Bfs.old {Q : List Wd} {k c : Nat} (h : Bfs st ac Q k c) {x : Wd} (hx : Q[k]? = some x) (hc : c < 95) (hm : st (dr st 0 x) ⟨c, hc⟩ ∈ Q.map (dr st 0)) : Bfs st ac Q k (c + 1) where
  zero := h.zero
  srt := h.srt
  nd := h.nd
  bd y hy u hu := by have := h.bd y hy u hu; omega
  cov i u a hi hh := by
    by_cases he : i = k ∧ a.val = c
    · obtain ⟨rfl, rfl⟩ := he
      rw [hx] at hi; injection hi with hi; subst hi
      obtain ⟨v, hv, he⟩ := List.mem_map.1 hm
      refine ⟨v, hv, by rw [he, dr_app]; rfl, ?_⟩
      have := h.bd _ hx v hv
      rw [num_snoc]; omega
    · exact h.cov i u a hi (by omega)
  na := h.na
  ln := h.ln
theorem Bfs.new {Q : List Wd} {k c : Nat} (h : Bfs st ac Q k c) {x : Wd} (hx : Q[k]? = some x) (hc : c < 95) (hm : ¬ st (dr st 0 x) ⟨c, hc⟩ ∈ Q.map (dr st 0)) : Bfs st ac (Q ++ [x ++ [⟨c, hc⟩]]) k (c + 1) := by
  have hk := (List.getElem?_eq_some_iff.1 hx).1
  have hn : num (x ++ [(⟨c, hc⟩ : Fin 95)]) = num x * 96 + c + 1 := num_snoc _ _
  have hbd := h.bd x hx
  have hlt : ∀ i u, (Q ++ [x ++ [(⟨c, hc⟩ : Fin 95)]])[i]? = some u → (i < Q.length ∧ Q[i]? = some u) ∨ (i = Q.length ∧ u = x ++ [⟨c, hc⟩]) := fun i u hi => by
    rcases Nat.lt_or_ge i Q.length with h1 | h1
    · rw [List.getElem?_append_left h1] at hi; exact .inl ⟨h1, hi⟩
    · have h2 := (List.getElem?_eq_some_iff.1 hi).1
      simp only [List.length_append, List.length_singleton] at h2
      obtain rfl : i = Q.length := by omega
      rw [List.getElem?_append_right (Nat.le_refl _), Nat.sub_self] at hi
      exact .inr ⟨rfl, by injection hi with hi; exact hi.symm⟩
  refine ⟨?_, ?_, ?_, ?_, ?_, ?_, ?_⟩
  · rw [List.getElem?_append_left (by omega)]; exact h.zero
  · intro i j u v hij hi hj
    rcases hlt i u hi with ⟨h1, h2⟩ | ⟨h1, h2⟩
    · rcases hlt j v hj with ⟨h3, h4⟩ | ⟨h3, rfl⟩
      · exact h.srt i j u v hij h2 h4
      · rw [hn]; exact hbd u (List.mem_of_getElem? h2)
    · have h2 := (List.getElem?_eq_some_iff.1 hj).1
      simp only [List.length_append, List.length_singleton] at h2
      omega
  · rw [List.map_append, List.nodup_append]
    refine ⟨h.nd, by simp, fun a ha b hb => ?_⟩
    simp only [List.map_cons, List.map_nil, List.mem_singleton] at hb
    subst hb
    intro e
    subst e
    rw [dr_app] at ha
    exact hm ha
  · intro y hy u hu
    rw [List.getElem?_append_left hk, hx] at hy
    injection hy with hy; subst hy
    rcases List.mem_append.1 hu with h1 | h1
    · have := hbd u h1; omega
    · rw [List.mem_singleton] at h1; subst h1; omega
  · intro i u a hi hh
    rcases hlt i u hi with ⟨h1, h2⟩ | ⟨h1, _⟩
    · by_cases he : i = k ∧ a.val = c
      · obtain ⟨rfl, rfl⟩ := he
        rw [hx] at h2; injection h2 with h2; subst h2
        exact ⟨_, List.mem_append_right _ (List.mem_singleton.2 rfl), rfl, Nat.le_refl _⟩
      · obtain ⟨v, hv, h3⟩ := h.cov i u a h2 (by omega)
        exact ⟨v, List.mem_append_left _ hv, h3⟩
    · omega
  · intro i u hik hi
    rw [List.getElem?_append_left (by omega)] at hi
    exact h.na i u hik hi
  · intro i u hi
    rcases hlt i u hi with ⟨_, h2⟩ | ⟨h1, rfl⟩
    · exact h.ln i u h2
    · have := h.ln k x hx
      rw [List.length_append, List.length_singleton]; omega
theorem Bfs.all {Q : List Wd} {k : Nat} (h : Bfs st ac Q k 0) (u : Wd) : (∃ i v, i < k ∧ Q[i]? = some v ∧ dr st 0 v = dr st 0 u ∧ num v ≤ num u) ∨ (∃ i v, k ≤ i ∧ Q[i]? = some v ∧ num v ≤ num u) := by
  induction u using Wd.rind with
  | h0 =>
    rcases Nat.eq_zero_or_pos k with rfl | hk
    · exact .inr ⟨0, [], Nat.le_refl _, h.zero, Nat.le_refl _⟩
    · exact .inl ⟨0, [], hk, h.zero, rfl, Nat.le_refl _⟩
  | hs u a ih =>
    rcases ih with ⟨i, v, h1, h2, h3, h4⟩ | ⟨i, v, h1, h2, h4⟩
    · obtain ⟨z, k1, k2, k3⟩ := h.cov i v a h2 (.inl h1)
      obtain ⟨j, hj, e⟩ := List.getElem_of_mem k1
      have hj' : Q[j]? = some z := by rw [List.getElem?_eq_getElem hj, e]
      have e1 : dr st 0 z = dr st 0 (u ++ [a]) := by rw [k2, dr_app, dr_app, h3]
      have e2 : num z ≤ num (u ++ [a]) := by rw [num_snoc] at k3 ⊢; omega
      rcases Nat.lt_or_ge j k with h5 | h5
      · exact .inl ⟨j, z, h5, hj', e1, e2⟩
      · exact .inr ⟨j, z, h5, hj', e2⟩
    · exact .inr ⟨i, v, h1, h2, by rw [num_snoc]; omega⟩
theorem Bfs.acc {Q : List Wd} {k : Nat} (h : Bfs st ac Q k 0) {x : Wd} (hx : Q[k]? = some x) (hy : ac (dr st 0 x) = true) {L : Lg} (hL : ∀ w, ac (dr st 0 w) = true ↔ L w) : Lst L x := by
  refine ⟨(hL x).1 hy, fun u hu => ?_⟩
  rcases h.all u with ⟨i, v, h1, h2, h3, h4⟩ | ⟨i, v, h1, h2, h4⟩
  · have h5 := h.na i v h1 h2
    rw [h3, (hL u).2 hu] at h5; cases h5
  · rcases Nat.lt_or_ge k i with h5 | h5
    · have := h.srt k i x v h5 hx h2; omega
    · obtain rfl : i = k := by omega
      rw [hx] at h2; injection h2 with h2; subst h2; exact h4
theorem Bfs.fin {Q : List Wd} {k : Nat} (h : Bfs st ac Q k 0) (hk : Q.length ≤ k) {L : Lg} (hL : ∀ w, ac (dr st 0 w) = true ↔ L w) : ∀ w, ¬ L w := fun u hu => by
  rcases h.all u with ⟨i, v, h1, h2, h3, h4⟩ | ⟨i, v, h1, h2, h4⟩
  · have h5 := h.na i v h1 h2
    rw [h3, (hL u).2 hu] at h5; cases h5
  · have := (List.getElem?_eq_some_iff.1 h2).1; omega
theorem Bfs.len {Q : List Wd} {k c n : Nat} (h : Bfs st ac Q k c) (hp : 0 < n) (hc : ∀ q, q < n → ∀ a, st q a < n) : Q.length ≤ n := by
  have h1 := sub_len (Q.map (dr st 0)) (List.range n) h.nd fun x hx => by
    obtain ⟨w, _, rfl⟩ := List.mem_map.1 hx
    exact List.mem_range.2 (dr_lt hc w 0 hp)
  simpa using h1
variable (st ac) in
open Classical in
noncomputable def ds (q : Nat) : Option Nat := if h : ∃ w, Lst (fun w => ac (dr st q w) = true) w then some h.choose.length else none
variable (st ac) in
end
end Go.Ab
