/- Part of the proof. -/
import Derived.Test.YtjfahhbobiiphaaXH
set_option linter.unusedSimpArgs false
set_option linter.unusedVariables false
set_option maxHeartbeats 4000000
namespace Go.Ab
open Go Go.Ab Go.Proofs Go.Ab.Ty

inductive Star (A : Rl) : Rl
  | refl (i : Nat) : Star A i i
  | step {i k j : Nat} (h : A i k) (h2 : Star A k j) : Star A i j
theorem Star.le {N : Nat} {A : Rl} (ha : Fwd N A) {i j : Nat} (h : Star A i j) : i ≤ j := by
  induction h with
  | refl => exact Nat.le_refl _
  | step h _ ih => have := ha _ _ h; omega
theorem Star.unfold {N : Nat} {A : Rl} (ha : Fwd N A) {i j : Nat} : Star A i j ↔ i = j ∨ ∃ k, i < k ∧ A i k ∧ Star A k j := by
  constructor
  · intro h
    induction h with
    | refl => exact .inl rfl
    | @step i k j h h2 ih =>
      have := ha _ _ h
      by_cases e : i = k
      · subst e; exact ih
      · exact .inr ⟨k, by omega, h, h2⟩
  · rintro (rfl | ⟨k, _, h, h2⟩)
    · exact .refl _
    · exact .step h h2
def starN (N : Nat) (A : Rl) : Rl := fun i j => j < N ∧ Star A i j
theorem starN_unf {N : Nat} {A : Rl} (ha : Fwd N A) {i j : Nat} : starN N A i j ↔ j < N ∧ (i = j ∨ ∃ k, i < k ∧ A i k ∧ starN N A k j) := by
  unfold starN
  rw [Star.unfold ha]
  constructor
  · rintro ⟨h, h2 | ⟨k, h3, h4, h5⟩⟩
    · exact ⟨h, .inl h2⟩
    · exact ⟨h, .inr ⟨k, h3, h4, h, h5⟩⟩
  · rintro ⟨h, h2 | ⟨k, h3, h4, h5⟩⟩
    · exact ⟨h, .inl h2⟩
    · exact ⟨h, .inr ⟨k, h3, h4, h5.2⟩⟩
theorem starN_fwd {N : Nat} {A : Rl} (ha : Fwd N A) : Fwd N (starN N A) := fun i j h => ⟨h.2.le ha, h.1⟩
def repR (N : Nat) (A : Rl) (k : Nat) : Rl := fun a c => k ≤ a ∧ starN N A a c
def rowR (N : Nat) (A : Rl) (i m j : Nat) : Rl := fun a c => (i < a ∧ starN N A a c) ∨ (a = i ∧ (c = i ∨ ∃ p, i < p ∧ p < m ∧ A i p ∧ starN N A p c)) ∨ (a = i ∧ A i m ∧ starN N A m c ∧ c < j)
section
variable {N : Nat} {A : Rl} (ha : Fwd N A)
include ha in
theorem repR_N : tb (repR N A N) = fun _ _ => false := by
  funext a c
  have := @starN_fwd N A ha a c
  simp only [tb, repR]
  grind
theorem repR_0 : tb (repR N A 0) = tb (starN N A) := tb_congr fun a c => by simp [repR]
include ha in
theorem rowR_s {i : Nat} (hi : i < N) : updT (tb (repR N A (i + 1))) i i true = tb (rowR N A i (i + 1) (i + 1)) := by
  refine tb_upd ?_ fun a c hac => ?_
  · simp [rowR]
  · have := @starN_fwd N A ha (i + 1) c
    unfold repR rowR
    grind
theorem rowR_j {i m j : Nat} (him : i < m) (h : A i m) {old new : Bool} (ho : old = tb (rowR N A i m j) i j) (hn : new = tb (rowR N A i m j) m j) : updT (tb (rowR N A i m j)) i j (bif old then true else new) = tb (rowR N A i m (j + 1)) := by
  subst ho; subst hn
  refine tb_upd ?_ fun a c hac => ?_
  · rw [show (bif tb (rowR N A i m j) i j then true else tb (rowR N A i m j) m j) = (tb (rowR N A i m j) i j || tb (rowR N A i m j) m j) by cases tb (rowR N A i m j) i j <;> rfl]
    simp only [tb, Bool.or_eq_true, decide_eq_true_eq]
    unfold rowR
    grind
  · unfold rowR
    grind
include ha in
theorem rowR_m {i m j j' : Nat} (him : i < m) (hj : j = N ∨ ¬ A i m) (hj' : j' ≤ m + 1) : tb (rowR N A i m j) = tb (rowR N A i (m + 1) j') := by
  refine tb_congr fun a c => ?_
  have h1 := @starN_fwd N A ha (m + 1) c
  have h2 := @starN_fwd N A ha m c
  unfold rowR
  grind
include ha in
theorem rowR_i {i j : Nat} (hi : i < N) : tb (rowR N A i N j) = tb (repR N A i) := by
  refine tb_congr fun a c => ?_
  unfold rowR repR
  have h1 := @starN_unf N A ha a c
  have h2 : ∀ p, A i p → p < N := fun p h => (ha i p h).2
  have h3 : ∀ p, starN N A p c → c < N := fun p h => h.1
  grind
end
theorem repeat_ok {N : Nat} (hN : 1 ≤ N ∧ N ≤ 1000) {A : Rl} (ha : Fwd N A) : Fn Try.prog 116 [tabD N (tb A)] (tabD N (tb (starN N A))) := by
  have hnone := none_ok (N - 1) (by omega)
  rw [show N - 1 + 1 = N by omega] at hnone
  refine Fn.intro' [(0, tabD N (tb A))] 1 70 Try.func116 (by kernel_rfl) rfl rfl rfl rfl rfl ?_
  refine goA ?_
  rw [wrap_id (by omega) (by omega), show (N : Int) - 1 = ((N - 1 : Nat) : Int) by omega]
  refine zp rfl rfl (pl_callTab hnone rfl (by simp +decide only [go_sem] <;> rfl) (by simp +decide only [go_sem, List.map]) (by simp)) ?_
  simp only [List.length_nil, List.nil_append]
  refine goA ?_
  rw [wrap_id (by omega) (by omega), ← repR_N ha]
  refine keA [0, 3, 4] ?_
  refine AWp.loopH (J := fun k : Nat => k ≤ N) (fun k => [(4, .int ((k : Int) - 1)), (5, .bad), (6, .bad)]) (fun k => tabH 0 N (tb (repR N A k))) (fun k => k) N (Nat.le_refl _) .wk ?_
  rintro k hk
  refine goA ?_
  refine ifA (fun hd => ?_) (fun hd => ?_)
  · simp at hd
    obtain ⟨i, rfl⟩ : ∃ i, k = i + 1 := ⟨k - 1, by omega⟩
    rw [show ((i + 1 : Nat) : Int) - 1 = (i : Int) by omega]
    have hi : i < N := by omega
    refine goA ?_
    refine ARun.q1 rfl rfl (ql_ownRowAddr i rfl rfl (by rfl) Try.underlying68 ⟨rfl, hi⟩ (by kernel_rfl)) ?_
    refine goA ?_
    refine ARun.q1 rfl rfl (ql_ownRow rfl (by rfl) hi agg71) ?_
    refine goA ?_
    refine ARun.q1 rfl rfl (ql_ownCellAddr i rfl rfl (tab_row00 hi) Try.underlying71 ⟨rfl, hi⟩ (by kernel_rfl)) ?_
    refine zp rfl rfl (pl_ownCell true (by simp +decide only [go_sem] <;> rfl) (by simp +decide only [go_sem] <;> rfl) (tab_row00 hi) hi (by kernel_rfl)) ?_
    rw [tab_set00 hi, rowR_s ha hi]
    refine goA ?_
    rw [wrap_succ (by omega)]
    refine keA [0, 3, 4, 5] ?_
    refine AWp.loopH (J := fun m : Nat => i < m ∧ m ≤ N) (fun m => [(5, .int m), (6, .bad)]) (fun m => tabH 0 N (tb (rowR N A i m m))) (fun m => N - m) (i + 1) ⟨by omega, by omega⟩ .wk ?_
    rintro m ⟨him, hm⟩
    refine goA ?_
    refine ifA (fun hd2 => ?_) (fun hd2 => ?_)
    · simp at hd2
      refine goA ?_
      refine ARun.q1 rfl rfl (ql_tabRow i rfl rfl Try.underlying68 ⟨rfl, hi⟩ (by kernel_rfl)) ?_
      refine goA ?_
      refine ARun.q1 rfl rfl (ql_tabCell m rfl rfl Try.underlying71 ⟨rfl, hd2⟩ (by kernel_rfl)) ?_
      refine goA ?_
      refine ifA (fun hq => ?_) (fun hq => ?_)
      · simp [tb] at hq
        refine goA ?_
        rw [wrap_succ (by omega), rowR_m ha him (j' := m + 1) (.inr hq) (by omega)]
        exact ⟨m + 1, ⟨by omega, by omega⟩, by omega, .wk⟩
      simp [tb] at hq
      refine goA ?_
      refine keA [0, 3, 4, 5, 6] ?_
      refine AWp.loopH (J := fun j : Nat => m ≤ j ∧ j ≤ N) (fun j => [(6, .int j)]) (fun j => tabH 0 N (tb (rowR N A i m j))) (fun j => N - j) m ⟨Nat.le_refl _, hm⟩ .wk ?_
      rintro j ⟨hmj, hj⟩
      refine goA ?_
      refine ifA (fun hd3 => ?_) (fun hd3 => ?_)
      · simp at hd3
        refine goA ?_
        refine drA (k := 21) follows (hr := ?_)
        refine goA ?_
        refine ARun.q1 rfl rfl (ql_ownRowAddr i rfl rfl (by rfl) Try.underlying68 ⟨rfl, hi⟩ (by kernel_rfl)) ?_
        refine goA ?_
        refine ARun.q1 rfl rfl (ql_ownRow rfl (by rfl) hi agg71) ?_
        refine goA ?_
        refine ARun.q1 rfl rfl (ql_ownRowAddr i rfl rfl (by rfl) Try.underlying68 ⟨rfl, hi⟩ (by kernel_rfl)) ?_
        refine goA ?_
        refine ARun.q1 rfl rfl (ql_ownRow rfl (by rfl) hi agg71) ?_
        refine goA ?_
        refine ARun.q1 rfl rfl (ql_ownCellAddr j rfl rfl (tab_row00 hi) Try.underlying71 ⟨rfl, hd3⟩ (by kernel_rfl)) ?_
        refine goA ?_
        refine ARun.q1 rfl rfl (ql_ownCell rfl (tab_row00 hi) hd3 agg4) ?_
        refine goA ?_
        refine gqA (h := fun hg => ql_ownRowAddr m (by simp +decide only [go_sem] <;> rfl) (by simp +decide only [go_sem] <;> rfl) (by rfl) Try.underlying68 ⟨rfl, hd2⟩ (by kernel_rfl)) (hr := ?_)
        refine goA ?_
        refine gqA (h := fun hg => ql_ownRow (by simp +decide only [go_sem] <;> rfl) (by rfl) hd2 agg71) (hr := ?_)
        refine goA ?_
        refine gqA (h := fun hg => ql_ownCellAddr j (by simp +decide only [go_sem] <;> rfl) (by simp +decide only [go_sem] <;> rfl) (tab_row00 hd2) Try.underlying71 ⟨rfl, hd3⟩ (by kernel_rfl)) (hr := ?_)
        refine goA ?_
        refine gqA (h := fun hg => ql_ownCell (by simp +decide only [go_sem] <;> rfl) (tab_row00 hd2) hd3 agg4) (hr := ?_)
        refine goA ?_
        refine ARun.q1 rfl rfl (ql_ownCellAddr j rfl rfl (tab_row00 hi) Try.underlying71 ⟨rfl, hd3⟩ (by kernel_rfl)) ?_
        refine zp rfl rfl (pl_ownCell (bif tb (rowR N A i m j) i j then true else tb (rowR N A i m j) m j) (by simp +decide only [go_sem] <;> rfl) (by simp +decide only [go_sem] <;> rfl) (tab_row00 hi) hd3 (by kernel_rfl)) ?_
        rw [tab_set00 hi, rowR_j him hq rfl rfl]
        refine goA ?_
        rw [wrap_succ (by omega)]
        exact ⟨j + 1, ⟨by omega, by omega⟩, by omega, .wk⟩
      simp at hd3
      obtain rfl : j = N := by omega
      refine goA ?_
      rw [wrap_succ (by omega), rowR_m ha him (j' := m + 1) (.inl rfl) (by omega)]
      exact ⟨m + 1, ⟨by omega, by omega⟩, by omega, .wk⟩
    simp at hd2
    obtain rfl : m = N := by omega
    refine goA ?_
    rw [wrap_id (by omega) (by omega), rowR_i ha hi]
    exact ⟨i, by omega, by omega, .wk⟩
  simp at hd
  obtain rfl : k = 0 := by omega
  rw [repR_0]
  refine goA ?_
  exact Ret.pub rfl (PubR_tab (by rfl) (fun i hi => tab_row0 (HC := []) rfl hi) (fun b _ _ => pre_ge (by omega)))
end Go.Ab
