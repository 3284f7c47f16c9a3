/- Part of the proof. -/
import Derived.Test.YtjfahhbobiiphaaXG
set_option linter.unusedSimpArgs false
set_option linter.unusedVariables false
set_option maxHeartbeats 4000000
namespace Go.Ab
open Go Go.Ab Go.Proofs Go.Ab.Ty

abbrev Rl := Nat → Nat → Prop
open Classical in
noncomputable def tb (R : Rl) : Tb := fun i j => decide (R i j)
theorem tb_congr {R S : Rl} (h : ∀ i j, R i j ↔ S i j) : tb R = tb S := by
  funext i j; simp [tb, h i j]
theorem tb_upd {R S : Rl} {i j : Nat} {v : Bool} (hv : v = true ↔ S i j) (h : ∀ a b, ¬ (a = i ∧ b = j) → (R a b ↔ S a b)) : updT (tb R) i j v = tb S := by
  funext a b
  simp only [updT, tb]
  split
  · rename_i e; obtain ⟨rfl, rfl⟩ := e
    cases v <;> simp_all
  · rename_i e; simp [h a b e]
def Fwd (N : Nat) (R : Rl) : Prop := ∀ i j, R i j → i ≤ j ∧ j < N
def comp (A B : Rl) : Rl := fun i j => ∃ k, A i k ∧ B k j
theorem Fwd.comp {N : Nat} {A B : Rl} (ha : Fwd N A) (hb : Fwd N B) : Fwd N (comp A B) := fun i j ⟨k, h1, h2⟩ => by
  have := ha i k h1; have := hb k j h2; omega
def outR (A B : Rl) (i k j : Nat) : Rl := fun a c => (a < i ∧ comp A B a c) ∨ (a = i ∧ ∃ m, m < k ∧ A i m ∧ B m c) ∨ (a = i ∧ A i k ∧ B k c ∧ c < j)
section
variable {N : Nat} {A B : Rl} (ha : Fwd N A) (hb : Fwd N B)
theorem outR_0 : tb (outR A B 0 0 0) = fun _ _ => false := by
  funext a c; simp [tb, outR]
theorem outR_j {i k j : Nat} (h : A i k) {old new : Bool} (ho : old = tb (outR A B i k j) i j) (hn : new = tb B k j) : updT (tb (outR A B i k j)) i j (bif old then true else new) = tb (outR A B i k (j + 1)) := by
  subst ho; subst hn
  rw [show (bif tb (outR A B i k j) i j then true else tb B k j) = (tb (outR A B i k j) i j || tb B k j) by cases tb (outR A B i k j) i j <;> rfl]
  refine tb_upd ?_ fun a c hac => ?_
  · simp only [tb, Bool.or_eq_true, decide_eq_true_eq]
    unfold outR
    constructor
    · rintro (h1 | h1)
      · rcases h1 with h1 | h1 | h1
        · exact .inl h1
        · exact .inr (.inl h1)
        · exact .inr (.inr ⟨h1.1, h1.2.1, h1.2.2.1, by omega⟩)
      · exact .inr (.inr ⟨rfl, h, h1, by omega⟩)
    · rintro (h1 | h1 | h1)
      · exact .inl (.inl h1)
      · exact .inl (.inr (.inl h1))
      · exact .inr h1.2.2.1
  · unfold outR
    constructor
    · rintro (h1 | h1 | h1)
      · exact .inl h1
      · exact .inr (.inl h1)
      · exact .inr (.inr ⟨h1.1, h1.2.1, h1.2.2.1, by omega⟩)
    · rintro (h1 | h1 | h1)
      · exact .inl h1
      · exact .inr (.inl h1)
      · refine .inr (.inr ⟨h1.1, h1.2.1, h1.2.2.1, ?_⟩)
        have : ¬ c = j := fun e => hac ⟨h1.1, e⟩
        omega
include hb in
theorem outR_k {i k j j' : Nat} (hj : j = N ∨ ¬ A i k) (hj' : j' ≤ k + 1) : tb (outR A B i k j) = tb (outR A B i (k + 1) j') := by
  refine tb_congr fun a c => ?_
  unfold outR
  constructor
  · rintro (h1 | h1 | h1)
    · exact .inl h1
    · obtain ⟨e, m, h2, h3⟩ := h1
      exact .inr (.inl ⟨e, m, by omega, h3⟩)
    · exact .inr (.inl ⟨h1.1, k, by omega, h1.2.1, h1.2.2.1⟩)
  · rintro (h1 | h1 | h1)
    · exact .inl h1
    · obtain ⟨e, m, h2, h3⟩ := h1
      by_cases hm : m = k
      · subst hm
        rcases hj with hj | hj
        · exact .inr (.inr ⟨e, h3.1, h3.2, by have := hb _ _ h3.2; omega⟩)
        · exact absurd h3.1 hj
      · exact .inr (.inl ⟨e, m, by omega, h3⟩)
    · have := hb _ _ h1.2.2.1; omega
include ha hb in
theorem outR_i {i j i' : Nat} (hi' : i' = i + 1) : tb (outR A B i N j) = tb (outR A B i' i' i') := by
  subst hi'
  refine tb_congr fun a c => ?_
  unfold outR
  constructor
  · rintro (h1 | h1 | h1)
    · exact .inl ⟨by omega, h1.2⟩
    · obtain ⟨rfl, m, h2, h3⟩ := h1
      exact .inl ⟨by omega, m, h3⟩
    · have := ha _ _ h1.2.1; omega
  · rintro (h1 | h1 | h1)
    · obtain ⟨h1, m, h2, h3⟩ := h1
      by_cases hai : a = i
      · subst hai
        exact .inr (.inl ⟨rfl, m, by have := ha _ _ h2; omega, h2, h3⟩)
      · exact .inl ⟨by omega, m, h2, h3⟩
    · obtain ⟨rfl, m, h2, h3⟩ := h1
      have := ha _ _ h3.1; omega
    · have := hb _ _ h1.2.2.1; omega
include ha hb in
theorem outR_N : tb (outR A B N N N) = tb (comp A B) := by
  refine tb_congr fun a c => ?_
  unfold outR
  constructor
  · rintro (h1 | h1 | h1)
    · exact h1.2
    · obtain ⟨rfl, m, h2, h3⟩ := h1
      exact ⟨m, h3⟩
    · exact ⟨N, by rw [h1.1]; exact h1.2.1, h1.2.2.1⟩
  · intro h1
    have := (ha.comp hb) a c h1
    exact .inl ⟨by omega, h1⟩
include hb in
end
theorem follow_ok {N : Nat} (hN : 1 ≤ N ∧ N ≤ 1000) {A B : Rl} (ha : Fwd N A) (hb : Fwd N B) : Fn Try.prog 119 [tabD N (tb A), tabD N (tb B)] (tabD N (tb (comp A B))) := by
  have hnone := none_ok (N - 1) (by omega)
  rw [show N - 1 + 1 = N by omega] at hnone
  refine Fn.intro' [(0, tabD N (tb A)), (1, tabD N (tb B))] 2 64 Try.func119 (by kernel_rfl) rfl rfl rfl rfl rfl ?_
  refine goA ?_
  rw [wrap_id (by omega) (by omega), show (N : Int) - 1 = ((N - 1 : Nat) : Int) by omega]
  refine zp rfl rfl (pl_callTab hnone rfl (by simp +decide only [go_sem] <;> rfl) (by simp +decide only [go_sem, List.map]) (by simp)) ?_
  simp only [List.length_nil, List.nil_append]
  refine goA ?_
  rw [← outR_0 (A := A) (B := B)]
  refine keA [0, 1, 5, 14, 15] ?_
  refine AWp.loopH (J := fun i : Nat => i ≤ N) (fun i => [(15, .int i), (6, .bad), (7, .bad), (8, .bad)]) (fun i => tabH 0 N (tb (outR A B i i i))) (fun i => N - i) 0 (Nat.zero_le _) .wk ?_
  rintro i hi
  refine goA ?_
  refine ifA (fun hd => ?_) (fun hd => ?_)
  · simp at hd
    refine goA ?_
    refine keA [0, 1, 5, 6, 7, 14, 15] ?_
    refine AWp.loopH (J := fun k : Nat => i ≤ k ∧ k ≤ N) (fun k => [(7, .int k), (8, .bad)]) (fun k => tabH 0 N (tb (outR A B i k k))) (fun k => N - k) i ⟨Nat.le_refl _, hi⟩ .wk ?_
    rintro k ⟨hik, hk⟩
    refine goA ?_
    refine ifA (fun hd2 => ?_) (fun hd2 => ?_)
    · simp at hd2
      refine goA ?_
      refine ARun.q1 rfl rfl (ql_tabRow i rfl rfl Try.underlying68 ⟨rfl, hd⟩ (by kernel_rfl)) ?_
      refine goA ?_
      refine ARun.q1 rfl rfl (ql_tabCell k rfl rfl Try.underlying71 ⟨rfl, hd2⟩ (by kernel_rfl)) ?_
      refine goA ?_
      refine ifA (fun hq => ?_) (fun hq => ?_)
      · simp [tb] at hq
        refine goA ?_
        rw [wrap_succ (by omega), outR_k hb (j' := k + 1) (.inr hq) (by omega)]
        exact ⟨k + 1, ⟨by omega, by omega⟩, by omega, .wk⟩
      simp [tb] at hq
      refine goA ?_
      refine keA [0, 1, 5, 6, 7, 8, 14, 15] ?_
      refine AWp.loopH (J := fun j : Nat => k ≤ j ∧ j ≤ N) (fun j => [(8, .int j)]) (fun j => tabH 0 N (tb (outR A B i k j))) (fun j => N - j) k ⟨Nat.le_refl _, hk⟩ .wk ?_
      rintro j ⟨hkj, hj⟩
      refine goA ?_
      refine ifA (fun hd3 => ?_) (fun hd3 => ?_)
      · simp at hd3
        refine goA ?_
        refine drA (k := 21) follows (hr := ?_)
        refine goA ?_
        refine ARun.q1 rfl rfl (ql_ownRowAddr i rfl rfl (by rfl) Try.underlying68 ⟨rfl, hd⟩ (by kernel_rfl)) ?_
        refine goA ?_
        refine ARun.q1 rfl rfl (ql_ownRow rfl (by rfl) hd agg71) ?_
        refine goA ?_
        refine ARun.q1 rfl rfl (ql_ownRowAddr i rfl rfl (by rfl) Try.underlying68 ⟨rfl, hd⟩ (by kernel_rfl)) ?_
        refine goA ?_
        refine ARun.q1 rfl rfl (ql_ownRow rfl (by rfl) hd agg71) ?_
        refine goA ?_
        refine ARun.q1 rfl rfl (ql_ownCellAddr j rfl rfl (tab_row00 hd) Try.underlying71 ⟨rfl, hd3⟩ (by kernel_rfl)) ?_
        refine goA ?_
        refine ARun.q1 rfl rfl (ql_ownCell rfl (tab_row00 hd) hd3 agg4) ?_
        refine goA ?_
        refine gqA (h := fun hg => ql_tabRow k (by simp +decide only [go_sem] <;> rfl) (by simp +decide only [go_sem] <;> rfl) Try.underlying68 ⟨rfl, hd2⟩ (by kernel_rfl)) (hr := ?_)
        refine goA ?_
        refine gqA (h := fun hg => ql_tabCell j (by simp +decide only [go_sem] <;> rfl) (by simp +decide only [go_sem] <;> rfl) Try.underlying71 ⟨rfl, hd3⟩ (by kernel_rfl)) (hr := ?_)
        refine goA ?_
        refine ARun.q1 rfl rfl (ql_ownCellAddr j rfl rfl (tab_row00 hd) Try.underlying71 ⟨rfl, hd3⟩ (by kernel_rfl)) ?_
        refine zp rfl rfl (pl_ownCell (bif tb (outR A B i k j) i j then true else tb B k j) (by simp +decide only [go_sem] <;> rfl) (by simp +decide only [go_sem] <;> rfl) (tab_row00 hd) hd3 (by kernel_rfl)) ?_
        rw [tab_set00 hd, outR_j hq rfl rfl]
        refine goA ?_
        rw [wrap_succ (by omega)]
        exact ⟨j + 1, ⟨by omega, by omega⟩, by omega, .wk⟩
      simp at hd3
      obtain rfl : j = N := by omega
      refine goA ?_
      rw [wrap_succ (by omega), outR_k hb (j' := k + 1) (.inl rfl) (by omega)]
      exact ⟨k + 1, ⟨by omega, by omega⟩, by omega, .wk⟩
    simp at hd2
    obtain rfl : k = N := by omega
    refine goA ?_
    rw [wrap_succ (by omega), outR_i ha hb (i' := i + 1) rfl]
    exact ⟨i + 1, by omega, by omega, .wk⟩
  simp at hd
  obtain rfl : i = N := by omega
  rw [outR_N ha hb]
  refine goA ?_
  exact Ret.pub rfl (PubR_tab (by rfl) (fun i hi => tab_row0 (HC := []) rfl hi) (fun b _ _ => pre_ge (by omega)))
end Go.Ab
