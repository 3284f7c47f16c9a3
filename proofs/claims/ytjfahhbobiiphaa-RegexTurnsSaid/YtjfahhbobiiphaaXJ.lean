/- Part of the proof. -/
import Derived.Test.YtjfahhbobiiphaaXH
set_option linter.unusedSimpArgs false
set_option linter.unusedVariables false
-- fnh
set_option maxHeartbeats 4000000
namespace Go.Ab
open Go Go.Ab Go.Proofs Go.Ab.Ty

theorem blank_ok (n : Nat) (hn : n ≤ 1000) : FnH Try.prog 92 [.int n] [] (.own 0 (n + 1) 0 (n + 1)) (tabH 0 (n + 1) fun _ _ => false) := by
  refine FnH.intro' [(0, .int n)] 1 20 0 Try.func92 (by kernel_rfl) rfl rfl rfl rfl rfl rfl ?_
  refine goC ?_
  rw [wrap_succ (by omega)]
  refine zp rfl rfl (pl_make rfl rfl Try.underlying67 el71 zero71 rfl (by omega) (by omega) (by omega) (by omega)) ?_
  simp only [List.nil_append, Int.toNat_natCast, List.length_nil]
  rw [partH_0]
  refine goC ?_
  refine AWp.loopH (J := fun i : Nat => i ≤ n + 1) (fun i => [(4, .int i)]) (fun i => partH (n + 1) i) (fun i => n + 1 - i) 0 (Nat.zero_le _) .wk ?_
  rintro i hi
  refine goC ?_
  refine ifA (fun hd => ?_) (fun hd => ?_)
  · simp at hd
    refine goC ?_
    rw [wrap_succ (by omega)]
    refine zp rfl rfl (pl_make rfl rfl Try.underlying71 el4 zero4 rfl (by omega) (by omega) (by omega) (by omega)) ?_
    simp only [Int.toNat_natCast, partH_len, rep_row]
    have hi2 : i < n + 1 := by omega
    refine goC ?_
    refine ARun.q1 rfl rfl (ql_indexAddr_own rfl rfl Try.underlying67 (by rfl) (by simp [mainPB]) (by omega) (by omega) (by kernel_rfl)) ?_
    refine goC ?_
    refine zp rfl rfl (pl_store (e := .base (.slice none 0 0)) (e' := .own (i + 1) (n + 1) 0 (n + 1)) (by simp +decide only [go_sem] <;> rfl) (by simp +decide only [go_sem] <;> rfl) (by rfl) (by simp [mainPB]) (by simp [mainPB, hi2]) (by kernel_rfl) rfl (by rfl)) ?_
    rw [partH_step hi2]
    refine goC ?_
    rw [wrap_succ (by omega)]
    exact ⟨i + 1, by omega, by omega, .wk⟩
  simp at hd
  refine goC ?_
  obtain rfl : i = n + 1 := by omega
  exact RetH.id rfl rfl (partH_N (n + 1))
theorem refCat_ok {n : Nat} (hn : n ≤ 500) {A B : Rl} (ha : Fwd (n + 1) A) (hb : Fwd (n + 1) B) : Fn Try.prog 93 [tabD (n + 1) (tb A), tabD (n + 1) (tb B), .int n] (tabD (n + 1) (tb (comp A B))) := by
  have hnone := blank_ok n (by omega)
  obtain ⟨N, hN⟩ : ∃ N, N = n + 1 := ⟨_, rfl⟩
  rw [← hN] at hnone ha hb ⊢
  refine Fn.intro' [(0, tabD N (tb A)), (1, tabD N (tb B)), (2, .int n)] 3 62 Try.func93 (by kernel_rfl) rfl rfl rfl rfl rfl ?_
  refine goC ?_
  refine zp rfl rfl (pl_callTab hnone rfl (by simp +decide only [go_sem] <;> rfl) (by simp +decide only [go_sem, List.map]) (by simp)) ?_
  simp only [List.length_nil, List.nil_append]
  refine goC ?_
  rw [← outR_0 (A := A) (B := B)]
  refine keA [0, 1, 2, 7, 8] ?_
  refine AWp.loopH (J := fun i : Nat => i ≤ N) (fun i => [(8, .int i), (9, .bad), (10, .bad)]) (fun i => tabH 0 N (tb (outR A B i i i))) (fun i => N - i) 0 (Nat.zero_le _) .wk ?_
  rintro i hi
  refine goC ?_
  refine ifA (fun hd => ?_) (fun hd => ?_)
  · simp at hd
    replace hd : i < N := by omega
    refine goC ?_
    refine keA [0, 1, 2, 7, 8, 9] ?_
    refine AWp.loopH (J := fun k : Nat => i ≤ k ∧ k ≤ N) (fun k => [(9, .int k), (10, .bad)]) (fun k => tabH 0 N (tb (outR A B i k k))) (fun k => N - k) i ⟨Nat.le_refl _, hi⟩ .wk ?_
    rintro k ⟨hik, hk⟩
    refine goC ?_
    refine ifA (fun hd2 => ?_) (fun hd2 => ?_)
    · simp at hd2
      replace hd2 : k < N := by omega
      refine goC ?_
      refine keA [0, 1, 2, 7, 8, 9, 10] ?_
      refine AWp.loopH (J := fun j : Nat => k ≤ j ∧ j ≤ N ∧ (j = k ∨ A i k)) (fun j => [(10, .int j)]) (fun j => tabH 0 N (tb (outR A B i k j))) (fun j => N - j) k ⟨Nat.le_refl _, hk, .inl rfl⟩ .wk ?_
      rintro j ⟨hkj, hj, hjk⟩
      refine goC ?_
      refine ARun.q1 rfl rfl (ql_tabRow i rfl rfl Try.underlying67 ⟨rfl, hd⟩ (by kernel_rfl)) ?_
      refine goC ?_
      refine ARun.q1 rfl rfl (ql_tabCell k rfl rfl Try.underlying71 ⟨rfl, hd2⟩ (by kernel_rfl)) ?_
      refine goC ?_
      refine ifA (fun hd3 => ?_) (fun hd3 => ?_)
      · simp [tb] at hd3
        obtain ⟨hq, hd3⟩ := hd3
        replace hd3 : j < N := by omega
        refine goC ?_
        refine drA (k := 21) follows (hr := ?_)
        refine goC ?_
        refine ARun.q1 rfl rfl (ql_ownRowAddr i rfl rfl (by rfl) Try.underlying67 ⟨rfl, hd⟩ (by kernel_rfl)) ?_
        refine goC ?_
        refine ARun.q1 rfl rfl (ql_ownRow rfl (by rfl) hd agg71) ?_
        refine goC ?_
        refine ARun.q1 rfl rfl (ql_ownRowAddr i rfl rfl (by rfl) Try.underlying67 ⟨rfl, hd⟩ (by kernel_rfl)) ?_
        refine goC ?_
        refine ARun.q1 rfl rfl (ql_ownRow rfl (by rfl) hd agg71) ?_
        refine goC ?_
        refine ARun.q1 rfl rfl (ql_ownCellAddr j rfl rfl (tab_row00 hd) Try.underlying71 ⟨rfl, hd3⟩ (by kernel_rfl)) ?_
        refine goC ?_
        refine ARun.q1 rfl rfl (ql_ownCell rfl (tab_row00 hd) hd3 agg4) ?_
        refine goC ?_
        refine gqA (h := fun hg => ql_tabRow k (by simp +decide only [go_sem] <;> rfl) (by simp +decide only [go_sem] <;> rfl) Try.underlying67 ⟨rfl, hd2⟩ (by kernel_rfl)) (hr := ?_)
        refine goC ?_
        refine gqA (h := fun hg => ql_tabCell j (by simp +decide only [go_sem] <;> rfl) (by simp +decide only [go_sem] <;> rfl) Try.underlying71 ⟨rfl, hd3⟩ (by kernel_rfl)) (hr := ?_)
        refine goC ?_
        refine ARun.q1 rfl rfl (ql_ownCellAddr j rfl rfl (tab_row00 hd) Try.underlying71 ⟨rfl, hd3⟩ (by kernel_rfl)) ?_
        refine zp rfl rfl (pl_ownCell (bif tb (outR A B i k j) i j then true else tb B k j) (by simp +decide only [go_sem] <;> rfl) (by simp +decide only [go_sem] <;> rfl) (tab_row00 hd) hd3 (by kernel_rfl)) ?_
        rw [tab_set00 hd, outR_j hq rfl rfl]
        refine goC ?_
        rw [wrap_succ (by omega)]
        exact ⟨j + 1, ⟨by omega, by omega, .inr hq⟩, by omega, .wk⟩
      simp [tb] at hd3
      have hex : j = N ∨ ¬ A i k := by
        by_cases hq : A i k
        · exact .inl (by have := hd3 hq; omega)
        · exact .inr hq
      refine goC ?_
      rw [wrap_succ (by omega), outR_k hb (j' := k + 1) hex (by omega)]
      exact ⟨k + 1, ⟨by omega, by omega⟩, by omega, .wk⟩
    simp at hd2
    obtain rfl : k = N := by omega
    refine goC ?_
    rw [wrap_succ (by omega), outR_i ha hb (i' := i + 1) rfl]
    exact ⟨i + 1, by omega, by omega, .wk⟩
  simp at hd
  obtain rfl : i = N := by omega
  rw [outR_N ha hb]
  refine goC ?_
  exact Ret.pub rfl (PubR_tab (by rfl) (fun i hi => tab_row0 (HC := []) rfl hi) (fun b _ _ => pre_ge (by omega)))

/-! ### place by place -/
def outJ (F : Bool → Bool → Bool) (N : Nat) (f g : Tb) (i j : Nat) : Tb := fun a c => decide (a ≤ c ∧ c < N ∧ (a < i ∨ a = i ∧ c < j)) && F (f a c) (g a c)
def joinT (F : Bool → Bool → Bool) (N : Nat) (f g : Tb) : Tb := fun a c => decide (a ≤ c ∧ a < N ∧ c < N) && F (f a c) (g a c)
theorem outJ_0 (F : Bool → Bool → Bool) (N : Nat) (f g : Tb) : (fun _ _ => false) = outJ F N f g 0 0 := by
  funext a c; simp [outJ]
theorem outJ_j {F : Bool → Bool → Bool} {N : Nat} {f g : Tb} {i j : Nat} (hij : i ≤ j) (hj : j < N) : updT (outJ F N f g i j) i j (F (f i j) (g i j)) = outJ F N f g i (j + 1) := by
  funext a c
  simp only [updT, outJ]
  split
  · rename_i e; obtain ⟨rfl, rfl⟩ := e
    simp [hij, hj]
  · rename_i e
    congr 1
    rw [decide_eq_decide]
    omega
theorem outJ_i {F : Bool → Bool → Bool} {N : Nat} {f g : Tb} {i : Nat} : outJ F N f g i N = outJ F N f g (i + 1) (i + 1) := by
  funext a c
  simp only [outJ]
  congr 1
  rw [decide_eq_decide]
  omega
theorem outJ_N {F : Bool → Bool → Bool} {N : Nat} {f g : Tb} : outJ F N f g N N = joinT F N f g := by
  funext a c
  simp only [outJ, joinT]
  congr 1
  rw [decide_eq_decide]
  omega
theorem join_ok {N : Nat} (hN : 1 ≤ N ∧ N ≤ 1000) (F : Bool → Bool → Bool) {fid : FuncId} (hF : ∀ x y : Bool, Fn Try.prog fid [.bool x, .bool y] (.bool (F x y))) (f g : Tb) :
    Fn Try.prog 117 [tabD N f, tabD N g, .clo fid []] (tabD N (joinT F N f g)) := by
  have hnone := none_ok (N - 1) (by omega)
  rw [show N - 1 + 1 = N by omega] at hnone
  refine Fn.intro' [(0, tabD N f), (1, tabD N g), (2, .clo fid [])] 3 50 Try.func117 (by kernel_rfl) rfl rfl rfl rfl rfl ?_
  refine goC ?_
  rw [wrap_id (by omega) (by omega), show (N : Int) - 1 = ((N - 1 : Nat) : Int) by omega]
  refine zp rfl rfl (pl_callTab hnone rfl (by simp +decide only [go_sem] <;> rfl) (by simp +decide only [go_sem, List.map]) (by simp)) ?_
  simp only [List.length_nil, List.nil_append]
  refine goC ?_
  rw [outJ_0 F N f g]
  refine keA [0, 1, 2, 7, 15, 16] ?_
  refine AWp.loopH (J := fun i : Nat => i ≤ N) (fun i => [(16, .int i), (8, .bad), (9, .bad)]) (fun i => tabH 0 N (outJ F N f g i i)) (fun i => N - i) 0 (Nat.zero_le _) .wk ?_
  rintro i hi
  refine goC ?_
  refine ifA (fun hd => ?_) (fun hd => ?_)
  · simp at hd
    refine goC ?_
    refine keA [0, 1, 2, 7, 8, 9, 15, 16] ?_
    refine AWp.loopH (J := fun j : Nat => i ≤ j ∧ j ≤ N) (fun j => [(9, .int j)]) (fun j => tabH 0 N (outJ F N f g i j)) (fun j => N - j) i ⟨Nat.le_refl _, hi⟩ .wk ?_
    rintro j ⟨hij, hj⟩
    refine goC ?_
    refine ifA (fun hd3 => ?_) (fun hd3 => ?_)
    · simp at hd3
      refine goC ?_
      refine drA (k := 21) follows (hr := ?_)
      refine goC ?_
      refine ARun.q1 rfl rfl (ql_ownRowAddr i rfl rfl (by rfl) Try.underlying68 ⟨rfl, hd⟩ (by kernel_rfl)) ?_
      refine goC ?_
      refine ARun.q1 rfl rfl (ql_ownRow rfl (by rfl) hd agg71) ?_
      refine goC ?_
      refine ARun.q1 rfl rfl (ql_tabRow i rfl rfl Try.underlying68 ⟨rfl, hd⟩ (by kernel_rfl)) ?_
      refine goC ?_
      refine ARun.q1 rfl rfl (ql_tabCell j rfl rfl Try.underlying71 ⟨rfl, hd3⟩ (by kernel_rfl)) ?_
      refine goC ?_
      refine ARun.q1 rfl rfl (ql_tabRow i rfl rfl Try.underlying68 ⟨rfl, hd⟩ (by kernel_rfl)) ?_
      refine goC ?_
      refine ARun.q1 rfl rfl (ql_tabCell j rfl rfl Try.underlying71 ⟨rfl, hd3⟩ (by kernel_rfl)) ?_
      refine goC ?_
      refine ARun.q1 rfl rfl (ql_callC (hF (f i j) (g i j)) rfl (by simp +decide only [go_sem] <;> rfl) (by simp +decide only [go_sem, List.map]) (by simp)) ?_
      refine goC ?_
      refine ARun.q1 rfl rfl (ql_ownCellAddr j rfl rfl (tab_row00 hd) Try.underlying71 ⟨rfl, hd3⟩ (by kernel_rfl)) ?_
      refine zp rfl rfl (pl_ownCell (F (f i j) (g i j)) (by simp +decide only [go_sem] <;> rfl) (by simp +decide only [go_sem] <;> rfl) (tab_row00 hd) hd3 (by kernel_rfl)) ?_
      rw [tab_set00 hd, outJ_j hij hd3]
      refine goC ?_
      rw [wrap_succ (by omega)]
      exact ⟨j + 1, ⟨by omega, by omega⟩, by omega, .wk⟩
    simp at hd3
    obtain rfl : j = N := by omega
    refine goC ?_
    rw [wrap_succ (by omega), outJ_i]
    exact ⟨i + 1, by omega, by omega, .wk⟩
  simp at hd
  obtain rfl : i = N := by omega
  rw [outJ_N]
  refine goC ?_
  exact Ret.pub rfl (PubR_tab (by rfl) (fun i hi => tab_row0 (HC := []) rfl hi) (fun b _ _ => pre_ge (by omega)))
theorem not_ok (x y : Bool) : Fn Try.prog 118 [.bool x, .bool y] (.bool (!x)) := by
  refine Fn.intro' [(0, .bool x), (1, .bool y)] 2 7 Try.func118 (by kernel_rfl) rfl rfl rfl rfl rfl ?_
  refine goC ?_
  exact Ret.bool rfl (by cases x <;> cases y <;> rfl)
theorem or_ok (x y : Bool) : Fn Try.prog 120 [.bool x, .bool y] (.bool (x || y)) := by
  refine Fn.intro' [(0, .bool x), (1, .bool y)] 2 9 Try.func120 (by kernel_rfl) rfl rfl rfl rfl rfl ?_
  refine goC ?_
  exact Ret.bool rfl (by cases x <;> cases y <;> decide)
theorem and_ok (x y : Bool) : Fn Try.prog 121 [.bool x, .bool y] (.bool (x && y)) := by
  refine Fn.intro' [(0, .bool x), (1, .bool y)] 2 9 Try.func121 (by kernel_rfl) rfl rfl rfl rfl rfl ?_
  refine goC ?_
  exact Ret.bool rfl (by cases x <;> cases y <;> decide)
end Go.Ab
