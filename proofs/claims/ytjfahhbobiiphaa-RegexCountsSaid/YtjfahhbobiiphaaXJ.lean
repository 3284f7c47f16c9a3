/- Part of the proof. -/
import Derived.Test.YtjfahhbobiiphaaXH
set_option linter.unusedSimpArgs false
set_option linter.unusedVariables false
set_option maxHeartbeats 4000000
namespace Go.Ab
open Go Go.Ab Go.Proofs Go.Ab.Ty

def outJ (F : Bool → Bool → Bool) (N : Nat) (f g : Tb) (i j : Nat) : Tb := fun a c => decide (a ≤ c ∧ c < N ∧ (a < i ∨ a = i ∧ c < j)) && F (f a c) (g a c)
def joinT (F : Bool → Bool → Bool) (N : Nat) (f g : Tb) : Tb := fun a c => decide (a ≤ c ∧ a < N ∧ c < N) && F (f a c) (g a c)
theorem outJ_0 (F : Bool → Bool → Bool) (N : Nat) (f g : Tb) : (fun _ _ => false) = outJ F N f g 0 0 := by
  funext a c; simp [outJ]
theorem outJ_j {F : Bool → Bool → Bool} {N : Nat} {f g : Tb} {i j : Nat} (hij : i ≤ j) (hj : j < N) : updT (outJ F N f g i j) i j (F (f i j) (g i j)) = outJ F N f g i (j + 1) := by
  funext a c
  simp only [updT, outJ]
  split
  · rename_i e; obtain ⟨rfl, rfl⟩ := e
    simp [hij, hj]
  · rename_i e
    congr 1
    rw [decide_eq_decide]
    omega
theorem outJ_i {F : Bool → Bool → Bool} {N : Nat} {f g : Tb} {i : Nat} : outJ F N f g i N = outJ F N f g (i + 1) (i + 1) := by
  funext a c
  simp only [outJ]
  congr 1
  rw [decide_eq_decide]
  omega
theorem outJ_N {F : Bool → Bool → Bool} {N : Nat} {f g : Tb} : outJ F N f g N N = joinT F N f g := by
  funext a c
  simp only [outJ, joinT]
  congr 1
  rw [decide_eq_decide]
  omega
theorem join_ok {N : Nat} (hN : 1 ≤ N ∧ N ≤ 1000) (F : Bool → Bool → Bool) {fid : FuncId} (hF : ∀ x y : Bool, Fn Try.prog fid [.bool x, .bool y] (.bool (F x y))) (f g : Tb) :
    Fn Try.prog 117 [tabD N f, tabD N g, .clo fid []] (tabD N (joinT F N f g)) := by
  have hnone := none_ok (N - 1) (by omega)
  rw [show N - 1 + 1 = N by omega] at hnone
  refine Fn.intro' [(0, tabD N f), (1, tabD N g), (2, .clo fid [])] 3 50 Try.func117 (by kernel_rfl) rfl rfl rfl rfl rfl ?_
  refine goC ?_
  rw [wrap_id (by omega) (by omega), show (N : Int) - 1 = ((N - 1 : Nat) : Int) by omega]
  refine zp rfl rfl (pl_callTab hnone rfl (by simp +decide only [go_sem] <;> rfl) (by simp +decide only [go_sem, List.map]) (by simp)) ?_
  simp only [List.length_nil, List.nil_append]
  refine goC ?_
  rw [outJ_0 F N f g]
  refine keA [0, 1, 2, 7, 15, 16] ?_
  refine AWp.loopH (J := fun i : Nat => i ≤ N) (fun i => [(16, .int i), (8, .bad), (9, .bad)]) (fun i => tabH 0 N (outJ F N f g i i)) (fun i => N - i) 0 (Nat.zero_le _) .wk ?_
  rintro i hi
  refine goC ?_
  refine ifA (fun hd => ?_) (fun hd => ?_)
  · simp at hd
    refine goC ?_
    refine keA [0, 1, 2, 7, 8, 9, 15, 16] ?_
    refine AWp.loopH (J := fun j : Nat => i ≤ j ∧ j ≤ N) (fun j => [(9, .int j)]) (fun j => tabH 0 N (outJ F N f g i j)) (fun j => N - j) i ⟨Nat.le_refl _, hi⟩ .wk ?_
    rintro j ⟨hij, hj⟩
    refine goC ?_
    refine ifA (fun hd3 => ?_) (fun hd3 => ?_)
    · simp at hd3
      refine goC ?_
      refine drA (k := 21) follows (hr := ?_)
      refine goC ?_
      refine ARun.q1 rfl rfl (ql_ownRowAddr i rfl rfl (by rfl) Try.underlying68 ⟨rfl, hd⟩ (by kernel_rfl)) ?_
      refine goC ?_
      refine ARun.q1 rfl rfl (ql_ownRow rfl (by rfl) hd agg71) ?_
      refine goC ?_
      refine ARun.q1 rfl rfl (ql_tabRow i rfl rfl Try.underlying68 ⟨rfl, hd⟩ (by kernel_rfl)) ?_
      refine goC ?_
      refine ARun.q1 rfl rfl (ql_tabCell j rfl rfl Try.underlying71 ⟨rfl, hd3⟩ (by kernel_rfl)) ?_
      refine goC ?_
      refine ARun.q1 rfl rfl (ql_tabRow i rfl rfl Try.underlying68 ⟨rfl, hd⟩ (by kernel_rfl)) ?_
      refine goC ?_
      refine ARun.q1 rfl rfl (ql_tabCell j rfl rfl Try.underlying71 ⟨rfl, hd3⟩ (by kernel_rfl)) ?_
      refine goC ?_
      refine ARun.q1 rfl rfl (ql_callC (hF (f i j) (g i j)) rfl (by simp +decide only [go_sem] <;> rfl) (by simp +decide only [go_sem, List.map]) (by simp)) ?_
      refine goC ?_
      refine ARun.q1 rfl rfl (ql_ownCellAddr j rfl rfl (tab_row00 hd) Try.underlying71 ⟨rfl, hd3⟩ (by kernel_rfl)) ?_
      refine zp rfl rfl (pl_ownCell (F (f i j) (g i j)) (by simp +decide only [go_sem] <;> rfl) (by simp +decide only [go_sem] <;> rfl) (tab_row00 hd) hd3 (by kernel_rfl)) ?_
      rw [tab_set00 hd, outJ_j hij hd3]
      refine goC ?_
      rw [wrap_succ (by omega)]
      exact ⟨j + 1, ⟨by omega, by omega⟩, by omega, .wk⟩
    simp at hd3
    obtain rfl : j = N := by omega
    refine goC ?_
    rw [wrap_succ (by omega), outJ_i]
    exact ⟨i + 1, by omega, by omega, .wk⟩
  simp at hd
  obtain rfl : i = N := by omega
  rw [outJ_N]
  refine goC ?_
  exact Ret.pub rfl (PubR_tab (by rfl) (fun i hi => tab_row0 (HC := []) rfl hi) (fun b _ _ => pre_ge (by omega)))
theorem not_ok (x y : Bool) : Fn Try.prog 118 [.bool x, .bool y] (.bool (!x)) := by
  refine Fn.intro' [(0, .bool x), (1, .bool y)] 2 7 Try.func118 (by kernel_rfl) rfl rfl rfl rfl rfl ?_
  refine goC ?_
  exact Ret.bool rfl (by cases x <;> cases y <;> rfl)
theorem or_ok (x y : Bool) : Fn Try.prog 120 [.bool x, .bool y] (.bool (x || y)) := by
  refine Fn.intro' [(0, .bool x), (1, .bool y)] 2 9 Try.func120 (by kernel_rfl) rfl rfl rfl rfl rfl ?_
  refine goC ?_
  exact Ret.bool rfl (by cases x <;> cases y <;> decide)
theorem and_ok (x y : Bool) : Fn Try.prog 121 [.bool x, .bool y] (.bool (x && y)) := by
  refine Fn.intro' [(0, .bool x), (1, .bool y)] 2 9 Try.func121 (by kernel_rfl) rfl rfl rfl rfl rfl ?_
  refine goC ?_
  exact Ret.bool rfl (by cases x <;> cases y <;> decide)
end Go.Ab
