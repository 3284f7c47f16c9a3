/- Part of the proof. -/
import Derived.Test.YtjfahhbobiiphaaXC
set_option linter.unusedSimpArgs false
set_option linter.unusedVariables false
set_option maxHeartbeats 4000000
namespace Go.Ab
open Go Go.Ab Go.Proofs Go.Ab.Ty

def chOk (s : ByteArray) (i : Nat) : Prop := ∀ h : i < s.size, okB s[i] ∧ ∀ h0 : 0 < i, (s[i - 1]'(by omega)).toNat < s[i].toNat
def setOk (s : ByteArray) : Prop := ∀ i, i < s.size → chOk s i
def nodeOk (o : Int) (s : ByteArray) (n : Nat) : Prop :=
  if o = 3 then n = 0 ∧ 0 < s.size ∧ s.size ≤ 64 ∧ setOk s
  else s.size = 0 ∧ ((o = 1 ∨ o = 2) ∧ n = 0 ∨ (o = 4 ∨ o = 5 ∨ o = 7) ∧ 2 ≤ n ∧ n ≤ 8 ∨ (o = 6 ∨ o = 8) ∧ n = 1)
theorem bs_nil (s : ByteArray) : s.toList = [] ↔ s.size = 0 := by
  rw [ByteArray.toList_eq]
  rcases s with ⟨a⟩
  simp [ByteArray.size]
theorem bs_nil' : ByteArray.toList ⟨#[]⟩ = [] := by rw [bs_nil]; rfl
theorem bs_e (s : ByteArray) : s = ByteArray.empty ↔ s.size = 0 := by
  rw [← bs_toList, ← bs_nil]
  exact ⟨fun h => h.trans bs_nil', fun h => h.trans bs_nil'.symm⟩
theorem bs_getI {s : ByteArray} {n : Int} {i : Nat} (e : n = i) (h : i < s.size) : s[n.toNat]? = some s[i] := by
  subst e; exact bs_get h
open Classical in
theorem node_ok (o : Int) (s : ByteArray) (l : List Rx) (hs : s.size ≤ maxLen) (hn : l.length ≤ maxLen) : Fn Try.prog 95 [.agg [.int o, str s, .lst (l.map encX)]] (.bool (decide (nodeOk o s l.length))) := by
  unfold maxLen at hs hn
  refine Fn.intro' [(0, .agg [.int o, str s, .lst (l.map encX)])] 1 78 Try.func95 (by kernel_rfl) rfl rfl rfl rfl rfl ?_
  refine goB ?_
  refine ifA (fun h1 => ?_) (fun h1 => ?_)
  · simp at h1
    refine goB ?_
    refine ifA (fun h2 => ?_) (fun h2 => ?_)
    · simp [bs_nil', bs_nil] at h2
      rw [bs_e] at h2
      refine goB ?_
      exact Ret.ff rfl (by rw [nodeOk, if_pos h1]; intro h; omega)
    simp [bs_nil', bs_nil] at h2
    rw [bs_e] at h2
    obtain ⟨⟨rfl, h2⟩, h3⟩ := h2
    refine goB ?_
    refine keA [0, 1, 2, 3, 4] ?_
    refine AWp.loopP (J := fun k : Nat => k ≤ s.size ∧ ∀ i, i < s.size → i < k → chOk s i) (fun k => [(4, .int k)]) (fun k => s.size - k) 0 ⟨Nat.zero_le _, fun i h h' => by omega⟩ .wk ?_
    rintro k ⟨hk, he⟩
    refine goB ?_
    refine ifA (fun hd => ?_) (fun hd => ?_)
    · simp at hd
      refine goB ?_
      have hk1 : k - 1 < s.size := by omega
      refine drA (k := 22) follows (hr := ?_)
      refine goB ?_
      refine ARun.q1 rfl rfl (ql_index_str rfl rfl Try.underlying9 (by omega) (bs_get (i := k) (by omega))) ?_
      refine goB ?_
      refine callA (byteOf_ok s[k]) ?_
      refine goB ?_
      refine gqA (h := fun hg => ql_index_str (by simp +decide only [go_sem] <;> rfl) (by simp +decide only [go_sem] <;> rfl) Try.underlying9 (by omega) (bs_get (i := k) (by omega))) (hr := ?_)
      refine goB ?_
      refine gqA (h := fun hg => ql_index_str (by simp +decide only [go_sem] <;> rfl) (by simp +decide only [go_sem] <;> rfl) Try.underlying9 (by simp [gc, allL] at hg; rw [wrap_id (by omega) (by omega)]; omega) (by simp [gc, allL] at hg; rw [wrap_id (by omega) (by omega)]; exact bs_getI (by omega) hk1)) (hr := ?_)
      refine goB ?_
      refine ifA (fun hq => ?_) (fun hq => ?_)
      · simp at hq
        refine goB ?_
        exact Ret.ff rfl (by
          rw [nodeOk, if_pos h1]
          rintro ⟨_, _, _, h⟩
          have := h k hd hd
          rcases hq with hq | ⟨hq, hq2⟩
          · exact hq this.1
          · have := this.2 hq; omega)
      simp at hq
      refine goB ?_
      rw [wrap_succ (by omega)]
      refine ⟨k + 1, ⟨by omega, fun i h hi => ?_⟩, by omega, .wk⟩
      by_cases e : i = k
      · subst e; exact fun _ => ⟨hq.1, fun h0 => by have := hq.2 h0; omega⟩
      · exact he i h (by omega)
    simp at hd
    refine goB ?_
    exact Ret.tt rfl (by rw [nodeOk, if_pos h1]; exact ⟨rfl, by omega, by omega, fun i hi => he i hi (by omega)⟩)
  simp at h1
  refine goB ?_
  refine ifA (fun h2 => ?_) (fun h2 => ?_)
  · simp [bs_nil', bs_nil] at h2
    rw [bs_e] at h2
    refine goB ?_
    exact Ret.ff rfl (by rw [nodeOk, if_neg h1]; intro h; omega)
  simp [bs_nil', bs_nil] at h2
  rw [bs_e] at h2
  refine goB ?_
  refine ifA (fun g1 => ?_) (fun g1 => ?_)
  · simp at g1
    refine goB ?_
    refine ifA (fun g2 => ?_) (fun g2 => ?_)
    · simp at g2
      refine goB ?_
      exact Ret.bool rfl (by rw [decide_eq_true_iff, nodeOk, if_neg h1]; simp [-List.length_eq_zero_iff]; (try rw [bs_e]); omega)
    simp at g2
    omega
  simp at g1
  refine goB ?_
  refine ifA (fun g2 => ?_) (fun g2 => ?_)
  · simp at g2
    refine goB ?_
    exact Ret.bool rfl (by rw [decide_eq_true_iff, nodeOk, if_neg h1]; simp [-List.length_eq_zero_iff]; (try rw [bs_e]); omega)
  simp at g2
  refine goB ?_
  refine ifA (fun g3 => ?_) (fun g3 => ?_)
  · simp at g3
    refine goB ?_
    refine ifA (fun g4 => ?_) (fun g4 => ?_)
    · simp at g4
      refine goB ?_
      exact Ret.bool rfl (by rw [decide_eq_true_iff, nodeOk, if_neg h1]; simp [-List.length_eq_zero_iff]; (try rw [bs_e]); omega)
    simp at g4
    omega
  simp at g3
  refine goB ?_
  refine ifA (fun g4 => ?_) (fun g4 => ?_)
  · simp at g4
    refine goB ?_
    refine ifA (fun g5 => ?_) (fun g5 => ?_)
    · simp at g5
      refine goB ?_
      exact Ret.bool rfl (by rw [decide_eq_true_iff, nodeOk, if_neg h1]; simp [-List.length_eq_zero_iff]; (try rw [bs_e]); omega)
    simp at g5
    omega
  simp at g4
  refine goB ?_
  refine ifA (fun g5 => ?_) (fun g5 => ?_)
  · simp at g5
    refine goB ?_
    exact Ret.bool rfl (by rw [decide_eq_true_iff, nodeOk, if_neg h1]; simp [-List.length_eq_zero_iff]; (try rw [bs_e]); omega)
  simp at g5
  refine goB ?_
  refine ifA (fun g6 => ?_) (fun g6 => ?_)
  · simp at g6
    refine goB ?_
    refine ifA (fun g7 => ?_) (fun g7 => ?_)
    · simp at g7
      refine goB ?_
      exact Ret.bool rfl (by rw [decide_eq_true_iff, nodeOk, if_neg h1]; simp [-List.length_eq_zero_iff]; (try rw [bs_e]); omega)
    simp at g7
    omega
  simp at g6
  refine goB ?_
  refine ifA (fun g7 => ?_) (fun g7 => ?_)
  · simp at g7
    refine goB ?_
    exact Ret.bool rfl (by rw [decide_eq_true_iff, nodeOk, if_neg h1]; simp [-List.length_eq_zero_iff]; (try rw [bs_e]); omega)
  simp at g7
  refine goB ?_
  exact Ret.ff rfl (by rw [nodeOk, if_neg h1]; omega)
end Go.Ab
