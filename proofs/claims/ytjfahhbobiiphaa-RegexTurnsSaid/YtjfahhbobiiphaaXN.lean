/- Part of the proof. -/
import Derived.Test.YtjfahhbobiiphaaXL
import Derived.Test.YtjfahhbobiiphaaXM
set_option linter.unusedSimpArgs false
set_option linter.unusedVariables false
set_option maxHeartbeats 4000000
namespace Go.Ab
open Go Go.Ab Go.Proofs Go.Ab.Ty

def lastG (g : Nat → Bool) (a : Nat) : Nat → Int
  | 0 => -1
  | k + 1 => if a ≤ k ∧ g k = true then k else lastG g a k
theorem lastG_lt {g : Nat → Bool} {a k : Nat} (h : k ≤ a) : lastG g a k = -1 := by
  induction k with
  | zero => rfl
  | succ k ih => rw [lastG, if_neg (by omega)]; exact ih (by omega)
theorem longest_ok {N : Nat} (hN : 1 ≤ N ∧ N ≤ 1000) (f : Tb) (a : Nat) (ha : a < N) : Fn Try.prog 62 [tabD N f, .int a] (.int (lastG (f a) a N)) := by
  refine Fn.intro' [(0, tabD N f), (1, .int a)] 2 22 Try.func62 (by kernel_rfl) rfl rfl rfl rfl rfl ?_
  refine goA ?_
  refine AWp.loopP (J := fun k : Nat => k ≤ N ∧ lastG (f a) a N = lastG (f a) a k) (fun k => [(5, .int ((k : Int) - 1))]) (fun k => k) N ⟨Nat.le_refl _, rfl⟩ (by rw [wrap_id (by omega) (by omega)]; exact .wk) ?_
  rintro k ⟨hk, he⟩
  refine goA ?_
  refine ifA (fun hd => ?_) (fun hd => ?_)
  · simp at hd
    obtain ⟨j, rfl⟩ : ∃ j, k = j + 1 := ⟨k - 1, by omega⟩
    rw [show ((j + 1 : Nat) : Int) - 1 = (j : Int) by omega]
    rw [lastG] at he
    refine goA ?_
    refine ARun.q1 rfl rfl (ql_tabRow a rfl rfl Try.underlying68 ⟨rfl, ha⟩ (by kernel_rfl)) ?_
    refine goA ?_
    refine ARun.q1 rfl rfl (ql_tabCell j rfl rfl Try.underlying71 ⟨rfl, by omega⟩ (by kernel_rfl)) ?_
    refine goA ?_
    refine ifA (fun hq => ?_) (fun hq => ?_)
    · rw [if_pos ⟨by omega, hq⟩] at he
      refine goA ?_
      exact Ret.data rfl (by rw [he]; rfl) (.base _)
    rw [if_neg (by simp [hq])] at he
    refine goA ?_
    rw [wrap_id (by omega) (by omega)]
    exact ⟨j, ⟨by omega, he⟩, by omega, .wk⟩
  simp at hd
  rw [lastG_lt (k := k) (by omega)] at he
  refine goA ?_
  exact Ret.data rfl (by rw [he]; rfl) (.base _)
theorem refLongest_ok {N : Nat} (hN : 1 ≤ N ∧ N ≤ 1000) (f : Tb) (a : Nat) (ha : a < N) : Fn Try.prog 63 [tabD N f, .int a] (.int (lastG (f a) a N)) := by
  refine Fn.intro' [(0, tabD N f), (1, .int a)] 2 22 Try.func63 (by kernel_rfl) rfl rfl rfl rfl rfl ?_
  refine goA ?_
  refine AWp.loopP (J := fun k : Nat => k ≤ N ∧ lastG (f a) a N = lastG (f a) a k) (fun k => [(5, .int ((k : Int) - 1))]) (fun k => k) N ⟨Nat.le_refl _, rfl⟩ (by rw [wrap_id (by omega) (by omega)]; exact .wk) ?_
  rintro k ⟨hk, he⟩
  refine goA ?_
  refine ifA (fun hd => ?_) (fun hd => ?_)
  · simp at hd
    obtain ⟨j, rfl⟩ : ∃ j, k = j + 1 := ⟨k - 1, by omega⟩
    rw [show ((j + 1 : Nat) : Int) - 1 = (j : Int) by omega]
    rw [lastG] at he
    refine goA ?_
    refine ARun.q1 rfl rfl (ql_tabRow a rfl rfl Try.underlying67 ⟨rfl, ha⟩ (by kernel_rfl)) ?_
    refine goA ?_
    refine ARun.q1 rfl rfl (ql_tabCell j rfl rfl Try.underlying71 ⟨rfl, by omega⟩ (by kernel_rfl)) ?_
    refine goA ?_
    refine ifA (fun hq => ?_) (fun hq => ?_)
    · rw [if_pos ⟨by omega, hq⟩] at he
      refine goA ?_
      exact Ret.data rfl (by rw [he]; rfl) (.base _)
    rw [if_neg (by simp [hq])] at he
    refine goA ?_
    rw [wrap_id (by omega) (by omega)]
    exact ⟨j, ⟨by omega, he⟩, by omega, .wk⟩
  simp at hd
  rw [lastG_lt (k := k) (by omega)] at he
  refine goA ?_
  exact Ret.data rfl (by rw [he]; rfl) (.base _)
def fit (r : Rx) (s : ByteArray) : Prop := r.valid ∧ isTx s
open Classical in
noncomputable def askA (r : Rx) (s : ByteArray) : AV := if fit r s then .tup [tabM s r, .int 0] else .tup [.base (.slice none 0 0), .int 4]
open Classical in
noncomputable def matA (r : Rx) (s : ByteArray) : AV := .tup [.bool (decide (fit r s ∧ M s r 0 s.size)), .int (if fit r s then 0 else 4)]
open Classical in
noncomputable def lonA (r : Rx) (s : ByteArray) : AV := .tup [.int (if fit r s then lastG (tb (M s r) 0) 0 (s.size + 1) else 0), .int (if fit r s then 0 else 4)]
open Classical in
noncomputable def nulA (r : Rx) : AV := .tup [.bool (decide (r.valid ∧ r.nul)), .int (if r.valid then 0 else 4)]
theorem Pu_tup2 {a b : AV} (ha : Pu a) (hb : Pu b) : Pu (.tup [a, b]) := .tup fun c hc => by
  simp only [List.mem_cons, List.not_mem_nil, or_false] at hc
  rcases hc with rfl | rfl
  · exact ha
  · exact hb
theorem askA_t {r : Rx} {s : ByteArray} (h : fit r s) : askA r s = .tup [tabM s r, .int 0] := by unfold askA; rw [if_pos h]
theorem askA_f {r : Rx} {s : ByteArray} (h : ¬ fit r s) : askA r s = .tup [.base (.slice none 0 0), .int 4] := by unfold askA; rw [if_neg h]
theorem matA_t {r : Rx} {s : ByteArray} (h : fit r s) : matA r s = .tup [.bool (tb (M s r) 0 s.size), .int 0] := by unfold matA; rw [if_pos h]; simp [h, tb]
theorem matA_f {r : Rx} {s : ByteArray} (h : ¬ fit r s) : matA r s = .tup [.bool false, .int 4] := by unfold matA; rw [if_neg h]; simp [h]
theorem lonA_t {r : Rx} {s : ByteArray} (h : fit r s) : lonA r s = .tup [.int (lastG (tb (M s r) 0) 0 (s.size + 1)), .int 0] := by unfold lonA; rw [if_pos h, if_pos h]
theorem lonA_f {r : Rx} {s : ByteArray} (h : ¬ fit r s) : lonA r s = .tup [.int 0, .int 4] := by unfold lonA; rw [if_neg h, if_neg h]
theorem nulA_t {r : Rx} (h : r.valid) : nulA r = .tup [.bool (@decide r.nul (Classical.propDecidable _)), .int 0] := by unfold nulA; rw [if_pos h]; simp [h]
theorem nulA_f {r : Rx} (h : ¬ r.valid) : nulA r = .tup [.bool false, .int 4] := by unfold nulA; rw [if_neg h]; simp [h]
theorem asked_ok (r : Rx) (hok : r.ok) (hc : r.cnt ≤ 1000000000) (s : ByteArray) : Fn Try.prog 58 [encX r, str s] (askA r s) := by
  have i1 := valid_ok r hok hc
  have i2 := isText_ok s
  have i3 : fit r s → Fn Try.prog 89 [encX r, str s] (tabM s r) := fun h => parts_ok r hok h.1.2 s (by have := h.2.1; omega)
  have hT := @askA_t r s
  have hF := @askA_f r s
  have hfit : fit r s ↔ r.valid ∧ isTx s := Iff.rfl
  obtain ⟨o, S, l⟩ := r
  rw [encX_mk] at i1 i3 ⊢
  refine Fn.intro' [(0, .agg [.int o, str S, .lst (l.map encX)]), (1, str s)] 2 17 Try.func58 (by kernel_rfl) rfl rfl rfl rfl rfl ?_
  refine goA ?_
  refine callA (i1) ?_
  refine goA ?_
  refine gcallA (i := fun hg => i2) (hr := ?_)
  refine goA ?_
  refine ifA (fun h => ?_) (fun h => ?_)
  · simp at h
    rw [hF (by rw [hfit]; grind)]
    refine goA ?_
    exact Ret.data rfl rfl (Pu_tup2 (.base _) (.base _))
  simp at h
  have hfy := hfit.2 h
  rw [hT hfy]
  refine goA ?_
  refine callA ((i3 hfy)) ?_
  refine goA ?_
  exact Ret.data rfl rfl (Pu_tup2 (Pu_tabM _ _) (.base _))
theorem matches_ok (r : Rx) (hok : r.ok) (hc : r.cnt ≤ 1000000000) (s : ByteArray) : Fn Try.prog 21 [encX r, str s] (matA r s) := by
  have i1 := asked_ok r hok hc s
  have hs := fun h : fit r s => h.2.1
  by_cases hf : fit r s
  · rw [matA_t hf]
    rw [askA_t hf] at i1
    have hs := hs hf
    obtain ⟨o, S, l⟩ := r
    rw [encX_mk] at i1 ⊢
    refine Fn.intro' [(0, .agg [.int o, str S, .lst (l.map encX)]), (1, str s)] 2 24 Try.func21 (by kernel_rfl) rfl rfl rfl rfl rfl ?_
    refine goA ?_
    refine callA (i1) ?_
    refine goA ?_
    refine ifA (fun h => ?_) (fun h => ?_)
    · simp at h
    refine goA ?_
    refine ARun.q1 rfl rfl (ql_tabRow 0 rfl rfl Try.underlying68 ⟨rfl, by omega⟩ (by kernel_rfl)) ?_
    refine goA ?_
    refine ARun.q1 rfl rfl (ql_tabCell s.size rfl rfl Try.underlying71 ⟨rfl, by omega⟩ (by kernel_rfl)) ?_
    refine goA ?_
    exact Ret.data rfl rfl (Pu_tup2 (.base _) (.base _))
  · rw [matA_f hf]
    rw [askA_f hf] at i1
    obtain ⟨o, S, l⟩ := r
    rw [encX_mk] at i1 ⊢
    refine Fn.intro' [(0, .agg [.int o, str S, .lst (l.map encX)]), (1, str s)] 2 24 Try.func21 (by kernel_rfl) rfl rfl rfl rfl rfl ?_
    refine goA ?_
    refine callA (i1) ?_
    refine goA ?_
    refine ifA (fun h => ?_) (fun h => ?_)
    · refine goA ?_
      exact Ret.data rfl rfl (Pu_tup2 (.base _) (.base _))
    simp at h
theorem lonely_ok (r : Rx) (hok : r.ok) (hc : r.cnt ≤ 1000000000) (s : ByteArray) : Fn Try.prog 25 [encX r, str s] (lonA r s) := by
  have i1 := asked_ok r hok hc s
  have hs := fun h : fit r s => h.2.1
  by_cases hf : fit r s
  · rw [lonA_t hf]
    rw [askA_t hf] at i1
    have hs := hs hf
    have i2 : Fn Try.prog 62 [tabM s r, .int 0] (.int (lastG (tb (M s r) 0) 0 (s.size + 1))) := longest_ok (by omega) (tb (M s r)) 0 (by omega)
    obtain ⟨o, S, l⟩ := r
    rw [encX_mk] at i1 ⊢
    refine Fn.intro' [(0, .agg [.int o, str S, .lst (l.map encX)]), (1, str s)] 2 19 Try.func25 (by kernel_rfl) rfl rfl rfl rfl rfl ?_
    refine goA ?_
    refine callA (i1) ?_
    refine goA ?_
    refine ifA (fun h => ?_) (fun h => ?_)
    · simp at h
    refine goA ?_
    refine callA (i2) ?_
    refine goA ?_
    exact Ret.data rfl rfl (Pu_tup2 (.base _) (.base _))
  · rw [lonA_f hf]
    rw [askA_f hf] at i1
    obtain ⟨o, S, l⟩ := r
    rw [encX_mk] at i1 ⊢
    refine Fn.intro' [(0, .agg [.int o, str S, .lst (l.map encX)]), (1, str s)] 2 19 Try.func25 (by kernel_rfl) rfl rfl rfl rfl rfl ?_
    refine goA ?_
    refine callA (i1) ?_
    refine goA ?_
    refine ifA (fun h => ?_) (fun h => ?_)
    · refine goA ?_
      exact Ret.data rfl rfl (Pu_tup2 (.base _) (.base _))
    simp at h
theorem refMatches_ok (r : Rx) (hok : r.ok) (s : ByteArray) : Fn Try.prog 24 [encX r, str s] (matA r s) := by
  have i1 := refValid_ok r hok
  have i2 := refText_ok s
  have i3 : fit r s → Fn Try.prog 61 [encX r, str s] (tabM s r) := fun h => refParts_ok r hok h.1.2 s (by have := h.2.1; omega)
  have hT := @matA_t r s
  have hF := @matA_f r s
  have hfit : fit r s ↔ r.valid ∧ isTx s := Iff.rfl
  obtain ⟨o, S, l⟩ := r
  rw [encX_mk] at i1 i3 ⊢
  refine Fn.intro' [(0, .agg [.int o, str S, .lst (l.map encX)]), (1, str s)] 2 23 Try.func24 (by kernel_rfl) rfl rfl rfl rfl rfl ?_
  refine goA ?_
  refine callA (i1) ?_
  refine goA ?_
  refine gcallA (i := fun hg => i2) (hr := ?_)
  refine goA ?_
  refine ifA (fun h => ?_) (fun h => ?_)
  · simp at h
    rw [hF (by rw [hfit]; grind)]
    refine goA ?_
    exact Ret.data rfl rfl (Pu_tup2 (.base _) (.base _))
  simp at h
  have hfy := hfit.2 h
  have hs := hfy.2.1
  rw [hT hfy]
  refine goA ?_
  refine callA ((i3 hfy)) ?_
  refine goA ?_
  refine ARun.q1 rfl rfl (ql_tabRow 0 rfl rfl Try.underlying67 ⟨rfl, by omega⟩ (by kernel_rfl)) ?_
  refine goA ?_
  refine ARun.q1 rfl rfl (ql_tabCell s.size rfl rfl Try.underlying71 ⟨rfl, by omega⟩ (by kernel_rfl)) ?_
  refine goA ?_
  exact Ret.data rfl rfl (Pu_tup2 (.base _) (.base _))
theorem refLonely_ok (r : Rx) (hok : r.ok) (s : ByteArray) : Fn Try.prog 26 [encX r, str s] (lonA r s) := by
  have i1 := refValid_ok r hok
  have i2 := refText_ok s
  have i3 : fit r s → Fn Try.prog 61 [encX r, str s] (tabM s r) := fun h => refParts_ok r hok h.1.2 s (by have := h.2.1; omega)
  have i4 : fit r s → Fn Try.prog 63 [tabM s r, .int 0] (.int (lastG (tb (M s r) 0) 0 (s.size + 1))) := fun h => refLongest_ok (by have := h.2.1; omega) (tb (M s r)) 0 (by omega)
  have hT := @lonA_t r s
  have hF := @lonA_f r s
  have hfit : fit r s ↔ r.valid ∧ isTx s := Iff.rfl
  obtain ⟨o, S, l⟩ := r
  rw [encX_mk] at i1 i3 ⊢
  refine Fn.intro' [(0, .agg [.int o, str S, .lst (l.map encX)]), (1, str s)] 2 18 Try.func26 (by kernel_rfl) rfl rfl rfl rfl rfl ?_
  refine goA ?_
  refine callA (i1) ?_
  refine goA ?_
  refine gcallA (i := fun hg => i2) (hr := ?_)
  refine goA ?_
  refine ifA (fun h => ?_) (fun h => ?_)
  · simp at h
    rw [hF (by rw [hfit]; grind)]
    refine goA ?_
    exact Ret.data rfl rfl (Pu_tup2 (.base _) (.base _))
  simp at h
  have hfy := hfit.2 h
  rw [hT hfy]
  refine goA ?_
  refine callA ((i3 hfy)) ?_
  refine goA ?_
  refine callA ((i4 hfy)) ?_
  refine goA ?_
  exact Ret.data rfl rfl (Pu_tup2 (.base _) (.base _))
theorem nullableP_ok (r : Rx) (hok : r.ok) (hc : r.cnt ≤ 1000000000) : Fn Try.prog 22 [encX r] (nulA r) := by
  have i1 := valid_ok r hok hc
  have i2 := fun h : r.valid => nullable_ok r hok h.2
  have hT := @nulA_t r
  have hF := @nulA_f r
  obtain ⟨o, S, l⟩ := r
  rw [encX_mk] at i1 i2 ⊢
  refine Fn.intro' [(0, .agg [.int o, str S, .lst (l.map encX)])] 1 9 Try.func22 (by kernel_rfl) rfl rfl rfl rfl rfl ?_
  refine goA ?_
  refine callA (i1) ?_
  refine goA ?_
  refine ifA (fun h => ?_) (fun h => ?_)
  · simp at h
    rw [hF h]
    refine goA ?_
    exact Ret.data rfl rfl (Pu_tup2 (.base _) (.base _))
  simp at h
  rw [hT h]
  refine goA ?_
  refine callA ((i2 h)) ?_
  refine goA ?_
  exact Ret.data rfl rfl (Pu_tup2 (.base _) (.base _))
theorem refNullableP_ok (r : Rx) (hok : r.ok) : Fn Try.prog 23 [encX r] (nulA r) := by
  have i1 := refValid_ok r hok
  have i2 := fun h : r.valid => refNullable_ok r hok h.2
  have hT := @nulA_t r
  have hF := @nulA_f r
  obtain ⟨o, S, l⟩ := r
  rw [encX_mk] at i1 i2 ⊢
  refine Fn.intro' [(0, .agg [.int o, str S, .lst (l.map encX)])] 1 9 Try.func23 (by kernel_rfl) rfl rfl rfl rfl rfl ?_
  refine goA ?_
  refine callA (i1) ?_
  refine goA ?_
  refine ifA (fun h => ?_) (fun h => ?_)
  · simp at h
    rw [hF h]
    refine goA ?_
    exact Ret.data rfl rfl (Pu_tup2 (.base _) (.base _))
  simp at h
  rw [hT h]
  refine goA ?_
  refine callA ((i2 h)) ?_
  refine goA ?_
  exact Ret.data rfl rfl (Pu_tup2 (.base _) (.base _))
end Go.Ab
