/- The arguments of the laws as they are read. -/
import Derived.Test.YtjfahhbobiiphaaXA
set_option linter.unusedSimpArgs false
set_option linter.unusedVariables false
namespace Go.Ab
open Go Go.Ab Go.Proofs Go.Ab.Ty
theorem shS27 {a : AV} (h : ShV Try.prog 9 a) : ∃ s : ByteArray, a = str s ∧ s.size ≤ maxLen := by
  unfold ShV at h
  obtain ⟨fuel, q, h, hn, e⟩ := h
  obtain ⟨s, rfl, h1⟩ := sh9 h
  exact ⟨s, by rw [e, agg9]; rfl, h1⟩
theorem aggZ3 : aggTy Try.prog 3 = some false := by kernel_rfl
theorem aggZ5 : aggTy Try.prog 5 = some false := by kernel_rfl
theorem aggZ50 : aggTy Try.prog 50 = some false := by kernel_rfl
theorem shI27 {a : AV} (h : ShV Try.prog 3 a) : ∃ n : Int, a = .int n ∧ -9223372036854775808 ≤ n ∧ n ≤ 9223372036854775807 := by
  unfold ShV at h
  obtain ⟨fuel, q, h, hn, e⟩ := h
  cases fuel with
  | zero => exact h.elim
  | succ f =>
    simp only [Sh, Try.underlying3] at h
    obtain ⟨n, rfl, h1, h2⟩ := h
    exact ⟨n, by rw [e, aggZ3]; rfl, h1, h2⟩
theorem shC27 {a : AV} (h : ShV Try.prog 5 a) : ∃ c : UInt8, a = chr c := by
  unfold ShV at h
  obtain ⟨fuel, q, h, hn, e⟩ := h
  cases fuel with
  | zero => exact h.elim
  | succ f =>
    simp only [Sh, Try.underlying5] at h
    obtain ⟨n, rfl, h1, h2⟩ := h
    have h1 : 0 ≤ n := h1
    have h2 : n ≤ 255 := h2
    refine ⟨UInt8.ofNat n.toNat, ?_⟩
    rw [e, aggZ5]
    show AV.base (.int .u8 n) = AV.base (.int .u8 ((UInt8.ofNat n.toNat).toNat : Int))
    rw [UInt8.toNat_ofNat']
    congr 2
    omega
theorem allS27 {f : Nat} {ps : List (List AV)} (h : ∀ p ∈ ps, p.length = Try.prog.cellsOf 9 ∧ Sh Try.prog f 9 p) : ∃ l : List ByteArray, ps.map (mkEl (aggTy Try.prog 9 == some true)) = l.map str ∧ ∀ s ∈ l, s.size ≤ maxLen := by
  induction ps with
  | nil => exact ⟨[], rfl, fun n h => by cases h⟩
  | cons p ps ih =>
    obtain ⟨l, hl, hr⟩ := ih fun q hq => h q (by simp [hq])
    obtain ⟨n, hn, h1⟩ := shS27 ⟨f, p, (h p (by simp)).2, (h p (by simp)).1, rfl⟩
    refine ⟨n :: l, by rw [List.map_cons, List.map_cons, hl, hn], fun m hm => ?_⟩
    rcases List.mem_cons.1 hm with rfl | hm
    · exact h1
    · exact hr m hm
theorem shL27 {a : AV} (h : ShV Try.prog 50 a) : ∃ l : List ByteArray, a = .lst (l.map str) ∧ l.length ≤ maxLen ∧ ∀ s ∈ l, s.size ≤ maxLen := by
  unfold ShV at h
  obtain ⟨fuel, q, h, hn, e⟩ := h
  cases fuel with
  | zero => exact h.elim
  | succ f =>
    simp only [Sh, Try.underlying50] at h
    obtain ⟨parts, rfl, hl, h⟩ := h
    obtain ⟨l, h1, h2⟩ := allS27 h
    have : parts.length = l.length := by have := congrArg List.length h1; simpa using this
    exact ⟨l, by rw [e, h1, aggZ50]; rfl, by omega, h2⟩
end Go.Ab
