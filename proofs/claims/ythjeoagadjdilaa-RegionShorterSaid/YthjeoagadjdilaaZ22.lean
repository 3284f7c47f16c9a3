import Derived.Test.YthjeoagadjdilaaV22
import Derived.Test.YthjeoagadjdilaaL22
namespace Go.Ab
open Go Go.Ab Go.Proofs Go.Ab.Ty
set_option linter.unusedSimpArgs false
set_option linter.unusedVariables false

/-- parts that are all of one form -/
theorem all_enc {α : Type} {Q : List AV → Prop} {f : α → AV} {g : List AV → AV} {parts : List (List AV)} (h : ∀ p ∈ parts, Q p) (hq : ∀ p, Q p → ∃ x, g p = f x) : ∃ l : List α, parts.map g = l.map f := by
  induction parts with
  | nil => exact ⟨[], rfl⟩
  | cons p ps ih =>
    obtain ⟨l, hl⟩ := ih fun q hq' => h q (by simp [hq'])
    obtain ⟨x, hx⟩ := hq p (h p (by simp))
    exact ⟨x :: l, by simp [hl, hx]⟩

theorem sh3 {f : Nat} {xs : List AV} (h : Sh Try.prog f 3 xs) : ∃ n, xs = [.int n] := by
  cases f with
  | zero => exact h.elim
  | succ f =>
    simp only [Sh, Try.underlying3] at h
    obtain ⟨n, h, _⟩ := h
    exact ⟨n, h⟩
theorem sh32 {f : Nat} {xs : List AV} (h : Sh Try.prog f 32 xs) : ∃ l : List Int, xs = [.lst (l.map .int)] := by
  cases f with
  | zero => exact h.elim
  | succ f =>
    simp only [Sh, Try.underlying32] at h
    obtain ⟨parts, rfl, _, h⟩ := h
    obtain ⟨l, hl⟩ := all_enc (f := AV.int) (g := mkEl (aggTy Try.prog 3 == some true)) h fun p hp => by
      obtain ⟨n, rfl⟩ := sh3 hp.2
      exact ⟨n, rfl⟩
    exact ⟨l, by rw [hl]⟩
theorem sh34 {f : Nat} {xs : List AV} (h : Sh Try.prog f 34 xs) : ∃ s : Stp, AV.agg xs = encS s := by
  cases f with
  | zero => exact h.elim
  | succ f =>
    simp only [Sh, Try.underlying34] at h
    obtain ⟨parts, hlen, rfl, h⟩ := h
    match parts, hlen, h with
    | [p0, p1, p2, p3, p4, p5], _, h =>
      obtain ⟨a0, rfl⟩ := sh3 (h 0 _ p0 rfl rfl).2
      obtain ⟨a1, rfl⟩ := sh3 (h 1 _ p1 rfl rfl).2
      obtain ⟨a2, rfl⟩ := sh3 (h 2 _ p2 rfl rfl).2
      obtain ⟨a3, rfl⟩ := sh3 (h 3 _ p3 rfl rfl).2
      obtain ⟨a4, rfl⟩ := sh3 (h 4 _ p4 rfl rfl).2
      obtain ⟨a5, rfl⟩ := sh32 (h 5 _ p5 rfl rfl).2
      exact ⟨⟨a0, a1, a2, a3, a4, a5⟩, rfl⟩
theorem sh29 {f : Nat} {xs : List AV} (h : Sh Try.prog f 29 xs) : ∃ l : List Stp, xs = [.lst (l.map encS)] := by
  cases f with
  | zero => exact h.elim
  | succ f =>
    simp only [Sh, Try.underlying29] at h
    obtain ⟨parts, rfl, _, h⟩ := h
    obtain ⟨l, hl⟩ := all_enc (f := encS) (g := mkEl (aggTy Try.prog 34 == some true)) h fun p hp => by
      obtain ⟨s, hs⟩ := sh34 hp.2
      exact ⟨s, by rw [agg34]; exact hs⟩
    exact ⟨l, by rw [hl]⟩
theorem sh31 {f : Nat} {xs : List AV} (h : Sh Try.prog f 31 xs) : ∃ s : Cd, AV.agg xs = encC s := by
  cases f with
  | zero => exact h.elim
  | succ f =>
    simp only [Sh, Try.underlying31] at h
    obtain ⟨parts, hlen, rfl, h⟩ := h
    match parts, hlen, h with
    | [p0, p1, p2], _, h =>
      obtain ⟨a0, rfl⟩ := sh3 (h 0 _ p0 rfl rfl).2
      obtain ⟨a1, rfl⟩ := sh3 (h 1 _ p1 rfl rfl).2
      obtain ⟨a2, rfl⟩ := sh29 (h 2 _ p2 rfl rfl).2
      exact ⟨⟨a0, a1, a2⟩, rfl⟩
theorem sh22 {f : Nat} {xs : List AV} (h : Sh Try.prog f 22 xs) : ∃ l : List Cd, xs = [.lst (l.map encC)] := by
  cases f with
  | zero => exact h.elim
  | succ f =>
    simp only [Sh, Try.underlying22] at h
    obtain ⟨parts, rfl, _, h⟩ := h
    obtain ⟨l, hl⟩ := all_enc (f := encC) (g := mkEl (aggTy Try.prog 31 == some true)) h fun p hp => by
      obtain ⟨s, hs⟩ := sh31 hp.2
      exact ⟨s, by rw [agg31]; exact hs⟩
    exact ⟨l, by rw [hl]⟩
theorem sh24 {f : Nat} {xs : List AV} (h : Sh Try.prog f 24 xs) : ∃ s : Tk, AV.agg xs = encT s := by
  cases f with
  | zero => exact h.elim
  | succ f =>
    simp only [Sh, Try.underlying24] at h
    obtain ⟨parts, hlen, rfl, h⟩ := h
    match parts, hlen, h with
    | [p0, p1, p2], _, h =>
      obtain ⟨a0, rfl⟩ := sh22 (h 0 _ p0 rfl rfl).2
      obtain ⟨a1, rfl⟩ := sh22 (h 1 _ p1 rfl rfl).2
      obtain ⟨a2, rfl⟩ := sh3 (h 2 _ p2 rfl rfl).2
      exact ⟨⟨a0, a1, a2⟩, rfl⟩
theorem shT {a : AV} (h : ShV Try.prog 24 a) : ∃ p, a = encT p := by
  obtain ⟨fuel, q, h, _, rfl⟩ := h
  obtain ⟨p, hp⟩ := sh24 h
  exact ⟨p, by rw [agg24]; exact hp⟩

theorem law3 (xs : List AV) (hlen : xs.length = Try.f3.params.size) (h : ∀ (j : Nat) t a, Try.f3.params[j]? = some t → xs[j]? = some a → ShV Try.prog t a) : Fn Try.prog 3 xs (.bool true) := by
  rw [Try.params3] at hlen h
  match xs, hlen, h with
  | [a], _, h =>
    obtain ⟨p, rfl⟩ := shT (h 0 24 a rfl rfl)
    exact law_valid p (valid_iff p)
end Go.Ab
