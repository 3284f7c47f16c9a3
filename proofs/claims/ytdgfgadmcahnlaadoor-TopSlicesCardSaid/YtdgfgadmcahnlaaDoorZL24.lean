/- Part of the proof. -/
import Derived.Test.YtdgfgadmcahnlaaDoorCards
import Derived.Test.YtdgfgadmcahnlaaDoorTie
import Derived.WalkKit
import Derived.ProofKit
import Derived.OpenShut
import Derived.Deep.DeepHandedRow
import Derived.Lib.LaidTab
import Derived.Test.YtdgfgadmcahnlaaDoorTC
import Derived.Test.YtdgfgadmcahnlaaDoorTA
import Derived.Test.YtdgfgadmcahnlaaDoorAbC
set_option linter.unusedSimpArgs false
set_option linter.unusedVariables false
namespace Go.Ab
open Go Go.Ab Go.Proofs Go.Ab.Ty
theorem sh9' {f : Nat} {xs : List AV} (h : Sh Tryd.prog f 9 xs) : ∃ s : ByteArray, xs = [str s] ∧ s.size ≤ maxLen := by
  cases f with
  | zero => exact h.elim
  | succ f =>
    simp only [Sh, Tryd.underlying9] at h
    obtain ⟨s, h1, h2⟩ := h
    exact ⟨s, h1, h2⟩
theorem agg9' : aggTy Tryd.prog 9 = some false := by kernel_rfl
theorem shS24 {a : AV} (h : ShV Tryd.prog 9 a) : ∃ s : ByteArray, a = str s ∧ s.size ≤ maxLen := by
  unfold ShV at h
  obtain ⟨fuel, q, h, hn, e⟩ := h
  obtain ⟨s, rfl, h1⟩ := sh9' h
  exact ⟨s, by rw [e, agg9']; rfl, h1⟩
theorem agg3' : aggTy Tryd.prog 3 = some false := by kernel_rfl
theorem agg37' : aggTy Tryd.prog 37 = some false := by kernel_rfl
theorem shI24 {a : AV} (h : ShV Tryd.prog 3 a) : ∃ n : Int, a = .int n ∧ -9223372036854775808 ≤ n ∧ n ≤ 9223372036854775807 := by
  unfold ShV at h
  obtain ⟨fuel, q, h, hn, e⟩ := h
  cases fuel with
  | zero => exact h.elim
  | succ f =>
    simp only [Sh, Tryd.underlying3] at h
    obtain ⟨n, rfl, h1, h2⟩ := h
    exact ⟨n, by rw [e, agg3']; rfl, h1, h2⟩
theorem allI {f : Nat} {ps : List (List AV)} (h : ∀ p ∈ ps, p.length = Tryd.prog.cellsOf 3 ∧ Sh Tryd.prog f 3 p) : ∃ l : List Int, ps.map (mkEl (aggTy Tryd.prog 3 == some true)) = l.map AV.int ∧ ∀ n ∈ l, -9223372036854775808 ≤ n ∧ n ≤ 9223372036854775807 := by
  induction ps with
  | nil => exact ⟨[], rfl, fun n h => by cases h⟩
  | cons p ps ih =>
    obtain ⟨l, hl, hr⟩ := ih fun q hq => h q (by simp [hq])
    obtain ⟨n, hn, h1⟩ := shI24 ⟨f, p, (h p (by simp)).2, (h p (by simp)).1, rfl⟩
    refine ⟨n :: l, by rw [List.map_cons, List.map_cons, hl, hn], fun m hm => ?_⟩
    rcases List.mem_cons.1 hm with rfl | hm
    · exact h1
    · exact hr m hm
theorem shL37 {a : AV} (h : ShV Tryd.prog 37 a) : ∃ l : List Int, a = .lst (l.map AV.int) ∧ l.length ≤ maxLen ∧ ∀ n ∈ l, -9223372036854775808 ≤ n ∧ n ≤ 9223372036854775807 := by
  unfold ShV at h
  obtain ⟨fuel, q, h, hn, e⟩ := h
  cases fuel with
  | zero => exact h.elim
  | succ f =>
    simp only [Sh, Tryd.underlying37] at h
    obtain ⟨parts, rfl, hl, h⟩ := h
    obtain ⟨l, h1, h2⟩ := allI h
    have : parts.length = l.length := by have := congrArg List.length h1; simpa using this
    exact ⟨l, by rw [e, h1, agg37']; rfl, by omega, h2⟩
end Go.Ab
namespace Go.Proofs.YtdgfgadmcahnlaaDoor
open Go.ChangeShapes Go.WideShapes Go.ChangeAt Go.RowKit Go.Lib Go.Ab
theorem own : ownKnob Tryd.prog.godebug = none := by kernel_rfl
theorem u8x : U8Extra Tryd.prog renV := ⟨by kernel_rfl, by kernel_rfl, by kernel_rfl, by kernel_rfl, by kernel_rfl, by kernel_rfl, by kernel_rfl⟩
set_option maxRecDepth 100000 in
theorem firstD : Rows.laid_unicode_utf8_first = firstData := by kernel_rfl
set_option maxRecDepth 100000 in
theorem acceptD : (Rows.laid_unicode_utf8_acceptRanges : DataW Unit) = acceptData := by kernel_rfl
theorem tabs {W : World} (h : laidMetH Tryd.prog [("unicode/utf8.acceptRanges", Rows.laid_unicode_utf8_acceptRanges), ("unicode/utf8.first", Rows.laid_unicode_utf8_first)] W) : ∀ p ∈ mm24, W.cell? p.1 = some p.2 := by
  have h : laidMet Tryd.prog [("unicode/utf8.acceptRanges", Rows.laid_unicode_utf8_acceptRanges), ("unicode/utf8.first", Rows.laid_unicode_utf8_first)] W := h
  refine tabs_mm (utf8Tabs_of_readsT (U8Types.of196 laysV) u8x ?_ ?_)
  · exact laidMet.reads h (by rw [firstD]; exact List.mem_cons_of_mem _ (List.mem_singleton.2 rfl))
  · exact laidMet.reads h (by rw [acceptD]; exact List.mem_cons_self ..)
def layT (l : List Value) : Obj → Obj
  | .cells _ t frozen => .cells l.toArray t frozen
  | o => o
def lay0 : List Value := (List.range 256).map fun c => Value.int .u8 (firstT c)
def lay1 : List Value := (List.range 32).map fun c => Value.int .u8 (if c % 2 = 0 then accLo (c / 2) else accHi (c / 2))
noncomputable def layHeap (os : Os) : Array Obj := ((World.holding Tryd.prog os ⟨#[], #[], []⟩).heap.modify 0 (layT lay0)).modify 1 (layT lay1)
noncomputable def laidWorld (os : Os) : World := { World.holding Tryd.prog os ⟨#[], #[], []⟩ with heap := layHeap os }
end Go.Proofs.YtdgfgadmcahnlaaDoor
