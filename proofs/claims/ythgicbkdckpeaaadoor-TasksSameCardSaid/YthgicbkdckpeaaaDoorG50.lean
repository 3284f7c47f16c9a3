/- Part of the proof. -/
import Derived.Test.YthgicbkdckpeaaaDoorCards
import Derived.Test.YthgicbkdckpeaaaDoorTie
import Derived.WalkKit
import Derived.ProofKit
import Derived.OpenShut
import Derived.Deep.DeepHandedRow
import Derived.Lib.LaidTab
import Derived.Lib.LaidU8
import Derived.Test.YthgicbkdckpeaaaDoorG49
set_option linter.unusedSimpArgs false
set_option linter.unusedVariables false
set_option maxHeartbeats 4000000
namespace Go.Proofs.YthgicbkdckpeaaaDoor
open Go.ChangeShapes Go.WideShapes Go.ChangeAt Go.RowKit Go.Lib Go.Ab
theorem own : ownKnob Tryd.prog.godebug = none := by kernel_rfl
set_option maxRecDepth 100000 in
theorem powD : (Rows.laid_internal_strconv_uint64pow10 : DataW Unit) = tabData .u64 pow10Tab := by kernel_rfl
theorem tabs {W : World} (h : laidMetH Tryd.prog [("math/bits.deBruijn32tab", Rows.laid_math_bits_deBruijn32tab), ("math/bits.deBruijn64tab", Rows.laid_math_bits_deBruijn64tab), ("internal/strconv.uint64pow10", Rows.laid_internal_strconv_uint64pow10)] W) : ∃ mm, TabM mm ∧ ∀ p ∈ mm, W.heap[p.1]? = some p.2 := by
  have h : laidMet Tryd.prog [("math/bits.deBruijn32tab", Rows.laid_math_bits_deBruijn32tab), ("math/bits.deBruijn64tab", Rows.laid_math_bits_deBruijn64tab), ("internal/strconv.uint64pow10", Rows.laid_internal_strconv_uint64pow10)] W := h
  obtain ⟨g, t, cs, fuel, p, h1, h2, h3, h4⟩ := laidMet.reads h (n := "internal/strconv.uint64pow10") (d := tabData .u64 pow10Tab) (by rw [powD]; exact List.mem_cons_of_mem _ (List.mem_cons_of_mem _ (List.mem_singleton.2 rfl)))
  have e1 : Tryd.prog.globalNamed "internal/strconv.uint64pow10" = some 0 := laysI.m17
  obtain rfl := Option.some.inj (e1.symm.trans h1)
  have e2 : (Tryd.prog.globals[0]?).map (·.type) = some 177 := by kernel_rfl
  obtain rfl := Option.some.inj (e2.symm.trans h2)
  have hcs := cells_of_tab (P := Tryd.prog) (t := 177) (e := 171) (n := 20) (k := .u64) (zs := pow10Tab) (by kernel_rfl) (by kernel_rfl) (by kernel_rfl) (by kernel_rfl) h4
  unfold World.var? at h3
  rw [e1] at h3
  simp only [Option.bind_some] at h3
  split at h3
  · rename_i c ty fz hc
    injection h3 with h3
    subst h3
    refine ⟨[(0, .cells c ty fz)], ⟨ty, fz, ?_⟩, fun p hp => ?_⟩
    · rw [← hcs]
    · rw [List.mem_singleton] at hp; subst hp; exact hc
  · cases h3
def layT (l : List Value) : Obj → Obj
  | .cells _ t frozen => .cells l.toArray t frozen
  | o => o
def lay0 : List Value := pow10Tab.map fun z => Value.int .u64 z
def lay1 : List Value := [0, 1, 28, 2, 29, 14, 24, 3, 30, 22, 20, 15, 25, 17, 4, 8, 31, 27, 13, 23, 21, 19, 16, 7, 26, 12, 18, 6, 11, 5, 10, 9].map fun z => Value.int .u8 z
def lay2 : List Value := [0, 1, 56, 2, 57, 49, 28, 3, 61, 58, 42, 50, 38, 29, 17, 4, 62, 47, 59, 36, 45, 43, 51, 22, 53, 39, 33, 30, 24, 18, 12, 5, 63, 55, 48, 27, 60, 41, 37, 16, 46, 35, 44, 21, 52, 32, 23, 11, 54, 26, 40, 15, 34, 20, 31, 10, 25, 14, 19, 9, 13, 8, 7, 6].map fun z => Value.int .u8 z
noncomputable def layHeap (os : Os) : Array Obj := (((World.holding Tryd.prog os ⟨#[], #[], []⟩).heap.modify 0 (layT lay0)).modify 1 (layT lay1)).modify 2 (layT lay2)
noncomputable def laidWorld (os : Os) : World := { World.holding Tryd.prog os ⟨#[], #[], []⟩ with heap := layHeap os }
end Go.Proofs.YthgicbkdckpeaaaDoor
