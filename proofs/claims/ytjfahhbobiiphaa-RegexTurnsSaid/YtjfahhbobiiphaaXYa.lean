/- Part of the proof. -/
import Derived.Test.YtjfahhbobiiphaaXA
import Derived.Test.YtjfahhbobiiphaaAbJ
import Derived.Test.YtjfahhbobiiphaaAbI
set_option linter.unusedSimpArgs false
set_option linter.unusedVariables false
-- fnh
set_option maxHeartbeats 4000000
namespace Go.Ab
open Go Go.Ab Go.Proofs Go.Ab.Ty

/-! ### strings.Builder -/
abbrev bS (u : Bool) (n : Nat) : ABlk := bldS 82 (pA u 0) 1 n
abbrev bB (l : List UInt8) : ABlk := bldB 5 l
attribute [go_sem] bS bB Bool.false_eq_true
theorem copyCheck_ok (u : Bool) (l : List UInt8) : FnH Try.prog 96 [.ptr 0 1 0 0] [bS u l.length, bB l] (.tup []) [bS true l.length, bB l] := by
  cases u with
  | false =>
    refine FnH.intro' [(0, .ptr 0 1 0 0)] 1 20 2 Try.func96 (by kernel_rfl) rfl rfl rfl rfl rfl rfl ?_
    simp only [bS, bldS, pA, if_true, if_false, Bool.false_eq_true]
    refine goD ?_
    refine ARun.q1 rfl rfl (ql_nilNil rfl rfl Try.underlying80) ?_
    refine goD ?_
    refine AWp.cond (b := true) rfl (fun _ => ?_) (fun h => by cases h)
    refine goD ?_
    refine ARun.q1 rfl rfl (ql_toUnsafe rfl rfl rfl (by decide) Try.underlying80 Try.underlying148 sz82) ?_
    refine goD ?_
    refine ARun.q1 rfl rfl (ql_noEscape Try.func123 (by kernel_rfl) (by kernel_rfl) (by kernel_rfl) (by kernel_rfl) rfl rfl) ?_
    refine goD ?_
    refine ARun.q1 rfl rfl (ql_fromUnsafe rfl rfl rfl Try.underlying148 Try.underlying80 sz82 (by decide)) ?_
    refine goD ?_
    exact RetH.same rfl rfl rfl
  | true =>
    refine FnH.intro' [(0, .ptr 0 1 0 0)] 1 20 2 Try.func96 (by kernel_rfl) rfl rfl rfl rfl rfl rfl ?_
    simp only [bS, bldS, pA, if_true, if_false, Bool.false_eq_true]
    refine goD ?_
    refine ARun.q1 rfl rfl (ql_ptrNil rfl rfl rfl Try.underlying80) ?_
    refine goD ?_
    refine AWp.cond (b := false) rfl (fun h => by cases h) (fun _ => ?_)
    refine goD ?_
    refine ARun.q1 rfl rfl (ql_ptrNeSame rfl rfl rfl Try.underlying80 sz82) ?_
    refine goD ?_
    refine AWp.cond (b := false) rfl (fun h => by cases h) (fun _ => ?_)
    refine goD ?_
    exact RetH.same rfl rfl rfl
theorem writeString_ok (u : Bool) (l : List UInt8) (s : ByteArray) (hb : l.length + s.size ≤ 140737488355328) : FnH Try.prog 70 [.ptr 0 1 0 0, str s] [bS u l.length, bB l] (.tup [.int s.size, .base .nilIface]) [bS true (l ++ s.data.toList).length, bB (l ++ s.data.toList)] := by
  have i1 := copyCheck_ok u l
  refine FnH.intro' [(0, .ptr 0 1 0 0), (1, str s)] 2 19 2 Try.func70 (by kernel_rfl) rfl rfl rfl rfl rfl rfl ?_
  refine goD ?_
  refine ARun.p1 rfl rfl (pl_callBld i1 rfl rfl (by decide) (PuB_bld _ _) (PuB_bld _ _) rfl rfl rfl rfl rfl (by simp) (.tup (by simp))) ?_
  refine goD ?_
  refine ARun.p1 rfl rfl (pl_append_str rfl rfl rfl rfl Try.underlying32 Try.underlying9 el5 zero5 hb) ?_
  simp only [List.set_cons_succ, List.set_cons_zero]
  refine goD ?_
  exact RetH.same rfl rfl (by simp only [bS, bB, bldS, bldB, pA, List.length_append, if_true, Array.length_toList]; rfl)
theorem blen_ok (u : Bool) (l : List UInt8) : FnH Try.prog 71 [.ptr 0 1 0 0] [bS u l.length, bB l] (.int l.length) [bS u l.length, bB l] := by
  refine FnH.intro' [(0, .ptr 0 1 0 0)] 1 8 2 Try.func71 (by kernel_rfl) rfl rfl rfl rfl rfl rfl ?_
  refine goD ?_
  exact RetH.same rfl rfl rfl
theorem bstr_ok (u : Bool) (l : List UInt8) (hl : l.length ≤ maxLen) : FnH Try.prog 72 [.ptr 0 1 0 0] [bS u l.length, bB l] (str ⟨l.toArray⟩) [bS u l.length, if l.length = 0 then bB l else frzB (l.length + 1)] := by
  refine FnH.intro' [(0, .ptr 0 1 0 0)] 1 14 2 Try.func72 (by kernel_rfl) rfl rfl rfl rfl rfl rfl ?_
  refine goD ?_
  refine drA (k := 10) follows (hr := ?_)
  refine goD ?_
  refine ARun.q1t rfl rfl (ql_sliceData rfl rfl (by simp) Try.underlying126) ?_
  refine goD ?_
  refine ARun.p1 rfl rfl (pl_unsafeString rfl rfl rfl rfl hl Try.underlying126 (by kernel_rfl)) ?_
  refine goD ?_
  exact RetH.same rfl rfl (by by_cases h : l.length = 0 <;> simp [h, bS, bldS, bB, bldB, pA])
end Go.Ab
