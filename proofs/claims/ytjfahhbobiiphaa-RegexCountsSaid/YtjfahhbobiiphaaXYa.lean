/- Part of the proof. -/
import Derived.Test.YtjfahhbobiiphaaXA
import Derived.Test.YtjfahhbobiiphaaAbJ
import Derived.Test.YtjfahhbobiiphaaAbI
import Derived.Test.YtjfahhbobiiphaaXK
import Derived.Test.YtjfahhbobiiphaaAbL
set_option linter.unusedSimpArgs false
set_option linter.unusedVariables false
set_option maxHeartbeats 4000000
namespace Go.Ab
open Go Go.Ab Go.Proofs Go.Ab.Ty

abbrev bS (u : Bool) (n : Nat) : ABlk := bldS 82 (pA u 0) 1 n
abbrev bB (l : List UInt8) : ABlk := bldB 5 l
attribute [go_sem] bS bB Bool.false_eq_true
theorem copyCheck_ok (u : Bool) (l : List UInt8) : FnH Try.prog 96 [.ptr 0 1 0 0] [bS u l.length, bB l] (.tup []) [bS true l.length, bB l] := by
  cases u with
  | false =>
    refine FnH.intro' [(0, .ptr 0 1 0 0)] 1 20 2 Try.func96 (by kernel_rfl) rfl rfl rfl rfl rfl rfl ?_
    simp only [bS, bldS, pA, if_true, if_false, Bool.false_eq_true]
    refine goD ?_
    refine ARun.q1 rfl rfl (ql_nilNil rfl rfl Try.underlying80) ?_
    refine goD ?_
    refine AWp.cond (b := true) rfl (fun _ => ?_) (fun h => by cases h)
    refine goD ?_
    refine ARun.q1 rfl rfl (ql_toUnsafe rfl rfl rfl (by decide) Try.underlying80 Try.underlying148 sz82) ?_
    refine goD ?_
    refine ARun.q1 rfl rfl (ql_noEscape Try.func123 (by kernel_rfl) (by kernel_rfl) (by kernel_rfl) (by kernel_rfl) rfl rfl) ?_
    refine goD ?_
    refine ARun.q1 rfl rfl (ql_fromUnsafe rfl rfl rfl Try.underlying148 Try.underlying80 sz82 (by decide)) ?_
    refine goD ?_
    exact RetH.same rfl rfl rfl
  | true =>
    refine FnH.intro' [(0, .ptr 0 1 0 0)] 1 20 2 Try.func96 (by kernel_rfl) rfl rfl rfl rfl rfl rfl ?_
    simp only [bS, bldS, pA, if_true, if_false, Bool.false_eq_true]
    refine goD ?_
    refine ARun.q1 rfl rfl (ql_ptrNil rfl rfl rfl Try.underlying80) ?_
    refine goD ?_
    refine AWp.cond (b := false) rfl (fun h => by cases h) (fun _ => ?_)
    refine goD ?_
    refine ARun.q1 rfl rfl (ql_ptrNeSame rfl rfl rfl Try.underlying80 sz82) ?_
    refine goD ?_
    refine AWp.cond (b := false) rfl (fun h => by cases h) (fun _ => ?_)
    refine goD ?_
    exact RetH.same rfl rfl rfl
end Go.Ab
set_option maxHeartbeats 4000000
namespace Go.Ab
open Go Go.Ab Go.Proofs Go.Ab.Ty

abbrev bsL (l : List UInt8) : ByteArray := ⟨l.toArray⟩
theorem writeByte_ok (u : Bool) (l : List UInt8) (c : UInt8) (hb : l.length + 1 ≤ 140737488355328) : FnH Try.prog 128 [.ptr 0 1 0 0, chr c] [bS u l.length, bB l] (.base .nilIface) [bS true (l ++ [c]).length, bB (l ++ [c])] := by
  have i1 := copyCheck_ok u l
  refine FnH.intro' [(0, .ptr 0 1 0 0), (1, chr c)] 2 17 2 Try.func128 (by kernel_rfl) rfl rfl rfl rfl rfl rfl ?_
  refine goD ?_
  refine ARun.p1 rfl rfl (pl_callBld i1 rfl rfl (by decide) (PuB_bld _ _) (PuB_bld _ _) rfl rfl rfl rfl rfl (by simp) (.tup (by simp))) ?_
  refine goD ?_
  refine ARun.p1 rfl rfl (pl_append (b := 1) (tot := l.length) (es := [chr c]) (by simp +decide only [go_sem] <;> rfl) (by simp +decide only [go_sem] <;> rfl) rfl (by simp [bldB]) Try.underlying32 el5 rfl rfl (by simp) (fun e he => by rw [List.mem_singleton] at he; subst he; exact ⟨rfl, rfl⟩) (by simpa using hb) (by simpa using hb)) ?_
  simp only [List.set_cons_succ, List.set_cons_zero]
  refine goD ?_
  exact RetH.same rfl rfl (by simp only [bS, bB, bldS, bldB, pA, List.length_append, if_true, List.map_append]; rfl)
end Go.Ab
