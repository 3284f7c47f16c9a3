/- Part of the proof. -/
import Derived.Test.YtjfahhbobiiphaaVL27
import Derived.Test.YtjfahhbobiiphaaAbP
set_option linter.unusedSimpArgs false
set_option linter.unusedVariables false
set_option maxHeartbeats 4000000
namespace Go.Ab
open Go Go.Ab Go.Proofs Go.Ab.Ty

abbrev notR (r : Rx) : Rx := .mk 8 ByteArray.empty [r]
theorem lng_not (r : Rx) (w : Wd) : lng (notR r) w ↔ ¬ lng r w := by
  rw [lng_mk]
  simp [opL]
theorem ok_1 {o : Int} {a : Rx} (h : a.ok) : (Rx.mk o ByteArray.empty [a]).ok := .mk _ _ _ (by decide) (by simp [maxLen]) (by simpa using h)
theorem Pu_nC {o : Int} {S : ByteArray} {L : AV} (h : Pu L) : ∀ c ∈ [.int o, str S, L], Pu c := fun c hc => by
  simp only [List.mem_cons, List.not_mem_nil, or_false] at hc
  rcases hc with rfl | rfl | rfl
  · exact .base _
  · exact .base _
  · exact h
theorem Pu_l1 {cs : List AV} (h : ∀ c ∈ cs, Pu c) : Pu (.lst [.agg cs]) := .lst fun e he c hc => by
  rw [List.mem_singleton] at he; subst he
  exact h c hc
theorem Pu_l2 {cs ds : List AV} (h : ∀ c ∈ cs, Pu c) (h2 : ∀ c ∈ ds, Pu c) : Pu (.lst [.agg cs, .agg ds]) := .lst fun e he c hc => by
  simp only [List.mem_cons, List.not_mem_nil, or_false] at he
  rcases he with rfl | rfl
  · exact h c hc
  · exact h2 c hc
theorem Pu_X (o : Int) (S : ByteArray) (l : List Rx) : ∀ c ∈ [.int o, str S, .lst (l.map encX)], Pu c := Pu_nC (Pu_mapX l)
@[simp] theorem Pu_n2 (o : Int) (S : ByteArray) (l : List Rx) (a b : Int) (A B : ByteArray) : Pu (.agg [.int a, str A, .lst [.agg [.int b, str B, .lst [.agg [.int o, str S, .lst (l.map encX)]]]]]) := .agg (Pu_nC (Pu_l1 (Pu_nC (Pu_l1 (Pu_X o S l)))))
@[simp] theorem Pu_n3 (o p : Int) (S T : ByteArray) (l m : List Rx) (a : Int) (A : ByteArray) : Pu (.agg [.int a, str A, .lst [.agg [.int o, str S, .lst (l.map encX)], .agg [.int p, str T, .lst (m.map encX)]]]) := .agg (Pu_nC (Pu_l2 (Pu_X o S l) (Pu_X p T m)))
@[simp] theorem Pu_n4 (o p : Int) (S T : ByteArray) (l m : List Rx) (a b c d : Int) (A B C D : ByteArray) : Pu (.agg [.int a, str A, .lst [.agg [.int b, str B, .lst [.agg [.int c, str C, .lst [.agg [.int o, str S, .lst (l.map encX)]]], .agg [.int d, str D, .lst [.agg [.int p, str T, .lst (m.map encX)]]]]]]]) :=
  .agg (Pu_nC (Pu_l1 (Pu_nC (Pu_l2 (Pu_nC (Pu_l1 (Pu_X o S l))) (Pu_nC (Pu_l1 (Pu_X p T m)))))))
end Go.Ab
