/- More rules for use. -/
import Derived.Test.YthjeoagadjdilaaAbQ
set_option linter.unusedSimpArgs false
set_option linter.unusedVariables false
namespace Go.Ab
open Go Go.RowKit
set_option linter.unusedVariables false

section
variable {P : Program} {n : Nat} {K : ASt → Prop} {Q : Exit → ASt → Prop} {s : ASt}

/-- a slice has fewer than 2^63 elements -/
theorem AWp.learn {c : Code} (t : Nat) {es : List AV} (h : lk s.env t = .lst es) (k : es.length ≤ 9223372036854775807 → AWp P n c Q s) : AWp P n c Q s := by
  intro w0 O ι a w hs
  have h1 := hs.vals t
  rw [h] at h1
  refine k ?_ w0 O ι a w hs
  generalize a.tmps.getD t undef = X at h1
  cases h1 with
  | lnil => simp
  | lst es a n cap s val hn hcap hmax hlen hspot hc hv => simp only [maxLen] at hmax; omega

/-- a cut: the rest is proved of what is said here -/
theorem AWp.seqI {x y : Code} {Q : Exit → ASt → Prop} {X : Type} (J : X → Prop) (I : X → ASt) (h : AWp P n x (thenQ (fun s' => ∃ a, J a ∧ Wk s' (I a)) Q) s) (hy : ∀ a, J a → AWp P n y Q (I a)) : AWp P n (.seq x y) Q s :=
  .seq (h.mono fun e s' hq => by
    cases e with
    | normal => obtain ⟨a, ha, hw⟩ := hq; exact (hy a ha).weaken hw
    | _ => exact hq)

theorem Pu_mapInt (l : List Int) : Pu (.lst (l.map .int)) := .lst fun e he c hc => by
  obtain ⟨x, _, rfl⟩ := List.mem_map.1 he
  simp [AV.cells] at hc; subst hc; exact .base _
end

theorem toNat_lt {i : Nat} {n : Nat} (h : i < n) : ((i : Int)).toNat < n := by simpa using h
end Go.Ab
namespace Go.Ab
attribute [go_sem] if_true if_false and_true true_and and_self
end Go.Ab
namespace Go.Ab
theorem cast_zero : ((0 : Nat) : Int) = 0 := rfl
theorem cast_one : ((1 : Nat) : Int) = 1 := rfl
attribute [go_sem] cast_zero cast_one
end Go.Ab
namespace Go.Ab
attribute [go_sem] List.set_cons_zero List.set_cons_succ List.cons_append List.nil_append List.length_cons List.length_nil List.getElem?_cons_zero List.getElem?_cons_succ List.take_succ_cons List.take_zero List.drop_succ_cons List.drop_zero
end Go.Ab
