/- Array literals. -/
import Derived.Test.YtjfahhbobiiphaaAbG
set_option linter.unusedSimpArgs false
set_option linter.unusedVariables false
namespace Go.Ab
open Go Go.RowKit
section
variable {P : Program} {H : List ABlk}
def placesA (len sz : Nat) : List (Nat × Nat) := (List.range len).map fun i => (i * sz, sz)
theorem ql_buildA {ρ : Operand → AV} {t el : TypeId} {len sz : Nat} {parts : Array (Nat × Operand)} {zs cs : List AV} (hu : P.underlying t = some (.array len el)) (hsz : szTy P el = some sz) (hz : zeroA P t = some (.agg zs))
    (h : fillA (placesA len sz) zs (parts.toList.map fun (i, x) => (i, ρ x)) = some cs) : QL P H ρ (.build t parts) (.agg cs) := by
  refine QL.of_run fun w0 O ι a w hs hv o ho => ?_
  obtain ⟨zv, hr, hzv⟩ := zero_run (w := w) hz
  have hrel : RelC w (OO O ι H) ι H zs zv.cells := by
    have hv0 := VR.cv w (OO O ι H) ι H zv
    rw [← hzv] at hv0
    obtain ⟨arr, rfl, h2, h3⟩ := hv0.agg_inv
    exact ⟨h2, h3⟩
  obtain ⟨arr', h2, h3⟩ := fillA_run (place := fun i => some (i * sz, sz)) (fun i x hx => by
      simp only [placesA, List.getElem?_map, Option.map_eq_some_iff] at hx
      obtain ⟨j, hj, rfl⟩ := hx
      have hlt := (List.getElem?_eq_some_iff.1 hj).1
      rw [List.getElem?_range (by simpa using hlt)] at hj
      injection hj with hj; subst hj; rfl) (parts.toList.map fun (i, x) => (i, ρ x)) (parts.toList.map fun (i, x) => (i, a.eval x)) zs cs zv.cells (by simp)
    (fun j p q hp hq => by
      simp only [List.getElem?_map, Option.map_eq_some_iff] at hp hq
      obtain ⟨⟨i, x⟩, hx, rfl⟩ := hp
      obtain ⟨y, hy, rfl⟩ := hq
      rw [hx] at hy; injection hy with hy; subst hy
      refine ⟨rfl, hv x ?_⟩
      have : (i, x) ∈ parts := by rw [Array.getElem?_toList] at hx; exact Array.mem_of_getElem? hx
      simp only [Op.operands, List.mem_toArray, List.mem_map]
      exact ⟨(i, x), by simpa using this, rfl⟩) hrel h
  refine ⟨.agg arr', ?_, .agg _ _ h3.1 h3.2⟩
  have h5 : (parts.map fun (i, x) => (i, a.eval x)).toList = parts.toList.map fun (i, x) => (i, a.eval x) := by simp
  simp only [execOp, ho, Instr.build, hr, Sem.run_bind, Result.andThen_ok, run_underlying hu, sizeOf_run hsz, h5, h2, Sem.run_pure]
end
theorem placesA_2 (sz : Nat) : placesA 2 sz = [(0 * sz, sz), (1 * sz, sz)] := rfl
end Go.Ab
