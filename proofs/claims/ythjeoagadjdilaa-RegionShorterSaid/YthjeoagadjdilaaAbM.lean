/- Struct literals, slice literals, make, append. -/
import Derived.Test.YthjeoagadjdilaaAbL
set_option linter.unusedSimpArgs false
set_option linter.unusedVariables false
namespace Go.Ab
open Go Go.RowKit
set_option linter.unusedVariables false

section
variable {P : Program} {w w' w0 : World} {O : Nat → Prop} {ι : Nat → Option Nat} {H : List ABlk} {u : Value}

/-- cells that stand for cells -/
def RelC (w : World) (O : Nat → Prop) (ι : Nat → Option Nat) (H : List ABlk) (cs : List AV) (arr : Array Value) : Prop :=
  arr.size = cs.length ∧ ∀ (j : Nat) (c : AV) (u : Value), cs[j]? = some c → arr[j]? = some u → VR w O ι H c u

theorem fold_set (off : Nat) : ∀ (l : List Value) (k : Nat) (cs : Array Value), off + k + l.length ≤ cs.size →
    ((l.zipIdx k).foldl (fun cs (c, j) => cs.setIfInBounds (off + j) c) cs).size = cs.size ∧
    ∀ j, ((l.zipIdx k).foldl (fun cs (c, j) => cs.setIfInBounds (off + j) c) cs)[j]? = if off + k ≤ j ∧ j < off + k + l.length then l[j - (off + k)]? else cs[j]?
  | [], k, cs, _ => ⟨rfl, fun j => by rw [if_neg (by simp)]; rfl⟩
  | v :: l, k, cs, h => by
    simp only [List.length_cons] at h
    obtain ⟨h1, h2⟩ := fold_set off l (k + 1) (cs.setIfInBounds (off + k) v) (by simp; omega)
    simp only [List.zipIdx_cons, List.foldl_cons]
    refine ⟨by rw [h1]; simp, fun j => ?_⟩
    rw [h2 j]
    by_cases e : j = off + k
    · subst e
      rw [if_neg (by omega), if_pos (by simp), Array.getElem?_setIfInBounds, if_pos rfl, if_pos (by omega)]
      simp
    · by_cases h3 : off + (k + 1) ≤ j ∧ j < off + (k + 1) + l.length
      · rw [if_pos h3, if_pos (by simp; omega), show j - (off + k) = (j - (off + (k + 1))) + 1 by omega]; rfl
      · rw [if_neg h3, if_neg (by simp; omega), Array.getElem?_setIfInBounds, if_neg (by omega)]

theorem fold_setA (off : Nat) (vs cs : Array Value) (h : off + vs.size ≤ cs.size) :
    (vs.zipIdx.foldl (fun cs (c, j) => cs.setIfInBounds (off + j) c) cs).size = cs.size ∧
    ∀ j, (vs.zipIdx.foldl (fun cs (c, j) => cs.setIfInBounds (off + j) c) cs)[j]? = if off ≤ j ∧ j < off + vs.size then vs[j - off]? else cs[j]? := by
  have := fold_set off vs.toList 0 cs (by simpa using h)
  rw [← Array.foldl_toList, Array.toList_zipIdx]
  simpa using this

/-- the parts of a literal go to their places -/
def fillA (pl : List (Nat × Nat)) (cs : List AV) : List (Nat × AV) → Option (List AV)
  | [] => some cs
  | (i, v) :: r => match pl[i]? with
    | some (off, size) => if v.cells.length = size ∧ okCells v = true then match stE (.agg cs) off v.cells with
      | some (.agg cs') => fillA pl cs' r
      | _ => none else none
    | none => none

theorem fillA_run {pl : List (Nat × Nat)} {place : Nat → Option (Nat × Nat)} (hpl : ∀ i x, pl[i]? = some x → place i = some x) : ∀ (ps : List (Nat × AV)) (qs : List (Nat × Value)) (cs cs' : List AV) (arr : Array Value),
    ps.length = qs.length → (∀ (j : Nat) p q, ps[j]? = some p → qs[j]? = some q → p.1 = q.1 ∧ VR w O ι H p.2 q.2) → RelC w O ι H cs arr → fillA pl cs ps = some cs' →
    ∃ arr', Instr.fill place arr qs = some arr' ∧ RelC w O ι H cs' arr'
  | [], [], cs, cs', arr, _, _, hr, h => by
    simp only [fillA] at h; injection h with h; subst h
    exact ⟨arr, rfl, hr⟩
  | (i, v) :: ps, (i', u) :: qs, cs, cs', arr, hl, hp, hr, h => by
    obtain ⟨h1, h2⟩ := hp 0 _ _ rfl rfl
    simp only at h1 h2
    subst h1
    simp only [fillA] at h
    split at h
    · rename_i off size hpi
      split at h
      · rename_i hv
        obtain ⟨hvs, hvc⟩ := hv
        split at h
        · rename_i cs1 hst
          obtain ⟨h3, h4, _⟩ := h2.cells hvc
          obtain ⟨h5, h6, h7⟩ := stE_cells hst
          replace h5 : off + v.cells.length ≤ cs.length := h5
          replace h6 : cs1.length = cs.length := h6
          replace h7 : ∀ (j : Nat) (d : AV), cs1[j]? = some d → if off ≤ j ∧ j < off + v.cells.length then v.cells[j - off]? = some d else cs[j]? = some d := h7
          have hfit : off + u.cells.size ≤ arr.size := by rw [hr.1]; omega
          obtain ⟨h8, h9⟩ := fold_setA off u.cells arr hfit
          have hr1 : RelC w O ι H cs1 (u.cells.zipIdx.foldl (fun cs (c, j) => cs.setIfInBounds (off + j) c) arr) := by
            refine ⟨by rw [h8, hr.1, h6], fun j c x hc hx => ?_⟩
            have h10 := h7 j c hc
            rw [h9 j] at hx
            by_cases h11 : off ≤ j ∧ j < off + v.cells.length
            · rw [if_pos h11] at h10
              rw [if_pos (by omega)] at hx
              exact h4 _ _ _ h10 hx
            · rw [if_neg h11] at h10
              rw [if_neg (by omega)] at hx
              exact hr.2 _ _ _ h10 hx
          obtain ⟨arr', h12, h13⟩ := fillA_run hpl ps qs cs1 cs' _ (by simpa using hl) (fun j p q hp' hq' => hp (j + 1) p q (by simpa using hp') (by simpa using hq')) hr1 h
          refine ⟨arr', ?_, h13⟩
          rw [Instr.fill, hpl i _ hpi]
          simp only
          rw [if_neg (by simp only [Bool.or_eq_true, decide_eq_true_eq]; omega)]
          exact h12
        · cases h
      · cases h
    · cases h

def placesOf (P : Program) (t : TypeId) : Option (List (Nat × Nat)) :=
  match P.underlying t with
  | some (.struct fs) => fs.toList.mapM fun f => (szTy P f.type).map fun n => (f.offset, n)
  | _ => none

theorem places_run : ∀ (fs : List Field) (pl : List (Nat × Nat)), (fs.mapM fun f => (szTy P f.type).map fun n => (f.offset, n)) = some pl → (fs.mapM (m := Sem) fun f => do pure (f.offset, ← sizeOf f.type)).run P w = .ok pl w
  | [], pl, h => by simp at h; subst h; rfl
  | f :: fs, pl, h => by
    rw [List.mapM_cons] at h ⊢
    cases hz : szTy P f.type with
    | none => simp [hz] at h
    | some n =>
      cases hm : fs.mapM fun f => (szTy P f.type).map fun n => (f.offset, n) with
      | none => simp [hz, hm] at h
      | some pl' =>
        simp [hz, hm] at h
        subst h
        simp only [Sem.run_bind, sizeOf_run hz, Result.andThen_ok, Sem.run_pure, places_run fs pl' hm]

/-- a struct literal -/
theorem ql_build {ρ : Operand → AV} {t : TypeId} {parts : Array (Nat × Operand)} {pl : List (Nat × Nat)} {zs cs : List AV} (hp : placesOf P t = some pl) (hz : zeroA P t = some (.agg zs))
    (h : fillA pl zs (parts.toList.map fun (i, x) => (i, ρ x)) = some cs) : QL P H ρ (.build t parts) (.agg cs) := by
  refine QL.of_run fun w0 O ι a w hs hv o ho => ?_
  obtain ⟨zv, hr, hzv⟩ := zero_run (w := w) hz
  unfold placesOf at hp
  split at hp
  · rename_i fs hu
    have h1 := places_run (P := P) (w := w) fs.toList pl hp
    have hrel : RelC w (OO O ι H) ι H zs zv.cells := by
      have hv0 := VR.cv w (OO O ι H) ι H zv
      rw [← hzv] at hv0
      obtain ⟨arr, rfl, h2, h3⟩ := hv0.agg_inv
      exact ⟨h2, h3⟩
    obtain ⟨arr', h2, h3⟩ := fillA_run (place := (pl.toArray[·]?)) (fun i x hx => by simpa using hx) (parts.toList.map fun (i, x) => (i, ρ x)) (parts.toList.map fun (i, x) => (i, a.eval x)) zs cs zv.cells (by simp)
      (fun j p q hp hq => by
        simp only [List.getElem?_map, Option.map_eq_some_iff] at hp hq
        obtain ⟨⟨i, x⟩, hx, rfl⟩ := hp
        obtain ⟨y, hy, rfl⟩ := hq
        rw [hx] at hy; injection hy with hy; subst hy
        refine ⟨rfl, hv x ?_⟩
        have : (i, x) ∈ parts := by rw [Array.getElem?_toList] at hx; exact Array.mem_of_getElem? hx
        simp only [Op.operands, List.mem_toArray, List.mem_map]
        exact ⟨(i, x), by simpa using this, rfl⟩) hrel h
    refine ⟨.agg arr', ?_, .agg _ _ h3.1 h3.2⟩
    have h4 : (Array.mapM (m := Sem) (fun f => do pure (f.offset, ← sizeOf f.type)) fs).run P w = .ok pl.toArray w := by
      rw [Array.mapM_eq_mapM_toList]
      simp only [Sem.run_map, h1, Result.andThen_ok]
    have h5 : (parts.map fun (i, x) => (i, a.eval x)).toList = parts.toList.map fun (i, x) => (i, a.eval x) := by simp
    simp only [execOp, ho, Instr.build, hr, Sem.run_bind, Result.andThen_ok, run_underlying hu, h4, h5, h2, Sem.run_pure]
  · cases hp

attribute [go_sem] fillA stE

/-- the parts of a slice literal, one behind the other -/
theorem fill_row (size : Nat) : ∀ (us : List Value) (k : Nat) (arr : Array Value), (∀ u ∈ us, u.cells.size = size) → (k + us.length) * size ≤ arr.size →
    ∃ arr', Instr.fill (fun i => some (i * size, size)) arr ((us.zipIdx k).map fun (u, i) => (i, u)) = some arr' ∧ arr'.size = arr.size ∧
      (∀ j, j < k * size → arr'[j]? = arr[j]?) ∧ ∀ (i j : Nat) (u : Value), us[i]? = some u → j < size → arr'[(k + i) * size + j]? = u.cells[j]?
  | [], k, arr, _, _ => ⟨arr, rfl, rfl, fun _ _ => rfl, fun i j u h => by simp at h⟩
  | v :: us, k, arr, hs, hl => by
    have hvs : v.cells.size = size := hs v (by simp)
    simp only [List.length_cons] at hl
    have hfit : k * size + v.cells.size ≤ arr.size := by
      have : (k + 1) * size ≤ (k + (us.length + 1)) * size := Nat.mul_le_mul_right _ (by omega)
      rw [Nat.add_mul, Nat.one_mul] at this; omega
    obtain ⟨h1, h2⟩ := fold_setA (k * size) v.cells arr hfit
    obtain ⟨arr', h3, h4, h5, h6⟩ := fill_row size us (k + 1) (v.cells.zipIdx.foldl (fun cs (c, j) => cs.setIfInBounds (k * size + j) c) arr) (fun u hu => hs u (by simp [hu])) (by rw [h1, show k + 1 + us.length = k + (us.length + 1) by omega]; exact hl)
    refine ⟨arr', ?_, h4.trans h1, fun j hj => ?_, fun i j u hi hj => ?_⟩
    · simp only [List.zipIdx_cons, List.map_cons, Instr.fill]
      rw [if_neg (by simp only [Bool.or_eq_true, decide_eq_true_eq]; omega)]
      exact h3
    · have : k * size ≤ (k + 1) * size := Nat.mul_le_mul_right _ (by omega)
      rw [h5 j (by omega), h2 j, if_neg (by omega)]
    · cases i with
      | zero =>
        simp at hi; subst hi
        have hlt : k * size + j < (k + 1) * size := by rw [Nat.add_mul, Nat.one_mul]; omega
        rw [Nat.add_zero, h5 _ hlt, h2, if_pos (by omega)]
        congr 1; omega
      | succ i =>
        have := h6 i j u (by simpa using hi) hj
        rw [show k + (i + 1) = k + 1 + i by omega]
        exact this
end
end Go.Ab
