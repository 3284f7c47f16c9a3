/- Slices made and grown. -/
import Derived.Test.YthjeoagadjdilaaAbM
set_option linter.unusedSimpArgs false
set_option linter.unusedVariables false
namespace Go.Ab
open Go Go.RowKit
set_option linter.unusedVariables false

section
variable {P : Program} {w w' w0 : World} {O : Nat → Prop} {ι : Nat → Option Nat} {H : List ABlk} {u : Value}

/-- the elements of a slice literal: its parts, in order -/
def litOk (size : Nat) (len : Nat) (ps : List (Nat × AV)) : Bool :=
  (ps.map (·.1) == List.range len) && ps.all fun p => p.2.cells.length == size && okCells p.2

theorem buildSlice_run {ρ : Operand → AV} {a : Act} {t el : TypeId} {len size : Nat} {parts : Array (Nat × Operand)} (hv : ∀ p ∈ parts, VR w O ι H (ρ p.2) (a.eval p.2)) (ht : P.underlying t = some (.slice el)) (hsz : szTy P el = some size)
    (hz : (zeroA P el).map (fun z => z.cells.length) = some size) (hlen : len * size ≤ 16777216)
    (hp : litOk size len (parts.toList.map fun (i, x) => (i, ρ x)) = true) :
    ∃ c : Array Value, (Instr.buildSlice t len (parts.map fun (i, x) => (i, a.eval x))).run P w = .ok (.slice (some ⟨w.heap.size, 0, none⟩) len len) (w.alloc (.cells c el)) ∧ c.size = len * size ∧ parts.size = len ∧
      ∀ (i j : Nat) (p : Nat × Operand) (d : AV), parts[i]? = some p → (ρ p.2).cells[j]? = some d → (ρ p.2).cells.length = size ∧ okCells (ρ p.2) = true ∧ ∃ u, c[i * size + j]? = some u ∧ VR w O ι H d u := by
  unfold litOk at hp
  simp only [Bool.and_eq_true, beq_iff_eq, List.map_map, List.all_map] at hp
  obtain ⟨h1, h2⟩ := hp
  have hlen' : parts.size = len := by
    have := congrArg List.length h1
    simpa using this
  have hfst : ∀ (i : Nat) p, parts[i]? = some p → p.1 = i := by
    intro i p hi
    have hil : i < parts.size := (Array.getElem?_eq_some_iff.1 hi).1
    have := congrArg (·[i]?) h1
    simp only [List.getElem?_map, Array.getElem?_toList, hi, Option.map_some, List.getElem?_range (show i < len by omega), Function.comp] at this
    injection this
  have hok : ∀ p ∈ parts, (ρ p.2).cells.length = size ∧ okCells (ρ p.2) = true := by
    intro p hp
    have := List.all_eq_true.1 h2 p (by simpa using hp)
    simpa using this
  obtain ⟨us, hus⟩ : ∃ us, us = parts.toList.map fun (i, x) => a.eval x := ⟨_, rfl⟩
  have hparts : (parts.map fun (i, x) => (i, a.eval x)).toList = us.zipIdx.map fun (u, i) => (i, u) := by
    subst hus
    apply List.ext_getElem?
    intro i
    simp only [Array.toList_map, List.getElem?_map, List.getElem?_zipIdx, Array.getElem?_toList]
    cases hi : parts[i]? with
    | none => rfl
    | some p => obtain ⟨q, x⟩ := p; simp [← hfst i _ hi]
  have hus' : ∀ u ∈ us, u.cells.size = size := by
    subst hus
    intro u hu
    obtain ⟨p, hp, rfl⟩ := List.mem_map.1 hu
    have hp' : p ∈ parts := by simpa using hp
    obtain ⟨h3, h4⟩ := hok p hp'
    rw [← h3]; exact ((hv p hp').cells h4).1
  have husl : us.length = len := by subst hus; simpa using hlen'
  cases hza : zeroA P el with
  | none => simp [hza] at hz
  | some z =>
  simp only [hza, Option.map_some, Option.some.injEq] at hz
  obtain ⟨zv, hzr, _⟩ := zero_run (P := P) (w := w) hza
  obtain ⟨zs, hzs⟩ : ∃ zs : Array Value, (len * size = 0 ∧ zs = #[]) ∨ (len * size ≠ 0 ∧ zs = zv.cells) := by
    by_cases h0 : len * size = 0
    · exact ⟨#[], .inl ⟨h0, rfl⟩⟩
    · exact ⟨zv.cells, .inr ⟨h0, rfl⟩⟩
  obtain ⟨arr', h3, h4, _, h6⟩ := fill_row size us 0 ((Array.range (len * size)).map (zs[· % zs.size]!)) hus' (by simp [husl])
  refine ⟨arr', ?_, by rw [h4]; simp, hlen', fun i j p d hi hd => ?_⟩
  · have hnot : ¬ (len * size > 2 ^ 24) := by omega
    simp only [Instr.buildSlice, run_underlying ht, Sem.run_bind, Result.andThen_ok, sizeOf_run hsz, Sem.run_ite, if_neg hnot, Sem.run_pure]
    rcases hzs with ⟨h0, rfl⟩ | ⟨h0, rfl⟩
    · rw [if_pos h0]
      simp only [hparts, h3, newRow, Sem.run_bind, run_newObj, World.alloc_eq, Sem.run_pure, Result.andThen_ok]
    · rw [if_neg h0]
      simp only [hzr, Result.andThen_ok, hparts, h3, newRow, Sem.run_bind, run_newObj, World.alloc_eq, Sem.run_pure]
  · have hp' : p ∈ parts := Array.mem_of_getElem? hi
    obtain ⟨h7, h8⟩ := hok p hp'
    obtain ⟨h9, h10, _⟩ := (hv p hp').cells h8
    have hj : j < size := by rw [← h7]; exact (List.getElem?_eq_some_iff.1 hd).1
    have hui : us[i]? = some (a.eval p.2) := by subst hus; rw [List.getElem?_map, Array.getElem?_toList, hi]; rfl
    have hjc : j < (a.eval p.2).cells.size := by omega
    refine ⟨h7, h8, _, ?_, h10 j d _ hd (Array.getElem?_eq_getElem hjc)⟩
    have := h6 i j _ hui hj
    rw [Nat.zero_add] at this
    rw [this]; exact Array.getElem?_eq_getElem hjc

theorem mem_operands_buildSlice {t : TypeId} {len : Nat} {parts : Array (Nat × Operand)} {p : Nat × Operand} (h : p ∈ parts) : p.2 ∈ (Op.buildSlice t len parts).operands := by
  simp only [Op.operands, List.mem_toArray, List.mem_map]
  exact ⟨p, by simpa using h, rfl⟩

/-- a slice literal as the function's own memory -/
theorem pl_buildSlice {ρ : Operand → AV} {t el : TypeId} {len size : Nat} {parts : Array (Nat × Operand)} {es : List AV} (hpos : 0 < size) (ht : P.underlying t = some (.slice el)) (hsz : szTy P el = some size) (hz : (zeroA P el).map (fun z => z.cells.length) = some size) (hlen : len * size ≤ 16777216)
    (hp : litOk size len (parts.toList.map fun (i, x) => (i, ρ x)) = true) (hes : (parts.toList.map fun (i, x) => ρ x) = es) (hle : es.length = len) :
    PL P H ρ (.buildSlice t len parts) (.own H.length len 0 len) (H ++ [⟨el, size, es⟩]) := by
  refine PL.of_run fun w0 O ι a w hs hv o ho => ?_
  obtain ⟨c, hr, hcs, hps, hc⟩ := buildSlice_run (P := P) (ρ := ρ) (a := a) (w := w) (fun p _ => hv p.2) ht hsz hz hlen hp
  have hei : ∀ (i : Nat) e, es[i]? = some e → ∃ p, parts[i]? = some p ∧ e = ρ p.2 := by
    intro i e hi
    subst hes
    rw [List.getElem?_map, Array.getElem?_toList] at hi
    cases hq : parts[i]? with
    | none => simp [hq] at hi
    | some p => simp [hq] at hi; exact ⟨p, rfl, hi.symm⟩
  have hes2 : ∀ e ∈ es, e.cells.length = size := by
    intro e he
    obtain ⟨i, hi, rfl⟩ := List.mem_iff_getElem.1 he
    obtain ⟨p, hp1, hp2⟩ := hei i _ (List.getElem?_eq_getElem hi)
    unfold litOk at hp
    simp only [Bool.and_eq_true, List.all_map] at hp
    have := List.all_eq_true.1 hp.2 p (by have := Array.mem_of_getElem? hp1; simpa using this)
    rw [hp2]
    simp at this; exact this.1
  obtain ⟨h4, h5⟩ := hs.new ⟨el, size, es⟩ c w (Below.refl _ _) rfl (by simp [hcs, hle]) hes2 (fun i j e d hi hd => by
    obtain ⟨p, hp1, rfl⟩ := hei i e hi
    exact (hc i j p d hp1 hd).2.2)
  refine ⟨.slice (some ⟨w.heap.size, 0, none⟩) len len, _, _, .value _, ?_, .inl rfl, h4, h5, ?_⟩
  · simp only [execOp, ho, hr, Sem.run_bind, Result.andThen_ok, Sem.run_pure]
  · refine .own _ _ _ _ ⟨el, size, es⟩ w.heap.size _ _ _ (by simp) hle (upd_same _ _ _) rfl (by omega) (Nat.le_refl _) fun _ => ⟨by rw [Nat.zero_mul], ?_, c, el, (0, 0), heap_alloc_new w _, by rw [Nat.zero_add, hcs]⟩
    have := Nat.le_mul_of_pos_right len hpos
    simp only [maxLen]; omega

/-- a slice literal as data: nobody will write it -/
theorem ql_buildSlice {ρ : Operand → AV} {t el : TypeId} {len size : Nat} {parts : Array (Nat × Operand)} {es : List AV} (hpos : 0 < size) (ht : P.underlying t = some (.slice el)) (hsz : szTy P el = some size) (hz : (zeroA P el).map (fun z => z.cells.length) = some size) (hlen : len * size ≤ 16777216)
    (hp : litOk size len (parts.toList.map fun (i, x) => (i, ρ x)) = true) (hes : (parts.toList.map fun (i, x) => ρ x) = es) (hle : es.length = len) :
    QL P H ρ (.buildSlice t len parts) (.lst es) := by
  intro o ho w0 O ι a w hs hv K Q hK
  rw [ho] at hv
  obtain ⟨c, hr, hcs, hps, hc⟩ := buildSlice_run (P := P) (ρ := ρ) (a := a) (w := w) (fun p hp => hv p.2 (mem_operands_buildSlice hp)) ht hsz hz hlen hp
  have hei : ∀ (i : Nat) e, es[i]? = some e → ∃ p, parts[i]? = some p ∧ e = ρ p.2 := by
    intro i e hi
    subst hes
    rw [List.getElem?_map, Array.getElem?_toList] at hi
    cases hq : parts[i]? with
    | none => simp [hq] at hi
    | some p => simp [hq] at hi; exact ⟨p, rfl, hi.symm⟩
  have hes2 : ∀ e ∈ es, e.cells.length = size := by
    intro e he
    obtain ⟨i, hi, rfl⟩ := List.mem_iff_getElem.1 he
    obtain ⟨p, hp1, hp2⟩ := hei i _ (List.getElem?_eq_getElem hi)
    unfold litOk at hp
    simp only [Bool.and_eq_true, List.all_map] at hp
    have := List.all_eq_true.1 hp.2 p (by have := Array.mem_of_getElem? hp1; simpa using this)
    rw [hp2]
    simp at this; exact this.1
  have hb : Below w.heap.size w (w.alloc (.cells c el)) := (Below.refl _ _).alloc (Nat.le_refl _) _
  have g := Goes.quiet hs hb
  have hnew : ¬ OO O ι H w.heap.size := by
    rintro (h | ⟨b, hb, hx⟩)
    · have := hs.old _ h; have := hs.below.size; omega
    · have := (hs.heap b _ _ (List.getElem?_eq_getElem hb) hx).2.lt; omega
  have hrun : (execOp a.eval o).run P w = .ok (.value (.slice (some ⟨w.heap.size, 0, none⟩) len len)) (w.alloc (.cells c el)) := by
    simp only [execOp, ho, hr, Sem.run_bind, Result.andThen_ok, Sem.run_pure]
  unfold Oper.wp
  rw [hrun]
  have hat : ∀ (i j : Nat) (e d : AV), es[i]? = some e → e.cells[j]? = some d → ∃ u, (w.alloc (.cells c el)).cell? ⟨w.heap.size, 0 + i * size + j, none⟩ = some u ∧ VR (w.alloc (.cells c el)) (OO O ι H) ι H d u := by
    intro i j e d hi hd
    obtain ⟨p, hp1, rfl⟩ := hei i e hi
    obtain ⟨_, _, u, hu, hvu⟩ := hc i j p d hp1 hd
    exact ⟨u, by rw [World.cell?_alloc_new, Nat.zero_add]; exact hu, hvu.mono g⟩
  have hmaxl : len ≤ maxLen := by
    have := Nat.le_mul_of_pos_right len hpos
    simp only [maxLen]; omega
  refine hK _ _ (.lst es _ len len size (fun i j => ((w.alloc (.cells c el)).cell? ⟨w.heap.size, 0 + i * size + j, none⟩).getD undef) hle.symm (Nat.le_refl _) hmaxl hes2 (fun _ _ => rfl) (fun i j e d hi hd => ?_) fun i j e d hi hd => ?_) hb
  · obtain ⟨u, hu, _⟩ := hat i j e d hi hd
    exact ⟨hnew, by simp only [hu, Option.getD_some]⟩
  · obtain ⟨u, hu, hvu⟩ := hat i j e d hi hd
    simpa only [hu, Option.getD_some] using hvu
end
end Go.Ab
