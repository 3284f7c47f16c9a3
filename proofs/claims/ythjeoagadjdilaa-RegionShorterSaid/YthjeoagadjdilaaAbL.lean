/- Stores, appends, slices made, struct literals. -/
import Derived.Test.YthjeoagadjdilaaAbK
set_option linter.unusedSimpArgs false
set_option linter.unusedVariables false
namespace Go.Ab
open Go Go.RowKit
set_option linter.unusedVariables false

/-- an element with cells replaced -/
def stE (e : AV) (off : Nat) (vs : List AV) : Option AV :=
  match e with
  | .agg cs => if off + vs.length ≤ cs.length then some (.agg (match vs with
    | [c] => cs.set off c
    | vs => if off = 0 ∧ vs.length = cs.length then vs else cs.take off ++ vs ++ cs.drop (off + vs.length))) else none
  | _ => match off, vs with
    | 0, [c] => if isOne c then some c else none
    | _, _ => none

theorem stE_cells {e e' : AV} {off : Nat} {vs : List AV} (h : stE e off vs = some e') : off + vs.length ≤ e.cells.length ∧ e'.cells.length = e.cells.length ∧
    ∀ (j : Nat) (d : AV), e'.cells[j]? = some d → if off ≤ j ∧ j < off + vs.length then vs[j - off]? = some d else e.cells[j]? = some d := by
  unfold stE at h
  split at h
  · rename_i cs
    split at h
    · rename_i hle
      injection h with h; subst h
      refine ⟨hle, ?_, ?_⟩
      · split
        · simp [AV.cells]
        · split
          · rename_i h2; exact h2.2
          · simp only [AV.cells, List.length_append, List.length_take, List.length_drop]; omega
      · intro j d hd
        split at hd
        · rename_i c
          simp only [AV.cells, List.length_singleton] at hd hle ⊢
          rw [List.getElem?_set] at hd
          by_cases e : off = j
          · subst e
            rw [if_pos rfl, if_pos (by omega)] at hd
            rw [if_pos (by omega)]; simpa using hd
          · rw [if_neg e] at hd
            rw [if_neg (by omega)]; exact hd
        · split at hd
          · rename_i h2
            obtain ⟨rfl, h3⟩ := h2
            simp only [AV.cells] at hd ⊢
            have hj := (List.getElem?_eq_some_iff.1 hd).1
            rw [if_pos (by omega)]; simpa using hd
          · simp only [AV.cells] at hd ⊢
            rw [List.getElem?_append, List.getElem?_append] at hd
            simp only [List.length_append, List.length_take] at hd
            by_cases h1 : j < off
            · rw [if_pos (by omega), if_pos (by omega), List.getElem?_take, if_pos h1] at hd
              rw [if_neg (by omega)]; exact hd
            · by_cases h2 : j < off + vs.length
              · rw [if_pos (by omega), if_neg (by omega)] at hd
                rw [if_pos ⟨by omega, h2⟩, ← hd]; congr 1; omega
              · rw [if_neg (by omega), List.getElem?_drop] at hd
                rw [if_neg (by omega), ← hd]; congr 1; omega
    · cases h
  · rename_i hne
    split at h
    · rename_i c
      split at h
      · rename_i hc
        injection h with h; subst h
        have hec : e.cells = [e] := by cases e <;> first | rfl | (exact absurd rfl (hne _))
        have hcc : c.cells = [c] := by cases c <;> first | rfl | (simp [isOne] at hc)
        refine ⟨by simp [hec], by rw [hec, hcc]; rfl, fun j d hd => ?_⟩
        rw [hcc] at hd
        cases j with
        | zero => simp at hd; subst hd; simp
        | succ j => simp at hd
      · cases h
    · cases h

section
variable {P : Program} {w w' w0 : World} {O : Nat → Prop} {ι : Nat → Option Nat} {H : List ABlk} {u : Value}

theorem heap_setCells (x : Nat) : ∀ (vs : List Value) (o : Nat) (w : World) (c : Array Value) (ty : TypeId) (fz : Nat × Nat), w.heap[x]? = some (.cells c ty fz) → o + vs.length ≤ c.size →
    ∃ c', (w.setCells x o vs).heap[x]? = some (.cells c' ty fz) ∧ c'.size = c.size ∧ ∀ j, c'[j]? = if o ≤ j ∧ j < o + vs.length then vs[j - o]? else c[j]?
  | [], o, w, c, ty, fz, h, _ => ⟨c, h, rfl, fun j => by rw [if_neg (by simp)]⟩
  | v :: r, o, w, c, ty, fz, h, hl => by
    have h1 : (w.setCell ⟨x, o, none⟩ v).heap[x]? = some (.cells (c.setIfInBounds o v) ty fz) := by
      simp [World.setCell, Array.getElem?_modify, h]
    simp only [List.length_cons] at hl
    obtain ⟨c', h2, h3, h4⟩ := heap_setCells x r (o + 1) _ _ ty fz h1 (by simp; omega)
    refine ⟨c', h2, by simpa using h3, fun j => ?_⟩
    rw [h4 j]
    by_cases e : j = o
    · subst e
      rw [if_neg (by omega), if_pos (by simp), Array.getElem?_setIfInBounds, if_pos rfl, if_pos (by omega)]
      simp
    · by_cases h5 : o + 1 ≤ j ∧ j < o + 1 + r.length
      · rw [if_pos h5, if_pos (by simp; omega), show j - o = (j - (o + 1)) + 1 by omega]; rfl
      · rw [if_neg h5, if_neg (by simp; omega), Array.getElem?_setIfInBounds, if_neg (by omega)]

theorem heap_setCells_other (x : Nat) : ∀ (vs : List Value) (o : Nat) (w : World) (k : Nat), k ≠ x → (w.setCells x o vs).heap[k]? = w.heap[k]?
  | [], _, _, _, _ => rfl
  | v :: r, o, w, k, h => by
    rw [World.setCells, heap_setCells_other x r (o + 1) _ k h]
    exact Below.heap_setCell w ⟨x, o, none⟩ v k h

theorem size_setCells (x : Nat) : ∀ (vs : List Value) (o : Nat) (w : World), (w.setCells x o vs).heap.size = w.heap.size
  | [], _, _ => rfl
  | v :: r, o, w => by rw [World.setCells, size_setCells x r]; simp

theorem below_setCells (B x : Nat) (hx : B ≤ x) : ∀ (vs : List Value) (o : Nat) (w : World), Below B w (w.setCells x o vs)
  | [], _, w => Below.refl _ _
  | v :: r, o, w => ((Below.refl B w).setCell (p := ⟨x, o, none⟩) hx v).trans (below_setCells B x hx r (o + 1) _)

/-- an own block changed in place -/
theorem Sit.set (hs : Sit w0 O ι H w) {b x : Nat} {blk blk2 : ABlk} (hb : H[b]? = some blk) (hi : ι b = some x) (h2s : blk2.sz = blk.sz) (h2t : blk2.ty = blk.ty) (h2l : blk2.es.length = blk.es.length) (hw' : Below x w w') (hoth : ∀ k, k ≠ x → w'.heap[k]? = w.heap[k]?)
    {c c' : Array Value} (hc : w.heap[x]? = some (.cells c blk.ty (0, 0))) (hc' : w'.heap[x]? = some (.cells c' blk.ty (0, 0))) (hcs : c'.size = c.size) (he : ∀ e ∈ blk2.es, e.cells.length = blk2.sz)
    (hv : ∀ (i j : Nat) (e d : AV), blk2.es[i]? = some e → e.cells[j]? = some d → ∃ u, c'[i * blk2.sz + j]? = some u ∧ VR w (OO O ι H) ι H d u) :
    Sit w0 O ι (H.set b blk2) w' ∧ Goes w (OO O ι H) ι H w' (OO O ι (H.set b blk2)) ι (H.set b blk2) := by
  have hbl : b < H.length := (List.getElem?_eq_some_iff.1 hb).1
  have hget : ∀ b' bk, (H.set b blk2)[b']? = some bk → (b' = b ∧ bk = blk2) ∨ (b' ≠ b ∧ H[b']? = some bk) := by
    intro b' bk h
    rw [List.getElem?_set] at h
    by_cases e : b = b'
    · subst e; rw [if_pos rfl, if_pos hbl] at h; injection h with h; exact .inl ⟨rfl, h.symm⟩
    · rw [if_neg e] at h; exact .inr ⟨fun e' => e e'.symm, h⟩
  have hOO : ∀ y, OO O ι (H.set b blk2) y ↔ OO O ι H y := fun y => by unfold OO rng; simp
  have hxlo : w0.heap.size ≤ x := (hs.heap b blk x hb hi).1
  have g : Goes w (OO O ι H) ι H w' (OO O ι (H.set b blk2)) ι (H.set b blk2) := by
    refine ⟨fun p u h hcell => ?_, fun p u h _ h' => h ((hOO _).1 h'), fun b' bk h => ?_, fun b' y bk bk' c1 ty fz h1 h2 _ hi' h => ?_⟩
    · have : p.block ≠ x := fun e => h (.inr ⟨b, hbl, by rw [e]; exact hi⟩)
      rw [World.cell?_of_block (hoth _ this)]; exact hcell
    · by_cases e : b' = b
      · subst e
        rw [hb] at h; injection h with h; subst h
        exact ⟨blk2, by simp [hbl], by omega, fun _ => ⟨h2s, rfl⟩⟩
      · exact ⟨bk, by rw [List.getElem?_set_ne (fun e' => e e'.symm)]; exact h, Nat.le_refl _, fun _ => ⟨rfl, rfl⟩⟩
    · by_cases e : y = x
      · subst e
        rw [hc] at h; injection h with h; injection h with h3 h4 h5
        subst h3
        exact ⟨c', _, _, hc', hcs⟩
      · exact ⟨c1, ty, fz, by rw [hoth y e]; exact h, rfl⟩
  refine ⟨⟨fun b' bk y h hy => ?_, fun b' bk h hy => ?_, fun b1 b2 y h1 h2 => hs.inj b1 b2 y (by simpa using h1) (by simpa using h2), hs.below.trans (hw'.mono hxlo), hs.old⟩, g⟩
  · rcases hget b' bk h with ⟨rfl, rfl⟩ | ⟨hne, h'⟩
    · rw [hi] at hy; injection hy with hy; subst hy
      obtain ⟨_, c0, hc0, hsz0, _, _⟩ := hs.heap b' blk x hb hi
      rw [hc] at hc0; injection hc0 with hc0; injection hc0 with hc0 _ _; subst hc0
      refine ⟨hxlo, c', by rw [h2t]; exact hc', by rw [h2l, h2s, hcs]; exact hsz0, he, fun i j e d hie hjd => ?_⟩
      obtain ⟨u, hu, hvu⟩ := hv i j e d hie hjd
      exact ⟨u, hu, hvu.mono g⟩
    · obtain ⟨h3, h4⟩ := hs.heap b' bk y h' hy
      have hyx : y ≠ x := fun e => hne (hs.inj b' b y (List.getElem?_eq_some_iff.1 h').1 hbl hy (by rw [e]; exact hi))
      exact ⟨h3, h4.mono g (hoth y hyx)⟩
  · rcases hget b' bk h with ⟨rfl, rfl⟩ | ⟨hne, h'⟩
    · rw [hi] at hy; cases hy
    · exact hs.empt b' bk h' hy

theorem mul_lt_of {i j n s : Nat} (hi : i < n) (hj : j < s) : i * s + j < n * s := by
  have : (i + 1) * s ≤ n * s := Nat.mul_le_mul_right s hi
  rw [Nat.add_mul] at this
  omega

theorem div_of {i j s : Nat} (hj : j < s) : (i * s + j) / s = i ∧ (i * s + j) % s = j := by
  have hs : 0 < s := by omega
  constructor
  · rw [Nat.mul_comm, Nat.mul_add_div hs, Nat.div_eq_of_lt hj]; rfl
  · rw [Nat.mul_comm, Nat.mul_add_mod, Nat.mod_eq_of_lt hj]

/-- store through a pointer to the function's own memory -/
theorem pl_store {ρ : Operand → AV} {t : TypeId} {x y : Operand} {b tot i off : Nat} {blk : ABlk} {e e' v : AV} (hx : ρ x = .ptr b tot i off) (hy : ρ y = v) (hb : H[b]? = some blk) (ht : blk.es.length = tot) (he : blk.es[i]? = some e)
    (hsz : szTy P t = some v.cells.length) (hc : okCells v = true) (hst : stE e off v.cells = some e') : PL P H ρ (.store t x y) .bad (H.set b { blk with es := blk.es.set i e' }) := by
  refine PL.of_run fun w0 O ι a w hs hv o ho => ?_
  have h1 := hv x; rw [hx] at h1
  have h2 := hv y; rw [hy] at h2
  obtain ⟨z, hi, hX, hel⟩ := h1.ptr_inv hs hb ht he
  obtain ⟨h3, h4, h5⟩ := h2.cells hc
  obtain ⟨h6, h7, h8⟩ := stE_cells hst
  obtain ⟨hz0, c, hcz, hcl, hsz', hrow⟩ := hs.heap b blk z hb hi
  have hil : i < blk.es.length := (List.getElem?_eq_some_iff.1 he).1
  have hesz : e.cells.length = blk.sz := hsz' e (List.mem_of_getElem? he)
  have hrange : i * blk.sz + off + v.cells.length ≤ c.size := by
    have : (i + 1) * blk.sz ≤ blk.es.length * blk.sz := Nat.mul_le_mul_right _ hil
    rw [Nat.add_mul] at this
    omega
  have hcellat : ∀ j, j < c.size → w.cell? ⟨z, j, none⟩ = c[j]? := fun j hj => by simp [World.cell?, hcz]
  have hrun : (storeVar t ⟨z, i * blk.sz + off, none⟩ (a.eval y)).run P w = .ok () (w.setCells z (i * blk.sz + off) (a.eval y).cells.toList) := by
    have hl : (a.eval y).cells.toList.length = v.cells.length := by simpa using h3
    have := run_storeCells_cells (P := P) z (i * blk.sz + off) (a.eval y).cells.toList 0 w
      (fun j hj => by rw [hcellat _ (by omega), Array.getElem?_eq_getElem (show i * blk.sz + off + 0 + j < c.size by omega)]; rfl)
      (fun j hj => by simp [World.frozen?, hcz]) (fun v hv => h5 v (by simpa using hv))
    unfold szTy at hsz
    cases hq : P.info? t with
    | none => simp [hq] at hsz
    | some ii =>
      simp [hq] at hsz
      simp only [Nat.add_zero] at this
      have hne : ¬ ((a.eval y).cells.size ≠ ii.size) := by omega
      simp only [storeVar, sizeOf, typeInfo, Sem.run_bind, run_program, Result.andThen_ok, hq, Sem.run_pure, Sem.run_ite, if_neg hne, this]
  obtain ⟨c', hc', hcs', hj'⟩ := heap_setCells z (a.eval y).cells.toList (i * blk.sz + off) w c blk.ty (0, 0) hcz (by simp [h3]; omega)
  obtain ⟨h9, h10⟩ := hs.set (blk2 := { blk with es := blk.es.set i e' }) hb hi rfl rfl (by simp) (below_setCells z z (Nat.le_refl _) _ _ _) (fun k hk => heap_setCells_other z _ _ _ k hk) hcz hc' hcs'
    (fun e1 he1 => by
      rcases List.mem_or_eq_of_mem_set he1 with h | h
      · exact hsz' e1 h
      · rw [h, h7]; exact hesz)
    (fun i1 j1 e1 d1 hi1 hj1 => by
      simp only at hi1 ⊢
      rw [List.getElem?_set] at hi1
      have hj1l : j1 < blk.sz := by
        by_cases e : i = i1
        · subst e; rw [if_pos rfl, if_pos hil] at hi1; injection hi1 with hi1; subst hi1
          rw [← hesz, ← h7]; exact (List.getElem?_eq_some_iff.1 hj1).1
        · rw [if_neg e] at hi1
          rw [← hsz' e1 (List.mem_of_getElem? hi1)]; exact (List.getElem?_eq_some_iff.1 hj1).1
      by_cases e : i = i1
      · subst e
        rw [if_pos rfl, if_pos hil] at hi1; injection hi1 with hi1; subst hi1
        have h11 := h8 j1 d1 hj1
        rw [hj']
        simp only [Array.length_toList, Array.getElem?_toList]
        by_cases h12 : off ≤ j1 ∧ j1 < off + v.cells.length
        · rw [if_pos h12] at h11
          rw [if_pos (by omega)]
          have hlt : j1 - off < (a.eval y).cells.size := by omega
          refine ⟨_, by rw [show i * blk.sz + j1 - (i * blk.sz + off) = j1 - off by omega]; exact Array.getElem?_eq_getElem hlt, h4 _ _ _ h11 (Array.getElem?_eq_getElem hlt)⟩
        · rw [if_neg h12] at h11
          rw [if_neg (by omega)]
          exact hrow i j1 e d1 he h11
      · rw [if_neg e] at hi1
        rw [hj', if_neg]
        · exact hrow i1 j1 e1 d1 hi1 hj1
        · simp only [Array.length_toList]
          intro hcon
          rcases Nat.lt_or_ge i i1 with h | h
          · have : (i + 1) * blk.sz ≤ i1 * blk.sz := Nat.mul_le_mul_right _ h
            rw [Nat.add_mul] at this; omega
          · have : (i1 + 1) * blk.sz ≤ i * blk.sz := Nat.mul_le_mul_right _ (by omega)
            rw [Nat.add_mul] at this; omega)
  refine ⟨undef, _, ι, .skip, ?_, .inr ⟨rfl, rfl⟩, h9, h10, .bad _⟩
  simp only [execOp, ho, hX, Instr.storeAt, Instr.sureAddr, Sem.run_bind, Sem.run_pure, Result.andThen_ok, hrun]
end
end Go.Ab
