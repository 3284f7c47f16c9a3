/- Stores, appends, slices made, struct literals. -/
import Derived.Test.YthgicbkdckpeaaaDoorG07
set_option linter.unusedSimpArgs false
set_option linter.unusedVariables false
namespace Go.Ab
open Go Go.RowKit

def stE (e : AV) (off : Nat) (vs : List AV) : Option AV :=
  match e with
  | .agg cs => if off + vs.length ≤ cs.length then some (.agg (match vs with
    | [c] => cs.set off c
    | vs => if off = 0 ∧ vs.length = cs.length then vs else cs.take off ++ vs ++ cs.drop (off + vs.length))) else none
  | _ => match off, vs with
    | 0, [c] => if isOne c then some c else none
    | _, _ => none

theorem stE_cells {e e' : AV} {off : Nat} {vs : List AV} (h : stE e off vs = some e') : off + vs.length ≤ e.cells.length ∧ e'.cells.length = e.cells.length ∧
    ∀ (j : Nat) (d : AV), e'.cells[j]? = some d → if off ≤ j ∧ j < off + vs.length then vs[j - off]? = some d else e.cells[j]? = some d := by
  unfold stE at h
  split at h
  · rename_i cs
    split at h
    · rename_i hle
      injection h with h; subst h
      refine ⟨hle, ?_, ?_⟩
      · split
        · simp [AV.cells]
        · split
          · rename_i h2; exact h2.2
          · simp only [AV.cells, List.length_append, List.length_take, List.length_drop]; omega
      · intro j d hd
        split at hd
        · rename_i c
          simp only [AV.cells, List.length_singleton] at hd hle ⊢
          rw [List.getElem?_set] at hd
          by_cases e : off = j
          · subst e
            rw [if_pos rfl, if_pos (by omega)] at hd
            rw [if_pos (by omega)]; simpa using hd
          · rw [if_neg e] at hd
            rw [if_neg (by omega)]; exact hd
        · split at hd
          · rename_i h2
            obtain ⟨rfl, h3⟩ := h2
            simp only [AV.cells] at hd ⊢
            have hj := (List.getElem?_eq_some_iff.1 hd).1
            rw [if_pos (by omega)]; simpa using hd
          · simp only [AV.cells] at hd ⊢
            rw [List.getElem?_append, List.getElem?_append] at hd
            simp only [List.length_append, List.length_take] at hd
            by_cases h1 : j < off
            · rw [if_pos (by omega), if_pos (by omega), List.getElem?_take, if_pos h1] at hd
              rw [if_neg (by omega)]; exact hd
            · by_cases h2 : j < off + vs.length
              · rw [if_pos (by omega), if_neg (by omega)] at hd
                rw [if_pos ⟨by omega, h2⟩, ← hd]; congr 1; omega
              · rw [if_neg (by omega), List.getElem?_drop] at hd
                rw [if_neg (by omega), ← hd]; congr 1; omega
    · cases h
  · rename_i hne
    split at h
    · rename_i c
      split at h
      · rename_i hc
        injection h with h; subst h
        have hec : e.cells = [e] := by cases e <;> first | rfl | (exact absurd rfl (hne _))
        have hcc : c.cells = [c] := by cases c <;> first | rfl | (simp [isOne] at hc)
        refine ⟨by simp [hec], by rw [hec, hcc]; rfl, fun j d hd => ?_⟩
        rw [hcc] at hd
        cases j with
        | zero => simp at hd; subst hd; simp
        | succ j => simp at hd
      · cases h
    · cases h

section
variable {P : Program} {w w' : World} {w0 : Base} {O : Nat → Prop} {ι : Nat → Option Nat} {H : List ABlk} {u : Value}

theorem heap_setCells (x : Nat) : ∀ (vs : List Value) (o : Nat) (w : World) (c : Array Value) (ty : TypeId) (fz : Nat × Nat), w.heap[x]? = some (.cells c ty fz) → o + vs.length ≤ c.size →
    ∃ c', (w.setCells x o vs).heap[x]? = some (.cells c' ty fz) ∧ c'.size = c.size ∧ ∀ j, c'[j]? = if o ≤ j ∧ j < o + vs.length then vs[j - o]? else c[j]?
  | [], o, w, c, ty, fz, h, _ => ⟨c, h, rfl, fun j => by rw [if_neg (by simp)]⟩
  | v :: r, o, w, c, ty, fz, h, hl => by
    have h1 : (w.setCell ⟨x, o, none⟩ v).heap[x]? = some (.cells (c.setIfInBounds o v) ty fz) := by
      simp [World.setCell, Array.getElem?_modify, h]
    simp only [List.length_cons] at hl
    obtain ⟨c', h2, h3, h4⟩ := heap_setCells x r (o + 1) _ _ ty fz h1 (by simp; omega)
    refine ⟨c', h2, by simpa using h3, fun j => ?_⟩
    rw [h4 j]
    by_cases e : j = o
    · subst e
      rw [if_neg (by omega), if_pos (by simp), Array.getElem?_setIfInBounds, if_pos rfl, if_pos (by omega)]
      simp
    · by_cases h5 : o + 1 ≤ j ∧ j < o + 1 + r.length
      · rw [if_pos h5, if_pos (by simp; omega), show j - o = (j - (o + 1)) + 1 by omega]; rfl
      · rw [if_neg h5, if_neg (by simp; omega), Array.getElem?_setIfInBounds, if_neg (by omega)]

theorem heap_setCells_other (x : Nat) : ∀ (vs : List Value) (o : Nat) (w : World) (k : Nat), k ≠ x → (w.setCells x o vs).heap[k]? = w.heap[k]?
  | [], _, _, _, _ => rfl
  | v :: r, o, w, k, h => by
    rw [World.setCells, heap_setCells_other x r (o + 1) _ k h]
    exact Below.heap_setCell w ⟨x, o, none⟩ v k h

theorem below_setCells (B x : Nat) (hx : B ≤ x) : ∀ (vs : List Value) (o : Nat) (w : World), Below B w (w.setCells x o vs)
  | [], _, w => Below.refl _ _
  | v :: r, o, w => ((Below.refl B w).setCell (p := ⟨x, o, none⟩) hx v).trans (below_setCells B x hx r (o + 1) _)

theorem Sit.set (hs : Sit w0 O ι H w) {b x : Nat} {blk blk2 : ABlk} (hb : H[b]? = some blk) (hi : ι b = some x) (h2s : blk2.sz = blk.sz) (h2t : blk2.ty = blk.ty) (h2l : blk2.es.length = blk.es.length) (hw' : Below x w w') (hoth : ∀ k, k ≠ x → w'.heap[k]? = w.heap[k]?)
    {c c' : Array Value} (hc : rowAt w x = some (c, blk.ty)) (hc' : rowAt w' x = some (c', blk.ty)) (hcs : c'.size = c.size) (hcc : ∀ c ty fz, w.heap[x]? = some (.cells c ty fz) → ∃ c' ty' fz', w'.heap[x]? = some (.cells c' ty' fz') ∧ c'.size = c.size) (he : ∀ e ∈ blk2.es, e.cells.length = blk2.sz)
    (hv : ∀ (i j : Nat) (e d : AV), blk2.es[i]? = some e → e.cells[j]? = some d → ∃ u, c'[i * blk2.sz + j]? = some u ∧ VR w (OO O ι H) ι H d u) :
    Sit w0 O ι (H.set b blk2) w' ∧ Goes w (OO O ι H) ι H w' (OO O ι (H.set b blk2)) ι (H.set b blk2) := by
  have hbl : b < H.length := (List.getElem?_eq_some_iff.1 hb).1
  have hget : ∀ b' bk, (H.set b blk2)[b']? = some bk → (b' = b ∧ bk = blk2) ∨ (b' ≠ b ∧ H[b']? = some bk) := by
    intro b' bk h
    rw [List.getElem?_set] at h
    by_cases e : b = b'
    · subst e; rw [if_pos rfl, if_pos hbl] at h; injection h with h; exact .inl ⟨rfl, h.symm⟩
    · rw [if_neg e] at h; exact .inr ⟨fun e' => e e'.symm, h⟩
  have hOO : ∀ y, OO O ι (H.set b blk2) y ↔ OO O ι H y := fun y => by unfold OO rng; simp
  have hxlo : w0.w.heap.size ≤ x ∨ w0.S x := (hs.heap b blk x hb hi).1
  have g : Goes w (OO O ι H) ι H w' (OO O ι (H.set b blk2)) ι (H.set b blk2) := by
    refine ⟨fun p u h hcell => ?_, fun p u h _ h' => h ((hOO _).1 h'), fun b' bk h => ?_, fun b' y bk bk' c1 ty fz h1 h2 _ hi' h => ?_⟩
    · have : p ≠ x := fun e => h (.inr ⟨b, hbl, by rw [e]; exact hi⟩)
      rw [hoth _ this]; exact hcell
    · by_cases e : b' = b
      · subst e
        rw [hb] at h; injection h with h; subst h
        exact ⟨blk2, by simp [hbl], by omega, fun _ => ⟨h2s, rfl⟩⟩
      · exact ⟨bk, by rw [List.getElem?_set_ne (fun e' => e e'.symm)]; exact h, Nat.le_refl _, fun _ => ⟨rfl, rfl⟩⟩
    · by_cases e : y = x
      · subst e
        exact hcc _ _ _ h
      · exact ⟨c1, ty, fz, by rw [hoth y e]; exact h, rfl⟩
  refine ⟨⟨fun b' bk y h hy => ?_, fun b' bk h hy => ?_, fun b1 b2 y h1 h2 => hs.inj b1 b2 y (by simpa using h1) (by simpa using h2), hs.below.change hw'.os hw'.tape hw'.output hw'.size (fun k _ hk => by
      rcases Classical.em (k = x) with e | e
      · rw [e]; exact hxlo
      · exact absurd (hoth k e) hk),
    fun y hy => Nat.lt_of_lt_of_le (hs.old y hy) hw'.size, fun y b1 hO h1 => hs.disj y b1 hO (by simpa using h1), hs.hist.trans g.grow⟩, g⟩
  · rcases hget b' bk h with ⟨rfl, rfl⟩ | ⟨hne, h'⟩
    · rw [hi] at hy; injection hy with hy; subst hy
      obtain ⟨_, c0, hc0, hsz0, _, _⟩ := hs.heap b' blk x hb hi
      rw [hc] at hc0; injection hc0 with hc0; injection hc0 with hc0 _; subst hc0
      refine ⟨hxlo, c', by rw [h2t]; exact hc', by rw [h2l, h2s, hcs]; exact hsz0, he, fun i j e d hie hjd => ?_⟩
      obtain ⟨u, hu, hvu⟩ := hv i j e d hie hjd
      exact ⟨u, hu, hvu.mono g⟩
    · obtain ⟨h3, h4⟩ := hs.heap b' bk y h' hy
      have hyx : y ≠ x := fun e => hne (hs.inj b' b y (List.getElem?_eq_some_iff.1 h').1 hbl hy (by rw [e]; exact hi))
      exact ⟨h3, h4.mono g (hoth y hyx)⟩
  · rcases hget b' bk h with ⟨rfl, rfl⟩ | ⟨hne, h'⟩
    · rw [hi] at hy; cases hy
    · exact hs.empt b' bk h' hy

theorem mul_lt_of {i j n s : Nat} (hi : i < n) (hj : j < s) : i * s + j < n * s := by
  have : (i + 1) * s ≤ n * s := Nat.mul_le_mul_right s hi
  rw [Nat.add_mul] at this
  omega

theorem div_of {i j s : Nat} (hj : j < s) : (i * s + j) / s = i ∧ (i * s + j) % s = j := by
  have hs : 0 < s := by omega
  constructor
  · rw [Nat.mul_comm, Nat.mul_add_div hs, Nat.div_eq_of_lt hj]; rfl
  · rw [Nat.mul_comm, Nat.mul_add_mod, Nat.mod_eq_of_lt hj]

theorem pl_store {ρ : Operand → AV} {t : TypeId} {x y : Operand} {b tot i off : Nat} {blk : ABlk} {e e' v : AV} (hx : ρ x = .ptr b tot i off) (hy : ρ y = v) (hb : H[b]? = some blk) (ht : blk.es.length = tot) (he : blk.es[i]? = some e)
    (hsz : szTy P t = some v.cells.length) (hc : okCells v = true) (hst : stE e off v.cells = some e') (hmt : blk.ty < mapTy := by first | decide | exact ltMap rfl) : PL P H ρ (.store t x y) .bad (H.set b { blk with es := blk.es.set i e' }) := by
  refine PL.of_run fun w0 O ι a w hs hv o ho => ?_
  have h1 := hv x; rw [hx] at h1
  have h2 := hv y; rw [hy] at h2
  obtain ⟨z, hi, hX, hel⟩ := h1.ptr_inv hs hb ht he
  have hcx : ∃ c ty fz, w.heap[z]? = some (.cells c ty fz) := by
    obtain ⟨y, blk', f1, f2, f3, f4, f5⟩ := h1.ptr_fresh (by simp [fresh, hb, ht])
    rw [hi] at f1; injection f1 with f1; subst f1; exact f5
  obtain ⟨h3, h4, h5⟩ := h2.cells hc
  obtain ⟨h6, h7, h8⟩ := stE_cells hst
  obtain ⟨hz0, c, hcz, hcl, hsz', hrow⟩ := hs.heap b blk z hb hi
  have hcz := rowAt_inv hcz hcx hmt
  have hil : i < blk.es.length := (List.getElem?_eq_some_iff.1 he).1
  have hesz : e.cells.length = blk.sz := hsz' e (List.mem_of_getElem? he)
  have hrange : i * blk.sz + off + v.cells.length ≤ c.size := by
    have : (i + 1) * blk.sz ≤ blk.es.length * blk.sz := Nat.mul_le_mul_right _ hil
    rw [Nat.add_mul] at this
    omega
  have hcellat : ∀ j, j < c.size → w.cell? ⟨z, j, none⟩ = c[j]? := fun j hj => by simp [World.cell?, hcz]
  have hrun : (storeVar t ⟨z, i * blk.sz + off, none⟩ (a.eval y)).run P w = .ok () (w.setCells z (i * blk.sz + off) (a.eval y).cells.toList) := by
    have hl : (a.eval y).cells.toList.length = v.cells.length := by simpa using h3
    have := run_storeCells_cells (P := P) z (i * blk.sz + off) (a.eval y).cells.toList 0 w
      (fun j hj => by rw [hcellat _ (by omega), Array.getElem?_eq_getElem (show i * blk.sz + off + 0 + j < c.size by omega)]; rfl)
      (fun j hj => by simp [World.frozen?, hcz]) (fun v hv => h5 v (by simpa using hv))
    unfold szTy at hsz
    cases hq : P.info? t with
    | none => simp [hq] at hsz
    | some ii =>
      simp [hq] at hsz
      simp only [Nat.add_zero] at this
      have hne : ¬ ((a.eval y).cells.size ≠ ii.size) := by omega
      simp only [storeVar, sizeOf, typeInfo, Sem.run_bind, run_program, Result.andThen_ok, hq, Sem.run_pure, Sem.run_ite, if_neg hne, this]
  obtain ⟨c', hc', hcs', hj'⟩ := heap_setCells z (a.eval y).cells.toList (i * blk.sz + off) w c blk.ty (0, 0) hcz (by simp [h3]; omega)
  obtain ⟨h9, h10⟩ := hs.set (blk2 := { blk with es := blk.es.set i e' }) hb hi rfl rfl (by simp) (below_setCells z z (Nat.le_refl _) _ _ _) (fun k hk => heap_setCells_other z _ _ _ k hk) (rowAt_cells hcz hmt) (rowAt_cells hc' hmt) hcs' (fun c1 ty1 fz1 h => by rw [hcz] at h; injection h with h; injection h with h a b; subst h; exact ⟨c', _, _, hc', hcs'⟩)
    (fun e1 he1 => by
      rcases List.mem_or_eq_of_mem_set he1 with h | h
      · exact hsz' e1 h
      · rw [h, h7]; exact hesz)
    (fun i1 j1 e1 d1 hi1 hj1 => by
      simp only at hi1 ⊢
      rw [List.getElem?_set] at hi1
      have hj1l : j1 < blk.sz := by
        by_cases e : i = i1
        · subst e; rw [if_pos rfl, if_pos hil] at hi1; injection hi1 with hi1; subst hi1
          rw [← hesz, ← h7]; exact (List.getElem?_eq_some_iff.1 hj1).1
        · rw [if_neg e] at hi1
          rw [← hsz' e1 (List.mem_of_getElem? hi1)]; exact (List.getElem?_eq_some_iff.1 hj1).1
      by_cases e : i = i1
      · subst e
        rw [if_pos rfl, if_pos hil] at hi1; injection hi1 with hi1; subst hi1
        have h11 := h8 j1 d1 hj1
        rw [hj']
        simp only [Array.length_toList, Array.getElem?_toList]
        by_cases h12 : off ≤ j1 ∧ j1 < off + v.cells.length
        · rw [if_pos h12] at h11
          rw [if_pos (by omega)]
          have hlt : j1 - off < (a.eval y).cells.size := by omega
          refine ⟨_, by rw [show i * blk.sz + j1 - (i * blk.sz + off) = j1 - off by omega]; exact Array.getElem?_eq_getElem hlt, h4 _ _ _ h11 (Array.getElem?_eq_getElem hlt)⟩
        · rw [if_neg h12] at h11
          rw [if_neg (by omega)]
          exact hrow i j1 e d1 he h11
      · rw [if_neg e] at hi1
        rw [hj', if_neg]
        · exact hrow i1 j1 e1 d1 hi1 hj1
        · simp only [Array.length_toList]
          intro hcon
          rcases Nat.lt_or_ge i i1 with h | h
          · have : (i + 1) * blk.sz ≤ i1 * blk.sz := Nat.mul_le_mul_right _ h
            rw [Nat.add_mul] at this; omega
          · have : (i1 + 1) * blk.sz ≤ i * blk.sz := Nat.mul_le_mul_right _ (by omega)
            rw [Nat.add_mul] at this; omega)
  refine ⟨undef, _, ι, .skip, ?_, .inr ⟨rfl, rfl⟩, h9, h10, .bad _⟩
  simp only [execOp, ho, hX, Instr.storeAt, Instr.sureAddr, Sem.run_bind, Sem.run_pure, Result.andThen_ok, hrun]
end
end Go.Ab
namespace Go.Ab
open Go Go.RowKit

section
variable {P : Program} {w w' : World} {w0 : Base} {O : Nat → Prop} {ι : Nat → Option Nat} {H : List ABlk} {u : Value}

def RelC (w : World) (O : Nat → Prop) (ι : Nat → Option Nat) (H : List ABlk) (cs : List AV) (arr : Array Value) : Prop :=
  arr.size = cs.length ∧ ∀ (j : Nat) (c : AV) (u : Value), cs[j]? = some c → arr[j]? = some u → VR w O ι H c u

theorem fold_set (off : Nat) : ∀ (l : List Value) (k : Nat) (cs : Array Value), off + k + l.length ≤ cs.size →
    ((l.zipIdx k).foldl (fun cs (c, j) => cs.setIfInBounds (off + j) c) cs).size = cs.size ∧
    ∀ j, ((l.zipIdx k).foldl (fun cs (c, j) => cs.setIfInBounds (off + j) c) cs)[j]? = if off + k ≤ j ∧ j < off + k + l.length then l[j - (off + k)]? else cs[j]?
  | [], k, cs, _ => ⟨rfl, fun j => by rw [if_neg (by simp)]; rfl⟩
  | v :: l, k, cs, h => by
    simp only [List.length_cons] at h
    obtain ⟨h1, h2⟩ := fold_set off l (k + 1) (cs.setIfInBounds (off + k) v) (by simp; omega)
    simp only [List.zipIdx_cons, List.foldl_cons]
    refine ⟨by rw [h1]; simp, fun j => ?_⟩
    rw [h2 j]
    by_cases e : j = off + k
    · subst e
      rw [if_neg (by omega), if_pos (by simp), Array.getElem?_setIfInBounds, if_pos rfl, if_pos (by omega)]
      simp
    · by_cases h3 : off + (k + 1) ≤ j ∧ j < off + (k + 1) + l.length
      · rw [if_pos h3, if_pos (by simp; omega), show j - (off + k) = (j - (off + (k + 1))) + 1 by omega]; rfl
      · rw [if_neg h3, if_neg (by simp; omega), Array.getElem?_setIfInBounds, if_neg (by omega)]

theorem fold_setA (off : Nat) (vs cs : Array Value) (h : off + vs.size ≤ cs.size) :
    (vs.zipIdx.foldl (fun cs (c, j) => cs.setIfInBounds (off + j) c) cs).size = cs.size ∧
    ∀ j, (vs.zipIdx.foldl (fun cs (c, j) => cs.setIfInBounds (off + j) c) cs)[j]? = if off ≤ j ∧ j < off + vs.size then vs[j - off]? else cs[j]? := by
  have := fold_set off vs.toList 0 cs (by simpa using h)
  rw [← Array.foldl_toList, Array.toList_zipIdx]
  simpa using this

def fillA (pl : List (Nat × Nat)) (cs : List AV) : List (Nat × AV) → Option (List AV)
  | [] => some cs
  | (i, v) :: r => match pl[i]? with
    | some (off, size) => if v.cells.length = size ∧ okCells v = true then match stE (.agg cs) off v.cells with
      | some (.agg cs') => fillA pl cs' r
      | _ => none else none
    | none => none

theorem fillA_run {pl : List (Nat × Nat)} {place : Nat → Option (Nat × Nat)} (hpl : ∀ i x, pl[i]? = some x → place i = some x) : ∀ (ps : List (Nat × AV)) (qs : List (Nat × Value)) (cs cs' : List AV) (arr : Array Value),
    ps.length = qs.length → (∀ (j : Nat) p q, ps[j]? = some p → qs[j]? = some q → p.1 = q.1 ∧ VR w O ι H p.2 q.2) → RelC w O ι H cs arr → fillA pl cs ps = some cs' →
    ∃ arr', Instr.fill place arr qs = some arr' ∧ RelC w O ι H cs' arr'
  | [], [], cs, cs', arr, _, _, hr, h => by
    simp only [fillA] at h; injection h with h; subst h
    exact ⟨arr, rfl, hr⟩
  | (i, v) :: ps, (i', u) :: qs, cs, cs', arr, hl, hp, hr, h => by
    obtain ⟨h1, h2⟩ := hp 0 _ _ rfl rfl
    simp only at h1 h2
    subst h1
    simp only [fillA] at h
    split at h
    · rename_i off size hpi
      split at h
      · rename_i hv
        obtain ⟨hvs, hvc⟩ := hv
        split at h
        · rename_i cs1 hst
          obtain ⟨h3, h4, _⟩ := h2.cells hvc
          obtain ⟨h5, h6, h7⟩ := stE_cells hst
          replace h5 : off + v.cells.length ≤ cs.length := h5
          replace h6 : cs1.length = cs.length := h6
          replace h7 : ∀ (j : Nat) (d : AV), cs1[j]? = some d → if off ≤ j ∧ j < off + v.cells.length then v.cells[j - off]? = some d else cs[j]? = some d := h7
          have hfit : off + u.cells.size ≤ arr.size := by rw [hr.1]; omega
          obtain ⟨h8, h9⟩ := fold_setA off u.cells arr hfit
          have hr1 : RelC w O ι H cs1 (u.cells.zipIdx.foldl (fun cs (c, j) => cs.setIfInBounds (off + j) c) arr) := by
            refine ⟨by rw [h8, hr.1, h6], fun j c x hc hx => ?_⟩
            have h10 := h7 j c hc
            rw [h9 j] at hx
            by_cases h11 : off ≤ j ∧ j < off + v.cells.length
            · rw [if_pos h11] at h10
              rw [if_pos (by omega)] at hx
              exact h4 _ _ _ h10 hx
            · rw [if_neg h11] at h10
              rw [if_neg (by omega)] at hx
              exact hr.2 _ _ _ h10 hx
          obtain ⟨arr', h12, h13⟩ := fillA_run hpl ps qs cs1 cs' _ (by simpa using hl) (fun j p q hp' hq' => hp (j + 1) p q (by simpa using hp') (by simpa using hq')) hr1 h
          refine ⟨arr', ?_, h13⟩
          rw [Instr.fill, hpl i _ hpi]
          simp only
          rw [if_neg (by simp only [Bool.or_eq_true, decide_eq_true_eq]; omega)]
          exact h12
        · cases h
      · cases h
    · cases h

def placesOf (P : Program) (t : TypeId) : Option (List (Nat × Nat)) :=
  match P.underlying t with
  | some (.struct fs) => fs.toList.mapM fun f => (szTy P f.type).map fun n => (f.offset, n)
  | _ => none

theorem places_run : ∀ (fs : List Field) (pl : List (Nat × Nat)), (fs.mapM fun f => (szTy P f.type).map fun n => (f.offset, n)) = some pl → (fs.mapM (m := Sem) fun f => do pure (f.offset, ← sizeOf f.type)).run P w = .ok pl w
  | [], pl, h => by simp at h; subst h; rfl
  | f :: fs, pl, h => by
    rw [List.mapM_cons] at h ⊢
    cases hz : szTy P f.type with
    | none => simp [hz] at h
    | some n =>
      cases hm : fs.mapM fun f => (szTy P f.type).map fun n => (f.offset, n) with
      | none => simp [hz, hm] at h
      | some pl' =>
        simp [hz, hm] at h
        subst h
        simp only [Sem.run_bind, sizeOf_run hz, Result.andThen_ok, Sem.run_pure, places_run fs pl' hm]

theorem ql_build {ρ : Operand → AV} {t : TypeId} {parts : Array (Nat × Operand)} {pl : List (Nat × Nat)} {zs cs : List AV} (hp : placesOf P t = some pl) (hz : zeroA P t = some (.agg zs))
    (h : fillA pl zs (parts.toList.map fun (i, x) => (i, ρ x)) = some cs) : QL P H ρ (.build t parts) (.agg cs) := by
  refine QL.of_run fun w0 O ι a w hs hv o ho => ?_
  obtain ⟨zv, hr, hzv⟩ := zero_run (w := w) hz
  unfold placesOf at hp
  split at hp
  · rename_i fs hu
    have h1 := places_run (P := P) (w := w) fs.toList pl hp
    have hrel : RelC w (OO O ι H) ι H zs zv.cells := by
      have hv0 := VR.cv w (OO O ι H) ι H zv
      rw [← hzv] at hv0
      obtain ⟨arr, rfl, h2, h3⟩ := hv0.agg_inv
      exact ⟨h2, h3⟩
    obtain ⟨arr', h2, h3⟩ := fillA_run (place := (pl.toArray[·]?)) (fun i x hx => by simpa using hx) (parts.toList.map fun (i, x) => (i, ρ x)) (parts.toList.map fun (i, x) => (i, a.eval x)) zs cs zv.cells (by simp)
      (fun j p q hp hq => by
        simp only [List.getElem?_map, Option.map_eq_some_iff] at hp hq
        obtain ⟨⟨i, x⟩, hx, rfl⟩ := hp
        obtain ⟨y, hy, rfl⟩ := hq
        rw [hx] at hy; injection hy with hy; subst hy
        refine ⟨rfl, hv x ?_⟩
        have : (i, x) ∈ parts := by rw [Array.getElem?_toList] at hx; exact Array.mem_of_getElem? hx
        simp only [Op.operands, List.mem_toArray, List.mem_map]
        exact ⟨(i, x), by simpa using this, rfl⟩) hrel h
    refine ⟨.agg arr', ?_, .agg _ _ h3.1 h3.2⟩
    have h4 : (Array.mapM (m := Sem) (fun f => do pure (f.offset, ← sizeOf f.type)) fs).run P w = .ok pl.toArray w := by
      rw [Array.mapM_eq_mapM_toList]
      simp only [Sem.run_map, h1, Result.andThen_ok]
    have h5 : (parts.map fun (i, x) => (i, a.eval x)).toList = parts.toList.map fun (i, x) => (i, a.eval x) := by simp
    simp only [execOp, ho, Instr.build, hr, Sem.run_bind, Result.andThen_ok, run_underlying hu, h4, h5, h2, Sem.run_pure]
  · cases hp

attribute [go_sem] fillA stE

theorem fill_row (size : Nat) : ∀ (us : List Value) (k : Nat) (arr : Array Value), (∀ u ∈ us, u.cells.size = size) → (k + us.length) * size ≤ arr.size →
    ∃ arr', Instr.fill (fun i => some (i * size, size)) arr ((us.zipIdx k).map fun (u, i) => (i, u)) = some arr' ∧ arr'.size = arr.size ∧
      (∀ j, j < k * size → arr'[j]? = arr[j]?) ∧ ∀ (i j : Nat) (u : Value), us[i]? = some u → j < size → arr'[(k + i) * size + j]? = u.cells[j]?
  | [], k, arr, _, _ => ⟨arr, rfl, rfl, fun _ _ => rfl, fun i j u h => by simp at h⟩
  | v :: us, k, arr, hs, hl => by
    have hvs : v.cells.size = size := hs v (by simp)
    simp only [List.length_cons] at hl
    have hfit : k * size + v.cells.size ≤ arr.size := by
      have : (k + 1) * size ≤ (k + (us.length + 1)) * size := Nat.mul_le_mul_right _ (by omega)
      rw [Nat.add_mul, Nat.one_mul] at this; omega
    obtain ⟨h1, h2⟩ := fold_setA (k * size) v.cells arr hfit
    obtain ⟨arr', h3, h4, h5, h6⟩ := fill_row size us (k + 1) (v.cells.zipIdx.foldl (fun cs (c, j) => cs.setIfInBounds (k * size + j) c) arr) (fun u hu => hs u (by simp [hu])) (by rw [h1, show k + 1 + us.length = k + (us.length + 1) by omega]; exact hl)
    refine ⟨arr', ?_, h4.trans h1, fun j hj => ?_, fun i j u hi hj => ?_⟩
    · simp only [List.zipIdx_cons, List.map_cons, Instr.fill]
      rw [if_neg (by simp only [Bool.or_eq_true, decide_eq_true_eq]; omega)]
      exact h3
    · have : k * size ≤ (k + 1) * size := Nat.mul_le_mul_right _ (by omega)
      rw [h5 j (by omega), h2 j, if_neg (by omega)]
    · cases i with
      | zero =>
        simp at hi; subst hi
        have hlt : k * size + j < (k + 1) * size := by rw [Nat.add_mul, Nat.one_mul]; omega
        rw [Nat.add_zero, h5 _ hlt, h2, if_pos (by omega)]
        congr 1; omega
      | succ i =>
        have := h6 i j u (by simpa using hi) hj
        rw [show k + (i + 1) = k + 1 + i by omega]
        exact this
end
end Go.Ab
namespace Go.Ab
open Go Go.RowKit

section
variable {P : Program} {w w' : World} {w0 : Base} {O : Nat → Prop} {ι : Nat → Option Nat} {H : List ABlk} {u : Value}

def litOk (size : Nat) (len : Nat) (ps : List (Nat × AV)) : Bool :=
  (ps.map (·.1) == List.range len) && ps.all fun p => p.2.cells.length == size && okCells p.2

theorem buildSlice_run {ρ : Operand → AV} {a : Act} {t el : TypeId} {len size : Nat} {parts : Array (Nat × Operand)} (hv : ∀ p ∈ parts, VR w O ι H (ρ p.2) (a.eval p.2)) (ht : P.underlying t = some (.slice el)) (hsz : szTy P el = some size)
    (hz : (zeroA P el).map (fun z => z.cells.length) = some size) (hlen : len * size ≤ 16777216)
    (hp : litOk size len (parts.toList.map fun (i, x) => (i, ρ x)) = true) :
    ∃ c : Array Value, (Instr.buildSlice t len (parts.map fun (i, x) => (i, a.eval x))).run P w = .ok (.slice (some ⟨w.heap.size, 0, none⟩) len len) (w.alloc (.cells c el)) ∧ c.size = len * size ∧ parts.size = len ∧
      ∀ (i j : Nat) (p : Nat × Operand) (d : AV), parts[i]? = some p → (ρ p.2).cells[j]? = some d → (ρ p.2).cells.length = size ∧ okCells (ρ p.2) = true ∧ ∃ u, c[i * size + j]? = some u ∧ VR w O ι H d u := by
  unfold litOk at hp
  simp only [Bool.and_eq_true, beq_iff_eq, List.map_map, List.all_map] at hp
  obtain ⟨h1, h2⟩ := hp
  have hlen' : parts.size = len := by
    have := congrArg List.length h1
    simpa using this
  have hfst : ∀ (i : Nat) p, parts[i]? = some p → p.1 = i := by
    intro i p hi
    have hil : i < parts.size := (Array.getElem?_eq_some_iff.1 hi).1
    have := congrArg (·[i]?) h1
    simp only [List.getElem?_map, Array.getElem?_toList, hi, Option.map_some, List.getElem?_range (show i < len by omega), Function.comp] at this
    injection this
  have hok : ∀ p ∈ parts, (ρ p.2).cells.length = size ∧ okCells (ρ p.2) = true := by
    intro p hp
    have := List.all_eq_true.1 h2 p (by simpa using hp)
    simpa using this
  obtain ⟨us, hus⟩ : ∃ us, us = parts.toList.map fun (i, x) => a.eval x := ⟨_, rfl⟩
  have hparts : (parts.map fun (i, x) => (i, a.eval x)).toList = us.zipIdx.map fun (u, i) => (i, u) := by
    subst hus
    apply List.ext_getElem?
    intro i
    simp only [Array.toList_map, List.getElem?_map, List.getElem?_zipIdx, Array.getElem?_toList]
    cases hi : parts[i]? with
    | none => rfl
    | some p => obtain ⟨q, x⟩ := p; simp [← hfst i _ hi]
  have hus' : ∀ u ∈ us, u.cells.size = size := by
    subst hus
    intro u hu
    obtain ⟨p, hp, rfl⟩ := List.mem_map.1 hu
    have hp' : p ∈ parts := by simpa using hp
    obtain ⟨h3, h4⟩ := hok p hp'
    rw [← h3]; exact ((hv p hp').cells h4).1
  have husl : us.length = len := by subst hus; simpa using hlen'
  cases hza : zeroA P el with
  | none => simp [hza] at hz
  | some z =>
  simp only [hza, Option.map_some, Option.some.injEq] at hz
  obtain ⟨zv, hzr, _⟩ := zero_run (P := P) (w := w) hza
  obtain ⟨zs, hzs⟩ : ∃ zs : Array Value, (len * size = 0 ∧ zs = #[]) ∨ (len * size ≠ 0 ∧ zs = zv.cells) := by
    by_cases h0 : len * size = 0
    · exact ⟨#[], .inl ⟨h0, rfl⟩⟩
    · exact ⟨zv.cells, .inr ⟨h0, rfl⟩⟩
  obtain ⟨arr', h3, h4, _, h6⟩ := fill_row size us 0 ((Array.range (len * size)).map (zs[· % zs.size]!)) hus' (by simp [husl])
  refine ⟨arr', ?_, by rw [h4]; simp, hlen', fun i j p d hi hd => ?_⟩
  · have hnot : ¬ (len * size > 2 ^ 24) := by omega
    simp only [Instr.buildSlice, run_underlying ht, Sem.run_bind, Result.andThen_ok, sizeOf_run hsz, Sem.run_ite, if_neg hnot, Sem.run_pure]
    rcases hzs with ⟨h0, rfl⟩ | ⟨h0, rfl⟩
    · rw [if_pos h0]
      simp only [hparts, h3, newRow, Sem.run_bind, run_newObj, World.alloc_eq, Sem.run_pure, Result.andThen_ok]
    · rw [if_neg h0]
      simp only [hzr, Result.andThen_ok, hparts, h3, newRow, Sem.run_bind, run_newObj, World.alloc_eq, Sem.run_pure]
  · have hp' : p ∈ parts := Array.mem_of_getElem? hi
    obtain ⟨h7, h8⟩ := hok p hp'
    obtain ⟨h9, h10, _⟩ := (hv p hp').cells h8
    have hj : j < size := by rw [← h7]; exact (List.getElem?_eq_some_iff.1 hd).1
    have hui : us[i]? = some (a.eval p.2) := by subst hus; rw [List.getElem?_map, Array.getElem?_toList, hi]; rfl
    have hjc : j < (a.eval p.2).cells.size := by omega
    refine ⟨h7, h8, _, ?_, h10 j d _ hd (Array.getElem?_eq_getElem hjc)⟩
    have := h6 i j _ hui hj
    rw [Nat.zero_add] at this
    rw [this]; exact Array.getElem?_eq_getElem hjc

theorem mem_operands_buildSlice {t : TypeId} {len : Nat} {parts : Array (Nat × Operand)} {p : Nat × Operand} (h : p ∈ parts) : p.2 ∈ (Op.buildSlice t len parts).operands := by
  simp only [Op.operands, List.mem_toArray, List.mem_map]
  exact ⟨p, by simpa using h, rfl⟩

theorem pl_buildSlice {ρ : Operand → AV} {t el : TypeId} {len size : Nat} {parts : Array (Nat × Operand)} {es : List AV} (hpos : 0 < size) (ht : P.underlying t = some (.slice el)) (hsz : szTy P el = some size) (hz : (zeroA P el).map (fun z => z.cells.length) = some size) (hlen : len * size ≤ 16777216)
    (hp : litOk size len (parts.toList.map fun (i, x) => (i, ρ x)) = true) (hes : (parts.toList.map fun (i, x) => ρ x) = es) (hle : es.length = len) (hmt : el < mapTy := by decide) :
    PL P H ρ (.buildSlice t len parts) (.own H.length len 0 len) (H ++ [⟨el, size, es⟩]) := by
  refine PL.of_run fun w0 O ι a w hs hv o ho => ?_
  obtain ⟨c, hr, hcs, hps, hc⟩ := buildSlice_run (P := P) (ρ := ρ) (a := a) (w := w) (fun p _ => hv p.2) ht hsz hz hlen hp
  have hei : ∀ (i : Nat) e, es[i]? = some e → ∃ p, parts[i]? = some p ∧ e = ρ p.2 := by
    intro i e hi
    subst hes
    rw [List.getElem?_map, Array.getElem?_toList] at hi
    cases hq : parts[i]? with
    | none => simp [hq] at hi
    | some p => simp [hq] at hi; exact ⟨p, rfl, hi.symm⟩
  have hes2 : ∀ e ∈ es, e.cells.length = size := by
    intro e he
    obtain ⟨i, hi, rfl⟩ := List.mem_iff_getElem.1 he
    obtain ⟨p, hp1, hp2⟩ := hei i _ (List.getElem?_eq_getElem hi)
    unfold litOk at hp
    simp only [Bool.and_eq_true, List.all_map] at hp
    have := List.all_eq_true.1 hp.2 p (by have := Array.mem_of_getElem? hp1; simpa using this)
    rw [hp2]
    simp at this; exact this.1
  obtain ⟨h4, h5⟩ := hs.new ⟨el, size, es⟩ c hmt w (Below.refl _ _) rfl (by simp [hcs, hle]) hes2 (fun i j e d hi hd => by
    obtain ⟨p, hp1, rfl⟩ := hei i e hi
    exact (hc i j p d hp1 hd).2.2)
  refine ⟨.slice (some ⟨w.heap.size, 0, none⟩) len len, _, _, .value _, ?_, .inl rfl, h4, h5, ?_⟩
  · simp only [execOp, ho, hr, Sem.run_bind, Result.andThen_ok, Sem.run_pure]
  · refine .own _ _ _ _ ⟨el, size, es⟩ w.heap.size _ _ _ (by simp) hle (upd_same _ _ _) rfl (by omega) (Nat.le_refl _) fun _ => ⟨by rw [Nat.zero_mul], ?_, c, el, (0, 0), heap_alloc_new w _, by rw [Nat.zero_add, hcs]⟩
    have := Nat.le_mul_of_pos_right len hpos
    simp only [maxLen]; omega

theorem ql_buildSlice {ρ : Operand → AV} {t el : TypeId} {len size : Nat} {parts : Array (Nat × Operand)} {es : List AV} (hpos : 0 < size) (ht : P.underlying t = some (.slice el)) (hsz : szTy P el = some size) (hz : (zeroA P el).map (fun z => z.cells.length) = some size) (hlen : len * size ≤ 16777216)
    (hp : litOk size len (parts.toList.map fun (i, x) => (i, ρ x)) = true) (hes : (parts.toList.map fun (i, x) => ρ x) = es) (hle : es.length = len) :
    QL P H ρ (.buildSlice t len parts) (.lst es) := by
  intro o ho w0 O ι a w hs hv K Q hK
  rw [ho] at hv
  obtain ⟨c, hr, hcs, hps, hc⟩ := buildSlice_run (P := P) (ρ := ρ) (a := a) (w := w) (fun p hp => hv p.2 (.inl (mem_operands_buildSlice hp))) ht hsz hz hlen hp
  have hei : ∀ (i : Nat) e, es[i]? = some e → ∃ p, parts[i]? = some p ∧ e = ρ p.2 := by
    intro i e hi
    subst hes
    rw [List.getElem?_map, Array.getElem?_toList] at hi
    cases hq : parts[i]? with
    | none => simp [hq] at hi
    | some p => simp [hq] at hi; exact ⟨p, rfl, hi.symm⟩
  have hes2 : ∀ e ∈ es, e.cells.length = size := by
    intro e he
    obtain ⟨i, hi, rfl⟩ := List.mem_iff_getElem.1 he
    obtain ⟨p, hp1, hp2⟩ := hei i _ (List.getElem?_eq_getElem hi)
    unfold litOk at hp
    simp only [Bool.and_eq_true, List.all_map] at hp
    have := List.all_eq_true.1 hp.2 p (by have := Array.mem_of_getElem? hp1; simpa using this)
    rw [hp2]
    simp at this; exact this.1
  have hb : Below w.heap.size w (w.alloc (.cells c el)) := (Below.refl _ _).alloc (Nat.le_refl _) _
  have g := Goes.quiet hs hb
  have hnew : ¬ OO O ι H w.heap.size := by
    rintro (h | ⟨b, hb, hx⟩)
    · have := hs.old _ h; have := hs.below.size; omega
    · have := (hs.heap b _ _ (List.getElem?_eq_getElem hb) hx).2.lt; omega
  have hrun : (execOp a.eval o).run P w = .ok (.value (.slice (some ⟨w.heap.size, 0, none⟩) len len)) (w.alloc (.cells c el)) := by
    simp only [execOp, ho, hr, Sem.run_bind, Result.andThen_ok, Sem.run_pure]
  unfold Oper.wp
  rw [hrun]
  have hat : ∀ (i j : Nat) (e d : AV), es[i]? = some e → e.cells[j]? = some d → ∃ u, (w.alloc (.cells c el)).cell? ⟨w.heap.size, 0 + i * size + j, none⟩ = some u ∧ VR (w.alloc (.cells c el)) (OO O ι H) ι H d u := by
    intro i j e d hi hd
    obtain ⟨p, hp1, rfl⟩ := hei i e hi
    obtain ⟨_, _, u, hu, hvu⟩ := hc i j p d hp1 hd
    exact ⟨u, by rw [World.cell?_alloc_new, Nat.zero_add]; exact hu, hvu.mono g⟩
  have hmaxl : len ≤ maxLen := by
    have := Nat.le_mul_of_pos_right len hpos
    simp only [maxLen]; omega
  refine hK _ _ (.lst es _ len len size (fun i j => ((w.alloc (.cells c el)).cell? ⟨w.heap.size, 0 + i * size + j, none⟩).getD undef) hle.symm (Nat.le_refl _) hmaxl hes2 (fun _ _ => rfl) (fun i j e d hi hd => ?_) fun i j e d hi hd => ?_) hb
  · obtain ⟨u, hu, _⟩ := hat i j e d hi hd
    exact ⟨hnew, by simp only [hu, Option.getD_some]⟩
  · obtain ⟨u, hu, hvu⟩ := hat i j e d hi hd
    simpa only [hu, Option.getD_some] using hvu
end
end Go.Ab
