/- Operations that make or change the function's own memory. -/
import Derived.Test.YthjeoagadjdilaaAbJ
import Derived.Maps.AppendAt
set_option linter.unusedSimpArgs false
set_option linter.unusedVariables false
namespace Go.Ab
open Go Go.RowKit
set_option linter.unusedVariables false

def isOne : AV → Bool
  | .base v => v.oneCell'
  | .lst _ | .own _ _ _ _ | .ptr _ _ _ _ | .iptr _ _ | .clo _ _ => true
  | _ => false
attribute [go_sem] isOne Value.oneCell'

section
variable {P : Program} {w w' w0 : World} {O : Nat → Prop} {ι : Nat → Option Nat} {H : List ABlk} {u : Value}

theorem VR.one {c : AV} (h : isOne c = true) (hv : VR w O ι H c u) : u.oneCell' = true ∧ u.cells = #[u] := by
  cases hv <;> first
    | (exact ⟨rfl, rfl⟩)
    | (simp [isOne] at h; done)
    | (cases u <;> simp_all [isOne, Value.oneCell', Value.cells])

/-- a value's cells -/
def okCells (v : AV) : Bool := match v with
  | .agg cs => cs.all isOne
  | v => isOne v

theorem VR.cells {v : AV} (h : okCells v = true) (hv : VR w O ι H v u) : u.cells.size = v.cells.length ∧ (∀ (j : Nat) (c : AV) (x : Value), v.cells[j]? = some c → u.cells[j]? = some x → VR w O ι H c x) ∧ ∀ x ∈ u.cells, x.oneCell' = true := by
  cases v with
  | agg cs =>
    obtain ⟨arr, rfl, h1, h2⟩ := hv.agg_inv
    refine ⟨h1, h2, fun x hx => ?_⟩
    obtain ⟨j, hj, rfl⟩ := Array.mem_iff_getElem.1 hx
    have hj' : j < cs.length := by rw [← h1]; exact hj
    have hc : cs[j]? = some cs[j] := List.getElem?_eq_getElem hj'
    have hu : arr[j]? = some arr[j] := Array.getElem?_eq_getElem hj
    exact (VR.one (List.all_eq_true.1 h _ (List.getElem_mem hj')) (h2 j _ _ hc hu)).1
  | _ =>
    obtain ⟨h1, h2⟩ := VR.one (c := _) (by simpa [okCells] using h) hv
    rw [h2]
    refine ⟨rfl, fun j c x hc hx => ?_, fun x hx => ?_⟩
    · cases j with
      | zero =>
        simp only [AV.cells, List.getElem?_cons_zero, Option.some.injEq] at hc
        simp at hx
        subst hc; subst hx; exact hv
      | succ j => simp [AV.cells] at hc
    · simp at hx; subst hx; exact h1

def upd (ι : Nat → Option Nat) (b x : Nat) : Nat → Option Nat := fun b' => if b' = b then some x else ι b'
theorem upd_same (ι : Nat → Option Nat) (b x : Nat) : upd ι b x b = some x := if_pos rfl
theorem upd_other {ι : Nat → Option Nat} {b b' x : Nat} (h : b' ≠ b) : upd ι b x b' = ι b' := if_neg h

/-- a new own block -/
theorem Sit.new (hs : Sit w0 O ι H w) (blk : ABlk) (c : Array Value) (wd : World) (hwd : Below w.heap.size w wd) (hsz : wd.heap.size = w.heap.size) (h1 : blk.es.length * blk.sz ≤ c.size) (h2 : ∀ e ∈ blk.es, e.cells.length = blk.sz)
    (h3 : ∀ (i j : Nat) (e d : AV), blk.es[i]? = some e → e.cells[j]? = some d → ∃ u, c[i * blk.sz + j]? = some u ∧ VR w (OO O ι H) ι H d u) :
    Sit w0 O (upd ι H.length w.heap.size) (H ++ [blk]) (wd.alloc (.cells c blk.ty)) ∧
    Goes w (OO O ι H) ι H (wd.alloc (.cells c blk.ty)) (OO O (upd ι H.length w.heap.size) (H ++ [blk])) (upd ι H.length w.heap.size) (H ++ [blk]) := by
  have hb : Below w.heap.size w (wd.alloc (.cells c blk.ty)) := hwd.alloc (by omega) _
  have hold : ∀ x, O x → x < w.heap.size := fun x hx => Nat.lt_of_lt_of_le (hs.old x hx) hs.below.size
  have hinv : ∀ b x, b < (H ++ [blk]).length → upd ι H.length w.heap.size b = some x → (b = H.length ∧ x = w.heap.size) ∨ (b < H.length ∧ ι b = some x) := by
    intro b x hb hx
    by_cases e : b = H.length
    · subst e; rw [upd_same] at hx; injection hx with hx; exact .inl ⟨rfl, hx.symm⟩
    · rw [upd_other e] at hx; exact .inr ⟨by simp at hb; omega, hx⟩
  have hrng : ∀ b x, b < H.length → ι b = some x → x < w.heap.size := fun b x hb hx => (hs.heap b _ x (List.getElem?_eq_getElem hb) hx).2.lt
  have g : Goes w (OO O ι H) ι H (wd.alloc (.cells c blk.ty)) (OO O (upd ι H.length w.heap.size) (H ++ [blk])) (upd ι H.length w.heap.size) (H ++ [blk]) := by
    refine ⟨fun p u _ h => by rw [hb.cell (World.block_lt_of_cell? _ _ h)]; exact h, fun p u h hc => ?_, fun b bk h => ?_, fun b x bk bk' c' ty fz h1 h2 _ hi h => ?_⟩
    · rintro (ho | ⟨b, hbl, hx⟩)
      · exact h (.inl ho)
      · rcases hinv b _ hbl hx with ⟨_, e⟩ | ⟨h4, h5⟩
        · have := World.block_lt_of_cell? _ _ hc; omega
        · exact h (.inr ⟨b, h4, h5⟩)
    · have hlt := (List.getElem?_eq_some_iff.1 h).1
      exact ⟨bk, by rw [List.getElem?_append_left hlt]; exact h, Nat.le_refl _, fun _ => ⟨rfl, upd_other (by omega)⟩⟩
    · have hlt : x < w.heap.size := hrng b x (List.getElem?_eq_some_iff.1 h1).1 hi
      exact ⟨c', ty, fz, by rw [hb.block x hlt]; exact h, rfl⟩
  refine ⟨⟨fun b bk x h hx => ?_, fun b bk h hx => ?_, fun b b' x h h' hx hx' => ?_, hs.below.trans (hb.mono hs.below.size), hs.old⟩, g⟩
  · rcases hinv b x (List.getElem?_eq_some_iff.1 h).1 hx with ⟨rfl, rfl⟩ | ⟨h4, h5⟩
    · rw [List.getElem?_append_right (Nat.le_refl _)] at h
      simp at h; subst h
      refine ⟨hs.below.size, c, ?_, h1, h2, fun i j e d he hd => ?_⟩
      · rw [← hsz]; exact heap_alloc_new wd _
      · obtain ⟨u, hu, hv⟩ := h3 i j e d he hd
        exact ⟨u, hu, hv.mono g⟩
    · rw [List.getElem?_append_left h4] at h
      obtain ⟨h6, h7⟩ := hs.heap b bk x h h5
      exact ⟨h6, h7.mono g (hb.block x h7.lt)⟩
  · by_cases e : b = H.length
    · subst e; rw [upd_same] at hx; cases hx
    · have hlt : b < H.length := by have := (List.getElem?_eq_some_iff.1 h).1; simp at this; omega
      rw [List.getElem?_append_left hlt] at h
      rw [upd_other e] at hx
      exact hs.empt b bk h hx
  · rcases hinv b x h hx with ⟨rfl, rfl⟩ | ⟨h4, h5⟩
    · rcases hinv b' _ h' hx' with ⟨rfl, _⟩ | ⟨h6, h7⟩
      · rfl
      · have := hrng b' _ h6 h7; omega
    · rcases hinv b' x h' hx' with ⟨rfl, rfl⟩ | ⟨h6, h7⟩
      · have := hrng b _ h4 h5; omega
      · exact hs.inj b b' x h4 h6 h5 h7

theorem PL.of_run {ρ : Operand → AV} {op : Op} {v : AV} {H' : List ABlk}
    (h : ∀ (w0 : World) (O : Nat → Prop) (ι : Nat → Option Nat) (a : Act) (w : World), Sit w0 O ι H w → (∀ x, VR w (OO O ι H) ι H (ρ x) (a.eval x)) → ∀ o : Oper, o.op = op →
      ∃ u w' ι' nx, (execOp a.eval o).run P w = .ok nx w' ∧ (nx = .value u ∨ (nx = .skip ∧ u = undef)) ∧ Sit w0 O ι' H' w' ∧ Goes w (OO O ι H) ι H w' (OO O ι' H') ι' H' ∧ VR w' (OO O ι' H') ι' H' v u) : PL P H ρ op v H' := by
  intro o ho w0 O ι a w hs hv K Q hK
  obtain ⟨u, w', ι', nx, hr, hnx, h1, h2, h3⟩ := h w0 O ι a w hs hv o ho
  unfold Oper.wp
  rw [hr]
  rcases hnx with rfl | ⟨rfl, rfl⟩
  · exact hK u w' ι' h1 h2 h3
  · exact hK undef w' ι' h1 h2 h3

/-- box: a variable of the function's own -/
theorem pl_box {ρ : Operand → AV} {el : TypeId} {x : Operand} {v : AV} (hx : ρ x = v) (hc : okCells v = true) : PL P H ρ (.box el x) (.ptr H.length 1 0 0) (H ++ [⟨el, v.cells.length, [v]⟩]) := by
  refine PL.of_run fun w0 O ι a w hs hv o ho => ?_
  have h1 := hv x
  rw [hx] at h1
  obtain ⟨h2, h3, _⟩ := h1.cells hc
  have hcell : ∀ (i j : Nat) (e d : AV), [v][i]? = some e → e.cells[j]? = some d → ∃ u, (a.eval x).cells[i * v.cells.length + j]? = some u ∧ VR w (OO O ι H) ι H d u := by
    intro i j e d he hd
    cases i with
    | zero =>
      simp at he; subst he
      have hj : j < (a.eval x).cells.size := by rw [h2]; exact (List.getElem?_eq_some_iff.1 hd).1
      exact ⟨_, by rw [Nat.zero_mul, Nat.zero_add]; exact Array.getElem?_eq_getElem hj, h3 j d _ hd (Array.getElem?_eq_getElem hj)⟩
    | succ i => simp at he
  obtain ⟨h4, h5⟩ := hs.new ⟨el, v.cells.length, [v]⟩ (a.eval x).cells w (Below.refl _ _) rfl (by simp [h2]) (by simp) hcell
  refine ⟨.pointer (some ⟨w.heap.size, 0, none⟩), _, _, _, ?_, .inl rfl, h4, h5, ?_⟩
  · simp only [execOp, ho, Instr.box, newVar, newRow, Sem.run_bind, run_newObj, World.alloc_eq, Sem.run_pure, Result.andThen_ok]
  · have := VR.ptr (w := w.alloc (.cells (a.eval x).cells el)) (O := OO O (upd ι H.length w.heap.size) (H ++ [⟨el, v.cells.length, [v]⟩])) (ι := upd ι H.length w.heap.size) (H := H ++ [⟨el, v.cells.length, [v]⟩])
      H.length 1 0 0 ⟨el, v.cells.length, [v]⟩ w.heap.size (by simp) rfl (upd_same _ _ _)
    simpa using this

/-- the zero value of a type -/
def zeroA (P : Program) (t : TypeId) : Option AV := ((P.info? t).bind (·.zero)).map cv

theorem zero_run {t : TypeId} {z : AV} (h : zeroA P t = some z) : ∃ zv, (zeroValue t).run P w = .ok zv w ∧ z = cv zv := by
  unfold zeroA at h
  cases hi : P.info? t with
  | none => simp [hi] at h
  | some i =>
    cases hz : i.zero with
    | none => simp [hi, hz] at h
    | some zv => simp [hi, hz] at h; exact ⟨zv, by simp [zeroValue, typeInfo, hi, hz], h.symm⟩

/-- alloc: a variable with its zero value -/
theorem pl_alloc {ρ : Operand → AV} {el : TypeId} {z : AV} (hz : zeroA P el = some z) (hc : okCells z = true) : PL P H ρ (.alloc el) (.ptr H.length 1 0 0) (H ++ [⟨el, z.cells.length, [z]⟩]) := by
  refine PL.of_run fun w0 O ι a w hs hv o ho => ?_
  obtain ⟨zv, hr, rfl⟩ := zero_run (w := w) hz
  obtain ⟨h2, h3, _⟩ := (VR.cv w (OO O ι H) ι H zv).cells hc
  have hcell : ∀ (i j : Nat) (e d : AV), [cv zv][i]? = some e → e.cells[j]? = some d → ∃ u, zv.cells[i * (cv zv).cells.length + j]? = some u ∧ VR w (OO O ι H) ι H d u := by
    intro i j e d he hd
    cases i with
    | zero =>
      simp at he; subst he
      have hj : j < zv.cells.size := by rw [h2]; exact (List.getElem?_eq_some_iff.1 hd).1
      exact ⟨_, by rw [Nat.zero_mul, Nat.zero_add]; exact Array.getElem?_eq_getElem hj, h3 j d _ hd (Array.getElem?_eq_getElem hj)⟩
    | succ i => simp at he
  obtain ⟨h4, h5⟩ := hs.new ⟨el, (cv zv).cells.length, [cv zv]⟩ zv.cells w (Below.refl _ _) rfl (by simp [h2]) (by simp) hcell
  refine ⟨.pointer (some ⟨w.heap.size, 0, none⟩), _, _, _, ?_, .inl rfl, h4, h5, ?_⟩
  · simp only [execOp, ho, Instr.alloc, newVar, newRow, hr, Sem.run_bind, run_newObj, World.alloc_eq, Sem.run_pure, Result.andThen_ok]
  · have := VR.ptr (w := w.alloc (.cells zv.cells el)) (O := OO O (upd ι H.length w.heap.size) (H ++ [⟨el, (cv zv).cells.length, [cv zv]⟩])) (ι := upd ι H.length w.heap.size) (H := H ++ [⟨el, (cv zv).cells.length, [cv zv]⟩])
      H.length 1 0 0 ⟨el, (cv zv).cells.length, [cv zv]⟩ w.heap.size (by simp) rfl (upd_same _ _ _)
    simpa using this
end
end Go.Ab
