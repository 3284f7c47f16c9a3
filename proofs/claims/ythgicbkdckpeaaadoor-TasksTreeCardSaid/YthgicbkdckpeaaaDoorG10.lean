/- append to nil; make; own memory lent to a function that gives a plain value. -/
import Derived.Test.YthgicbkdckpeaaaDoorG09
set_option linter.unusedSimpArgs false
set_option linter.unusedVariables false
namespace Go.Ab
open Go Go.RowKit

section
variable {P : Program} {w w' : World} {w0 : Base} {O : Nat → Prop} {ι : Nat → Option Nat} {H : List ABlk} {u : Value}

theorem Goes.trans {w1 w2 w3 : World} {O1 O2 O3 : Nat → Prop} {ι1 ι2 ι3 : Nat → Option Nat} {H1 H2 H3 : List ABlk} (g : Goes w1 O1 ι1 H1 w2 O2 ι2 H2) (k : Goes w2 O2 ι2 H2 w3 O3 ι3 H3) : Goes w1 O1 ι1 H1 w3 O3 ι3 H3 := by
  refine ⟨fun p u h hc => k.obj p u (g.outo p u h hc) (g.obj p u h hc), fun p u h hc => k.outo p u (g.outo p u h hc) (g.obj p u h hc), fun b blk h => ?_, fun b x blk blk3 c ty fz h1 h3 hl hi h => ?_⟩
  · obtain ⟨b2, h2, l2, e2⟩ := g.blk b blk h
    obtain ⟨b3, h3, l3, e3⟩ := k.blk b b2 h2
    refine ⟨b3, h3, Nat.le_trans l2 l3, fun e => ?_⟩
    obtain ⟨a1, a2⟩ := e2 (by omega)
    obtain ⟨a3, a4⟩ := e3 (by omega)
    exact ⟨a3.trans a1, a4.trans a2⟩
  · obtain ⟨b2, h2, l2, e2⟩ := g.blk b blk h1
    obtain ⟨b3, h3', l3, e3⟩ := k.blk b b2 h2
    rw [h3] at h3'; injection h3' with h3'; subst h3'
    obtain ⟨a1, a2⟩ := e2 (by omega)
    obtain ⟨c2, t2, f2, k1, k2⟩ := g.size b x blk b2 c ty fz h1 h2 (by omega) hi h
    obtain ⟨c3, t3, f3, k3, k4⟩ := k.size b x b2 blk3 c2 t2 f2 h2 h3 (by omega) (a2.trans hi) k1
    exact ⟨c3, t3, f3, k3, k4.trans k2⟩

theorem Sit.nil (hs : Sit w0 O ι H w) (ty sz : Nat) : ∃ ι2, Sit w0 O ι2 (H ++ [⟨ty, sz, []⟩]) w ∧ Goes w (OO O ι H) ι H w (OO O ι2 (H ++ [⟨ty, sz, []⟩])) ι2 (H ++ [⟨ty, sz, []⟩]) ∧ ι2 H.length = none := by
  let ι2 : Nat → Option Nat := fun b => if b = H.length then none else ι b
  have hlt : ∀ b blk, H[b]? = some blk → (H ++ [⟨ty, sz, []⟩])[b]? = some blk ∧ ι2 b = ι b := fun b blk hb => by
    have : b < H.length := (List.getElem?_eq_some_iff.1 hb).1
    exact ⟨by rw [List.getElem?_append_left this]; exact hb, if_neg (by omega)⟩
  have hinv : ∀ b x, b < (H ++ [(⟨ty, sz, []⟩ : ABlk)]).length → ι2 b = some x → b < H.length ∧ ι b = some x := fun b x hb hx => by
    simp only [List.length_append, List.length_singleton] at hb
    by_cases e : b = H.length
    · simp [ι2, e] at hx
    · exact ⟨by omega, by simpa [ι2, e] using hx⟩
  have hOO : ∀ x, OO O ι2 (H ++ [⟨ty, sz, []⟩]) x → OO O ι H x := by
    rintro x (h | ⟨b, hb, hx⟩)
    · exact .inl h
    · obtain ⟨h1, h2⟩ := hinv b x hb hx; exact .inr ⟨b, h1, h2⟩
  have g : Goes w (OO O ι H) ι H w (OO O ι2 (H ++ [⟨ty, sz, []⟩])) ι2 (H ++ [⟨ty, sz, []⟩]) :=
    ⟨fun _ _ _ h => h, fun _ _ h _ h' => h (hOO _ h'), fun b blk hb => ⟨blk, (hlt b blk hb).1, Nat.le_refl _, fun _ => ⟨rfl, (hlt b blk hb).2⟩⟩,
     fun b x blk blk' c ty fz _ _ _ _ h => ⟨c, ty, fz, h, rfl⟩⟩
  have hinv2 : ∀ b blk x, (H ++ [(⟨ty, sz, []⟩ : ABlk)])[b]? = some blk → ι2 b = some x → H[b]? = some blk ∧ ι b = some x := fun b blk x hb hx => by
    obtain ⟨h1, h2⟩ := hinv b x (List.getElem?_eq_some_iff.1 hb).1 hx
    rw [List.getElem?_append_left h1] at hb
    exact ⟨hb, h2⟩
  refine ⟨ι2, ⟨fun b blk x hb hx => ?_, fun b blk hb hx => ?_, fun b b' x hb hb' hx hx' => ?_, hs.below, hs.old, fun x b hO hb hx => ?_, hs.hist.trans g.grow⟩, g, if_pos rfl⟩
  · obtain ⟨h1, h2⟩ := hinv2 b blk x hb hx
    obtain ⟨h3, h4⟩ := hs.heap b blk x h1 h2
    exact ⟨h3, h4.mono g rfl⟩
  · by_cases e : b < H.length
    · rw [List.getElem?_append_left e] at hb
      exact hs.empt b blk hb (by rw [← (hlt b blk hb).2]; exact hx)
    · rw [List.getElem?_append_right (by omega)] at hb
      cases hd : b - H.length with
      | zero => rw [hd] at hb; simp at hb; subst hb; rfl
      | succ m => rw [hd] at hb; simp at hb
  · obtain ⟨h1, h2⟩ := hinv b x hb hx
    obtain ⟨h3, h4⟩ := hinv b' x hb' hx'
    exact hs.inj b b' x h1 h3 h2 h4
  · obtain ⟨h1, h2⟩ := hinv b x hb hx
    exact hs.disj x b hO h1 h2

theorem append_none_run {t ty el : TypeId} {size bytes : Nat} (ht : P.underlying t = some (.slice el)) (hel : elI P el size bytes = true) {X : Value} (hX : VR w O ι H (.lst []) X) :
    (Builtin.append_ #[t, t] ty #[.slice none 0 0, X]).run P w = .ok (.slice none 0 0) w := by
  obtain ⟨i0, z, h1, h2, h3, h4, h5, h6, _⟩ := elI_inv hel
  cases hX with
  | lnil => simp [Builtin.append_, run_underlying ht, sizeOf, typeInfo, h1, Builtin.lenOf, Builtin.firstCells]
  | lst es a n cap s val hn hcap hmax hlen hspot hc hv =>
    simp at hn; subst hn
    simp [Builtin.append_, run_underlying ht, sizeOf, typeInfo, h1, Builtin.lenOf, Builtin.firstCells, loadCells, loadCellsFrom]

theorem pl_append_nil {ρ : Operand → AV} {s x : Operand} {t el : TypeId} {size bytes : Nat} {es : List AV} (hsv : ρ s = .base (.slice none 0 0)) (hx : ρ x = .lst es)
    (ht : P.underlying t = some (.slice el)) (hel : elI P el size bytes = true) (hes : ∀ e ∈ es, e.cells.length = size ∧ okCells e = true) (hbd : es.length * bytes ≤ 140737488355328) (h63 : es.length ≤ 140737488355328) :
    PL P H ρ (.call { callee := .builtin .append, args := #[s, x], argTypes := #[t, t] }) (.own H.length es.length 0 es.length) (H ++ [⟨el, size, es⟩]) := by
  refine PL.of_run fun w0 O ι a w hs hv o ho => ?_
  have h1 := hv s; rw [hsv] at h1
  have h1 := h1.base_inv
  have h2 := hv x; rw [hx] at h2
  obtain ⟨ι2, s2, g2, hn⟩ := hs.nil el size
  obtain ⟨hpos, hmt⟩ : 0 < size ∧ el < mapTy := by obtain ⟨_, _, _, _, _, _, _, h⟩ := elI_inv hel; exact h
  have hgetH : (H ++ [(⟨el, size, []⟩ : ABlk)])[H.length]? = some ⟨el, size, []⟩ := by simp
  rcases Nat.eq_zero_or_pos es.length with h0 | hm
  · have : es = [] := List.eq_nil_of_length_eq_zero h0
    subst this
    have hr := append_none_run (P := P) (ty := o.type) ht hel h2
    rw [← h1] at hr
    exact ⟨.slice none 0 0, w, ι2, _, by rw [append_exec (ρ := ρ) ho hr, h1], .inl rfl, s2, g2, .ownNil _ ⟨el, size, []⟩ hgetH rfl hn⟩
  · have hvn : VR w (OO O ι2 (H ++ [⟨el, size, []⟩])) ι2 (H ++ [⟨el, size, []⟩]) (.own H.length 0 0 0) (.slice none 0 0) := .ownNil _ ⟨el, size, []⟩ hgetH rfl hn
    obtain ⟨xs, k1, k2, k3, _⟩ := own_row s2 hgetH rfl hvn hpos hmt
    obtain ⟨v', w', news, r1, r2, r3, r4, r5, r6, r7⟩ := append_core (P := P) (ty := o.type) ht hel k1 (Nat.zero_le _) (h2.mono g2) hm hes (by show (0 + es.length) * bytes ≤ _; rw [Nat.zero_add]; exact hbd) (by show 0 + es.length ≤ _; simp only [maxLen]; omega)
    obtain ⟨ι', g3, g4, g5⟩ := s2.grow (m := 0) hgetH rfl hmt hm (fun e he => (hes e he).1) k2 k1.1 k3 r7 (by simp) r2 r3 r4
    have hset : (H ++ [(⟨el, size, []⟩ : ABlk)]).set H.length { (⟨el, size, []⟩ : ABlk) with es := [] ++ es } = H ++ [⟨el, size, es⟩] := by simp
    simp only at hset
    rw [hset] at g3 g4 g5
    replace g5 : VR w' _ ι' _ (.own H.length (0 + es.length) 0 (0 + es.length)) v' := g5
    rw [Nat.zero_add] at g5
    rw [← h1] at r1
    exact ⟨v', w', ι', _, append_exec (ρ := ρ) ho r1, .inl rfl, g3, g2.trans g4, g5⟩

theorem pl_make {ρ : Operand → AV} {t el : TypeId} {l c : Operand} {k k' : IntKind} {n m : Int} {z : AV} {size bytes : Nat} (hl : ρ l = .base (.int k n)) (hc : ρ c = .base (.int k' m)) (ht : P.underlying t = some (.slice el)) (hel : elI P el size bytes = true)
    (hz : zeroA P el = some z) (hzc : okCells z = true) (h0 : 0 ≤ n) (hnm : n ≤ m) (hbd : m * bytes ≤ 140737488355328) (hm : m ≤ 140737488355328) :
    PL P H ρ (.makeSlice t l c) (.own H.length n.toNat 0 n.toNat) (H ++ [⟨el, size, List.replicate n.toNat z⟩]) := by
  refine PL.of_run fun w0 O ι a w hs hv o ho => ?_
  have h1 := hv l; rw [hl] at h1
  have h1 := h1.base_inv
  have h2 := hv c; rw [hc] at h2
  have h2 := h2.base_inv
  obtain ⟨i0, zv', k1, k2, k3, k4, k5, k6, hmt⟩ := elI_inv hel
  obtain ⟨zv, hzr, rfl⟩ := zero_run (w := w) hz
  have hzz : zv = zv' := by
    have : (zeroValue el).run P w = .ok zv' w := by simp [zeroValue, typeInfo, k1, k2]
    rw [hzr] at this; injection this
  subst hzz
  obtain ⟨zs, hzs⟩ : ∃ zs : Array Value, (m.toNat * size = 0 ∧ zs = #[]) ∨ (m.toNat * size ≠ 0 ∧ zs = zv.cells) := by
    by_cases h0 : m.toNat * size = 0
    · exact ⟨#[], .inl ⟨h0, rfl⟩⟩
    · exact ⟨zv.cells, .inr ⟨h0, rfl⟩⟩
  obtain ⟨arr, harr⟩ : ∃ arr : Array Value, arr = (Array.range (m.toNat * size)).map (zs[· % zs.size]!) := ⟨_, rfl⟩
  have hrun : (Instr.makeSlice t (.int k n) (.int k' m)).run P w = .ok (.slice (some ⟨w.heap.size, 0, none⟩) n.toNat m.toNat) (w.alloc (.cells arr el)) := by
    have hw1 : IntKind.i64.wrap n = n := wrap_id (by omega) (by omega)
    have hw2 : IntKind.i64.wrap m = m := wrap_id (by omega) (by omega)
    have hcm : (bytes : Int) * m = m * bytes := Int.mul_comm _ _
    have hf1 : ((decide (m < 0) || decide ((bytes : Int) * m > 2 ^ 48)) || decide (n < 0) || decide (n > m)) = false := by
      simp only [Bool.or_eq_false_iff, decide_eq_false_iff_not]
      refine ⟨⟨⟨by omega, by rw [hcm]; omega⟩, by omega⟩, by omega⟩
    unfold Instr.makeSlice
    simp only [Sem.run_bind, run_underlying ht, Result.andThen_ok, asInt, asIntOf_run, Sem.run_pure, typeInfo, run_program, k1, hw1, hw2, k4]
    simp only [hf1, Bool.false_eq_true, if_false, Sem.run_bind, Sem.run_pure, Result.andThen_ok, run_askRoom, sizeOf, typeInfo, run_program, k1, k3]
    rcases hzs with ⟨e0, rfl⟩ | ⟨e0, rfl⟩
    · rw [if_pos e0]
      simp only [Sem.run_pure, Result.andThen_ok, newRow, Sem.run_bind, run_newObj, World.alloc_eq, harr]
    · rw [if_neg e0]
      simp only [Sem.run_bind, hzr, Sem.run_pure, Result.andThen_ok, newRow, run_newObj, World.alloc_eq, harr]
  obtain ⟨c1, c2, _⟩ := (VR.cv w (OO O ι H) ι H zv).cells hzc
  have hcell : ∀ (i j : Nat) (e d : AV), (List.replicate n.toNat (cv zv))[i]? = some e → e.cells[j]? = some d → ∃ u, arr[i * size + j]? = some u ∧ VR w (OO O ι H) ι H d u := by
    intro i j e d he hd
    rw [List.getElem?_replicate] at he
    split at he
    · rename_i hi
      injection he with he; subst he
      have hj : j < size := by rw [← k5, c1]; exact (List.getElem?_eq_some_iff.1 hd).1
      have hq : i * size + j < m.toNat * size := mul_lt_of (by omega) hj
      have hjz : j < zv.cells.size := by omega
      rcases hzs with ⟨e0, _⟩ | ⟨e0, rfl⟩
      · omega
      · refine ⟨zv.cells[j], ?_, c2 j d _ hd (Array.getElem?_eq_getElem hjz)⟩
        subst harr
        rw [Array.getElem?_map, Array.getElem?_eq_getElem (by simpa using hq)]
        obtain ⟨_, e2⟩ := div_of (i := i) hj
        simp only [Option.map_some, Array.getElem_range, k5, e2]
        rw [getElem!_pos zv.cells j hjz]
    · cases he
  have hlen : ∀ e ∈ List.replicate n.toNat (cv zv), e.cells.length = size := by
    intro e he
    rw [(List.mem_replicate.1 he).2, ← c1]; exact k5
  obtain ⟨h4, h5⟩ := hs.new ⟨el, size, List.replicate n.toNat (cv zv)⟩ arr hmt w (Below.refl _ _) rfl (by simp only [List.length_replicate, harr, Array.size_map, Array.size_range]; exact Nat.mul_le_mul_right _ (by omega)) hlen hcell
  refine ⟨.slice (some ⟨w.heap.size, 0, none⟩) n.toNat m.toNat, _, _, .value _, ?_, .inl rfl, h4, h5, ?_⟩
  · simp only [execOp, ho, h1, h2, hrun, Sem.run_bind, Result.andThen_ok, Sem.run_pure]
  · refine .own _ _ _ _ ⟨el, size, List.replicate n.toNat (cv zv)⟩ w.heap.size _ _ _ (by simp) (by simp) (upd_same _ _ _) rfl (by omega) (by omega) fun _ => ⟨by rw [Nat.zero_mul], by simp only [maxLen]; omega, arr, el, (0, 0), heap_alloc_new w _, by simp [harr]⟩

def Lend (H : List ABlk) (a b : AV) : Prop := ∀ (w0 : Base) (w : World) (O : Nat → Prop) (ι : Nat → Option Nat) (u : Value), Sit w0 O ι H w → VR w (OO O ι H) ι H a u → VR w (fun _ => False) noB [] b u

theorem Lend.pu {a : AV} (h : Pu a) : Lend H a a := fun w0 w O ι u hs hu => (h _ _ _ _ _ hu).lessO fun _ hx => hx.elim
theorem Lend.agg {cs ds : List AV} (hl : cs.length = ds.length) (h : ∀ (j : Nat) (c d : AV), cs[j]? = some c → ds[j]? = some d → Lend H c d) : Lend H (.agg cs) (.agg ds) := fun w0 w O ι u hs hu => by
  obtain ⟨arr, rfl, h1, h2⟩ := hu.agg_inv
  refine .agg ds arr (h1.trans hl) fun j d u hd hu => ?_
  have hj : j < cs.length := by rw [hl]; exact (List.getElem?_eq_some_iff.1 hd).1
  exact h j _ d (List.getElem?_eq_getElem hj) hd w0 w O ι u hs (h2 j _ u (List.getElem?_eq_getElem hj) hu)
theorem Lend.nilS : Lend H (.base (.slice none 0 0)) (.lst []) := fun w0 w O ι u hs hu => by
  have := hu.base_inv; subst this; exact .lnil

theorem Lend.own {b tot off len : Nat} {blk : ABlk} {ds : List AV} (h1 : H[b]? = some blk) (ht : blk.es.length = tot) (hl : off + len ≤ tot) (hdl : ds.length = len)
    (hd : ∀ (i : Nat) (e d : AV), i < len → blk.es[off + i]? = some e → ds[i]? = some d → e.cells.length = d.cells.length ∧ ∀ (j : Nat) (c c' : AV), e.cells[j]? = some c → d.cells[j]? = some c' → Lend H c c') :
    Lend H (.own b tot off len) (.lst ds) := fun w0 w O ι u hs hu => by
  cases hu with
  | staleOwn b tot off len blk' a n c h1' h2 => rw [h1] at h1'; cases h1'; omega
  | ownNil b blk' h1' he hi =>
    have : ds = [] := List.eq_nil_of_length_eq_zero hdl
    subst this; exact .lnil
  | own b tot off len blk' x n cap a h1' ht' hi hn hl' hcap ha =>
    rw [h1] at h1'; cases h1'
    obtain ⟨hx0, c0, hc, hcs, hsz, hel⟩ := hs.heap b blk x h1 hi
    rcases Nat.eq_zero_or_pos len with h0 | hpos
    · have : ds = [] := List.eq_nil_of_length_eq_zero (by omega)
      subst this
      exact .lst [] a n cap 0 (fun _ _ => undef) (by simp; omega) (by omega) (by have : 0 ≤ maxLen := Nat.zero_le _; omega) (by simp) (by simp) (by simp) (by simp)
    · obtain ⟨rfl, hmx, c1, ty, fz, hc1, hc2⟩ := ha (.inl (by omega))
      have hat : ∀ (i j : Nat) (d c : AV), ds[i]? = some d → d.cells[j]? = some c → ∃ u, w.cell? ⟨x, off * blk.sz + i * blk.sz + j, none⟩ = some u ∧ VR w (fun _ => False) noB [] c u := by
        intro i j d c hdi hcj
        have hil : i < len := by rw [← hdl]; exact (List.getElem?_eq_some_iff.1 hdi).1
        have hei : blk.es[off + i]? = some (blk.es[off + i]'(by omega)) := List.getElem?_eq_getElem (by omega)
        obtain ⟨h3, h4⟩ := hd i _ d hil hei hdi
        have hcj' : j < (blk.es[off + i]'(by omega)).cells.length := by rw [h3]; exact (List.getElem?_eq_some_iff.1 hcj).1
        obtain ⟨u, hu, hv⟩ := hel (off + i) j _ _ hei (List.getElem?_eq_getElem hcj')
        obtain ⟨ty3, fz3, hc⟩ := rowAt_el hc ⟨c1, ty, fz, hc1⟩
        refine ⟨u, ?_, h4 j _ c (List.getElem?_eq_getElem hcj') hcj w0 w O ι u hs hv⟩
        rw [← Nat.add_mul]
        simpa [World.cell?, hc] using hu
      have hsize : ∀ d ∈ ds, d.cells.length = blk.sz := by
        intro d hdm
        obtain ⟨i, hi', hdi⟩ := List.mem_iff_getElem.1 hdm
        have hdi' : ds[i]? = some d := by rw [List.getElem?_eq_getElem hi', hdi]
        have hei : blk.es[off + i]? = some (blk.es[off + i]'(by omega)) := List.getElem?_eq_getElem (by omega)
        obtain ⟨h3, _⟩ := hd i _ d (by omega) hei hdi'
        rw [← h3]
        exact hsz _ (List.getElem_mem _)
      exact .lst ds _ n cap blk.sz (fun i j => (w.cell? ⟨x, off * blk.sz + i * blk.sz + j, none⟩).getD undef) (by omega) (by omega) (by omega) hsize (fun _ _ => rfl)
        (fun i j d c hdi hcj => by obtain ⟨u, hu, _⟩ := hat i j d c hdi hcj; exact ⟨fun h => h, by simp only [hu, Option.getD_some]⟩)
        (fun i j d c hdi hcj => by obtain ⟨u, hu, hv⟩ := hat i j d c hdi hcj; simpa only [hu, Option.getD_some] using hv)

theorem Lend.ptr {b tot i off : Nat} {blk : ABlk} {e d : AV} (h1 : H[b]? = some blk) (ht : blk.es.length = tot) (he : blk.es[i]? = some e)
    (hl : e.cells.length = d.cells.length) (h : ∀ (j : Nat) (c c' : AV), e.cells[j]? = some c → d.cells[j]? = some c' → Lend H c c') : Lend H (.ptr b tot i off) (.iptr d off) := fun w0 w O ι u hs hu => by
  obtain ⟨x, hi, rfl, hel⟩ := hu.ptr_inv hs h1 ht he
  have hat : ∀ (j : Nat) (c : AV), d.cells[j]? = some c → ∃ u, w.cell? ⟨x, i * blk.sz + j, none⟩ = some u ∧ VR w (fun _ => False) noB [] c u := by
    intro j c hj
    have hj' : j < e.cells.length := by rw [hl]; exact (List.getElem?_eq_some_iff.1 hj).1
    obtain ⟨u, hu, hv⟩ := hel j _ (List.getElem?_eq_getElem hj')
    exact ⟨u, hu, h j _ c (List.getElem?_eq_getElem hj') hj w0 w O ι u hs hv⟩
  refine .iptr d off ⟨x, i * blk.sz + off, none⟩ (fun j => (w.cell? ⟨x, i * blk.sz + j, none⟩).getD undef) rfl (by simp) (fun j c hj => ?_) fun j c hj => ?_
  · obtain ⟨u, hu, _⟩ := hat j c hj
    exact ⟨fun h => h, by simp only [Nat.add_sub_cancel]; rw [hu]; rfl⟩
  · obtain ⟨u, hu, hv⟩ := hat j c hj
    simpa only [hu, Option.getD_some] using hv

def Sc (d : AV) : Prop := ∀ (w w' : World) (O O' : Nat → Prop) (ι : Nat → Option Nat) (H : List ABlk) (u : Value), VR w O noB [] d u → VR w' O' ι H d u
theorem Sc.base (v : Value) : Sc (.base v) := fun _ _ _ _ _ _ _ h => by cases h; exact .base _
theorem Sc.tup {cs : List AV} (h : ∀ c ∈ cs, Sc c) : Sc (.tup cs) := fun w w' O O' ι H u hu => by
  cases hu with
  | tup cs arr hlen hh => exact .tup cs arr hlen fun j c u hc hu => h c (List.mem_of_getElem? hc) _ _ _ _ _ _ _ (hh j c u hc hu)
theorem Sc.agg {cs : List AV} (h : ∀ c ∈ cs, Sc c) : Sc (.agg cs) := fun w w' O O' ι H u hu => by
  cases hu with
  | agg cs arr hlen hh => exact .agg cs arr hlen fun j c u hc hu => h c (List.mem_of_getElem? hc) _ _ _ _ _ _ _ (hh j c u hc hu)

theorem ql_callL {ρ : Operand → AV} {c : Call} {fx : Operand} {f : FuncId} {caps args : List AV} {d : AV} (hc : c.callee = .value fx)
    (hf : ρ fx = .clo f caps) (hl : (c.args.toList.map ρ ++ caps).length = args.length) (hp : ∀ (j : Nat) (a b : AV), (c.args.toList.map ρ ++ caps)[j]? = some a → args[j]? = some b → Lend H a b) (hd : Sc d) {m : List (Nat × Obj)} (h : FnM P m f args d) (hm : MemIn m ρ := by exact .inl rfl) : QL P H ρ (.call c) d := by
  intro o ho w0 O ι a w hs hv K Q hK
  rw [ho] at hv
  obtain ⟨⟨fn, h1, h2, h3⟩, h4⟩ := h
  have hmem : ∀ y, y = fx ∨ y ∈ c.args → y ∈ (Op.call c).operands := by
    intro y hy
    simp only [Op.operands, Call.operands, hc, Array.mem_append, List.mem_toArray, List.mem_singleton]
    exact hy
  have h5 := hv fx (.inl (hmem _ (.inl rfl)))
  rw [hf] at h5
  generalize hX : a.eval fx = X at h5
  cases h5 with
  | clo f caps arr hlen hcap =>
  have hargs : ∀ (j : Nat) (x : AV) (u : Value), (c.args.toList.map ρ ++ caps)[j]? = some x → (c.args.map a.eval ++ arr)[j]? = some u → VR w (OO O ι H) ι H x u := by
    intro j x u hx hu
    rw [List.getElem?_append] at hx
    rw [Array.getElem?_append] at hu
    simp only [List.length_map, Array.length_toList, Array.size_map] at hx hu
    split at hx
    · rename_i hj
      rw [if_pos hj] at hu
      simp only [List.getElem?_map, Array.getElem?_map, Array.getElem?_toList, Option.map_eq_some_iff] at hx hu
      obtain ⟨y, hy, rfl⟩ := hx
      obtain ⟨z, hz, rfl⟩ := hu
      rw [hy] at hz; cases hz
      exact hv y (.inl (hmem _ (.inr (Array.mem_of_getElem? hy))))
    · rename_i hj
      rw [if_neg hj] at hu
      exact hcap _ _ _ hx hu
  have hrun : (execOp a.eval o).run P w = .ok (.enter f (c.args.map a.eval ++ arr)) w := by
    unfold execOp
    rw [ho]
    simp only [resolve, hc, Deferred.ofValue, hX, Sem.run_bind, Sem.run_pure, Result.andThen_ok, invoke, Array.empty_append, callFunc_run h1 h2 h3]
  unfold Oper.wp
  rw [hrun, Oper.upon_enter]
  have hsl : (c.args.map a.eval ++ arr).size = (c.args.toList.map ρ ++ caps).length := by simp [hlen]
  refine (h4 w (fun _ => False) (c.args.map a.eval ++ arr) (fun p hp => ⟨id, (hm.get (hv _ (.inr rfl)) p hp).2⟩) (fun _ h => h.elim) (hsl.trans hl) fun j x u hx hu => ?_).mono ?_
  · have hj : j < (c.args.toList.map ρ ++ caps).length := by rw [hl]; exact (List.getElem?_eq_some_iff.1 hx).1
    have hy := List.getElem?_eq_getElem hj
    exact hp j _ x hy hx w0 w O ι u hs (hargs j _ u hy hu)
  · rintro e w' ⟨v, rfl, hv', hb'⟩
    exact hK v w' (hd _ _ _ _ _ _ _ hv') hb'
end
end Go.Ab
