/- Calls of functions that are known by what they give; indexes; slices. -/
import Derived.Test.YthjeoagadjdilaaAbC
set_option linter.unusedSimpArgs false
set_option linter.unusedVariables false
namespace Go.Ab
open Go Go.RowKit
set_option linter.unusedVariables false

abbrev noB : Nat → Option Nat := fun _ => none

/-- a names no memory of the function's own -/
def Pu (a : AV) : Prop := ∀ (w : World) (O : Nat → Prop) (ι : Nat → Option Nat) (H : List ABlk) (u : Value), VR w O ι H a u → VR w O noB [] a u

theorem VR.back {w : World} {O : Nat → Prop} {ι : Nat → Option Nat} {H : List ABlk} {a : AV} {u : Value} (h : VR w O noB [] a u) : VR w O ι H a u :=
  h.mono ⟨fun _ _ _ h => h, fun _ _ h _ => h, fun b blk h => by simp at h, fun b x blk blk' c ty fz h => by simp at h⟩
theorem VR.lessO {w : World} {O O' : Nat → Prop} {ι : Nat → Option Nat} {H : List ABlk} {a : AV} {u : Value} (h : VR w O ι H a u) (hO : ∀ x, O' x → O x) : VR w O' ι H a u :=
  h.mono ⟨fun _ _ _ h => h, fun _ _ h _ h' => h (hO _ h'), fun b blk h => ⟨blk, h, Nat.le_refl _, fun _ => ⟨rfl, rfl⟩⟩,
    fun b x blk blk' c ty fz _ _ _ _ h => ⟨c, ty, fz, h, rfl⟩⟩

theorem Pu.base (v : Value) : Pu (.base v) := fun w O ι H u h => by cases h; exact .base _
theorem Pu.lst {es : List AV} (h : ∀ e ∈ es, ∀ c ∈ e.cells, Pu c) : Pu (.lst es) := fun w O ι H u hu => by
  cases hu with
  | lnil => exact .lnil
  | lst es a n cap s val hn hcap hmax hlen hspot hc hv =>
    exact .lst es a n cap s val hn hcap hmax hlen hspot hc fun i j e c he hj => h e (List.mem_of_getElem? he) c (List.mem_of_getElem? hj) _ _ _ _ _ (hv i j e c he hj)
theorem Pu.agg {cs : List AV} (h : ∀ c ∈ cs, Pu c) : Pu (.agg cs) := fun w O ι H u hu => by
  cases hu with
  | agg cs arr hlen hh => exact .agg cs arr hlen fun j c u hc hu => h c (List.mem_of_getElem? hc) _ _ _ _ _ (hh j c u hc hu)
theorem Pu.tup {cs : List AV} (h : ∀ c ∈ cs, Pu c) : Pu (.tup cs) := fun w O ι H u hu => by
  cases hu with
  | tup cs arr hlen hh => exact .tup cs arr hlen fun j c u hc hu => h c (List.mem_of_getElem? hc) _ _ _ _ _ (hh j c u hc hu)
theorem Pu.clo {f : FuncId} {cs : List AV} (h : ∀ c ∈ cs, Pu c) : Pu (.clo f cs) := fun w O ι H u hu => by
  cases hu with
  | clo f cs arr hlen hh => exact .clo f cs arr hlen fun j c u hc hu => h c (List.mem_of_getElem? hc) _ _ _ _ _ (hh j c u hc hu)
theorem Pu.iptr {e : AV} {off : Nat} (h : ∀ c ∈ e.cells, Pu c) : Pu (.iptr e off) := fun w O ι H u hu => by
  cases hu with
  | iptr e off a val hs hoff hc hv => exact .iptr e off a val hs hoff hc fun j c hj => h c (List.mem_of_getElem? hj) _ _ _ _ _ (hv j c hj)

/-- what a function gives for arguments that are data -/
def Fn (P : Program) (f : FuncId) (args : List AV) (d : AV) : Prop :=
  (∃ fn, P.funcs[f]? = some fn ∧ (fn.name == "runtime.NumGoroutine") = false ∧ fn.body.isNone = false) ∧
  ∀ (w : World) (O : Nat → Prop) (vs : Array Value), (∀ x, O x → x < w.heap.size) → vs.size = args.length →
    (∀ (j : Nat) (a : AV) (u : Value), args[j]? = some a → vs[j]? = some u → VR w O noB [] a u) →
    Calls P f vs w fun e w' => ∃ v, e = .returned v ∧ VR w' O noB [] d v ∧ Below w.heap.size w w'

section
variable {P : Program} {w w' w0 : World} {O : Nat → Prop} {ι : Nat → Option Nat} {H : List ABlk} {u : Value}

/-- behind a quiet step all is kept -/
theorem Goes.quiet (hs : Sit w0 O ι H w) (hb : Below w.heap.size w w') : Goes w (OO O ι H) ι H w' (OO O ι H) ι H :=
  ⟨fun p u _ h => by rw [hb.cell (World.block_lt_of_cell? _ _ h)]; exact h, fun _ _ h _ => h,
   fun b blk h => ⟨blk, h, Nat.le_refl _, fun _ => ⟨rfl, rfl⟩⟩,
   fun b x blk blk' c ty fz h1 h2 _ hi h => by
     have hlt : x < w.heap.size := by
       rcases Nat.lt_or_ge x w.heap.size with h' | h'
       · exact h'
       · rw [Array.getElem?_eq_none h'] at h; cases h
     exact ⟨c, ty, fz, by rw [hb.block x hlt]; exact h, rfl⟩⟩

theorem BR.mono {O' : Nat → Prop} {ι' : Nat → Option Nat} {H' : List ABlk} {blk : ABlk} {x : Nat} (h : BR w O ι H blk x) (g : Goes w O ι H w' O' ι' H') (hx : w'.heap[x]? = w.heap[x]?) : BR w' O' ι' H' blk x := by
  obtain ⟨c, h1, h2, h3, h4⟩ := h.row
  exact ⟨c, hx.trans h1, h2, h3, fun i j e d he hd => by
    obtain ⟨u, hu, hv⟩ := h4 i j e d he hd
    exact ⟨u, hu, hv.mono g⟩⟩

theorem BR.lt {blk : ABlk} {x : Nat} (h : BR w O ι H blk x) : x < w.heap.size := by
  obtain ⟨c, h1, _⟩ := h.row
  rcases Nat.lt_or_ge x w.heap.size with h' | h'
  · exact h'
  · rw [Array.getElem?_eq_none h'] at h1; cases h1

theorem Sit.quiet (hs : Sit w0 O ι H w) (hb : Below w.heap.size w w') : Sit w0 O ι H w' :=
  ⟨fun b blk x h1 h2 => by
      obtain ⟨h3, h4⟩ := hs.heap b blk x h1 h2
      exact ⟨h3, h4.mono (Goes.quiet hs hb) (hb.block x h4.lt)⟩,
   hs.empt, hs.inj, hs.below.trans (hb.mono hs.below.size), hs.old⟩

theorem callFunc_run {f : FuncId} {fn : Func} (hf : P.funcs[f]? = some fn) (hn : (fn.name == "runtime.NumGoroutine") = false) (hb : fn.body.isNone = false) (args : Array Value) :
    (callFunc f args).run P w = .ok (.enter f args) w := by
  simp only [callFunc, Sem.run_bind, run_program, Result.andThen_ok, hf, hn, hb, Bool.false_eq_true, if_false, Sem.run_pure]

/-- a call of a known function, or of a closure over one -/
theorem q_call {ρ : Operand → AV} {o : Oper} {c : Call} {fx : Operand} {f : FuncId} {caps : List AV} {d : AV} (ho : o.op = .call c) (hc : c.callee = .value fx)
    (hf : ρ fx = .clo f caps) (hp : ∀ a ∈ c.args.toList.map ρ ++ caps, Pu a) (h : Fn P f (c.args.toList.map ρ ++ caps) d) : QOp P H ρ o d := by
  intro w0 O ι a w hs hv K Q hK
  obtain ⟨⟨fn, h1, h2, h3⟩, h4⟩ := h
  have hmem : ∀ y, y = fx ∨ y ∈ c.args → y ∈ o.op.operands := by
    intro y hy
    rw [ho]
    simp only [Op.operands, Call.operands, hc, Array.mem_append, List.mem_toArray, List.mem_singleton]
    exact hy
  have h5 := hv fx (hmem _ (.inl rfl))
  rw [hf] at h5
  generalize hX : a.eval fx = X at h5
  cases h5 with
  | clo f caps arr hlen hcap =>
  have hargs : ∀ (j : Nat) (x : AV) (u : Value), (c.args.toList.map ρ ++ caps)[j]? = some x → (c.args.map a.eval ++ arr)[j]? = some u → VR w (OO O ι H) ι H x u := by
    intro j x u hx hu
    rw [List.getElem?_append] at hx
    rw [Array.getElem?_append] at hu
    simp only [List.length_map, Array.length_toList, Array.size_map] at hx hu
    split at hx
    · rename_i hj
      rw [if_pos hj] at hu
      simp only [List.getElem?_map, Array.getElem?_map, Array.getElem?_toList, Option.map_eq_some_iff] at hx hu
      obtain ⟨y, hy, rfl⟩ := hx
      obtain ⟨z, hz, rfl⟩ := hu
      rw [hy] at hz; cases hz
      exact hv y (hmem _ (.inr (Array.mem_of_getElem? hy)))
    · rename_i hj
      rw [if_neg hj] at hu
      exact hcap _ _ _ hx hu
  have hrun : (execOp a.eval o).run P w = .ok (.enter f (c.args.map a.eval ++ arr)) w := by
    unfold execOp
    rw [ho]
    simp only [resolve, hc, Deferred.ofValue, hX, Sem.run_bind, Sem.run_pure, Result.andThen_ok, invoke, Array.empty_append, callFunc_run h1 h2 h3]
  unfold Oper.wp
  rw [hrun, Oper.upon_enter]
  refine (h4 w (OO O ι H) (c.args.map a.eval ++ arr) ?_ (by simp [hlen]) fun j x u hx hu => hp x (List.mem_of_getElem? hx) _ _ _ _ _ (hargs j x u hx hu)).mono ?_
  · rintro x (hx | ⟨b, hb, hx⟩)
    · exact Nat.lt_of_lt_of_le (hs.old x hx) hs.below.size
    · have hbk : H[b]? = some H[b] := List.getElem?_eq_getElem hb
      exact (hs.heap b _ x hbk hx).2.lt
  · rintro e w' ⟨v, rfl, hv', hb'⟩
    exact hK v w' hv'.back hb'
end
end Go.Ab
