/- Strings and own bytes: appended, frozen; pointers compared and turned. -/
import Derived.Lib.AppendStr
import Derived.Lib.UnsafeStr
import Derived.Lib.Builder
import Derived.Laws.Pointers
import Derived.Test.YtjfahhbobiiphaaAbI
import Derived.Test.YtjfahhbobiiphaaAbF
set_option linter.unusedSimpArgs false
set_option linter.unusedVariables false
namespace Go.Ab
open Go Go.RowKit

abbrev AV.u8 (c : UInt8) : AV := .base (.int .u8 c.toNat)

section
variable {P : Program} {w w' : World} {w0 : Base} {O : Nat → Prop} {ι : Nat → Option Nat} {H : List ABlk} {u : Value}

theorem szTy_inv {t : TypeId} {n : Nat} (h : szTy P t = some n) : ∃ j, P.info? t = some j ∧ j.size = n := by
  unfold szTy at h
  cases hq : P.info? t with
  | none => simp [hq] at h
  | some j => simp [hq] at h; exact ⟨j, rfl, h⟩
theorem ql_ptrNil {ρ : Operand → AV} {t te yt : TypeId} {x y : Operand} {b tot i off : Nat} (hx : ρ x = .ptr b tot i off) (hf : fresh H b tot = true) (hy : ρ y = .base (.pointer none)) (ht : P.underlying t = some (.pointer te)) : QL P H ρ (.binOp .eql t x y yt) (.bool false) := by
  refine QL.of_run fun w0 O ι A w hs hv o ho => ?_
  have h1 := hv x (by simp [Op.operands]); rw [hx] at h1
  have h2 := hv y (by simp [Op.operands]); rw [hy] at h2
  have h2 := h2.base_inv
  obtain ⟨z, blk, hi, hb, hbt, h3, hcx⟩ := h1.ptr_fresh hf
  have hp : P.pointee t = te := by simp [Program.pointee, ht]
  have he := run_equal_pointer_nil (P := P) w t (some ⟨z, i * blk.sz + off, none⟩) (by rw [hp]; exact ht)
  have hg : (eqGuard .eql t x y (.pointer (some ⟨z, i * blk.sz + off, none⟩)) (.pointer none)).run P w = .ok () w := eqGuard_run (by simp) (by simp)
  refine ⟨.bool false, ?_, .base _⟩
  simp only [execOp, ho, h3, h2, Sem.run_bind, hg, Result.andThen_ok, binOp, he, Sem.run_pure]
  rfl
theorem ql_nilNil {ρ : Operand → AV} {t te yt : TypeId} {x y : Operand} (hx : ρ x = .base (.pointer none)) (hy : ρ y = .base (.pointer none)) (ht : P.underlying t = some (.pointer te)) : QL P H ρ (.binOp .eql t x y yt) (.bool true) := by
  refine QL.of_run fun w0 O ι A w hs hv o ho => ?_
  have h1 := hv x (by simp [Op.operands]); rw [hx] at h1
  have h1 := h1.base_inv
  have h2 := hv y (by simp [Op.operands]); rw [hy] at h2
  have h2 := h2.base_inv
  have hp : P.pointee t = te := by simp [Program.pointee, ht]
  have he := run_equal_pointer_nil (P := P) w t none (by rw [hp]; exact ht)
  have hg : (eqGuard .eql t x y (.pointer none) (.pointer none)).run P w = .ok () w := eqGuard_run (by simp) (by simp)
  refine ⟨.bool true, ?_, .base _⟩
  simp only [execOp, ho, h1, h2, Sem.run_bind, hg, Result.andThen_ok, binOp, he, Sem.run_pure]
  rfl
theorem ql_ptrNeSame {ρ : Operand → AV} {t te yt : TypeId} {n : Nat} {x y : Operand} {b tot i off : Nat} (hx : ρ x = .ptr b tot i off) (hy : ρ y = .ptr b tot i off) (hf : fresh H b tot = true) (ht : P.underlying t = some (.pointer te)) (hj : szTy P te = some n) : QL P H ρ (.binOp .neq t x y yt) (.bool false) := by
  obtain ⟨j, hj, _⟩ := szTy_inv hj
  refine QL.of_run fun w0 O ι A w hs hv o ho => ?_
  have h1 := hv x (by simp [Op.operands]); rw [hx] at h1
  have h2 := hv y (by simp [Op.operands]); rw [hy] at h2
  obtain ⟨z, blk, hi, hb, hbt, h3, hcx⟩ := h1.ptr_fresh hf
  obtain ⟨z2, blk2, hi2, hb2, _, h4, _⟩ := h2.ptr_fresh hf
  rw [hi] at hi2; injection hi2 with hi2; subst hi2
  rw [hb] at hb2; injection hb2 with hb2; subst hb2
  have hg : (eqGuard .neq t x y (.pointer (some ⟨z, i * blk.sz + off, none⟩)) (.pointer (some ⟨z, i * blk.sz + off, none⟩))).run P w = .ok () w := eqGuard_run (by simp) (by simp)
  refine ⟨.bool false, ?_, .base _⟩
  simp only [execOp, ho, h3, h4, Sem.run_bind, hg, Result.andThen_ok, Lib.run_neq_ptr_same w _ ht hj, Sem.run_pure]
theorem ql_toUnsafe {ρ : Operand → AV} {s d te : TypeId} {n : Nat} {x : Operand} {b tot off : Nat} {ty sz : Nat} {e : AV} (hx : ρ x = .ptr b tot 0 off) (hb : H[b]? = some ⟨ty, sz, [e]⟩) (htot : tot = 1) (hoff : off < sz) (hs : P.underlying s = some (.pointer te)) (hd : P.underlying d = some .unsafePointer)
    (hj : szTy P te = some (n + 1)) (hmt : ty < mapTy := by decide) : QL P H ρ (.convert s d x) (.ptr b tot 0 off) := by
  obtain ⟨j, hj, hj0⟩ := szTy_inv hj
  replace hj0 : j.size ≠ 0 := by omega
  refine QL.of_run fun w0 O ι A w hsit hv o ho => ?_
  have h1 := hv x (by simp [Op.operands]); rw [hx] at h1
  obtain ⟨z, blk, hi, hb', hbt, h3, hcx⟩ := h1.ptr_fresh (by simp [fresh, hb, htot])
  rw [hb] at hb'; injection hb' with hb'; subst hb'
  obtain ⟨_, c, hcz, hcl, _, _⟩ := hsit.heap b _ z hb hi
  have hcz := rowAt_inv hcz hcx hmt
  simp at hcl hcz
  rw [h3] at h1
  refine ⟨_, ?_, h1⟩
  simp only [execOp, ho, h3, Sem.run_bind, Sem.run_pure, Result.andThen_ok, Nat.zero_mul, Nat.zero_add, Lib.run_to_unsafe w ⟨z, off, none⟩ hs hd hj hj0 (e := ty) (cells := c.size) (by simp [World.shape?, hcz]) (by show off < c.size; omega)]
theorem liesAt_self {e : TypeId} {count : Nat} (hc : 0 < P.cellsOf e) (hn : 1 ≤ count) : liesAt P P.depth e count 0 e 1 = true := by
  have hd : P.depth = (2 * (P.types.size + Made.depth) + 1) + 1 := rfl
  rw [hd]
  simp only [liesAt, Bool.or_eq_true]
  left
  rw [hd]
  have h0 : ¬ P.cellsOf e = 0 := by omega
  simp [Go.rowAt, h0, hn, sameLayout]
theorem ql_fromUnsafe {ρ : Operand → AV} {s d te : TypeId} {x : Operand} {b tot : Nat} {sz : Nat} {e : AV} (hx : ρ x = .ptr b tot 0 0) (hb : H[b]? = some ⟨te, sz, [e]⟩) (htot : tot = 1) (hs : P.underlying s = some .unsafePointer) (hd : P.underlying d = some (.pointer te))
    (hj : szTy P te = some sz) (h0 : 0 < sz) (hmt : te < mapTy := by decide) : QL P H ρ (.convert s d x) (.ptr b tot 0 0) := by
  obtain ⟨j, hj, hj0⟩ := szTy_inv hj
  have hc : P.cellsOf te = sz := by simp [Program.cellsOf, hj, hj0]
  refine QL.of_run fun w0 O ι A w hsit hv o ho => ?_
  have h1 := hv x (by simp [Op.operands]); rw [hx] at h1
  obtain ⟨z, blk, hi, hb', hbt, h3, hcx⟩ := h1.ptr_fresh (by simp [fresh, hb, htot])
  rw [hb] at hb'; injection hb' with hb'; subst hb'
  obtain ⟨_, c, hcz, hcl, _, _⟩ := hsit.heap b _ z hb hi
  have hcz := rowAt_inv hcz hcx hmt
  simp at hcl hcz
  rw [h3] at h1
  refine ⟨_, ?_, h1⟩
  have hl := liesAt_self (P := P) (e := te) (count := c.size / P.cellsOf te) (by omega) (by rw [hc]; exact (Nat.one_le_div_iff h0).2 hcl)
  simp only [execOp, ho, h3, Sem.run_bind, Sem.run_pure, Result.andThen_ok, Nat.zero_mul, Nat.zero_add, Lib.run_from_unsafe w ⟨z, 0, none⟩ hs hd hj (e := te) (cells := c.size) (by simp [World.shape?, hcz]) hl]
end
end Go.Ab
namespace Go.Ab
open Go Go.RowKit

theorem ql_extern {P : Program} {H : List ABlk} {ρ : Operand → AV} {c : Call} {fx : Operand} {f : FuncId} {fn : Func} {e : Array Value → Sem Value} {d : AV} (hf : P.funcs[f]? = some fn) (hname : (fn.name == "runtime.NumGoroutine") = false)
    (hb : fn.body.isNone = true) (hn : Extern.findNext fn = none) (he : Extern.find fn = some e) (hc : c.callee = .value fx) (hfx : ρ fx = .clo f [])
    (hrun : ∀ (w : World) (O : Nat → Prop) (ι : Nat → Option Nat) (a : Act), (∀ x ∈ c.args, VR w O ι H (ρ x) (a.eval x)) → ∃ u, (e (c.args.map a.eval)).run P w = .ok u w ∧ VR w O ι H d u) : QL P H ρ (.call c) d := by
  refine QL.of_run fun w0 O ι a w hs hv o ho => ?_
  have hmem : ∀ y, y = fx ∨ y ∈ c.args → y ∈ (Op.call c).operands := by
    intro y hy
    simp only [Op.operands, Call.operands, hc, Array.mem_append, List.mem_toArray, List.mem_singleton]
    exact hy
  have h5 := hv fx (hmem _ (.inl rfl))
  rw [hfx] at h5
  generalize hX : a.eval fx = X at h5
  cases h5 with
  | clo f caps arr hlen hcap =>
  have harr : arr = #[] := Array.eq_empty_of_size_eq_zero hlen
  subst harr
  obtain ⟨u, h1, h2⟩ := hrun w (OO O ι H) ι a fun x hx => hv x (hmem _ (.inr hx))
  refine ⟨u, ?_, h2⟩
  unfold execOp
  rw [ho]
  simp only [resolve, hc, Deferred.ofValue, hX, Sem.run_bind, Sem.run_pure, Result.andThen_ok, invoke, Array.empty_append, Array.append_empty, run_callFunc_extern hf hname hb hn he, h1]
theorem ql_noEscape {P : Program} {H : List ABlk} {ρ : Operand → AV} {x : Operand} {ts : Array TypeId} {f : FuncId} {fn : Func} {v : AV} (hf : P.funcs[f]? = some fn) (hname : (fn.name == "runtime.NumGoroutine") = false)
    (hb : fn.body.isNone = true) (hn : Extern.findNext fn = none) (he : Extern.find fn = some Extern.AbiNoEscape.same) (hx : ρ x = v) (hfx : ρ (.func f) = .clo f []) : QL P H ρ (.call { callee := .value (.func f), args := #[x], argTypes := ts }) v :=
  ql_extern hf hname hb hn he rfl hfx fun w O ι a h => ⟨a.eval x, by rw [show (#[x] : Array Operand).map a.eval = #[a.eval x] by simp]; exact Lib.run_noEscape w (a.eval x), by have := h x (by simp); rwa [hx] at this⟩

def pA (u : Bool) (b : Nat) : AV := if u then .ptr b 1 0 0 else .base (.pointer none)
def bldS (T : TypeId) (p : AV) (c n : Nat) : ABlk := ⟨T, 2, [.agg [p, .own c n 0 n]]⟩
def bldB (U : TypeId) (l : List UInt8) : ABlk := ⟨U, 1, l.map AV.u8⟩
attribute [go_sem] pA bldS bldB List.length_map beq_self_eq_true
theorem PuB_bld (U : TypeId) (l : List UInt8) : ∀ e ∈ (bldB U l).es, ∀ c ∈ e.cells, Pu c := fun e he c hc => by
  obtain ⟨x, _, rfl⟩ := List.mem_map.1 he
  simp only [AV.cells, List.mem_singleton] at hc
  subst hc; exact .base _
theorem bldS_mv {r : Nat → Option Nat} {H : List ABlk} {T : TypeId} {u : Bool} {b c b2 c2 n : Nat} (hb : r b = some b2) (hc : r c = some c2) : BlkMv r H (bldS T (pA u b) c n) (bldS T (pA u b2) c2 n) := by
  refine ⟨rfl, rfl, rfl, fun i e e2 h1 h2 => ?_⟩
  cases i with
  | succ i => simp [bldS] at h1
  | zero =>
    simp only [bldS, List.getElem?_cons_zero, Option.some.injEq] at h1 h2
    subst h1; subst h2
    refine ⟨rfl, fun k x y h3 h4 => ?_⟩
    match k with
    | 0 =>
      simp only [AV.cells, List.getElem?_cons_zero, Option.some.injEq] at h3 h4
      subst h3; subst h4
      cases u with
      | true => exact .ptr hb
      | false => exact .pu (.base _)
    | 1 =>
      simp only [AV.cells, List.getElem?_cons_zero, List.getElem?_cons_succ, Option.some.injEq] at h3 h4
      subst h3; subst h4
      exact .own hc
    | k + 2 => simp [AV.cells] at h3
section
variable {P : Program} {HC : List ABlk}
theorem ro_pair0 {b c : Nat} : ro [b, c] b = some 0 := by simp [ro, List.findIdx?_cons]
theorem ro_pair1 {b c : Nat} (h : b ≠ c) : ro [b, c] c = some 1 := by simp [ro, List.findIdx?_cons, h]
theorem pl_callBld {ρ : Operand → AV} {cl : Call} {fx : Operand} {f : FuncId} {args : List AV} {d : AV} {T : TypeId} {u u2 : Bool} {b c n n2 : Nat} {B B2 : ABlk} (hf : FnH P f (.ptr 0 1 0 0 :: args) [bldS T (pA u 0) 1 n, B] d [bldS T (pA u2 0) 1 n2, B2])
    (hb : HC[b]? = some (bldS T (pA u b) c n)) (hB : HC[c]? = some B) (hne : b ≠ c) (hp : ∀ e ∈ B.es, ∀ c ∈ e.cells, Pu c) (hp2 : ∀ e ∈ B2.es, ∀ c ∈ e.cells, Pu c) (hc : cl.callee = .value fx) (hfx : ρ fx = .clo f []) {x : Operand} {as : List Operand} (has : cl.args.toList = x :: as) (hx : ρ x = .ptr b 1 0 0)
    (ha : as.map ρ = args) (hpa : ∀ a ∈ args, Pu a) (hd : Pu d) : PL P HC ρ (.call cl) d ((HC.set b (bldS T (pA u2 b) c n2)).set c B2) := by
  have hbl := (List.getElem?_eq_some_iff.1 hb).1
  have hcl := (List.getElem?_eq_some_iff.1 hB).1
  have hrb0 : rb [b, c] HC.length 0 = some b := by simp [rb]
  have hrb1 : rb [b, c] HC.length 1 = some c := by simp [rb]
  refine pl_callH (e := [b, c]) hf ⟨by simp [hne], rfl, fun j b' h => ?_, by simp, by simp, fun b' hb' hn => ?_, fun j c' bk h h2 => ?_⟩ hc hfx ?_ (.pu hd)
  · match j with
    | 0 =>
      simp at h; subst h
      exact ⟨_, _, hb, rfl, bldS_mv ro_pair0 (ro_pair1 hne)⟩
    | 1 =>
      simp at h; subst h
      exact ⟨_, _, hB, rfl, .pu hp⟩
    | j + 2 => simp at h
  · simp at hn
    rw [List.getElem?_set_ne (by omega), List.getElem?_set_ne (by omega)]
  · match j with
    | 0 =>
      rw [hrb0] at h; injection h with h; subst h
      simp at h2; subst h2
      exact ⟨_, by rw [List.getElem?_set_ne (by omega), List.getElem?_set_self hbl], bldS_mv hrb0 hrb1⟩
    | 1 =>
      rw [hrb1] at h; injection h with h; subst h
      simp at h2; subst h2
      exact ⟨_, by rw [List.getElem?_set_self (by simpa using hcl)], .pu hp2⟩
    | j + 2 => simp at h2
  · rw [has, List.map_cons, hx, ha, List.append_nil]
    exact ⟨.ptr ro_pair0, MvL.pu hpa⟩
end
theorem Wk.bld {n : Fr} {E E2 : Env} {H1 : List ABlk} (T U : TypeId) (hp : PuBl H1) (hE : NilE (H1 ++ [⟨T, 2, [.agg [.base (.pointer none), .base (.slice none 0 0)]]⟩]) E E2) :
    Wk n ⟨E, H1 ++ [⟨T, 2, [.agg [.base (.pointer none), .base (.slice none 0 0)]]⟩]⟩ ⟨E2, H1 ++ [bldS T (pA false H1.length) (H1.length + 1) 0, bldB U []]⟩ := by
  have h : ∀ (A : List ABlk) (H : List ABlk), PuBl A → H.length = H1.length + 1 → NilB H (A ++ [⟨T, 2, [.agg [.base (.pointer none), .base (.slice none 0 0)]]⟩]) (A ++ [bldS T (pA false H1.length) (H1.length + 1) 0]) := by
    intro A
    induction A with
    | nil => exact fun H _ hl => ⟨.one ⟨.pu (.base _), .nil hl, trivial⟩, trivial⟩
    | cons a A ih => exact fun H hA hl => ⟨.pu (hA a (by simp)), ih H (fun x hx => hA x (by simp [hx])) hl⟩
  have := Wk.nilC (n := n) (H := H1 ++ [⟨T, 2, [.agg [.base (.pointer none), .base (.slice none 0 0)]]⟩]) (H2 := H1 ++ [bldS T (pA false H1.length) (H1.length + 1) 0]) U 1 (h H1 _ hp (by simp)) hE
  rw [List.append_assoc] at this
  exact this
end Go.Ab
