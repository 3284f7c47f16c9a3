/- Arrays of numbers, compared. -/
import Derived.ChangeKeysEq
import Derived.Test.YthgicbkdckpeaaaDoorG12
set_option linter.unusedSimpArgs false
set_option linter.unusedVariables false
namespace Go.Ab
open Go Go.RowKit

section
variable {P : Program} {H : List ABlk} {ρ : Operand → AV}
end
end Go.Ab
namespace Go.Ab
open Go Go.RowKit
section
variable {P : Program} {H : List ABlk} {ρ : Operand → AV}
theorem ql_bsl {t el : TypeId} {len size : Nat} {parts : Array (Nat × Operand)} {es : List AV} (ht : P.underlying t = some (.slice el)) (hsz : szTy P el = some size) (hpos : 0 < size) (hz : (zeroA P el).map (fun z => z.cells.length) = some size) (hlen : len * size ≤ 16777216)
    (hp : litOk size len (parts.toList.map fun (i, x) => (i, ρ x)) = true) (hes : (parts.toList.map fun (i, x) => ρ x) = es) (hle : es.length = len) :
    QL P H ρ (.buildSlice t len parts) (.lst es) := ql_buildSlice hpos ht hsz hz hlen hp hes hle
end
end Go.Ab
namespace Go.Ab
open Go Go.RowKit
attribute [go_sem] Nat.reduceAdd
abbrev zs := @AWp.seq
abbrev zN := @ARun.nil
abbrev z1 := @thenQ_n
abbrev z2 := @thenQ_r
abbrev z3 := @thenQ_e
abbrev z4 := @blkQ_n
abbrev z5 := @blkQ_r
abbrev z6 := @blkQ_e
abbrev z7 := @blkQ_o
abbrev zb := @AWp.block
abbrev zk := @AWp.skip
abbrev zr := @AWp.ret
abbrev ze := @AWp.exit
abbrev y1 := @retQ_n
abbrev y2 := @retQ_r
abbrev zR := @AWp.regionL
abbrev zG := @ARun.go
abbrev zp := @ARun.p1
abbrev zq := @ARun.q1
end Go.Ab
namespace Go.Ab
open Go Go.RowKit
section
variable {P : Program} {H : List ABlk} {ρ : Operand → AV}
theorem qi {α : Type} [Inhabited α] {t el : TypeId} {x i : Operand} {k : IntKind} {n : Int} {l : List α} {f : α → AV} (hx : ρ x = .lst (l.map f)) (hi : ρ i = .base (.int k n)) (ht : P.underlying t = some (.slice el))
    (h : 0 ≤ n ∧ n < l.length) (hsz : szTy P el = some (f (nth default l n)).cells.length) : QL P H ρ (.indexAddr t x i) (.iptr (f (nth default l n)) 0) := ql_idxI hx hi ht h.1 h.2 hsz
theorem qo {t el : TypeId} {x i : Operand} {k : IntKind} {n : Int} {b tot off len : Nat} {blk : ABlk} (hx : ρ x = .own b tot off len) (hi : ρ i = .base (.int k n)) (ht : P.underlying t = some (.slice el))
    (hb : H[b]? = some blk) (h : blk.es.length = tot ∧ 0 ≤ n ∧ n < len) (hsz : szTy P el = some blk.sz) : QL P H ρ (.indexAddr t x i) (.ptr b tot (off + n.toNat) 0) := ql_indexAddr_own hx hi ht hb h.1 h.2.1 h.2.2 hsz
theorem qw {α : Type} {t : TypeId} {x : Operand} {b tot i ty sz : Nat} {l : List α} {f : α → AV} {v : AV} (d : α) (n : Int) (hx : ρ x = .ptr b tot i 0) (hb : H[b]? = some ⟨ty, sz, l.map f⟩) (hn : i = n.toNat) (h : l.length = tot ∧ i < l.length)
    (hld : ldE (aggTy P t) (szTy P t) (f (nth d l n)) 0 = some v) : QL P H ρ (.load t x) v := ql_load_own d n hx hb h.1 hn h.2 hld
theorem qb {t el : TypeId} {len size : Nat} {parts : Array (Nat × Operand)} {es : List AV} (ht : P.underlying t = some (.slice el)) (hsz : szTy P el = some size) (h : 0 < size ∧ len * size ≤ 16777216) (hz : (zeroA P el).map (fun z => z.cells.length) = some size)
    (hp : litOk size len (parts.toList.map fun (i, x) => (i, ρ x)) = true) (hes : (parts.toList.map fun (i, x) => ρ x) = es) (hle : es.length = len) :
    QL P H ρ (.buildSlice t len parts) (.lst es) := ql_buildSlice h.1 ht hsz hz h.2 hp hes hle
end
abbrev qn := @ql_min
abbrev qx := @ql_max
end Go.Ab
namespace Go.Ab
open Go Go.RowKit

structure Hid (q : Prop) : Prop where
  out : q
section
variable {p q : Prop}
theorem goA (h : q) (k : Hid q → p := by intro hq__; (repeat (first | (with_reducible first | apply zs | apply zN | apply z1 | apply z2 | apply z3 | apply z4 | apply z5 | apply z6 | refine z7 rfl ?_ | apply zb | apply zk | apply zr | apply ze | apply y1 | apply y2) | ((with_reducible apply zR); (refine ⟨rfl, rfl, ?_⟩; simp +decide only [go_sem, List.map]; rfl)) | ((with_reducible apply zG); (simp +decide only [go_sem]; rfl); (simp +decide only [go_sem]; (repeat simp +decide only [go_sem]); rfl)) | (refine zp rfl rfl (pl_box (by simp +decide only [go_sem]; rfl) rfl) ?_) | (refine zp rfl rfl (pl_alloc (by simp only [go_sem]; rfl) rfl) ?_) | (refine zp rfl rfl (pl_store (by simp +decide only [go_sem]; rfl) (by simp +decide only [go_sem]; rfl) (by simp +decide only [go_sem]; rfl) (by rfl) (by rfl) (by kernel_rfl) (by rfl) (by rfl)) ?_))); exact hq__.out) : p := k ⟨h⟩
theorem goB (h : q) (k : Hid q → p := by intro hq__; (repeat (first | (with_reducible first | apply zs | apply zN | apply z1 | apply z2 | apply z3 | apply z4 | apply z5 | apply z6 | refine z7 rfl ?_ | apply zb | apply zk | apply zr | apply ze | apply y1 | apply y2) | ((with_reducible apply zR); (refine ⟨rfl, rfl, ?_⟩; simp +decide only [go_sem, List.map]; rfl)) | ((with_reducible apply zG); (simp +decide only [go_sem]; rfl); (simp +decide only [go_sem]; (repeat simp +decide only [go_sem]); rfl)) | (refine zp rfl rfl (pl_box (by simp +decide only [go_sem]; rfl) rfl) ?_) | (refine zp rfl rfl (pl_alloc (by simp only [go_sem]; rfl) rfl) ?_) | (refine zp rfl rfl (pl_store (by simp +decide only [go_sem]; rfl) (by simp +decide only [go_sem]; rfl) (by simp +decide only [go_sem]; rfl) (by rfl) (by rfl) (by kernel_rfl) (by rfl) (by rfl)) ?_) | (refine zq rfl rfl (qi rfl rfl (by simp only [go_sem]; rfl) (by first | omega | (simp; omega)) (by kernel_rfl)) ?_) | (refine zq rfl rfl (qo rfl rfl (by simp only [go_sem]; rfl) rfl (by first | omega | (simp; omega)) (by simp only [go_sem] <;> rfl)) ?_) | (refine zq rfl rfl (qw 0 _ rfl rfl (by first | rfl | (simp only [Nat.zero_add] <;> rfl)) (by first | omega | (simp; omega)) (by simp only [go_sem] <;> rfl)) ?_) | (refine zq rfl rfl (qb (by simp only [go_sem]; rfl) (by simp only [go_sem]; rfl) (by decide) (by kernel_rfl) (by simp +decide only [List.map, go_sem] <;> rfl) (by simp +decide only [List.map, go_sem] <;> rfl) (by rfl)) ?_) | (refine zq rfl rfl (qn rfl rfl) ?_) | (refine zq rfl rfl (qx rfl rfl) ?_))); exact hq__.out) : p := k ⟨h⟩
end
end Go.Ab
namespace Go.Ab
open Go Go.RowKit
section
variable {P : Program} {n : Fr} {q : Bool} {l : List LOp} {o : LOp} {K : ASt → Prop} {Q : Exit → ASt → Prop} {s : ASt} {c : Code}
theorem gqA {t : Tmp} {want : Bool} {L : List Bool} {v : AV} (hg : o.g = some (t, want) := by rfl) (hd : dstOk n o.dst = true := by rfl) (hb : gval want (lk s.env t) = some L := by (simp +decide only [go_sem] <;> rfl))
    (h : allL L = true → QL P s.H (fun x => stripL L (ev s.env x)) o.op v) (hr : ARun P n q l K ⟨putE s.env o.dst (wrapL L v), s.H⟩) : ARun P n q (o :: l) K s := ARun.gl hg hd hb h hr
theorem gxA {t : Tmp} {want : Bool} {L : List Bool} (v : AV) (hr : ARun P n q l K ⟨putE s.env o.dst (wrapL L v), s.H⟩) (hg : o.g = some (t, want) := by rfl) (hd : dstOk n o.dst = true := by rfl) (hb : gval want (lk s.env t) = some L := by (simp +decide only [go_sem] <;> rfl))
    (hx : allL L = false := by (simp +decide only [go_sem, allL, Bool.false_and, Bool.and_false])) : ARun P n q (o :: l) K s := ARun.gl hg hd hb (fun h => by rw [hx] at h; cases h) hr
theorem callA {cl : Call} {fx : Operand} {f : FuncId} {caps as : List AV} {d : AV} {mm : List (Nat × Obj)} (i : FnM P mm f as d) (hr : ARun P n q l K ⟨putE s.env o.dst d, s.H⟩) (hg : o.g = none := by rfl) (hd : dstOk n o.dst = true := by rfl) (ho : o.op = .call cl := by rfl) (hc : cl.callee = .value fx := by rfl)
    (hf : ev s.env fx = .clo f caps := by (simp +decide only [go_sem] <;> rfl)) (ha : cl.args.toList.map (ev s.env) ++ caps = as := by (simp +decide only [go_sem, List.map])) (hp : ∀ a ∈ as, Pu a := by first | (simp [-List.map_take, -List.map_drop]; done) | simp [-List.map_take, -List.map_drop, *]) (hm : MemIn mm (ev s.env) := by first | exact .inl rfl | exact .inr (by (simp +decide only [go_sem] <;> rfl))) : ARun P n q (o :: l) K s :=
  ARun.q1 hg hd (by rw [ho]; exact ql_callC i hc hf ha hp hm) hr
theorem gcallA {t : Tmp} {want : Bool} {L : List Bool} {mm : List (Nat × Obj)} {cl : Call} {fx : Operand} {f : FuncId} {caps as : List AV} {d : AV} (hg : o.g = some (t, want) := by rfl) (hd : dstOk n o.dst = true := by rfl) (hb : gval want (lk s.env t) = some L := by (simp +decide only [go_sem] <;> rfl)) (ho : o.op = .call cl := by rfl) (hc : cl.callee = .value fx := by rfl)
    (i : allL L = true → FnM P mm f as d) (hf : stripL L (ev s.env fx) = .clo f caps := by (simp +decide only [go_sem] <;> rfl)) (ha : cl.args.toList.map (fun x => stripL L (ev s.env x)) ++ caps = as := by (simp +decide only [go_sem, List.map])) (hp : ∀ a ∈ as, Pu a := by first | (simp [-List.map_take, -List.map_drop]; done) | simp [-List.map_take, -List.map_drop, *])
    (hr : ARun P n q l K ⟨putE s.env o.dst (wrapL L d), s.H⟩) (hm : MemIn mm (fun x => stripL L (ev s.env x)) := by first | exact .inl rfl | exact .inr (by (simp +decide only [go_sem] <;> rfl))) : ARun P n q (o :: l) K s :=
  ARun.gl hg hd hb (fun h => by rw [ho]; exact ql_callC (i h) hc hf ha hp hm) hr
theorem bslA {t el : TypeId} {len size : Nat} {parts : Array (Nat × Operand)} {es : List AV} (ht : P.underlying t = some (.slice el)) (hsz : szTy P el = some size) (hr : ARun P n q l K ⟨putE s.env o.dst (.lst es), s.H⟩) (hg : o.g = none := by rfl) (hd : dstOk n o.dst = true := by rfl) (ho : o.op = .buildSlice t len parts := by rfl)
    (hpos : 0 < size := by decide) (hz : (zeroA P el).map (fun z => z.cells.length) = some size := by kernel_rfl) (hlen : len * size ≤ 16777216 := by decide)
    (hp : litOk size len (parts.toList.map fun (i, x) => (i, ev s.env x)) = true := by (simp +decide only [List.map, go_sem] <;> rfl)) (hes : (parts.toList.map fun (i, x) => ev s.env x) = es := by (simp +decide only [List.map, go_sem] <;> rfl)) (hle : es.length = len := by rfl) : ARun P n q (o :: l) K s :=
  ARun.q1 hg hd (by rw [ho]; exact ql_buildSlice hpos ht hsz hz hlen hp hes hle) hr
theorem bldA {t : TypeId} {parts : Array (Nat × Operand)} {pl : List (Nat × Nat)} {zs cs : List AV} (hp : placesOf P t = some pl) (hz : zeroA P t = some (.agg zs)) (hr : ARun P n q l K ⟨putE s.env o.dst (.agg cs), s.H⟩) (hg : o.g = none := by rfl) (hd : dstOk n o.dst = true := by rfl) (ho : o.op = .build t parts := by rfl)
    (h : fillA pl zs (parts.toList.map fun (i, x) => (i, ev s.env x)) = some cs := by (simp +decide only [List.map, go_sem] <;> rfl)) : ARun P n q (o :: l) K s :=
  ARun.q1 hg hd (by rw [ho]; exact ql_build hp hz h) hr
theorem drA {id k : Nat} {ops : Array Oper} {D : List (Option Tmp)} {l1 l2 : List LOp} (hm : P.follows .mixedOrders = true)
    (h : RegD ops k D l1 l2 := by (refine ⟨rfl, rfl, by kernel_rfl, by decide, ?_, ?_⟩; (simp +decide only [go_sem, List.map, List.take]; rfl); (simp +decide only [go_sem, List.map, List.drop]; rfl)))
    (hr : ARun P n true l1 (fun s1 => ARun P n false l2 (Q .normal) s1) s) : AWp P n (.region id ops true) Q s := AWp.drawL hm h hr
theorem ifA {b : Bool} {cc : Operand} {x y : Code} (ht : b = true → AWp P n x Q s) (hf : b = false → AWp P n y Q s) (hc : ev s.env cc = .base (.bool b) := by rfl) : AWp P n (.cond cc x y) Q s := AWp.cond hc ht hf
end
theorem Wk.wk {n : Fr} {E E2 : Env} {H : List ABlk} (h : WkE E E2 := by first | (simp +decide only [go_sem]; done) | (simp +decide only [go_sem]; (repeat' apply And.intro) <;> exact Le.refl _)) : Wk n ⟨E, H⟩ ⟨E2, H⟩ := .env' h
end Go.Ab
namespace Go.Ab
open Go Go.RowKit

def FnH (P : Program) (f : FuncId) (args : List AV) (H : List ABlk) (d : AV) (H' : List ABlk) : Prop :=
  (∃ fn, P.funcs[f]? = some fn ∧ (fn.name == "runtime.NumGoroutine") = false ∧ fn.body.isNone = false) ∧
  ∀ (w : World) (O : Nat → Prop) (ι : Nat → Option Nat) (vs : Array Value), Sit ⟨w, rng ι H, H, ι⟩ O ι H w → vs.size = args.length →
    (∀ (j : Nat) (a : AV) (u : Value), args[j]? = some a → vs[j]? = some u → VR w (OO O ι H) ι H a u) →
    Calls P f vs w fun e w' => ∃ v ι', e = .returned v ∧ Sit ⟨w, rng ι H, H, ι⟩ O ι' H' w' ∧ VR w' (OO O ι' H') ι' H' d v

def RetH (P : Program) (rs : List ResultVar) (n : Fr) (d : AV) (H' : List ABlk) (s : ASt) : Prop :=
  ∃ s2 vs r q, Wk n s s2 ∧ resVals P s2 rs = some vs ∧ Sel n.m r q s2.H H' ∧ PubR r s2.H (packA vs) d
theorem RetH.wk {P : Program} {rs : List ResultVar} {n : Fr} {d : AV} {H' : List ABlk} {s s2 : ASt} (h : Wk n s s2) (h2 : RetH P rs n d H' s2) : RetH P rs n d H' s := by
  obtain ⟨s3, vs, r, q, h3, h4⟩ := h2
  exact ⟨s3, vs, r, q, h.trans h3, h4⟩
def retHQ (P : Program) (rs : List ResultVar) (n : Fr) (d : AV) (H' : List ABlk) : Exit → ASt → Prop
  | .normal, s | .ret, s => RetH P rs n d H' s
  | _, _ => False

section
variable {P : Program}
theorem lk_args : ∀ (l : List AV) (k t : Nat), lk ((l.zipIdx k).map fun (a, i) => (i, a)) t = if k ≤ t then (l[t - k]?).getD .bad else .bad
  | [], k, t => by simp [lk]
  | x :: l, k, t => by
    simp only [List.zipIdx_cons, List.map_cons, lk, lk_args l (k + 1) t]
    split
    · rename_i e; subst e; simp
    · rename_i e
      by_cases hlt : k ≤ t
      · rw [if_pos (by omega), if_pos hlt, show t - k = (t - (k + 1)) + 1 by omega]; rfl
      · rw [if_neg (by omega), if_neg hlt]

theorem FnH.intro {f : FuncId} {fn : Func} {c : Code} {args : List AV} {d : AV} {H H' : List ABlk} (hf : P.funcs[f]? = some fn) (hn : (fn.name == "runtime.NumGoroutine") = false) (hb : fn.body = some c) (ha : args.length ≤ fn.ntmps)
    (h : AWp P ⟨fn.ntmps, H.length⟩ c (retHQ P fn.results.toList ⟨fn.ntmps, H.length⟩ d H') ⟨args.zipIdx.map fun (a, i) => (i, a), H⟩) : FnH P f args H d H' := by
  refine ⟨⟨fn, hf, hn, by rw [hb]; rfl⟩, fun w O ι vs hS hl hv => ?_⟩
  refine calls_of_wp hf hb ?_
  have hs : SR ⟨fn.ntmps, H.length⟩ ⟨w, rng ι H, H, ι⟩ O ⟨args.zipIdx.map fun (a, i) => (i, a), H⟩ ι { tmps := vs ++ Array.replicate (fn.ntmps - vs.size) undef, defers := [] } w := by
    refine ⟨hS, rfl, by simp; omega, rfl, fun t => ?_⟩
    show VR _ _ _ _ (lk (args.zipIdx.map fun (a, i) => (i, a)) t) _
    rw [lk_args args 0 t]
    simp only [Nat.zero_le, if_true, Nat.sub_zero]
    cases ht : args[t]? with
    | none => exact .bad _
    | some x =>
      have htl : t < args.length := (List.getElem?_eq_some_iff.1 ht).1
      have hu : vs[t]? = some vs[t] := Array.getElem?_eq_getElem (by omega)
      have h1 := hv t x _ ht hu
      rw [Array.getD_eq_getD_getElem?, Array.getElem?_append_left (by omega), hu]
      exact h1
  refine wp_mono (h _ O ι _ w hs) ?_
  have fin : ∀ (s' : ASt) (ι' : Nat → Option Nat) (a : Act) (w' : World), RetH P fn.results.toList ⟨fn.ntmps, H.length⟩ d H' s' → SR ⟨fn.ntmps, H.length⟩ ⟨w, rng ι H, H, ι⟩ O s' ι' a w' →
      a.defers = [] ∧ ∃ v, (results fn a.tmps).run P w' = .ok v w' ∧ ∃ v' ι2, Ending.returned v = .returned v' ∧ Sit ⟨w, rng ι H, H, ι⟩ O ι2 H' w' ∧ VR w' (OO O ι2 H') ι2 H' d v' := by
    rintro s0 ι0 a w' ⟨s', rs, r, q, hw, h1, h2, h3⟩ hs0
    obtain ⟨ι', hs'⟩ := hw _ _ _ _ _ hs0
    obtain ⟨u, h4, h5⟩ := results_run hs' h1
    exact ⟨hs'.defers, u, h4, u, _, rfl, hs'.sit.sel hs'.hand h2, h3 H' _ w' O ι' _ u hs'.sit (h2.view ι') h5⟩
  rintro e a w' ⟨s', ι', h1, h2⟩
  cases e with
  | normal => exact fin s' ι' a w' h1 h2
  | ret => exact fin s' ι' a w' h1 h2
  | _ => exact h1.elim

theorem FnH.intro' {f : FuncId} {fn : Func} {c : Code} {args : List AV} {d : AV} {H H' : List ABlk} (E : Env) (m n k : Nat) (hf : P.funcs[f]? = some fn) (hn : (fn.name == "runtime.NumGoroutine") = false) (hb : fn.body = some c)
    (hm : args.length = m) (hnt : fn.ntmps = n) (ha : Nat.ble m n = true) (hE : args.zipIdx.map (fun (a, i) => (i, a)) = E) (hk : H.length = k)
    (h : AWp P ⟨n, k⟩ c (retHQ P fn.results.toList ⟨n, k⟩ d H') ⟨E, H⟩) : FnH P f args H d H' := by
  refine FnH.intro hf hn hb (by rw [hm, hnt]; exact Nat.le_of_ble_eq_true ha) ?_
  rw [hE, hnt, hk]; exact h

theorem retHQ_n {rs : List ResultVar} {m : Fr} {d : AV} {H' : List ABlk} {s : ASt} (h : RetH P rs m d H' s) : retHQ P rs m d H' .normal s := h
theorem retHQ_r {rs : List ResultVar} {m : Fr} {d : AV} {H' : List ABlk} {s : ASt} (h : RetH P rs m d H' s) : retHQ P rs m d H' .ret s := h
end

def Idx (r : Nat → Option Nat) (ι ι2 : Nat → Option Nat) (H H2 : List ABlk) : Prop :=
  ∀ (b j : Nat) (blk : ABlk), r b = some j → H[b]? = some blk → ∃ blk2, H2[j]? = some blk2 ∧ blk2.es.length = blk.es.length ∧ blk2.sz = blk.sz ∧ ι2 j = ι b
def MvR (r : Nat → Option Nat) (H : List ABlk) (a b : AV) : Prop := ∀ (H2 : List ABlk) (w : World) (O : Nat → Prop) (ι ι2 : Nat → Option Nat) (u : Value), Idx r ι ι2 H H2 → VR w O ι H a u → VR w O ι2 H2 b u
section
variable {r : Nat → Option Nat} {H : List ABlk}
theorem MvR.pu {a : AV} (h : Pu a) : MvR r H a a := fun H2 w O ι ι2 u v hu => (h _ _ _ _ _ hu).back
theorem MvR.bad (a : AV) : MvR r H a .bad := fun _ _ _ _ _ _ _ _ => .bad _
theorem MvR.le {a b c : AV} (h : Le a b) (h2 : MvR r H b c) : MvR r H a c := fun H2 w O ι ι2 u v hu => h2 H2 w O ι ι2 u v (h _ _ _ _ _ hu)
theorem MvR.agg {cs ds : List AV} (hl : cs.length = ds.length) (h : ∀ (j : Nat) (c d : AV), cs[j]? = some c → ds[j]? = some d → MvR r H c d) : MvR r H (.agg cs) (.agg ds) := fun H2 w O ι ι2 u v hu => by
  obtain ⟨arr, rfl, h1, h2⟩ := hu.agg_inv
  refine .agg ds arr (h1.trans hl) fun j d u hd hu => ?_
  have hj : j < cs.length := by rw [hl]; exact (List.getElem?_eq_some_iff.1 hd).1
  exact h j _ d (List.getElem?_eq_getElem hj) hd H2 w O ι ι2 u v (h2 j _ u (List.getElem?_eq_getElem hj) hu)
theorem MvR.tup {cs ds : List AV} (hl : cs.length = ds.length) (h : ∀ (j : Nat) (c d : AV), cs[j]? = some c → ds[j]? = some d → MvR r H c d) : MvR r H (.tup cs) (.tup ds) := fun H2 w O ι ι2 u v hu => by
  obtain ⟨arr, rfl, h1, h2⟩ := hu.tup_inv
  refine .tup ds arr (h1.trans hl) fun j d u hd hu => ?_
  have hj : j < cs.length := by rw [hl]; exact (List.getElem?_eq_some_iff.1 hd).1
  exact h j _ d (List.getElem?_eq_getElem hj) hd H2 w O ι ι2 u v (h2 j _ u (List.getElem?_eq_getElem hj) hu)
theorem MvR.clo {f : FuncId} {cs ds : List AV} (hl : cs.length = ds.length) (h : ∀ (j : Nat) (c d : AV), cs[j]? = some c → ds[j]? = some d → MvR r H c d) : MvR r H (.clo f cs) (.clo f ds) := fun H2 w O ι ι2 u v hu => by
  cases hu with
  | clo f cs arr h1 h2 =>
  refine .clo f ds arr (h1.trans hl) fun j d u hd hu => ?_
  have hj : j < cs.length := by rw [hl]; exact (List.getElem?_eq_some_iff.1 hd).1
  exact h j _ d (List.getElem?_eq_getElem hj) hd H2 w O ι ι2 u v (h2 j _ u (List.getElem?_eq_getElem hj) hu)
theorem MvR.ptr {b j tot i off : Nat} (hb : r b = some j) : MvR r H (.ptr b tot i off) (.ptr j tot i off) := fun H2 w O ι ι2 u v hu => by
  cases hu with
  | stalePtr b tot i off blk a h1 h2 =>
    obtain ⟨blk2, e1, e2, e3, e4⟩ := v b j blk hb h1
    exact .stalePtr _ _ _ _ blk2 _ e1 (by omega)
  | ptr b tot i off blk x h1 ht hi hcx =>
    obtain ⟨blk2, e1, e2, e3, e4⟩ := v b j blk hb h1
    have := VR.ptr (w := w) (O := O) j tot i off blk2 x e1 (e2.trans ht) (e4.trans hi) hcx
    rwa [e3] at this
theorem MvR.own {b j tot off len : Nat} (hb : r b = some j) : MvR r H (.own b tot off len) (.own j tot off len) := fun H2 w O ι ι2 u v hu => by
  cases hu with
  | staleOwn b tot off len blk a n c h1 h2 =>
    obtain ⟨blk2, e1, e2, e3, e4⟩ := v b j blk hb h1
    exact .staleOwn _ _ _ _ blk2 _ _ _ e1 (by omega)
  | ownNil b blk h1 he hi =>
    obtain ⟨blk2, e1, e2, e3, e4⟩ := v b j blk hb h1
    rw [he] at e2
    exact .ownNil j blk2 e1 (List.eq_nil_of_length_eq_zero e2) (e4.trans hi)
  | own b tot off len blk x n cap a h1 ht hi hn hl hcap ha =>
    obtain ⟨blk2, e1, e2, e3, e4⟩ := v b j blk hb h1
    exact .own _ _ _ _ blk2 x n cap a e1 (e2.trans ht) (e4.trans hi) hn hl hcap (by rw [e3]; exact ha)
def MvL (r : Nat → Option Nat) (H : List ABlk) : List AV → List AV → Prop
  | [], [] => True
  | a :: l, b :: m => MvR r H a b ∧ MvL r H l m
  | _, _ => False
theorem MvL.len : ∀ {l m : List AV}, MvL r H l m → l.length = m.length
  | [], [], _ => rfl
  | _ :: l, _ :: m, h => by simp [MvL.len h.2]
theorem MvL.get : ∀ {l m : List AV}, MvL r H l m → ∀ (j : Nat) (a b : AV), l[j]? = some a → m[j]? = some b → MvR r H a b
  | _ :: l, _ :: m, h, 0, a, b, h1, h2 => by cases h1; cases h2; exact h.1
  | _ :: l, _ :: m, h, j + 1, a, b, h1, h2 => MvL.get h.2 j a b h1 h2
theorem MvL.pu : ∀ {cs : List AV}, (∀ c ∈ cs, Pu c) → MvL r H cs cs
  | [], _ => trivial
  | c :: l, h => ⟨.pu (h c (by simp)), MvL.pu fun x hx => h x (by simp [hx])⟩
theorem MvR.agg' {cs ds : List AV} (h : MvL r H cs ds) : MvR r H (.agg cs) (.agg ds) := .agg h.len h.get
theorem MvR.tup' {cs ds : List AV} (h : MvL r H cs ds) : MvR r H (.tup cs) (.tup ds) := .tup h.len h.get
end

def BlkMv (r : Nat → Option Nat) (H : List ABlk) (b b2 : ABlk) : Prop := b2.ty = b.ty ∧ b2.sz = b.sz ∧ b2.es.length = b.es.length ∧
  ∀ (i : Nat) (e e2 : AV), b.es[i]? = some e → b2.es[i]? = some e2 → e.cells.length = e2.cells.length ∧ ∀ (k : Nat) (c c2 : AV), e.cells[k]? = some c → e2.cells[k]? = some c2 → MvR r H c c2
theorem BlkMv.pu {r : Nat → Option Nat} {H : List ABlk} {b : ABlk} (h : ∀ e ∈ b.es, ∀ c ∈ e.cells, Pu c) : BlkMv r H b b :=
  ⟨rfl, rfl, rfl, fun i e e2 h1 h2 => by
    rw [h1] at h2; injection h2 with h2; subst h2
    exact ⟨rfl, fun k c c2 h3 h4 => by
      rw [h3] at h4; injection h4 with h4; subst h4
      exact .pu (h e (List.mem_of_getElem? h1) c (List.mem_of_getElem? h3))⟩⟩
theorem BlkMv.br {r : Nat → Option Nat} {H H2 : List ABlk} {b b2 : ABlk} (h : BlkMv r H b b2) {w : World} {O O2 : Nat → Prop} {ι ι2 : Nat → Option Nat} {x : Nat} (hO : ∀ y, O2 y ↔ O y) (v : Idx r ι ι2 H H2) (hr : BR w O ι H b x) : BR w O2 ι2 H2 b2 x := by
  obtain ⟨e1, e2, e3, e4⟩ := h
  obtain ⟨c, k2, k3, k4, k5⟩ := hr
  refine ⟨c, by rw [e1]; exact k2, by rw [e2, e3]; exact k3, fun e he => ?_, fun i k e2' d he hd => ?_⟩
  · obtain ⟨i, hi', he'⟩ := List.mem_iff_getElem.1 he
    have hei : b.es[i]? = some (b.es[i]'(by omega)) := List.getElem?_eq_getElem (by omega)
    obtain ⟨f1, _⟩ := e4 i _ e hei (by rw [List.getElem?_eq_getElem hi', he'])
    rw [← f1, e2]
    exact k4 _ (List.getElem_mem _)
  · have hil : i < b.es.length := by rw [← e3]; exact (List.getElem?_eq_some_iff.1 he).1
    have hei : b.es[i]? = some b.es[i] := List.getElem?_eq_getElem hil
    obtain ⟨f1, f2⟩ := e4 i _ e2' hei he
    have hkl : k < b.es[i].cells.length := by rw [f1]; exact (List.getElem?_eq_some_iff.1 hd).1
    obtain ⟨u, hu, hv⟩ := k5 i k _ _ hei (List.getElem?_eq_getElem hkl)
    exact ⟨u, by rw [e2]; exact hu, (f2 k _ d (List.getElem?_eq_getElem hkl) hd H2 w O ι ι2 u v hv).lessO fun y hy => (hO y).1 hy⟩
end Go.Ab
