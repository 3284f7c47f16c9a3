/- The evaluation's own set of equations, and small rules for use. -/
import Derived.Test.YthjeoagadjdilaaAbI
set_option linter.unusedSimpArgs false
set_option linter.unusedVariables false
namespace Go.Ab
open Go Go.RowKit
set_option linter.unusedVariables false

attribute [go_sem] cv batch qstep qfun ev lk putE stripA stripL wrapL gval lite gc ldE binF intBin strBin boolBin lenF pickF fieldF fresh resVal resVals ldPtr packA AV.cells bnd

theorem dstOk_none (n : Nat) : dstOk n none = true := rfl
theorem dstOk_some (n t : Nat) : dstOk n (some t) = decide (t < n) := by
  rw [Bool.eq_iff_iff]; simp [dstOk]
attribute [go_sem] dstOk_none dstOk_some

section
variable {P : Program} {n : Nat} {K : ASt → Prop} {Q : Exit → ASt → Prop} {s : ASt}
theorem ARun.go {q : Bool} {o : LOp} {l r : List LOp} {s0 s1 : ASt} (h : qstep P n o s = some s0) (h2 : Go.Ab.batch P n l s0 = (r, s1)) (hr : ARun P n q r K s1) : ARun P n q (o :: l) K s :=
  ARun.batch (l := o :: l) (by simp only [Ab.batch, h]; exact h2) hr
/-- a region's operations, light -/
def RegL (ops : Array Oper) (D : List (Option Tmp)) (l : List LOp) : Prop := ops.toList.map (·.dst) = D ∧ ops.toList.all (gOk D) = true ∧ ops.toList.map (lite D) = l
theorem AWp.regionL {id : Nat} {ops : Array Oper} {D : List (Option Tmp)} {l : List LOp} (h : RegL ops D l) (hr : ARun P n false l (Q .normal) s) : AWp P n (.region id ops false) Q s := AWp.region h.1 h.2.1 h.2.2 hr
def RegD (ops : Array Oper) (k : Nat) (D : List (Option Tmp)) (l1 l2 : List LOp) : Prop :=
  ops.toList.map (·.dst) = D ∧ ops.toList.all (gOk D) = true ∧ drawOk D ops k = true ∧ k ≤ ops.size ∧ (ops.toList.take k).map (lite D) = l1 ∧ (ops.toList.drop k).map (lite D) = l2
theorem AWp.drawL {id : Nat} {ops : Array Oper} {D : List (Option Tmp)} {k : Nat} {l1 l2 : List LOp} (hm : P.follows .mixedOrders = true) (h : RegD ops k D l1 l2)
    (hr : ARun P n true l1 (fun s1 => ARun P n false l2 (Q .normal) s1) s) : AWp P n (.region id ops true) Q s := AWp.draw hm h.1 h.2.1 h.2.2.1 h.2.2.2.1 h.2.2.2.2.1 h.2.2.2.2.2 hr
theorem thenQ_n (h : K s) : thenQ K Q .normal s := h
theorem thenQ_r (h : Q .ret s) : thenQ K Q .ret s := h
theorem thenQ_e {id : Nat} (h : Q (.exit id) s) : thenQ K Q (.exit id) s := h
theorem blkQ_n {id : Nat} (h : Q .normal s) : blkQ id Q .normal s := h
theorem blkQ_r {id : Nat} (h : Q .ret s) : blkQ id Q .ret s := h
theorem blkQ_e {id : Nat} (h : Q .normal s) : blkQ id Q (.exit id) s := by simpa [blkQ] using h
theorem blkQ_o {id id' : Nat} (hne : (id' == id) = false) (h : Q (.exit id') s) : blkQ id Q (.exit id') s := by
  simp only [blkQ]; rw [if_neg (by simpa using hne)]; exact h

theorem retQ_n {rs : List ResultVar} {d : AV} (h : Ret P rs d s) : retQ P rs d .normal s := h
theorem retQ_r {rs : List ResultVar} {d : AV} (h : Ret P rs d s) : retQ P rs d .ret s := h

/-- the end: what is given is d, and d is data -/
theorem Ret.data {rs : List ResultVar} {d : AV} {vs : List AV} (h : resVals P s rs = some vs) (he : packA vs = d) (hp : Pu d) : Ret P rs d s := ⟨vs, h, by rw [he]; exact .pu hp⟩
theorem Ret.pub {rs : List ResultVar} {d : AV} {vs : List AV} (h : resVals P s rs = some vs) (hp : Pub s.H 0 (packA vs) d) : Ret P rs d s := ⟨vs, h, hp⟩
end

/-- the entries of E2 hold in E -/
def WkE (E : Env) : Env → Prop
  | [] => True
  | (t, v) :: r => Le (lk E t) v ∧ WkE E r
theorem WkE.all {E : Env} : ∀ {E2 : Env}, WkE E E2 → ∀ p ∈ E2, Le (lk E p.1) p.2
  | [], _, p, h => by cases h
  | (t, v) :: r, ⟨h1, h2⟩, p, h => by
    rcases List.mem_cons.1 h with rfl | h
    · exact h1
    · exact WkE.all h2 p h
theorem Wk.env' {E E2 : Env} {H : List ABlk} (h : WkE E E2) : Wk ⟨E, H⟩ ⟨E2, H⟩ := .env h.all
theorem Le_self (a : AV) : Le a a = True := by simp [Le.refl]
theorem Le_bad (a : AV) : Le a .bad = True := by simp [Le.bad]
theorem Le_ut (a : AV) : Le (.under true a) a = True := by simp [Le.under_true]
attribute [go_sem] WkE Le_self Le_bad Le_ut

def WkP (H : List ABlk) (k : Nat) (E : Env) : Env → Prop
  | [] => True
  | (t, v) :: r => Pub H k (lk E t) v ∧ WkP H k E r
theorem WkP.all {H : List ABlk} {k : Nat} {E : Env} : ∀ {E2 : Env}, WkP H k E E2 → ∀ p ∈ E2, Pub H k (lk E p.1) p.2
  | [], _, p, h => by cases h
  | (t, v) :: r, ⟨h1, h2⟩, p, h => by
    rcases List.mem_cons.1 h with rfl | h
    · exact h1
    · exact WkP.all h2 p h
theorem Wk.trim' {E E2 : Env} {H H2 : List ABlk} (k : Nat) (h2 : H.take k = H2) (h : WkP H k E E2) (hc : ∀ blk ∈ H2, ∀ e ∈ blk.es, ∀ c ∈ e.cells, Pub H k c c) : Wk ⟨E, H⟩ ⟨E2, H2⟩ := by
  subst h2; exact .trim k h.all hc

theorem Wk.refl (s : ASt) : Wk s s := fun n w0 O ι a w h => ⟨ι, h⟩
theorem Wk.trans {s s2 s3 : ASt} (h : Wk s s2) (h2 : Wk s2 s3) : Wk s s3 := fun n w0 O ι a w hs => by
  obtain ⟨ι2, h3⟩ := h n w0 O ι a w hs
  exact h2 n w0 O ι2 a w h3

theorem wrap_id {x : Int} (h1 : -9223372036854775808 ≤ x) (h2 : x ≤ 9223372036854775807) : IntKind.i64.wrap x = x := by
  exact IntWalk.i64_in _ ⟨h1, h2⟩
theorem wrap_succ {n : Nat} (h : n < 9223372036854775807) : IntKind.i64.wrap ((n : Int) + 1) = ((n + 1 : Nat) : Int) := by
  rw [wrap_id (by omega) (by omega)]; rfl

/-- function bodies, the environment written out -/
theorem Fn.intro' {P : Program} {f : FuncId} {fn : Func} {c : Code} {args : List AV} {d : AV} (E : Env) (m n : Nat) (hf : P.funcs[f]? = some fn) (hn : (fn.name == "runtime.NumGoroutine") = false) (hb : fn.body = some c)
    (hm : args.length = m) (hnt : fn.ntmps = n) (ha : Nat.ble m n = true) (hE : args.zipIdx.map (fun (a, i) => (i, a)) = E)
    (h : AWp P n c (retQ P fn.results.toList d) ⟨E, []⟩) : Fn P f args d := by
  refine Fn.intro hf hn hb (by rw [hm, hnt]; exact Nat.le_of_ble_eq_true ha) ?_
  rw [hE, hnt]; exact h
end Go.Ab
