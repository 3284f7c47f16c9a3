/- Steps of drawn regions with three growing steps. -/
import Derived.Test.YtpgbgclphjgdbaaAbN
import Derived.Test.YtpgbgclphjgdbaaAbD
import Derived.Test.YtpgbgclphjgdbaaAbI
set_option linter.unusedSimpArgs false
set_option linter.unusedVariables false
namespace Go.Ab
open Go Go.RowKit
section
variable {P : Program} {n : Fr} {HS : Nat → List ABlk} {o : LOp} {l : List LOp} {sl : List (Option Nat)} {bl : List Nat} {E : Env} {v : AV} {K : Env → Prop}
theorem BRun.qf3b {m : Nat} (hg : o.g = none) (hd : dstOk n o.dst = true) (h0 : qfun P (HS 0) (ev E) o.op = some v) (h1 : qfun P (HS 1) (ev E) o.op = some v) (h2 : qfun P (HS 2) (ev E) o.op = some v) (hr : BRun P n HS m l sl bl K (putE E o.dst v)) : BRun P n HS m (o :: l) (none :: sl) (2 :: bl) K E :=
  .q1 hg hd (fun c hc hb => ql_fun (by rcases (by omega : c = 0 ∨ c = 1 ∨ c = 2) with h | h | h <;> subst h <;> assumption)) hr
theorem BRun.qf2b {m : Nat} (hg : o.g = none) (hd : dstOk n o.dst = true) (h0 : qfun P (HS 0) (ev E) o.op = some v) (h1 : qfun P (HS 1) (ev E) o.op = some v) (hr : BRun P n HS m l sl bl K (putE E o.dst v)) : BRun P n HS m (o :: l) (none :: sl) (1 :: bl) K E :=
  .q1 hg hd (fun c hc hb => ql_fun (by rcases (by omega : c = 0 ∨ c = 1) with h | h <;> subst h <;> assumption)) hr
theorem BRun.qf3 (hg : o.g = none) (hd : dstOk n o.dst = true) (h0 : qfun P (HS 0) (ev E) o.op = some v) (h1 : qfun P (HS 1) (ev E) o.op = some v) (h2 : qfun P (HS 2) (ev E) o.op = some v) (h3 : qfun P (HS 3) (ev E) o.op = some v) (hr : BRun P n HS 3 l sl bl K (putE E o.dst v)) : BRun P n HS 3 (o :: l) (none :: sl) (3 :: bl) K E :=
  .q1 hg hd (fun c hc hb => ql_fun (by rcases (by omega : c = 0 ∨ c = 1 ∨ c = 2 ∨ c = 3) with h | h | h | h <;> subst h <;> assumption)) hr
theorem BRun.qf2 (hg : o.g = none) (hd : dstOk n o.dst = true) (h0 : qfun P (HS 0) (ev E) o.op = some v) (h1 : qfun P (HS 1) (ev E) o.op = some v) (h2 : qfun P (HS 2) (ev E) o.op = some v) (hr : BRun P n HS 2 l sl bl K (putE E o.dst v)) : BRun P n HS 2 (o :: l) (none :: sl) (2 :: bl) K E :=
  .q1 hg hd (fun c hc hb => ql_fun (by rcases (by omega : c = 0 ∨ c = 1 ∨ c = 2) with h | h | h <;> subst h <;> assumption)) hr
end
end Go.Ab
namespace Go.Ab
open Go Go.RowKit
theorem Wk.wf {n : Fr} {E E2 : Env} {H H2 : List ABlk} (hH : H = H2 := by rfl) (h : WkE E E2 := by repeat (first | exact trivial | refine And.intro (Le.of_eq rfl) ?_ | refine And.intro (Le.bad _) ?_ | refine And.intro (Le.under_true _) ?_)) : Wk n ⟨E, H⟩ ⟨E2, H2⟩ := .env2 hH h
theorem Wk.tf {n : Fr} {E E2 : Env} {H H2 : List ABlk} (k : Nat) (hc : ∀ blk ∈ H2, ∀ e ∈ blk.es, ∀ c ∈ e.cells, Pub H k c c) (hm : n.m ≤ k := by decide) (h2 : H.take k = H2 := by rfl)
    (h : WkP H k E E2 := by repeat (first | exact trivial | refine And.intro (Pub.bad _) ?_ | refine And.intro (Pub.pu (.base _)) ?_ | refine And.intro (Pub.ptr (by decide)) ?_ | refine And.intro (Pub.own (by decide)) ?_ | refine And.intro (PubR.mapv (pre_lt (by decide))) ?_ | refine And.intro (Pub.pu (a := AV.lst _) (by simp; done)) ?_ | refine And.intro (Pub.pu (a := AV.agg _) (by simp; done)) ?_ | refine And.intro (Pub.pu (a := AV.iptr _ _) (by simp; done)) ?_ | refine And.intro (Pub.pu (by simp; done)) ?_)) : Wk n ⟨E, H⟩ ⟨E2, H2⟩ := .trimM k hm h2 h hc
end Go.Ab
namespace Go.Ab
open Go Go.RowKit
theorem lk_hit (E : Env) (t : Nat) (v : AV) : lk ((t, v) :: E) t = v := if_pos rfl
theorem lk_miss (E : Env) (k t : Nat) (v : AV) (h : Nat.beq k t = false) : lk ((k, v) :: E) t = lk E t := if_neg (fun e => by subst e; rw [Nat.beq_refl] at h; cases h)
theorem lk_put (E : Env) (d t : Nat) (v : AV) : lk (putE E (some d) v) t = lk ((d, v) :: E) t := rfl
theorem lk_putN (E : Env) (t : Nat) (v : AV) : lk (putE E none v) t = lk E t := rfl
section
variable {P : Program} {n : Fr} {Q : Exit → ASt → Prop} {c : Code}
theorem keF {E E' : Env} {H : List ABlk} (ts : List Nat) (h : AWp P n c Q ⟨E', H⟩) (hE : keepE E ts = E' := by (simp +decide only [keepE, ↓lk_hit, ↓lk_miss, ↓lk_put, ↓lk_putN, List.cons_append, List.nil_append, cut_nil, cut_cons, keys_nil, keys_cons] <;> rfl)) : AWp P n c Q ⟨E, H⟩ :=
  AWp.only ts (by rw [← keepE_eq, hE]; exact h)
end
end Go.Ab
namespace Go.Ab
open Go Go.RowKit
section
variable {p q : Prop}
theorem reA (h : q) (k : Hid q → p := by intro hq__; (repeat (with_reducible apply zs)); ((with_reducible apply zR); (refine ⟨rfl, rfl, ?_⟩; simp +decide only [go_sem, List.map]; rfl)); (repeat (first | ((with_reducible apply zG); (simp +decide only [go_sem]; rfl); (simp +decide only [go_sem]; (repeat simp +decide only [go_sem]); rfl)) | (refine zp rfl rfl (pl_box (by simp +decide only [go_sem]; rfl) rfl) ?_) | (refine zp rfl rfl (pl_alloc (by simp only [go_sem]; rfl) rfl) ?_) | (refine zp rfl rfl (pl_store (by simp +decide only [go_sem]; rfl) (by simp +decide only [go_sem]; rfl) (by simp +decide only [go_sem]; rfl) (by rfl) (by rfl) (by kernel_rfl) (by rfl) (by rfl)) ?_) | (refine zq rfl rfl (qi rfl rfl (by simp only [go_sem]; rfl) (by first | omega | (simp; omega)) (by kernel_rfl)) ?_) | (refine zq rfl rfl (qo rfl rfl (by simp only [go_sem]; rfl) rfl (by first | omega | (simp; omega)) (by simp only [go_sem] <;> rfl)) ?_) | (refine zq rfl rfl (qw 0 _ rfl rfl (by first | rfl | (simp only [Nat.zero_add] <;> rfl)) (by first | omega | (simp; omega)) (by simp only [go_sem] <;> rfl)) ?_) | (refine zq rfl rfl (qb (by simp only [go_sem]; rfl) (by simp only [go_sem]; rfl) (by decide) (by kernel_rfl) (by simp +decide only [List.map, go_sem] <;> rfl) (by simp +decide only [List.map, go_sem] <;> rfl) (by rfl)) ?_) | (refine zq rfl rfl (qn rfl rfl) ?_) | (refine zq rfl rfl (qx rfl rfl) ?_))); exact hq__.out) : p := k ⟨h⟩
theorem rcA (h : q) (k : Hid q → p := by intro hq__; (repeat (first | ((with_reducible apply zG); (simp +decide only [go_sem]; rfl); (simp +decide only [go_sem]; (repeat simp +decide only [go_sem]); rfl)) | (refine zp rfl rfl (pl_box (by simp +decide only [go_sem]; rfl) rfl) ?_) | (refine zp rfl rfl (pl_alloc (by simp only [go_sem]; rfl) rfl) ?_) | (refine zp rfl rfl (pl_store (by simp +decide only [go_sem]; rfl) (by simp +decide only [go_sem]; rfl) (by simp +decide only [go_sem]; rfl) (by rfl) (by rfl) (by kernel_rfl) (by rfl) (by rfl)) ?_) | (refine zq rfl rfl (qi rfl rfl (by simp only [go_sem]; rfl) (by first | omega | (simp; omega)) (by kernel_rfl)) ?_) | (refine zq rfl rfl (qo rfl rfl (by simp only [go_sem]; rfl) rfl (by first | omega | (simp; omega)) (by simp only [go_sem] <;> rfl)) ?_) | (refine zq rfl rfl (qw 0 _ rfl rfl (by first | rfl | (simp only [Nat.zero_add] <;> rfl)) (by first | omega | (simp; omega)) (by simp only [go_sem] <;> rfl)) ?_) | (refine zq rfl rfl (qb (by simp only [go_sem]; rfl) (by simp only [go_sem]; rfl) (by decide) (by kernel_rfl) (by simp +decide only [List.map, go_sem] <;> rfl) (by simp +decide only [List.map, go_sem] <;> rfl) (by rfl)) ?_) | (refine zq rfl rfl (qn rfl rfl) ?_) | (refine zq rfl rfl (qx rfl rfl) ?_))); exact hq__.out) : p := k ⟨h⟩
end
section
variable {P : Program} {n : Fr} {q : Bool} {K : ASt → Prop} {Q : Exit → ASt → Prop} {s : ASt}
theorem zOut (h : K s) : ARun P n q [] (thenQ K Q .normal) s := zN (z1 h)
end
end Go.Ab
