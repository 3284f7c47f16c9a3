/- Part of the proof. -/
import Derived.Test.YthgicbkdckpeaaaDoorG49
import Derived.Test.YthgicbkdckpeaaaDoorG51
import Derived.Test.YthgicbkdckpeaaaDoorG48
import Derived.Test.YthgicbkdckpeaaaDoorG20
set_option linter.unusedSimpArgs false
set_option linter.unusedVariables false
set_option maxHeartbeats 4000000
namespace Go.Ab
open Go Go.Ab Go.Proofs Go.Ab.Ty

theorem CallE.run0 {R : PRun} : CallE [] [] [] (HH R) (HH R) := CallE.all (H := []) (H' := HH R) (Nat.zero_le _)
theorem mvRan {H : List ABlk} : MvR (rb [] ([] : List ABlk).length) H (.tup [ptR, .int 0]) (.tup [ptR, .int 0]) := .tup' ⟨.ptr (by simp [rb, ix]), .pu (.base _), trivial⟩
abbrev bolV (b : Bool) : AV := .base (.bool b)
abbrev bolB (l : List Bool) : ABlk := ⟨4, 1, l.map bolV⟩
theorem canc_ok {mm : List (Nat × Obj)} (hmm : TabM mm) {p : Tk} {sched : List Int} (h : okRun p sched) : FnM Tryd.prog mm 18 [encT p, .lst (sched.map .int)] (.tup [.lst (((endF p sched).tasks.map (·.canc)).map bolV), .int 0]) := by
  obtain ⟨iran, hGE⟩ := ran_good hmm h
  obtain ⟨R, hR⟩ : ∃ R, R = endF p sched := ⟨_, rfl⟩
  rw [← hR] at iran hGE ⊢
  have hwR := hGE.iv.wf
  have hlR := HH_len R
  obtain ⟨co, me, ac⟩ := p
  clear hR
  refine FnM.intro' [(0, encT ⟨co, me, ac⟩), (1, .lst (sched.map .int))] 2 38 Tryd.func18 (by kernel_rfl) rfl rfl rfl rfl rfl ?_
  refine AWp.seq ?_
  refine AWp.join ⟨[(1, .lst (sched.map .int)), (2, .iptr (encT ⟨co, me, ac⟩) 0), (memSlot, .mem mm)], []⟩ ?_ ?_
  · refine goF ?_
    exact Wk.selB [] List.nodup_nil (fun b hb => absurd hb (Nat.not_lt_zero _)) trivial (WkR.all ⟨.pu (Pu_mapInt _), .iptr rfl rfl rfl rfl ⟨.pu (Pu_mapC _), .pu (Pu_mapC _), .pu (.base _), trivial⟩, .pu (.mem _), trivial⟩)
  refine AWp.seq ?_
  refine AWp.join ⟨[(6, ptR), (7, .int 0), (memSlot, .mem mm)], HH R⟩ ?_ ?_
  · refine reS ?_
    refine ARun.p1 rfl rfl (pl_callHM iran (.inr (by simp +decide only [go_sem, *] <;> rfl)) .run0 rfl (by simp +decide only [go_sem, *] <;> rfl) (args := [encT ⟨co, me, ac⟩, .lst (sched.map .int)]) ?_ mvRan) ?_
    · exact ⟨.pu (Pu_encT ⟨co, me, ac⟩), .pu (Pu_mapInt _), trivial⟩
    refine goF ?_
    exact .wf
  clear iran
  refine goF ?_
  refine iff_ ?_ rfl (by simp +decide only [go_sem, *] <;> rfl)
  refine AWp.skip ?_
  refine goF ?_
  refine AWp.weaken (Wk.nilC (E2 := [(6, ptR), (8, .own NN 0 0 0), (23, .own (ix .tk) R.tasks.length 0 R.tasks.length), (24, .int R.tasks.length), (25, .int 0)]) (H2 := HH R) 4 1 (NilB.rf (S := (· < NN)) (HH_rn hwR)) ⟨.ptr, .nil hlR, .own, .pu (.base _), .pu (.base _), trivial⟩) ?_
  refine AWp.loop (J := fun i : Nat => i ≤ R.tasks.length) (fun i => ⟨[(6, ptR), (8, .own NN i 0 i), (23, .own (ix .tk) R.tasks.length 0 R.tasks.length), (24, .int R.tasks.length), (25, .int i)], HH R ++ [bolB ((R.tasks.take i).map (·.canc))]⟩) (fun i => R.tasks.length - i) 0 (Nat.zero_le _) (.wf (hH := by simp)) ?_
  rintro i hi
  by_cases hlt : i < R.tasks.length
  · have hd : decide ((i : Int) < (R.tasks.length : Int)) = true := decide_eq_true (by omega)
    obtain ⟨t, ht⟩ : ∃ t, R.tasks[i]? = some t := ⟨_, List.getElem?_eq_getElem hlt⟩
    obtain ⟨g1, g2, g3, g4, _, g6⟩ := hwR.k ht
    have hn32 := hwR.nT
    have htk : R.tasks.take (i + 1) = R.tasks.take i ++ [t] := by rw [List.take_add_one, ht]; rfl
    obtain ⟨l1, hl1⟩ : ∃ l1, l1 = (R.tasks.take i).map (·.canc) := ⟨_, rfl⟩
    have hn1 : Hid ((R.tasks.take (i + 1)).map (·.canc) = l1 ++ [t.canc]) := ⟨by rw [htk, List.map_append, ← hl1]; rfl⟩
    have hll1 : l1.length = i := by rw [hl1]; simp; omega
    rw [← hl1]
    clear hl1 htk
    refine goF ?_
    refine ift_ ?_ rfl (by simp +decide only [go_sem, *] <;> rfl)
    refine goF ?_
    refine ARun.q1 rfl rfl (ql_ixo (n := i) (b := ix .tk) (by simp +decide only [go_sem, *] <;> rfl) (by simp +decide only [go_sem, *] <;> rfl) Tryd.underlying80 (by simp +decide only [go_sem, *] <;> rfl) (by simp) hlt (by simp +decide only [go_sem, *] <;> rfl)) ?_
    refine goF ?_
    refine ARun.p1 rfl rfl (pl_append (b := NN) (tot := i) (es := [bolV t.canc]) (blk := bolB l1) (by simp +decide only [go_sem, *] <;> rfl) (by simp +decide only [go_sem, *] <;> rfl) (by simp +decide only [go_sem, *] <;> rfl) (by simp [hll1]) Tryd.underlying36 el4 rfl rfl (by simp) (fun e he => by rw [List.mem_singleton] at he; subst he; exact ⟨rfl, rfl⟩) (by simp; omega) (by simp; omega)) ?_
    refine goF ?_
    rw [wrap_succ (by omega)]
    refine ⟨i + 1, by omega, by omega, ?_⟩
    rw [hn1.out]
    exact .wf (hH := by simp)
  · have hd : decide ((i : Int) < (R.tasks.length : Int)) = false := decide_eq_false (by omega)
    have hin : R.tasks.length = i := by omega
    have hti : R.tasks.take i = R.tasks := by rw [← hin]; exact List.take_length
    rw [hti]
    obtain ⟨l1, hl1⟩ : ∃ l1, l1 = R.tasks.map (·.canc) := ⟨_, rfl⟩
    have hll1 : l1.length = i := by rw [hl1, List.length_map]; exact hin
    rw [← hl1]
    clear hl1 hti hin
    refine goF ?_
    refine iff_ ?_ rfl (by simp +decide only [go_sem, *] <;> rfl)
    refine goF ?_
    refine Ret.pub (vs := [.own NN i 0 i, .int 0]) (by show resVals _ _ [.tmp 4, .tmp 5] = _; simp +decide only [resVals, resVal, ldPtr, ldE, go_sem, *] <;> rfl) ?_
    exact .tup' ⟨.ownM (ty := 4) (sz := 1) (f := bolV) (Nat.zero_le _) (app_get0 hlR) hll1 (fun x _ c hc => by simp only [AV.cells, List.mem_singleton] at hc; subst hc; exact .base _), .pu (.base _), trivial⟩
theorem canc_bad {p : Tk} {sched : List Int} (e : Int) (he : e ≠ 0) (hck : Fn Tryd.prog 59 [encT p, .lst (sched.map .int)] (.int e)) :
    Fn Tryd.prog 18 [encT p, .lst (sched.map .int)] (.tup [nilS, .int e]) := by
  have ib := ran_bad e he hck
  refine Fn.intro' [(0, encT p), (1, .lst (sched.map .int))] 2 38 Tryd.func18 (by kernel_rfl) rfl rfl rfl rfl rfl ?_
  refine goF ?_
  refine callA (ib) ?_
  refine goF ?_
  have hd : (e != 0) = true := by simp [he]
  refine ift_ ?_ rfl (by simp +decide only [go_sem, *] <;> rfl)
  refine goF ?_
  exact Ret.data (vs := [nilS, .int e]) (by show resVals _ _ [.tmp 4, .tmp 5] = _; simp +decide only [resVals, resVal, ldPtr, ldE, go_sem, *] <;> rfl) rfl (Pu.tup (by
    intro a ha
    simp only [List.mem_cons, List.not_mem_nil, or_false] at ha
    rcases ha with rfl | rfl <;> exact .base _))
end Go.Ab
set_option maxHeartbeats 4000000
namespace Go.Ab
open Go Go.Ab Go.Proofs Go.Ab.Ty

def hvS : List Stp → Int → Option Int
  | [], n => some n
  | s :: l, n => if 50 < s.vars.length ∨ 2000 < n + 1 + s.vars.length then none else hvS l (n + 1 + s.vars.length)
def hvC : List Cd → Int → Option Int
  | [], n => some n
  | c :: l, n => if 60 < c.steps.length then none else match hvS c.steps n with
    | none => none
    | some m => hvC l m
def hvy (p : Tk) (n : Nat) : Bool := decide (20 < p.codes.length ∨ 20 < p.methods.length ∨ 300 < n) || (hvC (p.codes ++ p.methods) 0).isNone
theorem nth_app {α : Type} {d : α} {l m : List α} {i : Nat} : nth d (l ++ m) (i : Int) = if i < l.length then nth d l i else nth d m ((i : Int) - l.length) := by
  unfold nth
  split
  · rw [Int.toNat_natCast, List.getElem?_append_left (by omega)]
  · rw [Int.toNat_natCast, List.getElem?_append_right (by omega)]
    congr 2; omega
theorem code_at (p : Tk) (i : Nat) (hi : i < p.codes.length + p.methods.length) (hb : p.methods.length ≤ 1000) : Fn Tryd.prog 41 [encT p, .int i] (encC (Rg.cod (p.codes ++ p.methods) i)) := by
  obtain ⟨co, me, ac⟩ := p
  simp only at hi hb
  refine Fn.intro' [(0, encT ⟨co, me, ac⟩), (1, .int i)] 2 24 Tryd.func41 (by kernel_rfl) rfl rfl rfl rfl rfl ?_
  refine goB ?_
  refine ifA (fun hc => ?_) (fun hc => ?_)
  · simp at hc
    have hE : Rg.cod (co ++ me) i = Rg.cod co i := by unfold Rg.cod; rw [nth_app, if_pos hc]
    simp only [hE]
    refine goB ?_
    refine ARun.q1 rfl rfl (ql_idxD (l := co) (f := encC) Rg.cd0 rfl rfl Tryd.underlying22 (by omega) (by omega) (by kernel_rfl)) ?_
    refine goB ?_
    exact Ret.data (vs := [encC (Rg.cod co i)]) (by kernel_rfl) rfl (Pu_encC _)
  · simp at hc
    have hE : Rg.cod (co ++ me) i = Rg.cod me ((i : Int) - co.length) := by unfold Rg.cod; rw [nth_app, if_neg (by omega)]
    simp only [hE]
    refine goB ?_
    rw [wrap_id (x := (i : Int) - co.length) (by omega) (by omega)]
    refine ARun.q1 rfl rfl (ql_idxD (l := me) (f := encC) Rg.cd0 rfl rfl Tryd.underlying22 (by omega) (by omega) (by kernel_rfl)) ?_
    refine goB ?_
    exact Ret.data (vs := [encC (Rg.cod me ((i : Int) - co.length))]) (by kernel_rfl) rfl (Pu_encC _)
theorem heavy_ok (p : Tk) (sched : List Int) : Fn Tryd.prog 19 [encT p, .lst (sched.map .int)] (.bool (hvy p sched.length)) := by
  obtain ⟨co, me, ac⟩ := p
  refine Fn.intro' [(0, encT ⟨co, me, ac⟩), (1, .lst (sched.map .int))] 2 71 Tryd.func19 (by kernel_rfl) rfl rfl rfl rfl rfl ?_
  refine goB ?_
  by_cases h1 : 20 < co.length ∨ 20 < me.length ∨ 300 < sched.length
  · refine ift_ ?_ ?_ rfl
    rotate_left
    · by_cases a : 20 < co.length <;> by_cases b : 20 < me.length <;> by_cases d : 300 < sched.length <;> first | (exfalso; omega) | (simp [a, b, d] <;> omega)
    refine goB ?_
    exact Ret.bool rfl (by unfold hvy; simp [h1])
  refine iff_ ?_ ?_ rfl
  rotate_left
  · by_cases a : 20 < co.length <;> by_cases b : 20 < me.length <;> by_cases d : 300 < sched.length <;> first | (exfalso; omega) | (simp [a, b, d] <;> omega)
  have hv : hvy ⟨co, me, ac⟩ sched.length = (hvC (co ++ me) 0).isNone := by unfold hvy; simp [h1]
  rw [hv]
  refine goB ?_
  refine AWp.loop (J := fun x : Nat × Int => x.1 ≤ co.length + me.length ∧ 0 ≤ x.2 ∧ x.2 ≤ 2000 ∧ hvC ((co ++ me).drop x.1) x.2 = hvC (co ++ me) 0) (fun x => ⟨[(2, .ptr 0 1 0 0), (5, .int x.2), (6, .int x.1)], [⟨24, 3, [encT ⟨co, me, ac⟩]⟩]⟩) (fun x => co.length + me.length - x.1) (0, 0) ⟨Nat.zero_le _, by omega, by omega, rfl⟩ .wf ?_
  rintro ⟨i, n⟩ ⟨j1, j2, j3, j4⟩
  simp only at j1 j2 j3 j4
  refine goB ?_
  rw [wrap_id (x := (co.length : Int) + me.length) (by omega) (by omega)]
  by_cases hlt : i < co.length + me.length
  · have hd : decide ((i : Int) < (co.length : Int) + me.length) = true := decide_eq_true (by omega)
    refine ift_ ?_ hd rfl
    refine goB ?_
    refine callA (code_at ⟨co, me, ac⟩ i hlt (by simp only; omega)) ?_
    have hdr : (co ++ me).drop i = Rg.cod (co ++ me) i :: (co ++ me).drop (i + 1) := by
      rw [List.drop_eq_getElem_cons (by simp; omega)]
      congr 1
      exact (nth_at (List.getElem?_eq_getElem _)).symm
    rw [hdr] at j4
    generalize Rg.cod (co ++ me) i = cd at j4
    obtain ⟨cp, cv, ss⟩ := cd
    refine goB ?_
    by_cases h60 : 60 < ss.length
    · refine ift_ ?_ (decide_eq_true (by omega)) rfl
      refine goB ?_
      exact Ret.bool rfl (by
        rw [← j4]
        simp only [hvC]
        rw [if_pos h60]; simp)
    refine iff_ ?_ (decide_eq_false (by omega)) rfl
    refine goB ?_
    refine AWp.loop (J := fun x : Nat × Int => x.1 ≤ ss.length ∧ 0 ≤ x.2 ∧ x.2 ≤ 2000 ∧ hvS (ss.drop x.1) x.2 = hvS ss n) (fun x => ⟨[(2, .ptr 0 1 0 0), (5, .int x.2), (6, .int i), (7, .ptr 1 1 0 0), (8, .int x.1)], [⟨24, 3, [encT ⟨co, me, ac⟩]⟩, ⟨68, 3, [encC ⟨cp, cv, ss⟩]⟩]⟩) (fun x => ss.length - x.1) (0, n) ⟨Nat.zero_le _, j2, j3, rfl⟩ .wf ?_
    rintro ⟨k, m⟩ ⟨q1, q2, q3, q4⟩
    simp only at q1 q2 q3 q4
    refine goB ?_
    by_cases hk : k < ss.length
    · refine ift_ ?_ (decide_eq_true (by omega)) rfl
      have hds : ss.drop k = nth Rg.stp0 ss k :: ss.drop (k + 1) := by
        rw [List.drop_eq_getElem_cons hk]
        congr 1
        exact (nth_at (List.getElem?_eq_getElem _)).symm
      rw [hds] at q4
      refine goB ?_
      refine ARun.q1 rfl rfl (ql_idxD (l := ss) (f := encS) Rg.stp0 rfl rfl Tryd.underlying66 (by omega) (by omega) (by kernel_rfl)) ?_
      generalize hst : nth Rg.stp0 ss k = st at q4
      obtain ⟨op, v, w, nn, tk, vs⟩ := st
      refine goB ?_
      rw [wrap_id (x := m + 1) (by omega) (by omega)]
      refine ARun.q1 rfl rfl (ql_idxD (l := ss) (f := encS) Rg.stp0 rfl rfl Tryd.underlying66 (by omega) (by omega) (by kernel_rfl)) ?_
      rw [hst]
      refine goB ?_
      by_cases h50 : 50 < vs.length
      · refine ift_ ?_ ?_ rfl
        rotate_left
        · have : decide ((vs.length : Int) > 50) = true := decide_eq_true (by omega)
          rw [this]; rfl
        refine goB ?_
        exact Ret.bool rfl (by
          rw [← j4]
          simp only [hvC]
          rw [if_neg h60, ← q4]
          simp only [hvS]
          rw [if_pos (.inl h50)]; simp)
      have hd50 : decide ((vs.length : Int) > 50) = false := decide_eq_false (by omega)
      rw [wrap_id (x := m + 1 + vs.length) (by omega) (by omega)]
      by_cases h2k : 2000 < m + 1 + vs.length
      · refine ift_ ?_ ?_ rfl
        rotate_left
        · have : decide (m + 1 + (vs.length : Int) > 2000) = true := decide_eq_true (by omega)
          rw [hd50, this]; rfl
        refine goB ?_
        exact Ret.bool rfl (by
          rw [← j4]
          simp only [hvC]
          rw [if_neg h60, ← q4]
          simp only [hvS]
          rw [if_pos (.inr h2k)]; simp)
      refine iff_ ?_ ?_ rfl
      rotate_left
      · have : decide (m + 1 + (vs.length : Int) > 2000) = false := decide_eq_false (by omega)
        rw [hd50, this]; rfl
      refine goB ?_
      rw [wrap_succ (by omega)]
      refine ⟨(k + 1, m + 1 + vs.length), ⟨by show k + 1 ≤ _; omega, by show 0 ≤ m + 1 + (vs.length : Int); omega, by show m + 1 + (vs.length : Int) ≤ 2000; omega, ?_⟩, by show ss.length - (k + 1) < ss.length - k; omega, .wf⟩
      rw [← q4]
      simp only [hvS]
      rw [if_neg (by omega)]
    · refine iff_ ?_ (decide_eq_false (by omega)) rfl
      refine goB ?_
      rw [wrap_succ (by omega)]
      refine ⟨(i + 1, m), ⟨by show i + 1 ≤ _; omega, q2, q3, ?_⟩, by show co.length + me.length - (i + 1) < co.length + me.length - i; omega, ?_⟩
      · rw [← j4]
        have hnil : ss.drop k = [] := List.drop_eq_nil_of_le (by omega)
        rw [hnil] at q4
        simp only [hvS] at q4
        simp only [hvC]
        rw [if_neg h60, ← q4]
      · exact .trim' 1 rfl (by simp +decide only [go_sem, WkP]; exact ⟨.ptr (by decide), .pu (.base _), .pu (.base _)⟩) (Rg.Pub_blkT ⟨co, me, ac⟩)
  · refine iff_ ?_ (decide_eq_false (by omega)) rfl
    refine goB ?_
    exact Ret.bool rfl (by
      rw [← j4, List.drop_eq_nil_of_le (by simp; omega)]
      simp [hvC])
end Go.Ab
set_option maxHeartbeats 4000000
namespace Go.Ab
open Go Go.Ab Go.Proofs Go.Ab.Ty

def PRun.ws (s : PRun) (l : List Int) (u : Int) : PRun := { s with sched := l, used := u }
theorem kidsJ_ws (l : List Int) (u : Int) : ∀ (ks : List Int) (s : PRun) (e : Nat), kidsJ (s.ws l u) e ks = ((kidsJ s e ks).1.ws l u, (kidsJ s e ks).2) := by
  intro ks
  induction ks with
  | nil => intro s e; rfl
  | cons k ks ih =>
    intro s e
    have e1 : (s.ws l u).tasks = s.tasks := rfl
    have e2 : (s.ws l u).ends = s.ends := rfl
    simp only [kidsJ, e1, e2]
    split
    · split
      · exact ih (s.addP _) _
      · rfl
    · rfl
theorem wakeP_ws (s : PRun) (p : Nat) (tp : PTask) (e : Nat) (l : List Int) (u : Int) : wakeP (s.ws l u) p tp e = (wakeP s p tp e).ws l u := by
  unfold wakeP
  have e1 : (s.ws l u).calls = s.calls := rfl
  rw [e1]
  split
  · split
    · rfl
    · rfl
  · rfl
theorem goOnF_ws {S : PRun → Nat → PRun} {l : List Int} {u : Int} (hS : ∀ s n, S (s.ws l u) n = (S s n).ws l u) (s : PRun) (n j : Nat) : goOnF S (s.ws l u) n j = (goOnF S s n j).ws l u := by
  unfold goOnF
  have e1 : (s.ws l u).tasks = s.tasks := rfl
  have e2 : (s.ws l u).calls = s.calls := rfl
  rw [e1, e2]
  cases ht : s.tasks[n]? with
  | none => rfl
  | some t =>
    cases hc : s.calls[j]? with
    | none => rfl
    | some c =>
      simp only
      have e3 : ((s.ws l u).cset j { c with pc := c.pc + 1 }).calls = (s.cset j { c with pc := c.pc + 1 }).calls := rfl
      rw [e3]
      split
      · exact hS ((s.cset j { c with pc := c.pc + 1 }).tset n (clo { t with slen := 1 } 3)) n
      · rfl
theorem settleF_ws (l : List Int) (u : Int) : ∀ (f : Nat) (s : PRun) (n : Nat), settleF f (s.ws l u) n = (settleF f s n).ws l u := by
  intro f
  induction f with
  | zero => intro s n; rfl
  | succ f ih =>
    intro s n
    have e1 : (s.ws l u).tasks = s.tasks := rfl
    simp only [settleF, e1]
    cases ht : s.tasks[n]? with
    | none => rfl
    | some t =>
      simp only
      split
      · rfl
      · rw [kidsJ_ws]
        obtain ⟨K, hK⟩ : ∃ K, K = kidsJ s t.clk t.kids := ⟨_, rfl⟩
        rw [← hK]
        obtain ⟨s1, e, b⟩ := K
        cases b with
        | false => rfl
        | true =>
          simp only
          split
          · rfl
          · have e2 : (s1.ws l u).tasks = s1.tasks := rfl
            rw [e2]
            cases hp : s1.tasks[t.par.toNat]? with
            | none => rfl
            | some tp =>
              simp only
              split
              · have := goOnF_ws ih (wakeP ((s1.enS n e).tset n { t with state := t.ending }) t.par.toNat tp e) t.par.toNat (topJ tp)
                rw [← wakeP_ws] at this
                exact this
              · exact ih ((s1.enS n e).tset n { t with state := t.ending }) t.par.toNat
theorem dsc_ws (s : PRun) (l : List Int) (u : Int) : ∀ f n, dsc (s.ws l u) f n = dsc s f n := by
  intro f
  induction f with
  | zero => intro n; rfl
  | succ f ih =>
    intro n
    have e1 : kidsF (s.ws l u) n = kidsF s n := rfl
    simp only [dsc, e1, ih]
theorem stopF_ws (s : PRun) (n : Nat) (l : List Int) (u : Int) : stopF (s.ws l u) n = (stopF s n).ws l u := by
  unfold stopF
  have e1 : (s.ws l u).tasks = s.tasks := rfl
  rw [e1]
  cases ht : s.tasks[n]? with
  | none => rfl
  | some t =>
    have e2 : canK (s.ws l u) t.kids = (canK s t.kids).ws l u := by
      unfold canK
      have : (fun k : Int => dsc (s.ws l u) ((s.ws l u).tasks.length) k.toNat) = fun k : Int => dsc s s.tasks.length k.toNat := funext fun k => dsc_ws s l u _ _
      rw [this]; rfl
    simp only
    rw [e2]
    exact settleF_ws l u (n + 1) ((canK s t.kids).tset n (clo t 4)) n
theorem startF_ws (s : PRun) (c : Cd) (vs a : List Int) (prio par : Int) (canc : Bool) (l : List Int) (u : Int) : startF (s.ws l u) c vs a prio par canc = (startF s c vs a prio par canc).ws l u := by
  unfold startF
  split
  · exact settleF_ws l u (s.tasks.length + 1) ((startS s c vs a prio par canc).tset s.tasks.length (clo (newT s.calls.length prio canc par s.pool.length) 3)) s.tasks.length
  · rfl
theorem ws_ite {P : Prop} [Decidable P] {a b a' b' : Bool × PRun} {l : List Int} {u : Int} (h1 : a = (a'.1, a'.2.ws l u)) (h2 : b = (b'.1, b'.2.ws l u)) : (if P then a else b) = ((if P then a' else b').1, (if P then a' else b').2.ws l u) := by
  split
  · exact h1
  · exact h2
theorem stepF_ws (s : PRun) (n j : Nat) (t : PTask) (c : PCall) (st : Stp) (time : Int) (l : List Int) (u : Int) : stepF (s.ws l u) n j t c st time = ((stepF s n j t c st time).1, (stepF s n j t c st time).2.ws l u) := by
  have ho : ∀ o, objAt (s.ws l u) o = objAt s o := fun o => rfl
  have hov : ∀ k, ovr (s.ws l u) k = ovr s k := fun k => rfl
  have hp : (s.ws l u).p = s.p := rfl
  have hd : dsc (s.ws l u) (s.ws l u).tasks.length (kidN t st.n) = dsc s s.tasks.length (kidN t st.n) := dsc_ws s l u _ _
  unfold stepF
  rw [hov, hp, hd, stopF_ws]
  have hst := startF_ws s (cdAt s.p.codes st.task) (givL c st.vars) (s.pool.getD t.clk []) st.n n t.canc l u
  have hpl : (s.ws l u).pool = s.pool := rfl
  rw [hpl, hst]
  exact ws_ite rfl (ws_ite (by simp only [ho]; split <;> rfl) (ws_ite rfl (ws_ite rfl (ws_ite rfl (ws_ite rfl (ws_ite (ws_ite rfl rfl) (ws_ite rfl (ws_ite (ws_ite rfl rfl) (ws_ite rfl (ws_ite (ws_ite rfl rfl) rfl))))))))))
theorem turnB_ws (s : PRun) (n : Nat) (c : PCall) (st : Stp) (l : List Int) (u : Int) : turnB (s.ws l u) n c st = (turnB s n c st).ws l u := by
  have hb : ∀ s : PRun, behK (s.ws l u) n = (behK s n).ws l u := fun s => by
    unfold behK
    have : tkAt (s.ws l u) n = tkAt s n := rfl
    rw [this]
    split <;> rfl
  have hw : ∀ s : PRun, awK (s.ws l u) n st = (awK s n st).ws l u := fun s => by
    unfold awK
    have e1 : ∀ k, ovr (s.ws l u) k = ovr s k := fun k => rfl
    have e2 : tkAt (s.ws l u) n = tkAt s n := rfl
    rw [e1, e2]
    split <;> rfl
  have ha : ∀ (s : PRun) (b : Bool) (a : Int), acK (s.ws l u) n b a = (acK s n b a).ws l u := fun s b a => by
    unfold acK
    split <;> rfl
  have hs : ∀ (s : PRun) (b : Bool) (a : Int), actS (s.ws l u) n b a = (actS s n b a).ws l u := fun s b a => by
    unfold actS
    split <;> rfl
  have hcn : canF (s.ws l u) c st = canF s c st := rfl
  unfold turnB
  have e0 : turnA (s.ws l u) n = (turnA s n).ws l u := rfl
  rw [hcn, e0, hb]
  have e1 : ∀ s : PRun, nobS (s.ws l u) n = (nobS s n).ws l u := fun s => rfl
  rw [e1, hw, ha]
  have e2 : ∀ (s : PRun) (x : Int), timeS (s.ws l u) n x = (timeS s n x).ws l u := fun s x => rfl
  have e3 : (s.ws l u).turns = s.turns := rfl
  rw [e2, hs, e3]
  rfl
theorem turnF_ws (s : PRun) (n : Nat) (l : List Int) (u : Int) : turnF (s.ws l u) n = (turnF s n).ws l u := by
  have e1 : tkAt (s.ws l u) n = tkAt s n := rfl
  have e2 : ∀ j, clAt (s.ws l u) j = clAt s j := fun j => rfl
  unfold turnF
  rw [e1, e2]
  obtain ⟨c, hc⟩ : ∃ c, c = clAt s (topJ (tkAt s n)) := ⟨_, rfl⟩
  rw [← hc]
  have hcn : canF (s.ws l u) c (stAt c) = canF s c (stAt c) := rfl
  have htu : (s.ws l u).turns = s.turns := rfl
  unfold turnX
  rw [hcn, turnB_ws, stopF_ws, htu]
  have e3 : tkAt ((turnB s n c (stAt c)).ws l u) n = tkAt (turnB s n c (stAt c)) n := rfl
  rw [e3, stepF_ws]
  split
  · rfl
  · simp only
    split
    · rfl
    · obtain ⟨X, hX⟩ : ∃ X, X = (stepF (turnB s n c (stAt c)) n (topJ (tkAt s n)) (tkAt (turnB s n c (stAt c)) n) c (stAt c) s.turns.length).2 := ⟨_, rfl⟩
      rw [← hX]
      unfold turnG
      split
      · exact goOnF_ws (settleF_ws l u (n + 1)) (hasS X n c.actor) n _
      · exact goOnF_ws (settleF_ws l u (n + 1)) X n _
theorem readyF_ws (s : PRun) (l : List Int) (u : Int) : readyF (s.ws l u) = readyF s := by
  have hb : ∀ k, blkT (s.ws l u) k = blkT s k := fun k => rfl
  have key : ∀ (E : List Int) (m : Nat), rdF (s.ws l u) E m = rdF s E m := by
    intro E m
    induction m with
    | zero => rfl
    | succ m ih =>
      have e1 : (s.ws l u).tasks = s.tasks := rfl
      simp only [rdF, ih, e1, hb]
  unfold readyF
  exact congrArg (·.2) (key (effF s) s.tasks.length)
structure Zr (k : Nat) (s s' : PRun) : Prop where
  eq : s' = s.ws (s.sched ++ List.replicate k 0) s'.used
  us : s'.used = s.used ∨ (s.used = (s.sched.length : Int) ∧ s.used ≤ s'.used)
theorem Zr.sch {k : Nat} {s s' : PRun} (h : Zr k s s') (hz : 0 ≤ s.used ∧ s.used ≤ (s.sched.length : Int)) : schF s' = schF s := by
  have e : s'.sched = s.sched ++ List.replicate k 0 := by rw [h.eq]; rfl
  unfold schF
  rw [e]
  have hr : ∀ i : Nat, s.sched.length ≤ i → (s.sched ++ List.replicate k 0).getD i 0 = 0 := fun i hi => by
    rw [List.getD_eq_getElem?_getD, List.getElem?_append_right hi, List.getElem?_replicate]
    split <;> rfl
  by_cases hlt : s.used < (s.sched.length : Int)
  · have hu : s'.used = s.used := by rcases h.us with g | g <;> omega
    rw [if_pos hlt, hu, if_pos (by simp; omega), List.getD_eq_getElem?_getD, List.getElem?_append_left (by omega), ← List.getD_eq_getElem?_getD]
  · rw [if_neg hlt]
    split
    · exact hr _ (by rcases h.us with g | g <;> omega)
    · rfl
theorem Zr.pik {k : Nat} {s s' : PRun} (h : Zr k s s') (hz : 0 ≤ s.used ∧ s.used ≤ (s.sched.length : Int)) : Zr k (pikF s) (pikF s') := by
  have e : s'.sched = s.sched ++ List.replicate k 0 := by rw [h.eq]; rfl
  have hr : readyF s' = readyF s := by rw [h.eq]; exact readyF_ws s _ _
  unfold pikF
  rw [hr]
  split
  · exact h
  · by_cases hlt : s.used < (s.sched.length : Int)
    · have hu : s'.used = s.used := by rcases h.us with g | g <;> omega
      rw [if_pos hlt, if_pos (by rw [e, hu]; simp; omega)]
      refine ⟨?_, .inl (by show s'.used + 1 = s.used + 1; rw [hu])⟩
      obtain ⟨h1, _⟩ := h
      rw [h1]; rfl
    · rw [if_neg hlt]
      split
      · refine ⟨?_, .inr ⟨by omega, by show s.used ≤ s'.used + 1; rcases h.us with g | g <;> omega⟩⟩
        obtain ⟨h1, _⟩ := h
        rw [h1]; rfl
      · exact h
theorem Zr.run {k : Nat} : ∀ (f : Nat) (s s' : PRun), RI s → Zr k s s' → Zr k (runF f s) (runF f s') := by
  intro f
  induction f with
  | zero => intro s s' _ h; exact h
  | succ f ih =>
    intro s s' hR h
    have hz := hR.gg.sz.us
    have hr : readyF s' = readyF s := by rw [h.eq]; exact readyF_ws s _ _
    have ht : s'.turns = s.turns := by rw [h.eq]; rfl
    have hP := h.pik hz
    unfold runF
    rw [ht, hr]
    split
    · rename_i htn
      split
      · exact hP
      · rename_i hne
        have hc : chF s' = chF s := by unfold chF; rw [hr, h.sch hz]
        rw [hc]
        refine ih _ _ (hR.turn htn hne).1 ?_
        have he := hP.eq
        have hu := hP.us
        obtain ⟨u, hu1⟩ : ∃ u, u = (pikF s').used := ⟨_, rfl⟩
        rw [← hu1] at he hu
        rw [he]
        have hX : (turnF (pikF s) (chF s).toNat).sched = (pikF s).sched ∧ (turnF (pikF s) (chF s).toNat).used = (pikF s).used := by
          have q := turnF_ws (pikF s) (chF s).toNat (pikF s).sched (pikF s).used
          have q0 : (pikF s).ws (pikF s).sched (pikF s).used = pikF s := rfl
          rw [q0] at q
          rw [q]; exact ⟨rfl, rfl⟩
        rw [turnF_ws]
        refine ⟨?_, ?_⟩
        · rw [hX.1]; rfl
        · rw [hX.1, hX.2]; exact hu
    · exact h
theorem endF_zeros {p : Tk} {sched : List Int} {k : Nat} (h : okRun p sched) : ranV (endF p (sched ++ List.replicate k 0)) = ranV (endF p sched) := by
  obtain ⟨cd, hcd, hG, hT, _⟩ := new_gg h
  have hgd : p.codes.getD 0 ⟨0, 0, []⟩ = cd := getD_at hcd
  unfold endF
  rw [hgd]
  obtain ⟨t1, t2⟩ := newF_ti p sched cd
  have hn : newF p (sched ++ List.replicate k 0) cd = (newF p sched cd).ws (sched ++ List.replicate k 0) 0 := by
    unfold newF
    rw [← startF_ws]; rfl
  have hs : (newF p sched cd).sched = sched ∧ (newF p sched cd).used = 0 := by
    unfold newF
    have hF := startF_fx (nwS p sched (p.actors.toNat + cd.params.toNat) p.actors.toNat (List.replicate (p.actors.toNat + 1) m32)) cd (varsN p.actors.toNat cd.params.toNat) m32 0 (-1) false
    exact ⟨hF.sched, hF.used⟩
  have hZ : Zr k (newF p sched cd) (newF p (sched ++ List.replicate k 0) cd) := by
    rw [hn]
    refine ⟨by rw [hs.1]; rfl, .inl (by rw [hs.2]; rfl)⟩
  have hE := (hZ.run 2001 _ _ ⟨hG, t1, (by rw [hT]; intro x hx; cases hx), by omega⟩).eq
  rw [hE]; rfl
end Go.Ab
set_option maxHeartbeats 4000000
namespace Go.Ab
open Go Go.Ab Go.Proofs Go.Ab.Ty

theorem copyH_ok (l : List Int) (hb : l.length ≤ 1000) : FnH Tryd.prog 20 [.lst (l.map .int)] [] (.own 0 l.length 0 l.length) [intB l] := by
  refine FnH.intro' [(0, .lst (l.map .int))] 1 22 0 Tryd.func20 (by kernel_rfl) rfl rfl rfl rfl rfl rfl ?_
  refine goF ?_
  refine ARun.p1 rfl rfl (pl_make (n := 0) (m := l.length) (by simp +decide only [go_sem, *] <;> rfl) (by simp +decide only [go_sem, *] <;> rfl) Tryd.underlying25 el3 zero3 (by kernel_rfl) (by decide) (by omega) (by omega) (by omega)) ?_
  refine goF ?_
  refine AWp.loop (J := fun k : Nat => k ≤ l.length) (fun k => ⟨[(0, .lst (l.map .int)), (3, .own 0 k 0 k), (4, .int k)], [intB (l.take k)]⟩) (fun k => l.length - k) 0 (Nat.zero_le _) .wf ?_
  rintro k hk
  by_cases hlt : k < l.length
  · have hd : decide ((k : Int) < (l.length : Int)) = true := decide_eq_true (by omega)
    refine goF ?_
    refine ift_ ?_ rfl (by simp +decide only [go_sem, *] <;> rfl)
    refine goF ?_
    have hat : l[k]? = some (nth 0 l k) := by
      have := List.getElem?_eq_getElem hlt
      rw [nth_at this]; exact this
    have htk : Hid (l.take (k + 1) = l.take k ++ [nth 0 l k]) := ⟨by rw [List.take_add_one, hat]; rfl⟩
    refine ARun.p1 rfl rfl (pl_append (b := 0) (tot := k) (es := [.int (nth 0 l k)]) (blk := intB (l.take k)) (by simp +decide only [go_sem, *] <;> rfl) (by simp +decide only [go_sem, *] <;> rfl) (by simp +decide only [go_sem, *] <;> rfl) (by simp; omega) Tryd.underlying25 el3 rfl rfl (by simp) (fun e he => by rw [List.mem_singleton] at he; subst he; exact ⟨rfl, rfl⟩) (by simp; omega) (by simp; omega)) ?_
    refine goF ?_
    rw [wrap_succ (by omega)]
    refine ⟨k + 1, by omega, by omega, ?_⟩
    rw [htk.out]
    exact .wf (hH := by simp)
  · have hd : decide ((k : Int) < (l.length : Int)) = false := decide_eq_false (by omega)
    have hkl : k = l.length := by omega
    subst hkl
    rw [List.take_length]
    refine goF ?_
    refine iff_ ?_ rfl (by simp +decide only [go_sem, *] <;> rfl)
    refine goF ?_
    exact RetH.same (vs := [.own 0 l.length 0 l.length]) (by show resVals _ _ [.tmp 2] = _; simp +decide only [resVals, resVal, ldPtr, ldE, go_sem, *] <;> rfl) rfl rfl
end Go.Ab
set_option maxHeartbeats 4000000
namespace Go.Ab
open Go Go.Ab Go.Proofs Go.Ab.Ty

def trV (R : PRun) : TR := ⟨R.lines, R.accs, R.tasks.map (·.state), R.tasks.map (·.par), R.tasks.all fun t => decide (3 ≤ t.state), R.turns.length⟩
theorem ranV_tr (R : PRun) : ranV R = encR (trV R) := rfl
def tr0 : TR := ⟨[], [], [], [], false, 0⟩
abbrev n0R : AV := .agg [nilS, nilS, nilS, nilS, .base (.bool false), .int 0]
theorem n0R_le : Le n0R (encR tr0) := .aggL ⟨.nil, .nil, .nil, .nil, .refl _, .refl _, trivial⟩
theorem Pu_two (x y : TR) : ∀ a ∈ [encR x, encR y], Pu a := fun a ha => by
  simp only [List.mem_cons, List.not_mem_nil, or_false] at ha
  rcases ha with rfl | rfl
  · exact Pu_encR x
  · exact Pu_encR y
theorem Pu_args (p : Tk) (s : List Int) : ∀ a ∈ [encT p, AV.lst (s.map .int)], Pu a := fun a ha => by
  simp only [List.mem_cons, List.not_mem_nil, or_false] at ha
  rcases ha with rfl | rfl
  · exact Pu_encT p
  · exact Pu_mapInt _
theorem run_any {mm : List (Nat × Obj)} (hmm : TabM mm) (p : Tk) : (Rg.okValid p → ∀ sched : List Int, sched.length ≤ 200 → FnM Tryd.prog mm 17 [encT p, .lst (sched.map .int)] (.tup [encR (trV (endF p sched)), .int 0])) ∧ (¬ Rg.okValid p → ∀ sched : List Int, Fn Tryd.prog 17 [encT p, .lst (sched.map .int)] (.tup [n0R, .int 230])) := by
  refine ⟨fun hv sched hl => run_ok hmm ⟨hv, hl⟩, fun hv sched => run_bad 230 (by decide) ?_⟩
  have := checked_ok p sched false (by simp [hv])
  exact this
theorem law_zeros {mm : List (Nat × Obj)} (hmm : TabM mm) (p : Tk) (sched : List Int) (m : Nat) (hm : m ≤ 255) : FnM Tryd.prog mm 4 [encT p, .lst (sched.map .int), .base (.int .u8 m)] (.bool true) := by
  refine FnM.intro' [(0, encT p), (1, .lst (sched.map .int)), (2, .base (.int .u8 m))] 3 51 Tryd.func4 (by kernel_rfl) rfl rfl rfl rfl rfl ?_
  have hPu : ∀ (r : Nat → Option Nat) (H : List ABlk), PubRL r H (encT p).cells (encT p).cells := fun r H => ⟨.pu (Pu_mapC _), .pu (Pu_mapC _), .pu (.base _), trivial⟩
  refine AWp.seq ?_
  refine AWp.join ⟨[(1, .lst (sched.map .int)), (2, .base (.int .u8 m)), (3, .iptr (encT p) 0), (memSlot, .mem mm)], []⟩ ?_ ?_
  · refine goB ?_
    exact Wk.selB [] List.nodup_nil (fun b hb => absurd hb (Nat.not_lt_zero _)) trivial (WkR.all ⟨.pu (Pu_mapInt _), .pu (.base _), .iptr rfl rfl rfl rfl (hPu _ _), .pu (.mem _), trivial⟩)
  refine goB ?_
  refine callA (heavy_ok p sched) ?_
  refine goB ?_
  have hw1 : IntKind.i64.wrap (m : Int) = m := wrap_id (by omega) (by omega)
  rw [hw1]
  have hw2 : IntKind.i64.wrap (200 - (m : Int)) = 200 - m := wrap_id (by omega) (by omega)
  rw [hw2]
  refine AWp.cond rfl (fun hc => ?_) (fun hc => ?_)
  · clear hc
    refine goB ?_
    exact Ret.data (vs := [.bool true]) rfl rfl (.base _)
  refine AWp.skip ?_
  have hsl : sched.length + m ≤ 200 := by
    cases hv : hvy p sched.length with
    | true => rw [hv] at hc; cases hc
    | false =>
      rw [hv] at hc
      have := of_decide_eq_false hc
      omega
  clear hc hw2
  refine AWp.weaken (s2 := ⟨[(1, .lst (sched.map .int)), (2, .base (.int .u8 m)), (3, .iptr (encT p) 0), (memSlot, .mem mm)], []⟩) .wf ?_
  refine AWp.seq ?_
  refine AWp.join ⟨[(1, .lst (sched.map .int)), (3, .iptr (encT p) 0), (7, .lst ((sched ++ List.replicate m 0).map .int)), (memSlot, .mem mm)], []⟩ ?_ ?_
  · refine goB ?_
    refine ARun.p1 rfl rfl (pl_callW (copyH_ok sched (by omega)) (Nat.zero_le _) rfl (by simp +decide only [go_sem] <;> rfl) (by simp +decide only [go_sem] <;> rfl)) ?_
    refine goB ?_
    rw [hw1]
    refine ARun.p1 rfl rfl (pl_append_make (kq := .i64) (k := m) (l := sched) (by simp +decide only [go_sem] <;> rfl) (by simp +decide only [go_sem] <;> rfl) rfl rfl Tryd.underlying25 Tryd.underlying3 el3 zero3 (by omega)) ?_
    refine goB ?_
    exact Wk.selB [] List.nodup_nil (fun b hb => absurd hb (Nat.not_lt_zero _)) trivial (WkR.all ⟨.pu (Pu_mapInt _), .pu (.iptr fun c hc => Rg.Pu_cellsT p c hc), .ownM (ty := 3) (sz := 1) (f := AV.int) rfl rfl (by simp) (fun x _ c hc => by simp only [AV.cells, List.mem_singleton] at hc; subst hc; exact .base _), .pu (.mem _), trivial⟩)
  obtain ⟨ra, rb⟩ := run_any hmm p
  have iaw := awake_ok hmm
  by_cases hv : Rg.okValid p
  · have hz := endF_zeros (k := m) ⟨hv, show sched.length ≤ 200 by omega⟩
    rw [ranV_tr, ranV_tr] at hz
    have ir1 := ra hv sched (by omega)
    have ir2 := ra hv (sched ++ List.replicate m 0) (by simp; omega)
    rw [hz] at ir2
    generalize trV (endF p sched) = x at ir1 ir2
    obtain ⟨x1, x2, x3, x4, x5, x6⟩ := x
    clear hz ra rb
    refine goB ?_
    refine callA ir1 ?_ (hp := Pu_args _ _)
    refine goB ?_
    refine callA ir2 ?_ (hp := Pu_args _ _)
    refine goB ?_
    refine gcallA (i := fun hg => same_ok ⟨x1, x2, x3, x4, x5, x6⟩ ⟨x1, x2, x3, x4, x5, x6⟩) (hp := Pu_two _ _) (hr := ?_)
    refine goB ?_
    refine gcallA (i := fun hg => iaw) (hr := ?_)
    refine goB ?_
    exact Ret.bool rfl (by simp)
  · have ir1 := rb hv sched
    have ir2 := rb hv (sched ++ List.replicate m 0)
    have isa : Fn Tryd.prog 21 [n0R, n0R] (.bool (decide (tr0 = tr0))) := (same_ok tr0 tr0).le ⟨n0R_le, n0R_le, trivial⟩
    have hpn : ∀ a ∈ [n0R, n0R], Pu a := fun a ha => by
      have : a = n0R := by simpa using ha
      subst this
      refine .agg fun c hc => ?_
      simp only [List.mem_cons, List.not_mem_nil, or_false] at hc
      rcases hc with rfl | rfl | rfl | rfl | rfl | rfl <;> exact .base _
    clear ra rb
    refine goB ?_
    refine callA ir1 ?_ (hp := Pu_args _ _)
    refine goB ?_
    refine callA ir2 ?_ (hp := Pu_args _ _)
    refine goB ?_
    refine gcallA (i := fun hg => isa) (hp := hpn) (hr := ?_)
    refine goB ?_
    refine gcallA (i := fun hg => iaw) (hr := ?_)
    refine goB ?_
    exact Ret.bool rfl (by simp)
end Go.Ab
