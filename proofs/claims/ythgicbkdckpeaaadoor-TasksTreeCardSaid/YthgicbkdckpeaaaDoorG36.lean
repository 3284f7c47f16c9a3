/- Part of the proof. -/
import Derived.Test.YthgicbkdckpeaaaDoorG35
set_option linter.unusedSimpArgs false
set_option linter.unusedVariables false
set_option maxHeartbeats 4000000
namespace Go.Ab
open Go Go.Ab Go.Proofs Go.Ab.Ty

def varN (c : PCall) (v : Int) : Nat := (c.vars.getD v.toNat 0).toNat
def objAt (s : PRun) (o : Nat) : Int × Int := s.objs.getD o (0, -1)
def kidN (t : PTask) (i : Int) : Nat := ((getM t.spn i).getD 0).toNat
def cdAt (l : List Cd) (i : Int) : Cd := l.getD i.toNat ⟨0, 0, []⟩
def ovr (s : PRun) (k : Nat) : Bool := match s.tasks[k]? with
  | some t => decide (3 ≤ t.state)
  | none => false
def stepF (s : PRun) (n j : Nat) (t : PTask) (c : PCall) (st : Stp) (time : Int) : Bool × PRun :=
  if st.op = 1 then (true, (s.mkO st.n).cset j { c with vars := c.vars.set st.v.toNat s.objs.length })
  else if st.op = 2 then (true, if 0 ≤ (objAt s (varN c st.w)).2 then (s.addA ⟨whoF c n, varN c st.w, false, time⟩).cset j { c with vars := c.vars.set st.v.toNat (objAt s (varN c st.w)).2 }
    else ((((s.addA ⟨whoF c n, varN c st.w, false, time⟩).mkO 0).setO (varN c st.w) ((objAt s (varN c st.w)).1, s.objs.length)).addA ⟨whoF c n, varN c st.w, true, time⟩).cset j { c with vars := c.vars.set st.v.toNat s.objs.length })
  else if st.op = 3 then (true, (s.addA ⟨whoF c n, varN c st.v, true, time⟩).setO (varN c st.v) ((objAt s (varN c st.v)).1, c.vars.getD st.w.toNat 0))
  else if st.op = 4 then (true, (s.addA ⟨whoF c n, varN c st.v, false, time⟩).addL (lineF n (objAt s (varN c st.v)).1))
  else if st.op = 5 then (true, (s.addA ⟨whoF c n, varN c st.v, true, time⟩).setO (varN c st.v) (st.n, (objAt s (varN c st.v)).2))
  else if st.op = 6 then (true, (startF s (cdAt s.p.codes st.task) (givL c st.vars) (s.pool.getD t.clk []) st.n n t.canc).tset n { t with kids := t.kids ++ [(s.tasks.length : Int)], spn := if c.actor < 0 then setM t.spn c.pc s.tasks.length else t.spn })
  else if st.op = 7 then (if ovr s (kidN t st.n) then (true, s) else (false, s.tset n { t with waits := kidN t st.n, state := 2 }))
  else if st.op = 8 then (true, (s.addA ⟨-1 - (st.n.toNat : Int), st.n.toNat, true, time⟩).setO st.n.toNat ((objAt s st.n.toNat).1, c.vars.getD (st.vars.getD 0 0).toNat 0))
  else if st.op = 9 then (if (cdAt s.p.methods st.task).steps.length = 0 then (true, s.addC (newC (cdAt s.p.methods st.task) (givL c st.vars ++ [st.n]) st.n)) else (false, ((s.addC (newC (cdAt s.p.methods st.task) (givL c st.vars ++ [st.n]) st.n)).cset j { c with pc := c.pc + 1 }).tset n { t with sarr := pshF t.sarr t.slen s.calls.length, slen := t.slen + 1 }))
  else if st.op = 10 then (true, canL s (dsc s s.tasks.length (kidN t st.n)))
  else if st.op = 11 then (if t.canc then (false, stopF s n) else (true, s))
  else (true, s)
structure Tok (k : Nat) (s : PRun) (n j : Nat) (t : PTask) (c : PCall) (st : Stp) : Prop where
  iv : Iv s
  ht : s.tasks[n]? = some t
  hc : s.calls[j]? = some c
  hac : -1 ≤ c.actor ∧ c.actor ≤ 1000
  vok : Vok s c st
  ob : ∀ x ∈ s.objs, -1000000 ≤ x.1 ∧ x.1 ≤ 1000000
  szo : s.objs.length ≤ 900000
  sza : s.accs.length ≤ 800000
  szl : s.lines.length ≤ 900000
  tp : t.sarr[t.slen - 1]? = some j
  pcl : c.pc < c.code.steps.length
  st1 : t.state = 1
  en : t.ending = 0
  wt : t.waits < 0
  pc : 0 ≤ c.pc ∧ c.pc ≤ 1000000
  hC : s.calls.length < MM
  hP : s.pool.length + k ≤ MM
  hB : s.behs.length + 100 ≤ MM
  kl : t.kids.length ≤ 900
  sl : t.sarr.length ≤ 900
  vl : st.vars.length ≤ 900
  op : 1 ≤ st.op ∧ st.op ≤ 12
  r6 : st.op = 6 → 0 ≤ st.task ∧ ∃ cd, s.p.codes[st.task.toNat]? = some cd ∧ 0 ≤ cd.vars ∧ cd.vars ≤ 1000 ∧ (st.vars.length : Int) ≤ cd.vars ∧ cd.steps.length ≤ 1000
  r7 : st.op = 7 ∨ st.op = 10 → ∃ kc : Nat, getM t.spn st.n = some (kc : Int) ∧ kc < s.tasks.length
  r8 : st.op = 8 → 0 ≤ st.n ∧ st.n.toNat < s.objs.length ∧ 0 < st.vars.length
  r9 : st.op = 9 → 0 ≤ st.task ∧ ∃ cd, s.p.methods[st.task.toNat]? = some cd ∧ 0 ≤ cd.vars ∧ cd.vars ≤ 1000 ∧ (st.vars.length : Int) + 1 ≤ cd.vars ∧ cd.steps.length ≤ 1000
structure Sok (s : PRun) (n j : Nat) (t : PTask) (c : PCall) (st : Stp) : Prop extends Tok 40000 s n j t c st where
  can : canF s c st = true
  bh : t.beh = none
theorem inV_at {c : PCall} {v : Int} (h : inV c v) : ∃ vn : Nat, v = vn ∧ vn < c.vars.length ∧ c.vars[vn]? = some (c.vars.getD v.toNat 0) := by
  obtain ⟨h1, h2⟩ := h
  refine ⟨v.toNat, (Int.toNat_of_nonneg h1).symm, h2, ?_⟩
  rw [List.getD_eq_getElem?_getD, List.getElem?_eq_getElem h2]; rfl
theorem set_at {s : PRun} {c : PCall} {vs : List Int} {v : Int} (h : setB c vs = true) (hv : v ∈ vs) (hi : inV c v) (hob : ∀ x ∈ c.vars, x < s.objs.length) : ∃ vn : Nat, v = vn ∧ c.vars[vn]? = some ((varN c v : Nat) : Int) ∧ varN c v < s.objs.length ∧ s.objs[varN c v]? = some (objAt s (varN c v)) := by
  obtain ⟨vn, rfl, h1, h2⟩ := inV_at hi
  rw [Int.toNat_natCast] at h2
  have h3 : 0 ≤ c.vars.getD vn 0 := by
    unfold setB at h
    simp only [Bool.not_eq_true', List.any_eq_false, decide_eq_true_eq] at h
    have := h _ hv
    rw [Int.toNat_natCast] at this
    omega
  have h4 := hob _ (List.mem_of_getElem? h2)
  have h5 : ((varN c vn : Nat) : Int) = c.vars.getD vn 0 := by unfold varN; rw [Int.toNat_natCast]; exact Int.toNat_of_nonneg h3
  have h6 : varN c vn < s.objs.length := by omega
  refine ⟨vn, rfl, by rw [h2, h5], h6, ?_⟩
  unfold objAt
  rw [List.getD_eq_getElem?_getD, List.getElem?_eq_getElem h6]; rfl
theorem getD_at {α : Type} {l : List α} {i : Nat} {x d : α} (h : l[i]? = some x) : l.getD i d = x := by
  rw [List.getD_eq_getElem?_getD, h]; rfl
theorem step_ok {mm : List (Nat × Obj)} (hmm : TabM mm) {s : PRun} {n j : Nat} {t : PTask} {c : PCall} {st : Stp} {time : Int} (h : Sok s n j t c st) :
    FnHM Tryd.prog mm 91 [ptR, .int n, encS st, ptC j, .int time] (HH s) (.bool (stepF s n j t c st time).1) (HH (stepF s n j t c st time).2) := by
  have hiv := h.iv
  have hob := h.vok.ob
  obtain ⟨op, v, w, nn, tk, vs⟩ := st
  have hcan := h.can
  have hop := h.op
  obtain ⟨v1, v2, v3, v4, v5⟩ := h.vok
  have r6 := h.r6
  have r7 := h.r7
  have r8 := h.r8
  have r9 := h.r9
  have hvl := h.vl
  simp only at hop v1 v2 v3 v4 v5 r6 r7 r8 r9 hvl
  have hc12 : op = 1 ∨ op = 2 ∨ op = 3 ∨ op = 4 ∨ op = 5 ∨ op = 6 ∨ op = 7 ∨ op = 8 ∨ op = 9 ∨ op = 10 ∨ op = 11 ∨ op = 12 := by omega
  have hS : ∀ {w : Int} {o : Nat}, (∃ vn : Nat, w = vn ∧ c.vars[vn]? = some (o : Int)) → True := fun _ => trivial
  rcases hc12 with rfl | rfl | rfl | rfl | rfl | rfl | rfl | rfl | rfl | rfl | rfl | rfl
  · have := v1 (.inl rfl)
    exact (step_a hiv h.ht h.hc h.hac ⟨this.1, by have := this.2; have := this; omega⟩ h.szo).m
  · have hcan2 : (setB c [w] && (room s || decide (0 ≤ objL s (c.vars.getD w.toNat 0)))) = true := hcan
    rw [Bool.and_eq_true] at hcan2
    obtain ⟨wn, hw1, hw2, hw3, hw4⟩ := set_at hcan2.1 (by simp) (v2 (.inl rfl)) hob
    obtain ⟨vn, hv1, hv2, hv3⟩ := inV_at (v1 (.inr (.inl rfl)))
    have hvt : v.toNat = vn := by rw [hv1]; rfl
    by_cases hx : 0 ≤ (objAt s (varN c w)).2
    · have := (step_b hiv (nn := nn) (tk := tk) (vs := vs) (time := time) (vn := vn) h.ht h.hc h.hac hw2 hv2 hx hw4 (by have := h.sza; omega)).m (m := mm)
      simp +decide only [stepF, if_true, if_false, if_pos hx]
      rw [hvt, hv1, hw1]
      rw [hw1] at this
      exact this
    · have := (step_b2 hiv (nn := nn) (tk := tk) (vs := vs) (time := time) (vn := vn) h.ht h.hc h.hac hw2 hv2 (by omega) h.szo hw4 h.sza).m (m := mm)
      simp +decide only [stepF, if_true, if_false, if_neg hx]
      rw [hvt, hv1, hw1]
      rw [hw1] at this
      exact this
  · have hcan2 : setB c [v, w] = true := hcan
    obtain ⟨vn, hv1, hv2, hv3, hv4⟩ := set_at hcan2 (v := v) (by simp) (v1 (.inr (.inr (.inl rfl)))) hob
    obtain ⟨wn, hw1, hw2, hw3⟩ := inV_at (v2 (.inr rfl))
    have := (step_c hiv (nn := nn) (tk := tk) (vs := vs) (time := time) h.ht h.hc h.hac hv2 hw3 hv4 (by have := h.sza; omega)).m (m := mm)
    simp +decide only [stepF, if_true, if_false]
    rw [← hv1, ← hw1] at this
    exact this
  · have hcan2 : setB c [v] = true := hcan
    obtain ⟨vn, hv1, hv2, hv3, hv4⟩ := set_at hcan2 (v := v) (by simp) (v1 (.inr (.inr (.inr (.inl rfl))))) hob
    have := step_d hmm hiv (w := w) (nn := nn) (tk := tk) (vs := vs) (time := time) h.ht h.hc h.hac hv2 hv4 (h.ob _ (List.mem_of_getElem? hv4)) (by have := h.sza; omega) h.szl
    simp +decide only [stepF, if_true, if_false]
    rw [← hv1] at this
    exact this
  · have hcan2 : setB c [v] = true := hcan
    obtain ⟨vn, hv1, hv2, hv3, hv4⟩ := set_at hcan2 (v := v) (by simp) (v1 (.inr (.inr (.inr (.inr rfl))))) hob
    have := (step_e hiv (w := w) (nn := nn) (tk := tk) (vs := vs) (time := time) h.ht h.hc h.hac hv2 hv4 (by have := h.sza; omega)).m (m := mm)
    simp +decide only [stepF, if_true, if_false]
    rw [← hv1] at this
    exact this
  · have hcan2 : (bif setB c vs then decide ((s.tasks.length : Int) < 32) else false) = true := hcan
    obtain ⟨h1, cd, h2, h3, h4, h5, h6⟩ := r6 rfl
    obtain ⟨tn, rfl⟩ : ∃ tn : Nat, tk = tn := ⟨_, (Int.toNat_of_nonneg h1).symm⟩
    rw [Int.toNat_natCast] at h2
    have h32 : s.tasks.length < 32 := by
      cases hb : setB c vs with
      | true => rw [hb] at hcan2; have := of_decide_eq_true hcan2; omega
      | false => rw [hb] at hcan2; cases hcan2
    obtain ⟨a1, a2, a3, a4⟩ := hiv.wf.tsk t (List.mem_of_getElem? h.ht)
    have hcl : s.pool[t.clk]? = some (s.pool.getD t.clk []) := by rw [List.getD_eq_getElem?_getD, List.getElem?_eq_getElem a3]; rfl
    have := (step_f hiv (v := v) (w := w) (pr := nn) (time := time) h.ht h.hc h.hac h2 (v3 (.inl rfl)) (by omega) hcl h.en h.wt h32 h.hC h.hP (by have := h.hB; omega) h3 h4 h5 h6 h.kl).m (m := mm)
    simp +decide only [stepF, if_true, if_false]
    rw [show cdAt s.p.codes (tn : Int) = cd from getD_at h2]
    exact this
  · obtain ⟨kc, h1, h2⟩ := r7 (.inl rfl)
    have hk : kidN t nn = kc := by unfold kidN; rw [h1]; rfl
    have htc : s.tasks[kc]? = some s.tasks[kc] := List.getElem?_eq_getElem h2
    have := (step_g hiv (v := v) (w := w) (tk := tk) (vs := vs) (time := time) h.ht h.hc h.hac h1 htc).m (m := mm)
    have ho : ovr s kc = decide (3 ≤ s.tasks[kc].state) := by unfold ovr; rw [htc]
    simp +decide only [stepF, if_true, if_false]
    rw [hk, ho]
    by_cases h3 : 3 ≤ s.tasks[kc].state
    · simp only [decide_eq_true h3, if_true]
      rw [decide_eq_true h3, if_pos h3] at this
      exact this
    · simp only [decide_eq_false h3, Bool.false_eq_true, if_false]
      rw [decide_eq_false h3, if_neg h3] at this
      exact this
  · have hcan2 : setB c vs = true := hcan
    obtain ⟨h1, h2, h3⟩ := r8 rfl
    obtain ⟨o, rfl⟩ : ∃ o : Nat, nn = o := ⟨_, (Int.toNat_of_nonneg h1).symm⟩
    rw [Int.toNat_natCast] at h2
    cases vs with
    | nil => simp at h3
    | cons w0 vs =>
      obtain ⟨wn, rfl, h4, h5⟩ := inV_at (v3 (.inr (.inl rfl)) w0 (by simp))
      rw [Int.toNat_natCast] at h5
      have ho : s.objs[o]? = some (objAt s o) := by unfold objAt; rw [List.getD_eq_getElem?_getD, List.getElem?_eq_getElem h2]; rfl
      have := (step_h hiv (v := v) (w := w) (tk := tk) (vs := vs) (time := time) h.ht h.hc h.hac h5 (by have := h.szo; omega) ho (by have := h.sza; omega)).m (m := mm)
      simp +decide only [stepF, if_true, if_false]
      exact this
  · obtain ⟨h1, cd, h2, h3, h4, h5, h6⟩ := r9 rfl
    obtain ⟨tn, rfl⟩ : ∃ tn : Nat, tk = tn := ⟨_, (Int.toNat_of_nonneg h1).symm⟩
    rw [Int.toNat_natCast] at h2
    have := (step_i hiv (v := v) (w := w) (N := nn) (time := time) h.ht h.hc h.hac h2 (v3 (.inr (.inr rfl))) hvl h.hC h3 h4 h5 h6 h.sl h.pc).m (m := mm)
    simp +decide only [stepF, if_true, if_false]
    rw [show cdAt s.p.methods (tn : Int) = cd from getD_at h2]
    by_cases hz : cd.steps.length = 0
    · rw [if_pos hz]; rw [if_pos hz, decide_eq_true hz] at this; exact this
    · rw [if_neg hz]; rw [if_neg hz, decide_eq_false hz] at this; exact this
  · obtain ⟨kc, h1, h2⟩ := r7 (.inr rfl)
    have hk : kidN t nn = kc := by unfold kidN; rw [h1]; rfl
    have := (step_j hiv (v := v) (w := w) (tk := tk) (vs := vs) (time := time) h.ht h.hc h.hac h1 h2).m (m := mm)
    simp +decide only [stepF, if_true, if_false]
    rw [hk]
    exact this
  · have := (step_k hiv (v := v) (w := w) (nn := nn) (tk := tk) (vs := vs) (time := time) h.ht h.hc h.hac (by rw [h.st1]; decide) h.wt h.hP (by have := h.hB; omega)).m (m := mm)
    simp +decide only [stepF, if_true, if_false]
    cases hcn : t.canc with
    | true => rw [hcn] at this; exact this
    | false => rw [hcn] at this; exact this
  · exact (step_l hiv (v := v) (w := w) (nn := nn) (tk := tk) (vs := vs) (time := time) h.ht h.hc h.hac).m (m := mm)
end Go.Ab
set_option maxHeartbeats 4000000
namespace Go.Ab
open Go Go.Ab Go.Proofs Go.Ab.Ty

theorem Iv.mkO {s : PRun} (h : Iv s) (n : Int) (hb : s.objs.length < 1000000) : Iv (s.mkO n) :=
  ⟨h.wf.mkO n hb, ⟨h.kd.kd⟩, h.par, h.stk, h.en, h.wt, h.ed, h.dis, h.pcB, h.pcI⟩
theorem Iv.setO {s : PRun} (h : Iv s) (o : Nat) (x : Int × Int) : Iv (s.setO o x) :=
  ⟨⟨h.wf.1, h.wf.2, h.wf.3, h.wf.4, h.wf.5, h.wf.6, h.wf.7, h.wf.8, h.wf.9, h.wf.10, h.wf.11, by
    obtain ⟨a1, a2⟩ := h.wf.12
    exact ⟨by simp only [PRun.setO, List.length_set]; exact a1, a2⟩, h.wf.13, h.wf.14⟩, ⟨h.kd.kd⟩, h.par, h.stk, h.en, h.wt, h.ed, h.dis, h.pcB, h.pcI⟩
theorem Iv.addL {s : PRun} (h : Iv s) (x : ByteArray) (hb : s.lines.length < 1000000) : Iv (s.addL x) :=
  ⟨⟨h.wf.1, h.wf.2, h.wf.3, h.wf.4, h.wf.5, h.wf.6, h.wf.7, h.wf.8, h.wf.9, h.wf.10, h.wf.11, by
    obtain ⟨a1, a2, a3⟩ := h.wf.12
    exact ⟨a1, by simp only [PRun.addL, List.length_append, List.length_singleton]; omega, a3⟩, h.wf.13, h.wf.14⟩, ⟨h.kd.kd⟩, h.par, h.stk, h.en, h.wt, h.ed, h.dis, h.pcB, h.pcI⟩
theorem Iv.vset {s : PRun} (h : Iv s) {j : Nat} {c : PCall} (hc : s.calls[j]? = some c) (i : Nat) (x : Int) : Iv (s.cset j { c with vars := c.vars.set i x }) :=
  h.cset hc (by simp; exact (h.wf.csz c (List.mem_of_getElem? hc)).1) rfl (h.pcB c (List.mem_of_getElem? hc)) fun k t ht hs hj => h.pcI k t j c ht hs hj hc
theorem Iv.kid {s : PRun} (h : Iv s) {n k : Nat} {t : PTask} (ht : s.tasks[n]? = some t) (hk : n < k) (hk2 : k < s.tasks.length) (hl : t.kids.length ≤ 900) (sp : List (Int × Int)) : Iv (s.tset n { t with kids := t.kids ++ [(k : Int)], spn := sp }) := by
  have key : ∀ {p : Nat → PTask → Prop}, (∀ i u, s.tasks[i]? = some u → p i u) → p n { t with kids := t.kids ++ [(k : Int)], spn := sp } → ∀ i u, (s.tset n { t with kids := t.kids ++ [(k : Int)], spn := sp }).tasks[i]? = some u → p i u := fun {p} g1 g2 i u hu => by
    by_cases e : n = i
    · subst e; rw [tset_at ht] at hu; injection hu with hu; subst hu; exact g2
    · rw [tset_ne e] at hu; exact g1 i u hu
  have htm := List.mem_of_getElem? ht
  refine ⟨h.wf.tset (h.wf.tsk t htm) ⟨(h.wf.tsz t htm).1, by simp; omega⟩, ⟨key (p := fun i u => ∀ c : Int, c ∈ u.kids → ∃ j : Nat, c = j ∧ i < j ∧ j < (s.tset n { t with kids := t.kids ++ [(k : Int)], spn := sp }).tasks.length) (by rw [tset_len]; exact h.kd.kd) (by
      rw [tset_len]
      intro c hc
      rcases List.mem_append.1 hc with hc | hc
      · exact h.kd.kd n t ht c hc
      · rw [List.mem_singleton] at hc; exact ⟨k, hc, hk, hk2⟩)⟩,
    key h.par (h.par n t ht), key h.stk (h.stk n t ht), key h.en (h.en n t ht), key h.wt (h.wt n t ht), key h.ed (h.ed n t ht), ?_, h.pcB, fun i u j c hu => key (p := fun i u => (u.state = 1 ∨ 0 ≤ u.waits) → u.sarr[u.slen - 1]? = some j → s.calls[j]? = some c → c.pc < c.code.steps.length) (fun i u hu => h.pcI i u j c hu) (h.pcI n t j c ht) i u hu⟩
  intro i u i' u' x x' j hu hu' hx hx' hj hj'
  have cv : ∀ {i : Nat} {u : PTask} {x : Nat}, (s.tset n { t with kids := t.kids ++ [(k : Int)], spn := sp }).tasks[i]? = some u → x < u.slen → u.sarr[x]? = some j → ∃ v : PTask, s.tasks[i]? = some v ∧ x < v.slen ∧ v.sarr[x]? = some j := fun {i u x} hu hx hj => by
    by_cases e : n = i
    · subst e; rw [tset_at ht] at hu; injection hu with hu; subst hu; exact ⟨t, ht, hx, hj⟩
    · rw [tset_ne e] at hu; exact ⟨u, hu, hx, hj⟩
  obtain ⟨v, b1, b2, b3⟩ := cv hu hx hj
  obtain ⟨v', b1', b2', b3'⟩ := cv hu' hx' hj'
  exact h.dis i v i' v' x x' j b1 b1' b2 b2' b3 b3'
theorem pshF_at {l : List Nat} {k j i x : Nat} (hk : k ≤ l.length) (h : (pshF l k j)[i]? = some x) (hi : i < k + 1) : (i = k ∧ x = j) ∨ (i < k ∧ l[i]? = some x) := by
  unfold pshF at h
  split at h
  · rename_i hlt
    rw [List.getElem?_set] at h
    split at h
    · rename_i e
      injection h with h; exact .inl ⟨e.symm, h.symm⟩
    · exact .inr ⟨by omega, h⟩
  · rcases Nat.lt_or_ge i l.length with h1 | h1
    · rw [List.getElem?_append_left h1] at h; exact .inr ⟨by omega, h⟩
    · rw [List.getElem?_append_right h1] at h
      have : i = k := by omega
      rw [show i - l.length = 0 by omega] at h
      injection h with h; exact .inl ⟨this, h.symm⟩
theorem pshF_top {l : List Nat} {k j : Nat} (hk : k ≤ l.length) : (pshF l k j)[k]? = some j := by
  unfold pshF
  split
  · rename_i h; rw [List.getElem?_set_self h]
  · rw [List.getElem?_append_right (by omega), show k - l.length = 0 by omega]; rfl
theorem Iv.psh {s : PRun} (h : Iv s) {n J : Nat} {t : PTask} {cJ : PCall} (ht : s.tasks[n]? = some t) (hJ : s.calls[J]? = some cJ) (hfr : ∀ (k : Nat) (u : PTask) (i : Nat), s.tasks[k]? = some u → i < u.slen → u.sarr[i]? ≠ some J) (hpc : cJ.pc < cJ.code.steps.length) (hl : t.sarr.length ≤ 900) : Iv (s.tset n { t with sarr := pshF t.sarr t.slen J, slen := t.slen + 1 }) := by
  obtain ⟨T, hT⟩ : ∃ T : PTask, T = { t with sarr := pshF t.sarr t.slen J, slen := t.slen + 1 } := ⟨_, rfl⟩
  rw [← hT]
  have T1 : T.sarr = pshF t.sarr t.slen J := by rw [hT]
  have T2 : T.slen = t.slen + 1 := by rw [hT]
  have key : ∀ {p : Nat → PTask → Prop}, (∀ i u, s.tasks[i]? = some u → p i u) → p n T → ∀ i u, (s.tset n T).tasks[i]? = some u → p i u := fun {p} g1 g2 i u hu => by
    by_cases e : n = i
    · subst e; rw [tset_at ht] at hu; injection hu with hu; subst hu; exact g2
    · rw [tset_ne e] at hu; exact g1 i u hu
  have htm := List.mem_of_getElem? ht
  obtain ⟨a1, a2, a3, a4⟩ := h.wf.tsk t htm
  have hJl := (List.getElem?_eq_some_iff.1 hJ).1
  refine ⟨h.wf.tset ⟨fun i hi => ?_, by rw [T1, T2, pshF_len a2]; split <;> omega, by rw [hT]; exact a3, by rw [hT]; exact a4⟩ ⟨by rw [T1, pshF_len a2]; split <;> omega, by rw [hT]; exact (h.wf.tsz t htm).2⟩, ⟨key (p := fun i u => ∀ c : Int, c ∈ u.kids → ∃ j : Nat, c = j ∧ i < j ∧ j < (s.tset n T).tasks.length) (by rw [tset_len]; exact h.kd.kd) (by rw [tset_len, hT]; exact h.kd.kd n t ht)⟩,
    key h.par (by rw [hT]; exact h.par n t ht), key h.stk (by rw [T2]; omega), key h.en (by rw [hT]; exact h.en n t ht), key h.wt (by rw [hT]; exact h.wt n t ht), key h.ed (by rw [hT]; exact h.ed n t ht), ?_, h.pcB, fun i u j c hu => key (p := fun i u => (u.state = 1 ∨ 0 ≤ u.waits) → u.sarr[u.slen - 1]? = some j → s.calls[j]? = some c → c.pc < c.code.steps.length) (fun i u hu => h.pcI i u j c hu) (fun _ g2 g3 => ?_) i u hu⟩
  · rw [T1] at hi
    simp only [pshF] at hi
    split at hi
    · rcases List.mem_or_eq_of_mem_set hi with hi | rfl
      · exact a1 i hi
      · exact hJl
    · rcases List.mem_append.1 hi with hi | hi
      · exact a1 i hi
      · rw [List.mem_singleton] at hi; subst hi; exact hJl
  · intro i u i' u' x x' j hu hu' hx hx' hj hj'
    have cv : ∀ {i : Nat} {u : PTask} {x : Nat}, (s.tset n T).tasks[i]? = some u → x < u.slen → u.sarr[x]? = some j → (i = n ∧ x = t.slen ∧ j = J) ∨ ∃ v : PTask, s.tasks[i]? = some v ∧ x < v.slen ∧ v.sarr[x]? = some j := fun {i u x} hu hx hj => by
      by_cases e : n = i
      · subst e
        rw [tset_at ht] at hu; injection hu with hu; subst hu
        rw [T2] at hx; rw [T1] at hj
        rcases pshF_at a2 hj hx with ⟨e1, e2⟩ | ⟨e1, e2⟩
        · exact .inl ⟨rfl, e1, e2⟩
        · exact .inr ⟨t, ht, e1, e2⟩
      · rw [tset_ne e] at hu; exact .inr ⟨u, hu, hx, hj⟩
    rcases cv hu hx hj with ⟨e1, e2, e3⟩ | ⟨v, b1, b2, b3⟩ <;> rcases cv hu' hx' hj' with ⟨e1', e2', e3'⟩ | ⟨v', b1', b2', b3'⟩
    · exact ⟨e1.trans e1'.symm, e2.trans e2'.symm⟩
    · subst e3; exact absurd b3' (hfr _ v' _ b1' b2')
    · subst e3'; exact absurd b3 (hfr _ v _ b1 b2)
    · exact h.dis i v i' v' x x' j b1 b1' b2 b2' b3 b3'
  · rw [T1, T2, Nat.add_sub_cancel, pshF_top a2] at g2
    injection g2 with g2; subst g2
    rw [hJ] at g3; injection g3 with g3; subst g3
    exact hpc
structure StR (s : PRun) (n j : Nat) (t : PTask) (c : PCall) (r : Bool × PRun) : Prop where
  iv : Iv r.2
  tl : r.2.tasks.length ≤ s.tasks.length + 1 ∧ s.tasks.length ≤ r.2.tasks.length
  cl : r.2.calls.length ≤ s.calls.length + 1
  pl : r.2.pool.length ≤ s.pool.length + 40000
  bl : r.2.behs.length ≤ s.behs.length + 40
  go : r.1 = true → ∃ t8 c8, r.2.tasks[n]? = some t8 ∧ t8.sarr = t.sarr ∧ t8.slen = t.slen ∧ t8.state = 1 ∧ t8.ending = 0 ∧ t8.waits = t.waits ∧ r.2.calls[j]? = some c8 ∧ c8.pc = c.pc ∧ c8.code = c.code ∧ c8.actor = c.actor
theorem stepF_iv {s : PRun} {n j : Nat} {t : PTask} {c : PCall} {st : Stp} {time : Int} (h : Sok s n j t c st) : StR s n j t c (stepF s n j t c st time) := by
  have hiv := h.iv
  have ht := h.ht
  have hc := h.hc
  have hn := (List.getElem?_eq_some_iff.1 ht).1
  have hj := (List.getElem?_eq_some_iff.1 hc).1
  have hid : StR s n j t c (true, s) := ⟨hiv, ⟨Nat.le_succ _, Nat.le_refl _⟩, Nat.le_succ _, Nat.le_add_right _ _, Nat.le_add_right _ _, fun _ => ⟨t, c, ht, rfl, rfl, h.st1, h.en, rfl, hc, rfl, rfl, rfl⟩⟩
  have szo := h.szo
  have sza := h.sza
  have szl := h.szl
  have simp1 : ∀ s' : PRun, Iv s' → s'.tasks = s.tasks → s'.calls = s.calls → s'.pool = s.pool → s'.behs = s.behs → StR s n j t c (true, s') := fun s' a1 a2 a3 a4 a5 => ⟨a1, by simp only [a2]; omega, by simp only [a3]; omega, by simp only [a4]; omega, by simp only [a5]; omega, fun _ => ⟨t, c, by simp only [a2]; exact ht, rfl, rfl, h.st1, h.en, rfl, by simp only [a3]; exact hc, rfl, rfl, rfl⟩⟩
  have simpV : ∀ (s' : PRun) (i : Nat) (x : Int), Iv s' → s'.tasks = s.tasks → s'.calls = s.calls → s'.pool = s.pool → s'.behs = s.behs → StR s n j t c (true, s'.cset j { c with vars := c.vars.set i x }) := fun s' i x a1 a2 a3 a4 a5 => by
    have hc' : s'.calls[j]? = some c := by rw [a3]; exact hc
    refine ⟨a1.vset hc' i x, ⟨by show s'.tasks.length ≤ _; rw [a2]; omega, by show _ ≤ s'.tasks.length; rw [a2]; omega⟩, by show (s'.calls.set _ _).length ≤ _; rw [List.length_set, a3]; omega, by show s'.pool.length ≤ _; rw [a4]; omega, by show s'.behs.length ≤ _; rw [a5]; omega, fun _ => ⟨t, _, by show s'.tasks[n]? = _; rw [a2]; exact ht, rfl, rfl, h.st1, h.en, rfl, cset_at hc', rfl, rfl, rfl⟩⟩
  obtain ⟨op, v, w, nn, tk, vs⟩ := st
  have hop := h.op
  have r6 := h.r6
  have r7 := h.r7
  have r9 := h.r9
  have hcan := h.can
  simp only at hop r6 r7 r9
  have hc12 : op = 1 ∨ op = 2 ∨ op = 3 ∨ op = 4 ∨ op = 5 ∨ op = 6 ∨ op = 7 ∨ op = 8 ∨ op = 9 ∨ op = 10 ∨ op = 11 ∨ op = 12 := by omega
  rcases hc12 with rfl | rfl | rfl | rfl | rfl | rfl | rfl | rfl | rfl | rfl | rfl | rfl
  · exact simpV (s.mkO nn) v.toNat _ (hiv.mkO _ (by omega)) rfl rfl rfl rfl
  · by_cases hx : 0 ≤ (objAt s (varN c w)).2
    · simp +decide only [stepF, if_true, if_false, if_pos hx]
      exact simpV _ v.toNat _ (hiv.addA _ (by omega)) rfl rfl rfl rfl
    · simp +decide only [stepF, if_true, if_false, if_neg hx]
      refine simpV _ v.toNat _ ((((hiv.addA _ (by omega)).mkO _ (by show s.objs.length < _; omega)).setO _ _).addA _ ?_) rfl rfl rfl rfl
      show (s.accs ++ [_]).length < _
      simp; omega
  · exact simp1 _ ((hiv.addA _ (by omega)).setO _ _) rfl rfl rfl rfl
  · exact simp1 _ ((hiv.addA _ (by omega)).addL _ (by show s.lines.length < _; omega)) rfl rfl rfl rfl
  · exact simp1 _ ((hiv.addA _ (by omega)).setO _ _) rfl rfl rfl rfl
  · have hcan2 : (bif setB c vs then decide ((s.tasks.length : Int) < 32) else false) = true := hcan
    obtain ⟨h1, cd, h2, h3, h4, h5, h6⟩ := r6 rfl
    have h32 : s.tasks.length < 32 := by
      cases hb : setB c vs with
      | true => rw [hb] at hcan2; have := of_decide_eq_true hcan2; omega
      | false => rw [hb] at hcan2; cases hcan2
    have hcd : cdAt s.p.codes tk = cd := getD_at h2
    obtain ⟨a1, a2, a3, a4⟩ := hiv.wf.tsk t (List.mem_of_getElem? ht)
    have hcl : s.pool[t.clk]? = some (s.pool.getD t.clk []) := by rw [List.getD_eq_getElem?_getD, List.getElem?_eq_getElem a3]; rfl
    have hSt := startF_iv hiv (c := cd) (vs := givL c vs) (a := s.pool.getD t.clk []) (prio := nn) (par := n) (canc := t.canc) h32 h.hC h.hP (by have := h.hB; omega) ((hiv.wf.p hcl).2) h4 (by rw [givL_len]; exact h5) h6 (.inr ⟨n, rfl, hn⟩)
    obtain ⟨e1, e2, e3⟩ := startF_at (cd := cd) (vs := givL c vs) (a := s.pool.getD t.clk []) (pr := nn) (canc := t.canc) ht h.en h.wt
    simp +decide only [stepF, if_true, if_false]
    rw [hcd]
    have hI := hSt.iv.kid e1 (k := s.tasks.length) hn (by rw [e3]; omega) h.kl (if c.actor < 0 then setM t.spn c.pc s.tasks.length else t.spn)
    refine ⟨hI, ⟨by show (List.set _ _ _).length ≤ _; rw [List.length_set, e3]; omega, by show _ ≤ (List.set _ _ _).length; rw [List.length_set, e3]; omega⟩, by show (startF s cd (givL c vs) (s.pool.getD t.clk []) nn n t.canc).calls.length ≤ _; rw [e2]; simp, hSt.pl, hSt.bl, fun _ => ⟨_, c, tset_at e1, rfl, rfl, h.st1, h.en, rfl, ?_, rfl, rfl, rfl⟩⟩
    show (startF s cd (givL c vs) (s.pool.getD t.clk []) nn n t.canc).calls[j]? = _
    rw [e2, List.getElem?_append_left hj]; exact hc
  · simp +decide only [stepF, if_true, if_false]
    by_cases ho : ovr s (kidN t nn) = true
    · rw [if_pos ho]; exact hid
    · rw [if_neg ho]
      obtain ⟨a1, a2, a3, a4⟩ := hiv.wf.tsk t (List.mem_of_getElem? ht)
      have hI := hiv.tset ht (t' := { t with waits := kidN t nn, state := 2 }) rfl (Nat.le_refl _) (hiv.stk n t ht) rfl rfl a3 a4 (fun e => absurd e (by show ¬ (3 : Int) ≤ 2; omega)) (fun _ => h.bh) (.inl h.en) (fun _ i x hi hx => by
        have hi' : t.sarr[t.slen - 1]? = some i := hi
        rw [h.tp] at hi'; injection hi' with hi'; subst hi'
        rw [hc] at hx; injection hx with hx; subst hx
        exact h.pcl)
      exact ⟨hI, ⟨by show (List.set _ _ _).length ≤ _; rw [List.length_set]; omega, by show _ ≤ (List.set _ _ _).length; rw [List.length_set]; omega⟩, by show s.calls.length ≤ _; omega, by show s.pool.length ≤ _; omega, by show s.behs.length ≤ _; omega, fun e => by cases e⟩
  · exact simp1 _ ((hiv.addA _ (by omega)).setO _ _) rfl rfl rfl rfl
  · obtain ⟨h1, cd, h2, h3, h4, h5, h6⟩ := r9 rfl
    have hcd : cdAt s.p.methods tk = cd := getD_at h2
    simp +decide only [stepF, if_true, if_false]
    rw [hcd]
    have hvl2 : (newC cd (givL c vs ++ [nn]) nn).vars.length ≤ 1000 := by
      simp only [newC, List.length_append, List.length_replicate, givL_len, List.length_singleton]; omega
    have hIc : Iv (s.addC (newC cd (givL c vs ++ [nn]) nn)) := hiv.addC h.hC hvl2 h6 ⟨Int.le_refl _, by show (0 : Int) ≤ _; omega⟩
    have hcl : (s.addC (newC cd (givL c vs ++ [nn]) nn)).calls.length = s.calls.length + 1 := by simp [PRun.addC]
    have hc1 : (s.addC (newC cd (givL c vs ++ [nn]) nn)).calls[j]? = some c := by rw [addC_ne (by omega)]; exact hc
    by_cases hz : cd.steps.length = 0
    · rw [if_pos hz]
      exact ⟨hIc, ⟨by show s.tasks.length ≤ _; omega, Nat.le_refl _⟩, by rw [hcl]; exact Nat.le_refl _, by show s.pool.length ≤ _; omega, by show s.behs.length ≤ _; omega, fun _ => ⟨t, c, ht, rfl, rfl, h.st1, h.en, rfl, hc1, rfl, rfl, rfl⟩⟩
    · rw [if_neg hz]
      have hpc := hiv.pcB c (List.mem_of_getElem? hc)
      have hpcl := h.pcl
      -- the stack first, then the place in the code
      have hJ0 : (s.addC (newC cd (givL c vs ++ [nn]) nn)).calls[s.calls.length]? = some (newC cd (givL c vs ++ [nn]) nn) := addC_at
      have hfr : ∀ (k : Nat) (u : PTask) (i : Nat), s.tasks[k]? = some u → i < u.slen → u.sarr[i]? ≠ some s.calls.length := fun k u i hu _ he => by
        have := (hiv.wf.tsk u (List.mem_of_getElem? hu)).1 _ (List.mem_of_getElem? he); omega
      have hP := hIc.psh (n := n) (J := s.calls.length) ht hJ0 hfr (by show (0 : Int) < (cd.steps.length : Int); omega) h.sl
      have hcP : ((s.addC (newC cd (givL c vs ++ [nn]) nn)).tset n { t with sarr := pshF t.sarr t.slen s.calls.length, slen := t.slen + 1 }).calls[j]? = some c := hc1
      have hF := hP.cset hcP (c' := { c with pc := c.pc + 1 }) (hiv.wf.csz c (List.mem_of_getElem? hc)).1 rfl ⟨by show 0 ≤ c.pc + 1; omega, by show c.pc + 1 ≤ (c.code.steps.length : Int); omega⟩ fun k u hu hs hju => by
        exfalso
        by_cases e : n = k
        · subst e
          rw [tset_at (show (s.addC (newC cd (givL c vs ++ [nn]) nn)).tasks[n]? = some t from ht)] at hu
          injection hu with hu; subst hu
          have hju' : (pshF t.sarr t.slen s.calls.length)[t.slen + 1 - 1]? = some j := hju
          rw [Nat.add_sub_cancel, pshF_top (hiv.wf.tsk t (List.mem_of_getElem? ht)).2.1] at hju'
          injection hju' with hju'; omega
        · rw [tset_ne e] at hu
          have hu' : s.tasks[k]? = some u := hu
          have hs0 := hiv.stk k u hu'
          have hs1 := hiv.stk n t ht
          exact e (hiv.dis n t k u (t.slen - 1) (u.slen - 1) j ht hu' (by omega) (by omega) h.tp hju).1
      exact ⟨hF, ⟨by show (List.set _ _ _).length ≤ _; rw [List.length_set]; show s.tasks.length ≤ _; omega, by show _ ≤ (List.set _ _ _).length; rw [List.length_set]; exact Nat.le_refl s.tasks.length⟩, by show (List.set _ _ _).length ≤ _; rw [List.length_set, hcl]; exact Nat.le_refl _, by show s.pool.length ≤ _; omega, by show s.behs.length ≤ _; omega, fun e => by cases e⟩
  · obtain ⟨kc, h1, h2⟩ := r7 (.inr rfl)
    simp +decide only [stepF, if_true, if_false]
    have hcn := canL_at (l := dsc s s.tasks.length (kidN t nn)) ht
    refine ⟨hiv.can _, ⟨by simp only [canL_len]; omega, by simp only [canL_len]; omega⟩, by show s.calls.length ≤ _; omega, by show s.pool.length ≤ _; omega, by show s.behs.length ≤ _; omega, fun _ => ⟨_, c, hcn, ?_, ?_, ?_, ?_, ?_, hc, rfl, rfl, rfl⟩⟩
    · split <;> rfl
    · split <;> rfl
    · split <;> exact h.st1
    · split <;> exact h.en
    · split <;> rfl
  · simp +decide only [stepF, if_true, if_false]
    cases hcn : t.canc with
    | true =>
      simp only [if_true]
      obtain ⟨_, hI, hSb⟩ := stop_ok hiv ht (by rw [h.st1]; decide) h.wt h.hP (by have := h.hB; omega)
      have hn32 := hiv.wf.nT
      have h3 : 1001 * (n + 1) ≤ 40000 := Nat.le_trans (Nat.mul_le_mul_left 1001 (show n + 1 ≤ 33 by omega)) (by decide)
      have h1 : (stopF s n).pool.length ≤ s.pool.length + 40000 := Nat.le_trans hSb.pl (Nat.add_le_add_left h3 _)
      have h2 : (stopF s n).behs.length ≤ s.behs.length + 40 := Nat.le_trans hSb.bl (Nat.add_le_add_left (by omega) _)
      exact ⟨hI, ⟨by show (stopF s n).tasks.length ≤ _; rw [hSb.tl]; exact Nat.le_succ _, by show _ ≤ (stopF s n).tasks.length; rw [hSb.tl]; exact Nat.le_refl _⟩, by show (stopF s n).calls.length ≤ _; rw [hSb.cl]; exact Nat.le_succ _, h1, h2, fun e => by cases e⟩
    | false => exact hid
  · exact hid
end Go.Ab
