/- Part of the proof. -/
import Derived.Test.YthgicbkdckpeaaaDoorG36
set_option linter.unusedSimpArgs false
set_option linter.unusedVariables false
set_option maxHeartbeats 4000000
namespace Go.Ab
open Go Go.Ab Go.Proofs Go.Ab.Ty

def tk0 : PTask := ⟨[], 0, 0, false, -1, [], [], -1, 0, 0, -1, 0, none⟩
def tkAt (s : PRun) (n : Nat) : PTask := s.tasks.getD n tk0
theorem tkAt_eq {s : PRun} {n : Nat} {t : PTask} (h : s.tasks[n]? = some t) : tkAt s n = t := getD_at h
def plA (s : PRun) (x : Nat) : List Int := s.pool.getD x []
theorem plA_at {s : PRun} {x : Nat} (h : x < s.pool.length) : s.pool[x]? = some (plA s x) := by unfold plA; rw [List.getD_eq_getElem?_getD, List.getElem?_eq_getElem h]; rfl
def clkJ (s : PRun) (n x : Nat) : PRun := (s.addP (joinL (plA s (tkAt s n).clk) (plA s x))).tset n { tkAt s n with clk := s.pool.length }
def turnA (s : PRun) (n : Nat) : PRun := { s with turns := s.turns ++ [(n : Int)] }
def behX (s : PRun) (b : Nat) : Nat := (s.behs.getD b []).getD 0 0
def behK (s : PRun) (n : Nat) : PRun := match (tkAt s n).beh with
  | none => s
  | some b => clkJ s n (behX s b)
def nobS (s : PRun) (n : Nat) : PRun := s.tset n { tkAt s n with beh := none }
def endX (s : PRun) (k : Nat) : Nat := ((s.ends.getD k none).getD 0)
def awK (s : PRun) (n : Nat) (st : Stp) : PRun := if st.op = 7 ∧ ovr s (kidN (tkAt s n) st.n) = true then clkJ s n (endX s (kidN (tkAt s n) st.n)) else s
def actF (c : PCall) (st : Stp) : Int := if st.op = 8 then st.n else c.actor
def acK (s : PRun) (n : Nat) (b : Bool) (a : Int) : PRun := if b = true ∧ 0 ≤ a then clkJ s n (s.acts.getD a.toNat 0) else s
def timeS (s : PRun) (n : Nat) (time : Int) : PRun := { s with pool := s.pool.set (tkAt s n).clk ((plA s (tkAt s n).clk).set n time) }
def actS (s : PRun) (n : Nat) (b : Bool) (a : Int) : PRun := if b = true ∧ 0 ≤ a then { s.addP (plA s (tkAt s n).clk) with acts := s.acts.set a.toNat s.pool.length } else s
def ckS (s : PRun) (n : Nat) : PRun := { s.addP (plA s (tkAt s n).clk) with cks := s.cks ++ [s.pool.length] }
def hasS (s : PRun) (n : Nat) (v : Int) : PRun := s.tset n { tkAt s n with has := v }
def cl0 : PCall := ⟨⟨0, 0, []⟩, [], 0, 0⟩
def clAt (s : PRun) (j : Nat) : PCall := s.calls.getD j cl0
def stAt (c : PCall) : Stp := c.code.steps.getD c.pc.toNat ⟨0, 0, 0, 0, 0, []⟩
def turnB (s : PRun) (n : Nat) (c : PCall) (st : Stp) : PRun :=
  hasS (ckS (actS (timeS (acK (awK (nobS (behK (turnA s n) n) n) n st) n (canF s c st) (actF c st)) n s.turns.length) n (canF s c st) (actF c st)) n) n (-1)
def turnG (s8 : PRun) (n j : Nat) (c : PCall) (st : Stp) : PRun :=
  goOnF (settleF (n + 1)) (if 0 ≤ c.actor ∧ st.op ≠ 12 ∧ st.op ≠ 9 ∧ c.pc ≠ (c.code.steps.length : Int) - 1 then hasS s8 n c.actor else s8) n j
def turnX (s : PRun) (n j : Nat) (c : PCall) (st : Stp) : PRun :=
  if canF s c st = false then stopF (turnB s n c st) n else
  if (stepF (turnB s n c st) n j (tkAt (turnB s n c st) n) c st s.turns.length).1 = false then (stepF (turnB s n c st) n j (tkAt (turnB s n c st) n) c st s.turns.length).2
  else turnG (stepF (turnB s n c st) n j (tkAt (turnB s n c st) n) c st s.turns.length).2 n j c st
def turnF (s : PRun) (n : Nat) : PRun := turnX s n (topJ (tkAt s n)) (clAt s (topJ (tkAt s n))) (stAt (clAt s (topJ (tkAt s n))))

structure Cs (s : PRun) (n : Nat) (t : PTask) (k : Nat) (s' : PRun) (t' : PTask) : Prop where
  iv : Iv s'
  tk : s'.tasks[n]? = some t'
  tl : s'.tasks.length = s.tasks.length
  ot : ∀ i, i ≠ n → s'.tasks[i]? = s.tasks[i]?
  p : s'.p = s.p
  objs : s'.objs = s.objs
  accs : s'.accs = s.accs
  lines : s'.lines = s.lines
  calls : s'.calls = s.calls
  ends : s'.ends = s.ends
  behs : s'.behs = s.behs
  acl : s'.acts.length = s.acts.length
  tsa : t'.sarr = t.sarr ∧ t'.slen = t.slen ∧ t'.kids = t.kids ∧ t'.spn = t.spn
  tst : t'.state = t.state ∧ t'.ending = t.ending ∧ t'.waits = t.waits ∧ t'.canc = t.canc ∧ t'.par = t.par
  pl : s'.pool.length ≤ s.pool.length + k
theorem Cs.refl {s : PRun} {n : Nat} {t : PTask} (h : Iv s) (ht : s.tasks[n]? = some t) : Cs s n t 0 s t :=
  ⟨h, ht, rfl, fun _ _ => rfl, rfl, rfl, rfl, rfl, rfl, rfl, rfl, rfl, ⟨rfl, rfl, rfl, rfl⟩, ⟨rfl, rfl, rfl, rfl, rfl⟩, Nat.le_refl _⟩
theorem Cs.trans {s s1 s2 : PRun} {n : Nat} {t t1 t2 : PTask} {k k1 : Nat} (h : Cs s n t k s1 t1) (g : Cs s1 n t1 k1 s2 t2) : Cs s n t (k + k1) s2 t2 := by
  obtain ⟨a1, a2, a3, a4⟩ := h.tsa
  obtain ⟨b1, b2, b3, b4⟩ := g.tsa
  obtain ⟨c1, c2, c3, c4, c5⟩ := h.tst
  obtain ⟨d1, d2, d3, d4, d5⟩ := g.tst
  exact ⟨g.iv, g.tk, g.tl.trans h.tl, fun i hi => (g.ot i hi).trans (h.ot i hi), g.p.trans h.p, g.objs.trans h.objs, g.accs.trans h.accs, g.lines.trans h.lines, g.calls.trans h.calls, g.ends.trans h.ends, g.behs.trans h.behs, g.acl.trans h.acl, ⟨b1.trans a1, b2.trans a2, b3.trans a3, b4.trans a4⟩, ⟨d1.trans c1, d2.trans c2, d3.trans c3, d4.trans c4, d5.trans c5⟩, by have := h.pl; have := g.pl; omega⟩
theorem Cs.mono {s s1 : PRun} {n : Nat} {t t1 : PTask} {k k1 : Nat} (h : Cs s n t k s1 t1) (hk : k ≤ k1) : Cs s n t k1 s1 t1 :=
  ⟨h.iv, h.tk, h.tl, h.ot, h.p, h.objs, h.accs, h.lines, h.calls, h.ends, h.behs, h.acl, h.tsa, h.tst, by have := h.pl; omega⟩
theorem Cs.tset {s : PRun} {n : Nat} {t t' : PTask} (h : Iv s) (ht : s.tasks[n]? = some t) (h1 : t'.sarr = t.sarr ∧ t'.slen = t.slen ∧ t'.kids = t.kids ∧ t'.spn = t.spn) (h2 : t'.state = t.state ∧ t'.ending = t.ending ∧ t'.waits = t.waits ∧ t'.canc = t.canc ∧ t'.par = t.par) (h3 : t'.clk < s.pool.length) (h4 : t'.beh = t.beh ∨ t'.beh = none) : Cs s n t 0 (s.tset n t') t' := by
  obtain ⟨a1, a2, a3, a4⟩ := h.wf.tsk t (List.mem_of_getElem? ht)
  obtain ⟨b1, b2, b3, b4⟩ := h1
  obtain ⟨c1, c2, c3, c4, c5⟩ := h2
  refine ⟨h.tset ht b1 (by omega) (by rw [b2]; exact h.stk n t ht) b3 c5 h3 (fun b hb => ?_) (fun e => h.en n t ht (by omega)) (fun e => ?_) (by rw [c2]; exact h.ed n t ht) (fun e i x hi hx => ?_), tset_at ht, tset_len, fun i hi => tset_ne (fun e => hi e.symm), rfl, rfl, rfl, rfl, rfl, rfl, rfl, rfl, ⟨b1, b2, b3, b4⟩, ⟨c1, c2, c3, c4, c5⟩, Nat.le_refl _⟩
  · rcases h4 with e | e
    · rw [e] at hb; exact a4 b hb
    · rw [e] at hb; cases hb
  · rcases h4 with e2 | e2
    · rw [e2]; exact h.wt n t ht (by omega)
    · exact e2
  · rw [b2] at hi
    exact h.pcI n t i x ht (by rw [c1, c3] at e; exact e) hi hx
theorem Cs.clkJ {s : PRun} {n x : Nat} {t : PTask} (h : Iv s) (ht : s.tasks[n]? = some t) (hx : x < s.pool.length) (hM : s.pool.length < MM) : Cs s n t 1 (clkJ s n x) { t with clk := s.pool.length } := by
  obtain ⟨a1, a2, a3, a4⟩ := h.wf.tsk t (List.mem_of_getElem? ht)
  have l1 := (h.wf.p (plA_at a3)).2
  have l2 := (h.wf.p (plA_at hx)).2
  have h1 := h.addP (l := joinL (plA s t.clk) (plA s x)) hM (by rw [joinL_len (by omega)]; exact l1)
  have ht1 : (s.addP (joinL (plA s t.clk) (plA s x))).tasks[n]? = some t := ht
  have h2 := Cs.tset (t' := { t with clk := s.pool.length }) h1 ht1 ⟨rfl, rfl, rfl, rfl⟩ ⟨rfl, rfl, rfl, rfl, rfl⟩ (by simp [PRun.addP]) (.inl rfl)
  unfold Go.Ab.clkJ
  rw [tkAt_eq ht]
  exact ⟨h2.iv, h2.tk, h2.tl, h2.ot, rfl, rfl, rfl, rfl, rfl, rfl, rfl, rfl, h2.tsa, h2.tst, by show (s.pool ++ [_]).length ≤ _; simp⟩
theorem Iv.pset {s : PRun} (h : Iv s) {x : Nat} {l : List Int} (hl : l.length = 32) : Iv { s with pool := s.pool.set x l } := by
  have e : (s.pool.set x l).length = s.pool.length := List.length_set
  refine ⟨⟨h.wf.1, h.wf.2, by show (s.pool.set x l).length ≤ _; rw [e]; exact h.wf.3, h.wf.4, fun y hy => ?_, fun i hi => by show i < (s.pool.set x l).length; rw [e]; exact h.wf.6 i hi, fun i hi => by show i < (s.pool.set x l).length; rw [e]; exact h.wf.7 i hi, fun o ho i hi => by show i < (s.pool.set x l).length; rw [e]; exact h.wf.8 o ho i hi, fun t ht => by
    obtain ⟨a1, a2, a3, a4⟩ := h.wf.9 t ht
    exact ⟨a1, a2, by show t.clk < (s.pool.set x l).length; rw [e]; exact a3, a4⟩, fun y hy => by
    obtain ⟨a1, a2⟩ := h.wf.10 y hy
    exact ⟨a1, fun i hi => by show i < (s.pool.set x l).length; rw [e]; exact a2 i hi⟩, h.wf.11, h.wf.12, h.wf.13, h.wf.14⟩, ⟨h.kd.kd⟩, h.par, h.stk, h.en, h.wt, h.ed, h.dis, h.pcB, h.pcI⟩
  rcases List.mem_or_eq_of_mem_set hy with hy | rfl
  · exact h.wf.5 y hy
  · exact hl
theorem Cs.timeS {s : PRun} {n : Nat} {t : PTask} {time : Int} (h : Iv s) (ht : s.tasks[n]? = some t) : Cs s n t 0 (timeS s n time) t := by
  obtain ⟨a1, a2, a3, a4⟩ := h.wf.tsk t (List.mem_of_getElem? ht)
  have l1 := (h.wf.p (plA_at a3)).2
  unfold Go.Ab.timeS
  rw [tkAt_eq ht]
  exact ⟨h.pset (by rw [List.length_set]; exact l1), ht, rfl, fun _ _ => rfl, rfl, rfl, rfl, rfl, rfl, rfl, rfl, rfl, ⟨rfl, rfl, rfl, rfl⟩, ⟨rfl, rfl, rfl, rfl, rfl⟩, by show (List.set _ _ _).length ≤ _; rw [List.length_set]; omega⟩
theorem Cs.actS {s : PRun} {n : Nat} {t : PTask} {b : Bool} {a : Int} (h : Iv s) (ht : s.tasks[n]? = some t) (hM : s.pool.length < MM) : Cs s n t 1 (actS s n b a) t := by
  obtain ⟨a1, a2, a3, a4⟩ := h.wf.tsk t (List.mem_of_getElem? ht)
  have l1 := (h.wf.p (plA_at a3)).2
  unfold Go.Ab.actS
  rw [tkAt_eq ht]
  split
  · have h1 := h.addP (l := plA s t.clk) hM l1
    refine ⟨⟨⟨h1.wf.1, h1.wf.2, h1.wf.3, h1.wf.4, h1.wf.5, h1.wf.6, fun i hi => ?_, h1.wf.8, h1.wf.9, h1.wf.10, h1.wf.11, by
      obtain ⟨b1, b2, b3, b4, b5, b6, b7⟩ := h1.wf.12
      exact ⟨b1, b2, b3, b4, b5, by show (s.acts.set _ _).length ≤ _; rw [List.length_set]; exact b6, b7⟩, h1.wf.13, h1.wf.14⟩, ⟨h1.kd.kd⟩, h1.par, h1.stk, h1.en, h1.wt, h1.ed, h1.dis, h1.pcB, h1.pcI⟩, ht, rfl, fun _ _ => rfl, rfl, rfl, rfl, rfl, rfl, rfl, rfl, by show (s.acts.set _ _).length = _; rw [List.length_set], ⟨rfl, rfl, rfl, rfl⟩, ⟨rfl, rfl, rfl, rfl, rfl⟩, by show (s.pool ++ [_]).length ≤ _; simp⟩
    rcases List.mem_or_eq_of_mem_set hi with hi | rfl
    · exact h1.wf.7 i hi
    · show s.pool.length < (s.pool ++ [_]).length
      simp
  · exact (Cs.refl h ht).mono (by omega)
theorem Cs.ckS {s : PRun} {n : Nat} {t : PTask} (h : Iv s) (ht : s.tasks[n]? = some t) (hM : s.pool.length < MM) (hk : s.cks.length < 1000000) : Cs s n t 1 (ckS s n) t := by
  obtain ⟨a1, a2, a3, a4⟩ := h.wf.tsk t (List.mem_of_getElem? ht)
  have l1 := (h.wf.p (plA_at a3)).2
  unfold Go.Ab.ckS
  rw [tkAt_eq ht]
  have h1 := h.addP (l := plA s t.clk) hM l1
  refine ⟨⟨⟨h1.wf.1, h1.wf.2, h1.wf.3, h1.wf.4, h1.wf.5, fun i hi => ?_, h1.wf.7, h1.wf.8, h1.wf.9, h1.wf.10, h1.wf.11, by
    obtain ⟨b1, b2, b3, b4, b5, b6, b7⟩ := h1.wf.12
    exact ⟨b1, b2, b3, b4, by show (s.cks ++ [_]).length ≤ _; simp; omega, b6, b7⟩, h1.wf.13, h1.wf.14⟩, ⟨h1.kd.kd⟩, h1.par, h1.stk, h1.en, h1.wt, h1.ed, h1.dis, h1.pcB, h1.pcI⟩, ht, rfl, fun _ _ => rfl, rfl, rfl, rfl, rfl, rfl, rfl, rfl, rfl, ⟨rfl, rfl, rfl, rfl⟩, ⟨rfl, rfl, rfl, rfl, rfl⟩, by show (s.pool ++ [_]).length ≤ _; simp⟩
  rcases List.mem_append.1 hi with hi | hi
  · exact h1.wf.6 i hi
  · rw [List.mem_singleton] at hi; subst hi
    show s.pool.length < (s.pool ++ [_]).length
    simp
theorem Cs.turnA {s : PRun} {n : Nat} {t : PTask} (h : Iv s) (ht : s.tasks[n]? = some t) (hk : s.turns.length < 1000000) : Cs s n t 0 (turnA s n) t :=
  ⟨⟨⟨h.wf.1, h.wf.2, h.wf.3, h.wf.4, h.wf.5, h.wf.6, h.wf.7, h.wf.8, h.wf.9, h.wf.10, h.wf.11, by
    obtain ⟨b1, b2, b3, b4, b5, b6, b7⟩ := h.wf.12
    exact ⟨b1, b2, b3, by show (s.turns ++ [_]).length ≤ _; simp; omega, b5, b6, b7⟩, h.wf.13, h.wf.14⟩, ⟨h.kd.kd⟩, h.par, h.stk, h.en, h.wt, h.ed, h.dis, h.pcB, h.pcI⟩, ht, rfl, fun _ _ => rfl, rfl, rfl, rfl, rfl, rfl, rfl, rfl, rfl, ⟨rfl, rfl, rfl, rfl⟩, ⟨rfl, rfl, rfl, rfl, rfl⟩, Nat.le_refl _⟩
theorem Tok.cs {k k' : Nat} {s s' : PRun} {n j : Nat} {t t' : PTask} {c : PCall} {st : Stp} {m : Nat} (h : Tok k s n j t c st) (g : Cs s n t m s' t') (hk : m + k' ≤ k) : Tok k' s' n j t' c st := by
  obtain ⟨a1, a2, a3, a4⟩ := g.tsa
  obtain ⟨c1, c2, c3, c4, c5⟩ := g.tst
  refine ⟨g.iv, g.tk, by rw [g.calls]; exact h.hc, h.hac, ⟨h.vok.v, h.vok.w, h.vok.vs, by rw [g.objs]; exact h.vok.ob, h.vok.vl⟩, by rw [g.objs]; exact h.ob, by rw [g.objs]; exact h.szo, by rw [g.accs]; exact h.sza, by rw [g.lines]; exact h.szl, by rw [a1, a2]; exact h.tp, h.pcl, by rw [c1]; exact h.st1, by rw [c2]; exact h.en, by rw [c3]; exact h.wt, h.pc, by rw [g.calls]; exact h.hC, by have := g.pl; have := h.hP; omega, by rw [g.behs]; exact h.hB, by rw [a3]; exact h.kl, by rw [a1]; exact h.sl, h.vl, h.op, by rw [g.p]; exact h.r6, by rw [a4, g.tl]; exact h.r7, by rw [g.objs]; exact h.r8, by rw [g.p]; exact h.r9⟩
theorem canF_cs {s s' : PRun} {n : Nat} {t t' : PTask} {m : Nat} (g : Cs s n t m s' t') (c : PCall) (st : Stp) : canF s' c st = canF s c st := by
  unfold canF room objL
  rw [g.objs, g.tl]
end Go.Ab
