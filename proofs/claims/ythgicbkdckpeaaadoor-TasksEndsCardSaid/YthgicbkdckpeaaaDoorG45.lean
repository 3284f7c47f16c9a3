/- Part of the proof. -/
import Derived.Test.YthgicbkdckpeaaaDoorG44
import Derived.Test.YthgicbkdckpeaaaDoorG41
import Derived.Test.YthgicbkdckpeaaaDoorG17
import Derived.Test.YthgicbkdckpeaaaDoorG19
set_option linter.unusedSimpArgs false
set_option linter.unusedVariables false
set_option maxHeartbeats 4000000
namespace Go.Ab
open Go Go.Ab Go.Proofs Go.Ab.Ty

def PRun.ws (s : PRun) (l : List Int) (u : Int) : PRun := { s with sched := l, used := u }
theorem kidsJ_ws (l : List Int) (u : Int) : ∀ (ks : List Int) (s : PRun) (e : Nat), kidsJ (s.ws l u) e ks = ((kidsJ s e ks).1.ws l u, (kidsJ s e ks).2) := by
  intro ks
  induction ks with
  | nil => intro s e; rfl
  | cons k ks ih =>
    intro s e
    have e1 : (s.ws l u).tasks = s.tasks := rfl
    have e2 : (s.ws l u).ends = s.ends := rfl
    simp only [kidsJ, e1, e2]
    split
    · split
      · exact ih (s.addP _) _
      · rfl
    · rfl
theorem wakeP_ws (s : PRun) (p : Nat) (tp : PTask) (e : Nat) (l : List Int) (u : Int) : wakeP (s.ws l u) p tp e = (wakeP s p tp e).ws l u := by
  unfold wakeP
  have e1 : (s.ws l u).calls = s.calls := rfl
  rw [e1]
  split
  · split
    · rfl
    · rfl
  · rfl
theorem goOnF_ws {S : PRun → Nat → PRun} {l : List Int} {u : Int} (hS : ∀ s n, S (s.ws l u) n = (S s n).ws l u) (s : PRun) (n j : Nat) : goOnF S (s.ws l u) n j = (goOnF S s n j).ws l u := by
  unfold goOnF
  have e1 : (s.ws l u).tasks = s.tasks := rfl
  have e2 : (s.ws l u).calls = s.calls := rfl
  rw [e1, e2]
  cases ht : s.tasks[n]? with
  | none => rfl
  | some t =>
    cases hc : s.calls[j]? with
    | none => rfl
    | some c =>
      simp only
      have e3 : ((s.ws l u).cset j { c with pc := c.pc + 1 }).calls = (s.cset j { c with pc := c.pc + 1 }).calls := rfl
      rw [e3]
      split
      · exact hS ((s.cset j { c with pc := c.pc + 1 }).tset n (clo { t with slen := 1 } 3)) n
      · rfl
theorem settleF_ws (l : List Int) (u : Int) : ∀ (f : Nat) (s : PRun) (n : Nat), settleF f (s.ws l u) n = (settleF f s n).ws l u := by
  intro f
  induction f with
  | zero => intro s n; rfl
  | succ f ih =>
    intro s n
    have e1 : (s.ws l u).tasks = s.tasks := rfl
    simp only [settleF, e1]
    cases ht : s.tasks[n]? with
    | none => rfl
    | some t =>
      simp only
      split
      · rfl
      · rw [kidsJ_ws]
        obtain ⟨K, hK⟩ : ∃ K, K = kidsJ s t.clk t.kids := ⟨_, rfl⟩
        rw [← hK]
        obtain ⟨s1, e, b⟩ := K
        cases b with
        | false => rfl
        | true =>
          simp only
          split
          · rfl
          · have e2 : (s1.ws l u).tasks = s1.tasks := rfl
            rw [e2]
            cases hp : s1.tasks[t.par.toNat]? with
            | none => rfl
            | some tp =>
              simp only
              split
              · have := goOnF_ws ih (wakeP ((s1.enS n e).tset n { t with state := t.ending }) t.par.toNat tp e) t.par.toNat (topJ tp)
                rw [← wakeP_ws] at this
                exact this
              · exact ih ((s1.enS n e).tset n { t with state := t.ending }) t.par.toNat
theorem dsc_ws (s : PRun) (l : List Int) (u : Int) : ∀ f n, dsc (s.ws l u) f n = dsc s f n := by
  intro f
  induction f with
  | zero => intro n; rfl
  | succ f ih =>
    intro n
    have e1 : kidsF (s.ws l u) n = kidsF s n := rfl
    simp only [dsc, e1, ih]
theorem stopF_ws (s : PRun) (n : Nat) (l : List Int) (u : Int) : stopF (s.ws l u) n = (stopF s n).ws l u := by
  unfold stopF
  have e1 : (s.ws l u).tasks = s.tasks := rfl
  rw [e1]
  cases ht : s.tasks[n]? with
  | none => rfl
  | some t =>
    have e2 : canK (s.ws l u) t.kids = (canK s t.kids).ws l u := by
      unfold canK
      have : (fun k : Int => dsc (s.ws l u) ((s.ws l u).tasks.length) k.toNat) = fun k : Int => dsc s s.tasks.length k.toNat := funext fun k => dsc_ws s l u _ _
      rw [this]; rfl
    simp only
    rw [e2]
    exact settleF_ws l u (n + 1) ((canK s t.kids).tset n (clo t 4)) n
theorem startF_ws (s : PRun) (c : Cd) (vs a : List Int) (prio par : Int) (canc : Bool) (l : List Int) (u : Int) : startF (s.ws l u) c vs a prio par canc = (startF s c vs a prio par canc).ws l u := by
  unfold startF
  split
  · exact settleF_ws l u (s.tasks.length + 1) ((startS s c vs a prio par canc).tset s.tasks.length (clo (newT s.calls.length prio canc par s.pool.length) 3)) s.tasks.length
  · rfl
theorem ws_ite {P : Prop} [Decidable P] {a b a' b' : Bool × PRun} {l : List Int} {u : Int} (h1 : a = (a'.1, a'.2.ws l u)) (h2 : b = (b'.1, b'.2.ws l u)) : (if P then a else b) = ((if P then a' else b').1, (if P then a' else b').2.ws l u) := by
  split
  · exact h1
  · exact h2
theorem stepF_ws (s : PRun) (n j : Nat) (t : PTask) (c : PCall) (st : Stp) (time : Int) (l : List Int) (u : Int) : stepF (s.ws l u) n j t c st time = ((stepF s n j t c st time).1, (stepF s n j t c st time).2.ws l u) := by
  have ho : ∀ o, objAt (s.ws l u) o = objAt s o := fun o => rfl
  have hov : ∀ k, ovr (s.ws l u) k = ovr s k := fun k => rfl
  have hp : (s.ws l u).p = s.p := rfl
  have hd : dsc (s.ws l u) (s.ws l u).tasks.length (kidN t st.n) = dsc s s.tasks.length (kidN t st.n) := dsc_ws s l u _ _
  unfold stepF
  rw [hov, hp, hd, stopF_ws]
  have hst := startF_ws s (cdAt s.p.codes st.task) (givL c st.vars) (s.pool.getD t.clk []) st.n n t.canc l u
  have hpl : (s.ws l u).pool = s.pool := rfl
  rw [hpl, hst]
  exact ws_ite rfl (ws_ite (by simp only [ho]; split <;> rfl) (ws_ite rfl (ws_ite rfl (ws_ite rfl (ws_ite rfl (ws_ite (ws_ite rfl rfl) (ws_ite rfl (ws_ite (ws_ite rfl rfl) (ws_ite rfl (ws_ite (ws_ite rfl rfl) rfl))))))))))
theorem turnB_ws (s : PRun) (n : Nat) (c : PCall) (st : Stp) (l : List Int) (u : Int) : turnB (s.ws l u) n c st = (turnB s n c st).ws l u := by
  have hb : ∀ s : PRun, behK (s.ws l u) n = (behK s n).ws l u := fun s => by
    unfold behK
    have : tkAt (s.ws l u) n = tkAt s n := rfl
    rw [this]
    split <;> rfl
  have hw : ∀ s : PRun, awK (s.ws l u) n st = (awK s n st).ws l u := fun s => by
    unfold awK
    have e1 : ∀ k, ovr (s.ws l u) k = ovr s k := fun k => rfl
    have e2 : tkAt (s.ws l u) n = tkAt s n := rfl
    rw [e1, e2]
    split <;> rfl
  have ha : ∀ (s : PRun) (b : Bool) (a : Int), acK (s.ws l u) n b a = (acK s n b a).ws l u := fun s b a => by
    unfold acK
    split <;> rfl
  have hs : ∀ (s : PRun) (b : Bool) (a : Int), actS (s.ws l u) n b a = (actS s n b a).ws l u := fun s b a => by
    unfold actS
    split <;> rfl
  have hcn : canF (s.ws l u) c st = canF s c st := rfl
  unfold turnB
  have e0 : turnA (s.ws l u) n = (turnA s n).ws l u := rfl
  rw [hcn, e0, hb]
  have e1 : ∀ s : PRun, nobS (s.ws l u) n = (nobS s n).ws l u := fun s => rfl
  rw [e1, hw, ha]
  have e2 : ∀ (s : PRun) (x : Int), timeS (s.ws l u) n x = (timeS s n x).ws l u := fun s x => rfl
  have e3 : (s.ws l u).turns = s.turns := rfl
  rw [e2, hs, e3]
  rfl
theorem turnF_ws (s : PRun) (n : Nat) (l : List Int) (u : Int) : turnF (s.ws l u) n = (turnF s n).ws l u := by
  have e1 : tkAt (s.ws l u) n = tkAt s n := rfl
  have e2 : ∀ j, clAt (s.ws l u) j = clAt s j := fun j => rfl
  unfold turnF
  rw [e1, e2]
  obtain ⟨c, hc⟩ : ∃ c, c = clAt s (topJ (tkAt s n)) := ⟨_, rfl⟩
  rw [← hc]
  have hcn : canF (s.ws l u) c (stAt c) = canF s c (stAt c) := rfl
  have htu : (s.ws l u).turns = s.turns := rfl
  unfold turnX
  rw [hcn, turnB_ws, stopF_ws, htu]
  have e3 : tkAt ((turnB s n c (stAt c)).ws l u) n = tkAt (turnB s n c (stAt c)) n := rfl
  rw [e3, stepF_ws]
  split
  · rfl
  · simp only
    split
    · rfl
    · obtain ⟨X, hX⟩ : ∃ X, X = (stepF (turnB s n c (stAt c)) n (topJ (tkAt s n)) (tkAt (turnB s n c (stAt c)) n) c (stAt c) s.turns.length).2 := ⟨_, rfl⟩
      rw [← hX]
      unfold turnG
      split
      · exact goOnF_ws (settleF_ws l u (n + 1)) (hasS X n c.actor) n _
      · exact goOnF_ws (settleF_ws l u (n + 1)) X n _
theorem readyF_ws (s : PRun) (l : List Int) (u : Int) : readyF (s.ws l u) = readyF s := by
  have hb : ∀ k, blkT (s.ws l u) k = blkT s k := fun k => rfl
  have key : ∀ (E : List Int) (m : Nat), rdF (s.ws l u) E m = rdF s E m := by
    intro E m
    induction m with
    | zero => rfl
    | succ m ih =>
      have e1 : (s.ws l u).tasks = s.tasks := rfl
      simp only [rdF, ih, e1, hb]
  unfold readyF
  exact congrArg (·.2) (key (effF s) s.tasks.length)
structure Zr (k : Nat) (s s' : PRun) : Prop where
  eq : s' = s.ws (s.sched ++ List.replicate k 0) s'.used
  us : s'.used = s.used ∨ (s.used = (s.sched.length : Int) ∧ s.used ≤ s'.used)
theorem Zr.sch {k : Nat} {s s' : PRun} (h : Zr k s s') (hz : 0 ≤ s.used ∧ s.used ≤ (s.sched.length : Int)) : schF s' = schF s := by
  have e : s'.sched = s.sched ++ List.replicate k 0 := by rw [h.eq]; rfl
  unfold schF
  rw [e]
  have hr : ∀ i : Nat, s.sched.length ≤ i → (s.sched ++ List.replicate k 0).getD i 0 = 0 := fun i hi => by
    rw [List.getD_eq_getElem?_getD, List.getElem?_append_right hi, List.getElem?_replicate]
    split <;> rfl
  by_cases hlt : s.used < (s.sched.length : Int)
  · have hu : s'.used = s.used := by rcases h.us with g | g <;> omega
    rw [if_pos hlt, hu, if_pos (by simp; omega), List.getD_eq_getElem?_getD, List.getElem?_append_left (by omega), ← List.getD_eq_getElem?_getD]
  · rw [if_neg hlt]
    split
    · exact hr _ (by rcases h.us with g | g <;> omega)
    · rfl
theorem Zr.pik {k : Nat} {s s' : PRun} (h : Zr k s s') (hz : 0 ≤ s.used ∧ s.used ≤ (s.sched.length : Int)) : Zr k (pikF s) (pikF s') := by
  have e : s'.sched = s.sched ++ List.replicate k 0 := by rw [h.eq]; rfl
  have hr : readyF s' = readyF s := by rw [h.eq]; exact readyF_ws s _ _
  unfold pikF
  rw [hr]
  split
  · exact h
  · by_cases hlt : s.used < (s.sched.length : Int)
    · have hu : s'.used = s.used := by rcases h.us with g | g <;> omega
      rw [if_pos hlt, if_pos (by rw [e, hu]; simp; omega)]
      refine ⟨?_, .inl (by show s'.used + 1 = s.used + 1; rw [hu])⟩
      obtain ⟨h1, _⟩ := h
      rw [h1]; rfl
    · rw [if_neg hlt]
      split
      · refine ⟨?_, .inr ⟨by omega, by show s.used ≤ s'.used + 1; rcases h.us with g | g <;> omega⟩⟩
        obtain ⟨h1, _⟩ := h
        rw [h1]; rfl
      · exact h
theorem Zr.run {k : Nat} : ∀ (f : Nat) (s s' : PRun), RI s → Zr k s s' → Zr k (runF f s) (runF f s') := by
  intro f
  induction f with
  | zero => intro s s' _ h; exact h
  | succ f ih =>
    intro s s' hR h
    have hz := hR.gg.sz.us
    have hr : readyF s' = readyF s := by rw [h.eq]; exact readyF_ws s _ _
    have ht : s'.turns = s.turns := by rw [h.eq]; rfl
    have hP := h.pik hz
    unfold runF
    rw [ht, hr]
    split
    · rename_i htn
      split
      · exact hP
      · rename_i hne
        have hc : chF s' = chF s := by unfold chF; rw [hr, h.sch hz]
        rw [hc]
        refine ih _ _ (hR.turn htn hne).1 ?_
        have he := hP.eq
        have hu := hP.us
        obtain ⟨u, hu1⟩ : ∃ u, u = (pikF s').used := ⟨_, rfl⟩
        rw [← hu1] at he hu
        rw [he]
        have hX : (turnF (pikF s) (chF s).toNat).sched = (pikF s).sched ∧ (turnF (pikF s) (chF s).toNat).used = (pikF s).used := by
          have q := turnF_ws (pikF s) (chF s).toNat (pikF s).sched (pikF s).used
          have q0 : (pikF s).ws (pikF s).sched (pikF s).used = pikF s := rfl
          rw [q0] at q
          rw [q]; exact ⟨rfl, rfl⟩
        rw [turnF_ws]
        refine ⟨?_, ?_⟩
        · rw [hX.1]; rfl
        · rw [hX.1, hX.2]; exact hu
    · exact h
end Go.Ab
set_option maxHeartbeats 4000000
namespace Go.Ab
open Go Go.Ab Go.Proofs Go.Ab.Ty

end Go.Ab
set_option maxHeartbeats 4000000
namespace Go.Ab
open Go Go.Ab Go.Proofs Go.Ab.Ty

def trV (R : PRun) : TR := ⟨R.lines, R.accs, R.tasks.map (·.state), R.tasks.map (·.par), R.tasks.all fun t => decide (3 ≤ t.state), R.turns.length⟩
theorem ranV_tr (R : PRun) : ranV R = encR (trV R) := rfl
theorem Pu_args (p : Tk) (s : List Int) : ∀ a ∈ [encT p, AV.lst (s.map .int)], Pu a := fun a ha => by
  simp only [List.mem_cons, List.not_mem_nil, or_false] at ha
  rcases ha with rfl | rfl
  · exact Pu_encT p
  · exact Pu_mapInt _
end Go.Ab
set_option maxHeartbeats 4000000
namespace Go.Ab
open Go Go.Ab Go.Proofs Go.Ab.Ty

end Go.Ab
set_option maxHeartbeats 4000000
namespace Go.Ab.Rg
open Go Go.Ab Go.Proofs Go.Ab.Ty

abbrev u1 (op : Int) : Prop := (op = 1 ∨ op = 5) ∨ (op = 2 ∨ op = 3) ∨ op = 4
abbrev u2 (op : Int) : Prop := op = 2 ∨ op = 3
abbrev u3 (op : Int) : Prop := (op = 1 ∨ op = 5) ∨ (op = 6 ∨ op = 9) ∨ (op = 7 ∨ op = 10) ∨ op = 8
abbrev u4 (op : Int) : Prop := op = 6 ∨ op = 9
abbrev u5 (op : Int) : Prop := (op = 6 ∨ op = 9) ∨ op = 8

theorem Pu_tup5 (a b c d e : Bool) : Pu (.tup [.bool a, .bool b, .bool c, .bool d, .bool e]) := .tup fun x hx => by
  simp only [List.mem_cons, List.not_mem_nil, or_false] at hx
  rcases hx with rfl | rfl | rfl | rfl | rfl <;> exact .base _

theorem uses_ok (op : Int) : Fn Tryd.prog 117 [.int op] (.tup [.bool (decide (u1 op)), .bool (decide (u2 op)), .bool (decide (u3 op)), .bool (decide (u4 op)), .bool (decide (u5 op))]) := by
  refine Fn.intro' [(0, .int op)] 1 24 Tryd.func117 (by kernel_rfl) rfl rfl rfl rfl rfl ?_
  let S := fun (t : Nat) (b : Bool) => (⟨[(t, .bool b), (7, .int op)], []⟩ : ASt)
  refine goA ?_
  refine AWp.join (S 8 (decide (op = 1 ∨ op = 5))) ?_ ?_
  · refine ifA (fun ho => ?_) (fun ho => ?_)
    · refine goA ?_
      exact .env' (by simp +decide only [go_sem]; simp at ho; simp [ho, Le.refl])
    · refine goA ?_
      exact .env' (by simp +decide only [go_sem]; simp at ho; simp [ho, Le.refl])
  simp only [S]
  refine ifA (fun h1 => ?_) (fun h1 => ?_)
  · simp at h1
    refine goA ?_
    exact Ret.data rfl (by rcases h1 with h | h <;> simp [packA, lk, h]) (Pu_tup5 _ _ _ _ _)
  simp at h1
  refine goA ?_
  refine AWp.join (S 11 (decide (op = 2 ∨ op = 3))) ?_ ?_
  · refine ifA (fun ho => ?_) (fun ho => ?_)
    · refine goA ?_
      exact .env' (by simp +decide only [go_sem]; simp at ho; simp [ho, Le.refl])
    · refine goA ?_
      exact .env' (by simp +decide only [go_sem]; simp at ho; simp [ho, Le.refl])
  simp only [S]
  refine ifA (fun h2 => ?_) (fun h2 => ?_)
  · simp at h2
    refine goA ?_
    exact Ret.data rfl (by rcases h2 with h | h <;> simp [packA, lk, h]) (Pu_tup5 _ _ _ _ _)
  simp at h2
  refine goA ?_
  refine ifA (fun h4 => ?_) (fun h4 => ?_)
  · simp at h4
    refine goA ?_
    exact Ret.data rfl (by simp [packA, lk, h4]) (Pu_tup5 _ _ _ _ _)
  simp at h4
  refine goA ?_
  refine AWp.join (S 16 (decide (op = 6 ∨ op = 9))) ?_ ?_
  · refine ifA (fun ho => ?_) (fun ho => ?_)
    · refine goA ?_
      exact .env' (by simp +decide only [go_sem]; simp at ho; simp [ho, Le.refl])
    · refine goA ?_
      exact .env' (by simp +decide only [go_sem]; simp at ho; simp [ho, Le.refl])
  simp only [S]
  refine ifA (fun h6 => ?_) (fun h6 => ?_)
  · simp at h6
    refine goA ?_
    exact Ret.data rfl (by rcases h6 with h | h <;> simp [packA, lk, h]) (Pu_tup5 _ _ _ _ _)
  simp at h6
  refine goA ?_
  refine AWp.join (S 19 (decide (op = 7 ∨ op = 10))) ?_ ?_
  · refine ifA (fun ho => ?_) (fun ho => ?_)
    · refine goA ?_
      exact .env' (by simp +decide only [go_sem]; simp at ho; simp [ho, Le.refl])
    · refine goA ?_
      exact .env' (by simp +decide only [go_sem]; simp at ho; simp [ho, Le.refl])
  simp only [S]
  refine ifA (fun h7 => ?_) (fun h7 => ?_)
  · simp at h7
    refine goA ?_
    exact Ret.data rfl (by rcases h7 with h | h <;> simp [packA, lk, h]) (Pu_tup5 _ _ _ _ _)
  simp at h7
  refine goA ?_
  refine ifA (fun h8 => ?_) (fun h8 => ?_)
  · simp at h8
    refine goA ?_
    exact Ret.data rfl (by simp [packA, lk, h8]) (Pu_tup5 _ _ _ _ _)
  simp at h8
  refine goA ?_
  exact Ret.data rfl (by simp [packA, lk, h1, h2, h4, h6, h7, h8]) (Pu_tup5 _ _ _ _ _)

theorem apart_ok (vs : List Int) (n : Int) : Fn Tryd.prog 118 [.lst (vs.map .int), .int n] (.bool (decide (okVars n vs))) := by
  refine Fn.intro' [(0, .lst (vs.map .int)), (1, .int n)] 2 40 Tryd.func118 (by kernel_rfl) rfl rfl rfl rfl rfl ?_
  refine AWp.learn 0 rfl fun hlen => ?_
  rw [List.length_map] at hlen
  refine goA ?_
  refine AWp.loop (J := fun k : Nat => k ≤ vs.length ∧ ∀ i (h : i < k) (h' : i < vs.length), 0 ≤ vs[i] ∧ vs[i] < n ∧ vs[i] ∉ vs.take i)
    (I := fun k => ⟨[(5, .int k), (0, .lst (vs.map .int)), (1, .int n)], []⟩) (μ := fun k => vs.length - k) 0 ⟨Nat.zero_le _, by omega⟩ .wk ?_
  rintro k ⟨hk, hno⟩
  refine goA ?_
  refine ifA (fun hd => ?_) (fun hd => ?_)
  · simp at hd
    refine goA ?_
    refine ARun.q1 rfl rfl (ql_idx rfl rfl Tryd.underlying25 (by omega) (by omega) (by kernel_rfl)) ?_
    refine goA ?_
    refine gqA (h := fun hg => ql_idxD (l := vs) (f := .int) 0 (by simp +decide only [go_sem] <;> rfl) (by simp +decide only [go_sem] <;> rfl) Tryd.underlying25 (by omega) (by omega) (by kernel_rfl)) (hr := ?_)
    refine goA ?_
    rw [nth_eq hd]
    refine ifA (fun he => ?_) (fun he => ?_)
    · simp at he
      refine goA ?_
      have := okVars_bad (cv := n) hd (by omega)
      exact Ret.bool rfl (by simp [this])
    simp at he
    refine goA ?_
    refine AWp.loop (J := fun j : Nat => j ≤ k ∧ ∀ i (h : i < j) (h' : i < vs.length), vs[i] ≠ vs[k])
      (I := fun j => ⟨[(6, .int j), (5, .int k), (0, .lst (vs.map .int)), (1, .int n)], []⟩) (μ := fun j => k - j) 0 ⟨Nat.zero_le _, by omega⟩ .wk ?_
    rintro j ⟨hj, hne⟩
    refine goA ?_
    refine ifA (fun hf => ?_) (fun hf => ?_)
    · simp at hf
      refine goA ?_
      refine drA (k := 9) follows (hr := ?_)
      refine goA ?_
      refine ARun.q1 rfl rfl (ql_idx rfl rfl Tryd.underlying25 (by omega) (by omega) (by kernel_rfl)) ?_
      refine goA ?_
      refine ARun.q1 rfl rfl (ql_idx rfl rfl Tryd.underlying25 (by omega) (by omega) (by kernel_rfl)) ?_
      refine goA ?_
      refine ifA (fun hg => ?_) (fun hg => ?_)
      · simp at hg
        refine goA ?_
        have := okVars_bad (cv := n) hd (.inr (.inr (List.mem_iff_getElem.2 ⟨j, by rw [List.length_take]; omega, by rw [List.getElem_take]; exact hg⟩)))
        exact Ret.bool rfl (by simp [this])
      · simp at hg
        refine goA ?_
        rw [wrap_succ (by omega)]
        refine ⟨j + 1, ⟨by omega, fun i h h' => ?_⟩, by omega, .wk⟩
        by_cases e : i = j
        · subst e; exact hg
        · exact hne i (by omega) h'
    · simp at hf
      refine goA ?_
      rw [wrap_succ (by omega)]
      refine ⟨k + 1, ⟨by omega, fun i h h' => ?_⟩, by omega, .wk⟩
      by_cases e : i = k
      · subst e
        refine ⟨by omega, by omega, fun hm => ?_⟩
        obtain ⟨j', hj', he'⟩ := List.mem_iff_getElem.1 hm
        rw [List.length_take] at hj'
        rw [List.getElem_take] at he'
        exact hne j' (by omega) (by omega) he'
      · exact hno i (by omega) h'
  · simp at hd
    refine goA ?_
    have := okVars_good (cv := n) (vs := vs) fun i hi => hno i (by omega) hi
    exact Ret.bool rfl (by simp [this])
end Go.Ab.Rg
set_option maxHeartbeats 4000000
namespace Go.Ab.Rg
open Go Go.Ab Go.Proofs Go.Ab.Ty

def okFormed (s : Stp) (n : Int) : Prop := (1 ≤ s.op ∧ s.op ≤ 12) ∧ ((¬ u1 s.op → s.v = 0) ∧ (¬ u2 s.op → s.w = 0) ∧ (¬ u3 s.op → s.n = 0) ∧ (¬ u4 s.op → s.task = 0) ∧ (¬ u5 s.op → s.vars = [])) ∧
  ((u1 s.op → 0 ≤ s.v ∧ s.v < n) ∧ (u2 s.op → 0 ≤ s.w ∧ s.w < n ∧ s.v ≠ s.w)) ∧ s.vars.length ≤ 4 ∧ okVars n s.vars

theorem formed_ok (s : Stp) (n : Int) (b : Bool) (hb : b = true ↔ okFormed s n) : Fn Tryd.prog 98 [encS s, .int n] (.bool b) := by
  refine Fn.intro' [(0, encS s), (1, .int n)] 2 114 Tryd.func98 (by kernel_rfl) rfl rfl rfl rfl rfl ?_
  refine goA ?_
  refine ifA (fun hc => ?_) (fun hc => ?_)
  · simp at hc
    refine goA ?_
    refine Ret.bool rfl ?_
    rw [hb]
    simp only [Bool.false_eq_true, false_iff]
    rintro ⟨h, -⟩
    omega
  simp at hc
  refine goA ?_
  refine callA (uses_ok s.op) ?_
  generalize ha1 : decide (u1 s.op) = a1
  generalize ha2 : decide (u2 s.op) = a2
  generalize ha3 : decide (u3 s.op) = a3
  generalize ha4 : decide (u4 s.op) = a4
  generalize ha5 : decide (u5 s.op) = a5
  refine goA ?_
  have e1 : u1 s.op ↔ a1 = true := by rw [← ha1]; simp only [decide_eq_true_eq]
  have e2 : u2 s.op ↔ a2 = true := by rw [← ha2]; simp only [decide_eq_true_eq]
  have e3 : u3 s.op ↔ a3 = true := by rw [← ha3]; simp only [decide_eq_true_eq]
  have e4 : u4 s.op ↔ a4 = true := by rw [← ha4]; simp only [decide_eq_true_eq]
  have e5 : u5 s.op ↔ a5 = true := by rw [← ha5]; simp only [decide_eq_true_eq]
  unfold okFormed at hb
  simp only [e1, e2, e3, e4, e5, Bool.not_eq_true] at hb
  clear ha1 ha2 ha3 ha4 ha5 e1 e2 e3 e4 e5
  refine ifA (fun hd => ?_) (fun hd => ?_)
  · simp at hd
    refine goA ?_
    refine Ret.bool rfl ?_
    rw [hb]
    simp only [Bool.false_eq_true, false_iff]
    rintro ⟨-, ⟨f1, f2, f3, f4, f5⟩, -⟩
    rcases hd with (((⟨h, h'⟩ | ⟨h, h'⟩) | ⟨h, h'⟩) | ⟨h, h'⟩) | ⟨h, h'⟩
    · exact h' (f1 h)
    · exact h' (f2 h)
    · exact h' (f3 h)
    · exact h' (f4 h)
    · rw [f5 h] at h'; simp at h'
  have hd1 : (a1 = false → s.v = 0) ∧ (a2 = false → s.w = 0) ∧ (a3 = false → s.n = 0) ∧ (a4 = false → s.task = 0) ∧ (a5 = false → s.vars = []) := by
    simp at hd
    obtain ⟨⟨⟨⟨f1, f2⟩, f3⟩, f4⟩, f5⟩ := hd
    exact ⟨f1, f2, f3, f4, f5⟩
  clear hd
  refine goA ?_
  refine ifA (fun hd => ?_) (fun hd => ?_)
  · simp at hd
    refine goA ?_
    refine Ret.bool rfl ?_
    rw [hb]
    simp only [Bool.false_eq_true, false_iff]
    rintro ⟨-, -, ⟨f1, f2⟩, -⟩
    rcases hd with ⟨h, h'⟩ | ⟨h, h'⟩
    · have := f1 h; omega
    · have := f2 h; omega
  have hd2 : (a1 = true → 0 ≤ s.v ∧ s.v < n) ∧ (a2 = true → 0 ≤ s.w ∧ s.w < n ∧ s.v ≠ s.w) := by
    simp at hd
    exact ⟨fun h => by have := hd.1 h; omega, fun h => by have := hd.2 h; omega⟩
  clear hd
  refine goA ?_
  refine gcallA (i := fun hg => apart_ok s.vars n) (hr := ?_)
  refine goA ?_
  refine Ret.bool rfl ?_
  rw [hb]
  constructor
  · intro h
    simp at h
    exact ⟨hc, hd1, hd2, by omega, h.2⟩
  · rintro ⟨-, -, -, h, h'⟩
    simp [h']; omega
end Go.Ab.Rg
set_option maxHeartbeats 4000000
namespace Go.Ab.Rg
open Go Go.Ab Go.Proofs Go.Ab.Ty

def okFits (p : Tk) (c : Cd) (i own : Int) (method : Bool) (s : Stp) : Prop := okFormed s c.vars ∧
  ((s.op = 1 ∨ s.op = 5) → -1000 ≤ s.n ∧ s.n ≤ 1000) ∧
  (s.op = 6 → (0 ≤ s.n ∧ s.n ≤ 3 ∧ 1 ≤ s.task ∧ s.task < p.codes.length) ∧ (method = false → own < s.task) ∧ s.vars.length = (cod p.codes s.task).params) ∧
  ((s.op = 7 ∨ s.op = 10) → method = false ∧ (0 ≤ s.n ∧ s.n < i) ∧ (stp c.steps s.n).op = 6 ∧ (s.op = 7 → ∀ k : Nat, (k : Int) < i → ¬ ((stp c.steps k).op = 7 ∧ (stp c.steps k).n = s.n))) ∧
  (s.op = 8 → method = false ∧ 0 ≤ s.n ∧ s.n < p.actors ∧ (1 : Int) ≤ s.vars.length) ∧
  (s.op = 9 → (0 ≤ s.n ∧ s.n < p.actors ∧ 0 ≤ s.task ∧ s.task < p.methods.length) ∧ (method = true → s.task < own) ∧ s.vars.length = (cod p.methods s.task).params)

open Classical in
theorem fits_ok (p : Tk) (c : Cd) (i own : Int) (method : Bool) (h0 : 0 ≤ i) (h1 : i < c.steps.length) (b : Bool) (hb : b = true ↔ okFits p c i own method (stp c.steps i)) :
    Fn Tryd.prog 73 [encT p, encC c, .int i, .int own, .bool method] (.bool b) := by
  refine Fn.intro' [(0, encT p), (1, encC c), (2, .int i), (3, .int own), (4, .bool method)] 5 200 Tryd.func73 (by kernel_rfl) rfl rfl rfl rfl rfl ?_
  refine AWp.learnV 1 rfl (fun _ _ _ _ _ h => VR.bdC h) fun hbd => ?_
  have hbl := hbd.1
  refine goA ?_
  refine ARun.q1 rfl rfl (ql_idxD (l := c.steps) (f := encS) stp0 rfl rfl Tryd.underlying66 h0 h1 (by kernel_rfl)) ?_
  generalize hs : nth stp0 c.steps i = s
  rw [stp, hs] at hb
  refine goA ?_
  let S := fun (t : Nat) (b : Bool) => (⟨[(t, .bool b), (2, .int i), (3, .int own), (4, .bool method), (5, .ptr 0 1 0 0), (6, .ptr 1 1 0 0), (11, .ptr 2 1 0 0), (24, .int s.op)], [⟨24, 3, [encT p]⟩, ⟨68, 3, [encC c]⟩, ⟨70, 6, [encS s]⟩]⟩ : ASt)
  refine callA (formed_ok s c.vars (decide (okFormed s c.vars)) (by simp)) ?_
  refine goA ?_
  refine ifA (fun hf => ?_) (fun hf => ?_)
  · simp at hf
    refine goA ?_
    exact Ret.bool rfl (by rw [hb]; simp [okFits, hf])
  simp at hf
  refine goA ?_
  refine AWp.join (S 25 (decide (s.op = 1 ∨ s.op = 5))) ?_ ?_
  · refine ifA (fun ho => ?_) (fun ho => ?_)
    · refine goA ?_
      exact .env' (by simp +decide only [go_sem]; simp at ho; simp [ho, Le.refl])
    · refine goA ?_
      exact .env' (by simp +decide only [go_sem]; simp at ho; simp [ho, Le.refl])
  simp only [S]
  refine ifA (fun hx => ?_) (fun hx => ?_)
  · simp at hx
    refine goA ?_
    exact Ret.bool rfl (by rw [hb]; rcases hx with h | h <;> simp [okFits, hf, h])
  simp at hx
  refine goA ?_
  refine ifA (fun h6 => ?_) (fun h6 => ?_)
  · simp at h6
    refine goA ?_
    refine ifA (fun hc => ?_) (fun hc => ?_)
    · refine goA ?_
      refine Ret.bool rfl ?_
      rw [hb]
      simp [okFits, hf, h6]
      simp at hc
      intro e1 e2 e3 e4 e5
      rcases hc with ((((h | h) | h) | h) | ⟨h, h'⟩) <;> first | omega | (have := e5 h; omega)
    simp at hc
    refine goA ?_
    refine drA (k := 11) follows (hr := ?_)
    refine goA ?_
    refine ARun.q1 rfl rfl (ql_idxD (l := p.codes) (f := encC) cd0 rfl rfl Tryd.underlying22 (by omega) (by omega) (by kernel_rfl)) ?_
    refine goA ?_
    refine Ret.bool rfl ?_
    rw [hb]
    simp [okFits, hf, h6]
    exact ⟨fun h => ⟨by omega, hc.2, h⟩, fun h => h.2.2⟩
  simp at h6
  refine goA ?_
  refine AWp.join (S 80 (decide (s.op = 7 ∨ s.op = 10))) ?_ ?_
  · refine ifA (fun ho => ?_) (fun ho => ?_)
    · refine goA ?_
      exact .env' (by simp +decide only [go_sem]; simp at ho; simp [ho, Le.refl])
    · refine goA ?_
      exact .env' (by simp +decide only [go_sem]; simp at ho; simp [ho, Le.refl])
  simp only [S]
  refine ifA (fun h7 => ?_) (fun h7 => ?_)
  · simp at h7
    refine goA ?_
    refine gqA (h := fun hg => ql_idxD (l := c.steps) (f := encS) stp0 (by simp +decide only [go_sem] <;> rfl) (by simp +decide only [go_sem] <;> rfl) Tryd.underlying66 (by simp [gc, allL] at hg; omega) (by simp [gc, allL] at hg; omega) (by kernel_rfl)) (hr := ?_)
    refine goA ?_
    refine ifA (fun hc => ?_) (fun hc => ?_)
    · refine goA ?_
      refine Ret.bool rfl ?_
      rw [hb]
      simp at hc
      simp only [Bool.false_eq_true, false_iff]
      rintro ⟨-, -, -, g, -⟩
      obtain ⟨g1, g2, g3, -⟩ := g h7
      rcases hc with ((h | h) | h) | h
      · rw [g1] at h; cases h
      · omega
      · omega
      · exact h g3
    simp at hc
    refine goA ?_
    refine AWp.loop (J := fun k : Nat => (k : Int) ≤ i ∧ ∀ j : Nat, j < k → ¬ (s.op = 7 ∧ (stp c.steps j).op = 7 ∧ (stp c.steps j).n = s.n))
      (I := fun k => ⟨[(12, .int k), (2, .int i), (6, .ptr 1 1 0 0), (11, .ptr 2 1 0 0)], [⟨24, 3, [encT p]⟩, ⟨68, 3, [encC c]⟩, ⟨70, 6, [encS s]⟩]⟩) (μ := fun k => i.toNat - k) 0 ⟨by omega, by omega⟩ .wk ?_
    rintro k ⟨hk, hno⟩
    refine goA ?_
    refine ifA (fun hd => ?_) (fun hd => ?_)
    · simp at hd
      refine goA ?_
      refine drA (k := 23) follows (hr := ?_)
      refine goA ?_
      refine gqA (h := fun hg => ql_idxD (l := c.steps) (f := encS) stp0 (by simp +decide only [go_sem] <;> rfl) (by simp +decide only [go_sem] <;> rfl) Tryd.underlying66 (by omega) (by omega) (by kernel_rfl)) (hr := ?_)
      refine goA ?_
      refine gqA (h := fun hg => ql_idxD (l := c.steps) (f := encS) stp0 (by simp +decide only [go_sem] <;> rfl) (by simp +decide only [go_sem] <;> rfl) Tryd.underlying66 (by omega) (by omega) (by kernel_rfl)) (hr := ?_)
      refine goA ?_
      refine ifA (fun he => ?_) (fun he => ?_)
      · simp at he
        refine goA ?_
        refine Ret.bool rfl ?_
        rw [hb]
        simp only [Bool.false_eq_true, false_iff]
        rintro ⟨-, -, -, g, -⟩
        exact (g h7).2.2.2 he.1.1 k (by omega) ⟨he.1.2, he.2⟩
      · simp at he
        refine goA ?_
        rw [wrap_succ (by omega)]
        refine ⟨k + 1, ⟨by omega, fun j h => ?_⟩, by omega, .wk⟩
        by_cases e : j = k
        · subst e; rintro ⟨g1, g2, g3⟩; exact he g1 g2 g3
        · exact hno j (by omega)
    · simp at hd
      refine goA ?_
      refine Ret.bool rfl ?_
      rw [hb]
      simp only [true_iff]
      refine ⟨hf, fun h => by omega, fun h => by omega, fun _ => ⟨hc.1.1.1, ⟨hc.1.1.2, hc.1.2⟩, hc.2, fun e j hj g => hno j (by omega) ⟨e, g.1, g.2⟩⟩, fun h => by omega, fun h => by omega⟩
  simp at h7
  refine goA ?_
  refine ifA (fun h8 => ?_) (fun h8 => ?_)
  · simp at h8
    refine goA ?_
    refine Ret.bool rfl ?_
    rw [hb]
    simp [okFits, hf, h8, and_assoc]
  simp at h8
  refine goA ?_
  refine ifA (fun h9 => ?_) (fun h9 => ?_)
  · simp at h9
    refine goA ?_
    refine ifA (fun hc => ?_) (fun hc => ?_)
    · refine goA ?_
      refine Ret.bool rfl ?_
      rw [hb]
      simp [okFits, hf, h9]
      simp at hc
      intro e1 e2 e3 e4 e5
      rcases hc with ((((h | h) | h) | h) | ⟨h, h'⟩) <;> first | omega | (have := e5 h; omega)
    simp at hc
    refine goA ?_
    refine drA (k := 11) follows (hr := ?_)
    refine goA ?_
    refine ARun.q1 rfl rfl (ql_idxD (l := p.methods) (f := encC) cd0 rfl rfl Tryd.underlying22 (by omega) (by omega) (by kernel_rfl)) ?_
    refine goA ?_
    refine Ret.bool rfl ?_
    rw [hb]
    simp [okFits, hf, h9]
    exact ⟨fun h => ⟨by omega, hc.2, h⟩, fun h => h.2.2⟩
  simp at h9
  refine goA ?_
  exact Ret.bool rfl (by rw [hb]; simp [okFits, hf, hx, h6, h7, h8, h9])
end Go.Ab.Rg
set_option maxHeartbeats 4000000
namespace Go.Ab.Rg
open Go Go.Ab Go.Proofs Go.Ab.Ty

def okWhole (p : Tk) (c : Cd) (own : Int) (method : Bool) : Prop := (0 ≤ c.params ∧ c.params ≤ 4 ∧ (if method then c.params + 1 else c.params) ≤ c.vars ∧ c.vars ≤ 8 ∧ c.steps.length ≤ 20) ∧
  ∀ i : Nat, i < c.steps.length → okFits p c i own method (stp c.steps i)

open Classical in
theorem whole_ok (p : Tk) (c : Cd) (own : Int) (method : Bool) (b : Bool) (hb : b = true ↔ okWhole p c own method) : Fn Tryd.prog 55 [encT p, encC c, .int own, .bool method] (.bool b) := by
  refine Fn.intro' [(0, encT p), (1, encC c), (2, .int own), (3, .bool method)] 4 55 Tryd.func55 (by kernel_rfl) rfl rfl rfl rfl rfl ?_
  refine goA ?_
  refine AWp.join ⟨[(9, .int (if method then IntKind.i64.wrap (c.params + 1) else c.params)), (2, .int own), (3, .bool method), (4, .ptr 0 1 0 0), (5, .ptr 1 1 0 0)], [⟨24, 3, [encT p]⟩, ⟨68, 3, [encC c]⟩]⟩ ?_ ?_
  · refine ifA (fun hm => ?_) (fun hm => ?_)
    · refine goA ?_
      exact .env' (by simp +decide only [go_sem, hm, if_true] <;> simp [Le.refl])
    · refine goA ?_
      exact .env' (by simp +decide only [go_sem, hm] <;> simp [Le.refl])
  refine goA ?_
  refine ifA (fun hc => ?_) (fun hc => ?_)
  · simp at hc
    refine goA ?_
    refine Ret.bool rfl ?_
    rw [hb]
    simp only [Bool.false_eq_true, false_iff]
    rintro ⟨⟨e1, e2, e3, e4, e5⟩, -⟩
    rw [wrap_id (by omega) (by omega)] at hc
    omega
  simp at hc
  have hp : 0 ≤ c.params ∧ c.params ≤ 4 := by omega
  rw [wrap_id (by omega) (by omega)] at hc
  refine goA ?_
  refine AWp.loop (J := fun k : Nat => k ≤ c.steps.length ∧ ∀ i : Nat, i < k → okFits p c i own method (stp c.steps i))
    (I := fun k => ⟨[(10, .int k), (2, .int own), (3, .bool method), (4, .ptr 0 1 0 0), (5, .ptr 1 1 0 0)], [⟨24, 3, [encT p]⟩, ⟨68, 3, [encC c]⟩]⟩) (μ := fun k => c.steps.length - k) 0 ⟨Nat.zero_le _, by omega⟩ .wk ?_
  rintro k ⟨hk, hno⟩
  refine goA ?_
  refine ifA (fun hd => ?_) (fun hd => ?_)
  · simp at hd
    refine goA ?_
    refine callA (fits_ok p c k own method (by omega) (by omega) (decide (okFits p c k own method (stp c.steps k))) (by simp)) ?_
    refine goA ?_
    refine ifA (fun he => ?_) (fun he => ?_)
    · simp at he
      refine goA ?_
      refine Ret.bool rfl ?_
      rw [hb]
      simp only [Bool.false_eq_true, false_iff]
      exact fun h => he (h.2 k hd)
    · simp at he
      refine goA ?_
      rw [wrap_succ (by omega)]
      refine ⟨k + 1, ⟨by omega, fun i h => ?_⟩, by omega, .wk⟩
      by_cases e : i = k
      · subst e; exact he
      · exact hno i (by omega)
  · simp at hd
    refine goA ?_
    refine Ret.bool rfl ?_
    rw [hb]
    simp only [true_iff]
    exact ⟨by omega, fun i hi => hno i (by omega)⟩

def okRef (p : Tk) : Prop := (1 ≤ p.codes.length ∧ p.codes.length ≤ 8 ∧ p.methods.length ≤ 6 ∧ 0 ≤ p.actors ∧ p.actors ≤ 4) ∧
  (∀ i : Nat, i < p.codes.length → okWhole p (cod p.codes i) i false) ∧ ∀ i : Nat, i < p.methods.length → okWhole p (cod p.methods i) i true

open Classical in
theorem refValid_ok (p : Tk) (b : Bool) (hb : b = true ↔ okRef p) : Fn Tryd.prog 28 [encT p] (.bool b) := by
  refine Fn.intro' [(0, encT p)] 1 63 Tryd.func28 (by kernel_rfl) rfl rfl rfl rfl rfl ?_
  refine goA ?_
  refine ifA (fun hc => ?_) (fun hc => ?_)
  · simp at hc
    refine goA ?_
    refine Ret.bool rfl ?_
    rw [hb]
    simp only [Bool.false_eq_true, false_iff]
    rintro ⟨⟨e1, e2, e3, e4, e5⟩, -⟩
    omega
  simp at hc
  refine goA ?_
  refine AWp.loop (J := fun k : Nat => k ≤ p.codes.length ∧ ∀ i : Nat, i < k → okWhole p (cod p.codes i) i false)
    (I := fun k => ⟨[(3, .int k), (1, .ptr 0 1 0 0)], [⟨24, 3, [encT p]⟩]⟩) (μ := fun k => p.codes.length - k) 0 ⟨Nat.zero_le _, by omega⟩ .wk ?_
  rintro k ⟨hk, hno⟩
  refine goA ?_
  refine ifA (fun hd => ?_) (fun hd => ?_)
  · simp at hd
    refine goA ?_
    refine drA (k := 9) follows (hr := ?_)
    refine goA ?_
    refine ARun.q1 rfl rfl (ql_idxD (l := p.codes) (f := encC) cd0 rfl rfl Tryd.underlying22 (by omega) (by omega) (by kernel_rfl)) ?_
    refine goA ?_
    refine callA (whole_ok p (cod p.codes k) k false (decide (okWhole p (cod p.codes k) k false)) (by simp)) ?_
    refine goA ?_
    refine ifA (fun he => ?_) (fun he => ?_)
    · simp at he
      refine goA ?_
      refine Ret.bool rfl ?_
      rw [hb]
      simp only [Bool.false_eq_true, false_iff]
      exact fun h => he (h.2.1 k hd)
    · simp at he
      refine goA ?_
      rw [wrap_succ (by omega)]
      refine ⟨k + 1, ⟨by omega, fun i h => ?_⟩, by omega, .wk⟩
      by_cases e : i = k
      · subst e; exact he
      · exact hno i (by omega)
  simp at hd
  refine goA ?_
  refine AWp.loop (J := fun k : Nat => k ≤ p.methods.length ∧ ∀ i : Nat, i < k → okWhole p (cod p.methods i) i true)
    (I := fun k => ⟨[(4, .int k), (1, .ptr 0 1 0 0)], [⟨24, 3, [encT p]⟩]⟩) (μ := fun k => p.methods.length - k) 0 ⟨Nat.zero_le _, by omega⟩ .wk ?_
  rintro k2 ⟨hk2, hno2⟩
  refine goA ?_
  refine ifA (fun hd2 => ?_) (fun hd2 => ?_)
  · simp at hd2
    refine goA ?_
    refine drA (k := 9) follows (hr := ?_)
    refine goA ?_
    refine ARun.q1 rfl rfl (ql_idxD (l := p.methods) (f := encC) cd0 rfl rfl Tryd.underlying22 (by omega) (by omega) (by kernel_rfl)) ?_
    refine goA ?_
    refine callA (whole_ok p (cod p.methods k2) k2 true (decide (okWhole p (cod p.methods k2) k2 true)) (by simp)) ?_
    refine goA ?_
    refine ifA (fun he => ?_) (fun he => ?_)
    · simp at he
      refine goA ?_
      refine Ret.bool rfl ?_
      rw [hb]
      simp only [Bool.false_eq_true, false_iff]
      exact fun h => he (h.2.2 k2 hd2)
    · simp at he
      refine goA ?_
      rw [wrap_succ (by omega)]
      refine ⟨k2 + 1, ⟨by omega, fun i h => ?_⟩, by omega, .wk⟩
      by_cases e : i = k2
      · subst e; exact he
      · exact hno2 i (by omega)
  · simp at hd2
    refine goA ?_
    refine Ret.bool rfl ?_
    rw [hb]
    simp only [true_iff]
    exact ⟨by omega, fun i hi => hno i (by omega), fun i hi => hno2 i (by omega)⟩
end Go.Ab.Rg
