/- Part of the proof. -/
import Derived.Test.YthgicbkdckpeaaaDoorG46
set_option linter.unusedSimpArgs false
set_option linter.unusedVariables false
set_option maxHeartbeats 4000000
namespace Go.Ab
open Go Go.Ab Go.Proofs Go.Ab.Ty

theorem act_lt {a n : Int} {m : Nat} (h0 : 0 ≤ n) (h1 : n < a) (h2 : a.toNat ≤ m) : n < m := by omega
theorem mem_getD {l : List Int} {i : Nat} {d : Int} (h : i < l.length) : l.getD i d ∈ l := by
  rw [List.getD_eq_getElem?_getD, List.getElem?_eq_getElem h]; exact List.getElem_mem h
theorem stepF_gi {s : PRun} (hg : Gi s) (hob : s.objs.length ≤ 200) (hao : s.p.actors.toNat ≤ s.objs.length) {n j k i : Nat} {t : PTask} {c : PCall} {st : Stp} {l : Lk} {time : Int} (h : Sok s n j t c st) (hT : TopC s n t j c st l k i) : SgR s n c st (stepF s n j t c st time) := by
  have hiv := h.iv
  have ht := h.ht
  have hc := h.hc
  have hn := (List.getElem?_eq_some_iff.1 ht).1
  have hj := (List.getElem?_eq_some_iff.1 hc).1
  have hcg := hg.ca c (List.mem_of_getElem? hc)
  have hcan := h.can
  have hvok := h.vok
  obtain ⟨hTt, hTs, hTj, hTc, hcd, hdp, hb0, hpc, hst, hos⟩ := hT
  have hvar : ∀ v : Int, inV c v → c.vars.getD v.toNat 0 < s.objs.length := fun v hv => hcg.vo _ (mem_getD hv.2)
  have hgiv : ∀ vs : List Int, (∀ v ∈ vs, inV c v) → ∀ x ∈ givL c vs, x < (s.objs.length : Int) := fun vs hv x hx => by
    obtain ⟨v, h1, rfl⟩ := List.mem_map.1 hx
    exact hvar v (hv v h1)
  have hobj : ∀ o : Nat, -1000 ≤ (objAt s o).1 ∧ (objAt s o).1 ≤ 1000 ∧ (objAt s o).2 < (s.objs.length : Int) := fun o => by
    unfold objAt
    by_cases ho : o < s.objs.length
    · rw [List.getD_eq_getElem?_getD, List.getElem?_eq_getElem ho]; exact hg.ob _ (List.getElem_mem ho)
    · rw [List.getD_eq_getElem?_getD, List.getElem?_eq_none (by omega)]
      simp only [Option.getD_none]; omega
  have hgA : ∀ (s' : PRun) (x : Acc), Gi s' → Gi (s'.addA x) := fun s' x h' => h'.eqs rfl rfl rfl rfl
  have hgL : ∀ (s' : PRun) (x : ByteArray), Gi s' → Gi (s'.addL x) := fun s' x h' => h'.eqs rfl rfl rfl rfl
  have hroom : room s = true → s.objs.length < 200 := fun e => by unfold room at e; have := of_decide_eq_true e; omega
  obtain ⟨op, v, w, nn, tk, vs⟩ := st
  have hop := h.op
  have r6 := h.r6
  have r7 := h.r7
  have r9 := h.r9
  have r8 := h.r8
  simp only at hop r6 r7 r9 r8
  have hc12 : op = 1 ∨ op = 2 ∨ op = 3 ∨ op = 4 ∨ op = 5 ∨ op = 6 ∨ op = 7 ∨ op = 8 ∨ op = 9 ∨ op = 10 ∨ op = 11 ∨ op = 12 := by omega
  rcases hc12 with rfl | rfl | rfl | rfl | rfl | rfl | rfl | rfl | rfl | rfl | rfl | rfl
  · have hcan' : room s = true := by
      unfold canF at hcan
      rw [if_pos rfl] at hcan; exact hcan
    have h200 := hroom hcan'
    have hb : -1000 ≤ nn ∧ nn ≤ 1000 := by
      unfold Rg.okStep at hos; simp only at hos; omega
    have hI : Iv (s.mkO nn) := hiv.mkO _ (by omega)
    have hG : Gi (s.mkO nn) := hg.mkO hb
    have hl : (s.mkO nn).objs.length = s.objs.length + 1 := by simp [PRun.mkO]
    simp +decide only [stepF, if_true, if_false]
    refine SgR.eqs (hG.vset hI (j := j) (c := c) hc (by rw [hl]; omega)) (by show (1 : Int) ≠ 6; decide) rfl rfl rfl rfl rfl rfl (Nat.le_add_right _ _) (Nat.le_succ _) (by show (s.mkO nn).objs.length ≤ _; omega) (by show _ ≤ (s.mkO nn).objs.length; omega) (fun _ => ⟨rfl, rfl⟩) rfl
  · have hcan' : (setB c [w] && (room s || decide (0 ≤ objL s (c.vars.getD w.toNat 0)))) = true := by
      unfold canF at hcan
      rw [if_neg (by show ¬ (2 : Int) = 1; decide), if_pos rfl] at hcan; exact hcan
    rw [Bool.and_eq_true] at hcan'
    obtain ⟨hset, hrm⟩ := hcan'
    obtain ⟨wn, hw1, hw2, hw3, hw4⟩ := set_at hset (v := w) (by simp) (hvok.w (.inl rfl)) hvok.ob
    by_cases hx : 0 ≤ (objAt s (varN c w)).2
    · simp +decide only [stepF, if_true, if_false, if_pos hx]
      exact SgR.eqs ((hgA s _ hg).vset (hiv.addA _ (by have := h.sza; omega)) (j := j) (c := c) hc (hobj _).2.2) (by show (2 : Int) ≠ 6; decide) rfl rfl rfl rfl rfl rfl (by show (s.accs ++ [_]).length ≤ _; simp) (Nat.le_succ _) hob (Nat.le_refl _) (fun _ => ⟨rfl, rfl⟩) rfl
    · simp +decide only [stepF, if_true, if_false, if_neg hx]
      have h200 : s.objs.length < 200 := by
        rw [Bool.or_eq_true] at hrm
        rcases hrm with h1 | h1
        · exact hroom h1
        · exfalso
          have h1 := of_decide_eq_true h1
          apply hx
          have e0 : ∀ o : Nat, o < s.objs.length → (s.objs.getD o (0, 0)).2 = (s.objs.getD o (0, -1)).2 := fun o ho => by
            rw [List.getD_eq_getElem?_getD, List.getD_eq_getElem?_getD, List.getElem?_eq_getElem ho]; rfl
          have e1 : objL s (c.vars.getD w.toNat 0) = (objAt s (varN c w)).2 := e0 _ hw3
          rw [← e1]; exact h1
      obtain ⟨s1, hs1⟩ : ∃ s1, s1 = (s.addA ⟨whoF c n, varN c w, false, time⟩).mkO 0 := ⟨_, rfl⟩
      have hI0 : Iv (s.addA ⟨whoF c n, varN c w, false, time⟩) := hiv.addA _ (by have := h.sza; omega)
      have hI1 : Iv s1 := by rw [hs1]; exact hI0.mkO _ (by show s.objs.length < _; omega)
      have hG1 : Gi s1 := by rw [hs1]; exact (hgA s _ hg).mkO (by decide)
      have hl1 : s1.objs.length = s.objs.length + 1 := by rw [hs1]; simp [PRun.mkO, PRun.addA]
      have hG2 : Gi (s1.setO (varN c w) ((objAt s (varN c w)).1, s.objs.length)) := hG1.setO (by have := hobj (varN c w); simp only; omega) (by simp only; omega)
      have hl2 : (s1.setO (varN c w) ((objAt s (varN c w)).1, s.objs.length)).objs.length = s.objs.length + 1 := by simp only [PRun.setO, List.length_set]; exact hl1
      have hc1 : s1.calls = s.calls := by rw [hs1]; rfl
      have hac1 : s1.accs.length = s.accs.length + 1 := by rw [hs1]; simp [PRun.mkO, PRun.addA]
      have hf : s1.p = s.p ∧ s1.sched = s.sched ∧ s1.used = s.used ∧ s1.turns = s.turns ∧ s1.cks = s.cks ∧ s1.acts = s.acts ∧ s1.lines = s.lines ∧ s1.pool = s.pool ∧ s1.behs = s.behs ∧ s1.tasks = s.tasks := by rw [hs1]; exact ⟨rfl, rfl, rfl, rfl, rfl, rfl, rfl, rfl, rfl, rfl⟩
      rw [← hs1]
      obtain ⟨f1, f2, f3, f4, f5, f6, f7, f8, f9, f10⟩ := hf
      have hI3 : Iv ((s1.setO (varN c w) ((objAt s (varN c w)).1, s.objs.length)).addA ⟨whoF c n, varN c w, true, time⟩) := (hI1.setO _ _).addA _ (by show s1.accs.length < _; have := h.sza; omega)
      have hG3 := hgA _ ⟨whoF c n, varN c w, true, time⟩ hG2
      refine SgR.eqs (hG3.vset hI3 (j := j) (c := c) (by show s1.calls[j]? = _; rw [hc1]; exact hc) (by show (s.objs.length : Int) < (s1.setO (varN c w) ((objAt s (varN c w)).1, s.objs.length)).objs.length; rw [hl2]; omega)) (by show (2 : Int) ≠ 6; decide) f1 f2 f3 f4 f5 f6 ?_ ?_ ?_ ?_ (fun _ => ⟨?_, ?_⟩) ?_
      · show (s1.accs ++ [_]).length ≤ _; rw [List.length_append, hac1]; exact Nat.le_refl _
      · show s1.lines.length ≤ _; rw [f7]; omega
      · show (s1.setO (varN c w) ((objAt s (varN c w)).1, s.objs.length)).objs.length ≤ _; rw [hl2]; omega
      · show _ ≤ (s1.setO (varN c w) ((objAt s (varN c w)).1, s.objs.length)).objs.length; rw [hl2]; omega
      · show s1.pool.length = _; rw [f8]
      · show s1.behs.length = _; rw [f9]
      · show s1.tasks.length = _; rw [f10]
  · have hcan' : setB c [v, w] = true := by
      unfold canF at hcan
      rw [if_neg (by show ¬ (3 : Int) = 1; decide), if_neg (by show ¬ (3 : Int) = 2; decide), if_pos rfl] at hcan; exact hcan
    simp +decide only [stepF, if_true, if_false]
    have hw := hvar w (hvok.w (.inr rfl))
    exact SgR.eqs ((hgA s _ hg).setO (by have := hobj (varN c v); simp only; omega) hw) (by show (3 : Int) ≠ 6; decide) rfl rfl rfl rfl rfl rfl (by show (s.accs ++ [_]).length ≤ _; simp) (Nat.le_succ _) (by show (s.objs.set _ _).length ≤ _; rw [List.length_set]; exact hob) (by show _ ≤ (s.objs.set _ _).length; rw [List.length_set]; exact Nat.le_refl _) (fun _ => ⟨rfl, rfl⟩) rfl
  · simp +decide only [stepF, if_true, if_false]
    exact SgR.eqs (hgL _ _ (hgA s _ hg)) (by show (4 : Int) ≠ 6; decide) rfl rfl rfl rfl rfl rfl (by show (s.accs ++ [_]).length ≤ _; simp) (by show (s.lines ++ [_]).length ≤ _; simp) hob (Nat.le_refl _) (fun _ => ⟨rfl, rfl⟩) rfl
  · have hb : -1000 ≤ nn ∧ nn ≤ 1000 := by
      unfold Rg.okStep at hos; simp only at hos; omega
    simp +decide only [stepF, if_true, if_false]
    exact SgR.eqs ((hgA s _ hg).setO hb (hobj (varN c v)).2.2) (by show (5 : Int) ≠ 6; decide) rfl rfl rfl rfl rfl rfl (by show (s.accs ++ [_]).length ≤ _; simp) (Nat.le_succ _) (by show (s.objs.set _ _).length ≤ _; rw [List.length_set]; exact hob) (by show _ ≤ (s.objs.set _ _).length; rw [List.length_set]; exact Nat.le_refl _) (fun _ => ⟨rfl, rfl⟩) rfl
  · have hcan2 : (bif setB c vs then decide ((s.tasks.length : Int) < 32) else false) = true := by
      unfold canF at hcan
      rw [if_neg (by show ¬ (6 : Int) = 1; decide), if_neg (by show ¬ (6 : Int) = 2; decide), if_neg (by show ¬ (6 : Int) = 3; decide), if_neg (by show ¬ ((6 : Int) = 4 ∨ (6 : Int) = 5); decide), if_pos rfl] at hcan; exact hcan
    obtain ⟨h1, cd, h2, h3, h4, h5, h6⟩ := r6 rfl
    have hpr : 0 ≤ nn ∧ nn ≤ 3 := by
      unfold Rg.okStep at hos; simp only at hos; omega
    have h32 : s.tasks.length < 32 := by
      cases hb : setB c vs with
      | true => rw [hb] at hcan2; have := of_decide_eq_true hcan2; omega
      | false => rw [hb] at hcan2; cases hcan2
    have hcdE : cdAt s.p.codes tk = cd := getD_at h2
    obtain ⟨a1, a2, a3, a4⟩ := hiv.wf.tsk t (List.mem_of_getElem? ht)
    have hcl : s.pool[t.clk]? = some (s.pool.getD t.clk []) := by rw [List.getD_eq_getElem?_getD, List.getElem?_eq_getElem a3]; rfl
    have hG := startF_gi hiv hg (k := tk.toNat) (c := cd) (vs := givL c vs) (a := s.pool.getD t.clk []) (prio := nn) (par := n) (canc := t.canc) h32 h.hC h.hP (by have := h.hB; omega) ((hiv.wf.p hcl).2) h3 h4 (by rw [givL_len]; exact h5) h6 (.inr ⟨n, rfl, hn⟩) h2 hpr (hgiv vs (hvok.vs (.inl rfl)))
    have hFx := startF_fx s cd (givL c vs) (s.pool.getD t.clk []) nn n t.canc
    obtain ⟨e1, e2, e3⟩ := startF_at (cd := cd) (vs := givL c vs) (a := s.pool.getD t.clk []) (pr := nn) (canc := t.canc) ht h.en h.wt
    simp +decide only [stepF, if_true, if_false]
    rw [hcdE]
    have hkl := (hg.ta n t ht).kl
    have hK := hG.kid e1 (k := s.tasks.length) (sp := if c.actor < 0 then setM t.spn c.pc s.tasks.length else t.spn) (by rw [e3]; omega) (fun q kc g1 g2 => by
      split
      · rw [getM_setM]
        split
        · exact ⟨s.tasks.length, rfl, by rw [e3]; omega⟩
        · exact ⟨kc, g1, g2⟩
      · exact ⟨kc, g1, g2⟩)
    have hLn : ((startF s cd (givL c vs) (s.pool.getD t.clk []) nn n t.canc).tset n { t with kids := t.kids ++ [(s.tasks.length : Int)], spn := if c.actor < 0 then setM t.spn c.pc s.tasks.length else t.spn }).tasks.length = s.tasks.length + 1 := by rw [tset_len, e3]
    refine ⟨hK, hFx.p, hFx.sched, hFx.used, hFx.turns, hFx.cks, hFx.acts, ?_, ?_, ?_, ?_, fun e => absurd rfl e, by rw [if_pos rfl]; exact hLn, fun _ _ t8 g1 g2 => ?_⟩
    · show (startF s cd (givL c vs) (s.pool.getD t.clk []) nn n t.canc).accs.length ≤ _; rw [hFx.accs]; omega
    · show (startF s cd (givL c vs) (s.pool.getD t.clk []) nn n t.canc).lines.length ≤ _; rw [hFx.lines]; omega
    · show (startF s cd (givL c vs) (s.pool.getD t.clk []) nn n t.canc).objs.length ≤ _; rw [hFx.objs]; exact hob
    · show _ ≤ (startF s cd (givL c vs) (s.pool.getD t.clk []) nn n t.canc).objs.length; rw [hFx.objs]; exact Nat.le_refl _
    · have g1' : ((startF s cd (givL c vs) (s.pool.getD t.clk []) nn n t.canc).tset n { t with kids := t.kids ++ [(s.tasks.length : Int)], spn := if c.actor < 0 then setM t.spn c.pc s.tasks.length else t.spn }).tasks[n]? = some t8 := g1
      rw [tset_at e1] at g1'; injection g1' with g1'
      have hsl : t.slen = 1 := by rw [← g1'] at g2; exact g2
      have hi0 : i = 0 := by omega
      have hma : c.actor = -1 := by
        have := hb0 hi0
        rcases hcd.me with ⟨_, m, _⟩ | ⟨m, _⟩
        · exact m
        · rw [this] at m; cases m
      refine ⟨s.tasks.length, ?_, by show s.tasks.length < ((startF s cd (givL c vs) (s.pool.getD t.clk []) nn n t.canc).tset n _).tasks.length; rw [hLn]; omega⟩
      rw [← g1']
      simp only
      rw [if_pos (by omega), getM_setM, if_pos rfl]
  · have hid : SgR s n c ⟨7, v, w, nn, tk, vs⟩ (true, s) := SgR.eqs hg (by show (7 : Int) ≠ 6; decide) rfl rfl rfl rfl rfl rfl (Nat.le_add_right _ _) (Nat.le_succ _) hob (Nat.le_refl _) (fun _ => ⟨rfl, rfl⟩) rfl
    simp +decide only [stepF, if_true, if_false]
    by_cases ho : ovr s (kidN t nn) = true
    · rw [if_pos ho]; exact hid
    · rw [if_neg ho]
      obtain ⟨kc, h1, h2⟩ := r7 (.inl rfl)
      have hkn : kidN t nn = kc := by unfold kidN; rw [h1]; rfl
      have hW := hg.wait ht (kc := kidN t nn) (by rw [hkn]; exact h2) h.en (fun j' c' st' e1 e2 e3 => by
        rw [h.tp] at e1; injection e1 with e1; subst e1
        rw [hc] at e2; injection e2 with e2; subst e2
        rw [hst] at e3; injection e3 with e3; subst e3; rfl)
      exact SgR.eqs hW (by show (7 : Int) ≠ 6; decide) rfl rfl rfl rfl rfl rfl (Nat.le_add_right _ _) (Nat.le_succ _) hob (Nat.le_refl _) (fun _ => ⟨rfl, rfl⟩) tset_len
  · obtain ⟨h1, h2, h3⟩ := r8 rfl
    simp +decide only [stepF, if_true, if_false]
    have hv0 : vs.getD 0 0 ∈ vs := mem_getD h3
    have hw := hvar _ (hvok.vs (.inr (.inl rfl)) _ hv0)
    exact SgR.eqs ((hgA s _ hg).setO (by have := hobj nn.toNat; simp only; omega) hw) (by show (8 : Int) ≠ 6; decide) rfl rfl rfl rfl rfl rfl (by show (s.accs ++ [_]).length ≤ _; simp) (Nat.le_succ _) (by show (s.objs.set _ _).length ≤ _; rw [List.length_set]; exact hob) (by show _ ≤ (s.objs.set _ _).length; rw [List.length_set]; exact Nat.le_refl _) (fun _ => ⟨rfl, rfl⟩) rfl
  · obtain ⟨h1, cd, h2, h3, h4, h5, h6⟩ := r9 rfl
    have hcdE : cdAt s.p.methods tk = cd := getD_at h2
    have hn9 : 0 ≤ nn ∧ nn < s.p.actors ∧ tk < s.p.methods.length ∧ (l.method = true → tk < l.own) := by
      unfold Rg.okStep at hos
      rw [hcd.lp] at hos
      simp only at hos
      rcases hos with q | q | q | q | q | q | q | q
      · omega
      · omega
      · omega
      · omega
      · omega
      · omega
      · exact ⟨q.2.2.1, q.2.2.2.1, q.2.2.2.2.2.1, q.2.2.2.2.2.2.1⟩
      · omega
    obtain ⟨b1, b2, b3, b4⟩ := hn9
    have hm6 : s.p.methods.length ≤ 6 := hg.ok.1.2.2.1
    have hdep : tk.toNat + t.slen ≤ 6 := by
      rw [hTs]
      by_cases e0 : i = 0
      · omega
      · obtain ⟨m1, m2⟩ := hdp (by omega)
        have := b4 m1
        rw [hcd.own] at this
        omega
    simp +decide only [stepF, if_true, if_false]
    rw [hcdE]
    obtain ⟨nc, hnc⟩ : ∃ nc, nc = newC cd (givL c vs ++ [nn]) nn := ⟨_, rfl⟩
    rw [← hnc]
    have hCG : CalG s.p s.objs.length nc := by
      rw [hnc]
      refine .new (k := tk.toNat) (.inr ⟨b1, b2, h2⟩) h3 (by rw [List.length_append, givL_len, List.length_singleton]; omega) fun x hx => ?_
      rcases List.mem_append.1 hx with hx | hx
      · exact hgiv vs (hvok.vs (.inr (.inr rfl))) x hx
      · rw [List.mem_singleton] at hx; subst hx; exact act_lt b1 b2 hao
    have hvl2 : nc.vars.length ≤ 1000 := by
      rw [hnc]; simp only [newC, List.length_append, List.length_replicate, givL_len, List.length_singleton]; omega
    have hIc : Iv (s.addC nc) := hiv.addC h.hC hvl2 (by rw [hnc]; exact h6) ⟨by rw [hnc]; exact Int.le_refl _, by rw [hnc]; show (0 : Int) ≤ _; omega⟩
    have hGc : Gi (s.addC nc) := hg.addC hiv hCG
    by_cases hz : cd.steps.length = 0
    · rw [if_pos hz]
      exact SgR.eqs hGc (by show (9 : Int) ≠ 6; decide) rfl rfl rfl rfl rfl rfl (Nat.le_add_right _ _) (Nat.le_succ _) hob (Nat.le_refl _) (fun _ => ⟨rfl, rfl⟩) rfl
    · rw [if_neg hz]
      have hc1 : (s.addC nc).calls[j]? = some c := by rw [addC_ne (by omega)]; exact hc
      have ht1 : (s.addC nc).tasks[n]? = some t := ht
      have hgo := hGc.go hIc (t' := t) ht1 h.tp hc1 rfl (Nat.le_refl _) rfl rfl rfl h.wt (fun _ => h.en) (fun _ st' e1 e2 => by
        rw [hst] at e1; injection e1 with e1; subst e1
        have : (9 : Int) = 6 := e2
        omega)
      have hse : ((s.addC nc).cset j { c with pc := c.pc + 1 }).tset n t = (s.addC nc).cset j { c with pc := c.pc + 1 } := tset_self (s := (s.addC nc).cset j { c with pc := c.pc + 1 }) ht
      rw [hse] at hgo
      have hP := hgo.psh (n := n) (J := s.calls.length) (k := tk.toNat) (cJ := nc) (t := t) ht (hiv.stk n t ht) (hiv.wf.tsk t (List.mem_of_getElem? ht)).2.1 (by
        rw [cset_ne (by omega)]; exact addC_at) (by rw [hnc]; exact b1) (by rw [hnc]; exact h2) hdep h.wt
      exact SgR.eqs hP (by show (9 : Int) ≠ 6; decide) rfl rfl rfl rfl rfl rfl (Nat.le_add_right _ _) (Nat.le_succ _) hob (Nat.le_refl _) (fun e => by cases e) tset_len
  · simp +decide only [stepF, if_true, if_false]
    exact SgR.eqs (hg.canL _) (by show (10 : Int) ≠ 6; decide) rfl rfl rfl rfl rfl rfl (Nat.le_add_right _ _) (Nat.le_succ _) hob (Nat.le_refl _) (fun _ => ⟨rfl, rfl⟩) canL_len
  · simp +decide only [stepF, if_true, if_false]
    by_cases hcc : t.canc = true
    · rw [if_pos hcc]
      have hP := h.hP
      have hB := h.hB
      have hS := stop_gi hiv hg ht h.wt hP (by omega)
      have hF := stopF_fx s n
      obtain ⟨_, _, hSb⟩ := stop_ok hiv ht (by rw [h.st1]; decide) h.wt hP (by omega)
      exact SgR.eqs hS (by show (11 : Int) ≠ 6; decide) hF.p hF.sched hF.used hF.turns hF.cks hF.acts (by rw [hF.accs]; omega) (by rw [hF.lines]; omega) (by rw [hF.objs]; exact hob) (by rw [hF.objs]; exact Nat.le_refl _) (fun e => by cases e) hSb.tl
    · rw [if_neg hcc]
      exact SgR.eqs hg (by show (11 : Int) ≠ 6; decide) rfl rfl rfl rfl rfl rfl (Nat.le_add_right _ _) (Nat.le_succ _) hob (Nat.le_refl _) (fun _ => ⟨rfl, rfl⟩) rfl
  · simp +decide only [stepF, if_true, if_false]
    exact SgR.eqs hg (by show (12 : Int) ≠ 6; decide) rfl rfl rfl rfl rfl rfl (Nat.le_add_right _ _) (Nat.le_succ _) hob (Nat.le_refl _) (fun _ => ⟨rfl, rfl⟩) rfl
end Go.Ab
set_option maxHeartbeats 4000000
namespace Go.Ab
open Go Go.Ab Go.Proofs Go.Ab.Ty

theorem turnB_cs {s : PRun} {n j : Nat} {t : PTask} {c : PCall} {st : Stp} (h : Tok 80010 s n j t c st) (hac : 0 ≤ actF c st → (actF c st).toNat < s.acts.length) (hz1 : s.turns.length ≤ 900000) (hz2 : s.cks.length ≤ 900000) :
    ∃ t9, Cs s n t 10 (turnB s n c st) t9 ∧ t9.beh = none := by
  have hiv := h.iv
  have ht := h.ht
  have hP := h.hP
  have hA := Cs.turnA hiv ht (by omega)
  have hck1 : (turnA s n).cks = s.cks := rfl
  unfold turnB
  obtain ⟨s1, hs1⟩ : ∃ s1, s1 = turnA s n := ⟨_, rfl⟩
  rw [← hs1] at hA hck1 ⊢
  have ht1 := hA.tk
  have hw1 := hA.iv.wf
  have hp1 : s1.pool.length + 80010 ≤ MM := by have := hA.pl; omega
  -- behind
  have hb2 : Cs s1 n t 1 (behK s1 n) (tkAt (behK s1 n) n) := by
    unfold behK
    rw [tkAt_eq ht1]
    cases hbh : t.beh with
    | none => simp only; rw [tkAt_eq ht1]; exact (Cs.refl hA.iv ht1).mono (by omega)
    | some b =>
      have hbl := (hw1.tsk t (List.mem_of_getElem? ht1)).2.2.2 b hbh
      have hbm : s1.behs[b]? = some s1.behs[b] := List.getElem?_eq_getElem hbl
      obtain ⟨e1, e2⟩ := hw1.behs _ (List.mem_of_getElem? hbm)
      obtain ⟨x, hx⟩ : ∃ x, s1.behs[b] = [x] := List.length_eq_one_iff.1 e1
      rw [hx] at hbm e2
      have e3 : behX s1 b = x := by unfold behX; rw [getD_at hbm]; rfl
      simp only
      rw [e3]
      have := Cs.clkJ hA.iv ht1 (e2 x (by simp)) (by omega)
      rw [tkAt_eq this.tk]
      exact this
  have hck2 : (behK s1 n).cks = s1.cks := by unfold behK; split <;> rfl
  obtain ⟨s2, hs2⟩ : ∃ s2, s2 = behK s1 n := ⟨_, rfl⟩
  rw [← hs2] at hb2 hck2 ⊢
  obtain ⟨t2, ht2e⟩ : ∃ t2, t2 = tkAt s2 n := ⟨_, rfl⟩
  rw [← ht2e] at hb2
  have ht2 := hb2.tk
  have hC3 : Cs s2 n t2 0 (nobS s2 n) { t2 with beh := none } := by
    unfold nobS
    rw [tkAt_eq ht2]
    exact Cs.tset (t' := { t2 with beh := none }) hb2.iv ht2 ⟨rfl, rfl, rfl, rfl⟩ ⟨rfl, rfl, rfl, rfl, rfl⟩ ((hb2.iv.wf.tsk t2 (List.mem_of_getElem? ht2)).2.2.1) (.inr rfl)
  have hA3' : Cs s n t 1 (nobS s2 n) { t2 with beh := none } := ((hA.trans hb2).trans hC3).mono (by omega)
  have hck3 : (nobS s2 n).cks = s2.cks := rfl
  obtain ⟨t3, ht3e⟩ : ∃ t3, t3 = { t2 with beh := none } := ⟨_, rfl⟩
  obtain ⟨s3, hs3⟩ : ∃ s3, s3 = nobS s2 n := ⟨_, rfl⟩
  have hb3 : t3.beh = none := by rw [ht3e]
  rw [← hs3, ← ht3e] at hA3'
  rw [← hs3] at hck3 ⊢
  have hA3 := hA3'
  have ht3 := hA3.tk
  have hI3 := hA3.iv
  have hw3 := hI3.wf
  have hp3 : s3.pool.length + 80009 ≤ MM := by have := hA3.pl; omega
  have hC4 : ∃ t4, Cs s3 n t3 1 (awK s3 n st) t4 ∧ t4.beh = none := by
    unfold awK
    rw [tkAt_eq ht3]
    split
    · rename_i hh
      obtain ⟨kc, q1, q2⟩ := h.r7 (.inl hh.1)
      rw [← hA3.tsa.2.2.2] at q1
      rw [← hA3.tl] at q2
      have htc : s3.tasks[kc]? = some s3.tasks[kc] := List.getElem?_eq_getElem q2
      have q4 : kidN t3 st.n = kc := by unfold kidN; rw [q1]; rfl
      have q5 : ovr s3 kc = decide (3 ≤ s3.tasks[kc].state) := by unfold ovr; rw [htc]
      rw [q4, q5] at hh
      obtain ⟨x, hx⟩ := hI3.en kc _ htc (of_decide_eq_true hh.2)
      have x3 : endX s3 kc = x := by unfold endX; rw [getD_at hx]; rfl
      rw [q4, x3]
      exact ⟨_, Cs.clkJ hI3 ht3 (hw3.ends _ (List.mem_of_getElem? hx) x rfl) (by omega), hb3⟩
    · exact ⟨t3, (Cs.refl hI3 ht3).mono (by omega), hb3⟩
  have hck4 : (awK s3 n st).cks = s3.cks := by unfold awK; split <;> rfl
  obtain ⟨s4, hs4⟩ : ∃ s4, s4 = awK s3 n st := ⟨_, rfl⟩
  rw [← hs4] at hC4 hck4 ⊢
  obtain ⟨t4, hC4', hb4⟩ := hC4
  have hA4 : Cs s n t 2 s4 t4 := (hA3.trans hC4').mono (by omega)
  have hI4 := hA4.iv
  have hw4 := hI4.wf
  have ht4 := hA4.tk
  have hp4 : s4.pool.length + 80008 ≤ MM := by have := hA4.pl; omega
  obtain ⟨cn, hcn⟩ : ∃ cn, cn = canF s c st := ⟨_, rfl⟩
  obtain ⟨a, haF⟩ : ∃ a, a = actF c st := ⟨_, rfl⟩
  rw [← haF] at hac
  rw [← hcn, ← haF]
  have hC5 : ∃ t5, Cs s4 n t4 1 (acK s4 n cn a) t5 ∧ t5.beh = none := by
    unfold acK
    split
    · rename_i hh
      have h1 := hac hh.2
      rw [← hA4.acl] at h1
      have h2 : s4.acts[a.toNat]? = some s4.acts[a.toNat] := List.getElem?_eq_getElem h1
      rw [getD_at h2]
      exact ⟨_, Cs.clkJ hI4 ht4 (hw4.acts _ (List.mem_of_getElem? h2)) (by omega), hb4⟩
    · exact ⟨t4, (Cs.refl hI4 ht4).mono (by omega), hb4⟩
  have hck5 : (acK s4 n cn a).cks = s4.cks := by unfold acK; split <;> rfl
  obtain ⟨s5, hs5⟩ : ∃ s5, s5 = acK s4 n cn a := ⟨_, rfl⟩
  rw [← hs5] at hC5 hck5 ⊢
  obtain ⟨t5, hC5', hb5⟩ := hC5
  have hA5 : Cs s n t 3 s5 t5 := (hA4.trans hC5').mono (by omega)
  have hC6 : Cs s5 n t5 0 (timeS s5 n s.turns.length) t5 := Cs.timeS hA5.iv hA5.tk
  have hck6 : (timeS s5 n s.turns.length).cks = s5.cks := rfl
  obtain ⟨s6, hs6⟩ : ∃ s6, s6 = timeS s5 n s.turns.length := ⟨_, rfl⟩
  rw [← hs6] at hC6 hck6 ⊢
  have hA6 : Cs s n t 3 s6 t5 := (hA5.trans hC6).mono (by omega)
  have hC7 : Cs s6 n t5 1 (actS s6 n cn a) t5 := Cs.actS hA6.iv hA6.tk (by have := hA6.pl; omega)
  have hck7 : (actS s6 n cn a).cks = s6.cks := by unfold actS; split <;> rfl
  obtain ⟨s7, hs7⟩ : ∃ s7, s7 = actS s6 n cn a := ⟨_, rfl⟩
  rw [← hs7] at hC7 hck7 ⊢
  have hA7 : Cs s n t 4 s7 t5 := (hA6.trans hC7).mono (by omega)
  have hz7 : s7.cks.length ≤ 900000 := by rw [hck7, hck6, hck5, hck4, hck3, hck2, hck1]; exact hz2
  have hC8 : Cs s7 n t5 1 (ckS s7 n) t5 := Cs.ckS hA7.iv hA7.tk (by have := hA7.pl; omega) (by omega)
  have hA8 : Cs s n t 5 (ckS s7 n) t5 := (hA7.trans hC8).mono (by omega)
  obtain ⟨s8, hs8⟩ : ∃ s8, s8 = ckS s7 n := ⟨_, rfl⟩
  rw [← hs8] at hA8 ⊢
  have ht8 := hA8.tk
  have hC9 : Cs s8 n t5 0 (hasS s8 n (-1)) { t5 with has := -1 } := by
    unfold hasS; rw [tkAt_eq ht8]
    exact Cs.tset hA8.iv ht8 ⟨rfl, rfl, rfl, rfl⟩ ⟨rfl, rfl, rfl, rfl, rfl⟩ (hA8.iv.wf.tsk t5 (List.mem_of_getElem? ht8)).2.2.1 (.inl rfl)
  exact ⟨_, (hA8.trans hC9).mono (by omega), hb5⟩
end Go.Ab
set_option maxHeartbeats 4000000
namespace Go.Ab
open Go Go.Ab Go.Proofs Go.Ab.Ty

structure GG (s : PRun) : Prop where
  iv : Iv s
  gi : Gi s
  sz : Sz s
theorem TopC.zs {s s' : PRun} {n j : Nat} {t t' : PTask} {c : PCall} {st : Stp} {l : Lk} {k i : Nat} (h : TopC s n t j c st l k i) (hp : s'.p = s.p) (hc : s'.calls = s.calls) (ht : s'.tasks[n]? = some t') (h1 : t'.sarr = t.sarr) (h2 : t'.slen = t.slen) : TopC s' n t' j c st l k i :=
  ⟨ht, by rw [h2]; exact h.hs, by rw [h1]; exact h.hj, by rw [hc]; exact h.hc, ⟨by rw [hp]; exact h.cd.lp, h.cd.lc, h.cd.own, h.cd.ok, by rw [hp]; exact h.cd.me⟩, h.dp, h.b0, h.pc, h.es, h.os⟩
theorem turnX_gg {s : PRun} (h : GG s) (htn : s.turns.length < 2000) {n j : Nat} {t : PTask} {c : PCall} {st : Stp} {l : Lk} {k i : Nat} (hT : TopC s n t j c st l k i) (h1 : t.state = 1) : GG (turnX s n j c st) ∧ (turnX s n j c st).turns.length = s.turns.length + 1 := by
  obtain ⟨hi, hg, hz⟩ := h
  obtain ⟨hK, hac⟩ := hT.tok hi hg hz h1
  have hMM := MM_eq
  have hck := hz.ck
  obtain ⟨t9, hA9, hb9⟩ := turnB_cs hK hac (by omega) (by omega)
  have hZ := zs_turnB s n c st
  obtain ⟨hTn, hCk⟩ := turnB_turns s n c st
  have hcan9 : canF (turnB s n c st) c st = canF s c st := canF_cs hA9 c st
  unfold turnX
  obtain ⟨s9, hs9⟩ : ∃ s9, s9 = turnB s n c st := ⟨_, rfl⟩
  rw [← hs9] at hA9 hZ hTn hCk hcan9 ⊢
  have hI9 := hA9.iv
  have hG9 := hZ.gi hg
  have ht9 := hA9.tk
  have hT9 : TopC s9 n t9 j c st l k i := hT.zs hZ.p hZ.calls ht9 hA9.tsa.1 hA9.tsa.2.1
  have hK9 : Tok 80000 s9 n j t9 c st := hK.cs hA9 (by omega)
  have hn32 : n < 32 := by have := hi.wf.nT; have := (List.getElem?_eq_some_iff.1 hT.ht).1; omega
  have htl9 : s9.turns.length = s.turns.length + 1 := by rw [hTn]; simp
  have hp9 := hA9.pl
  have q1 := hz.pl
  have q2 := hz.bl
  have q3 := hz.cl
  have q4 := hz.ac
  have q5 := hz.ln
  have q6 := hz.us
  have q7 := hz.sl
  have q8 := hz.ob
  have q9 := hz.ao
  have q10 := hz.al
  -- sizes from those of s9
  have fin : ∀ s' : PRun, Iv s' → Gi s' → s'.p = s9.p → s'.sched = s9.sched → s'.used = s9.used → s'.turns = s9.turns → s'.cks = s9.cks → s'.acts = s9.acts → s'.accs.length ≤ s9.accs.length + 2 → s'.lines.length ≤ s9.lines.length + 1 → s'.objs.length ≤ 200 → s9.objs.length ≤ s'.objs.length → s'.calls.length ≤ s9.calls.length + 1 →
      s'.pool.length + 45000 * s9.tasks.length ≤ s9.pool.length + 44000 + 45000 * s'.tasks.length → s'.behs.length + 100 * s9.tasks.length ≤ s9.behs.length + 100 + 100 * s'.tasks.length → GG s' ∧ s'.turns.length = s.turns.length + 1 := fun s' a1 a2 b1 b2 b3 b4 b5 b6 b7 b8 b9 b10 b11 b12 b13 => by
    have e1 := hZ.tl
    have e2 := hZ.bl
    have e3 := hZ.calls
    have e4 := hZ.accs
    have e5 := hZ.lines
    have e6 := hZ.objs
    have e7 := hZ.p
    have e8 := hZ.sched
    have e9 := hZ.used
    have e10 := hZ.acl
    rw [e3] at b11
    rw [e4] at b7
    rw [e5] at b8
    rw [e6] at b10
    rw [e2] at b13
    rw [e1] at b12 b13
    refine ⟨⟨a1, a2, ⟨by rw [b3, b2, e9, e8]; exact q6, by rw [b2, e8]; exact q7, by rw [b5, b4, hCk, htl9]; omega, by rw [b4, htl9]; omega, by rw [b4, htl9]; omega, by rw [b4, htl9]; omega, by rw [b4, htl9]; omega, by rw [b4, htl9]; omega, b9, by rw [b1, e7]; omega, by rw [b6, b1, e7, e10]; exact q10, by rw [b4, htl9]; omega⟩⟩, by rw [b4, htl9]⟩
  have e9t : tkAt s9 n = t9 := tkAt_eq ht9
  rw [e9t]
  have hst9 := hK9.st1
  have hwt9 := hK9.wt
  have hP9 := hK9.hP
  have hB9 := hK9.hB
  have ho9 : s9.objs.length ≤ 200 := by rw [hZ.objs]; exact q8
  have hao9 : s9.p.actors.toNat ≤ s9.objs.length := by rw [hZ.objs, hZ.p]; exact q9
  cases hcn : canF s c st with
  | false =>
    rw [if_pos rfl]
    obtain ⟨_, hIs, hSb⟩ := stop_ok hI9 ht9 (by rw [hst9]; decide) hwt9 (by omega) (by omega)
    have hGs := stop_gi hI9 hG9 ht9 hwt9 (by omega) (by omega)
    have hF := stopF_fx s9 n
    have c1 := hSb.pl
    have c2 := hSb.bl
    have c3 := hSb.tl
    exact fin _ hIs hGs hF.p hF.sched hF.used hF.turns hF.cks hF.acts (by rw [hF.accs]; omega) (by rw [hF.lines]; omega) (by rw [hF.objs]; exact ho9) (by rw [hF.objs]; exact Nat.le_refl _) (by rw [hSb.cl]; omega) (by rw [c3]; omega) (by rw [c3]; omega)
  | true =>
    rw [if_neg (by simp)]
    have hS : Sok s9 n j t9 c st := { hK9.cs (Cs.refl hI9 ht9) (k' := 40000) (by omega) with can := by rw [hcan9]; exact hcn, bh := hb9 }
    have hR := stepF_iv hS (time := s.turns.length)
    have hSg := stepF_gi hG9 ho9 hao9 hS hT9 (time := s.turns.length)
    obtain ⟨r, hr⟩ : ∃ r, r = stepF s9 n j t9 c st s.turns.length := ⟨_, rfl⟩
    rw [← hr] at hR hSg ⊢
    obtain ⟨rb, s10⟩ := r
    have d1 := hR.pl
    have d2 := hR.bl
    have d3 := hR.cl
    have d4 := hSg.tl
    simp only at d1 d2 d3 d4
    cases rb with
    | false =>
      rw [if_pos rfl]
      refine fin s10 hR.iv hSg.gi hSg.p hSg.sched hSg.used hSg.turns hSg.cks hSg.acts hSg.ac hSg.ln hSg.ob hSg.oo d3 ?_ ?_
      · split at d4 <;> omega
      · split at d4 <;> omega
    | true =>
      rw [if_neg (by simp)]
      obtain ⟨t10, c10, r1, r2, r3, r4, r5, r6, r7, r8, r9, r10⟩ := hR.go rfl
      simp only at r1 r7
      have hI10 : Iv s10 := hR.iv
      have hG10 : Gi s10 := hSg.gi
      unfold turnG
      simp only
      obtain ⟨s11, hs11⟩ : ∃ s11, s11 = if 0 ≤ c.actor ∧ st.op ≠ 12 ∧ st.op ≠ 9 ∧ c.pc ≠ (c.code.steps.length : Int) - 1 then hasS s10 n c.actor else s10 := ⟨_, rfl⟩
      rw [← hs11]
      have hC11 : ∃ t11, Cs s10 n t10 0 s11 t11 := by
        rw [hs11]
        split
        · refine ⟨{ t10 with has := c.actor }, ?_⟩
          unfold hasS; rw [tkAt_eq r1]
          exact Cs.tset hI10 r1 ⟨rfl, rfl, rfl, rfl⟩ ⟨rfl, rfl, rfl, rfl, rfl⟩ (hI10.wf.tsk t10 (List.mem_of_getElem? r1)).2.2.1 (.inl rfl)
        · exact ⟨t10, Cs.refl hI10 r1⟩
      have hZ11 : Zs s10 s11 n := by
        rw [hs11]
        split
        · exact zs_hasS s10 n c.actor
        · exact .refl s10 n
      have hF11 : Fx s10 s11 := by
        rw [hs11]
        split
        · exact ⟨rfl, rfl, rfl, rfl, rfl, rfl, rfl, rfl, rfl⟩
        · exact .refl s10
      obtain ⟨t11, hC11⟩ := hC11
      have ht11 := hC11.tk
      have hI11 := hC11.iv
      have hG11 := hZ11.gi hG10
      obtain ⟨a1, a2, a3, a4⟩ := hC11.tsa
      obtain ⟨b1, b2, b3, b4, b5⟩ := hC11.tst
      obtain ⟨f, hf⟩ : ∃ f, f = n + 1 := ⟨_, rfl⟩
      have hf32 : f ≤ 32 := by omega
      have hp11 : s11.pool.length ≤ s10.pool.length := by have := hC11.pl; omega
      have hb11 : s11.behs = s10.behs := hC11.behs
      have hb1' : s11.pool.length + 1001 * f ≤ MM := by omega
      have hb2' : s11.behs.length + f ≤ MM := by rw [hb11]; omega
      have hj11 : t11.sarr[t11.slen - 1]? = some j := by rw [a1, a2, r2, r3]; exact hK9.tp
      have hc11 : s11.calls[j]? = some c10 := by rw [hC11.calls]; exact r7
      have hpc11 : c10.pc < c10.code.steps.length := by rw [r8, r9]; exact hK9.pcl
      have hw11 : t11.waits < 0 := by rw [b3, r6]; exact hwt9
      have hN : t11.slen = 1 → ∀ st', c10.code.steps[c10.pc.toNat]? = some st' → st'.op = 6 → ∃ kc : Nat, getM t11.spn c10.pc = some (kc : Int) ∧ kc < s11.tasks.length := fun g1 st' g2 g3 => by
        rw [r8, r9] at g2
        rw [hT9.es] at g2; injection g2 with g2; subst g2
        obtain ⟨kc, k1, k2⟩ := hSg.nn rfl g3 t10 r1 (by rw [← a2]; exact g1)
        refine ⟨kc, by rw [a4, r8]; exact k1, by rw [hC11.tl]; exact k2⟩
      rw [← hf]
      obtain ⟨g1, g2⟩ := goOnF_iv (settleF_iv f) hI11 ht11 (by rw [b1, r4]; decide) hw11 hj11 hc11 hpc11 hb1' hb2'
      have g3 := goOnF_gi (settleF_gi f) hI11 hG11 ht11 (by rw [b1, r4]; decide) hw11 hj11 hc11 hpc11 hN hb1' hb2'
      have hF := hF11.trans (goOnF_fx (fun s n => settleF_fx f s n) s11 n j)
      have c1 := g2.pl
      have c2 := g2.bl
      have c3 := g2.tl
      have c4 := g2.cl
      rw [hb11] at c2
      rw [hC11.tl] at c3
      rw [hC11.calls] at c4
      have e1 := hSg.ac
      have e2 := hSg.ln
      have e3 := hSg.ob
      have e4 := hSg.oo
      simp only at e1 e2 e3 e4
      refine fin _ g1 g3 (hF.p.trans hSg.p) (hF.sched.trans hSg.sched) (hF.used.trans hSg.used) (hF.turns.trans hSg.turns) (hF.cks.trans hSg.cks) (hF.acts.trans hSg.acts) (by rw [hF.accs]; exact e1) (by rw [hF.lines]; exact e2) (by rw [hF.objs]; exact e3) (by rw [hF.objs]; exact e4) (by rw [c4]; exact d3) ?_ ?_
      · rw [c3]
        by_cases h6 : st.op = 6
        · rw [if_pos h6] at d4; omega
        · rw [if_neg h6] at d4
          have := (hSg.pl h6 rfl).1
          simp only at this
          omega
      · rw [c3]
        by_cases h6 : st.op = 6
        · rw [if_pos h6] at d4; omega
        · rw [if_neg h6] at d4
          have := (hSg.pl h6 rfl).2
          simp only at this
          omega
end Go.Ab
