/- Part of the proof. -/
import Derived.Test.YthgicbkdckpeaaaDoorG43
import Derived.Test.YthgicbkdckpeaaaDoorG41
set_option linter.unusedSimpArgs false
set_option linter.unusedVariables false
set_option maxHeartbeats 4000000
namespace Go.Ab
open Go Go.Ab Go.Proofs Go.Ab.Ty

theorem TI.first {s : PRun} {tn : PTask} {o : Option Nat} (ht : s.tasks = [tn]) (he : s.ends = [o]) (n1 : tn.par = -1) (n3 : tn.kids = []) (n4 : tn.spn = []) (n5 : tn.waits = -1) (n6 : tn.has = -1)
    (n7 : (tn.state = 1 ∧ tn.ending = 0) ∨ (tn.state = 3 ∧ tn.ending = 3 ∧ ∃ j, o = some j)) : TI s F0 F0 := by
  have cas : ∀ i u, s.tasks[i]? = some u → i = 0 ∧ u = tn := fun i u e => by
    rw [ht] at e
    cases i with
    | zero => simp at e; exact ⟨rfl, e.symm⟩
    | succ i => simp at e
  refine ⟨fun k t e => ?_, fun p u z e hz => ?_, fun k t i z e g => ?_, fun k t e => ?_, fun k t e => ?_, fun k t e g => ?_, fun k t k' t' e e' _ _ => ?_⟩
  · obtain ⟨rfl, rfl⟩ := cas k t e; exact .inl ⟨rfl, n1⟩
  · obtain ⟨rfl, rfl⟩ := cas p u e; rw [n3] at hz; cases hz
  · obtain ⟨rfl, rfl⟩ := cas k t e; rw [n4] at g; simp at g
  · obtain ⟨rfl, rfl⟩ := cas k t e
    refine ⟨o, by rw [he]; rfl, fun g => ?_⟩
    rcases n7 with ⟨a, _⟩ | ⟨_, _, a⟩
    · omega
    · exact a
  · obtain ⟨rfl, rfl⟩ := cas k t e
    rcases n7 with ⟨a1, a2⟩ | ⟨a1, a2, _⟩
    · exact .inl ⟨a1, a2, by omega⟩
    · exact .inr (.inr (.inr ⟨.inl a1, by rw [a1, a2], by omega, by omega⟩))
  · obtain ⟨rfl, rfl⟩ := cas k t e; omega
  · obtain ⟨rfl, rfl⟩ := cas k t e; exact (cas k' t' e').1.symm
theorem newF_ti (p : Tk) (sched : List Int) (cd : Cd) : TI (newF p sched cd) F0 F0 ∧ (newF p sched cd).tasks.length = 1 := by
  unfold newF
  obtain ⟨tn, o, a1, a2, a3, a4, a5, a6, a7, a8, a9, a10, a11, a12, a13⟩ := startF_get (s := nwS p sched (p.actors.toNat + cd.params.toNat) p.actors.toNat (List.replicate (p.actors.toNat + 1) m32)) (c := cd) (vs := varsN p.actors.toNat cd.params.toNat) (a := m32) (prio := 0) (par := -1) (canc := false) rfl (.inl (by decide))
  exact ⟨.first a1 a2 a8 a9 a10 a11 a12 (a13.imp (fun q => ⟨q.1, q.2.1⟩) (fun q => ⟨q.1, q.2.1, q.2.2.2⟩)), by rw [a1]; rfl⟩
theorem pikF_ti {s : PRun} (h : TI s F0 F0) : TI (pikF s) F0 F0 := by
  unfold pikF
  split
  · exact h
  · split
    · exact h.same rfl rfl actor_id
    · exact h
theorem kidsJ_len : ∀ (ks : List Int) (s : PRun) (e : Nat), (kidsJ s e ks).1.tasks = s.tasks := by
  intro ks
  induction ks with
  | nil => intro s e; rfl
  | cons k ks ih =>
    intro s e
    simp only [kidsJ]
    split
    · split
      · exact ih _ _
      · rfl
    · rfl
theorem wakeP_len (s : PRun) (p : Nat) (tp : PTask) (e : Nat) : (wakeP s p tp e).tasks.length = s.tasks.length := by
  unfold wakeP wakeT
  split
  · split
    · simp [PRun.tset, PRun.addP, PRun.addB]
    · simp [PRun.tset, PRun.addB]
  · simp [PRun.tset, PRun.addB]
theorem goOnF_len {S : PRun → Nat → PRun} (hS : ∀ s n, (S s n).tasks.length = s.tasks.length) (s : PRun) (n j : Nat) : (goOnF S s n j).tasks.length = s.tasks.length := by
  unfold goOnF
  cases ht : s.tasks[n]? with
  | none => rfl
  | some t =>
    cases hc : s.calls[j]? with
    | none => rfl
    | some c =>
      simp only
      split
      · rw [hS, tset_len]; rfl
      · rw [tset_len]; rfl
theorem settleF_len : ∀ (f : Nat) (s : PRun) (n : Nat), (settleF f s n).tasks.length = s.tasks.length := by
  intro f
  induction f with
  | zero => intro s n; rfl
  | succ f ih =>
    intro s n
    simp only [settleF]
    split
    · rfl
    · rename_i t ht
      split
      · rfl
      · have hk := kidsJ_len t.kids s t.clk
        split
        · rename_i s1 e he
          rw [he] at hk; simp only at hk; rw [hk]
        · rename_i s1 e he
          rw [he] at hk; simp only at hk
          have h2 : ((s1.enS n e).tset n { t with state := t.ending }).tasks.length = s.tasks.length := by rw [tset_len]; show s1.tasks.length = _; rw [hk]
          split
          · exact h2
          · split
            · rw [hk]
            · split
              · rw [goOnF_len ih, wakeP_len, h2]
              · rw [ih, h2]
theorem stopF_len (s : PRun) (n : Nat) : (stopF s n).tasks.length = s.tasks.length := by
  unfold stopF
  split
  · rw [settleF_len, tset_len]; exact canL_len
  · rfl
theorem turnX_tt {s : PRun} (h : GG s) (htn : s.turns.length < 2000) {n j : Nat} {t : PTask} {c : PCall} {st : Stp} {l : Lk} {k i : Nat} (hT : TopC s n t j c st l k i) (h1 : t.state = 1) :
    (turnX s n j c st).turns = s.turns ++ [(n : Int)] ∧ s.tasks.length ≤ (turnX s n j c st).tasks.length := by
  obtain ⟨hi, hg, hz⟩ := h
  obtain ⟨hK, hac⟩ := hT.tok hi hg hz h1
  have hMM := MM_eq
  have hck := hz.ck
  obtain ⟨t9, hA9, hb9⟩ := turnB_cs hK hac (by omega) (by omega)
  have hZ := zs_turnB s n c st
  obtain ⟨hTn, hCk⟩ := turnB_turns s n c st
  have hcan9 : canF (turnB s n c st) c st = canF s c st := canF_cs hA9 c st
  unfold turnX
  obtain ⟨s9, hs9⟩ : ∃ s9, s9 = turnB s n c st := ⟨_, rfl⟩
  rw [← hs9] at hA9 hZ hTn hCk hcan9 ⊢
  have hI9 := hA9.iv
  have hG9 := hZ.gi hg
  have ht9 := hA9.tk
  have hT9 : TopC s9 n t9 j c st l k i := hT.zs hZ.p hZ.calls ht9 hA9.tsa.1 hA9.tsa.2.1
  have hK9 : Tok 80000 s9 n j t9 c st := hK.cs hA9 (by omega)
  have ho9 : s9.objs.length ≤ 200 := by rw [hZ.objs]; exact hz.ob
  have hao9 : s9.p.actors.toNat ≤ s9.objs.length := by rw [hZ.objs, hZ.p]; exact hz.ao
  have e9t : tkAt s9 n = t9 := tkAt_eq ht9
  rw [e9t]
  cases hcn : canF s c st with
  | false =>
    rw [if_pos rfl]
    exact ⟨by rw [(stopF_fx s9 n).turns, hTn], by rw [stopF_len, hZ.tl]; exact Nat.le_refl _⟩
  | true =>
    rw [if_neg (by simp)]
    have hS : Sok s9 n j t9 c st := { hK9.cs (Cs.refl hI9 ht9) (k' := 40000) (by omega) with can := by rw [hcan9]; exact hcn, bh := hb9 }
    have hSg := stepF_gi hG9 ho9 hao9 hS hT9 (time := s.turns.length)
    obtain ⟨r, hr⟩ : ∃ r, r = stepF s9 n j t9 c st s.turns.length := ⟨_, rfl⟩
    rw [← hr] at hSg ⊢
    obtain ⟨rb, s10⟩ := r
    have d0 := hSg.turns
    have d4 := hSg.tl
    simp only at d0 d4
    have d5 : s.tasks.length ≤ s10.tasks.length := by
      rw [d4, hZ.tl]; split <;> omega
    cases rb with
    | false => rw [if_pos rfl]; exact ⟨by rw [d0, hTn], d5⟩
    | true =>
      rw [if_neg (by simp)]
      unfold turnG
      simp only
      obtain ⟨s11, hs11⟩ : ∃ s11, s11 = if 0 ≤ c.actor ∧ st.op ≠ 12 ∧ st.op ≠ 9 ∧ c.pc ≠ (c.code.steps.length : Int) - 1 then hasS s10 n c.actor else s10 := ⟨_, rfl⟩
      rw [← hs11]
      have e1 : s11.turns = s10.turns := by rw [hs11]; split <;> rfl
      have e2 : s11.tasks.length = s10.tasks.length := by rw [hs11]; split; exact tset_len; rfl
      refine ⟨?_, ?_⟩
      · rw [(goOnF_fx (fun s n => settleF_fx _ s n) s11 n j).turns, e1, d0, hTn]
      · rw [goOnF_len (settleF_len _), e2]; exact d5
structure RI (s : PRun) : Prop where
  gg : GG s
  ti : TI s F0 F0
  tn : ∀ x ∈ s.turns, 0 ≤ x ∧ x < (s.tasks.length : Int)
  t0 : 0 < s.tasks.length
theorem pick_top {s : PRun} (h : GG s) (hr : readyF s ≠ []) : ∃ (n j : Nat) (t : PTask) (c : PCall) (st : Stp) (l : Lk) (k i : Nat), chF s = (n : Int) ∧ TopC (pikF s) n t j c st l k i ∧ t.state = 1 ∧ turnF (pikF s) (chF s).toNat = turnX (pikF s) n j c st ∧ (0 ≤ actF c st → ∀ (i : Nat) (u : PTask), i ≠ n → (pikF s).tasks[i]? = some u → u.has ≠ actF c st) := by
  obtain ⟨n, hn, _, t, ht, h1, h2⟩ := rdF_free _ _ (chF_mem hr)
  have hG := pikF_gg h
  obtain ⟨e1, e2⟩ := pikF_same s
  have e3 : (pikF s).calls = s.calls := by
    unfold pikF; split
    · rfl
    · split <;> rfl
  have ht' : (pikF s).tasks[n]? = some t := by rw [e1]; exact ht
  obtain ⟨j, c, st, l, k, i, hT⟩ := topC_of hG.iv hG.gi ht' h1
  have hb : blkT (pikF s) n = false := by
    have e4 : blkT (pikF s) n = blkT s n := by
      unfold blkT nxF
      rw [e1, e3]
      unfold blkF hasN
      rw [e1]
    rw [e4]; exact h2
  exact ⟨n, j, t, c, st, l, k, i, hn, hT, h1, by rw [hn, Int.toNat_natCast]; exact hT.turnF, blkT_free hT hb⟩
theorem RI.turn {s : PRun} (h : RI s) (htn : s.turns.length < 2000) (hr : readyF s ≠ []) : RI (turnF (pikF s) (chF s).toNat) ∧ (turnF (pikF s) (chF s).toNat).turns.length = s.turns.length + 1 := by
  obtain ⟨n, j, t, c, st, l, k, i, hn, hT, h1, hE, hfree⟩ := pick_top h.gg hr
  obtain ⟨e1, e2⟩ := pikF_same s
  rw [hE]
  have hG := pikF_gg h.gg
  have htn' : (pikF s).turns.length < 2000 := by rw [e2]; exact htn
  obtain ⟨g1, g2⟩ := turnX_gg hG htn' hT h1
  obtain ⟨g3, g4⟩ := turnX_tt hG htn' hT h1
  have g5 := turnX_ti hG htn' hT h1 (pikF_ti h.ti) hfree
  rw [e1] at g4
  have hnl : n < s.tasks.length := by rw [← e1]; exact (List.getElem?_eq_some_iff.1 hT.ht).1
  refine ⟨⟨g1, g5, fun x hx => ?_, by have := h.t0; omega⟩, by rw [g2, e2]⟩
  rw [g3, e2] at hx
  rcases List.mem_append.1 hx with hx | hx
  · have := h.tn x hx; omega
  · rw [List.mem_singleton] at hx; omega
theorem runF_ri : ∀ (f : Nat) (s : PRun), RI s → 2001 ≤ f + s.turns.length → RI (runF f s) ∧ ((runF f s).turns.length = 2000 ∨ readyF (runF f s) = []) := by
  intro f
  induction f with
  | zero => intro s h hf; have := h.gg.sz.tn; omega
  | succ f ih =>
    intro s h hf
    unfold runF
    split
    · rename_i htn
      split
      · rename_i hr
        have : pikF s = s := by unfold pikF; rw [if_pos hr]
        rw [this]; exact ⟨h, .inr hr⟩
      · rename_i hr
        obtain ⟨h1, h2⟩ := h.turn htn hr
        exact ih _ h1 (by rw [h2]; omega)
    · rename_i htn
      have := h.gg.sz.tn
      exact ⟨h, .inl (by omega)⟩
theorem endF_ri {p : Tk} {sched : List Int} (h : okRun p sched) : RI (endF p sched) ∧ ((endF p sched).turns.length = 2000 ∨ readyF (endF p sched) = []) := by
  obtain ⟨cd, hcd, hG, hT, _⟩ := new_gg h
  have hgd : p.codes.getD 0 ⟨0, 0, []⟩ = cd := getD_at hcd
  unfold endF
  rw [hgd]
  obtain ⟨t1, t2⟩ := newF_ti p sched cd
  exact runF_ri 2001 _ ⟨hG, t1, (by rw [hT]; intro x hx; cases hx), by omega⟩ (by rw [hT]; exact Nat.le_add_right _ _)
end Go.Ab
set_option maxHeartbeats 4000000
namespace Go.Ab
open Go Go.Ab Go.Proofs Go.Ab.Ty

theorem CallE.run0 {R : PRun} : CallE [] [] [] (HH R) (HH R) := CallE.all (H := []) (H' := HH R) (Nat.zero_le _)
theorem mvRan {H : List ABlk} : MvR (rb [] ([] : List ABlk).length) H (.tup [ptR, .int 0]) (.tup [ptR, .int 0]) := .tup' ⟨.ptr (by simp [rb, ix]), .pu (.base _), trivial⟩
theorem turns_ok {mm : List (Nat × Obj)} (hmm : TabM mm) {p : Tk} {sched : List Int} (h : okRun p sched) : FnM Tryd.prog mm 29 [encT p, .lst (sched.map .int)] (.tup [.lst ((endF p sched).turns.map .int), .int 0]) := by
  obtain ⟨iran, hGE⟩ := ran_good hmm h
  obtain ⟨R, hR⟩ : ∃ R, R = endF p sched := ⟨_, rfl⟩
  rw [← hR] at iran hGE ⊢
  have hwR := hGE.iv.wf
  have hlR := HH_len R
  obtain ⟨co, me, ac⟩ := p
  clear hR
  refine FnM.intro' [(0, encT ⟨co, me, ac⟩), (1, .lst (sched.map .int))] 2 21 Tryd.func29 (by kernel_rfl) rfl rfl rfl rfl rfl ?_
  refine AWp.seq ?_
  refine AWp.join ⟨[(1, .lst (sched.map .int)), (2, .iptr (encT ⟨co, me, ac⟩) 0), (memSlot, .mem mm)], []⟩ ?_ ?_
  · refine goF ?_
    exact Wk.selB [] List.nodup_nil (fun b hb => absurd hb (Nat.not_lt_zero _)) trivial (WkR.all ⟨.pu (Pu_mapInt _), .iptr rfl rfl rfl rfl ⟨.pu (Pu_mapC _), .pu (Pu_mapC _), .pu (.base _), trivial⟩, .pu (.mem _), trivial⟩)
  refine AWp.seq ?_
  refine AWp.join ⟨[(6, ptR), (7, .int 0), (memSlot, .mem mm)], HH R⟩ ?_ ?_
  · refine reS ?_
    refine ARun.p1 rfl rfl (pl_callHM iran (.inr (by simp +decide only [go_sem, *] <;> rfl)) .run0 rfl (by simp +decide only [go_sem, *] <;> rfl) (args := [encT ⟨co, me, ac⟩, .lst (sched.map .int)]) ?_ mvRan) ?_
    · exact ⟨.pu (Pu_encT ⟨co, me, ac⟩), .pu (Pu_mapInt _), trivial⟩
    refine goF ?_
    exact .wf
  clear iran
  refine goF ?_
  refine iff_ ?_ rfl (by simp +decide only [go_sem, *] <;> rfl)
  refine AWp.skip ?_
  refine goF ?_
  refine Ret.pub (vs := [.own (ix .tn) R.turns.length 0 R.turns.length, .int 0]) (by show resVals _ _ [.tmp 4, .tmp 5] = _; simp +decide only [resVals, resVal, ldPtr, ldE, go_sem, *] <;> rfl) ?_
  exact .tup' ⟨.ownM (ty := 3) (sz := 1) (f := AV.int) (Nat.zero_le _) (by rw [HH_get R _ ixl_tn]; rfl) rfl (fun x _ c hc => by simp only [AV.cells, List.mem_singleton] at hc; subst hc; exact .base _), .pu (.base _), trivial⟩
abbrev bolV (b : Bool) : AV := .base (.bool b)
abbrev bolB (l : List Bool) : ABlk := ⟨4, 1, l.map bolV⟩
theorem canc_ok {mm : List (Nat × Obj)} (hmm : TabM mm) {p : Tk} {sched : List Int} (h : okRun p sched) : FnM Tryd.prog mm 18 [encT p, .lst (sched.map .int)] (.tup [.lst (((endF p sched).tasks.map (·.canc)).map bolV), .int 0]) := by
  obtain ⟨iran, hGE⟩ := ran_good hmm h
  obtain ⟨R, hR⟩ : ∃ R, R = endF p sched := ⟨_, rfl⟩
  rw [← hR] at iran hGE ⊢
  have hwR := hGE.iv.wf
  have hlR := HH_len R
  obtain ⟨co, me, ac⟩ := p
  clear hR
  refine FnM.intro' [(0, encT ⟨co, me, ac⟩), (1, .lst (sched.map .int))] 2 38 Tryd.func18 (by kernel_rfl) rfl rfl rfl rfl rfl ?_
  refine AWp.seq ?_
  refine AWp.join ⟨[(1, .lst (sched.map .int)), (2, .iptr (encT ⟨co, me, ac⟩) 0), (memSlot, .mem mm)], []⟩ ?_ ?_
  · refine goF ?_
    exact Wk.selB [] List.nodup_nil (fun b hb => absurd hb (Nat.not_lt_zero _)) trivial (WkR.all ⟨.pu (Pu_mapInt _), .iptr rfl rfl rfl rfl ⟨.pu (Pu_mapC _), .pu (Pu_mapC _), .pu (.base _), trivial⟩, .pu (.mem _), trivial⟩)
  refine AWp.seq ?_
  refine AWp.join ⟨[(6, ptR), (7, .int 0), (memSlot, .mem mm)], HH R⟩ ?_ ?_
  · refine reS ?_
    refine ARun.p1 rfl rfl (pl_callHM iran (.inr (by simp +decide only [go_sem, *] <;> rfl)) .run0 rfl (by simp +decide only [go_sem, *] <;> rfl) (args := [encT ⟨co, me, ac⟩, .lst (sched.map .int)]) ?_ mvRan) ?_
    · exact ⟨.pu (Pu_encT ⟨co, me, ac⟩), .pu (Pu_mapInt _), trivial⟩
    refine goF ?_
    exact .wf
  clear iran
  refine goF ?_
  refine iff_ ?_ rfl (by simp +decide only [go_sem, *] <;> rfl)
  refine AWp.skip ?_
  refine goF ?_
  refine AWp.weaken (Wk.nilC (E2 := [(6, ptR), (8, .own NN 0 0 0), (23, .own (ix .tk) R.tasks.length 0 R.tasks.length), (24, .int R.tasks.length), (25, .int 0)]) (H2 := HH R) 4 1 (NilB.rf (S := (· < NN)) (HH_rn hwR)) ⟨.ptr, .nil hlR, .own, .pu (.base _), .pu (.base _), trivial⟩) ?_
  refine AWp.loop (J := fun i : Nat => i ≤ R.tasks.length) (fun i => ⟨[(6, ptR), (8, .own NN i 0 i), (23, .own (ix .tk) R.tasks.length 0 R.tasks.length), (24, .int R.tasks.length), (25, .int i)], HH R ++ [bolB ((R.tasks.take i).map (·.canc))]⟩) (fun i => R.tasks.length - i) 0 (Nat.zero_le _) (.wf (hH := by simp)) ?_
  rintro i hi
  by_cases hlt : i < R.tasks.length
  · have hd : decide ((i : Int) < (R.tasks.length : Int)) = true := decide_eq_true (by omega)
    obtain ⟨t, ht⟩ : ∃ t, R.tasks[i]? = some t := ⟨_, List.getElem?_eq_getElem hlt⟩
    obtain ⟨g1, g2, g3, g4, _, g6⟩ := hwR.k ht
    have hn32 := hwR.nT
    have htk : R.tasks.take (i + 1) = R.tasks.take i ++ [t] := by rw [List.take_add_one, ht]; rfl
    obtain ⟨l1, hl1⟩ : ∃ l1, l1 = (R.tasks.take i).map (·.canc) := ⟨_, rfl⟩
    have hn1 : Hid ((R.tasks.take (i + 1)).map (·.canc) = l1 ++ [t.canc]) := ⟨by rw [htk, List.map_append, ← hl1]; rfl⟩
    have hll1 : l1.length = i := by rw [hl1]; simp; omega
    rw [← hl1]
    clear hl1 htk
    refine goF ?_
    refine ift_ ?_ rfl (by simp +decide only [go_sem, *] <;> rfl)
    refine goF ?_
    refine ARun.q1 rfl rfl (ql_ixo (n := i) (b := ix .tk) (by simp +decide only [go_sem, *] <;> rfl) (by simp +decide only [go_sem, *] <;> rfl) Tryd.underlying80 (by simp +decide only [go_sem, *] <;> rfl) (by simp) hlt (by simp +decide only [go_sem, *] <;> rfl)) ?_
    refine goF ?_
    refine ARun.p1 rfl rfl (pl_append (b := NN) (tot := i) (es := [bolV t.canc]) (blk := bolB l1) (by simp +decide only [go_sem, *] <;> rfl) (by simp +decide only [go_sem, *] <;> rfl) (by simp +decide only [go_sem, *] <;> rfl) (by simp [hll1]) Tryd.underlying36 el4 rfl rfl (by simp) (fun e he => by rw [List.mem_singleton] at he; subst he; exact ⟨rfl, rfl⟩) (by simp; omega) (by simp; omega)) ?_
    refine goF ?_
    rw [wrap_succ (by omega)]
    refine ⟨i + 1, by omega, by omega, ?_⟩
    rw [hn1.out]
    exact .wf (hH := by simp)
  · have hd : decide ((i : Int) < (R.tasks.length : Int)) = false := decide_eq_false (by omega)
    have hin : R.tasks.length = i := by omega
    have hti : R.tasks.take i = R.tasks := by rw [← hin]; exact List.take_length
    rw [hti]
    obtain ⟨l1, hl1⟩ : ∃ l1, l1 = R.tasks.map (·.canc) := ⟨_, rfl⟩
    have hll1 : l1.length = i := by rw [hl1, List.length_map]; exact hin
    rw [← hl1]
    clear hl1 hti hin
    refine goF ?_
    refine iff_ ?_ rfl (by simp +decide only [go_sem, *] <;> rfl)
    refine goF ?_
    refine Ret.pub (vs := [.own NN i 0 i, .int 0]) (by show resVals _ _ [.tmp 4, .tmp 5] = _; simp +decide only [resVals, resVal, ldPtr, ldE, go_sem, *] <;> rfl) ?_
    exact .tup' ⟨.ownM (ty := 4) (sz := 1) (f := bolV) (Nat.zero_le _) (app_get0 hlR) hll1 (fun x _ c hc => by simp only [AV.cells, List.mem_singleton] at hc; subst hc; exact .base _), .pu (.base _), trivial⟩
theorem dead_ok {mm : List (Nat × Obj)} (hmm : TabM mm) {p : Tk} {sched : List Int} (h : okRun p sched) : FnM Tryd.prog mm 30 [encT p, .lst (sched.map .int)] (.tup [.bool false, .int 0]) := by
  obtain ⟨iran, hGE⟩ := ran_good hmm h
  have hov : (endF p sched).turns.length < 2000 → ∀ (k : Nat) (t : PTask), (endF p sched).tasks[k]? = some t → 3 ≤ t.state := by
    obtain ⟨h1, h2⟩ := endF_ri h
    intro h3
    rcases h2 with g | g
    · omega
    · exact stuck_over h1.gg h1.ti g
  obtain ⟨R, hR⟩ : ∃ R, R = endF p sched := ⟨_, rfl⟩
  rw [← hR] at iran hGE hov
  have hwR := hGE.iv.wf
  have hlR := HH_len R
  obtain ⟨co, me, ac⟩ := p
  clear hR
  have hov := Hid.mk hov
  refine FnM.intro' [(0, encT ⟨co, me, ac⟩), (1, .lst (sched.map .int))] 2 40 Tryd.func30 (by kernel_rfl) rfl rfl rfl rfl rfl ?_
  refine AWp.seq ?_
  refine AWp.join ⟨[(1, .lst (sched.map .int)), (2, .iptr (encT ⟨co, me, ac⟩) 0), (memSlot, .mem mm)], []⟩ ?_ ?_
  · refine goF ?_
    exact Wk.selB [] List.nodup_nil (fun b hb => absurd hb (Nat.not_lt_zero _)) trivial (WkR.all ⟨.pu (Pu_mapInt _), .iptr rfl rfl rfl rfl ⟨.pu (Pu_mapC _), .pu (Pu_mapC _), .pu (.base _), trivial⟩, .pu (.mem _), trivial⟩)
  refine AWp.seq ?_
  refine AWp.join ⟨[(6, ptR), (7, .int 0), (memSlot, .mem mm)], HH R⟩ ?_ ?_
  · refine reS ?_
    refine ARun.p1 rfl rfl (pl_callHM iran (.inr (by simp +decide only [go_sem, *] <;> rfl)) .run0 rfl (by simp +decide only [go_sem, *] <;> rfl) (args := [encT ⟨co, me, ac⟩, .lst (sched.map .int)]) ?_ mvRan) ?_
    · exact ⟨.pu (Pu_encT ⟨co, me, ac⟩), .pu (Pu_mapInt _), trivial⟩
    refine goF ?_
    exact .wf
  clear iran
  refine goF ?_
  refine iff_ ?_ rfl (by simp +decide only [go_sem, *] <;> rfl)
  refine AWp.skip ?_
  refine goF ?_
  refine AWp.loop (J := fun i : Nat => i ≤ R.tasks.length) (fun i => ⟨[(6, ptR), (22, .own (ix .tk) R.tasks.length 0 R.tasks.length), (23, .int R.tasks.length), (24, .int i)], HH R⟩) (fun i => R.tasks.length - i) 0 (Nat.zero_le _) .wf ?_
  rintro i hi
  by_cases hlt : i < R.tasks.length
  · have hd : decide ((i : Int) < (R.tasks.length : Int)) = true := decide_eq_true (by omega)
    obtain ⟨t, ht⟩ : ∃ t, R.tasks[i]? = some t := ⟨_, List.getElem?_eq_getElem hlt⟩
    obtain ⟨g1, g2, g3, g4, _, g6⟩ := hwR.k ht
    have hn32 := hwR.nT
    have iov := over_ok ht g1
    refine goF ?_
    refine ift_ ?_ rfl (by simp +decide only [go_sem, *] <;> rfl)
    refine goF ?_
    refine ARun.q1 rfl rfl (ql_ixo (n := i) (b := ix .tk) (by simp +decide only [go_sem, *] <;> rfl) (by simp +decide only [go_sem, *] <;> rfl) Tryd.underlying80 (by simp +decide only [go_sem, *] <;> rfl) (by simp) hlt (by simp +decide only [go_sem, *] <;> rfl)) ?_
    refine goF ?_
    refine ARun.p1 rfl rfl (pl_callR0 hwR hwR iov rfl (by simp +decide only [go_sem, *] <;> rfl) (by simp +decide only [go_sem, *] <;> rfl) (by
      intro a ha
      rw [List.mem_singleton] at ha; subst ha
      exact .ptr g1) (.pu (.base _))) ?_
    by_cases hs : 3 ≤ t.state
    · have hs2 : decide (3 ≤ t.state) = true := decide_eq_true hs
      refine goF ?_
      refine iff_ ?_ rfl (by simp +decide only [go_sem, *] <;> rfl)
      refine goF ?_
      rw [wrap_succ (by omega)]
      exact ⟨i + 1, by omega, by omega, .wf⟩
    · have hs2 : decide (3 ≤ t.state) = false := decide_eq_false hs
      have h20 : ¬ R.turns.length < 2000 := fun g => hs (hov.out g i t ht)
      have h21 : decide ((R.turns.length : Int) < 2000) = false := decide_eq_false (by omega)
      refine goF ?_
      refine iff_ ?_ rfl (by simp +decide only [go_sem, *] <;> rfl)
      refine goF ?_
      rw [wrap_succ (by omega)]
      exact ⟨i + 1, by omega, by omega, .wf⟩
  · have hd : decide ((i : Int) < (R.tasks.length : Int)) = false := decide_eq_false (by omega)
    refine goF ?_
    refine iff_ ?_ rfl (by simp +decide only [go_sem, *] <;> rfl)
    refine goF ?_
    exact Ret.data (vs := [.bool false, .int 0]) (by show resVals _ _ [.tmp 4, .tmp 5] = _; simp +decide only [resVals, resVal, ldPtr, ldE, go_sem, *] <;> rfl) rfl (Pu.tup (by simp))
end Go.Ab
set_option maxHeartbeats 4000000
namespace Go.Ab
open Go Go.Ab Go.Proofs Go.Ab.Ty

def hvS : List Stp → Int → Option Int
  | [], n => some n
  | s :: l, n => if 50 < s.vars.length ∨ 2000 < n + 1 + s.vars.length then none else hvS l (n + 1 + s.vars.length)
def hvC : List Cd → Int → Option Int
  | [], n => some n
  | c :: l, n => if 60 < c.steps.length then none else match hvS c.steps n with
    | none => none
    | some m => hvC l m
def hvy (p : Tk) (n : Nat) : Bool := decide (20 < p.codes.length ∨ 20 < p.methods.length ∨ 300 < n) || (hvC (p.codes ++ p.methods) 0).isNone
theorem nth_app {α : Type} {d : α} {l m : List α} {i : Nat} : nth d (l ++ m) (i : Int) = if i < l.length then nth d l i else nth d m ((i : Int) - l.length) := by
  unfold nth
  split
  · rw [Int.toNat_natCast, List.getElem?_append_left (by omega)]
  · rw [Int.toNat_natCast, List.getElem?_append_right (by omega)]
    congr 2; omega
theorem code_at (p : Tk) (i : Nat) (hi : i < p.codes.length + p.methods.length) (hb : p.methods.length ≤ 1000) : Fn Tryd.prog 41 [encT p, .int i] (encC (Rg.cod (p.codes ++ p.methods) i)) := by
  obtain ⟨co, me, ac⟩ := p
  simp only at hi hb
  refine Fn.intro' [(0, encT ⟨co, me, ac⟩), (1, .int i)] 2 24 Tryd.func41 (by kernel_rfl) rfl rfl rfl rfl rfl ?_
  refine goB ?_
  refine ifA (fun hc => ?_) (fun hc => ?_)
  · simp at hc
    have hE : Rg.cod (co ++ me) i = Rg.cod co i := by unfold Rg.cod; rw [nth_app, if_pos hc]
    simp only [hE]
    refine goB ?_
    refine ARun.q1 rfl rfl (ql_idxD (l := co) (f := encC) Rg.cd0 rfl rfl Tryd.underlying22 (by omega) (by omega) (by kernel_rfl)) ?_
    refine goB ?_
    exact Ret.data (vs := [encC (Rg.cod co i)]) (by kernel_rfl) rfl (Pu_encC _)
  · simp at hc
    have hE : Rg.cod (co ++ me) i = Rg.cod me ((i : Int) - co.length) := by unfold Rg.cod; rw [nth_app, if_neg (by omega)]
    simp only [hE]
    refine goB ?_
    rw [wrap_id (x := (i : Int) - co.length) (by omega) (by omega)]
    refine ARun.q1 rfl rfl (ql_idxD (l := me) (f := encC) Rg.cd0 rfl rfl Tryd.underlying22 (by omega) (by omega) (by kernel_rfl)) ?_
    refine goB ?_
    exact Ret.data (vs := [encC (Rg.cod me ((i : Int) - co.length))]) (by kernel_rfl) rfl (Pu_encC _)
theorem heavy_ok (p : Tk) (sched : List Int) : Fn Tryd.prog 19 [encT p, .lst (sched.map .int)] (.bool (hvy p sched.length)) := by
  obtain ⟨co, me, ac⟩ := p
  refine Fn.intro' [(0, encT ⟨co, me, ac⟩), (1, .lst (sched.map .int))] 2 71 Tryd.func19 (by kernel_rfl) rfl rfl rfl rfl rfl ?_
  refine goB ?_
  by_cases h1 : 20 < co.length ∨ 20 < me.length ∨ 300 < sched.length
  · refine ift_ ?_ ?_ rfl
    rotate_left
    · by_cases a : 20 < co.length <;> by_cases b : 20 < me.length <;> by_cases d : 300 < sched.length <;> first | (exfalso; omega) | (simp [a, b, d] <;> omega)
    refine goB ?_
    exact Ret.bool rfl (by unfold hvy; simp [h1])
  refine iff_ ?_ ?_ rfl
  rotate_left
  · by_cases a : 20 < co.length <;> by_cases b : 20 < me.length <;> by_cases d : 300 < sched.length <;> first | (exfalso; omega) | (simp [a, b, d] <;> omega)
  have hv : hvy ⟨co, me, ac⟩ sched.length = (hvC (co ++ me) 0).isNone := by unfold hvy; simp [h1]
  rw [hv]
  refine goB ?_
  refine AWp.loop (J := fun x : Nat × Int => x.1 ≤ co.length + me.length ∧ 0 ≤ x.2 ∧ x.2 ≤ 2000 ∧ hvC ((co ++ me).drop x.1) x.2 = hvC (co ++ me) 0) (fun x => ⟨[(2, .ptr 0 1 0 0), (5, .int x.2), (6, .int x.1)], [⟨24, 3, [encT ⟨co, me, ac⟩]⟩]⟩) (fun x => co.length + me.length - x.1) (0, 0) ⟨Nat.zero_le _, by omega, by omega, rfl⟩ .wf ?_
  rintro ⟨i, n⟩ ⟨j1, j2, j3, j4⟩
  simp only at j1 j2 j3 j4
  refine goB ?_
  rw [wrap_id (x := (co.length : Int) + me.length) (by omega) (by omega)]
  by_cases hlt : i < co.length + me.length
  · have hd : decide ((i : Int) < (co.length : Int) + me.length) = true := decide_eq_true (by omega)
    refine ift_ ?_ hd rfl
    refine goB ?_
    refine callA (code_at ⟨co, me, ac⟩ i hlt (by simp only; omega)) ?_
    have hdr : (co ++ me).drop i = Rg.cod (co ++ me) i :: (co ++ me).drop (i + 1) := by
      rw [List.drop_eq_getElem_cons (by simp; omega)]
      congr 1
      exact (nth_at (List.getElem?_eq_getElem _)).symm
    rw [hdr] at j4
    generalize Rg.cod (co ++ me) i = cd at j4
    obtain ⟨cp, cv, ss⟩ := cd
    refine goB ?_
    by_cases h60 : 60 < ss.length
    · refine ift_ ?_ (decide_eq_true (by omega)) rfl
      refine goB ?_
      exact Ret.bool rfl (by
        rw [← j4]
        simp only [hvC]
        rw [if_pos h60]; simp)
    refine iff_ ?_ (decide_eq_false (by omega)) rfl
    refine goB ?_
    refine AWp.loop (J := fun x : Nat × Int => x.1 ≤ ss.length ∧ 0 ≤ x.2 ∧ x.2 ≤ 2000 ∧ hvS (ss.drop x.1) x.2 = hvS ss n) (fun x => ⟨[(2, .ptr 0 1 0 0), (5, .int x.2), (6, .int i), (7, .ptr 1 1 0 0), (8, .int x.1)], [⟨24, 3, [encT ⟨co, me, ac⟩]⟩, ⟨68, 3, [encC ⟨cp, cv, ss⟩]⟩]⟩) (fun x => ss.length - x.1) (0, n) ⟨Nat.zero_le _, j2, j3, rfl⟩ .wf ?_
    rintro ⟨k, m⟩ ⟨q1, q2, q3, q4⟩
    simp only at q1 q2 q3 q4
    refine goB ?_
    by_cases hk : k < ss.length
    · refine ift_ ?_ (decide_eq_true (by omega)) rfl
      have hds : ss.drop k = nth Rg.stp0 ss k :: ss.drop (k + 1) := by
        rw [List.drop_eq_getElem_cons hk]
        congr 1
        exact (nth_at (List.getElem?_eq_getElem _)).symm
      rw [hds] at q4
      refine goB ?_
      refine ARun.q1 rfl rfl (ql_idxD (l := ss) (f := encS) Rg.stp0 rfl rfl Tryd.underlying66 (by omega) (by omega) (by kernel_rfl)) ?_
      generalize hst : nth Rg.stp0 ss k = st at q4
      obtain ⟨op, v, w, nn, tk, vs⟩ := st
      refine goB ?_
      rw [wrap_id (x := m + 1) (by omega) (by omega)]
      refine ARun.q1 rfl rfl (ql_idxD (l := ss) (f := encS) Rg.stp0 rfl rfl Tryd.underlying66 (by omega) (by omega) (by kernel_rfl)) ?_
      rw [hst]
      refine goB ?_
      by_cases h50 : 50 < vs.length
      · refine ift_ ?_ ?_ rfl
        rotate_left
        · have : decide ((vs.length : Int) > 50) = true := decide_eq_true (by omega)
          rw [this]; rfl
        refine goB ?_
        exact Ret.bool rfl (by
          rw [← j4]
          simp only [hvC]
          rw [if_neg h60, ← q4]
          simp only [hvS]
          rw [if_pos (.inl h50)]; simp)
      have hd50 : decide ((vs.length : Int) > 50) = false := decide_eq_false (by omega)
      rw [wrap_id (x := m + 1 + vs.length) (by omega) (by omega)]
      by_cases h2k : 2000 < m + 1 + vs.length
      · refine ift_ ?_ ?_ rfl
        rotate_left
        · have : decide (m + 1 + (vs.length : Int) > 2000) = true := decide_eq_true (by omega)
          rw [hd50, this]; rfl
        refine goB ?_
        exact Ret.bool rfl (by
          rw [← j4]
          simp only [hvC]
          rw [if_neg h60, ← q4]
          simp only [hvS]
          rw [if_pos (.inr h2k)]; simp)
      refine iff_ ?_ ?_ rfl
      rotate_left
      · have : decide (m + 1 + (vs.length : Int) > 2000) = false := decide_eq_false (by omega)
        rw [hd50, this]; rfl
      refine goB ?_
      rw [wrap_succ (by omega)]
      refine ⟨(k + 1, m + 1 + vs.length), ⟨by show k + 1 ≤ _; omega, by show 0 ≤ m + 1 + (vs.length : Int); omega, by show m + 1 + (vs.length : Int) ≤ 2000; omega, ?_⟩, by show ss.length - (k + 1) < ss.length - k; omega, .wf⟩
      rw [← q4]
      simp only [hvS]
      rw [if_neg (by omega)]
    · refine iff_ ?_ (decide_eq_false (by omega)) rfl
      refine goB ?_
      rw [wrap_succ (by omega)]
      refine ⟨(i + 1, m), ⟨by show i + 1 ≤ _; omega, q2, q3, ?_⟩, by show co.length + me.length - (i + 1) < co.length + me.length - i; omega, ?_⟩
      · rw [← j4]
        have hnil : ss.drop k = [] := List.drop_eq_nil_of_le (by omega)
        rw [hnil] at q4
        simp only [hvS] at q4
        simp only [hvC]
        rw [if_neg h60, ← q4]
      · exact .trim' 1 rfl (by simp +decide only [go_sem, WkP]; exact ⟨.ptr (by decide), .pu (.base _), .pu (.base _)⟩) (Rg.Pub_blkT ⟨co, me, ac⟩)
  · refine iff_ ?_ (decide_eq_false (by omega)) rfl
    refine goB ?_
    exact Ret.bool rfl (by
      rw [← j4, List.drop_eq_nil_of_le (by simp; omega)]
      simp [hvC])
end Go.Ab
