/- Part of the proof. -/
import Derived.Test.YthgicbkdckpeaaaDoorG30
set_option linter.unusedSimpArgs false
set_option linter.unusedVariables false
set_option maxHeartbeats 4000000
namespace Go.Ab
open Go Go.Ab Go.Proofs Go.Ab.Ty

theorem canL_of' {s : PRun} {l : List Nat} {k : Nat} {t' : PTask} (ht : (canL s l).tasks[k]? = some t') : ∃ t b, s.tasks[k]? = some t ∧ t' = { t with canc := b } := by
  obtain ⟨t, h1, rfl⟩ := canL_of ht
  split
  · exact ⟨t, true, h1, rfl⟩
  · exact ⟨t, t.canc, h1, rfl⟩
theorem Iv.can {s : PRun} (h : Iv s) (l : List Nat) : Iv (canL s l) := by
  have key : ∀ {p : Nat → PTask → Prop}, (∀ k t b, p k t → p k { t with canc := b }) → (∀ k t, s.tasks[k]? = some t → p k t) → ∀ k t, (canL s l).tasks[k]? = some t → p k t := fun {p} g1 g2 k t ht => by
    obtain ⟨t0, b, h1, rfl⟩ := canL_of' ht
    exact g1 k t0 b (g2 k t0 h1)
  refine ⟨h.wf.can l, h.kd.can l, key (fun k t b g => g) h.par, key (fun k t b g => g) h.stk, key (p := fun k t => 3 ≤ t.state → ∃ j, s.ends[k]? = some (some j)) (fun k t b g => g) h.en, key (p := fun k t => 0 ≤ t.waits → t.beh = none) (fun k t b g => g) h.wt, key (p := fun k t => t.ending = 0 ∨ 3 ≤ t.ending) (fun k t b g => g) h.ed, ?_, h.pcB, fun k t j c => key (p := fun k t => (t.state = 1 ∨ 0 ≤ t.waits) → t.sarr[t.slen - 1]? = some j → s.calls[j]? = some c → c.pc < c.code.steps.length) (fun k t b g => g) (fun k t ht => h.pcI k t j c ht) k t⟩
  intro k t k' t' i i' j ht ht' hi hi' hj hj'
  obtain ⟨u, b, h1, rfl⟩ := canL_of' ht
  obtain ⟨u', b', h1', rfl⟩ := canL_of' ht'
  exact h.dis k u k' u' i i' j h1 h1' hi hi' hj hj'
def canK (s : PRun) (ks : List Int) : PRun := canL s (ks.flatMap fun k => dsc s (s.tasks.length) k.toNat)
def stopF (s : PRun) (n : Nat) : PRun := match s.tasks[n]? with
  | some t => settleF (n + 1) ((canK s t.kids).tset n (clo t 4)) n
  | none => s
theorem dsc_ge {s : PRun} (hk : Kok s) : ∀ (f j x : Nat), x ∈ dsc s f j → j ≤ x := by
  intro f
  induction f with
  | zero => intro j x h; simp [dsc] at h
  | succ f ih =>
    intro j x h
    simp only [dsc, List.mem_cons, List.mem_flatMap] at h
    rcases h with rfl | ⟨k, h1, h2⟩
    · exact Nat.le_refl _
    · unfold kidsF at h1
      split at h1
      · rename_i t ht
        obtain ⟨i, rfl, h3, h4⟩ := hk.kd j t ht k h1
        have := ih _ x h2
        rw [Int.toNat_natCast] at this
        omega
      · cases h1
theorem stop_ok {s : PRun} (h : Iv s) {n : Nat} {t : PTask} (ht : s.tasks[n]? = some t) (hst : t.state < 3) (hwt : t.waits < 0) (hb1 : s.pool.length + 40000 ≤ MM) (hb2 : s.behs.length + 40 ≤ MM) :
    FnH Tryd.prog 90 [ptR, .int n] (HH s) (.tup []) (HH (stopF s n)) ∧ Iv (stopF s n) ∧ Sb s (stopF s n) (n + 1) := by
  have hw := h.wf
  obtain ⟨g1, g2, g3, g4, hn, g6⟩ := hw.k ht
  have hkd := h.kd.kd n t ht
  have hkl := (hw.tsz t (List.mem_of_getElem? ht)).2
  have hn32 := hw.nT
  obtain ⟨f, hf⟩ : ∃ f, f = n + 1 := ⟨_, rfl⟩
  have hf32 : f ≤ 32 := by omega
  have hfp : s.pool.length + 1001 * f ≤ MM := by omega
  have hfb : s.behs.length + f ≤ MM := by omega
  have hnl : n ∉ t.kids.flatMap fun k => dsc s (s.tasks.length) k.toNat := by
    intro hm
    obtain ⟨k, h1, h2⟩ := List.mem_flatMap.1 hm
    obtain ⟨j, rfl, h3, h4⟩ := hkd k h1
    have := dsc_ge h.kd _ _ _ h2
    rw [Int.toNat_natCast] at this
    omega
  have htk : (canK s t.kids).tasks[n]? = some t := by unfold canK; rw [canL_at ht, if_neg hnl]
  have hIk : Iv (canK s t.kids) := h.can _
  obtain ⟨a1, a2, a3, a4⟩ := hIk.wf.tsk t (List.mem_of_getElem? htk)
  have hI2 : Iv ((canK s t.kids).tset n (clo t 4)) := hIk.tset htk rfl (Nat.le_refl _) (hIk.stk n t htk) rfl rfl a3 a4 (fun e => absurd e (by show ¬ (3 : Int) ≤ 2; omega)) (fun e => absurd e (by show ¬ 0 ≤ t.waits; omega)) (.inr (by show (3 : Int) ≤ 4; omega)) (fun e => by
    rcases e with e | e
    · have : (2 : Int) = 1 := e
      omega
    · have : 0 ≤ t.waits := e
      omega)
  have hl2 : ((canK s t.kids).tset n (clo t 4)).tasks.length = s.tasks.length := by rw [tset_len]; exact canL_len
  have hS := settleF_walk f _ n hI2 (by rw [hl2]; exact hn) (by omega) hfp hfb
  have hF := settleF_iv f _ n hI2 hfp hfb
  have hE : stopF s n = settleF f ((canK s t.kids).tset n (clo t 4)) n := by unfold stopF; rw [ht, hf]
  have icl := close_ok hIk.wf (st := 4) htk hF.1.wf hS
  rw [hE, ← hf]
  refine ⟨?_, hF.1, ⟨by rw [hF.2.tl, hl2], hF.2.cl, hF.2.pl, hF.2.bl⟩⟩
  have hwF := hF.1.wf
  obtain ⟨R, hR⟩ : ∃ R, R = settleF f ((canK s t.kids).tset n (clo t 4)) n := ⟨_, rfl⟩
  rw [← hR] at hwF icl ⊢
  have hlk := lenFk (H := HH s) (k := n) (l := t.kids) (by simp +decide only [go_sem, *])
  simp +decide only [go_sem] at hlk
  have h' := Hid.mk h
  have ht' := Hid.mk ht
  obtain ⟨Z, hZ⟩ : ∃ Z, Z = canK s t.kids := ⟨_, rfl⟩
  rw [← hZ] at icl htk
  have hZ' := Hid.mk hZ
  clear hS hF hE hI2 hl2 hIk hR h hf hnl hZ
  refine FnH.intro' [(0, ptR), (1, .int n)] 2 28 NN Tryd.func90 (by kernel_rfl) rfl rfl rfl rfl rfl (HH_len s) ?_
  refine goF ?_
  refine ARun.q1 rfl rfl (ql_ixo (n := n) (b := ix .tk) (by simp +decide only [go_sem, *] <;> rfl) (by simp +decide only [go_sem, *] <;> rfl) Tryd.underlying80 (by simp +decide only [go_sem, *] <;> rfl) (by simp) hn (by simp +decide only [go_sem, *] <;> rfl)) ?_
  refine goF ?_
  refine AWp.loop (J := fun i : Nat => i ≤ t.kids.length) (fun i => ⟨[(0, ptR), (1, .int n), (15, kidV n t.kids), (16, .int t.kids.length), (17, .int i)], HH (canK s (t.kids.take i))⟩) (fun i => t.kids.length - i) 0 (Nat.zero_le _) (.wf (hH := by show HH s = HH (canL s []); rw [canL_nil])) ?_
  intro i hi
  obtain ⟨s2, hs2⟩ : ∃ s2, s2 = canK s (t.kids.take i) := ⟨_, rfl⟩
  have hI2 : Iv s2 := by rw [hs2]; exact h'.out.can _
  have hw2 := hI2.wf
  obtain ⟨t2, b2, ht2, hk2⟩ : ∃ t2 b, s2.tasks[n]? = some t2 ∧ t2 = { t with canc := b } := by
    obtain ⟨x, hx⟩ : ∃ x, s2.tasks[n]? = some x := ⟨_, List.getElem?_eq_getElem (by rw [hs2]; unfold canK; rw [canL_len]; exact hn)⟩
    have hx2 := hx
    rw [hs2] at hx2
    obtain ⟨y, b, e1, e2⟩ := canL_of' hx2
    rw [ht'.out] at e1; injection e1 with e1; subst e1
    exact ⟨x, b, hx, e2⟩
  subst hk2
  obtain ⟨f1, f2, f3, f4, _, f6⟩ := hw2.k ht2
  have hs2' : Hid (s2 = canK s (t.kids.take i)) := ⟨hs2⟩
  have hI2' := Hid.mk hI2
  rw [← hs2]
  clear hs2 hI2 ht g6 hlk
  refine goF ?_
  refine ifA (fun hd => ?_) (fun hd => ?_)
  · simp at hd
    obtain ⟨k, hkk⟩ : ∃ k, t.kids[i]? = some k := ⟨_, List.getElem?_eq_getElem hd⟩
    obtain ⟨j, rfl, hj1, hj2⟩ := hkd k (List.mem_of_getElem? hkk)
    have hkm : (t.kids.map AV.int)[i]? = some (.int j) := by rw [List.getElem?_map, hkk]; rfl
    have hl2 : s2.tasks.length = s.tasks.length := by rw [hs2'.out]; exact canL_len
    have ic := cancel_ok s.tasks.length (s := s2) j hw2 hI2'.out.kd (by omega) (by rw [hl2]; exact hj2)
    have hR : Hid (canL s2 (dsc s2 s.tasks.length j) = canK s (t.kids.take (i + 1))) := ⟨by
      rw [hs2'.out]; unfold canK; rw [dsc_can, canL_app, List.take_add_one, hkk, List.flatMap_append]
      simp⟩
    have hkv := kidV_own (k := n) hkk
    clear hkk hl2
    refine goF ?_
    refine ARun.q1 rfl rfl (ql_ixo (n := i) (b := ix (.kid n)) (by simp +decide only [go_sem, *] <;> rfl) (by simp +decide only [go_sem, *] <;> rfl) Tryd.underlying25 (by simp +decide only [go_sem, *] <;> rfl) (by simp) hd (by simp +decide only [go_sem, *] <;> rfl)) ?_
    refine goF ?_
    refine ARun.p1 rfl rfl (pl_callW ic (by simp [HH_len]) rfl (by simp +decide only [go_sem, *] <;> rfl) (by simp +decide only [go_sem, *] <;> rfl)) ?_
    refine goF ?_
    rw [wrap_succ (by omega)]
    refine ⟨i + 1, hd, by omega, ?_⟩
    rw [hR.out, hkv]
    exact .wf
  simp at hd
  obtain rfl : i = t.kids.length := by omega
  have hsZ : s2 = Z := by rw [hs2'.out, hZ'.out, List.take_length]
  rw [hsZ]
  clear ht2 f1 f2 f3 f4
  refine goF ?_
  refine ARun.p1 rfl rfl (pl_callW icl (by simp [HH_len]) rfl (by simp +decide only [go_sem, *] <;> rfl) (by simp +decide only [go_sem, *] <;> rfl)) ?_
  refine goF ?_
  exact .runV [] hwF (vs := []) (by show resVals _ _ [] = _; simp +decide only [resVals, resVal, ldPtr, ldE, go_sem, *] <;> rfl) (by simp) rfl (.pu (Pu.tup (by simp)))
end Go.Ab
set_option maxHeartbeats 4000000
namespace Go.Ab
open Go Go.Ab Go.Proofs Go.Ab.Ty

def PRun.addA (s : PRun) (x : Acc) : PRun := { s with accs := s.accs ++ [x] }
theorem HH_addA {s : PRun} {x : Acc} : ((HH s).set (ix .ac) ⟨73, 4, s.accs.map encA ++ [encA x]⟩).set (ix .rn) (rnB (s.addA x)) = HH (s.addA x) := by
  refine HH_upd (s := s) (s' := s.addA x) [(.ac, _), (.rn, _)] (upd2 ⟨ixl_ac, ?_⟩ ⟨ixl_rn, rfl⟩) fun a ha => ?_
  · simp [blk, PRun.addA]
  · cases a <;> first | rfl | simp at ha
theorem Iv.addA {s : PRun} (h : Iv s) (x : Acc) (hb : s.accs.length < 1000000) : Iv (s.addA x) :=
  ⟨⟨h.wf.1, h.wf.2, h.wf.3, h.wf.4, h.wf.5, h.wf.6, h.wf.7, h.wf.8, h.wf.9, h.wf.10, h.wf.11, by
    obtain ⟨a1, a2, a3, a4⟩ := h.wf.12
    exact ⟨a1, a2, by simp [PRun.addA]; omega, a4⟩, h.wf.13, h.wf.14⟩, ⟨h.kd.kd⟩, h.par, h.stk, h.en, h.wt, h.ed, h.dis, h.pcB, h.pcI⟩
abbrev rpB : ABlk := ⟨76, 1, [ptR]⟩
abbrev stT (st : Stp) (time who : Int) : List ABlk := [rpB, stB st, intB [time], intB [who]]
theorem step1_ok {s : PRun} {st : Stp} {time who o : Int} {w : Bool} (hb : s.accs.length ≤ 900000) : FnH Tryd.prog 113 [.int o, .base (.bool w), .ptr NN 1 0 0, .ptr (NN + 3) 1 0 0, .ptr (NN + 2) 1 0 0] (HH s ++ stT st time who) (.tup []) (HH (s.addA ⟨who, o, w, time⟩) ++ stT st time who) := by
  refine FnH.intro' [(0, .int o), (1, .base (.bool w)), (2, .ptr NN 1 0 0), (3, .ptr (NN + 3) 1 0 0), (4, .ptr (NN + 2) 1 0 0)] 5 21 (NN + 4) Tryd.func113 (by kernel_rfl) rfl rfl rfl rfl rfl (by simp [HH_len]) ?_
  refine goF ?_
  have hset := HH_addA (s := s) (x := ⟨who, o, w, time⟩)
  refine drS (k := 12) [none, none, none, none, none, none, none, none, none, none, none, some 0] (fun k => match k with
    | 0 => HH s ++ stT st time who
    | _ => (HH s).set (ix .ac) ⟨73, 4, s.accs.map encA ++ [encA ⟨who, o, w, time⟩]⟩ ++ stT st time who) 1 follows ?_
  refine gS ?_
  refine gS ?_
  refine gS ?_
  refine gS ?_
  refine gS ?_
  refine gS ?_
  refine gS ?_
  refine gS ?_
  refine gS ?_
  refine GRun.q1 (v := .agg [.int who, .int o, .base (.bool w), .int time]) rfl rfl (fun c _ => ql_build pl73 zero73 (by (simp +decide only [List.map, go_sem] <;> rfl))) ?_
  refine GRun.q1 (v := .lst [.agg [.int who, .int o, .base (.bool w), .int time]]) rfl rfl (fun c _ => ql_bsl Tryd.underlying30 sz73 (by decide) (by kernel_rfl) (by decide) (by (simp +decide only [List.map, go_sem] <;> rfl)) (by (simp +decide only [List.map, go_sem] <;> rfl)) rfl) ?_
  refine GRun.p1 (v := .own (ix .ac) (s.accs.length + 1) 0 (s.accs.length + 1)) rfl rfl (fun ρ' h => ?_) ?_
  · have h1 := pl_append (P := Tryd.prog) (ρ := ρ') (H := HH s ++ stT st time who) (b := ix .ac) (tot := s.accs.length) (es := [.agg [.int who, .int o, .base (.bool w), .int time]]) (blk := ⟨73, 4, s.accs.map encA⟩) ((h (.tmp 11) (by simp [Op.operands, Call.operands])).trans (by simp +decide only [go_sem, *] <;> rfl)) ((h (.tmp 17) (by simp [Op.operands, Call.operands])).trans (by simp +decide only [go_sem, *] <;> rfl)) (by simp +decide only [go_sem, *] <;> rfl) (by simp) Tryd.underlying30 el73 rfl rfl (by simp) (fun e he => by rw [List.mem_singleton] at he; subst he; exact ⟨rfl, rfl⟩) (by simp; omega) (by simp; omega)
    rw [app_set (HH_len s) ixl_ac] at h1
    exact h1
  refine GRun.nil ?_
  have hr : rnB (s.addA ⟨who, o, w, time⟩) = ⟨83, 13, [.agg [.lst (s.p.codes.map encC), .lst (s.p.methods.map encC), .int s.p.actors, .lst (s.sched.map .int), .int s.used, .own (ix .ob) s.objs.length 0 s.objs.length, .own (ix .tk) s.tasks.length 0 s.tasks.length, .own (ix .ln) s.lines.length 0 s.lines.length, .own (ix .ac) (s.accs.length + 1) 0 (s.accs.length + 1), .own (ix .tn) s.turns.length 0 s.turns.length, .own (ix .ck) s.cks.length 0 s.cks.length, .own (ix .en) s.ends.length 0 s.ends.length, .own (ix .at') s.acts.length 0 s.acts.length]]⟩ := by
    simp only [rnB, PRun.addA, List.length_append, List.length_singleton]
  rw [hr] at hset
  have hset' := Hid.mk hset
  clear hset
  refine goF ?_
  refine RetH.same (vs := []) (by show resVals _ _ [] = _; simp +decide only [resVals, resVal, ldPtr, ldE, go_sem, *] <;> rfl) rfl ?_
  show ((HH s).set (ix .ac) _ ++ _).set (ix .rn) _ = _
  rw [app_set (by rw [set_len, HH_len]) ixl_rn]
  exact congrArg (· ++ _) hset'.out
end Go.Ab
set_option maxHeartbeats 4000000
namespace Go.Ab
open Go Go.Ab Go.Proofs Go.Ab.Ty

structure Stb (s s' : PRun) : Prop where
  iv : Iv s'
  tl : s'.tasks.length = s.tasks.length + 1
  cl : s'.calls.length = s.calls.length + 1
  pl : s'.pool.length ≤ s.pool.length + 40000
  bl : s'.behs.length ≤ s.behs.length + 40
theorem startF_iv {s : PRun} (h : Iv s) {c : Cd} {vs a : List Int} {prio par : Int} {canc : Bool} (h0 : s.tasks.length < 32) (hC : s.calls.length < MM) (hP : s.pool.length + 40000 ≤ MM) (hB : s.behs.length + 40 ≤ MM) (ha : a.length = 32) (hv1 : c.vars ≤ 1000) (hvs : vs.length ≤ c.vars) (hcs : c.steps.length ≤ 1000)
    (hpar : par = -1 ∨ ∃ p : Nat, par = (p : Int) ∧ p < s.tasks.length) : Stb s (startF s c vs a prio par canc) := by
  have hiv : ∀ t' : PTask, t'.sarr = [s.calls.length] → t'.slen = 1 → t'.kids = [] → t'.clk = s.pool.length → t'.beh = none → t'.state < 3 → (t'.ending = 0 ∨ 3 ≤ t'.ending) → t'.waits = -1 → t'.par = par → (t'.state = 1 → 0 < c.steps.length) → Iv (((s.addC (newC c vs (-1))).addP a).addT t') := fun t' b1 b2 b3 b4 b5 b6 b7 b8 b9 b10 =>
    startIv (prio := prio) (par := par) (canc := canc) h h0 hC (by omega) ha hv1 (by omega) hcs b1 b2 b3 b4 b5 b6 b7 b8 (by rw [b9]; exact hpar) b10
  have hl : ∀ t' : PTask, (((s.addC (newC c vs (-1))).addP a).addT t').tasks.length = s.tasks.length + 1 := fun t' => by simp [PRun.addT, PRun.addP, PRun.addC]
  have hc : ∀ t' : PTask, (((s.addC (newC c vs (-1))).addP a).addT t').calls.length = s.calls.length + 1 := fun t' => by simp [PRun.addT, PRun.addP, PRun.addC]
  have hp : ∀ t' : PTask, (((s.addC (newC c vs (-1))).addP a).addT t').pool.length = s.pool.length + 1 := fun t' => by simp [PRun.addT, PRun.addP, PRun.addC]
  have hb : ∀ t' : PTask, (((s.addC (newC c vs (-1))).addP a).addT t').behs.length = s.behs.length := fun t' => rfl
  unfold startF
  split
  · rename_i hc0
    obtain ⟨t, ht⟩ : ∃ t, t = newT s.calls.length prio canc par s.pool.length := ⟨_, rfl⟩
    have he : (startS s c vs a prio par canc).tset s.tasks.length (clo t 3) = ((s.addC (newC c vs (-1))).addP a).addT (clo t 3) := addT_tset (s := (s.addC (newC c vs (-1))).addP a)
    rw [← ht, he]
    have hI := hiv (clo t 3) (by rw [ht]; rfl) (by rw [ht]; rfl) (by rw [ht]; rfl) (by rw [ht]; rfl) (by rw [ht]; rfl) (by show (2 : Int) < 3; omega) (.inr (by show (3 : Int) ≤ 3; omega)) (by rw [ht]; rfl) (by rw [ht]; rfl) (fun e => by have : (2 : Int) = 1 := e; omega)
    obtain ⟨f, hf⟩ : ∃ f, f = s.tasks.length + 1 := ⟨_, rfl⟩
    rw [← hf]
    have hf32 : f ≤ 32 := by omega
    have hfp : s.pool.length + 1 + 1001 * f ≤ MM := by omega
    have hfb : s.behs.length + f ≤ MM := by omega
    obtain ⟨g1, g2⟩ := settleF_iv f _ s.tasks.length hI (by rw [hp]; exact hfp) (by rw [hb]; exact hfb)
    exact ⟨g1, by rw [g2.tl, hl], by rw [g2.cl, hc], by have := g2.pl; rw [hp] at this; omega, by have := g2.bl; rw [hb] at this; omega⟩
  · rename_i hc0
    exact ⟨hiv _ rfl rfl rfl rfl rfl (by show (1 : Int) < 3; omega) (.inl rfl) rfl rfl (fun _ => by omega), hl _, hc _, by have := hp (newT s.calls.length prio canc par s.pool.length); show (((s.addC (newC c vs (-1))).addP a).addT (newT s.calls.length prio canc par s.pool.length)).pool.length ≤ _; omega, by show s.behs.length ≤ _; omega⟩
end Go.Ab
set_option maxHeartbeats 4000000
namespace Go.Ab
open Go Go.Ab Go.Proofs Go.Ab.Ty

def whoF (c : PCall) (n : Nat) : Int := if 0 ≤ c.actor then -1 - c.actor else n
theorem WF.mkO {s : PRun} (h : WF s) (n : Int) (hb : s.objs.length < 1000000) : WF (s.mkO n) :=
  ⟨h.1, h.2, h.3, h.4, h.5, h.6, h.7, h.8, h.9, h.10, h.11, by
    obtain ⟨a1, a2⟩ := h.12
    exact ⟨by simp [PRun.mkO]; omega, a2⟩, h.13, h.14⟩
theorem step_a {s : PRun} (h : Iv s) {n j : Nat} {t : PTask} {c : PCall} {v w nn tk : Int} {vs : List Int} {time : Int} (ht : s.tasks[n]? = some t) (hc : s.calls[j]? = some c) (hac : -1 ≤ c.actor ∧ c.actor ≤ 1000) (hv : 0 ≤ v ∧ v < c.vars.length) (hob : s.objs.length ≤ 900000) :
    FnH Tryd.prog 91 [ptR, .int n, encS ⟨1, v, w, nn, tk, vs⟩, ptC j, .int time] (HH s) (.bool true) (HH ((s.mkO nn).cset j { c with vars := c.vars.set v.toNat s.objs.length })) := by
  have hw := h.wf
  obtain ⟨g1, g2, g3, g4, hn, g6⟩ := hw.k ht
  obtain ⟨k1, k2⟩ := hw.c hc
  have hlen := HH_len s
  refine FnH.intro' [(0, ptR), (1, .int n), (2, encS ⟨1, v, w, nn, tk, vs⟩), (3, ptC j), (4, .int time)] 5 372 NN Tryd.func91 (by kernel_rfl) rfl rfl rfl rfl rfl (HH_len s) ?_
  refine goF ?_
  refine ARun.q1 rfl rfl (ql_ixo (n := n) (b := ix .tk) (by simp +decide only [go_sem, *] <;> rfl) (by simp +decide only [go_sem, *] <;> rfl) Tryd.underlying80 (by simp +decide only [go_sem, *] <;> rfl) (by simp) hn (by simp +decide only [go_sem, *] <;> rfl)) ?_
  refine goF ?_
  refine AWp.join ⟨[(1, .int n), (3, ptC j), (5, .ptr NN 1 0 0), (7, .ptr (NN + 1) 1 0 0), (9, .ptr (NN + 2) 1 0 0), (12, .ptr (NN + 3) 1 0 0), (11, ptK n), (10, .bool false)], HH s ++ stT ⟨1, v, w, nn, tk, vs⟩ time (whoF c n)⟩ ?_ ?_
  · by_cases ha : 0 ≤ c.actor
    · have hd : decide (c.actor ≥ 0) = true := by simp [ha]
      have hwr : IntKind.i64.wrap (-1 - c.actor) = -1 - c.actor := wrap_id (by omega) (by omega)
      have hwf : whoF c n = -1 - c.actor := if_pos ha
      refine ift_ ?_ rfl (by simp +decide only [go_sem, *] <;> rfl)
      refine goF ?_
      rw [hwf]
      exact .wf (hH := by show (HH s ++ _).set (NN + 3) _ = _; rw [app_setT (HH_len s)]; rfl)
    · have hd : decide (c.actor ≥ 0) = false := by simp; omega
      have hwf : whoF c n = n := if_neg ha
      refine iff_ ?_ rfl (by simp +decide only [go_sem, *] <;> rfl)
      refine goF ?_
      rw [hwf]
      exact .wf
  obtain ⟨vn, rfl⟩ : ∃ vn : Nat, v = vn := ⟨_, (Int.toNat_of_nonneg hv.1).symm⟩
  have hvl : vn < c.vars.length := by omega
  obtain ⟨x, hx⟩ : ∃ x, c.vars[vn]? = some x := ⟨_, List.getElem?_eq_getElem hvl⟩
  have hvv := vrsV_own (j := j) hx
  have hxm : (c.vars.map AV.int)[vn]? = some (.int x) := by rw [List.getElem?_map, hx]; rfl
  have hwO : WF (s.mkO nn) := hw.mkO nn (by omega)
  have hset := Hid.mk (HH_vset (s := s.mkO nn) (c' := { c with vars := c.vars.set vn s.objs.length }) hc k2 (by simp) rfl)
  have hwZ := hwO.cset (j := j) (c := { c with vars := c.vars.set vn s.objs.length }) (by simp; exact (hw.csz c (List.mem_of_getElem? hc)).1) (hw.csz c (List.mem_of_getElem? hc)).2
  rw [Int.toNat_natCast]
  obtain ⟨who, hwho⟩ : ∃ who, who = whoF c n := ⟨_, rfl⟩
  rw [← hwho]
  clear hwho
  refine goF ?_
  refine ift_ ?_ rfl (by simp +decide only [go_sem, *] <;> rfl)
  refine goF ?_
  have hcO : (s.mkO nn).calls[j]? = some c := hc
  refine drS (k := 10) [none, none, none, none, none, none, none, none, none, some 0] (fun k => match k with
    | 0 => HH s ++ stT ⟨1, vn, w, nn, tk, vs⟩ time who
    | _ => HH (s.mkO nn) ++ stT ⟨1, vn, w, nn, tk, vs⟩ time who) 1 follows ?_
  refine gS ?_
  refine gS ?_
  refine gS ?_
  refine gS ?_
  refine gS ?_
  refine gS ?_
  refine gS ?_
  refine gS ?_
  refine gS ?_
  refine GRun.p1 (v := .int s.objs.length) rfl rfl (fun ρ' h => ?_) ?_
  · have hwO : WF (s.mkO nn) := hw.mkO nn (by omega)
    exact pl_callR hw hwO (T := stT ⟨1, vn, w, nn, tk, vs⟩ time who) (object_ok hw nn hob) rfl ((h (.func 82) (by simp [Op.operands, Call.operands])).trans (by simp +decide only [go_sem, *] <;> rfl)) (by
      simp only [List.map]
      rw [h (.tmp 51) (by simp [Op.operands, Call.operands]), h (.tmp 53) (by simp [Op.operands, Call.operands])]
      simp +decide only [go_sem] <;> rfl) (rfRi _) (.pu (.base _))
  refine GRun.nil ?_
  refine goF ?_
  refine ARun.q1 rfl rfl (ql_ixo (n := vn) (b := ix (.vrs j)) (by simp +decide only [go_sem, *] <;> rfl) (by simp +decide only [go_sem, *] <;> rfl) Tryd.underlying25 (by simp +decide only [go_sem, *] <;> rfl) (by simp) hvl (by simp +decide only [go_sem, *] <;> rfl)) ?_
  refine ARun.p1 rfl rfl (pl_store_own (f := AV.int) (l := c.vars) (b := ix (.vrs j)) (tot := c.vars.length) (i := vn) (ty := 3) (sz := 1) (s.objs.length : Int) (by simp +decide only [go_sem, *] <;> rfl) (by simp +decide only [go_sem, *] <;> rfl) (by simp +decide only [go_sem, *] <;> rfl) rfl hvl sz3 rfl rfl) ?_
  have hset2 := hset.out
  clear hset
  refine goF ?_
  exact .runV (stT ⟨1, vn, w, nn, tk, vs⟩ time who) hwZ (vs := [.bool true]) (by show resVals _ _ [.tmp 10] = _; simp +decide only [resVals, resVal, ldPtr, ldE, go_sem, *] <;> rfl) rfl rfl (.pu (.base _))
end Go.Ab
set_option maxHeartbeats 4000000
namespace Go.Ab
open Go Go.Ab Go.Proofs Go.Ab.Ty

theorem step_k {s : PRun} (h : Iv s) {n j : Nat} {t : PTask} {c : PCall} {v w nn tk : Int} {vs : List Int} {time : Int} (ht : s.tasks[n]? = some t) (hc : s.calls[j]? = some c) (hac : -1 ≤ c.actor ∧ c.actor ≤ 1000) (hst : t.state < 3) (hwt : t.waits < 0) (hb1 : s.pool.length + 40000 ≤ MM) (hb2 : s.behs.length + 40 ≤ MM) :
    FnH Tryd.prog 91 [ptR, .int n, encS ⟨11, v, w, nn, tk, vs⟩, ptC j, .int time] (HH s) (.bool (!t.canc)) (HH (if t.canc then stopF s n else s)) := by
  have hw := h.wf
  obtain ⟨g1, g2, g3, g4, hn, g6⟩ := hw.k ht
  obtain ⟨k1, k2⟩ := hw.c hc
  have hlen := HH_len s
  refine FnH.intro' [(0, ptR), (1, .int n), (2, encS ⟨11, v, w, nn, tk, vs⟩), (3, ptC j), (4, .int time)] 5 372 NN Tryd.func91 (by kernel_rfl) rfl rfl rfl rfl rfl (HH_len s) ?_
  refine goF ?_
  refine ARun.q1 rfl rfl (ql_ixo (n := n) (b := ix .tk) (by simp +decide only [go_sem, *] <;> rfl) (by simp +decide only [go_sem, *] <;> rfl) Tryd.underlying80 (by simp +decide only [go_sem, *] <;> rfl) (by simp) hn (by simp +decide only [go_sem, *] <;> rfl)) ?_
  refine goF ?_
  refine AWp.join ⟨[(1, .int n), (3, ptC j), (5, .ptr NN 1 0 0), (7, .ptr (NN + 1) 1 0 0), (9, .ptr (NN + 2) 1 0 0), (12, .ptr (NN + 3) 1 0 0), (11, ptK n), (10, .bool false)], HH s ++ stT ⟨11, v, w, nn, tk, vs⟩ time (whoF c n)⟩ ?_ ?_
  · by_cases ha : 0 ≤ c.actor
    · have hd : decide (c.actor ≥ 0) = true := by simp [ha]
      have hwr : IntKind.i64.wrap (-1 - c.actor) = -1 - c.actor := wrap_id (by omega) (by omega)
      have hwf : whoF c n = -1 - c.actor := if_pos ha
      refine ift_ ?_ rfl (by simp +decide only [go_sem, *] <;> rfl)
      refine goF ?_
      rw [hwf]
      exact .wf (hH := by show (HH s ++ _).set (NN + 3) _ = _; rw [app_setT (HH_len s)]; rfl)
    · have hd : decide (c.actor ≥ 0) = false := by simp; omega
      have hwf : whoF c n = n := if_neg ha
      refine iff_ ?_ rfl (by simp +decide only [go_sem, *] <;> rfl)
      refine goF ?_
      rw [hwf]
      exact .wf
  obtain ⟨who, hwho⟩ : ∃ who, who = whoF c n := ⟨_, rfl⟩
  rw [← hwho]
  clear hwho
  obtain ⟨is, hIs, _⟩ := stop_ok h ht hst hwt hb1 hb2
  have hwS := hIs.wf
  clear hIs
  refine goF ?_
  refine iff_ ?_ rfl (by simp +decide only [go_sem, *] <;> rfl)
  refine goF ?_
  refine iff_ ?_ rfl (by simp +decide only [go_sem, *] <;> rfl)
  refine goF ?_
  refine iff_ ?_ rfl (by simp +decide only [go_sem, *] <;> rfl)
  refine goF ?_
  refine iff_ ?_ rfl (by simp +decide only [go_sem, *] <;> rfl)
  refine goF ?_
  refine iff_ ?_ rfl (by simp +decide only [go_sem, *] <;> rfl)
  refine goF ?_
  refine iff_ ?_ rfl (by simp +decide only [go_sem, *] <;> rfl)
  refine goF ?_
  refine iff_ ?_ rfl (by simp +decide only [go_sem, *] <;> rfl)
  refine goF ?_
  refine iff_ ?_ rfl (by simp +decide only [go_sem, *] <;> rfl)
  refine goF ?_
  refine iff_ ?_ rfl (by simp +decide only [go_sem, *] <;> rfl)
  refine goF ?_
  refine iff_ ?_ rfl (by simp +decide only [go_sem, *] <;> rfl)
  refine goF ?_
  refine ift_ ?_ rfl (by simp +decide only [go_sem, *] <;> rfl)
  refine goF ?_
  cases hcn : t.canc with
  | true =>
    refine ift_ ?_ rfl (by simp +decide only [go_sem, *] <;> rfl)
    refine goF ?_
    refine ARun.p1 rfl rfl (pl_callR hw hwS (T := stT ⟨11, v, w, nn, tk, vs⟩ time who) is rfl (by simp +decide only [go_sem, *] <;> rfl) (by simp +decide only [go_sem, *] <;> rfl) (rfRi _) (.pu (Pu.tup (by simp)))) ?_
    refine goF ?_
    exact .runV (stT ⟨11, v, w, nn, tk, vs⟩ time who) hwS (vs := [.bool false]) (by show resVals _ _ [.tmp 10] = _; simp +decide only [resVals, resVal, ldPtr, ldE, go_sem, *] <;> rfl) rfl rfl (.pu (.base _))
  | false =>
    refine iff_ ?_ rfl (by simp +decide only [go_sem, *] <;> rfl)
    refine goF ?_
    exact .runV (stT ⟨11, v, w, nn, tk, vs⟩ time who) hw (vs := [.bool true]) (by show resVals _ _ [.tmp 10] = _; simp +decide only [resVals, resVal, ldPtr, ldE, go_sem, *] <;> rfl) rfl rfl (.pu (.base _))
end Go.Ab
set_option maxHeartbeats 4000000
namespace Go.Ab
open Go Go.Ab Go.Proofs Go.Ab.Ty

theorem step_j {s : PRun} (h : Iv s) {n j : Nat} {t : PTask} {c : PCall} {v w nn tk : Int} {vs : List Int} {time : Int} (ht : s.tasks[n]? = some t) (hc : s.calls[j]? = some c) (hac : -1 ≤ c.actor ∧ c.actor ≤ 1000) {kc : Nat} (hsp : getM t.spn nn = some (kc : Int)) (hkc : kc < s.tasks.length) :
    FnH Tryd.prog 91 [ptR, .int n, encS ⟨10, v, w, nn, tk, vs⟩, ptC j, .int time] (HH s) (.bool true) (HH (canL s (dsc s s.tasks.length kc))) := by
  have hw := h.wf
  obtain ⟨g1, g2, g3, g4, hn, g6⟩ := hw.k ht
  obtain ⟨k1, k2⟩ := hw.c hc
  have hlen := HH_len s
  refine FnH.intro' [(0, ptR), (1, .int n), (2, encS ⟨10, v, w, nn, tk, vs⟩), (3, ptC j), (4, .int time)] 5 372 NN Tryd.func91 (by kernel_rfl) rfl rfl rfl rfl rfl (HH_len s) ?_
  refine goF ?_
  refine ARun.q1 rfl rfl (ql_ixo (n := n) (b := ix .tk) (by simp +decide only [go_sem, *] <;> rfl) (by simp +decide only [go_sem, *] <;> rfl) Tryd.underlying80 (by simp +decide only [go_sem, *] <;> rfl) (by simp) hn (by simp +decide only [go_sem, *] <;> rfl)) ?_
  refine goF ?_
  refine AWp.join ⟨[(1, .int n), (3, ptC j), (5, .ptr NN 1 0 0), (7, .ptr (NN + 1) 1 0 0), (9, .ptr (NN + 2) 1 0 0), (12, .ptr (NN + 3) 1 0 0), (11, ptK n), (10, .bool false)], HH s ++ stT ⟨10, v, w, nn, tk, vs⟩ time (whoF c n)⟩ ?_ ?_
  · by_cases ha : 0 ≤ c.actor
    · have hd : decide (c.actor ≥ 0) = true := by simp [ha]
      have hwr : IntKind.i64.wrap (-1 - c.actor) = -1 - c.actor := wrap_id (by omega) (by omega)
      have hwf : whoF c n = -1 - c.actor := if_pos ha
      refine ift_ ?_ rfl (by simp +decide only [go_sem, *] <;> rfl)
      refine goF ?_
      rw [hwf]
      exact .wf (hH := by show (HH s ++ _).set (NN + 3) _ = _; rw [app_setT (HH_len s)]; rfl)
    · have hd : decide (c.actor ≥ 0) = false := by simp; omega
      have hwf : whoF c n = n := if_neg ha
      refine iff_ ?_ rfl (by simp +decide only [go_sem, *] <;> rfl)
      refine goF ?_
      rw [hwf]
      exact .wf
  obtain ⟨who, hwho⟩ : ∃ who, who = whoF c n := ⟨_, rfl⟩
  rw [← hwho]
  clear hwho
  have ic := cancel_ok s.tasks.length (s := s) kc hw h.kd (by omega) hkc
  have hwS := hw.can (dsc s s.tasks.length kc)
  have hsp' := Hid.mk hsp
  clear hsp
  refine goF ?_
  refine iff_ ?_ rfl (by simp +decide only [go_sem, *] <;> rfl)
  refine goF ?_
  refine iff_ ?_ rfl (by simp +decide only [go_sem, *] <;> rfl)
  refine goF ?_
  refine iff_ ?_ rfl (by simp +decide only [go_sem, *] <;> rfl)
  refine goF ?_
  refine iff_ ?_ rfl (by simp +decide only [go_sem, *] <;> rfl)
  refine goF ?_
  refine iff_ ?_ rfl (by simp +decide only [go_sem, *] <;> rfl)
  refine goF ?_
  refine iff_ ?_ rfl (by simp +decide only [go_sem, *] <;> rfl)
  refine goF ?_
  refine iff_ ?_ rfl (by simp +decide only [go_sem, *] <;> rfl)
  refine goF ?_
  refine iff_ ?_ rfl (by simp +decide only [go_sem, *] <;> rfl)
  refine goF ?_
  refine iff_ ?_ rfl (by simp +decide only [go_sem, *] <;> rfl)
  refine goF ?_
  refine ift_ ?_ rfl (by simp +decide only [go_sem, *] <;> rfl)
  refine goF ?_
  refine drA (k := 8) follows (hr := ?_)
  refine goF ?_
  refine ARun.q1 rfl rfl (ql_lookup (a := nn) (m := t.spn) (enc := encI1) (f := AV.int) (b := ix (.spn n)) (by simp +decide only [go_sem, *] <;> rfl) (by simp +decide only [go_sem, *] <;> rfl) (by simp +decide only [go_sem, *] <;> rfl) Tryd.underlying86 Tryd.underlying3 (KeyEnc.int _) zero3) ?_
  rw [hsp'.out]
  refine goF ?_
  refine ARun.p1 rfl rfl (pl_callR hw hwS (T := stT ⟨10, v, w, nn, tk, vs⟩ time who) ic rfl (by simp +decide only [go_sem, *] <;> rfl) (by simp +decide only [go_sem, *] <;> rfl) (rfRi _) (.pu (Pu.tup (by simp)))) ?_
  refine goF ?_
  exact .runV (stT ⟨10, v, w, nn, tk, vs⟩ time who) hwS (vs := [.bool true]) (by show resVals _ _ [.tmp 10] = _; simp +decide only [resVals, resVal, ldPtr, ldE, go_sem, *] <;> rfl) rfl rfl (.pu (.base _))
end Go.Ab
set_option maxHeartbeats 4000000
namespace Go.Ab
open Go Go.Ab Go.Proofs Go.Ab.Ty

theorem step_g {s : PRun} (h : Iv s) {n j : Nat} {t : PTask} {c : PCall} {v w nn tk : Int} {vs : List Int} {time : Int} (ht : s.tasks[n]? = some t) (hc : s.calls[j]? = some c) (hac : -1 ≤ c.actor ∧ c.actor ≤ 1000) {kc : Nat} (hsp : getM t.spn nn = some (kc : Int)) {tc : PTask} (htc : s.tasks[kc]? = some tc) :
    FnH Tryd.prog 91 [ptR, .int n, encS ⟨7, v, w, nn, tk, vs⟩, ptC j, .int time] (HH s) (.bool (decide (3 ≤ tc.state))) (HH (if 3 ≤ tc.state then s else s.tset n { t with waits := kc, state := 2 })) := by
  have hw := h.wf
  obtain ⟨g1, g2, g3, g4, hn, g6⟩ := hw.k ht
  obtain ⟨k1, k2⟩ := hw.c hc
  have hlen := HH_len s
  refine FnH.intro' [(0, ptR), (1, .int n), (2, encS ⟨7, v, w, nn, tk, vs⟩), (3, ptC j), (4, .int time)] 5 372 NN Tryd.func91 (by kernel_rfl) rfl rfl rfl rfl rfl (HH_len s) ?_
  refine goF ?_
  refine ARun.q1 rfl rfl (ql_ixo (n := n) (b := ix .tk) (by simp +decide only [go_sem, *] <;> rfl) (by simp +decide only [go_sem, *] <;> rfl) Tryd.underlying80 (by simp +decide only [go_sem, *] <;> rfl) (by simp) hn (by simp +decide only [go_sem, *] <;> rfl)) ?_
  refine goF ?_
  refine AWp.join ⟨[(1, .int n), (3, ptC j), (5, .ptr NN 1 0 0), (7, .ptr (NN + 1) 1 0 0), (9, .ptr (NN + 2) 1 0 0), (12, .ptr (NN + 3) 1 0 0), (11, ptK n), (10, .bool false)], HH s ++ stT ⟨7, v, w, nn, tk, vs⟩ time (whoF c n)⟩ ?_ ?_
  · by_cases ha : 0 ≤ c.actor
    · have hd : decide (c.actor ≥ 0) = true := by simp [ha]
      have hwr : IntKind.i64.wrap (-1 - c.actor) = -1 - c.actor := wrap_id (by omega) (by omega)
      have hwf : whoF c n = -1 - c.actor := if_pos ha
      refine ift_ ?_ rfl (by simp +decide only [go_sem, *] <;> rfl)
      refine goF ?_
      rw [hwf]
      exact .wf (hH := by show (HH s ++ _).set (NN + 3) _ = _; rw [app_setT (HH_len s)]; rfl)
    · have hd : decide (c.actor ≥ 0) = false := by simp; omega
      have hwf : whoF c n = n := if_neg ha
      refine iff_ ?_ rfl (by simp +decide only [go_sem, *] <;> rfl)
      refine goF ?_
      rw [hwf]
      exact .wf
  obtain ⟨who, hwho⟩ : ∃ who, who = whoF c n := ⟨_, rfl⟩
  rw [← hwho]
  clear hwho
  obtain ⟨y1, y2, y3, y4, yn, y6⟩ := hw.k htc
  have io := over_ok htc y1
  obtain ⟨s1, w1⟩ := NxS.mk' ht { t with waits := kc }
  have e1 := w1.hset ht g1 rfl rfl rfl
  obtain ⟨s2, w2⟩ := NxS.mk' w1.tk { t with waits := kc, state := 2 }
  have e2 := w2.hset w1.tk g1 rfl rfl rfl
  have q1 := w1.tk
  have hs2 : Hid (s.tset n { t with waits := kc, state := 2 } = s2) := ⟨by rw [w2.eq, w1.eq, tset_tset]⟩
  have hw2 : WF s2 := by rw [← hs2.out]; exact hw.tset' ht rfl (Nat.le_refl _) rfl rfl rfl
  simp only [tskB, behV] at e1 e2
  have hsp' := Hid.mk hsp
  rw [hs2.out]
  clear hsp w1 w2
  refine goF ?_
  refine iff_ ?_ rfl (by simp +decide only [go_sem, *] <;> rfl)
  refine goF ?_
  refine iff_ ?_ rfl (by simp +decide only [go_sem, *] <;> rfl)
  refine goF ?_
  refine iff_ ?_ rfl (by simp +decide only [go_sem, *] <;> rfl)
  refine goF ?_
  refine iff_ ?_ rfl (by simp +decide only [go_sem, *] <;> rfl)
  refine goF ?_
  refine iff_ ?_ rfl (by simp +decide only [go_sem, *] <;> rfl)
  refine goF ?_
  refine iff_ ?_ rfl (by simp +decide only [go_sem, *] <;> rfl)
  refine goF ?_
  refine ift_ ?_ rfl (by simp +decide only [go_sem, *] <;> rfl)
  refine goF ?_
  refine drA (k := 6) follows (hr := ?_)
  refine goF ?_
  refine ARun.q1 rfl rfl (ql_lookup (a := nn) (m := t.spn) (enc := encI1) (f := AV.int) (b := ix (.spn n)) (by simp +decide only [go_sem, *] <;> rfl) (by simp +decide only [go_sem, *] <;> rfl) (by simp +decide only [go_sem, *] <;> rfl) Tryd.underlying86 Tryd.underlying3 (KeyEnc.int _) zero3) ?_
  rw [hsp'.out, Option.map_some, Option.getD_some]
  refine goF ?_
  refine ARun.q1 rfl rfl (ql_ixo (n := kc) (b := ix .tk) (by simp +decide only [go_sem, *] <;> rfl) (by simp +decide only [go_sem, *] <;> rfl) Tryd.underlying80 (by simp +decide only [go_sem, *] <;> rfl) (by simp) yn (by simp +decide only [go_sem, *] <;> rfl)) ?_
  refine goF ?_
  refine ARun.p1 rfl rfl (pl_callR hw hw (T := stT ⟨7, v, w, nn, tk, vs⟩ time who) io rfl (by simp +decide only [go_sem, *] <;> rfl) (by simp +decide only [go_sem, *] <;> rfl) ?_ (.pu (.base _))) ?_
  · intro a ha
    rw [List.mem_singleton] at ha; subst ha
    exact .ptr y1
  refine goF ?_
  by_cases h3 : 3 ≤ tc.state
  · have hd : decide (3 ≤ tc.state) = true := by simp [h3]
    rw [if_pos h3, hd]
    refine iff_ ?_ rfl (by simp +decide only [go_sem, *] <;> rfl)
    refine goF ?_
    exact .runV (stT ⟨7, v, w, nn, tk, vs⟩ time who) hw (vs := [.bool true]) (by show resVals _ _ [.tmp 10] = _; simp +decide only [resVals, resVal, ldPtr, ldE, go_sem, *] <;> rfl) rfl rfl (.pu (.base _))
  · have hd : decide (3 ≤ tc.state) = false := by simp [h3]
    rw [if_neg h3, hd]
    refine ift_ ?_ rfl (by simp +decide only [go_sem, *] <;> rfl)
    refine goF ?_
    exact .runV (stT ⟨7, v, w, nn, tk, vs⟩ time who) hw2 (vs := [.bool false]) (by show resVals _ _ [.tmp 10] = _; simp +decide only [resVals, resVal, ldPtr, ldE, go_sem, *] <;> rfl) rfl rfl (.pu (.base _))
end Go.Ab
