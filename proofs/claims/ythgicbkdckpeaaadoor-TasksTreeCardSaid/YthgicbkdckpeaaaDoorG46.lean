/- Part of the proof. -/
import Derived.Test.YthgicbkdckpeaaaDoorG45
set_option linter.unusedSimpArgs false
set_option linter.unusedVariables false
set_option maxHeartbeats 4000000
namespace Go.Ab
open Go Go.Ab Go.Proofs Go.Ab.Ty

theorem TasG.up {s s' : PRun} {t : PTask} (h : TasG s t) (hsa : ∀ j ∈ t.sarr, j < s.calls.length) (hp : s'.p = s.p) (hl : s.tasks.length ≤ s'.tasks.length)
    (hc : ∀ (j : Nat) (c' : PCall), j < s.calls.length → s'.calls[j]? = some c' → ∃ c, s.calls[j]? = some c ∧ c'.code = c.code ∧ c'.actor = c.actor ∧ c'.pc = c.pc) : TasG s' t := by
  have := h.kl
  have := h.wt
  refine ⟨h.pr, by omega, h.s1, by omega, h.sl, fun j c e1 e2 => ?_, fun i j c e0 e1 e2 e3 => ?_, fun g => ⟨(h.w7 g).1, fun j c st e1 e2 e3 => ?_⟩⟩
  · obtain ⟨c0, f1, f2, f3, f4⟩ := hc j c (hsa j (List.mem_of_getElem? e1)) e2
    obtain ⟨b1, b2⟩ := h.b0 j c0 e1 f1
    refine ⟨by rw [f3]; exact b1, fun i st g1 g2 g3 => ?_⟩
    obtain ⟨kc, k1, k2⟩ := b2 i st (by rw [← f4]; exact g1) (by rw [← f2]; exact g2) g3
    exact ⟨kc, k1, by omega⟩
  · obtain ⟨c0, f1, f2, f3, f4⟩ := hc j c (hsa j (List.mem_of_getElem? e2)) e3
    obtain ⟨b1, k, b2, b3⟩ := h.st i j c0 e0 e1 e2 f1
    exact ⟨by rw [f3]; exact b1, k, by rw [hp, f2]; exact b2, b3⟩
  · obtain ⟨c0, f1, f2, f3, f4⟩ := hc j c (hsa j (List.mem_of_getElem? e1)) e2
    exact (h.w7 g).2 j c0 st e1 f1 (by rw [← f2, ← f4]; exact e3)
theorem CalG.up {p : Tk} {n n' : Nat} {c : PCall} (h : CalG p n c) (hn : n ≤ n') : CalG p n' c := ⟨h.cd, h.vl, fun x hx => by have := h.vo x hx; omega⟩
theorem sarr_lt {s : PRun} (hi : Iv s) {n : Nat} {t : PTask} (ht : s.tasks[n]? = some t) : ∀ j ∈ t.sarr, j < s.calls.length := (hi.wf.tsk t (List.mem_of_getElem? ht)).1
theorem Gi.vset {s : PRun} (hi : Iv s) (h : Gi s) {j i : Nat} {c : PCall} {x : Int} (hc : s.calls[j]? = some c) (hx : x < s.objs.length) : Gi (s.cset j { c with vars := c.vars.set i x }) := by
  have hcg := h.ca c (List.mem_of_getElem? hc)
  refine ⟨h.ok, h.ob, fun y hy => ?_, fun n t ht => (h.ta n t ht).up (sarr_lt hi ht) rfl (Nat.le_refl _) fun k c' hk e => ?_⟩
  · rcases List.mem_or_eq_of_mem_set hy with hy | rfl
    · exact h.ca y hy
    · refine ⟨hcg.cd, by simp only [List.length_set]; exact hcg.vl, fun z hz => ?_⟩
      rcases List.mem_or_eq_of_mem_set hz with hz | rfl
      · exact hcg.vo z hz
      · exact hx
  · by_cases e2 : j = k
    · subst e2; rw [cset_at hc] at e; injection e with e; subst e; exact ⟨c, hc, rfl, rfl, rfl⟩
    · rw [cset_ne e2] at e; exact ⟨c', e, rfl, rfl, rfl⟩
theorem Gi.mkO {s : PRun} (h : Gi s) {n : Int} (hn : -1000 ≤ n ∧ n ≤ 1000) : Gi (s.mkO n) := by
  have hl : (s.mkO n).objs.length = s.objs.length + 1 := by simp [PRun.mkO]
  refine ⟨h.ok, fun x hx => ?_, fun c hc => by rw [hl]; exact (h.ca c hc).up (Nat.le_succ _), fun k t ht => ⟨(h.ta k t ht).pr, (h.ta k t ht).wt, (h.ta k t ht).s1, (h.ta k t ht).kl, (h.ta k t ht).sl, (h.ta k t ht).b0, (h.ta k t ht).st, (h.ta k t ht).w7⟩⟩
  rw [hl]
  simp only [PRun.mkO, List.mem_append, List.mem_singleton] at hx
  rcases hx with hx | rfl
  · have := h.ob x hx; omega
  · simp only; omega
theorem Gi.setO {s : PRun} (h : Gi s) {o : Nat} {x : Int × Int} (hx : -1000 ≤ x.1 ∧ x.1 ≤ 1000) (hy : x.2 < s.objs.length) : Gi (s.setO o x) := by
  have hl : (s.setO o x).objs.length = s.objs.length := by simp [PRun.setO]
  refine ⟨h.ok, fun y hy => ?_, fun c hc => by rw [hl]; exact h.ca c hc, fun k t ht => ⟨(h.ta k t ht).pr, (h.ta k t ht).wt, (h.ta k t ht).s1, (h.ta k t ht).kl, (h.ta k t ht).sl, (h.ta k t ht).b0, (h.ta k t ht).st, (h.ta k t ht).w7⟩⟩
  rw [hl]
  rcases List.mem_or_eq_of_mem_set hy with hy | rfl
  · exact h.ob y hy
  · exact ⟨hx.1, hx.2, by assumption⟩
theorem Gi.addC {s : PRun} (hi : Iv s) (h : Gi s) {c : PCall} (hc : CalG s.p s.objs.length c) : Gi (s.addC c) := by
  refine ⟨h.ok, h.ob, fun y hy => ?_, fun n t ht => (h.ta n t ht).up (sarr_lt hi ht) rfl (Nat.le_refl _) fun k c' hk e => ?_⟩
  · simp only [PRun.addC, List.mem_append, List.mem_singleton] at hy
    rcases hy with hy | rfl
    · exact h.ca y hy
    · exact hc
  · rw [addC_ne (by omega)] at e; exact ⟨c', e, rfl, rfl, rfl⟩
theorem Gi.addT {s : PRun} (hi : Iv s) (h : Gi s) {t : PTask} (hg : TasG (s.addT t) t) : Gi (s.addT t) := by
  refine ⟨h.ok, h.ob, h.ca, fun n u hu => ?_⟩
  rcases addT_of hu with ⟨e1, e2⟩ | ⟨e1, rfl⟩
  · exact (h.ta n u e2).up (sarr_lt hi e2) rfl (by simp [PRun.addT]) fun k c' hk e => ⟨c', e, rfl, rfl, rfl⟩
  · exact hg
theorem Gi.canL {s : PRun} (h : Gi s) (l : List Nat) : Gi (canL s l) := by
  refine h.same rfl rfl rfl canL_len fun n t' e => ?_
  obtain ⟨t, e1, rfl⟩ := canL_of e
  have := h.ta n t e1
  refine ⟨t, e1, ?_⟩
  split
  · exact ⟨rfl, rfl, rfl, rfl, rfl, .inl rfl, this.s1, fun g => (this.w7 g).1⟩
  · exact .refl this
theorem stop_gi {s : PRun} (h : Iv s) (hg : Gi s) {n : Nat} {t : PTask} (ht : s.tasks[n]? = some t) (hwt : t.waits < 0) (hb1 : s.pool.length + 40000 ≤ MM) (hb2 : s.behs.length + 40 ≤ MM) : Gi (stopF s n) := by
  have hw := h.wf
  have hn := (List.getElem?_eq_some_iff.1 ht).1
  have hkd := h.kd.kd n t ht
  have hn32 := hw.nT
  obtain ⟨f, hf⟩ : ∃ f, f = n + 1 := ⟨_, rfl⟩
  have hf32 : f ≤ 32 := by omega
  have hfp : s.pool.length + 1001 * f ≤ MM := by omega
  have hfb : s.behs.length + f ≤ MM := by omega
  have hnl : n ∉ t.kids.flatMap fun k => dsc s (s.tasks.length) k.toNat := by
    intro hm
    obtain ⟨k, h1, h2⟩ := List.mem_flatMap.1 hm
    obtain ⟨j, rfl, h3, h4⟩ := hkd k h1
    have := dsc_ge h.kd _ _ _ h2
    rw [Int.toNat_natCast] at this
    omega
  have htk : (canK s t.kids).tasks[n]? = some t := by unfold canK; rw [canL_at ht, if_neg hnl]
  have hIk : Iv (canK s t.kids) := h.can _
  obtain ⟨a1, a2, a3, a4⟩ := hIk.wf.tsk t (List.mem_of_getElem? htk)
  have hI2 : Iv ((canK s t.kids).tset n (clo t 4)) := hIk.tset htk rfl (Nat.le_refl _) (hIk.stk n t htk) rfl rfl a3 a4 (fun e => absurd e (by show ¬ (3 : Int) ≤ 2; omega)) (fun e => absurd e (by show ¬ 0 ≤ t.waits; omega)) (.inr (by show (3 : Int) ≤ 4; omega)) (fun e => by
    rcases e with e | e
    · have : (2 : Int) = 1 := e
      omega
    · have : 0 ≤ t.waits := e
      omega)
  have hE : stopF s n = settleF f ((canK s t.kids).tset n (clo t 4)) n := by unfold stopF; rw [ht, hf]
  rw [hE]
  have hgk : Gi (canK s t.kids) := hg.canL _
  refine settleF_gi f _ n hI2 (hgk.tset htk ⟨rfl, rfl, rfl, rfl, rfl, .inl rfl, fun e => ?_, fun e => ?_⟩) hfp hfb
  · have : (2 : Int) = 1 := e
    omega
  · have : 0 ≤ t.waits := e
    omega
end Go.Ab
set_option maxHeartbeats 4000000
namespace Go.Ab
open Go Go.Ab Go.Proofs Go.Ab.Ty

theorem CalG.new {p : Tk} {no k : Nat} {cd : Cd} {vs : List Int} {a : Int} (hk : (a = -1 ∧ p.codes[k]? = some cd) ∨ (0 ≤ a ∧ a < p.actors ∧ p.methods[k]? = some cd)) (hv0 : 0 ≤ cd.vars) (hl : vs.length ≤ cd.vars) (hvs : ∀ x ∈ vs, x < (no : Int)) : CalG p no (newC cd vs a) := by
  refine ⟨?_, ?_, fun x hx => ?_⟩
  · rcases hk with ⟨h1, h2⟩ | ⟨h1, h2, h3⟩
    · exact .inl ⟨h1, k, h2⟩
    · exact .inr ⟨h1, h2, k, h3⟩
  · simp only [newC, List.length_append, List.length_replicate]; omega
  · simp only [newC, List.mem_append, List.mem_replicate] at hx
    rcases hx with hx | ⟨_, rfl⟩
    · exact hvs x hx
    · omega
theorem startF_gi {s : PRun} (h : Iv s) (hg : Gi s) {k : Nat} {c : Cd} {vs a : List Int} {prio par : Int} {canc : Bool} (h0 : s.tasks.length < 32) (hC : s.calls.length < MM) (hP : s.pool.length + 40000 ≤ MM) (hB : s.behs.length + 40 ≤ MM) (ha : a.length = 32) (hv0 : 0 ≤ c.vars) (hv1 : c.vars ≤ 1000) (hvs : vs.length ≤ c.vars) (hcs : c.steps.length ≤ 1000)
    (hpar : par = -1 ∨ ∃ p : Nat, par = (p : Int) ∧ p < s.tasks.length) (hk : s.p.codes[k]? = some c) (hpr : 0 ≤ prio ∧ prio ≤ 3) (hvo : ∀ x ∈ vs, x < (s.objs.length : Int)) : Gi (startF s c vs a prio par canc) := by
  have hiv : ∀ t' : PTask, t'.sarr = [s.calls.length] → t'.slen = 1 → t'.kids = [] → t'.clk = s.pool.length → t'.beh = none → t'.state < 3 → (t'.ending = 0 ∨ 3 ≤ t'.ending) → t'.waits = -1 → t'.par = par → (t'.state = 1 → 0 < c.steps.length) → Iv (((s.addC (newC c vs (-1))).addP a).addT t') := fun t' b1 b2 b3 b4 b5 b6 b7 b8 b9 b10 =>
    startIv (prio := prio) (par := par) (canc := canc) h h0 hC (by omega) ha hv1 (by omega) hcs b1 b2 b3 b4 b5 b6 b7 b8 (by rw [b9]; exact hpar) b10
  have hI1 : Iv ((s.addC (newC c vs (-1))).addP a) := (h.addC hC (by simp only [newC, List.length_append, List.length_replicate]; omega) hcs ⟨Int.le_refl _, by show (0 : Int) ≤ _; omega⟩).addP (by show s.pool.length < _; omega) ha
  have hg1 : Gi ((s.addC (newC c vs (-1))).addP a) := (hg.addC h (.new (k := k) (.inl ⟨rfl, hk⟩) hv0 hvs hvo)).eqs rfl rfl rfl rfl
  have hgt : ∀ t' : PTask, t'.sarr = [s.calls.length] → t'.slen = 1 → t'.kids = [] → t'.prio = prio → t'.waits = -1 → (t'.state = 1 → t'.ending = 0) → Gi (((s.addC (newC c vs (-1))).addP a).addT t') := fun t' b1 b2 b3 b4 b5 b6 => by
    refine hg1.addT hI1 ⟨by rw [b4]; exact hpr, by rw [b5]; omega, fun e => ⟨b6 e, by rw [b5]; omega⟩, by rw [b3]; exact Nat.zero_le _, by rw [b1]; show 1 ≤ 7; omega, fun j c0 e1 e2 => ?_, fun i j c0 e0 e1 => by omega, fun e => by omega⟩
    rw [b1] at e1
    simp only [List.getElem?_cons_zero, Option.some.injEq] at e1
    subst e1
    have e2' : (s.addC (newC c vs (-1))).calls[s.calls.length]? = some c0 := e2
    rw [addC_at] at e2'; injection e2' with e2'; subst e2'
    exact ⟨rfl, fun i st g1 => by have : (i : Int) < 0 := g1; omega⟩
  have hl : ∀ t' : PTask, (((s.addC (newC c vs (-1))).addP a).addT t').tasks.length = s.tasks.length + 1 := fun t' => by simp [PRun.addT, PRun.addP, PRun.addC]
  have hp : ∀ t' : PTask, (((s.addC (newC c vs (-1))).addP a).addT t').pool.length = s.pool.length + 1 := fun t' => by simp [PRun.addT, PRun.addP, PRun.addC]
  have hb : ∀ t' : PTask, (((s.addC (newC c vs (-1))).addP a).addT t').behs.length = s.behs.length := fun t' => rfl
  unfold startF
  split
  · rename_i hc0
    obtain ⟨t, ht⟩ : ∃ t, t = newT s.calls.length prio canc par s.pool.length := ⟨_, rfl⟩
    have he : (startS s c vs a prio par canc).tset s.tasks.length (clo t 3) = ((s.addC (newC c vs (-1))).addP a).addT (clo t 3) := addT_tset (s := (s.addC (newC c vs (-1))).addP a)
    rw [← ht, he]
    have hI := hiv (clo t 3) (by rw [ht]; rfl) (by rw [ht]; rfl) (by rw [ht]; rfl) (by rw [ht]; rfl) (by rw [ht]; rfl) (by show (2 : Int) < 3; omega) (.inr (by show (3 : Int) ≤ 3; omega)) (by rw [ht]; rfl) (by rw [ht]; rfl) (fun e => by have : (2 : Int) = 1 := e; omega)
    have hG := hgt (clo t 3) (by rw [ht]; rfl) (by rw [ht]; rfl) (by rw [ht]; rfl) (by rw [ht]; rfl) (by rw [ht]; rfl) (fun e => by have : (2 : Int) = 1 := e; omega)
    obtain ⟨f, hf⟩ : ∃ f, f = s.tasks.length + 1 := ⟨_, rfl⟩
    rw [← hf]
    have hf32 : f ≤ 32 := by omega
    have hfp : s.pool.length + 1 + 1001 * f ≤ MM := by omega
    have hfb : s.behs.length + f ≤ MM := by omega
    exact settleF_gi f _ s.tasks.length hI hG (by rw [hp]; exact hfp) (by rw [hb]; exact hfb)
  · exact hgt _ rfl rfl rfl rfl rfl (fun _ => rfl)
theorem Gi.kid {s : PRun} (h : Gi s) {n k : Nat} {t : PTask} {sp : List (Int × Int)} (ht : s.tasks[n]? = some t) (hk : t.kids.length + 1 ≤ s.tasks.length) (hsp : ∀ (i : Nat) (kc : Nat), getM t.spn i = some (kc : Int) → kc < s.tasks.length → ∃ kc2 : Nat, getM sp i = some (kc2 : Int) ∧ kc2 < s.tasks.length) : Gi (s.tset n { t with kids := t.kids ++ [(k : Int)], spn := sp }) := by
  have htg := h.ta n t ht
  have hL : (s.tset n { t with kids := t.kids ++ [(k : Int)], spn := sp }).tasks.length = s.tasks.length := tset_len
  refine ⟨h.ok, h.ob, h.ca, fun i u hu => ?_⟩
  by_cases e : n = i
  · subst e
    rw [tset_at ht] at hu; injection hu with hu; subst hu
    refine ⟨htg.pr, by rw [hL]; exact htg.wt, htg.s1, by rw [hL]; simp; omega, htg.sl, fun j c e1 e2 => ?_, htg.st, htg.w7⟩
    obtain ⟨b1, b2⟩ := htg.b0 j c e1 e2
    refine ⟨b1, fun i st g1 g2 g3 => ?_⟩
    obtain ⟨kc, k1, k2⟩ := b2 i st g1 g2 g3
    rw [hL]; exact hsp i kc k1 k2
  · rw [tset_ne e] at hu
    have hug := h.ta i u hu
    exact ⟨hug.pr, by rw [hL]; exact hug.wt, hug.s1, by rw [hL]; exact hug.kl, hug.sl, fun j c e1 e2 => by rw [hL]; exact hug.b0 j c e1 e2, hug.st, hug.w7⟩
theorem Gi.psh {s : PRun} (h : Gi s) {n J k : Nat} {t : PTask} {cJ : PCall} (ht : s.tasks[n]? = some t) (hs0 : 0 < t.slen) (hsl : t.slen ≤ t.sarr.length) (hJ : s.calls[J]? = some cJ) (hac : 0 ≤ cJ.actor) (hk : s.p.methods[k]? = some cJ.code) (hd : k + t.slen ≤ 6) (hw : t.waits < 0) : Gi (s.tset n { t with sarr := pshF t.sarr t.slen J, slen := t.slen + 1 }) := by
  have htg := h.ta n t ht
  have hL : (s.tset n { t with sarr := pshF t.sarr t.slen J, slen := t.slen + 1 }).tasks.length = s.tasks.length := tset_len
  have hold : ∀ i, i < t.slen → (pshF t.sarr t.slen J)[i]? = t.sarr[i]? := fun i hi => by
    unfold pshF
    split
    · rw [List.getElem?_set_ne (by omega)]
    · rw [List.getElem?_append_left (by omega)]
  have hnew : (pshF t.sarr t.slen J)[t.slen]? = some J := by
    unfold pshF
    split
    · rename_i h1; rw [List.getElem?_set_self h1]
    · rename_i h1; rw [List.getElem?_append_right (by omega), show t.slen - t.sarr.length = 0 by omega]; rfl
  refine ⟨h.ok, h.ob, h.ca, fun i u hu => ?_⟩
  by_cases e : n = i
  · subst e
    rw [tset_at ht] at hu; injection hu with hu; subst hu
    refine ⟨htg.pr, by rw [hL]; exact htg.wt, htg.s1, by rw [hL]; exact htg.kl, ?_, fun j c e1 e2 => ?_, fun i j c e0 e1 e2 e3 => ?_, fun g => absurd g (by show ¬ 0 ≤ t.waits; omega)⟩
    · show (pshF t.sarr t.slen J).length ≤ 7
      rw [pshF_len hsl]
      have := htg.sl
      split <;> omega
    · have e1' : (pshF t.sarr t.slen J)[0]? = some j := e1
      rw [hold 0 hs0] at e1'
      rw [hL]; exact htg.b0 j c e1' e2
    · have e1' : i < t.slen + 1 := e1
      have e2' : (pshF t.sarr t.slen J)[i]? = some j := e2
      have e3' : s.calls[j]? = some c := e3
      by_cases ei : i = t.slen
      · subst ei
        rw [hnew] at e2'; injection e2' with e2'; subst e2'
        rw [hJ] at e3'; injection e3' with e3'; subst e3'
        exact ⟨hac, k, hk, hd⟩
      · rw [hold i (by omega)] at e2'
        exact htg.st i j c e0 (by omega) e2' e3'
  · rw [tset_ne e] at hu
    have hug := h.ta i u hu
    exact ⟨hug.pr, by rw [hL]; exact hug.wt, hug.s1, by rw [hL]; exact hug.kl, hug.sl, fun j c e1 e2 => by rw [hL]; exact hug.b0 j c e1 e2, hug.st, hug.w7⟩
theorem Gi.wait {s : PRun} (h : Gi s) {n kc : Nat} {t : PTask} (ht : s.tasks[n]? = some t) (hk : kc < s.tasks.length) (hen : t.ending = 0) (h7 : ∀ (j : Nat) (c : PCall) (st : Stp), t.sarr[t.slen - 1]? = some j → s.calls[j]? = some c → c.code.steps[c.pc.toNat]? = some st → st.op = 7) : Gi (s.tset n { t with waits := (kc : Int), state := 2 }) := by
  have htg := h.ta n t ht
  have hL : (s.tset n { t with waits := (kc : Int), state := 2 }).tasks.length = s.tasks.length := tset_len
  refine ⟨h.ok, h.ob, h.ca, fun i u hu => ?_⟩
  by_cases e : n = i
  · subst e
    rw [tset_at ht] at hu; injection hu with hu; subst hu
    refine ⟨htg.pr, by rw [hL]; show (kc : Int) < _; omega, fun e => by have : (2 : Int) = 1 := e; omega, by rw [hL]; exact htg.kl, htg.sl, fun j c e1 e2 => by rw [hL]; exact htg.b0 j c e1 e2, htg.st, fun _ => ⟨hen, h7⟩⟩
  · rw [tset_ne e] at hu
    have hug := h.ta i u hu
    exact ⟨hug.pr, by rw [hL]; exact hug.wt, hug.s1, by rw [hL]; exact hug.kl, hug.sl, fun j c e1 e2 => by rw [hL]; exact hug.b0 j c e1 e2, hug.st, hug.w7⟩
end Go.Ab
set_option maxHeartbeats 4000000
namespace Go.Ab
open Go Go.Ab Go.Proofs Go.Ab.Ty

structure Fx (s s' : PRun) : Prop where
  p : s'.p = s.p
  sched : s'.sched = s.sched
  used : s'.used = s.used
  objs : s'.objs = s.objs
  lines : s'.lines = s.lines
  accs : s'.accs = s.accs
  turns : s'.turns = s.turns
  cks : s'.cks = s.cks
  acts : s'.acts = s.acts
theorem Fx.refl (s : PRun) : Fx s s := ⟨rfl, rfl, rfl, rfl, rfl, rfl, rfl, rfl, rfl⟩
theorem Fx.trans {s s1 s2 : PRun} (h : Fx s s1) (g : Fx s1 s2) : Fx s s2 := ⟨g.p.trans h.p, g.sched.trans h.sched, g.used.trans h.used, g.objs.trans h.objs, g.lines.trans h.lines, g.accs.trans h.accs, g.turns.trans h.turns, g.cks.trans h.cks, g.acts.trans h.acts⟩
theorem kidsJ_fx : ∀ (ks : List Int) (s : PRun) (e : Nat), Fx s (kidsJ s e ks).1 := by
  intro ks
  induction ks with
  | nil => intro s e; exact .refl s
  | cons k ks ih =>
    intro s e
    simp only [kidsJ]
    split
    · split
      · exact Fx.trans (s1 := s.addP _) ⟨rfl, rfl, rfl, rfl, rfl, rfl, rfl, rfl, rfl⟩ (ih _ _)
      · exact .refl s
    · exact .refl s
theorem goOnF_fx {S : PRun → Nat → PRun} (hS : ∀ s n, Fx s (S s n)) (s : PRun) (n j : Nat) : Fx s (goOnF S s n j) := by
  unfold goOnF
  cases ht : s.tasks[n]? with
  | none => exact .refl s
  | some t =>
    cases hc : s.calls[j]? with
    | none => exact .refl s
    | some c =>
      simp only
      split
      · exact Fx.trans (s1 := (s.cset j { c with pc := c.pc + 1 }).tset n (clo { t with slen := 1 } 3)) ⟨rfl, rfl, rfl, rfl, rfl, rfl, rfl, rfl, rfl⟩ (hS _ _)
      · exact ⟨rfl, rfl, rfl, rfl, rfl, rfl, rfl, rfl, rfl⟩
theorem wakeP_fx (s : PRun) (p : Nat) (tp : PTask) (e : Nat) : Fx s (wakeP s p tp e) := by
  unfold wakeP
  split
  · split
    · exact ⟨rfl, rfl, rfl, rfl, rfl, rfl, rfl, rfl, rfl⟩
    · exact ⟨rfl, rfl, rfl, rfl, rfl, rfl, rfl, rfl, rfl⟩
  · exact ⟨rfl, rfl, rfl, rfl, rfl, rfl, rfl, rfl, rfl⟩
theorem settleF_fx : ∀ (f : Nat) (s : PRun) (n : Nat), Fx s (settleF f s n) := by
  intro f
  induction f with
  | zero => intro s n; exact .refl s
  | succ f ih =>
    intro s n
    simp only [settleF]
    split
    · exact .refl s
    · rename_i t ht
      split
      · exact .refl s
      · have hk := kidsJ_fx t.kids s t.clk
        split
        · rename_i s1 e he
          rw [he] at hk; exact hk
        · rename_i s1 e he
          rw [he] at hk
          have h2 : Fx s ((s1.enS n e).tset n { t with state := t.ending }) := hk.trans ⟨rfl, rfl, rfl, rfl, rfl, rfl, rfl, rfl, rfl⟩
          split
          · exact h2
          · split
            · exact hk
            · rename_i tp htp
              split
              · exact (h2.trans (wakeP_fx _ _ tp e)).trans (goOnF_fx ih _ _ _)
              · exact h2.trans (ih _ _)
theorem stopF_fx (s : PRun) (n : Nat) : Fx s (stopF s n) := by
  unfold stopF
  split
  · rename_i t _
    exact Fx.trans (s1 := (canK s t.kids).tset n (clo t 4)) ⟨rfl, rfl, rfl, rfl, rfl, rfl, rfl, rfl, rfl⟩ (settleF_fx _ _ _)
  · exact .refl s
theorem startF_fx (s : PRun) (c : Cd) (vs a : List Int) (prio par : Int) (canc : Bool) : Fx s (startF s c vs a prio par canc) := by
  have h1 : Fx s (startS s c vs a prio par canc) := ⟨rfl, rfl, rfl, rfl, rfl, rfl, rfl, rfl, rfl⟩
  unfold startF
  split
  · exact (h1.trans (s2 := (startS s c vs a prio par canc).tset s.tasks.length (clo (newT s.calls.length prio canc par s.pool.length) 3)) ⟨rfl, rfl, rfl, rfl, rfl, rfl, rfl, rfl, rfl⟩).trans (settleF_fx _ _ _)
  · exact h1
structure SgR (s : PRun) (n : Nat) (c : PCall) (st : Stp) (r : Bool × PRun) : Prop where
  gi : Gi r.2
  p : r.2.p = s.p
  sched : r.2.sched = s.sched
  used : r.2.used = s.used
  turns : r.2.turns = s.turns
  cks : r.2.cks = s.cks
  acts : r.2.acts = s.acts
  ac : r.2.accs.length ≤ s.accs.length + 2
  ln : r.2.lines.length ≤ s.lines.length + 1
  ob : r.2.objs.length ≤ 200
  oo : s.objs.length ≤ r.2.objs.length
  pl : st.op ≠ 6 → r.1 = true → r.2.pool.length = s.pool.length ∧ r.2.behs.length = s.behs.length
  tl : r.2.tasks.length = if st.op = 6 then s.tasks.length + 1 else s.tasks.length
  nn : r.1 = true → st.op = 6 → ∀ t8, r.2.tasks[n]? = some t8 → t8.slen = 1 → ∃ kc : Nat, getM t8.spn c.pc = some (kc : Int) ∧ kc < r.2.tasks.length
theorem SgR.eqs {s : PRun} {n : Nat} {c : PCall} {st : Stp} {s' : PRun} {b : Bool} (hg : Gi s') (ho : st.op ≠ 6) (p : s'.p = s.p) (sched : s'.sched = s.sched) (used : s'.used = s.used) (turns : s'.turns = s.turns) (cks : s'.cks = s.cks) (acts : s'.acts = s.acts)
    (ac : s'.accs.length ≤ s.accs.length + 2) (ln : s'.lines.length ≤ s.lines.length + 1) (ob : s'.objs.length ≤ 200) (oo : s.objs.length ≤ s'.objs.length) (pl : b = true → s'.pool.length = s.pool.length ∧ s'.behs.length = s.behs.length) (tl : s'.tasks.length = s.tasks.length) : SgR s n c st (b, s') :=
  ⟨hg, p, sched, used, turns, cks, acts, ac, ln, ob, oo, fun _ => pl, by rw [if_neg ho]; exact tl, fun _ e => absurd e ho⟩
end Go.Ab
