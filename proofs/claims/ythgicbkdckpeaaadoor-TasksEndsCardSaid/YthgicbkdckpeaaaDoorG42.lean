/- Part of the proof. -/
import Derived.Test.YthgicbkdckpeaaaDoorG40
set_option linter.unusedSimpArgs false
set_option linter.unusedVariables false
set_option maxHeartbeats 4000000
namespace Go.Ab
open Go Go.Ab Go.Proofs Go.Ab.Ty

def F0 : Nat → Prop := fun _ => False
def AcS (s s' : PRun) : Prop := ∀ (j : Nat) (c : PCall), s.calls[j]? = some c → ∃ c' : PCall, s'.calls[j]? = some c' ∧ c'.actor = c.actor
def StI (s : PRun) (pe pw : Prop) (t : PTask) : Prop :=
  (t.state = 1 ∧ t.ending = 0 ∧ t.waits < 0) ∨
  (t.state = 2 ∧ t.ending = 0 ∧ t.has < 0 ∧ ∃ c : Nat, ∃ u, t.waits = (c : Int) ∧ (c : Int) ∈ t.kids ∧ s.tasks[c]? = some u ∧ (pw ∨ u.state < 3)) ∨
  (t.state = 2 ∧ (t.ending = 3 ∨ t.ending = 4) ∧ t.waits < 0 ∧ t.has < 0 ∧ (pe ∨ ∃ c : Nat, ∃ u, (c : Int) ∈ t.kids ∧ s.tasks[c]? = some u ∧ u.state < 3)) ∨
  ((t.state = 3 ∨ t.state = 4) ∧ t.ending = t.state ∧ t.waits < 0 ∧ t.has < 0)
structure TI (s : PRun) (x y : Nat → Prop) : Prop where
  up : ∀ (k : Nat) (t : PTask), s.tasks[k]? = some t → (k = 0 ∧ t.par = -1) ∨ ∃ p : Nat, ∃ u, t.par = (p : Int) ∧ p < k ∧ s.tasks[p]? = some u ∧ (k : Int) ∈ u.kids
  kd : ∀ (p : Nat) (u : PTask) (z : Int), s.tasks[p]? = some u → z ∈ u.kids → ∃ c : Nat, ∃ t, z = (c : Int) ∧ p < c ∧ s.tasks[c]? = some t ∧ t.par = (p : Int) ∧ (3 ≤ u.state → 3 ≤ t.state) ∧ (u.canc = true → t.canc = true)
  sp : ∀ (k : Nat) (t : PTask) (i z : Int), s.tasks[k]? = some t → getM t.spn i = some z → z ∈ t.kids
  en : ∀ (k : Nat) (t : PTask), s.tasks[k]? = some t → ∃ o, s.ends[k]? = some o ∧ (3 ≤ t.state → ∃ j, o = some j)
  st : ∀ (k : Nat) (t : PTask), s.tasks[k]? = some t → StI s (x k) (y k) t
  hs : ∀ (k : Nat) (t : PTask), s.tasks[k]? = some t → 0 ≤ t.has → ∃ j c, t.sarr[t.slen - 1]? = some j ∧ s.calls[j]? = some c ∧ c.actor = t.has
  hu : ∀ (k : Nat) (t : PTask) (k' : Nat) (t' : PTask), s.tasks[k]? = some t → s.tasks[k']? = some t' → 0 ≤ t.has → t.has = t'.has → k = k'
theorem StI.mono {s s' : PRun} {pe pw pe' pw' : Prop} {t : PTask} (h : StI s pe pw t) (h1 : ∀ (c : Nat) u, (c : Int) ∈ t.kids → s.tasks[c]? = some u → ∃ u', s'.tasks[c]? = some u' ∧ (u.state < 3 → u'.state < 3)) (h2 : pe → pe') (h3 : pw → pw') : StI s' pe' pw' t := by
  rcases h with h | ⟨a1, a2, a3, c, u, a4, a5, a6, a7⟩ | ⟨a1, a2, a3, a4, a5⟩ | h
  · exact .inl h
  · obtain ⟨u', b1, b2⟩ := h1 c u a5 a6
    exact .inr (.inl ⟨a1, a2, a3, c, u', a4, a5, b1, a7.imp h3 b2⟩)
  · refine .inr (.inr (.inl ⟨a1, a2, a3, a4, a5.imp h2 ?_⟩))
    rintro ⟨c, u, b1, b2, b3⟩
    obtain ⟨u', d1, d2⟩ := h1 c u b1 b2
    exact ⟨c, u', b1, d1, d2 b3⟩
  · exact .inr (.inr (.inr h))
theorem tset_get {s : PRun} {n : Nat} {t t' : PTask} (ht : s.tasks[n]? = some t) (i : Nat) : (s.tset n t').tasks[i]? = if i = n then some t' else s.tasks[i]? := by
  split
  · rename_i e; subst e; exact tset_at ht
  · rename_i e; exact tset_ne fun g => e g.symm
theorem TI.set {s s' : PRun} {x y x' y' : Nat → Prop} (h : TI s x y) {n : Nat} {t t' : PTask} (ht : s.tasks[n]? = some t)
    (hs' : ∀ i, s'.tasks[i]? = if i = n then some t' else s.tasks[i]?) (he : ∀ i : Nat, i ≠ n → s'.ends[i]? = s.ends[i]?) (hen : ∃ o, s'.ends[n]? = some o ∧ (3 ≤ t'.state → ∃ j, o = some j))
    (hc : AcS s s')
    (hp : t'.par = t.par) (hk : t'.kids = t.kids) (hsp : t'.spn = t.spn) (hcn : t'.canc = t.canc)
    (hov : 3 ≤ t'.state → ∀ (c : Nat) u, (c : Int) ∈ t.kids → s.tasks[c]? = some u → 3 ≤ u.state) (hov2 : 3 ≤ t.state → 3 ≤ t'.state)
    (hst : StI s' (x' n) (y' n) t') (hot : ∀ (i : Nat) (u : PTask), i ≠ n → s.tasks[i]? = some u → StI s (x i) (y i) u → StI s' (x' i) (y' i) u)
    (hhs : 0 ≤ t'.has → (∃ j c, t'.sarr[t'.slen - 1]? = some j ∧ s'.calls[j]? = some c ∧ c.actor = t'.has) ∧ ∀ (i : Nat) (u : PTask), i ≠ n → s.tasks[i]? = some u → u.has ≠ t'.has) : TI s' x' y' := by
  have hn : s'.tasks[n]? = some t' := by rw [hs', if_pos rfl]
  have ho : ∀ i, i ≠ n → s'.tasks[i]? = s.tasks[i]? := fun i e => by rw [hs', if_neg e]
  have cas : ∀ i u, s'.tasks[i]? = some u → (i = n ∧ u = t') ∨ (i ≠ n ∧ s.tasks[i]? = some u) := fun i u e => by
    by_cases g : i = n
    · subst g; rw [hn] at e; injection e with e; exact .inl ⟨rfl, e.symm⟩
    · rw [ho i g] at e; exact .inr ⟨g, e⟩
  refine ⟨fun k u e => ?_, fun p u z e hz => ?_, fun k u i z e g => ?_, fun k u e => ?_, fun k u e => ?_, fun k u e g => ?_, fun k u k' u' e e' g g' => ?_⟩
  · have key : ∀ w, w.par = u.par → s.tasks[k]? = some w → (k = 0 ∧ u.par = -1) ∨ ∃ p : Nat, ∃ v, u.par = (p : Int) ∧ p < k ∧ s'.tasks[p]? = some v ∧ (k : Int) ∈ v.kids := fun w hw e1 => by
      rcases h.up k w e1 with h1 | ⟨p, v, h1, h2, h3, h4⟩
      · exact .inl ⟨h1.1, by rw [← hw]; exact h1.2⟩
      · by_cases g : p = n
        · subst g
          rw [ht] at h3; injection h3 with h3; subst h3
          exact .inr ⟨p, t', by rw [← hw]; exact h1, h2, hn, by rw [hk]; exact h4⟩
        · exact .inr ⟨p, v, by rw [← hw]; exact h1, h2, by rw [ho p g]; exact h3, h4⟩
    rcases cas k u e with ⟨rfl, rfl⟩ | ⟨g, e1⟩
    · exact key t hp.symm ht
    · exact key u rfl e1
  · have key : ∀ w, s.tasks[p]? = some w → z ∈ w.kids → (3 ≤ u.state → ∀ (c : Nat) v, (c : Int) = z → s.tasks[c]? = some v → 3 ≤ v.state) → (u.canc = w.canc) → ∃ c : Nat, ∃ v, z = (c : Int) ∧ p < c ∧ s'.tasks[c]? = some v ∧ v.par = (p : Int) ∧ (3 ≤ u.state → 3 ≤ v.state) ∧ (u.canc = true → v.canc = true) := fun w e1 h1 h2 h3 => by
      obtain ⟨c, v, b1, b2, b3, b4, b5, b6⟩ := h.kd p w z e1 h1
      by_cases g : c = n
      · subst g
        rw [ht] at b3; injection b3 with b3; subst b3
        exact ⟨c, t', b1, b2, hn, by rw [hp]; exact b4, fun q => hov2 (h2 q c t b1.symm ht), fun q => by rw [hcn]; exact b6 (by rw [← h3]; exact q)⟩
      · exact ⟨c, v, b1, b2, by rw [ho c g]; exact b3, b4, fun q => h2 q c v b1.symm b3, fun q => b6 (by rw [← h3]; exact q)⟩
    rcases cas p u e with ⟨rfl, rfl⟩ | ⟨g, e1⟩
    · rw [hk] at hz
      exact key t ht hz (fun q c v q1 q2 => hov q c v (by rw [q1]; exact hz) q2) hcn
    · exact key u e1 hz (fun q c v q1 q2 => by
        obtain ⟨c', v', b1, b2, b3, b4, b5, b6⟩ := h.kd p u z e1 hz
        have : c' = c := by omega
        subst this
        rw [b3] at q2; injection q2 with q2; subst q2
        exact b5 q) rfl
  · rcases cas k u e with ⟨rfl, rfl⟩ | ⟨_, e1⟩
    · rw [hk]; exact h.sp k t i z ht (by rw [← hsp]; exact g)
    · exact h.sp k u i z e1 g
  · rcases cas k u e with ⟨rfl, rfl⟩ | ⟨g, e1⟩
    · exact hen
    · rw [he k g]; exact h.en k u e1
  · rcases cas k u e with ⟨rfl, rfl⟩ | ⟨g, e1⟩
    · exact hst
    · exact hot k u g e1 (h.st k u e1)
  · rcases cas k u e with ⟨rfl, rfl⟩ | ⟨g1, e1⟩
    · exact (hhs g).1
    · obtain ⟨j, c, a1, a2, a3⟩ := h.hs k u e1 g
      obtain ⟨c', b1, b2⟩ := hc j c a2
      exact ⟨j, c', a1, b1, by rw [b2]; exact a3⟩
  · rcases cas k u e with ⟨rfl, rfl⟩ | ⟨g1, e1⟩
    · rcases cas k' u' e' with ⟨rfl, rfl⟩ | ⟨g2, e2⟩
      · rfl
      · exact absurd g'.symm ((hhs g).2 k' u' g2 e2)
    · rcases cas k' u' e' with ⟨rfl, rfl⟩ | ⟨g2, e2⟩
      · exact absurd g' ((hhs (by rw [← g']; exact g)).2 k u g1 e1)
      · exact h.hu k u k' u' e1 e2 g g'
theorem TI.same {s s' : PRun} {x y : Nat → Prop} (h : TI s x y) (h1 : s'.tasks = s.tasks) (h2 : s'.ends = s.ends) (hc : AcS s s') : TI s' x y :=
  ⟨by rw [h1]; exact h.up, by rw [h1]; exact h.kd, by rw [h1]; exact h.sp, by rw [h1, h2]; exact h.en, fun k t e => by
    rw [h1] at e
    exact (h.st k t e).mono (fun c u _ e2 => ⟨u, by rw [h1]; exact e2, id⟩) id id, fun k t e g => by
    rw [h1] at e
    obtain ⟨j, c, a1, a2, a3⟩ := h.hs k t e g
    obtain ⟨c', b1, b2⟩ := hc j c a2
    exact ⟨j, c', a1, b1, by rw [b2]; exact a3⟩, by rw [h1]; exact h.hu⟩
theorem actor_id {s : PRun} : AcS s s := fun j c h => ⟨c, h, rfl⟩
theorem actor_eq {s s' : PRun} (e : s'.calls = s.calls) : AcS s s' := fun j c h => ⟨c, by rw [e]; exact h, rfl⟩
theorem actor_cset {s : PRun} {j : Nat} {c c1 : PCall} (hc : s.calls[j]? = some c) (ha : c1.actor = c.actor) : AcS s (s.cset j c1) := fun i d h => by
  by_cases e : j = i
  · subst e; rw [hc] at h; injection h with h; subst h; exact ⟨c1, cset_at hc, ha⟩
  · exact ⟨d, by rw [cset_ne e]; exact h, rfl⟩
theorem kidsJ_ti {x y : Nat → Prop} : ∀ (ks : List Int) (s : PRun) (e : Nat), (∀ z ∈ ks, ∃ c : Nat, ∃ t, z = (c : Int) ∧ s.tasks[c]? = some t ∧ ∃ o, s.ends[c]? = some o ∧ (3 ≤ t.state → ∃ j, o = some j)) →
    (kidsJ s e ks).1.tasks = s.tasks ∧ (kidsJ s e ks).1.ends = s.ends ∧ (kidsJ s e ks).1.calls = s.calls ∧
    ((kidsJ s e ks).2.2 = true → ∀ (c : Nat) u, (c : Int) ∈ ks → s.tasks[c]? = some u → 3 ≤ u.state) ∧ ((kidsJ s e ks).2.2 = false → ∃ c : Nat, ∃ u, (c : Int) ∈ ks ∧ s.tasks[c]? = some u ∧ u.state < 3) := by
  intro ks
  induction ks with
  | nil => intro s e _; exact ⟨rfl, rfl, rfl, (fun _ c u h => by cases h), (fun h => by cases h)⟩
  | cons k ks ih =>
    intro s e hk
    obtain ⟨c, t, rfl, h1, o, h2, h3⟩ := hk k (by simp)
    simp only [kidsJ, Int.toNat_natCast, h1, h2]
    by_cases h4 : 3 ≤ t.state
    · obtain ⟨j, rfl⟩ := h3 h4
      simp only
      rw [if_pos h4]
      obtain ⟨a1, a2, a3, a4, a5⟩ := ih (s.addP (joinL (s.pool.getD e []) (s.pool.getD j []))) s.pool.length (fun z hz => hk z (by simp [hz]))
      refine ⟨a1, a2, a3, fun h c' u hc hu => ?_, fun h => ?_⟩
      · rcases List.mem_cons.1 hc with hc | hc
        · have : c' = c := by omega
          subst this
          rw [h1] at hu; injection hu with hu; subst hu; exact h4
        · exact a4 h c' u hc hu
      · obtain ⟨c', u, b1, b2, b3⟩ := a5 h
        exact ⟨c', u, by simp [b1], b2, b3⟩
    · have key : ∀ o, (match o with | some x => if 3 ≤ t.state then kidsJ (s.addP (joinL (s.pool.getD e []) (s.pool.getD x []))) s.pool.length ks else (s, e, false) | none => (s, e, false) : PRun × Nat × Bool) = (s, e, false) := fun o => by
        cases o with
        | none => rfl
        | some x => simp only; rw [if_neg h4]
      have e1 : kidsJ s e ((c : Int) :: ks) = (s, e, false) := by
        simp only [kidsJ, Int.toNat_natCast, h1, h2]
        cases o with
        | none => rfl
        | some x => simp only; rw [if_neg h4]
      simp only [kidsJ, Int.toNat_natCast, h1, h2] at e1
      rw [e1]
      exact ⟨rfl, rfl, rfl, (fun h => by cases h), fun _ => ⟨c, t, by simp, h1, by omega⟩⟩
theorem wakeP_get {s : PRun} {p e : Nat} {tp : PTask} (ht : s.tasks[p]? = some tp) : (∃ b k, ∀ i, (wakeP s p tp e).tasks[i]? = if i = p then some { tp with waits := -1, state := 1, beh := b, clk := k } else s.tasks[i]?) ∧ (wakeP s p tp e).calls = s.calls ∧ (wakeP s p tp e).ends = s.ends := by
  have h1 : ∀ i, (wakeT s p tp e).tasks[i]? = if i = p then some { tp with waits := -1, state := 1, beh := some s.behs.length } else s.tasks[i]? := fun i => tset_get (s := s.addB [e]) ht i
  have h2 : (wakeT s p tp e).tasks[p]? = some { tp with waits := -1, state := 1, beh := some s.behs.length } := by rw [h1, if_pos rfl]
  unfold wakeP
  split
  · split
    · refine ⟨⟨some s.behs.length, s.pool.length, fun i => ?_⟩, rfl, rfl⟩
      rw [tset_get (s := (wakeT s p tp e).addP _) h2 i]
      split
      · rfl
      · rename_i g
        show (wakeT s p tp e).tasks[i]? = _
        rw [h1, if_neg g]
    · exact ⟨⟨_, _, h1⟩, rfl, rfl⟩
  · exact ⟨⟨_, _, h1⟩, rfl, rfl⟩
theorem goOnF_ti {f : Nat} (hS : ∀ (s : PRun) (n : Nat), n < f → TI s (· = n) F0 → TI (settleF f s n) F0 F0) {s : PRun} {n j : Nat} (hn : n < f) (h : TI s F0 F0) {t : PTask} (ht : s.tasks[n]? = some t) (h1 : t.state = 1) (h0 : t.ending = 0) (hw : t.waits < 0)
    (hh : 0 ≤ t.has → t.sarr[t.slen - 1]? = some j ∧ ∀ c, s.calls[j]? = some c → c.pc + 1 < c.code.steps.length) : TI (goOnF (settleF f) s n j) F0 F0 := by
  unfold goOnF
  rw [ht]
  cases hc : s.calls[j]? with
  | none => exact h
  | some c =>
    simp only
    have hot : ∀ (t' : PTask) (x : Nat → Prop), t'.state < 3 → ∀ (i : Nat) (u : PTask), i ≠ n → s.tasks[i]? = some u → StI s (F0 i) (F0 i) u → StI ((s.cset j { c with pc := c.pc + 1 }).tset n t') (x i) (F0 i) u := fun t' x h3 i u hi hu hst => hst.mono (fun d v _ hv => by
      rw [tset_get (s := s.cset j { c with pc := c.pc + 1 }) ht]
      by_cases e : d = n
      · rw [if_pos e]; exact ⟨t', rfl, fun _ => h3⟩
      · rw [if_neg e]; exact ⟨v, hv, id⟩) (fun g => g.elim) id
    have hc' := actor_cset (s := s) (c1 := { c with pc := c.pc + 1 }) hc rfl
    cases hpop : popS (s.cset j { c with pc := c.pc + 1 }).calls t.sarr (t.slen - 1) j with
    | none =>
      refine hS _ n hn (h.set ht (fun i => tset_get (s := s.cset j _) ht i) (fun _ _ => rfl) ?_ hc' rfl rfl rfl rfl ?_ ?_ ?_ (hot _ _ (by show (2 : Int) < 3; omega)) ?_)
      · obtain ⟨o, a1, _⟩ := h.en n t ht
        exact ⟨o, a1, fun g => absurd g (by show ¬ (3 : Int) ≤ 2; omega)⟩
      · exact fun g => absurd g (by show ¬ (3 : Int) ≤ 2; omega)
      · intro g; omega
      · exact .inr (.inr (.inl ⟨rfl, .inl rfl, hw, by show (-1 : Int) < 0; omega, .inl rfl⟩))
      · exact fun g => absurd g (by show ¬ (0 : Int) ≤ -1; omega)
    | some m =>
      refine h.set ht (fun i => tset_get (s := s.cset j _) ht i) (fun _ _ => rfl) ?_ hc' rfl rfl rfl rfl ?_ id ?_ (hot _ _ (by show t.state < 3; omega)) ?_
      · obtain ⟨o, a1, a2⟩ := h.en n t ht
        exact ⟨o, a1, a2⟩
      · intro g
        have : 3 ≤ t.state := g
        omega
      · exact .inl ⟨h1, h0, hw⟩
      · intro g
        have g : 0 ≤ t.has := g
        obtain ⟨b1, b2⟩ := hh g
        obtain ⟨j', c', a1, a2, a3⟩ := h.hs n t ht g
        rw [b1] at a1; injection a1 with a1; subst a1
        rw [hc] at a2; injection a2 with a2; subst a2
        have hm : m = t.slen - 1 := by
          rw [popS_stay (c := { c with pc := c.pc + 1 }) (cset_at hc) (b2 c hc)] at hpop
          injection hpop with hpop; exact hpop.symm
        subst hm
        refine ⟨⟨j, { c with pc := c.pc + 1 }, b1, cset_at hc, a3⟩, fun i u hi hu e => ?_⟩
        exact hi (h.hu i u n t hu ht (by rw [e]; exact g) e)
theorem settleF_ti : ∀ (f : Nat) (s : PRun) (n : Nat), n < f → TI s (· = n) F0 → TI (settleF f s n) F0 F0 := by
  intro f
  induction f with
  | zero => intro s n h; omega
  | succ f ih =>
    intro s n hn h
    have none_ok : (∀ t, s.tasks[n]? = some t → StI s False False t) → TI s F0 F0 := fun g => ⟨h.up, h.kd, h.sp, h.en, fun k t e => by
      by_cases ek : k = n
      · subst ek; exact g t e
      · exact (h.st k t e).mono (fun c u _ hu => ⟨u, hu, id⟩) (fun q => ek q) id, h.hs, h.hu⟩
    simp only [settleF]
    split
    · rename_i hN
      exact none_ok fun t e => by rw [hN] at e; cases e
    · rename_i t ht
      have hst := h.st n t ht
      split
      · rename_i hcl
        refine none_ok fun u e => ?_
        rw [ht] at e; injection e with e; subst e
        rcases hst with a | a | ⟨a1, a2, _⟩ | a
        · exact .inl a
        · exact .inr (.inl a)
        · exfalso
          rcases hcl with g | g <;> omega
        · exact .inr (.inr (.inr a))
      · rename_i hcl
        have hcl1 : t.ending ≠ 0 := fun g => hcl (.inl g)
        have hcl2 : t.state < 3 := by have : ¬ 3 ≤ t.state := fun g => hcl (.inr g); omega
        have hst2 : t.state = 2 ∧ (t.ending = 3 ∨ t.ending = 4) ∧ t.waits < 0 ∧ t.has < 0 := by
          rcases hst with ⟨_, a, _⟩ | ⟨_, a, _⟩ | ⟨a1, a2, a3, a4, _⟩ | ⟨a, _⟩
          · exact absurd a hcl1
          · exact absurd a hcl1
          · exact ⟨a1, a2, a3, a4⟩
          · omega
        obtain ⟨q1, q2, q3, q4⟩ := hst2
        obtain ⟨k1, k2, k3, k4, k5⟩ := kidsJ_ti (x := F0) (y := F0) t.kids s t.clk (fun z hz => by
          obtain ⟨c, u, a1, a2, a3, _⟩ := h.kd n t z ht hz
          exact ⟨c, u, a1, a3, h.en c u a3⟩)
        split
        · rename_i s1 e hk
          rw [hk] at k1 k2 k3 k5
          simp only at k1 k2 k3 k5
          refine TI.same (s := s) (none_ok fun u e => ?_) k1 k2 (actor_eq k3)
          rw [ht] at e; injection e with e; subst e
          exact .inr (.inr (.inl ⟨q1, q2, q3, q4, .inr (k5 trivial)⟩))
        · rename_i s1 e hk
          rw [hk] at k1 k2 k3 k4
          simp only at k1 k2 k3 k4
          have h1 : TI s1 (· = n) F0 := h.same k1 k2 (actor_eq k3)
          have ht1 : s1.tasks[n]? = some t := by rw [k1]; exact ht
          -- the task is over
          have hset : ∀ (x' y' : Nat → Prop), (∀ (i : Nat) (u : PTask), i ≠ n → s1.tasks[i]? = some u → (n : Int) ∈ u.kids → x' i ∧ (u.waits = (n : Int) → y' i)) → TI ((s1.enS n e).tset n { t with state := t.ending }) x' y' := fun x' y' hx => by
            refine h1.set ht1 (fun i => tset_get (s := s1.enS n e) ht1 i) (fun i hi => ?_) ?_ actor_id rfl rfl rfl rfl (fun _ c u hc hu => k4 trivial c u hc (by rw [← k1]; exact hu)) (fun g => by omega) (.inr (.inr (.inr ⟨q2, rfl, q3, q4⟩))) (fun i u hi hu hsti => ?_) (fun g => absurd g (by show ¬ 0 ≤ t.has; omega))
            · show (s1.ends.set n (some e))[i]? = _
              rw [List.getElem?_set_ne (fun g => hi g.symm)]
            · obtain ⟨o, a1, _⟩ := h1.en n t ht1
              refine ⟨some e, ?_, fun _ => ⟨e, rfl⟩⟩
              show (s1.ends.set n (some e))[n]? = _
              rw [List.getElem?_set_self (List.getElem?_eq_some_iff.1 a1).1]
            · by_cases hm : (n : Int) ∈ u.kids
              · obtain ⟨g1, g2⟩ := hx i u hi hu hm
                rcases hsti with a | ⟨a1, a2, a3, c, v, a4, a5, a6, a7⟩ | ⟨a1, a2, a3, a4, _⟩ | a
                · exact .inl a
                · refine .inr (.inl ⟨a1, a2, a3, ?_⟩)
                  by_cases ec : c = n
                  · subst ec
                    exact ⟨c, _, a4, a5, tset_at (s := s1.enS c e) ht1, .inl (g2 a4)⟩
                  · refine ⟨c, v, a4, a5, ?_, .inr (a7.elim (fun g => g.elim) id)⟩
                    rw [tset_ne fun g => ec g.symm]; exact a6
                · exact .inr (.inr (.inl ⟨a1, a2, a3, a4, .inl g1⟩))
                · exact .inr (.inr (.inr a))
              · refine hsti.mono (fun c v hc hv => ?_) (fun g => absurd g hi) (fun g => g.elim)
                have ec : c ≠ n := fun g => hm (by rw [← g]; exact hc)
                exact ⟨v, by rw [tset_ne fun g => ec g.symm]; exact hv, id⟩
          have hpk : ∀ (i : Nat) (u : PTask), s1.tasks[i]? = some u → (n : Int) ∈ u.kids → t.par = (i : Int) := fun i u hu hm => by
            obtain ⟨c, v, a1, a2, a3, a4, _⟩ := h1.kd i u _ hu hm
            have : c = n := by omega
            subst this
            rw [ht1] at a3; injection a3 with a3; subst a3
            exact a4
          split
          · rename_i hpar
            refine hset F0 F0 fun i u _ hu hm => ?_
            have := hpk i u hu hm
            omega
          · rename_i hpar
            split
            · rename_i hnone
              exfalso
              rcases h1.up n t ht1 with ⟨_, g⟩ | ⟨p, u, g1, g2, g3, _⟩
              · omega
              · rw [g1, Int.toNat_natCast, g3] at hnone; cases hnone
            · rename_i tp htp
              obtain ⟨p, hp⟩ : ∃ p : Nat, p = t.par.toNat := ⟨_, rfl⟩
              rw [← hp] at htp ⊢
              have hpe : t.par = (p : Int) := by omega
              have hpn : p < n := by
                rcases h1.up n t ht1 with ⟨_, g⟩ | ⟨p', u, g1, g2, _⟩ <;> omega
              have htp2 : ((s1.enS n e).tset n { t with state := t.ending }).tasks[p]? = some tp := by rw [tset_ne (fun g => by omega)]; exact htp
              split
              · rename_i hwt
                have h2 := hset (· = p) (· = p) fun i u _ hu hm => by
                  have := hpk i u hu hm
                  exact ⟨by omega, fun _ => by omega⟩
                have hsp := h2.st p tp htp2
                have hsp1 : tp.state = 2 ∧ tp.ending = 0 ∧ tp.has < 0 := by
                  rcases hsp with ⟨_, _, g⟩ | ⟨g1, g2, g3, _⟩ | ⟨_, _, g, _⟩ | ⟨_, _, g, _⟩
                  · omega
                  · exact ⟨g1, g2, g3⟩
                  · omega
                  · omega
                obtain ⟨w1, w2, w3⟩ := wakeP_get (e := e) htp2
                obtain ⟨b, k, w1⟩ := w1
                have h3 : TI (wakeP ((s1.enS n e).tset n { t with state := t.ending }) p tp e) F0 F0 := by
                  refine h2.set htp2 w1 (fun i _ => by rw [w3]) ?_ (actor_eq w2) rfl rfl rfl rfl (fun g => absurd g (by show ¬ (3 : Int) ≤ 1; omega)) (fun g => by omega) (.inl ⟨rfl, hsp1.2.1, by show (-1 : Int) < 0; omega⟩) (fun i u hi hu hsti => ?_) (fun g => absurd g (by show ¬ 0 ≤ tp.has; omega))
                  · obtain ⟨o, a1, _⟩ := h2.en p tp htp2
                    exact ⟨o, by rw [w3]; exact a1, fun g => absurd g (by show ¬ (3 : Int) ≤ 1; omega)⟩
                  · refine hsti.mono (fun c v _ hv => ?_) (fun g => absurd g hi) (fun g => absurd g hi)
                    rw [w1]
                    by_cases ec : c = p
                    · rw [if_pos ec]; exact ⟨_, rfl, fun _ => by show (1 : Int) < 3; omega⟩
                    · rw [if_neg ec]; exact ⟨v, hv, id⟩
                have htw : (wakeP ((s1.enS n e).tset n { t with state := t.ending }) p tp e).tasks[p]? = some { tp with waits := -1, state := 1, beh := b, clk := k } := by rw [w1, if_pos rfl]
                exact goOnF_ti ih (by omega) h3 htw rfl hsp1.2.1 (by show (-1 : Int) < 0; omega) (fun g => absurd g (by show ¬ 0 ≤ tp.has; omega))
              · rename_i hwt
                refine ih _ p (by omega) (hset (· = p) F0 fun i u _ hu hm => ?_)
                have := hpk i u hu hm
                have ei : i = p := by omega
                subst ei
                rw [htp] at hu; injection hu with hu; subst hu
                exact ⟨rfl, fun g => absurd g hwt⟩
end Go.Ab
set_option maxHeartbeats 4000000
namespace Go.Ab
open Go Go.Ab Go.Proofs Go.Ab.Ty

def Clo (s : PRun) (l : List Nat) : Prop := ∀ (p : Nat) (u : PTask) (c : Nat), p ∈ l → s.tasks[p]? = some u → (c : Int) ∈ u.kids → c ∈ l
theorem TI.canL {s : PRun} {x y : Nat → Prop} (h : TI s x y) {l : List Nat} (hl : Clo s l) : TI (canL s l) x y := by
  have of : ∀ {k : Nat} {t' : PTask}, (Go.Ab.canL s l).tasks[k]? = some t' → ∃ t, s.tasks[k]? = some t ∧ t' = (if k ∈ l then { t with canc := true } else t) := fun e => canL_of e
  have fld : ∀ (k : Nat) (t : PTask), (if k ∈ l then { t with canc := true } else t).par = t.par ∧ (if k ∈ l then { t with canc := true } else t).kids = t.kids ∧ (if k ∈ l then { t with canc := true } else t).state = t.state ∧ (if k ∈ l then { t with canc := true } else t).has = t.has ∧ (if k ∈ l then { t with canc := true } else t).sarr = t.sarr ∧ (if k ∈ l then { t with canc := true } else t).slen = t.slen ∧ (if k ∈ l then { t with canc := true } else t).ending = t.ending ∧ (if k ∈ l then { t with canc := true } else t).waits = t.waits ∧ (if k ∈ l then { t with canc := true } else t).spn = t.spn := fun k t => by split <;> exact ⟨rfl, rfl, rfl, rfl, rfl, rfl, rfl, rfl, rfl⟩
  have hst : ∀ (k : Nat) (t : PTask) (pe pw : Prop), StI s pe pw t → StI (Go.Ab.canL s l) pe pw (if k ∈ l then { t with canc := true } else t) := fun k t pe pw hs => by
    have : StI (Go.Ab.canL s l) pe pw t := hs.mono (fun c u _ hu => ⟨_, canL_at hu, fun g => by rw [(fld c u).2.2.1]; exact g⟩) id id
    split
    · exact this
    · exact this
  refine ⟨fun k t' e => ?_, fun p u' z e hz => ?_, fun k t' i z e g => ?_, fun k t' e => ?_, fun k t' e => ?_, fun k t' e g => ?_, fun k t1 k' t1' e e' g g' => ?_⟩
  · obtain ⟨t, e1, rfl⟩ := of e
    rw [(fld k t).1]
    rcases h.up k t e1 with a | ⟨p, u, a1, a2, a3, a4⟩
    · exact .inl a
    · exact .inr ⟨p, _, a1, a2, canL_at a3, by rw [(fld p u).2.1]; exact a4⟩
  · obtain ⟨u, e1, rfl⟩ := of e
    rw [(fld p u).2.1] at hz
    obtain ⟨c, t, rfl, a2, a3, a4, a5, a6⟩ := h.kd p u z e1 hz
    refine ⟨c, _, rfl, a2, canL_at a3, by rw [(fld c t).1]; exact a4, by rw [(fld p u).2.2.1, (fld c t).2.2.1]; exact a5, fun g => ?_⟩
    by_cases hp : p ∈ l
    · rw [if_pos (hl p u c hp e1 hz)]
    · rw [if_neg hp] at g
      split
      · rfl
      · exact a6 g
  · obtain ⟨t, e1, rfl⟩ := of e
    rw [(fld k t).2.2.2.2.2.2.2.2] at g
    rw [(fld k t).2.1]
    exact h.sp k t i z e1 g
  · obtain ⟨t, e1, rfl⟩ := of e
    rw [(fld k t).2.2.1]
    exact h.en k t e1
  · obtain ⟨t, e1, rfl⟩ := of e
    exact hst k t _ _ (h.st k t e1)
  · obtain ⟨t, e1, rfl⟩ := of e
    obtain ⟨f1, f2, f3, f4, f5, f6, f7, f8, f9⟩ := fld k t
    rw [f4] at g ⊢
    rw [f5, f6]
    exact h.hs k t e1 g
  · obtain ⟨t, e1, rfl⟩ := of e
    obtain ⟨t2, e2, rfl⟩ := of e'
    rw [(fld k t).2.2.2.1] at g g'
    rw [(fld k' t2).2.2.2.1] at g'
    exact h.hu k t k' t2 e1 e2 g g'
theorem dsc_clo {s : PRun} (hk : Kok s) : ∀ (f n : Nat), s.tasks.length - n ≤ f → Clo s (dsc s f n) := by
  intro f
  induction f with
  | zero => intro n h p u c hp; simp [dsc] at hp
  | succ f ih =>
    intro n h p u c hp hu hc
    simp only [dsc, List.mem_cons, List.mem_flatMap] at hp ⊢
    obtain ⟨j, hj, h1, h2⟩ := hk.kd p u hu c hc
    have hjc : j = c := by omega
    subst hjc
    rcases hp with rfl | ⟨k, g1, g2⟩
    · refine .inr ⟨(j : Int), ?_, ?_⟩
      · unfold kidsF; rw [hu]; exact hc
      · rw [Int.toNat_natCast]
        cases f with
        | zero => omega
        | succ f => simp [dsc]
    · refine .inr ⟨k, g1, ?_⟩
      unfold kidsF at g1
      split at g1
      · rename_i t ht
        obtain ⟨i, rfl, h3, h4⟩ := hk.kd n t ht k g1
        rw [Int.toNat_natCast] at g2 ⊢
        exact ih i (by omega) p u j g2 hu hc
      · cases g1
theorem Clo.flat {s : PRun} {ks : List Int} {f : Int → List Nat} (h : ∀ k ∈ ks, Clo s (f k)) : Clo s (ks.flatMap f) := fun p u c hp hu hc => by
  obtain ⟨k, h1, h2⟩ := List.mem_flatMap.1 hp
  exact List.mem_flatMap.2 ⟨k, h1, h k h1 p u c h2 hu hc⟩
theorem stopF_ti {s : PRun} (hk : Kok s) (h : TI s F0 F0) {n : Nat} {t : PTask} (ht : s.tasks[n]? = some t) (h1 : t.state = 1) (hw : t.waits < 0) : TI (stopF s n) F0 F0 := by
  have hnl : n ∉ t.kids.flatMap fun k => dsc s (s.tasks.length) k.toNat := by
    intro hm
    obtain ⟨k, h1, h2⟩ := List.mem_flatMap.1 hm
    obtain ⟨j, rfl, h3, h4⟩ := hk.kd n t ht k h1
    have := dsc_ge hk _ _ _ h2
    rw [Int.toNat_natCast] at this
    omega
  have htk : (canK s t.kids).tasks[n]? = some t := by unfold canK; rw [canL_at ht, if_neg hnl]
  have hK : TI (canK s t.kids) F0 F0 := h.canL (.flat fun k _ => dsc_clo hk _ _ (by omega))
  unfold stopF
  rw [ht]
  refine settleF_ti (n + 1) _ n (by omega) (hK.set htk (fun i => tset_get htk i) (fun _ _ => rfl) ?_ actor_id rfl rfl rfl rfl (fun g => absurd g (by show ¬ (3 : Int) ≤ 2; omega)) (fun g => by omega) (.inr (.inr (.inl ⟨rfl, .inr rfl, hw, by show (-1 : Int) < 0; omega, .inl rfl⟩))) (fun i u hi hu hst => ?_) (fun g => absurd g (by show ¬ (0 : Int) ≤ -1; omega)))
  · obtain ⟨o, a1, _⟩ := hK.en n t htk
    exact ⟨o, a1, fun g => absurd g (by show ¬ (3 : Int) ≤ 2; omega)⟩
  · refine hst.mono (fun c v _ hv => ?_) (fun g => g.elim) id
    rw [tset_get htk]
    by_cases ec : c = n
    · rw [if_pos ec]; exact ⟨_, rfl, fun _ => by show (2 : Int) < 3; omega⟩
    · rw [if_neg ec]; exact ⟨v, hv, id⟩
theorem startF_get {s : PRun} {c : Cd} {vs a : List Int} {prio par : Int} {canc : Bool} (hl : s.ends.length = s.tasks.length) (hp : par < 0 ∨ ∃ p : Nat, ∃ u, par = (p : Int) ∧ s.tasks[p]? = some u ∧ u.ending = 0 ∧ u.waits < 0) :
    ∃ tn o, (startF s c vs a prio par canc).tasks = s.tasks ++ [tn] ∧ (startF s c vs a prio par canc).ends = s.ends ++ [o] ∧ (startF s c vs a prio par canc).calls = s.calls ++ [newC c vs (-1)] ∧
      tn.sarr = [s.calls.length] ∧ tn.slen = 1 ∧ tn.prio = prio ∧ tn.canc = canc ∧ tn.par = par ∧ tn.kids = [] ∧ tn.spn = [] ∧ tn.waits = -1 ∧ tn.has = -1 ∧ ((tn.state = 1 ∧ tn.ending = 0 ∧ c.steps.length ≠ 0) ∨ (tn.state = 3 ∧ tn.ending = 3 ∧ c.steps.length = 0 ∧ ∃ j, o = some j)) := by
  unfold startF
  split
  · rename_i h0
    obtain ⟨S, hS⟩ : ∃ S, S = (startS s c vs a prio par canc).tset s.tasks.length (clo (newT s.calls.length prio canc par s.pool.length) 3) := ⟨_, rfl⟩
    have hSt : S.tasks = s.tasks ++ [clo (newT s.calls.length prio canc par s.pool.length) 3] := by rw [hS]; simp [PRun.tset, startS, PRun.addT, PRun.addP, PRun.addC]
    have hSe : S.ends = s.ends ++ [none] := by rw [hS]; rfl
    have hSc : S.calls = s.calls ++ [newC c vs (-1)] := by rw [hS]; rfl
    rw [← hS]
    have hn : S.tasks[s.tasks.length]? = some (clo (newT s.calls.length prio canc par s.pool.length) 3) := by rw [hSt]; simp
    obtain ⟨S2, hS2⟩ : ∃ S2, S2 = (S.enS s.tasks.length s.pool.length).tset s.tasks.length { clo (newT s.calls.length prio canc par s.pool.length) 3 with state := 3 } := ⟨_, rfl⟩
    have e2t : S2.tasks = s.tasks ++ [{ clo (newT s.calls.length prio canc par s.pool.length) 3 with state := 3 }] := by
      rw [hS2]
      show S.tasks.set _ _ = _
      rw [hSt]; simp
    have e2e : S2.ends = s.ends ++ [some s.pool.length] := by
      rw [hS2]
      show S.ends.set _ _ = _
      rw [hSe, ← hl]; simp
    have e2c : S2.calls = s.calls ++ [newC c vs (-1)] := by rw [hS2]; exact hSc
    have key : settleF (s.tasks.length + 1) S s.tasks.length = S2 := by
      simp only [settleF, hn]
      rw [if_neg (by simp [clo])]
      simp only [kidsJ, clo, newT]
      rcases hp with hp | ⟨p, u, rfl, hu, h1, h2⟩
      · refine (if_pos hp).trans ?_
        rw [hS2]; rfl
      · refine (if_neg (by omega)).trans ?_
        have hpl : p < s.tasks.length := (List.getElem?_eq_some_iff.1 hu).1
        have hup : S.tasks[p]? = some u := by rw [hSt, List.getElem?_append_left hpl]; exact hu
        simp only [Int.toNat_natCast, hup]
        refine (if_neg (by omega)).trans ?_
        obtain ⟨f, hf⟩ : ∃ f, s.tasks.length = f + 1 := ⟨s.tasks.length - 1, by omega⟩
        have e3 : (S.enS s.tasks.length s.pool.length).tset s.tasks.length { clo (newT s.calls.length prio canc p s.pool.length) 3 with state := 3 } = S2 := by rw [hS2]
        simp only [clo, newT] at e3
        rw [e3, hf]
        have hup2 : S2.tasks[p]? = some u := by rw [e2t, List.getElem?_append_left hpl]; exact hu
        simp only [settleF, hup2]
        rw [if_pos (.inl h1)]
    rw [key]
    exact ⟨_, _, e2t, e2e, e2c, rfl, rfl, rfl, rfl, rfl, rfl, rfl, rfl, rfl, .inr ⟨rfl, rfl, h0, _, rfl⟩⟩
  · rename_i h0
    exact ⟨_, _, rfl, rfl, rfl, rfl, rfl, rfl, rfl, rfl, rfl, rfl, rfl, rfl, .inl ⟨rfl, rfl, h0⟩⟩
end Go.Ab
