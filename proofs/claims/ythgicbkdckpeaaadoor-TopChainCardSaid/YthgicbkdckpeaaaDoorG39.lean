/- Part of the proof. -/
import Derived.Test.YthgicbkdckpeaaaDoorG38
set_option linter.unusedSimpArgs false
set_option linter.unusedVariables false
set_option maxHeartbeats 4000000
namespace Go.Ab
open Go Go.Ab Go.Proofs Go.Ab.Ty
def Clo (s:PRun) (l:List Nat):Prop:=∀ (p:Nat) (u:PTask) (c:Nat),p ∈ l→s.tasks[p]? = some u→(c:Int) ∈ u.kids→c ∈ l
theorem TI.canL {s:PRun} {x y:Nat→Prop} (h:TI s x y) {l:List Nat} (hl:Clo s l):TI (canL s l) x y:=by
 have of:∀ {k:Nat} {t':PTask},(Go.Ab.canL s l).tasks[k]? = some t'→∃ t,s.tasks[k]? = some t ∧ t' = (if k ∈ l then { t with canc:=true } else t):=fun e=>canL_of e
 have fld:∀ (k:Nat) (t:PTask),(if k ∈ l then { t with canc:=true } else t).par = t.par ∧ (if k ∈ l then { t with canc:=true } else t).kids = t.kids ∧ (if k ∈ l then { t with canc:=true } else t).state = t.state ∧ (if k ∈ l then { t with canc:=true } else t).has = t.has ∧ (if k ∈ l then { t with canc:=true } else t).sarr = t.sarr ∧ (if k ∈ l then { t with canc:=true } else t).slen = t.slen ∧ (if k ∈ l then { t with canc:=true } else t).ending = t.ending ∧ (if k ∈ l then { t with canc:=true } else t).waits = t.waits ∧ (if k ∈ l then { t with canc:=true } else t).spn = t.spn:=fun k t=>by split <;> exact ⟨rfl,rfl,rfl,rfl,rfl,rfl,rfl,rfl,rfl⟩
 have hst:∀ (k:Nat) (t:PTask) (pe pw:Prop),StI s pe pw t→StI (Go.Ab.canL s l) pe pw (if k ∈ l then { t with canc:=true } else t):=fun k t pe pw hs=>by
  have:StI (Go.Ab.canL s l) pe pw t:=hs.mono (fun c u _ hu=>⟨_,canL_at hu,fun g=>by rw [(fld c u).2.2.1];exact g⟩) id id
  split
  ·exact this
  ·exact this
 refine ⟨fun k t' e=>?_,fun p u' z e hz=>?_,fun k t' i z e g=>?_,fun k t' e=>?_,fun k t' e=>?_,fun k t' e g=>?_,fun k t1 k' t1' e e' g g'=>?_⟩
 ·obtain ⟨t,e1,rfl⟩:=of e
  rw [(fld k t).1]
  rcases h.up k t e1 with a | ⟨p,u,a1,a2,a3,a4⟩
  ·exact .inl a
  ·exact .inr ⟨p,_,a1,a2,canL_at a3,by rw [(fld p u).2.1];exact a4⟩
 ·obtain ⟨u,e1,rfl⟩:=of e
  rw [(fld p u).2.1] at hz
  obtain ⟨c,t,rfl,a2,a3,a4,a5,a6⟩:=h.kd p u z e1 hz
  refine ⟨c,_,rfl,a2,canL_at a3,by rw [(fld c t).1];exact a4,by rw [(fld p u).2.2.1,(fld c t).2.2.1];exact a5,fun g=>?_⟩
  by_cases hp:p ∈ l
  ·rw [if_pos (hl p u c hp e1 hz)]
  ·rw [if_neg hp] at g
   split
   ·rfl
   ·exact a6 g
 ·obtain ⟨t,e1,rfl⟩:=of e
  rw [(fld k t).2.2.2.2.2.2.2.2] at g
  rw [(fld k t).2.1]
  exact h.sp k t i z e1 g
 ·obtain ⟨t,e1,rfl⟩:=of e
  rw [(fld k t).2.2.1]
  exact h.en k t e1
 ·obtain ⟨t,e1,rfl⟩:=of e
  exact hst k t _ _ (h.st k t e1)
 ·obtain ⟨t,e1,rfl⟩:=of e
  obtain ⟨f1,f2,f3,f4,f5,f6,f7,f8,f9⟩:=fld k t
  rw [f4] at g ⊢
  rw [f5,f6]
  exact h.hs k t e1 g
 ·obtain ⟨t,e1,rfl⟩:=of e
  obtain ⟨t2,e2,rfl⟩:=of e'
  rw [(fld k t).2.2.2.1] at g g'
  rw [(fld k' t2).2.2.2.1] at g'
  exact h.hu k t k' t2 e1 e2 g g'
theorem dsc_clo {s:PRun} (hk:Kok s):∀ (f n:Nat),s.tasks.length - n ≤ f→Clo s (dsc s f n):=by
 intro f
 induction f with
 | zero=>intro n h p u c hp;simp [dsc] at hp
 | succ f ih =>
   intro n h p u c hp hu hc
   simp only [dsc,List.mem_cons,List.mem_flatMap] at hp ⊢
   obtain ⟨j,hj,h1,h2⟩:=hk.kd p u hu c hc
   have hjc:j = c:=by omega
   subst hjc
   rcases hp with rfl | ⟨k,g1,g2⟩
   ·refine .inr ⟨(j:Int),?_,?_⟩
    ·unfold kidsF;rw [hu];exact hc
    ·rw [Int.toNat_natCast]
     cases f with
     | zero=>omega
     | succ f=>simp [dsc]
   ·refine .inr ⟨k,g1,?_⟩
    unfold kidsF at g1
    split at g1
    ·rename_i t ht
     obtain ⟨i,rfl,h3,h4⟩:=hk.kd n t ht k g1
     rw [Int.toNat_natCast] at g2 ⊢
     exact ih i (by omega) p u j g2 hu hc
    ·cases g1
theorem Clo.flat {s:PRun} {ks:List Int} {f:Int→List Nat} (h:∀ k ∈ ks,Clo s (f k)):Clo s (ks.flatMap f):=fun p u c hp hu hc=>by
 obtain ⟨k,h1,h2⟩:=List.mem_flatMap.1 hp
 exact List.mem_flatMap.2 ⟨k,h1,h k h1 p u c h2 hu hc⟩
theorem stopF_ti {s:PRun} (hk:Kok s) (h:TI s F0 F0) {n:Nat} {t:PTask} (ht:s.tasks[n]? = some t) (h1:t.state = 1) (hw:t.waits < 0):TI (stopF s n) F0 F0:=by
 have hnl:n ∉ t.kids.flatMap fun k=>dsc s (s.tasks.length) k.toNat:=by
  intro hm
  obtain ⟨k,h1,h2⟩:=List.mem_flatMap.1 hm
  obtain ⟨j,rfl,h3,h4⟩:=hk.kd n t ht k h1
  have:=dsc_ge hk _ _ _ h2
  rw [Int.toNat_natCast] at this
  omega
 have htk:(canK s t.kids).tasks[n]? = some t:=by unfold canK;rw [canL_at ht,if_neg hnl]
 have hK:TI (canK s t.kids) F0 F0:=h.canL (.flat fun k _=>dsc_clo hk _ _ (by omega))
 unfold stopF
 rw [ht]
 refine settleF_ti (n + 1) _ n (by omega) (hK.set htk (fun i=>tset_get htk i) (fun _ _=>rfl) ?_ actor_id rfl rfl rfl rfl (fun g=>absurd g (by show ¬ (3:Int) ≤ 2;omega)) (fun g=>by omega) (.inr (.inr (.inl ⟨rfl,.inr rfl,hw,by show (-1:Int) < 0;omega,.inl rfl⟩))) (fun i u hi hu hst=>?_) (fun g=>absurd g (by show ¬ (0:Int) ≤ -1;omega)))
 ·obtain ⟨o,a1,_⟩:=hK.en n t htk
  exact ⟨o,a1,fun g=>absurd g (by show ¬ (3:Int) ≤ 2;omega)⟩
 ·refine hst.mono (fun c v _ hv=>?_) (fun g=>g.elim) id
  rw [tset_get htk]
  by_cases ec:c = n
  ·rw [if_pos ec];exact ⟨_,rfl,fun _=>by show (2:Int) < 3;omega⟩
  ·rw [if_neg ec];exact ⟨v,hv,id⟩
theorem startF_get {s:PRun} {c:Cd} {vs a:List Int} {prio par:Int} {canc:Bool} (hl:s.ends.length = s.tasks.length) (hp:par < 0 ∨ ∃ p:Nat,∃ u,par = (p:Int) ∧ s.tasks[p]? = some u ∧ u.ending = 0 ∧ u.waits < 0) :
 ∃ tn o,(startF s c vs a prio par canc).tasks = s.tasks ++ [tn] ∧ (startF s c vs a prio par canc).ends = s.ends ++ [o] ∧ (startF s c vs a prio par canc).calls = s.calls ++ [newC c vs (-1)] ∧
  tn.sarr = [s.calls.length] ∧ tn.slen = 1 ∧ tn.prio = prio ∧ tn.canc = canc ∧ tn.par = par ∧ tn.kids = [] ∧ tn.spn = [] ∧ tn.waits = -1 ∧ tn.has = -1 ∧ ((tn.state = 1 ∧ tn.ending = 0 ∧ c.steps.length ≠ 0) ∨ (tn.state = 3 ∧ tn.ending = 3 ∧ c.steps.length = 0 ∧ ∃ j,o = some j)):=by
 unfold startF
 split
 ·rename_i h0
  obtain ⟨S,hS⟩:∃ S,S = (startS s c vs a prio par canc).tset s.tasks.length (clo (newT s.calls.length prio canc par s.pool.length) 3):=⟨_,rfl⟩
  have hSt:S.tasks = s.tasks ++ [clo (newT s.calls.length prio canc par s.pool.length) 3]:=by rw [hS];simp [PRun.tset,startS,PRun.addT,PRun.addP,PRun.addC]
  have hSe:S.ends = s.ends ++ [none]:=by rw [hS];rfl
  have hSc:S.calls = s.calls ++ [newC c vs (-1)]:=by rw [hS];rfl
  rw [← hS]
  have hn:S.tasks[s.tasks.length]? = some (clo (newT s.calls.length prio canc par s.pool.length) 3):=by rw [hSt];simp
  obtain ⟨S2,hS2⟩:∃ S2,S2 = (S.enS s.tasks.length s.pool.length).tset s.tasks.length { clo (newT s.calls.length prio canc par s.pool.length) 3 with state:=3 }:=⟨_,rfl⟩
  have e2t:S2.tasks = s.tasks ++ [{ clo (newT s.calls.length prio canc par s.pool.length) 3 with state:=3 }]:=by
   rw [hS2]
   show S.tasks.set _ _ = _
   rw [hSt];simp
  have e2e:S2.ends = s.ends ++ [some s.pool.length]:=by
   rw [hS2]
   show S.ends.set _ _ = _
   rw [hSe,← hl];simp
  have e2c:S2.calls = s.calls ++ [newC c vs (-1)]:=by rw [hS2];exact hSc
  have key:settleF (s.tasks.length + 1) S s.tasks.length = S2:=by
   simp only [settleF,hn]
   rw [if_neg (by simp [clo])]
   simp only [kidsJ,clo,newT]
   rcases hp with hp | ⟨p,u,rfl,hu,h1,h2⟩
   ·refine (if_pos hp).trans ?_
    rw [hS2];rfl
   ·refine (if_neg (by omega)).trans ?_
    have hpl:p < s.tasks.length:=(List.getElem?_eq_some_iff.1 hu).1
    have hup:S.tasks[p]? = some u:=by rw [hSt,List.getElem?_append_left hpl];exact hu
    simp only [Int.toNat_natCast,hup]
    refine (if_neg (by omega)).trans ?_
    obtain ⟨f,hf⟩:∃ f,s.tasks.length = f + 1:=⟨s.tasks.length - 1,by omega⟩
    have e3:(S.enS s.tasks.length s.pool.length).tset s.tasks.length { clo (newT s.calls.length prio canc p s.pool.length) 3 with state:=3 } = S2:=by rw [hS2]
    simp only [clo,newT] at e3
    rw [e3,hf]
    have hup2:S2.tasks[p]? = some u:=by rw [e2t,List.getElem?_append_left hpl];exact hu
    simp only [settleF,hup2]
    rw [if_pos (.inl h1)]
  rw [key]
  exact ⟨_,_,e2t,e2e,e2c,rfl,rfl,rfl,rfl,rfl,rfl,rfl,rfl,rfl,.inr ⟨rfl,rfl,h0,_,rfl⟩⟩
 ·rename_i h0
  exact ⟨_,_,rfl,rfl,rfl,rfl,rfl,rfl,rfl,rfl,rfl,rfl,rfl,rfl,.inl ⟨rfl,rfl,h0⟩⟩
end Go.Ab
set_option maxHeartbeats 4000000
namespace Go.Ab
open Go Go.Ab Go.Proofs Go.Ab.Ty
theorem TI.spawn {s s':PRun} (h:TI s F0 F0) (hl:s.ends.length = s.tasks.length) {n:Nat} {t tn:PTask} {o:Option Nat} {sp:List (Int × Int)} (ht:s.tasks[n]? = some t) (h1:t.state = 1) (h0:t.ending = 0) (hw:t.waits < 0) (hh:t.has < 0)
 (hts:s'.tasks = (s.tasks ++ [tn]).set n { t with kids:=t.kids ++ [(s.tasks.length:Int)],spn:=sp }) (he:s'.ends = s.ends ++ [o]) (hc:AcS s s')
 (hsp:∀ i z,getM sp i = some z→getM t.spn i = some z ∨ z = (s.tasks.length:Int)) (n1:tn.par = (n:Int)) (n2:tn.canc = t.canc) (n3:tn.kids = []) (n4:tn.spn = []) (n5:tn.waits = -1) (n6:tn.has = -1)
 (n7:(tn.state = 1 ∧ tn.ending = 0) ∨ (tn.state = 3 ∧ tn.ending = 3 ∧ ∃ j,o = some j)):TI s' F0 F0:=by
 have hn:=(List.getElem?_eq_some_iff.1 ht).1
 obtain ⟨t',ht'⟩:∃ t',t' = { t with kids:=t.kids ++ [(s.tasks.length:Int)],spn:=sp }:=⟨_,rfl⟩
 rw [← ht'] at hts
 have G:∀ i,s'.tasks[i]? = if i = n then some t' else if i = s.tasks.length then some tn else s.tasks[i]?:=fun i=>by
  rw [hts,List.getElem?_set]
  by_cases e:n = i
  ·subst e;rw [if_pos rfl,if_pos (by simp;omega),if_pos rfl]
  ·rw [if_neg e,if_neg (fun g=>e g.symm)]
   by_cases e2:i = s.tasks.length
   ·subst e2;rw [if_pos rfl];simp
   ·rw [if_neg e2]
    by_cases e3:i < s.tasks.length
    ·rw [List.getElem?_append_left e3]
    ·rw [List.getElem?_eq_none (by simp;omega),List.getElem?_eq_none (by omega)]
 have Gn:s'.tasks[n]? = some t':=by rw [G,if_pos rfl]
 have Gl:s'.tasks[s.tasks.length]? = some tn:=by rw [G,if_neg (by omega),if_pos rfl]
 have Go:∀ (i:Nat) (u:PTask),i ≠ n→s.tasks[i]? = some u→s'.tasks[i]? = some u:=fun i u hi hu=>by
  have:=(List.getElem?_eq_some_iff.1 hu).1
  rw [G,if_neg hi,if_neg (by omega)];exact hu
 have cas:∀ (i:Nat) (u:PTask),s'.tasks[i]? = some u→(i = n ∧ u = t') ∨ (i = s.tasks.length ∧ u = tn) ∨ (i ≠ n ∧ s.tasks[i]? = some u):=fun i u e=>by
  rw [G] at e
  by_cases e1:i = n
  ·rw [if_pos e1] at e;injection e with e;exact .inl ⟨e1,e.symm⟩
  ·rw [if_neg e1] at e
   by_cases e2:i = s.tasks.length
   ·rw [if_pos e2] at e;injection e with e;exact .inr (.inl ⟨e2,e.symm⟩)
   ·rw [if_neg e2] at e;exact .inr (.inr ⟨e1,e⟩)
 have f1:t'.par = t.par ∧ t'.canc = t.canc ∧ t'.state = t.state ∧ t'.has = t.has ∧ t'.kids = t.kids ++ [(s.tasks.length:Int)] ∧ t'.spn = sp ∧ t'.ending = t.ending ∧ t'.waits = t.waits:=by rw [ht'];exact ⟨rfl,rfl,rfl,rfl,rfl,rfl,rfl,rfl⟩
 obtain ⟨f1,f2,f3,f4,f5,f6,f7,f8⟩:=f1
 have hexi:∀ (i:Nat) (u:PTask),s.tasks[i]? = some u→∃ u',s'.tasks[i]? = some u' ∧ u'.state = u.state:=fun i u hu=>by
  by_cases e:i = n
  ·subst e;rw [ht] at hu;injection hu with hu;subst hu;exact ⟨t',Gn,f3⟩
  ·exact ⟨u,Go i u e hu,rfl⟩
 refine ⟨fun k u e=>?_,fun p u z e hz=>?_,fun k u i z e g=>?_,fun k u e=>?_,fun k u e=>?_,fun k u e g=>?_,fun k u k' u' e e' g g'=>?_⟩
 ·have key:∀ w:PTask,s.tasks[k]? = some w→w.par = u.par→(k = 0 ∧ u.par = -1) ∨ ∃ p:Nat,∃ v,u.par = (p:Int) ∧ p < k ∧ s'.tasks[p]? = some v ∧ (k:Int) ∈ v.kids:=fun w e1 hw=>by
   rcases h.up k w e1 with a | ⟨p,v,a1,a2,a3,a4⟩
   ·exact .inl ⟨a.1,by rw [← hw];exact a.2⟩
   ·by_cases ep:p = n
    ·subst ep
     rw [ht] at a3;injection a3 with a3;subst a3
     exact .inr ⟨p,t',by rw [← hw];exact a1,a2,Gn,by rw [f5];exact List.mem_append_left _ a4⟩
    ·exact .inr ⟨p,v,by rw [← hw];exact a1,a2,Go p v ep a3,a4⟩
  rcases cas k u e with ⟨rfl,rfl⟩ | ⟨rfl,rfl⟩ | ⟨e1,e2⟩
  ·exact key t ht f1.symm
  ·exact .inr ⟨n,t',n1,hn,Gn,by rw [f5];exact List.mem_append_right _ (List.mem_singleton.2 rfl)⟩
  ·exact key u e2 rfl
 ·have key:∀ w:PTask,s.tasks[p]? = some w→z ∈ w.kids→u.state = w.state→u.canc = w.canc→∃ c:Nat,∃ v,z = (c:Int) ∧ p < c ∧ s'.tasks[c]? = some v ∧ v.par = (p:Int) ∧ (3 ≤ u.state→3 ≤ v.state) ∧ (u.canc = true→v.canc = true):=fun w e1 g1 g2 g3=>by
   obtain ⟨c,v,a1,a2,a3,a4,a5,a6⟩:=h.kd p w z e1 g1
   by_cases ec:c = n
   ·subst ec
    rw [ht] at a3;injection a3 with a3;subst a3
    exact ⟨c,t',a1,a2,Gn,by rw [f1];exact a4,by rw [g2,f3];exact a5,by rw [g3,f2];exact a6⟩
   ·exact ⟨c,v,a1,a2,Go c v ec a3,a4,by rw [g2];exact a5,by rw [g3];exact a6⟩
  rcases cas p u e with ⟨rfl,rfl⟩ | ⟨rfl,rfl⟩ | ⟨e1,e2⟩
  ·rw [f5] at hz
   rcases List.mem_append.1 hz with hz | hz
   ·exact key t ht hz f3 f2
   ·rw [List.mem_singleton] at hz;subst hz
    exact ⟨_,tn,rfl,hn,Gl,n1,by rw [f3,h1];intro g;omega,by rw [f2,n2];exact id⟩
  ·rw [n3] at hz;cases hz
  ·exact key u e2 hz rfl rfl
 ·rcases cas k u e with ⟨rfl,rfl⟩ | ⟨rfl,rfl⟩ | ⟨e1,e2⟩
  ·rw [f6] at g
   rw [f5]
   rcases hsp i z g with g | rfl
   ·exact List.mem_append_left _ (h.sp k t i z ht g)
   ·exact List.mem_append_right _ (List.mem_singleton.2 rfl)
  ·rw [n4] at g;simp at g
  ·exact h.sp k u i z e2 g
 ·have key:∀ w:PTask,s.tasks[k]? = some w→u.state = w.state→∃ o,s'.ends[k]? = some o ∧ (3 ≤ u.state→∃ j,o = some j):=fun w e1 g1=>by
   obtain ⟨o1,a1,a2⟩:=h.en k w e1
   exact ⟨o1,by rw [he,List.getElem?_append_left (List.getElem?_eq_some_iff.1 a1).1];exact a1,by rw [g1];exact a2⟩
  rcases cas k u e with ⟨rfl,rfl⟩ | ⟨rfl,rfl⟩ | ⟨e1,e2⟩
  ·exact key t ht f3
  ·refine ⟨o,by rw [he,← hl];simp,fun g=>?_⟩
   rcases n7 with ⟨a,_⟩ | ⟨_,_,a⟩
   ·omega
   ·exact a
  ·exact key u e2 rfl
 ·rcases cas k u e with ⟨rfl,rfl⟩ | ⟨rfl,rfl⟩ | ⟨e1,e2⟩
  ·exact .inl ⟨by rw [f3];exact h1,by rw [f7];exact h0,by rw [f8];exact hw⟩
  ·rcases n7 with ⟨a1,a2⟩ | ⟨a1,a2,_⟩
   ·exact .inl ⟨a1,a2,by rw [n5];omega⟩
   ·exact .inr (.inr (.inr ⟨.inl a1,by rw [a1,a2],by rw [n5];omega,by rw [n6];omega⟩))
  ·exact (h.st k u e2).mono (fun c v _ hv=>by
    obtain ⟨v',b1,b2⟩:=hexi c v hv
    exact ⟨v',b1,by rw [b2];exact id⟩) id id
 ·rcases cas k u e with ⟨rfl,rfl⟩ | ⟨rfl,rfl⟩ | ⟨e1,e2⟩
  ·rw [f4] at g;omega
  ·rw [n6] at g;omega
  ·obtain ⟨j,c,a1,a2,a3⟩:=h.hs k u e2 g
   obtain ⟨c',b1,b2⟩:=hc j c a2
   exact ⟨j,c',a1,b1,by rw [b2];exact a3⟩
 ·rcases cas k u e with ⟨rfl,rfl⟩ | ⟨rfl,rfl⟩ | ⟨e1,e2⟩
  ·rw [f4] at g;omega
  ·rw [n6] at g;omega
  ·rcases cas k' u' e' with ⟨rfl,rfl⟩ | ⟨rfl,rfl⟩ | ⟨e3,e4⟩
   ·rw [f4] at g';omega
   ·rw [n6] at g';omega
   ·exact h.hu k u k' u' e2 e4 g g'
theorem actor_app {s:PRun} {cs:List PCall} {s':PRun} (h:s'.calls = s.calls ++ cs):AcS s s':=fun i d e =>
 ⟨d,by rw [h,List.getElem?_append_left (List.getElem?_eq_some_iff.1 e).1];exact e,rfl⟩
theorem actor_trans {s s1 s2:PRun} (h:AcS s s1) (g:AcS s1 s2):AcS s s2:=fun i d e=>by
 obtain ⟨d1,a1,a2⟩:=h i d e
 obtain ⟨d2,b1,b2⟩:=g i d1 a1
 exact ⟨d2,b1,b2.trans a2⟩
structure StT (s:PRun) (n:Nat) (r:Bool × PRun):Prop where
 ti:TI r.2 F0 F0
 ot:r.1 = true→∀ (i:Nat) (u:PTask),i ≠ n→r.2.tasks[i]? = some u→u.has = -1 ∨ ∃ u0,s.tasks[i]? = some u0 ∧ u.has = u0.has
 tn:r.1 = true→∀ u,r.2.tasks[n]? = some u→u.has < 0
theorem stepF_ti {s:PRun} {n j:Nat} {t:PTask} {c:PCall} {st:Stp} {time:Int} (h:Sok s n j t c st) (hT:TI s F0 F0) (hh:t.has < 0):StT s n (stepF s n j t c st time):=by
 have hiv:=h.iv
 have ht:=h.ht
 have hc:=h.hc
 have hn:=(List.getElem?_eq_some_iff.1 ht).1
 have same:∀ (b:Bool) (s':PRun),s'.tasks = s.tasks→s'.ends = s.ends→AcS s s'→StT s n (b,s'):=fun b s' e1 e2 e3 =>
  ⟨hT.same e1 e2 e3,fun _ i u _ hu=>.inr ⟨u,by rw [← e1];exact hu,rfl⟩,fun _ u hu=>by
   have hu:s'.tasks[n]? = some u:=hu
   rw [e1,ht] at hu;injection hu with hu;subst hu;exact hh⟩
 have vset:∀ (s':PRun) (vs:List Int),s'.tasks = s.tasks→s'.ends = s.ends→s'.calls = s.calls→StT s n (true,s'.cset j { c with vars:=vs }):=fun s' vs e1 e2 e3 =>
  same _ _ e1 e2 fun i d hd=>actor_cset (s:=s') (c:=c) (by rw [e3];exact hc) (c1:={ c with vars:=vs }) rfl i d (by rw [e3];exact hd)
 obtain ⟨op,v,w,nn,tk,vs⟩:=st
 have hop:=h.op
 have r6:=h.r6
 have r7:=h.r7
 have r9:=h.r9
 have hcan:=h.can
 simp only at hop r6 r7 r9
 have hc12:op = 1 ∨ op = 2 ∨ op = 3 ∨ op = 4 ∨ op = 5 ∨ op = 6 ∨ op = 7 ∨ op = 8 ∨ op = 9 ∨ op = 10 ∨ op = 11 ∨ op = 12:=by omega
 rcases hc12 with rfl | rfl | rfl | rfl | rfl | rfl | rfl | rfl | rfl | rfl | rfl | rfl
 ·exact vset (s.mkO nn) _ rfl rfl rfl
 ·by_cases hx:0 ≤ (objAt s (varN c w)).2
  ·simp +decide only [stepF,if_true,if_false,if_pos hx]
   exact vset _ _ rfl rfl rfl
  ·simp +decide only [stepF,if_true,if_false,if_neg hx]
   exact vset _ _ rfl rfl rfl
 ·simp +decide only [stepF,if_true,if_false]
  exact same _ _ rfl rfl actor_id
 ·simp +decide only [stepF,if_true,if_false]
  exact same _ _ rfl rfl actor_id
 ·simp +decide only [stepF,if_true,if_false]
  exact same _ _ rfl rfl actor_id
 ·simp +decide only [stepF,if_true,if_false]
  obtain ⟨tn,o,a1,a2,a3,a4,a5,a6,a7,a8,a9,a10,a11,a12,a13⟩:=startF_get (s:=s) (c:=cdAt s.p.codes tk) (vs:=givL c vs) (a:=s.pool.getD t.clk []) (prio:=nn) (par:=n) (canc:=t.canc) hiv.wf.endl (.inr ⟨n,t,rfl,ht,h.en,h.wt⟩)
  have hts:((startF s (cdAt s.p.codes tk) (givL c vs) (s.pool.getD t.clk []) nn n t.canc).tset n { t with kids:=t.kids ++ [(s.tasks.length:Int)],spn:=if c.actor < 0 then setM t.spn c.pc s.tasks.length else t.spn }).tasks = (s.tasks ++ [tn]).set n { t with kids:=t.kids ++ [(s.tasks.length:Int)],spn:=if c.actor < 0 then setM t.spn c.pc s.tasks.length else t.spn }:=by
   show List.set _ _ _ = _
   rw [a1]
  refine ⟨hT.spawn hiv.wf.endl ht h.st1 h.en h.wt hh hts a2 (actor_app a3) (fun i z g=>?_) a8 a7 a9 a10 a11 a12 (a13.imp (fun q=>⟨q.1,q.2.1⟩) (fun q=>⟨q.1,q.2.1,q.2.2.2⟩)),fun _ i u hi hu=>?_,fun _ u hu=>?_⟩
  ·split at g
   ·rw [getM_setM] at g
    split at g
    ·injection g with g;exact .inr g.symm
    ·exact .inl g
   ·exact .inl g
  ·have hu:((startF s (cdAt s.p.codes tk) (givL c vs) (s.pool.getD t.clk []) nn n t.canc).tset n _).tasks[i]? = some u:=hu
   rw [hts,List.getElem?_set_ne (fun g=>hi g.symm)] at hu
   by_cases e:i < s.tasks.length
   ·rw [List.getElem?_append_left e] at hu;exact .inr ⟨u,hu,rfl⟩
   ·by_cases e2:i = s.tasks.length
    ·subst e2
     simp at hu
     subst hu;exact .inl a12
    ·rw [List.getElem?_eq_none (by simp;omega)] at hu;cases hu
  ·have hu:((startF s (cdAt s.p.codes tk) (givL c vs) (s.pool.getD t.clk []) nn n t.canc).tset n _).tasks[n]? = some u:=hu
   rw [hts,List.getElem?_set_self (by simp;omega)] at hu
   injection hu with hu;subst hu;exact hh
 ·simp +decide only [stepF,if_true,if_false]
  obtain ⟨kc,k1,k2⟩:=r7 (.inl rfl)
  have hkN:kidN t nn = kc:=by unfold kidN;rw [k1];simp
  have hkm:(kc:Int) ∈ t.kids:=hT.sp n t nn kc ht k1
  obtain ⟨d,u,b1,b2,b3,b4,_⟩:=hT.kd n t kc ht hkm
  have hdk:d = kc:=by omega
  subst hdk
  rw [hkN]
  by_cases ho:ovr s d = true
  ·rw [if_pos ho];exact same _ _ rfl rfl actor_id
  ·rw [if_neg ho]
   have hu3:u.state < 3:=by
    unfold ovr at ho
    rw [b3] at ho
    simp at ho;omega
   refine ⟨hT.set ht (fun i=>tset_get ht i) (fun _ _=>rfl) ?_ actor_id rfl rfl rfl rfl (fun g=>absurd g (by show ¬ (3:Int) ≤ 2;omega)) (fun g=>by have:=h.st1;omega) (.inr (.inl ⟨rfl,h.en,hh,d,u,rfl,hkm,?_,.inr hu3⟩)) (fun i v hi hv hst=>?_) (fun g=>absurd g (by show ¬ 0 ≤ t.has;omega)),(fun g=>by cases g),(fun g=>by cases g)⟩
   ·obtain ⟨o,a1,_⟩:=hT.en n t ht
    exact ⟨o,a1,fun g=>absurd g (by show ¬ (3:Int) ≤ 2;omega)⟩
   ·show (s.tset n _).tasks[d]? = _
    rw [tset_ne (by omega)];exact b3
   ·refine hst.mono (fun q z _ hz=>?_) id id
    show ∃ u',(s.tset n _).tasks[q]? = _ ∧ _
    rw [tset_get ht]
    by_cases e:q = n
    ·rw [if_pos e];exact ⟨_,rfl,fun _=>by show (2:Int) < 3;omega⟩
    ·rw [if_neg e];exact ⟨z,hz,id⟩
 ·simp +decide only [stepF,if_true,if_false]
  exact same _ _ rfl rfl actor_id
 ·simp +decide only [stepF,if_true,if_false]
  by_cases hm:(cdAt s.p.methods tk).steps.length = 0
  ·rw [if_pos hm]
   exact same _ _ rfl rfl (actor_app (s:=s) (cs:=[newC (cdAt s.p.methods tk) (givL c vs ++ [nn]) nn]) rfl)
  ·rw [if_neg hm]
   obtain ⟨s1,hs1⟩:∃ s1,s1 = (s.addC (newC (cdAt s.p.methods tk) (givL c vs ++ [nn]) nn)).cset j { c with pc:=c.pc + 1 }:=⟨_,rfl⟩
   rw [← hs1]
   have ha:AcS s s1:=by
    rw [hs1]
    exact actor_trans (s1:=s.addC (newC (cdAt s.p.methods tk) (givL c vs ++ [nn]) nn)) (actor_app rfl) (actor_cset (s:=s.addC (newC (cdAt s.p.methods tk) (givL c vs ++ [nn]) nn)) (c:=c) (by
     show (s.calls ++ [_])[j]? = _
     rw [List.getElem?_append_left (List.getElem?_eq_some_iff.1 hc).1];exact hc) rfl)
   have e1:s1.tasks = s.tasks:=by rw [hs1];rfl
   have e2:s1.ends = s.ends:=by rw [hs1];rfl
   have ht1:s1.tasks[n]? = some t:=by rw [e1];exact ht
   have hT1:TI s1 F0 F0:=hT.same e1 e2 ha
   refine ⟨hT1.set ht1 (fun i=>tset_get ht1 i) (fun _ _=>rfl) ?_ actor_id rfl rfl rfl rfl (fun g=>by have g:3 ≤ t.state:=g;have:=h.st1;omega) id (.inl ⟨h.st1,h.en,h.wt⟩) (fun i v hi hv hst=>?_) (fun g=>absurd g (by show ¬ 0 ≤ t.has;omega)),(fun g=>by cases g),(fun g=>by cases g)⟩
   ·exact hT1.en n t ht1
   ·refine hst.mono (fun q z _ hz=>?_) id id
    show ∃ u',(s1.tset n _).tasks[q]? = _ ∧ _
    rw [tset_get ht1]
    by_cases e:q = n
    ·subst e
     rw [ht1] at hz;injection hz with hz;subst hz
     rw [if_pos rfl];exact ⟨_,rfl,id⟩
    ·rw [if_neg e];exact ⟨z,hz,id⟩
 ·simp +decide only [stepF,if_true,if_false]
  have hcl:∀ {l:List Nat} {i:Nat} {u:PTask},(canL s l).tasks[i]? = some u→∃ u0,s.tasks[i]? = some u0 ∧ u.has = u0.has:=fun e=>by
   obtain ⟨u0,e1,rfl⟩:=canL_of e
   exact ⟨u0,e1,by split <;> rfl⟩
  refine ⟨hT.canL (dsc_clo hiv.kd _ _ (by omega)),fun _ i u _ hu=>.inr (hcl hu),fun _ u hu=>?_⟩
  obtain ⟨u0,e1,e2⟩:=hcl hu
  rw [ht] at e1;injection e1 with e1;subst e1
  rw [e2];exact hh
 ·simp +decide only [stepF,if_true,if_false]
  by_cases hcn:t.canc = true
  ·rw [if_pos hcn]
   exact ⟨stopF_ti hiv.kd hT ht h.st1 h.wt,(fun g=>by cases g),(fun g=>by cases g)⟩
  ·rw [if_neg hcn];exact same _ _ rfl rfl actor_id
 ·simp +decide only [stepF,if_true,if_false]
  exact same _ _ rfl rfl actor_id
end Go.Ab
set_option maxHeartbeats 4000000
namespace Go.Ab
open Go Go.Ab Go.Proofs Go.Ab.Ty
theorem has_turnB {s:PRun} {n:Nat} {c:PCall} {st:Stp} {t:PTask} (h:(turnB s n c st).tasks[n]? = some t):t.has = -1:=by
 unfold turnB hasS at h
 obtain ⟨X,hX⟩:∃ X,X = ckS (actS (timeS (acK (awK (nobS (behK (turnA s n) n) n) n st) n (canF s c st) (actF c st)) n s.turns.length) n (canF s c st) (actF c st)) n:=⟨_,rfl⟩
 rw [← hX] at h
 have hl:=(List.getElem?_eq_some_iff.1 h).1
 rw [tset_len] at hl
 rw [tset_at (t:=X.tasks[n]) (List.getElem?_eq_getElem hl)] at h
 injection h with h;subst h;rfl
theorem no8 {l:Lk} {pc:Int} {st:Stp} (h:Rg.okStep l pc st) (hm:l.method = true):st.op ≠ 8:=by
 intro e
 unfold Rg.okStep at h
 rcases h with h | h | h | h | h | h | h | h
 ·omega
 ·omega
 ·omega
 ·omega
 ·omega
 ·rw [hm] at h;exact absurd h.2.2.1 (by decide)
 ·omega
 ·omega
theorem Cdk.mth {s:PRun} {c:PCall} {l:Lk} {k:Nat} (h:Cdk s c l k) (ha:0 ≤ c.actor):l.method = true:=by
 rcases h.me with ⟨_,g,_⟩ | ⟨g,_⟩
 ·omega
 ·exact g
theorem turnX_ti {s:PRun} (h:GG s) (htn:s.turns.length < 2000) {n j:Nat} {t:PTask} {c:PCall} {st:Stp} {l:Lk} {k i:Nat} (hT:TopC s n t j c st l k i) (h1:t.state = 1) (hTI:TI s F0 F0)
 (hfree:0 ≤ actF c st→∀ (i:Nat) (u:PTask),i ≠ n→s.tasks[i]? = some u→u.has ≠ actF c st):TI (turnX s n j c st) F0 F0:=by
 obtain ⟨hi,hg,hz⟩:=h
 obtain ⟨hK,hac⟩:=hT.tok hi hg hz h1
 have hMM:=MM_eq
 have hck:=hz.ck
 obtain ⟨t9,hA9,hb9⟩:=turnB_cs hK hac (by omega) (by omega)
 have hcan9:canF (turnB s n c st) c st = canF s c st:=canF_cs hA9 c st
 have hh9:t9.has = -1:=has_turnB hA9.tk
 unfold turnX
 obtain ⟨s9,hs9⟩:∃ s9,s9 = turnB s n c st:=⟨_,rfl⟩
 rw [← hs9] at hA9 hcan9 ⊢
 have hI9:=hA9.iv
 have ht9:=hA9.tk
 have hK9:Tok 80000 s9 n j t9 c st:=hK.cs hA9 (by omega)
 have ht:=hT.ht
 obtain ⟨b1,b2,b3,b4,b5⟩:=hA9.tst
 obtain ⟨c1,c2,c3,c4⟩:=hA9.tsa
 have hget:∀ i,s9.tasks[i]? = if i = n then some t9 else s.tasks[i]?:=fun i=>by
  by_cases e:i = n
  ·rw [if_pos e,e];exact ht9
  ·rw [if_neg e];exact hA9.ot i e
 have hT9:TI s9 F0 F0:=by
  refine hTI.set ht hget (fun i _=>by rw [hA9.ends]) ?_ (actor_eq hA9.calls) b5 c3 c4 b4 (fun g=>by omega) (fun g=>by omega) (.inl ⟨hK9.st1,hK9.en,hK9.wt⟩) (fun i u hi hu hst=>?_) (fun g=>by omega)
  ·obtain ⟨o,a1,a2⟩:=hTI.en n t ht
   exact ⟨o,by rw [hA9.ends];exact a1,by rw [b1];exact a2⟩
  ·refine hst.mono (fun d v _ hv=>?_) id id
   by_cases e:d = n
   ·subst e
    rw [ht] at hv;injection hv with hv;subst hv
    exact ⟨t9,ht9,by rw [b1];exact id⟩
   ·exact ⟨v,by rw [hA9.ot d e];exact hv,id⟩
 have e9t:tkAt s9 n = t9:=tkAt_eq ht9
 rw [e9t]
 cases hcn:canF s c st with
 | false =>
   rw [if_pos rfl]
   exact stopF_ti hI9.kd hT9 ht9 hK9.st1 hK9.wt
 | true =>
   rw [if_neg (by simp)]
   have hS:Sok s9 n j t9 c st:={ hK9.cs (Cs.refl hI9 ht9) (k':=40000) (by omega) with can:=by rw [hcan9];exact hcn,bh:=hb9 }
   have hR:=stepF_iv hS (time:=s.turns.length)
   have hSt:=stepF_ti hS hT9 (by omega) (time:=s.turns.length)
   obtain ⟨r,hr⟩:∃ r,r = stepF s9 n j t9 c st s.turns.length:=⟨_,rfl⟩
   rw [← hr] at hR hSt ⊢
   obtain ⟨rb,s10⟩:=r
   cases rb with
   | false=>rw [if_pos rfl];exact hSt.ti
   | true =>
     rw [if_neg (by simp)]
     obtain ⟨t10,c10,r1,r2,r3,r4,r5,r6,r7,r8,r9,r10⟩:=hR.go rfl
     simp only at r1 r7
     have hT10:TI s10 F0 F0:=hSt.ti
     have hot:=hSt.ot rfl
     have htn10:=hSt.tn rfl t10 r1
     simp only at hot
     unfold turnG
     simp only
     by_cases hcc:0 ≤ c.actor ∧ st.op ≠ 12 ∧ st.op ≠ 9 ∧ c.pc ≠ (c.code.steps.length:Int) - 1
     ·rw [if_pos hcc]
      have hne8:=no8 hT.os (hT.cd.mth hcc.1)
      have haF:actF c st = c.actor:=by unfold actF;rw [if_neg hne8]
      have hget2:∀ i,(hasS s10 n c.actor).tasks[i]? = if i = n then some { t10 with has:=c.actor } else s10.tasks[i]?:=fun i=>by
       unfold hasS;rw [tkAt_eq r1];exact tset_get r1 i
      have hj10:t10.sarr[t10.slen - 1]? = some j:=by rw [r2,r3];exact hK9.tp
      have hT11:TI (hasS s10 n c.actor) F0 F0:=by
       refine hT10.set r1 hget2 (fun _ _=>rfl) ?_ actor_id rfl rfl rfl rfl (fun g=>by have g:3 ≤ t10.state:=g;omega) id (.inl ⟨r4,r5,by rw [r6];exact hK9.wt⟩) (fun i u hi hu hst=>?_) (fun g=>⟨⟨j,c10,hj10,r7,r10⟩,fun i u hi hu=>?_⟩)
       ·exact hT10.en n t10 r1
       ·refine hst.mono (fun d v _ hv=>?_) id id
        rw [hget2]
        by_cases e:d = n
        ·subst e
         rw [r1] at hv;injection hv with hv;subst hv
         rw [if_pos rfl];exact ⟨_,rfl,id⟩
        ·rw [if_neg e];exact ⟨v,hv,id⟩
       ·intro e
        have e:u.has = c.actor:=e
        rcases hot i u hi hu with g | ⟨u0,g1,g2⟩
        ·omega
        ·rw [hget,if_neg hi] at g1
         exact hfree (by rw [haF];exact hcc.1) i u0 hi g1 (by rw [haF,← g2,e])
      have ht11:(hasS s10 n c.actor).tasks[n]? = some { t10 with has:=c.actor }:=by rw [hget2,if_pos rfl]
      refine goOnF_ti (settleF_ti (n + 1)) (by omega) hT11 ht11 r4 r5 (by show t10.waits < 0;rw [r6];exact hK9.wt) (fun _=>⟨hj10,fun d hd=>?_⟩)
      have hd:s10.calls[j]? = some d:=hd
      rw [r7] at hd;injection hd with hd;subst hd
      rw [r8,r9]
      have:=hT.pc
      omega
     ·rw [if_neg hcc]
      exact goOnF_ti (settleF_ti (n + 1)) (by omega) hT10 r1 r4 r5 (by rw [r6];exact hK9.wt) (fun g=>by omega)
theorem rdF_free {s:PRun} {l:List Int}:∀ (m:Nat) (x:Int),x ∈ (rdF s l m).2→∃ i:Nat,x = (i:Int) ∧ i < m ∧ ∃ t,s.tasks[i]? = some t ∧ t.state = 1 ∧ blkT s i = false:=by
 intro m
 induction m with
 | zero=>intro x h;simp [rdF] at h
 | succ m ih =>
   intro x h
   simp only [rdF] at h
   have up:(∃ i:Nat,x = (i:Int) ∧ i < m ∧ ∃ t,s.tasks[i]? = some t ∧ t.state = 1 ∧ blkT s i = false)→∃ i:Nat,x = (i:Int) ∧ i < m + 1 ∧ ∃ t,s.tasks[i]? = some t ∧ t.state = 1 ∧ blkT s i = false:=by
    rintro ⟨i,a,b,c⟩;exact ⟨i,a,by omega,c⟩
   split at h
   ·rename_i t ht
    split at h
    ·exact up (ih x h)
    ·rename_i hs
     have h1:t.state = 1:=Classical.byContradiction fun e=>hs (.inl e)
     have h2:blkT s m = false:=by
      cases e:blkT s m with
      | false=>rfl
      | true=>exact absurd (.inr e) hs
     split at h
     ·rw [List.mem_singleton] at h;exact ⟨m,h,by omega,t,ht,h1,h2⟩
     ·split at h
      ·exact up (ih x h)
      ·rcases List.mem_append.1 h with h | h
       ·exact up (ih x h)
       ·rw [List.mem_singleton] at h;exact ⟨m,h,by omega,t,ht,h1,h2⟩
   ·exact up (ih x h)
theorem rdF_nil {s:PRun} {l:List Int} (hl:∀ i:Nat,0 ≤ l.getD i 0):∀ m:Nat,(rdF s l m).2 = []→(rdF s l m).1 = -1 ∧ ∀ i t,i < m→s.tasks[i]? = some t→t.state = 1→blkT s i = true:=by
 intro m
 induction m with
 | zero=>intro _;exact ⟨rfl,fun i t h=>by omega⟩
 | succ m ih =>
   intro h
   simp only [rdF] at h ⊢
   have up:(rdF s l m).2 = []→(∀ t,s.tasks[m]? = some t→t.state = 1→blkT s m = true)→∀ i t,i < m + 1→s.tasks[i]? = some t→t.state = 1→blkT s i = true:=fun g1 g2 i t hi ht hs=>by
    by_cases e:i = m
    ·subst e;exact g2 t ht hs
    ·exact (ih g1).2 i t (by omega) ht hs
   cases ht:s.tasks[m]? with
   | none =>
     rw [ht] at h
     exact ⟨(ih h).1,up h fun t e=>by rw [ht] at e;cases e⟩
   | some t =>
     rw [ht] at h
     simp only at h ⊢
     by_cases hs:t.state ≠ 1 ∨ blkT s m = true
     ·rw [if_pos hs] at h ⊢
      refine ⟨(ih h).1,up h fun t' e e1=>?_⟩
      rw [ht] at e;injection e with e;subst e
      rcases hs with g | g
      ·exact absurd e1 g
      ·exact g
     ·rw [if_neg hs] at h
      exfalso
      split at h
      ·cases h
      ·rename_i h1
       split at h
       ·have:=(ih h).1
        have:=hl m
        omega
       ·simp at h
theorem passE_nn {ts:List PTask} {L:List Int} (h:∀ x ∈ L,0 ≤ x):∀ k,∀ x ∈ (passE ts k L).1,0 ≤ x:=by
 intro k
 induction k with
 | zero=>exact h
 | succ k ih =>
   simp only [passE]
   split
   ·split
    ·rename_i hc
     intro x hx
     rcases List.mem_or_eq_of_mem_set hx with hx | rfl
     ·exact ih x hx
     ·rw [List.getD_eq_getElem?_getD]
      cases e:(passE ts k L).1[k]? with
      | none=>exact Int.le_refl _
      | some y=>exact ih y (List.mem_of_getElem? e)
    ·exact ih
   ·exact ih
theorem effF_nn {s:PRun} (h:∀ t ∈ s.tasks,0 ≤ t.prio):∀ i:Nat,0 ≤ (effF s).getD i 0:=by
 have key:∀ (f:Nat) (L:List Int),(∀ x ∈ L,0 ≤ x)→∀ x ∈ effI s.tasks f L,0 ≤ x:=by
  intro f
  induction f with
  | zero=>intro L h;exact h
  | succ f ih =>
    intro L h
    simp only [effI]
    split
    ·exact ih _ (passE_nn h _)
    ·exact passE_nn h _
 intro i
 rw [List.getD_eq_getElem?_getD]
 cases e:(effF s)[i]? with
 | none=>exact Int.le_refl _
 | some y =>
   refine key _ _ (fun x hx=>?_) y (List.mem_of_getElem? e)
   obtain ⟨t,h1,rfl⟩:=List.mem_map.1 hx
   exact h t h1
theorem TopC.nx {s:PRun} {n j:Nat} {t:PTask} {c:PCall} {st:Stp} {l:Lk} {k i:Nat} (h:TopC s n t j c st l k i):nxF s n = some (j,c,st):=
 Nx.f ⟨h.ht,⟨i,h.hs,h.hj⟩,h.hc,⟨c.pc.toNat,(Int.toNat_of_nonneg h.pc.1).symm,h.es⟩⟩
theorem blkT_free {s:PRun} {n j:Nat} {t:PTask} {c:PCall} {st:Stp} {l:Lk} {k i:Nat} (h:TopC s n t j c st l k i) (hb:blkT s n = false):0 ≤ actF c st→∀ (i:Nat) (u:PTask),i ≠ n→s.tasks[i]? = some u→u.has ≠ actF c st:=by
 intro ha i u hi hu e
 unfold blkT at hb
 rw [h.nx] at hb
 simp only [blkF] at hb
 have hd:decide (actOf c st < 0) = false:=decide_eq_false (by show ¬ actF c st < 0;omega)
 rw [hd] at hb
 simp only [Bool.not_false,Bool.true_and,List.any_eq_false,List.mem_range] at hb
 have:=hb i (List.getElem?_eq_some_iff.1 hu).1
 apply this
 unfold hasN
 rw [hu]
 have e:u.has = actOf c st:=e
 have hi':¬ ((i:Int) = (n:Int)):=by omega
 simp [hi',e]
theorem blkT_has {s:PRun} {n j:Nat} {t:PTask} {c:PCall} {st:Stp} {l:Lk} {k i:Nat} (h:TopC s n t j c st l k i) (hb:blkT s n = true):0 ≤ actF c st ∧ ∃ i u,i ≠ n ∧ s.tasks[i]? = some u ∧ u.has = actF c st:=by
 unfold blkT at hb
 rw [h.nx] at hb
 simp only [blkF,Bool.and_eq_true,Bool.not_eq_true',decide_eq_false_iff_not,List.any_eq_true,List.mem_range] at hb
 obtain ⟨h1,x,h2,h3⟩:=hb
 have h1:¬ actF c st < 0:=h1
 refine ⟨by omega,x,?_⟩
 unfold hasN at h3
 obtain ⟨u,hu⟩:∃ u,s.tasks[x]? = some u:=⟨_,List.getElem?_eq_getElem h2⟩
 rw [hu] at h3
 simp at h3
 exact ⟨u,by omega,hu,h3.2⟩
theorem stuck_over {s:PRun} (h:GG s) (hT:TI s F0 F0) (hr:readyF s = []):∀ (k:Nat) (t:PTask),s.tasks[k]? = some t→3 ≤ t.state:=by
 have hpr:∀ t ∈ s.tasks,0 ≤ t.prio:=fun t ht=>by
  obtain ⟨i,hi⟩:=List.getElem?_of_mem ht
  exact (h.gi.ta i t hi).pr.1
 have hb:=(rdF_nil (effF_nn hpr) s.tasks.length hr).2
 have no1:∀ (k:Nat) (t:PTask),s.tasks[k]? = some t→t.state ≠ 1:=fun k t ht h1=>by
  obtain ⟨j,c,st,l,q,i,hC⟩:=topC_of h.iv h.gi ht h1
  obtain ⟨ha,x,u,hx,hu,he⟩:=blkT_has hC (hb k t (List.getElem?_eq_some_iff.1 ht).1 ht h1)
  -- who has the actor may go on
  have hu1:u.state = 1:=by
   rcases hT.st x u hu with ⟨g,_⟩ | ⟨_,_,g,_⟩ | ⟨_,_,_,g,_⟩ | ⟨_,_,_,g⟩
   ·exact g
   ·omega
   ·omega
   ·omega
  obtain ⟨j2,c2,st2,l2,q2,i2,hC2⟩:=topC_of h.iv h.gi hu hu1
  obtain ⟨ha2,y,v,hy,hv,he2⟩:=blkT_has hC2 (hb x u (List.getElem?_eq_some_iff.1 hu).1 hu hu1)
  obtain ⟨j3,c3,e1,e2,e3⟩:=hT.hs x u hu (by omega)
  rw [hC2.hs,Nat.add_sub_cancel,hC2.hj] at e1
  injection e1 with e1;subst e1
  rw [hC2.hc] at e2;injection e2 with e2;subst e2
  have hne8:=no8 hC2.os (hC2.cd.mth (by omega))
  have haF:actF c2 st2 = c2.actor:=by unfold actF;rw [if_neg hne8]
  exact hy (hT.hu y v x u hv hu (by omega) (by omega))
 have key:∀ (d k:Nat) (t:PTask),s.tasks.length - k ≤ d→s.tasks[k]? = some t→3 ≤ t.state:=by
  intro d
  induction d with
  | zero=>intro k t h0 ht;have:=(List.getElem?_eq_some_iff.1 ht).1;omega
  | succ d ih =>
    intro k t h0 ht
    rcases hT.st k t ht with ⟨g,_⟩ | ⟨g1,g2,g3,c,u,g4,g5,g6,g7⟩ | ⟨g1,g2,g3,g4,g5⟩ | ⟨g,_⟩
    ·exact absurd g (no1 k t ht)
    ·obtain ⟨c',t',b1,b2,b3,_⟩:=hT.kd k t c ht g5
     have:c' = c:=by omega
     subst this
     have:=ih c' u (by omega) g6
     rcases g7 with g | g
     ·exact g.elim
     ·omega
    ·rcases g5 with g | ⟨c,u,g6,g7,g8⟩
     ·exact g.elim
     ·obtain ⟨c',t',b1,b2,b3,_⟩:=hT.kd k t c ht g6
      have:c' = c:=by omega
      subst this
      have:=ih c' u (by omega) g7
      omega
    ·omega
 exact fun k t ht=>key _ k t (Nat.le_refl _) ht
end Go.Ab
