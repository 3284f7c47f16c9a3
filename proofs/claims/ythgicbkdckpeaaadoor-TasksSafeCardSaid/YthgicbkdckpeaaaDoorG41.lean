/- Part of the proof. -/
import Derived.Test.YthgicbkdckpeaaaDoorG40
set_option linter.unusedSimpArgs false
set_option linter.unusedVariables false
set_option maxHeartbeats 4000000
namespace Go.Ab
open Go Go.Ab Go.Proofs Go.Ab.Ty
theorem FI.spawn {own:Nat→Ow} {s s':PRun} {j:Nat} {c:PCall} {st:Stp} (g:SendH own s j c st true) {cd:Cd} (hl:(st.vars.length:Int)=cd.params) (h4:cd.params≤7) {a b:Int} {ex:List Int} (hex:(ex=[]∧a<0)∨(ex=[a]∧0≤a∧a<s.p.actors))
 (hp:s'.p=s.p) (hcl:s'.calls=(s.calls++[newC cd (givL c st.vars++ex) a]).set j { c with pc:=c.pc+1 }) (hob:s'.objs=s.objs)
 (htk:∀(n:Nat) (t':PTask) (i j1:Nat),s'.tasks[n]?=some t'→i<t'.slen→t'.sarr[i]?=some j1→j1=s.calls.length∨∃(n:Nat) (t:PTask) (i:Nat),s.tasks[n]?=some t∧i<t.slen∧t.sarr[i]?=some j1) :
 ∃own',FI own' s'∧Mv own own' s j b:=by
 have h:=g.h
 have hjl:=(List.getElem?_eq_some_iff.1 h.hc).1
 obtain ⟨dst,hdst⟩:∃dst:Int→Ow,dst=fun ρ=>Ow.fr s.calls.length ((st.vars.map (rgc c).of).idxOf ρ+1):=⟨_,rfl⟩
 refine ⟨fun o=>mvS j (st.vars.map (rgc c).of) dst (own o),?_,fun o hlt=>?_⟩
 ·refine h.fi.move h.gi h.ao (j:=j) hp (fun n t' i j1 c1 e1 e2 e3 e4=>?_) (fun o hlt j' ρ k e=>by show mvS _ _ _ (own o)=_;rw [e];exact mvS_ne k) (fun o hlt a e=>by show mvS _ _ _ (own o)=_;rw [e];rfl) (fun o x e1 e2=>?_) (fun o hlt j' ρ e=>?_)
  ·rw [hcl] at e4
   rcases htk n t' i j1 e1 e2 e3 with q|⟨n0,t0,i0,b1,b2,b3⟩
   ·subst q
    rw [List.getElem?_set_ne (by omega),List.getElem?_append_right (Nat.le_refl _),Nat.sub_self] at e4
    simp at e4
    subst e4
    exact .inl (g.new hl h4 hex fun o _=>by rw [hdst])
   ·by_cases e:j1=j
    ·subst e
     rw [List.getElem?_set_self (by simp;omega)] at e4
     injection e4 with e4;subst e4
     exact .inl (g.good dst fun o _=>rfl)
    ·rw [List.getElem?_set_ne (fun q=>e q.symm)] at e4
     have hj1:=(h.iv.wf.tsk t0 (List.mem_of_getElem? b1)).1 j1 (List.mem_of_getElem? b3)
     rw [List.getElem?_append_left hj1] at e4
     exact .inr ⟨e,n0,t0,i0,b1,b2,b3,e4⟩
  ·show mvS _ _ _ (own x.2.toNat)=mvS _ _ _ (own o)
   rw [hob] at e1
   rw [h.fi.ln o x e1 e2]
  ·rw [hcl,List.length_set,List.length_append]
   rw [hob] at hlt
   have e':mvS j (st.vars.map (rgc c).of) dst (own o)=.fr j' ρ:=e
   cases ho:own o with
   | ac a=>rw [ho] at e';cases e'
   | fr j1 ρ1 =>
     rw [ho] at e'
     simp only [mvS] at e'
     split at e'
     ·rw [hdst] at e';injection e' with e1 e2;subst e1;simp
     ·injection e' with e1 e2;subst e1
      have:=h.fi.cl o hlt _ _ ho
      simp;omega
 ·show mvS _ _ _ (own o)=own o∨_
  cases ho:own o with
  | ac a=>exact .inl rfl
  | fr j1 ρ1 =>
    by_cases e:j1=j∧ρ1∈st.vars.map (rgc c).of
    ·refine .inr ⟨⟨ρ1,by rw [e.1]⟩,.inl ⟨s.calls.length,(st.vars.map (rgc c).of).idxOf ρ1+1,?_,.inr rfl⟩⟩
     show mvS _ _ _ (own o)=_
     rw [ho,hdst]
     exact if_pos e
    ·exact .inl (if_neg e)
end Go.Ab
set_option maxHeartbeats 4000000
namespace Go.Ab
open Go Go.Ab Go.Proofs Go.Ab.Ty
theorem canL_sm (s:PRun) (l:List Nat):Sm s (canL s l):=by
 refine ⟨⟨rfl,rfl,rfl,rfl,rfl,rfl,rfl,rfl,rfl⟩,Nat.le_refl _,fun _ _=>rfl,canL_len,fun n t' e=>?_,rfl,fun j c h=>⟨c,h,rfl,rfl,rfl,rfl⟩,fun b h=>h⟩
 have hk:n<s.tasks.length:=by rw [← canL_len (l:=l)];exact (List.getElem?_eq_some_iff.1 e).1
 obtain ⟨t,h⟩:∃t,s.tasks[n]?=some t:=⟨_,List.getElem?_eq_getElem hk⟩
 rw [canL_at h] at e
 injection e with e
 subst e
 refine ⟨t,h,?_,?_,fun g=>⟨?_,fun i=>?_⟩⟩<;>split
 ·rfl
 ·rfl
 ·exact Nat.le_refl _
 ·exact Nat.le_refl _
 ·exact g
 ·exact g
 ·exact Int.le_refl _
 ·exact Int.le_refl _
theorem stopF_sm {s:PRun} (h:Iv s) (hg:Gi s) {n:Nat} {t:PTask} (ht:s.tasks[n]?=some t) (hwt:t.waits<0) (hb1:s.pool.length+40000≤MM) (hb2:s.behs.length+40≤MM):Sm s (stopF s n):=by
 have hw:=h.wf
 have hn:=(List.getElem?_eq_some_iff.1 ht).1
 have hkd:=h.kd.kd n t ht
 have hn32:=hw.nT
 obtain ⟨f,hf⟩:∃f,f=n+1:=⟨_,rfl⟩
 have hf32:f≤32:=by omega
 have hfp:s.pool.length+1001*f≤MM:=by omega
 have hfb:s.behs.length+f≤MM:=by omega
 have hnl:n∉t.kids.flatMap fun k=>dsc s (s.tasks.length) k.toNat:=by
  intro hm
  obtain ⟨k,h1,h2⟩:=List.mem_flatMap.1 hm
  obtain ⟨j,rfl,h3,h4⟩:=hkd k h1
  have:=dsc_ge h.kd _ _ _ h2
  rw [Int.toNat_natCast] at this
  omega
 have htk:(canK s t.kids).tasks[n]?=some t:=by unfold canK;rw [canL_at ht,if_neg hnl]
 have hIk:Iv (canK s t.kids):=h.can _
 obtain ⟨a1,a2,a3,a4⟩:=hIk.wf.tsk t (List.mem_of_getElem? htk)
 have hI2:Iv ((canK s t.kids).tset n (clo t 4)):=hIk.tset htk rfl (Nat.le_refl _) (hIk.stk n t htk) rfl rfl a3 a4 (fun e=>absurd e (by show ¬(3:Int)≤2;omega)) (fun e=>absurd e (by show ¬ 0≤t.waits;omega)) (.inr (by show (3:Int)≤4;omega)) (fun e=>by
  rcases e with e|e
  ·have:(2:Int)=1:=e
   omega
  ·have:0≤t.waits:=e
   omega)
 have hE:stopF s n=settleF f ((canK s t.kids).tset n (clo t 4)) n:=by unfold stopF;rw [ht,hf]
 rw [hE]
 have hgk:Gi (canK s t.kids):=hg.canL _
 refine ((canL_sm s _).trans (Sm.tset (t':=clo t 4) htk rfl (Nat.le_refl _) (fun g=>⟨g,fun _=>Int.le_refl _⟩))).trans (settleF_sm f _ n hI2 (hgk.tset htk ⟨rfl,rfl,rfl,rfl,rfl,.inl rfl,fun e=>?_,fun e=>?_⟩) hfp hfb)
 ·have:(2:Int)=1:=e
  omega
 ·have:0≤t.waits:=e
  omega
theorem nth_at' {α:Type} {d x:α} {l:List α} {z:Int} (h0:0≤z) (h:l[z.toNat]?=some x):nth d l z=x:=by
 unfold nth;rw [h];rfl
theorem set_nn {c:PCall} {vs:List Int} (h:setB c vs=true):∀v∈vs,0≤c.vars.getD v.toNat 0:=by
 intro v hv
 unfold setB at h
 simp only [Bool.not_eq_true',List.any_eq_false,decide_eq_true_eq] at h
 have:=h v hv
 omega
theorem Mv.same {own:Nat→Ow} {s:PRun} {j:Nat} {a:Int}:Mv own own s j a:=fun _ _=>.inl rfl
theorem step_fi {own:Nat→Ow} {s:PRun} {n j:Nat} {t:PTask} {c:PCall} {st:Stp} {l:Lk} {k i:Nat} {time:Int} (hS:Sok s n j t c st) (hT:TopC s n t j c st l k i) (hg:Gi s) (hao:s.p.actors.toNat≤s.objs.length) (ha:Acc1 s.p) (h:FI own s) :
 ((stepF s n j t c st time).1=true→∃own' c8,(stepF s n j t c st time).2.calls[j]?=some c8∧FI own' ((stepF s n j t c st time).2.cset j { c8 with pc:=c8.pc+1 })∧Mv own own' s j (actF c st)) ∧
   ((stepF s n j t c st time).1=false→∃own',FI own' (stepF s n j t c st time).2∧Mv own own' s j (actF c st)):=by
 have hiv:=hS.iv
 have hc:=hS.hc
 have hcm:=List.mem_of_getElem? hc
 have hjl:=(List.getElem?_eq_some_iff.1 hc).1
 have hob:=hS.vok.ob
 have hcan:=hS.can
 have hO:OpH own s j c st:=⟨h,hiv,hg,hao,hc,h.fr n t i j c hT.ht (by rw [hT.hs];omega) hT.hj hc,hT.pc.1,hT.es,acc_step hg ha hcm hT.pc.1 hT.es⟩
 have hact:st.op≠8→actF c st=c.actor:=fun e=>if_neg e
 have same:∀s':PRun,s'.p=s.p→s'.tasks=s.tasks→s'.calls=s.calls→s'.objs=s.objs→st.op≠1∧st.op≠2∧st.op≠3∧st.op≠6∧st.op≠8∧st.op≠9→∃own' c8,s'.calls[j]?=some c8∧FI own' (s'.cset j { c8 with pc:=c8.pc+1 })∧Mv own own' s j (actF c st):=fun s' e1 e2 e3 e4 e5 =>
  ⟨own,c,by rw [e3];exact hc,FI.op45 hO e5 e1 (.inl e2) (by show s'.calls.set _ _=_;rw [e3]) (by show s'.objs.length=_;rw [e4]) (fun o x hx=>⟨x,by rw [← e4];exact hx,rfl⟩),.same⟩
 obtain ⟨r,hr⟩:∃r,r=stepF s n j t c st time:=⟨_,rfl⟩
 rw [← hr]
 unfold stepF at hr
 by_cases h1:st.op=1
 ·rw [if_pos h1] at hr;subst hr
  refine ⟨fun _=>?_,fun e=>by cases e⟩
  obtain ⟨own',g1,g2⟩:=FI.op1 (s':=((s.mkO st.n).cset j { c with vars:=c.vars.set st.v.toNat s.objs.length }).cset j { c with vars:=c.vars.set st.v.toNat s.objs.length,pc:=c.pc+1 }) (z:=st.n) hO h1 (hS.vok.v (.inl h1)).1 rfl rfl (List.set_set ..) rfl
  exact ⟨own',_,cset_at (s:=s.mkO st.n) hc,g1,fun o hlt=>.inl (g2 o hlt)⟩
 rw [if_neg h1] at hr
 by_cases h2:st.op=2
 ·rw [if_pos h2] at hr;subst hr
  refine ⟨fun _=>?_,fun e=>by cases e⟩
  have hw:=hS.vok.w (.inl h2)
  have hv:=hS.vok.v (.inr (.inl h2))
  have hsb:setB c [st.w]=true:=by
   unfold canF at hcan
   rw [if_neg h1,if_pos h2] at hcan
   simp at hcan;exact hcan.1
  obtain ⟨wn,w1,w2,w3,w4⟩:=set_at hsb (List.mem_singleton.2 rfl) hw hob
  have w2':c.vars[st.w.toNat]?=some ((varN c st.w:Nat):Int):=by rw [w1,Int.toNat_natCast];rw [w1] at w2;exact w2
  simp only
  by_cases hl:0≤(objAt s (varN c st.w)).2
  ·rw [if_pos hl]
   exact ⟨own,_,cset_at (s:=s.addA _) hc,FI.op2a hO h2 hv.1 hw.1 w2' (by omega) (y:=objAt s (varN c st.w)) (by rw [Int.toNat_natCast];exact w4) hl rfl rfl (List.set_set ..) rfl,.same⟩
  ·rw [if_neg hl]
   obtain ⟨own',g1,g2⟩:=FI.op2b (s':=(((((s.addA ⟨whoF c n,varN c st.w,false,time⟩).mkO 0).setO (varN c st.w) ((objAt s (varN c st.w)).1,s.objs.length)).addA ⟨whoF c n,varN c st.w,true,time⟩).cset j { c with vars:=c.vars.set st.v.toNat s.objs.length }).cset j { c with vars:=c.vars.set st.v.toNat s.objs.length,pc:=c.pc+1 }) (z1:=0) (z:=(objAt s (varN c st.w)).1) hO h2 hv.1 hw.1 w2' (by omega) rfl rfl (List.set_set ..) rfl
   exact ⟨own',_,cset_at (s:=(((s.addA _).mkO 0).setO _ _).addA _) hc,g1,fun o hlt=>.inl (g2 o hlt)⟩
 rw [if_neg h2] at hr
 by_cases h3:st.op=3
 ·rw [if_pos h3] at hr;subst hr
  refine ⟨fun _=>?_,fun e=>by cases e⟩
  have hw:=hS.vok.w (.inr h3)
  have hv:=hS.vok.v (.inr (.inr (.inl h3)))
  have hsb:setB c [st.v,st.w]=true:=by
   unfold canF at hcan
   rw [if_neg h1,if_neg h2,if_pos h3] at hcan
   exact hcan
  obtain ⟨vn,v1,v2,v3,v4⟩:=set_at hsb (by simp) hv hob
  obtain ⟨wn,w1,w2,w3,w4⟩:=set_at hsb (v:=st.w) (by simp) hw hob
  have v2':c.vars[st.v.toNat]?=some ((varN c st.v:Nat):Int):=by rw [v1,Int.toNat_natCast];rw [v1] at v2;exact v2
  have w2':c.vars[st.w.toNat]?=some ((varN c st.w:Nat):Int):=by rw [w1,Int.toNat_natCast];rw [w1] at w2;exact w2
  obtain ⟨own',g1,g2⟩:=FI.op3 (s':=(((s.addA ⟨whoF c n,varN c st.v,true,time⟩).setO (varN c st.v) ((objAt s (varN c st.v)).1,c.vars.getD st.w.toNat 0)).cset j { c with pc:=c.pc+1 })) (z:=(objAt s (varN c st.v)).1) hO h3 hv.1 hw.1 v2' (by omega) w2' (by omega) rfl rfl rfl (by rw [← getD_at (d:=0) w2'];rfl)
  exact ⟨own',c,hc,g1,by rw [hact (by omega)];exact g2⟩
 rw [if_neg h3] at hr
 by_cases h4:st.op=4
 ·rw [if_pos h4] at hr;subst hr
  exact ⟨fun _=>same _ rfl rfl rfl rfl (by omega),fun e=>by cases e⟩
 rw [if_neg h4] at hr
 by_cases h5:st.op=5
 ·rw [if_pos h5] at hr;subst hr
  refine ⟨fun _=>?_,fun e=>by cases e⟩
  have hv:=hS.vok.v (.inr (.inr (.inr (.inr h5))))
  have hsb:setB c [st.v]=true:=by
   unfold canF at hcan
   rw [if_neg h1,if_neg h2,if_neg h3,if_pos (.inr h5)] at hcan
   exact hcan
  obtain ⟨vn,v1,v2,v3,v4⟩:=set_at hsb (by simp) hv hob
  refine ⟨own,c,hc,FI.op45 hO (by omega) rfl (.inl rfl) rfl (by show (s.objs.set _ _).length=_;rw [List.length_set]) (fun o x hx=>?_),.same⟩
  have hx':(s.objs.set (varN c st.v) (st.n,(objAt s (varN c st.v)).2))[o]?=some x:=hx
  by_cases e:o=varN c st.v
  ·subst e
   rw [List.getElem?_set_self v3] at hx'
   injection hx' with hx';subst hx'
   exact ⟨_,v4,rfl⟩
  ·rw [List.getElem?_set_ne (fun q=>e q.symm)] at hx'
   exact ⟨x,hx',rfl⟩
 rw [if_neg h5] at hr
 -- the calls of a code, of a method
 have hos:=hT.os
 have hlp:=hT.cd.lp
 have hp8:∀(L:List Cd) (z:Int) (cd:Cd),(L=s.p.codes∨L=s.p.methods)→0≤z→L[z.toNat]?=some cd→cd.params≤7:=fun L z cd hL h0 hcd=>by
  obtain ⟨_,o2,o3⟩:=hg.ok
  have hz:=(List.getElem?_eq_some_iff.1 hcd).1
  rcases hL with rfl|rfl
  ·obtain ⟨⟨r1,r2,_⟩,_⟩:=o2 z.toNat hz
   have e:Rg.cod s.p.codes ((z.toNat:Nat):Int)=cd:=nth_at (by simpa using hcd)
   have r2':(Rg.cod s.p.codes ((z.toNat:Nat):Int)).params≤4:=r2
   rw [e] at r2';omega
  ·obtain ⟨⟨r1,r2,_⟩,_⟩:=o3 z.toNat hz
   have e:Rg.cod s.p.methods ((z.toNat:Nat):Int)=cd:=nth_at (by simpa using hcd)
   have r2':(Rg.cod s.p.methods ((z.toNat:Nat):Int)).params≤4:=r2
   rw [e] at r2';omega
 have hE:st.op=6∨st.op=9→Rg.sendE (rgc c) st.vars true=0:=fun e=>by
  have:=hO.ac
  unfold Rg.afterE at this
  rw [if_neg h1,if_neg h2,if_neg h3,if_neg (by omega),if_pos e] at this
  exact this
 have hR:st.op=6∨st.op=9→Rg.afterR (rgc c) st=Rg.sendR (rgc c) st.vars true:=fun e=>by
  unfold Rg.afterR
  rw [if_neg h1,if_neg h2,if_neg h3,if_neg (by omega),if_pos e]
 by_cases h6:st.op=6
 ·rw [if_pos h6] at hr;subst hr
  refine ⟨fun _=>?_,fun e=>by cases e⟩
  have hsb:setB c st.vars=true:=by
   unfold canF at hcan
   rw [if_neg h1,if_neg h2,if_neg h3,if_neg (by omega),if_pos h6] at hcan
   cases hq:setB c st.vars with
   | true=>rfl
   | false=>rw [hq] at hcan;cases hcan
  have hSe:SendH own s j c st true:=⟨hO,hR (.inl h6),hE (.inl h6),fun v hv=>⟨hS.vok.vs (.inl h6) v hv,set_nn hsb v hv⟩⟩
  obtain ⟨q0,cd,q1,_⟩:=hS.r6 h6
  have hcd:cdAt s.p.codes st.task=cd:=getD_at q1
  have hln:(st.vars.length:Int)=cd.params:=by
   have hcod:Rg.cod l.p.codes st.task=cd:=by rw [hlp];exact nth_at' q0 q1
   rcases hos with g|g|g|g|g|g|g|g
   ·omega
   ·omega
   ·omega
   ·rw [← hcod];exact g.2.2.2.2.2.2.2.1
   ·omega
   ·omega
   ·omega
   ·omega
  simp only
  rw [hcd]
  obtain ⟨tn,o,a1,a2,a3,a4,a5,_⟩:=startF_get (s:=s) (c:=cd) (vs:=givL c st.vars) (a:=s.pool.getD t.clk []) (prio:=st.n) (par:=(n:Int)) (canc:=t.canc) hiv.wf.endl (.inr ⟨n,t,rfl,hS.ht,hS.en,hS.wt⟩)
  have hFx:=startF_fx s cd (givL c st.vars) (s.pool.getD t.clk []) st.n n t.canc
  obtain ⟨S,hSS⟩:∃S,S=startF s cd (givL c st.vars) (s.pool.getD t.clk []) st.n n t.canc:=⟨_,rfl⟩
  rw [← hSS] at a1 a2 a3 hFx ⊢
  have hnl:n<s.tasks.length:=(List.getElem?_eq_some_iff.1 hS.ht).1
  obtain ⟨tt,htt⟩:∃tt:PTask,tt={ t with kids:=t.kids++[(s.tasks.length:Int)],spn:=if c.actor<0 then setM t.spn c.pc s.tasks.length else t.spn }:=⟨_,rfl⟩
  have ht1:tt.sarr=t.sarr∧tt.slen=t.slen:=by rw [htt];exact ⟨rfl,rfl⟩
  rw [← htt]
  have hcS:S.calls[j]?=some c:=by rw [a3,List.getElem?_append_left hjl];exact hc
  obtain ⟨own',g1,g2⟩:=FI.spawn (s':=(S.tset n tt).cset j { c with pc:=c.pc+1 }) (b:=actF c st) (a:=-1) (ex:=[]) hSe hln (hp8 _ _ cd (.inl rfl) q0 q1) (.inl ⟨rfl,by omega⟩) hFx.p (by show S.calls.set _ _=_;rw [a3,List.append_nil]) hFx.objs (fun n1 t1 i1 j1 e1 e2 e3=>by
   have e1':(S.tasks.set n tt)[n1]?=some t1:=e1
   rw [a1] at e1'
   by_cases en:n1=n
   ·subst en
    rw [List.getElem?_set_self (by simp;omega)] at e1'
    injection e1' with e1';subst e1'
    exact .inr ⟨n1,t,i1,hS.ht,by rw [← ht1.2];exact e2,by rw [← ht1.1];exact e3⟩
   ·rw [List.getElem?_set_ne (fun q=>en q.symm)] at e1'
    rcases Nat.lt_or_ge n1 s.tasks.length with q|q
    ·rw [List.getElem?_append_left q] at e1'
     exact .inr ⟨n1,t1,i1,e1',e2,e3⟩
    ·rw [List.getElem?_append_right q] at e1'
     have:n1-s.tasks.length=0:=by
      have:=(List.getElem?_eq_some_iff.1 e1').1
      simp at this;omega
     rw [this] at e1'
     simp at e1';subst e1'
     rw [a4] at e3
     have:i1=0:=by rw [a5] at e2;omega
     subst this
     simp at e3
     exact .inl e3.symm)
  exact ⟨own',c,hcS,g1,g2⟩
 rw [if_neg h6] at hr
 by_cases h7:st.op=7
 ·rw [if_pos h7] at hr
  by_cases hov:ovr s (kidN t st.n)=true
  ·rw [if_pos hov] at hr;subst hr
   exact ⟨fun _=>same _ rfl rfl rfl rfl (by omega),fun e=>by cases e⟩
  ·rw [if_neg hov] at hr;subst hr
   exact ⟨fun e=>(by cases e),fun _=>⟨own,h.sm (Sm.tset hS.ht rfl (Nat.le_refl _) (fun g=>⟨g,fun _=>Int.le_refl _⟩)),.same⟩⟩
 rw [if_neg h7] at hr
 by_cases h8:st.op=8
 ·rw [if_pos h8] at hr;subst hr
  refine ⟨fun _=>?_,fun e=>by cases e⟩
  have hsb:setB c st.vars=true:=by
   unfold canF at hcan
   rw [if_neg h1,if_neg h2,if_neg h3,if_neg (by omega),if_neg h6,if_pos (.inl h8)] at hcan
   exact hcan
  have hE8:Rg.sendE (rgc c) st.vars false=0:=by
   have:=hO.ac
   unfold Rg.afterE at this
   rw [if_neg h1,if_neg h2,if_neg h3,if_neg (by omega),if_neg (by omega),if_pos h8] at this
   exact this
  have hR8:Rg.afterR (rgc c) st=Rg.sendR (rgc c) st.vars false:=by
   unfold Rg.afterR
   rw [if_neg h1,if_neg h2,if_neg h3,if_neg (by omega),if_neg (by omega),if_pos h8]
  have hSe:SendH own s j c st false:=⟨hO,hR8,hE8,fun v hv=>⟨hS.vok.vs (.inr (.inl h8)) v hv,set_nn hsb v hv⟩⟩
  obtain ⟨r1,r2,r3⟩:=hS.r8 h8
  have hna:st.n<s.p.actors:=by
   rw [← hlp]
   rcases hos with g|g|g|g|g|g|g|g
   ·omega
   ·omega
   ·omega
   ·omega
   ·omega
   ·exact g.2.2.2.2.1
   ·omega
   ·omega
  have hv0:st.vars.getD 0 0∈st.vars:=by
   rw [getD_at (List.getElem?_eq_getElem r3)];exact List.getElem_mem _
  obtain ⟨own',g1,g2⟩:=FI.op8 (s':=((s.addA ⟨-1-(st.n.toNat:Int),st.n.toNat,true,time⟩).setO st.n.toNat ((objAt s st.n.toNat).1,c.vars.getD (st.vars.getD 0 0).toNat 0)).cset j { c with pc:=c.pc+1 }) (z:=(objAt s st.n.toNat).1) hSe r1 hna hv0 rfl rfl rfl rfl
  exact ⟨own',c,hc,g1,by rw [show actF c st=st.n from if_pos h8];exact g2⟩
 rw [if_neg h8] at hr
 by_cases h9:st.op=9
 ·rw [if_pos h9] at hr
  have hsb:setB c st.vars=true:=by
   unfold canF at hcan
   rw [if_neg h1,if_neg h2,if_neg h3,if_neg (by omega),if_neg h6,if_pos (.inr h9)] at hcan
   exact hcan
  have hSe:SendH own s j c st true:=⟨hO,hR (.inr h9),hE (.inr h9),fun v hv=>⟨hS.vok.vs (.inr (.inr h9)) v hv,set_nn hsb v hv⟩⟩
  obtain ⟨q0,cd,q1,_⟩:=hS.r9 h9
  have hcd:cdAt s.p.methods st.task=cd:=getD_at q1
  have hln:(st.vars.length:Int)=cd.params∧0≤st.n∧st.n<s.p.actors:=by
   have hcod:Rg.cod l.p.methods st.task=cd:=by rw [hlp];exact nth_at' q0 q1
   rw [← hlp]
   rcases hos with g|g|g|g|g|g|g|g
   ·omega
   ·omega
   ·omega
   ·omega
   ·omega
   ·omega
   ·rw [← hcod];exact ⟨g.2.2.2.2.2.2.2.1,g.2.2.1,g.2.2.2.1⟩
   ·omega
  rw [hcd] at hr
  have hsl:=(hiv.wf.tsk t (List.mem_of_getElem? hS.ht)).2.1
  by_cases hz:cd.steps.length=0
  ·rw [if_pos hz] at hr;subst hr
   refine ⟨fun _=>?_,fun e=>by cases e⟩
   have hcS:(s.addC (newC cd (givL c st.vars++[st.n]) st.n)).calls[j]?=some c:=by
    show (s.calls++[_])[j]?=_
    rw [List.getElem?_append_left hjl];exact hc
   obtain ⟨own',g1,g2⟩:=FI.spawn (s':=(s.addC (newC cd (givL c st.vars++[st.n]) st.n)).cset j { c with pc:=c.pc+1 }) (b:=actF c st) (a:=st.n) (ex:=[st.n]) hSe hln.1 (hp8 _ _ cd (.inr rfl) q0 q1) (.inr ⟨rfl,hln.2.1,hln.2.2⟩) rfl rfl rfl (fun n1 t1 i1 j1 e1 e2 e3=>.inr ⟨n1,t1,i1,e1,e2,e3⟩)
   exact ⟨own',c,hcS,g1,g2⟩
  ·rw [if_neg hz] at hr;subst hr
   refine ⟨fun e=>(by cases e),fun _=>?_⟩
   obtain ⟨tt,htt⟩:∃tt:PTask,tt={ t with sarr:=pshF t.sarr t.slen s.calls.length,slen:=t.slen+1 }:=⟨_,rfl⟩
   have ht1:tt.sarr=pshF t.sarr t.slen s.calls.length∧tt.slen=t.slen+1:=by rw [htt];exact ⟨rfl,rfl⟩
   rw [← htt]
   exact FI.spawn (s':=((s.addC (newC cd (givL c st.vars++[st.n]) st.n)).cset j { c with pc:=c.pc+1 }).tset n tt) (b:=actF c st) (a:=st.n) (ex:=[st.n]) hSe hln.1 (hp8 _ _ cd (.inr rfl) q0 q1) (.inr ⟨rfl,hln.2.1,hln.2.2⟩) rfl rfl rfl (fun n1 t1 i1 j1 e1 e2 e3=>by
    by_cases en:n=n1
    ·subst en
     rw [tset_at (s:=(s.addC _).cset j _) hS.ht] at e1
     injection e1 with e1;subst e1
     rw [ht1.2] at e2
     rw [ht1.1] at e3
     unfold pshF at e3
     by_cases ei:i1=t.slen
     ·subst ei
      refine .inl ?_
      split at e3
      ·rename_i q
       rw [List.getElem?_set_self q] at e3
       injection e3 with e3;exact e3.symm
      ·rename_i q
       rw [List.getElem?_append_right (by omega),show t.slen-t.sarr.length=0 by omega] at e3
       simp at e3;exact e3.symm
     ·refine .inr ⟨n,t,i1,hS.ht,by omega,?_⟩
      split at e3
      ·rw [List.getElem?_set_ne (fun q=>ei q.symm)] at e3;exact e3
      ·rw [List.getElem?_append_left (by omega)] at e3;exact e3
    ·rw [tset_ne en] at e1
     exact .inr ⟨n1,t1,i1,e1,e2,e3⟩)
 rw [if_neg h9] at hr
 by_cases h10:st.op=10
 ·rw [if_pos h10] at hr;subst hr
  refine ⟨fun _=>⟨own,c,hc,FI.op45 hO (by omega) rfl (.inr fun n1 t1 e1=>?_) rfl rfl (fun o x hx=>⟨x,hx,rfl⟩),.same⟩,fun e=>by cases e⟩
  have hk:n1<s.tasks.length:=by
   have:n1<(canL s (dsc s s.tasks.length (kidN t st.n))).tasks.length:=(List.getElem?_eq_some_iff.1 e1).1
   rwa [canL_len] at this
  obtain ⟨u,hu⟩:∃u,s.tasks[n1]?=some u:=⟨_,List.getElem?_eq_getElem hk⟩
  have e1':(canL s (dsc s s.tasks.length (kidN t st.n))).tasks[n1]?=some t1:=e1
  rw [canL_at hu] at e1'
  injection e1' with e1';subst e1'
  exact ⟨u,hu,by split<;>rfl,by split<;>rfl⟩
 rw [if_neg h10] at hr
 by_cases h11:st.op=11
 ·rw [if_pos h11] at hr
  by_cases hcc:t.canc=true
  ·rw [if_pos hcc] at hr;subst hr
   exact ⟨fun e=>(by cases e),fun _=>⟨own,h.sm (stopF_sm hiv hg hS.ht hS.wt (by have:=hS.hP;omega) (by have:=hS.hB;omega)),.same⟩⟩
  ·rw [if_neg hcc] at hr;subst hr
   exact ⟨fun _=>same _ rfl rfl rfl rfl (by omega),fun e=>by cases e⟩
 rw [if_neg h11] at hr;subst hr
 exact ⟨fun _=>same _ rfl rfl rfl rfl (by omega),fun e=>by cases e⟩
end Go.Ab
set_option maxHeartbeats 4000000
namespace Go.Ab
open Go Go.Ab Go.Proofs Go.Ab.Ty
theorem accN_own {own:Nat→Ow} {s:PRun} {n j:Nat} {t:PTask} {c:PCall} {st:Stp} {l:Lk} {k i:Nat} {time:Int} (hS:Sok s n j t c st) (hT:TopC s n t j c st l k i) (hO:OpH own s j c st) :
 ∀x∈accN s n c st time,0≤x.object∧x.object.toNat<s.objs.length∧((∃ρ,own x.object.toNat=.fr j ρ)∨(0≤actF c st∧own x.object.toNat=.ac (actF c st))):=by
 have hob:=hS.vok.ob
 have hcan:=hS.can
 have hW:=hO.cw.w
 have key:∀v:Int,st.op≠8→inV c v→setB c [v]=true→0<(rgc c).of v→(0:Int)≤(varN c v:Nat)∧((varN c v:Nat):Int).toNat<s.objs.length∧((∃ρ,own ((varN c v:Nat):Int).toNat=.fr j ρ)∨(0≤actF c st∧own ((varN c v:Nat):Int).toNat=.ac (actF c st))):=fun v h8 hv hs hp=>by
  obtain ⟨vn,v1,v2,v3,v4⟩:=set_at hs (List.mem_singleton.2 rfl) hv hob
  have v2':c.vars[v.toNat]?=some ((varN c v:Nat):Int):=by rw [v1,Int.toNat_natCast];rw [v1] at v2;exact v2
  have hvn:((v.toNat:Nat):Int)=v:=Int.toNat_of_nonneg hv.1
  have hg:=hO.gd v.toNat _ v2' (by omega) (by rw [hvn];exact hp)
  rw [hvn] at hg
  refine ⟨by omega,by rw [Int.toNat_natCast];exact v3,?_⟩
  rw [hg,show actF c st=c.actor from if_neg h8]
  unfold owc
  by_cases e:(rgc c).of v=(rgc c).actor
  ·exact .inr ⟨hO.act (by omega),if_pos e⟩
  ·exact .inl ⟨_,if_neg e⟩
 have hE:=hO.ac
 unfold Rg.afterE at hE
 unfold canF at hcan
 intro x hx
 unfold accN at hx
 by_cases h1:st.op=1
 ·rw [if_neg (by omega),if_neg (by omega),if_neg (by omega),if_neg (by omega),if_neg (by omega)] at hx;cases hx
 rw [if_neg h1] at hE hcan
 by_cases h2:st.op=2
 ·rw [if_pos h2] at hx hE hcan
  have hsb:setB c [st.w]=true:=by simp at hcan;exact hcan.1
  have:=key st.w (by omega) (hS.vok.w (.inl h2)) hsb (must_pos hW hE _ (by simp))
  split at hx
  ·rw [List.mem_singleton] at hx;subst hx;exact this
  ·simp only [List.mem_cons,List.not_mem_nil,or_false] at hx
   rcases hx with rfl|rfl<;>exact this
 rw [if_neg h2] at hx hE hcan
 by_cases h3:st.op=3
 ·rw [if_pos h3] at hx hE hcan
  rw [List.mem_singleton] at hx;subst hx
  refine key st.v (by omega) (hS.vok.v (.inr (.inr (.inl h3)))) ?_ (must_pos hW hE _ (by simp))
  unfold setB at hcan ⊢
  simp at hcan ⊢
  exact hcan.1
 rw [if_neg h3] at hx hE hcan
 by_cases h45:st.op=4∨st.op=5
 ·rw [if_pos h45] at hE hcan
  have:=key st.v (by omega) (hS.vok.v (by omega)) hcan (must_pos hW hE _ (by simp))
  split at hx
  ·rw [List.mem_singleton] at hx;subst hx;exact this
  split at hx
  ·rw [List.mem_singleton] at hx;subst hx;exact this
  ·omega
 rw [if_neg (by omega),if_neg (by omega)] at hx
 by_cases h8:st.op=8
 ·rw [if_pos h8] at hx
  rw [List.mem_singleton] at hx;subst hx
  obtain ⟨r1,r2,r3⟩:=hS.r8 h8
  have hna:st.n<s.p.actors:=by
   rw [← hT.cd.lp]
   rcases hT.os with g|g|g|g|g|g|g|g
   ·omega
   ·omega
   ·omega
   ·omega
   ·omega
   ·exact g.2.2.2.2.1
   ·omega
   ·omega
  refine ⟨by show (0:Int)≤(st.n.toNat:Nat);omega,by show ((st.n.toNat:Nat):Int).toNat<_;rw [Int.toNat_natCast];exact r2,.inr ?_⟩
  rw [show actF c st=st.n from if_pos h8]
  refine ⟨r1,?_⟩
  show own ((st.n.toNat:Nat):Int).toNat=_
  rw [Int.toNat_natCast,hO.fi.ao st.n.toNat (by omega),Int.toNat_of_nonneg r1]
 ·rw [if_neg h8] at hx;cases hx
theorem startF_pl {s:PRun} {c:Cd} {vs a:List Int} {prio par:Int} {canc:Bool} (hp:par<0∨∃p:Nat,∃u,par=(p:Int)∧s.tasks[p]?=some u∧u.ending=0∧u.waits<0) :
 (startF s c vs a prio par canc).pool=s.pool++[a]∧∃tn,(startF s c vs a prio par canc).tasks=s.tasks++[tn]∧tn.clk=s.pool.length∧tn.sarr=[s.calls.length]∧tn.slen=1:=by
 unfold startF
 split
 ·rename_i h0
  obtain ⟨S,hS⟩:∃S,S=(startS s c vs a prio par canc).tset s.tasks.length (clo (newT s.calls.length prio canc par s.pool.length) 3):=⟨_,rfl⟩
  have hSt:S.tasks=s.tasks++[clo (newT s.calls.length prio canc par s.pool.length) 3]:=by rw [hS];simp [PRun.tset,startS,PRun.addT,PRun.addP,PRun.addC]
  have hSp:S.pool=s.pool++[a]:=by rw [hS];rfl
  rw [← hS]
  have hn:S.tasks[s.tasks.length]?=some (clo (newT s.calls.length prio canc par s.pool.length) 3):=by rw [hSt];simp
  obtain ⟨S2,hS2⟩:∃S2,S2=(S.enS s.tasks.length s.pool.length).tset s.tasks.length { clo (newT s.calls.length prio canc par s.pool.length) 3 with state:=3 }:=⟨_,rfl⟩
  have e2t:S2.tasks=s.tasks++[{ clo (newT s.calls.length prio canc par s.pool.length) 3 with state:=3 }]:=by
   rw [hS2]
   show S.tasks.set _ _=_
   rw [hSt];simp
  have e2p:S2.pool=s.pool++[a]:=by rw [hS2];exact hSp
  have key:settleF (s.tasks.length+1) S s.tasks.length=S2:=by
   simp only [settleF,hn]
   rw [if_neg (by simp [clo])]
   simp only [kidsJ,clo,newT]
   rcases hp with hp|⟨p,u,rfl,hu,h1,h2⟩
   ·refine (if_pos hp).trans ?_
    rw [hS2];rfl
   ·refine (if_neg (by omega)).trans ?_
    have hpl:p<s.tasks.length:=(List.getElem?_eq_some_iff.1 hu).1
    have hup:S.tasks[p]?=some u:=by rw [hSt,List.getElem?_append_left hpl];exact hu
    simp only [Int.toNat_natCast,hup]
    refine (if_neg (by omega)).trans ?_
    obtain ⟨f,hf⟩:∃f,s.tasks.length=f+1:=⟨s.tasks.length-1,by omega⟩
    have e3:(S.enS s.tasks.length s.pool.length).tset s.tasks.length { clo (newT s.calls.length prio canc p s.pool.length) 3 with state:=3 }=S2:=by rw [hS2]
    simp only [clo,newT] at e3
    rw [e3,hf]
    have hup2:S2.tasks[p]?=some u:=by rw [e2t,List.getElem?_append_left hpl];exact hu
    simp only [settleF,hup2]
    rw [if_pos (.inl h1)]
  rw [key]
  exact ⟨e2p,_,e2t,rfl,rfl,rfl⟩
 ·exact ⟨rfl,_,rfl,rfl,rfl,rfl⟩
structure StC (s:PRun) (n:Nat) (t:PTask) (s':PRun):Prop where
 pl:s.pool.length≤s'.pool.length
 po:∀k:Nat,k<s.pool.length→s'.pool[k]?=s.pool[k]?
 ac:s'.acts=s.acts
 up:∀b:Int,(∀l∈s.pool,∀v∈l,v<b)→∀l∈s'.pool,∀v∈l,v<b
 ol:s.objs.length≤s'.objs.length
 tk:∀(n1:Nat) (t1:PTask) (i1 j1:Nat),s'.tasks[n1]?=some t1→i1<t1.slen→t1.sarr[i1]?=some j1→(∃(t0:PTask) (i0:Nat),s.tasks[n1]?=some t0∧i0<t0.slen∧t0.sarr[i0]?=some j1∧t1.clk=t0.clk)∨(j1=s.calls.length∧∀i,cel s t.clk i≤cel s' t1.clk i)
theorem StC.same {s s':PRun} {n:Nat} {t:PTask} (h1:s'.pool=s.pool) (h2:s'.acts=s.acts) (h3:s.objs.length≤s'.objs.length) (h4:s'.tasks=s.tasks):StC s n t s':=
 ⟨by rw [h1];exact Nat.le_refl _,fun k _=>by rw [h1],h2,by rw [h1];exact fun b h=>h,h3,fun n1 t1 i1 j1 e1 e2 e3=>.inl ⟨t1,i1,by rw [← h4];exact e1,e2,e3,rfl⟩⟩
theorem step_cl {s:PRun} {n j:Nat} {t:PTask} {c:PCall} {st:Stp} {time:Int} (hS:Sok s n j t c st) (h11:st.op=11→t.canc=false):StC s n t (stepF s n j t c st time).2:=by
 have hiv:=hS.iv
 have hsl:=(hiv.wf.tsk t (List.mem_of_getElem? hS.ht)).2.1
 have hclk:=(hiv.wf.tsk t (List.mem_of_getElem? hS.ht)).2.2.1
 have hnl:n<s.tasks.length:=(List.getElem?_eq_some_iff.1 hS.ht).1
 unfold stepF
 by_cases h1:st.op=1
 ·rw [if_pos h1]
  exact .same rfl rfl (by show _≤(s.objs++[_]).length;simp) rfl
 rw [if_neg h1]
 by_cases h2:st.op=2
 ·rw [if_pos h2]
  simp only
  split
  ·exact .same rfl rfl (Nat.le_refl _) rfl
  ·exact .same rfl rfl (by show _≤((s.objs++[_]).set _ _).length;simp) rfl
 rw [if_neg h2]
 by_cases h3:st.op=3
 ·rw [if_pos h3]
  exact .same rfl rfl (by show _≤(s.objs.set _ _).length;simp) rfl
 rw [if_neg h3]
 by_cases h4:st.op=4
 ·rw [if_pos h4];exact .same rfl rfl (Nat.le_refl _) rfl
 rw [if_neg h4]
 by_cases h5:st.op=5
 ·rw [if_pos h5];exact .same rfl rfl (by show _≤(s.objs.set _ _).length;simp) rfl
 rw [if_neg h5]
 by_cases h6:st.op=6
 ·rw [if_pos h6]
  simp only
  obtain ⟨a1,tn,a2,a3,a4,a5⟩:=startF_pl (s:=s) (c:=cdAt s.p.codes st.task) (vs:=givL c st.vars) (a:=s.pool.getD t.clk []) (prio:=st.n) (par:=(n:Int)) (canc:=t.canc) (.inr ⟨n,t,rfl,hS.ht,hS.en,hS.wt⟩)
  have hFx:=startF_fx s (cdAt s.p.codes st.task) (givL c st.vars) (s.pool.getD t.clk []) st.n n t.canc
  obtain ⟨S,hSS⟩:∃S,S=startF s (cdAt s.p.codes st.task) (givL c st.vars) (s.pool.getD t.clk []) st.n n t.canc:=⟨_,rfl⟩
  rw [← hSS] at a1 a2 hFx ⊢
  obtain ⟨tt,htt⟩:∃tt:PTask,tt={ t with kids:=t.kids++[(s.tasks.length:Int)],spn:=if c.actor<0 then setM t.spn c.pc s.tasks.length else t.spn }:=⟨_,rfl⟩
  have ht1:tt.sarr=t.sarr∧tt.slen=t.slen∧tt.clk=t.clk:=by rw [htt];exact ⟨rfl,rfl,rfl⟩
  rw [← htt]
  refine ⟨by show _≤S.pool.length;rw [a1];simp,fun k hk=>by show S.pool[k]?=_;rw [a1,List.getElem?_append_left hk],hFx.acts,fun b h=>?_,by show _≤S.objs.length;rw [hFx.objs];exact Nat.le_refl _,fun n1 t1 i1 j1 e1 e2 e3=>?_⟩
  ·show ∀l∈S.pool,_
   rw [a1]
   intro l hl
   rcases List.mem_append.1 hl with hl|hl
   ·exact h l hl
   ·rw [List.mem_singleton] at hl;subst hl
    exact pl_bd h
  ·have e1':(S.tasks.set n tt)[n1]?=some t1:=e1
   rw [a2] at e1'
   by_cases en:n1=n
   ·subst en
    rw [List.getElem?_set_self (by simp;omega)] at e1'
    injection e1' with e1';subst e1'
    exact .inl ⟨t,i1,hS.ht,by rw [← ht1.2.1];exact e2,by rw [← ht1.1];exact e3,ht1.2.2⟩
   ·rw [List.getElem?_set_ne (fun q=>en q.symm)] at e1'
    rcases Nat.lt_or_ge n1 s.tasks.length with q|q
    ·rw [List.getElem?_append_left q] at e1'
     exact .inl ⟨t1,i1,e1',e2,e3,rfl⟩
    ·rw [List.getElem?_append_right q] at e1'
     have:n1-s.tasks.length=0:=by
      have:=(List.getElem?_eq_some_iff.1 e1').1
      simp at this;omega
     rw [this] at e1'
     simp at e1';subst e1'
     rw [a4] at e3
     have:i1=0:=by rw [a5] at e2;omega
     subst this
     simp at e3
     refine .inr ⟨e3.symm,fun i=>?_⟩
     rw [a3]
     have:cel (S.tset n tt) s.pool.length i=(s.pool.getD t.clk []).getD i (-1):=by
      show (S.pool.getD s.pool.length []).getD i (-1)=_
      rw [a1,getD_at (x:=s.pool.getD t.clk []) (by simp)]
     rw [this]
     exact Int.le_refl _
 rw [if_neg h6]
 by_cases h7:st.op=7
 ·rw [if_pos h7]
  split
  ·exact .same rfl rfl (Nat.le_refl _) rfl
  ·refine ⟨Nat.le_refl _,fun _ _=>rfl,rfl,fun b h=>h,Nat.le_refl _,fun n1 t1 i1 j1 e1 e2 e3=>?_⟩
   by_cases en:n=n1
   ·subst en
    have e1':(s.tset n { t with waits:=kidN t st.n,state:=2 }).tasks[n]?=some t1:=e1
    rw [tset_at hS.ht] at e1'
    injection e1' with e1';subst e1'
    exact .inl ⟨t,i1,hS.ht,e2,e3,rfl⟩
   ·have e1':(s.tset n { t with waits:=kidN t st.n,state:=2 }).tasks[n1]?=some t1:=e1
    rw [tset_ne en] at e1'
    exact .inl ⟨t1,i1,e1',e2,e3,rfl⟩
 rw [if_neg h7]
 by_cases h8:st.op=8
 ·rw [if_pos h8];exact .same rfl rfl (by show _≤(s.objs.set _ _).length;simp) rfl
 rw [if_neg h8]
 by_cases h9:st.op=9
 ·rw [if_pos h9]
  split
  ·exact .same rfl rfl (Nat.le_refl _) rfl
  ·obtain ⟨tt,htt⟩:∃tt:PTask,tt={ t with sarr:=pshF t.sarr t.slen s.calls.length,slen:=t.slen+1 }:=⟨_,rfl⟩
   have ht1:tt.sarr=pshF t.sarr t.slen s.calls.length∧tt.slen=t.slen+1∧tt.clk=t.clk:=by rw [htt];exact ⟨rfl,rfl,rfl⟩
   rw [← htt]
   refine ⟨Nat.le_refl _,fun _ _=>rfl,rfl,fun b h=>h,Nat.le_refl _,fun n1 t1 i1 j1 e1 e2 e3=>?_⟩
   have e1':(s.tasks.set n tt)[n1]?=some t1:=e1
   by_cases en:n1=n
   ·subst en
    rw [List.getElem?_set_self hnl] at e1'
    injection e1' with e1';subst e1'
    rw [ht1.2.1] at e2
    rw [ht1.1] at e3
    unfold pshF at e3
    by_cases ei:i1=t.slen
    ·subst ei
     refine .inr ⟨?_,fun i=>by rw [ht1.2.2];exact Int.le_refl _⟩
     split at e3
     ·rename_i q
      rw [List.getElem?_set_self q] at e3
      injection e3 with e3;exact e3.symm
     ·rename_i q
      rw [List.getElem?_append_right (by omega),show t.slen-t.sarr.length=0 by omega] at e3
      simp at e3;exact e3.symm
    ·refine .inl ⟨t,i1,hS.ht,by omega,?_,ht1.2.2⟩
     split at e3
     ·rw [List.getElem?_set_ne (fun q=>ei q.symm)] at e3;exact e3
     ·rw [List.getElem?_append_left (by omega)] at e3;exact e3
   ·rw [List.getElem?_set_ne (fun q=>en q.symm)] at e1'
    exact .inl ⟨t1,i1,e1',e2,e3,rfl⟩
 rw [if_neg h9]
 by_cases h10:st.op=10
 ·rw [if_pos h10]
  refine ⟨Nat.le_refl _,fun _ _=>rfl,rfl,fun b h=>h,Nat.le_refl _,fun n1 t1 i1 j1 e1 e2 e3=>?_⟩
  have e1':(canL s (dsc s s.tasks.length (kidN t st.n))).tasks[n1]?=some t1:=e1
  have hk:n1<s.tasks.length:=by
   have:n1<(canL s (dsc s s.tasks.length (kidN t st.n))).tasks.length:=(List.getElem?_eq_some_iff.1 e1).1
   rwa [canL_len] at this
  obtain ⟨u,hu⟩:∃u,s.tasks[n1]?=some u:=⟨_,List.getElem?_eq_getElem hk⟩
  rw [canL_at hu] at e1'
  injection e1' with e1';subst e1'
  refine .inl ⟨u,i1,hu,?_,?_,by split<;>rfl⟩
  ·split at e2<;>exact e2
  ·split at e3<;>exact e3
 rw [if_neg h10]
 split
 ·rename_i e
  rw [if_neg (by rw [h11 e];simp)]
  exact .same rfl rfl (Nat.le_refl _) rfl
 ·exact .same rfl rfl (Nat.le_refl _) rfl
end Go.Ab
