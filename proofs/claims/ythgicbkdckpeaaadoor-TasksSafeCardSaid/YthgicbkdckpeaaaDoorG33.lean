/- Part of the proof. -/
import Derived.Test.YthgicbkdckpeaaaDoorG32
set_option linter.unusedSimpArgs false
set_option linter.unusedVariables false
set_option maxHeartbeats 4000000
namespace Go.Ab
open Go Go.Ab Go.Proofs Go.Ab.Ty
theorem CalG.new {p:Tk} {no k:Nat} {cd:Cd} {vs:List Int} {a:Int} (hk:(a = -1∧p.codes[k]?=some cd)∨(0≤a∧a<p.actors∧p.methods[k]?=some cd)) (hv0:0≤cd.vars) (hl:vs.length≤cd.vars) (hvs:∀x∈vs,x<(no:Int)):CalG p no (newC cd vs a):=by
 refine ⟨?_,?_,fun x hx=>?_⟩
 ·rcases hk with ⟨h1,h2⟩|⟨h1,h2,h3⟩
  ·exact .inl ⟨h1,k,h2⟩
  ·exact .inr ⟨h1,h2,k,h3⟩
 ·simp only [newC,List.length_append,List.length_replicate];omega
 ·simp only [newC,List.mem_append,List.mem_replicate] at hx
  rcases hx with hx|⟨_,rfl⟩
  ·exact hvs x hx
  ·omega
theorem startF_gi {s:PRun} (h:Iv s) (hg:Gi s) {k:Nat} {c:Cd} {vs a:List Int} {prio par:Int} {canc:Bool} (h0:s.tasks.length<32) (hC:s.calls.length<MM) (hP:s.pool.length+40000≤MM) (hB:s.behs.length+40≤MM) (ha:a.length=32) (hv0:0≤c.vars) (hv1:c.vars≤1000) (hvs:vs.length≤c.vars) (hcs:c.steps.length≤1000)
 (hpar:par = -1∨∃p:Nat,par=(p:Int)∧p<s.tasks.length) (hk:s.p.codes[k]?=some c) (hpr:0≤prio∧prio≤3) (hvo:∀x∈vs,x<(s.objs.length:Int)):Gi (startF s c vs a prio par canc):=by
 have hiv:∀t':PTask,t'.sarr=[s.calls.length]→t'.slen=1→t'.kids=[]→t'.clk=s.pool.length→t'.beh=none→t'.state<3→(t'.ending=0∨3≤t'.ending)→t'.waits = -1→t'.par=par→(t'.state=1→0<c.steps.length)→Iv (((s.addC (newC c vs (-1))).addP a).addT t'):=fun t' b1 b2 b3 b4 b5 b6 b7 b8 b9 b10 =>
  startIv (prio:=prio) (par:=par) (canc:=canc) h h0 hC (by omega) ha hv1 (by omega) hcs b1 b2 b3 b4 b5 b6 b7 b8 (by rw [b9];exact hpar) b10
 have hI1:Iv ((s.addC (newC c vs (-1))).addP a):=(h.addC hC (by simp only [newC,List.length_append,List.length_replicate];omega) hcs ⟨Int.le_refl _,by show (0:Int)≤_;omega⟩).addP (by show s.pool.length<_;omega) ha
 have hg1:Gi ((s.addC (newC c vs (-1))).addP a):=(hg.addC h (.new (k:=k) (.inl ⟨rfl,hk⟩) hv0 hvs hvo)).eqs rfl rfl rfl rfl
 have hgt:∀t':PTask,t'.sarr=[s.calls.length]→t'.slen=1→t'.kids=[]→t'.prio=prio→t'.waits = -1→(t'.state=1→t'.ending=0)→Gi (((s.addC (newC c vs (-1))).addP a).addT t'):=fun t' b1 b2 b3 b4 b5 b6=>by
  refine hg1.addT hI1 ⟨by rw [b4];exact hpr,by rw [b5];omega,fun e=>⟨b6 e,by rw [b5];omega⟩,by rw [b3];exact Nat.zero_le _,by rw [b1];show 1≤7;omega,fun j c0 e1 e2=>?_,fun i j c0 e0 e1=>by omega,fun e=>by omega⟩
  rw [b1] at e1
  simp only [List.getElem?_cons_zero,Option.some.injEq] at e1
  subst e1
  have e2':(s.addC (newC c vs (-1))).calls[s.calls.length]?=some c0:=e2
  rw [addC_at] at e2';injection e2' with e2';subst e2'
  exact ⟨rfl,fun i st g1=>by have:(i:Int)<0:=g1;omega⟩
 have hl:∀t':PTask,(((s.addC (newC c vs (-1))).addP a).addT t').tasks.length=s.tasks.length+1:=fun t'=>by simp [PRun.addT,PRun.addP,PRun.addC]
 have hp:∀t':PTask,(((s.addC (newC c vs (-1))).addP a).addT t').pool.length=s.pool.length+1:=fun t'=>by simp [PRun.addT,PRun.addP,PRun.addC]
 have hb:∀t':PTask,(((s.addC (newC c vs (-1))).addP a).addT t').behs.length=s.behs.length:=fun t'=>rfl
 unfold startF
 split
 ·rename_i hc0
  obtain ⟨t,ht⟩:∃t,t=newT s.calls.length prio canc par s.pool.length:=⟨_,rfl⟩
  have he:(startS s c vs a prio par canc).tset s.tasks.length (clo t 3)=((s.addC (newC c vs (-1))).addP a).addT (clo t 3):=addT_tset (s:=(s.addC (newC c vs (-1))).addP a)
  rw [← ht,he]
  have hI:=hiv (clo t 3) (by rw [ht];rfl) (by rw [ht];rfl) (by rw [ht];rfl) (by rw [ht];rfl) (by rw [ht];rfl) (by show (2:Int)<3;omega) (.inr (by show (3:Int)≤3;omega)) (by rw [ht];rfl) (by rw [ht];rfl) (fun e=>by have:(2:Int)=1:=e;omega)
  have hG:=hgt (clo t 3) (by rw [ht];rfl) (by rw [ht];rfl) (by rw [ht];rfl) (by rw [ht];rfl) (by rw [ht];rfl) (fun e=>by have:(2:Int)=1:=e;omega)
  obtain ⟨f,hf⟩:∃f,f=s.tasks.length+1:=⟨_,rfl⟩
  rw [← hf]
  have hf32:f≤32:=by omega
  have hfp:s.pool.length+1+1001*f≤MM:=by omega
  have hfb:s.behs.length+f≤MM:=by omega
  exact settleF_gi f _ s.tasks.length hI hG (by rw [hp];exact hfp) (by rw [hb];exact hfb)
 ·exact hgt _ rfl rfl rfl rfl rfl (fun _=>rfl)
theorem Gi.kid {s:PRun} (h:Gi s) {n k:Nat} {t:PTask} {sp:List (Int × Int)} (ht:s.tasks[n]?=some t) (hk:t.kids.length+1≤s.tasks.length) (hsp:∀(i:Nat) (kc:Nat),getM t.spn i=some (kc:Int)→kc<s.tasks.length→∃kc2:Nat,getM sp i=some (kc2:Int)∧kc2<s.tasks.length):Gi (s.tset n { t with kids:=t.kids++[(k:Int)],spn:=sp }):=by
 have htg:=h.ta n t ht
 have hL:(s.tset n { t with kids:=t.kids++[(k:Int)],spn:=sp }).tasks.length=s.tasks.length:=tset_len
 refine ⟨h.ok,h.ob,h.ca,fun i u hu=>?_⟩
 by_cases e:n=i
 ·subst e
  rw [tset_at ht] at hu;injection hu with hu;subst hu
  refine ⟨htg.pr,by rw [hL];exact htg.wt,htg.s1,by rw [hL];simp;omega,htg.sl,fun j c e1 e2=>?_,htg.st,htg.w7⟩
  obtain ⟨b1,b2⟩:=htg.b0 j c e1 e2
  refine ⟨b1,fun i st g1 g2 g3=>?_⟩
  obtain ⟨kc,k1,k2⟩:=b2 i st g1 g2 g3
  rw [hL];exact hsp i kc k1 k2
 ·rw [tset_ne e] at hu
  have hug:=h.ta i u hu
  exact ⟨hug.pr,by rw [hL];exact hug.wt,hug.s1,by rw [hL];exact hug.kl,hug.sl,fun j c e1 e2=>by rw [hL];exact hug.b0 j c e1 e2,hug.st,hug.w7⟩
theorem Gi.psh {s:PRun} (h:Gi s) {n J k:Nat} {t:PTask} {cJ:PCall} (ht:s.tasks[n]?=some t) (hs0:0<t.slen) (hsl:t.slen≤t.sarr.length) (hJ:s.calls[J]?=some cJ) (hac:0≤cJ.actor) (hk:s.p.methods[k]?=some cJ.code) (hd:k+t.slen≤6) (hw:t.waits<0):Gi (s.tset n { t with sarr:=pshF t.sarr t.slen J,slen:=t.slen+1 }):=by
 have htg:=h.ta n t ht
 have hL:(s.tset n { t with sarr:=pshF t.sarr t.slen J,slen:=t.slen+1 }).tasks.length=s.tasks.length:=tset_len
 have hold:∀i,i<t.slen→(pshF t.sarr t.slen J)[i]?=t.sarr[i]?:=fun i hi=>by
  unfold pshF
  split
  ·rw [List.getElem?_set_ne (by omega)]
  ·rw [List.getElem?_append_left (by omega)]
 have hnew:(pshF t.sarr t.slen J)[t.slen]?=some J:=by
  unfold pshF
  split
  ·rename_i h1;rw [List.getElem?_set_self h1]
  ·rename_i h1;rw [List.getElem?_append_right (by omega),show t.slen-t.sarr.length=0 by omega];rfl
 refine ⟨h.ok,h.ob,h.ca,fun i u hu=>?_⟩
 by_cases e:n=i
 ·subst e
  rw [tset_at ht] at hu;injection hu with hu;subst hu
  refine ⟨htg.pr,by rw [hL];exact htg.wt,htg.s1,by rw [hL];exact htg.kl,?_,fun j c e1 e2=>?_,fun i j c e0 e1 e2 e3=>?_,fun g=>absurd g (by show ¬ 0≤t.waits;omega)⟩
  ·show (pshF t.sarr t.slen J).length≤7
   rw [pshF_len hsl]
   have:=htg.sl
   split<;>omega
  ·have e1':(pshF t.sarr t.slen J)[0]?=some j:=e1
   rw [hold 0 hs0] at e1'
   rw [hL];exact htg.b0 j c e1' e2
  ·have e1':i<t.slen+1:=e1
   have e2':(pshF t.sarr t.slen J)[i]?=some j:=e2
   have e3':s.calls[j]?=some c:=e3
   by_cases ei:i=t.slen
   ·subst ei
    rw [hnew] at e2';injection e2' with e2';subst e2'
    rw [hJ] at e3';injection e3' with e3';subst e3'
    exact ⟨hac,k,hk,hd⟩
   ·rw [hold i (by omega)] at e2'
    exact htg.st i j c e0 (by omega) e2' e3'
 ·rw [tset_ne e] at hu
  have hug:=h.ta i u hu
  exact ⟨hug.pr,by rw [hL];exact hug.wt,hug.s1,by rw [hL];exact hug.kl,hug.sl,fun j c e1 e2=>by rw [hL];exact hug.b0 j c e1 e2,hug.st,hug.w7⟩
theorem Gi.wait {s:PRun} (h:Gi s) {n kc:Nat} {t:PTask} (ht:s.tasks[n]?=some t) (hk:kc<s.tasks.length) (hen:t.ending=0) (h7:∀(j:Nat) (c:PCall) (st:Stp),t.sarr[t.slen-1]?=some j→s.calls[j]?=some c→c.code.steps[c.pc.toNat]?=some st→st.op=7):Gi (s.tset n { t with waits:=(kc:Int),state:=2 }):=by
 have htg:=h.ta n t ht
 have hL:(s.tset n { t with waits:=(kc:Int),state:=2 }).tasks.length=s.tasks.length:=tset_len
 refine ⟨h.ok,h.ob,h.ca,fun i u hu=>?_⟩
 by_cases e:n=i
 ·subst e
  rw [tset_at ht] at hu;injection hu with hu;subst hu
  refine ⟨htg.pr,by rw [hL];show (kc:Int)<_;omega,fun e=>by have:(2:Int)=1:=e;omega,by rw [hL];exact htg.kl,htg.sl,fun j c e1 e2=>by rw [hL];exact htg.b0 j c e1 e2,htg.st,fun _=>⟨hen,h7⟩⟩
 ·rw [tset_ne e] at hu
  have hug:=h.ta i u hu
  exact ⟨hug.pr,by rw [hL];exact hug.wt,hug.s1,by rw [hL];exact hug.kl,hug.sl,fun j c e1 e2=>by rw [hL];exact hug.b0 j c e1 e2,hug.st,hug.w7⟩
end Go.Ab
set_option maxHeartbeats 4000000
namespace Go.Ab
open Go Go.Ab Go.Proofs Go.Ab.Ty
structure Fx (s s':PRun):Prop where
 p:s'.p=s.p
 sched:s'.sched=s.sched
 used:s'.used=s.used
 objs:s'.objs=s.objs
 lines:s'.lines=s.lines
 accs:s'.accs=s.accs
 turns:s'.turns=s.turns
 cks:s'.cks=s.cks
 acts:s'.acts=s.acts
theorem Fx.refl (s:PRun):Fx s s:=⟨rfl,rfl,rfl,rfl,rfl,rfl,rfl,rfl,rfl⟩
theorem Fx.trans {s s1 s2:PRun} (h:Fx s s1) (g:Fx s1 s2):Fx s s2:=⟨g.p.trans h.p,g.sched.trans h.sched,g.used.trans h.used,g.objs.trans h.objs,g.lines.trans h.lines,g.accs.trans h.accs,g.turns.trans h.turns,g.cks.trans h.cks,g.acts.trans h.acts⟩
theorem kidsJ_fx:∀(ks:List Int) (s:PRun) (e:Nat),Fx s (kidsJ s e ks).1:=by
 intro ks
 induction ks with
 | nil=>intro s e;exact .refl s
 | cons k ks ih =>
   intro s e
   simp only [kidsJ]
   split
   ·split
    ·exact Fx.trans (s1:=s.addP _) ⟨rfl,rfl,rfl,rfl,rfl,rfl,rfl,rfl,rfl⟩ (ih _ _)
    ·exact .refl s
   ·exact .refl s
theorem goOnF_fx {S:PRun→Nat→PRun} (hS:∀s n,Fx s (S s n)) (s:PRun) (n j:Nat):Fx s (goOnF S s n j):=by
 unfold goOnF
 cases ht:s.tasks[n]? with
 | none=>exact .refl s
 | some t =>
   cases hc:s.calls[j]? with
   | none=>exact .refl s
   | some c =>
     simp only
     split
     ·exact Fx.trans (s1:=(s.cset j { c with pc:=c.pc+1 }).tset n (clo { t with slen:=1 } 3)) ⟨rfl,rfl,rfl,rfl,rfl,rfl,rfl,rfl,rfl⟩ (hS _ _)
     ·exact ⟨rfl,rfl,rfl,rfl,rfl,rfl,rfl,rfl,rfl⟩
theorem wakeP_fx (s:PRun) (p:Nat) (tp:PTask) (e:Nat):Fx s (wakeP s p tp e):=by
 unfold wakeP
 split
 ·split
  ·exact ⟨rfl,rfl,rfl,rfl,rfl,rfl,rfl,rfl,rfl⟩
  ·exact ⟨rfl,rfl,rfl,rfl,rfl,rfl,rfl,rfl,rfl⟩
 ·exact ⟨rfl,rfl,rfl,rfl,rfl,rfl,rfl,rfl,rfl⟩
theorem settleF_fx:∀(f:Nat) (s:PRun) (n:Nat),Fx s (settleF f s n):=by
 intro f
 induction f with
 | zero=>intro s n;exact .refl s
 | succ f ih =>
   intro s n
   simp only [settleF]
   split
   ·exact .refl s
   ·rename_i t ht
    split
    ·exact .refl s
    ·have hk:=kidsJ_fx t.kids s t.clk
     split
     ·rename_i s1 e he
      rw [he] at hk;exact hk
     ·rename_i s1 e he
      rw [he] at hk
      have h2:Fx s ((s1.enS n e).tset n { t with state:=t.ending }):=hk.trans ⟨rfl,rfl,rfl,rfl,rfl,rfl,rfl,rfl,rfl⟩
      split
      ·exact h2
      ·split
       ·exact hk
       ·rename_i tp htp
        split
        ·exact (h2.trans (wakeP_fx _ _ tp e)).trans (goOnF_fx ih _ _ _)
        ·exact h2.trans (ih _ _)
theorem stopF_fx (s:PRun) (n:Nat):Fx s (stopF s n):=by
 unfold stopF
 split
 ·rename_i t _
  exact Fx.trans (s1:=(canK s t.kids).tset n (clo t 4)) ⟨rfl,rfl,rfl,rfl,rfl,rfl,rfl,rfl,rfl⟩ (settleF_fx _ _ _)
 ·exact .refl s
theorem startF_fx (s:PRun) (c:Cd) (vs a:List Int) (prio par:Int) (canc:Bool):Fx s (startF s c vs a prio par canc):=by
 have h1:Fx s (startS s c vs a prio par canc):=⟨rfl,rfl,rfl,rfl,rfl,rfl,rfl,rfl,rfl⟩
 unfold startF
 split
 ·exact (h1.trans (s2:=(startS s c vs a prio par canc).tset s.tasks.length (clo (newT s.calls.length prio canc par s.pool.length) 3)) ⟨rfl,rfl,rfl,rfl,rfl,rfl,rfl,rfl,rfl⟩).trans (settleF_fx _ _ _)
 ·exact h1
structure SgR (s:PRun) (n:Nat) (c:PCall) (st:Stp) (r:Bool × PRun):Prop where
 gi:Gi r.2
 p:r.2.p=s.p
 sched:r.2.sched=s.sched
 used:r.2.used=s.used
 turns:r.2.turns=s.turns
 cks:r.2.cks=s.cks
 acts:r.2.acts=s.acts
 ac:r.2.accs.length≤s.accs.length+2
 ln:r.2.lines.length≤s.lines.length+1
 ob:r.2.objs.length≤200
 oo:s.objs.length≤r.2.objs.length
 pl:st.op≠6→r.1=true→r.2.pool.length=s.pool.length∧r.2.behs.length=s.behs.length
 tl:r.2.tasks.length=if st.op=6 then s.tasks.length+1 else s.tasks.length
 nn:r.1=true→st.op=6→∀t8,r.2.tasks[n]?=some t8→t8.slen=1→∃kc:Nat,getM t8.spn c.pc=some (kc:Int)∧kc<r.2.tasks.length
theorem SgR.eqs {s:PRun} {n:Nat} {c:PCall} {st:Stp} {s':PRun} {b:Bool} (hg:Gi s') (ho:st.op≠6) (p:s'.p=s.p) (sched:s'.sched=s.sched) (used:s'.used=s.used) (turns:s'.turns=s.turns) (cks:s'.cks=s.cks) (acts:s'.acts=s.acts)
 (ac:s'.accs.length≤s.accs.length+2) (ln:s'.lines.length≤s.lines.length+1) (ob:s'.objs.length≤200) (oo:s.objs.length≤s'.objs.length) (pl:b=true→s'.pool.length=s.pool.length∧s'.behs.length=s.behs.length) (tl:s'.tasks.length=s.tasks.length):SgR s n c st (b,s'):=
 ⟨hg,p,sched,used,turns,cks,acts,ac,ln,ob,oo,fun _=>pl,by rw [if_neg ho];exact tl,fun _ e=>absurd e ho⟩
end Go.Ab
set_option maxHeartbeats 4000000
namespace Go.Ab
open Go Go.Ab Go.Proofs Go.Ab.Ty
theorem act_lt {a n:Int} {m:Nat} (h0:0≤n) (h1:n<a) (h2:a.toNat≤m):n<m:=by omega
theorem mem_getD {l:List Int} {i:Nat} {d:Int} (h:i<l.length):l.getD i d∈l:=by
 rw [List.getD_eq_getElem?_getD,List.getElem?_eq_getElem h];exact List.getElem_mem h
theorem stepF_gi {s:PRun} (hg:Gi s) (hob:s.objs.length≤200) (hao:s.p.actors.toNat≤s.objs.length) {n j k i:Nat} {t:PTask} {c:PCall} {st:Stp} {l:Lk} {time:Int} (h:Sok s n j t c st) (hT:TopC s n t j c st l k i):SgR s n c st (stepF s n j t c st time):=by
 have hiv:=h.iv
 have ht:=h.ht
 have hc:=h.hc
 have hn:=(List.getElem?_eq_some_iff.1 ht).1
 have hj:=(List.getElem?_eq_some_iff.1 hc).1
 have hcg:=hg.ca c (List.mem_of_getElem? hc)
 have hcan:=h.can
 have hvok:=h.vok
 obtain ⟨hTt,hTs,hTj,hTc,hcd,hdp,hb0,hpc,hst,hos⟩:=hT
 have hvar:∀v:Int,inV c v→c.vars.getD v.toNat 0<s.objs.length:=fun v hv=>hcg.vo _ (mem_getD hv.2)
 have hgiv:∀vs:List Int,(∀v∈vs,inV c v)→∀x∈givL c vs,x<(s.objs.length:Int):=fun vs hv x hx=>by
  obtain ⟨v,h1,rfl⟩:=List.mem_map.1 hx
  exact hvar v (hv v h1)
 have hobj:∀o:Nat,-1000≤(objAt s o).1∧(objAt s o).1≤1000∧(objAt s o).2<(s.objs.length:Int):=fun o=>by
  unfold objAt
  by_cases ho:o<s.objs.length
  ·rw [List.getD_eq_getElem?_getD,List.getElem?_eq_getElem ho];exact hg.ob _ (List.getElem_mem ho)
  ·rw [List.getD_eq_getElem?_getD,List.getElem?_eq_none (by omega)]
   simp only [Option.getD_none];omega
 have hgA:∀(s':PRun) (x:Acc),Gi s'→Gi (s'.addA x):=fun s' x h'=>h'.eqs rfl rfl rfl rfl
 have hgL:∀(s':PRun) (x:ByteArray),Gi s'→Gi (s'.addL x):=fun s' x h'=>h'.eqs rfl rfl rfl rfl
 have hroom:room s=true→s.objs.length<200:=fun e=>by unfold room at e;have:=of_decide_eq_true e;omega
 obtain ⟨op,v,w,nn,tk,vs⟩:=st
 have hop:=h.op
 have r6:=h.r6
 have r7:=h.r7
 have r9:=h.r9
 have r8:=h.r8
 simp only at hop r6 r7 r9 r8
 have hc12:op=1∨op=2∨op=3∨op=4∨op=5∨op=6∨op=7∨op=8∨op=9∨op=10∨op=11∨op=12:=by omega
 rcases hc12 with rfl|rfl|rfl|rfl|rfl|rfl|rfl|rfl|rfl|rfl|rfl|rfl
 ·have hcan':room s=true:=by
   unfold canF at hcan
   rw [if_pos rfl] at hcan;exact hcan
  have h200:=hroom hcan'
  have hb:-1000≤nn∧nn≤1000:=by
   unfold Rg.okStep at hos;simp only at hos;omega
  have hI:Iv (s.mkO nn):=hiv.mkO _ (by omega)
  have hG:Gi (s.mkO nn):=hg.mkO hb
  have hl:(s.mkO nn).objs.length=s.objs.length+1:=by simp [PRun.mkO]
  simp +decide only [stepF,if_true,if_false]
  refine SgR.eqs (hG.vset hI (j:=j) (c:=c) hc (by rw [hl];omega)) (by show (1:Int)≠6;decide) rfl rfl rfl rfl rfl rfl (Nat.le_add_right _ _) (Nat.le_succ _) (by show (s.mkO nn).objs.length≤_;omega) (by show _≤(s.mkO nn).objs.length;omega) (fun _=>⟨rfl,rfl⟩) rfl
 ·have hcan':(setB c [w]&&(room s||decide (0≤objL s (c.vars.getD w.toNat 0))))=true:=by
   unfold canF at hcan
   rw [if_neg (by show ¬(2:Int)=1;decide),if_pos rfl] at hcan;exact hcan
  rw [Bool.and_eq_true] at hcan'
  obtain ⟨hset,hrm⟩:=hcan'
  obtain ⟨wn,hw1,hw2,hw3,hw4⟩:=set_at hset (v:=w) (by simp) (hvok.w (.inl rfl)) hvok.ob
  by_cases hx:0≤(objAt s (varN c w)).2
  ·simp +decide only [stepF,if_true,if_false,if_pos hx]
   exact SgR.eqs ((hgA s _ hg).vset (hiv.addA _ (by have:=h.sza;omega)) (j:=j) (c:=c) hc (hobj _).2.2) (by show (2:Int)≠6;decide) rfl rfl rfl rfl rfl rfl (by show (s.accs++[_]).length≤_;simp) (Nat.le_succ _) hob (Nat.le_refl _) (fun _=>⟨rfl,rfl⟩) rfl
  ·simp +decide only [stepF,if_true,if_false,if_neg hx]
   have h200:s.objs.length<200:=by
    rw [Bool.or_eq_true] at hrm
    rcases hrm with h1|h1
    ·exact hroom h1
    ·exfalso
     have h1:=of_decide_eq_true h1
     apply hx
     have e0:∀o:Nat,o<s.objs.length→(s.objs.getD o (0,0)).2=(s.objs.getD o (0,-1)).2:=fun o ho=>by
      rw [List.getD_eq_getElem?_getD,List.getD_eq_getElem?_getD,List.getElem?_eq_getElem ho];rfl
     have e1:objL s (c.vars.getD w.toNat 0)=(objAt s (varN c w)).2:=e0 _ hw3
     rw [← e1];exact h1
   obtain ⟨s1,hs1⟩:∃s1,s1=(s.addA ⟨whoF c n,varN c w,false,time⟩).mkO 0:=⟨_,rfl⟩
   have hI0:Iv (s.addA ⟨whoF c n,varN c w,false,time⟩):=hiv.addA _ (by have:=h.sza;omega)
   have hI1:Iv s1:=by rw [hs1];exact hI0.mkO _ (by show s.objs.length<_;omega)
   have hG1:Gi s1:=by rw [hs1];exact (hgA s _ hg).mkO (by decide)
   have hl1:s1.objs.length=s.objs.length+1:=by rw [hs1];simp [PRun.mkO,PRun.addA]
   have hG2:Gi (s1.setO (varN c w) ((objAt s (varN c w)).1,s.objs.length)):=hG1.setO (by have:=hobj (varN c w);simp only;omega) (by simp only;omega)
   have hl2:(s1.setO (varN c w) ((objAt s (varN c w)).1,s.objs.length)).objs.length=s.objs.length+1:=by simp only [PRun.setO,List.length_set];exact hl1
   have hc1:s1.calls=s.calls:=by rw [hs1];rfl
   have hac1:s1.accs.length=s.accs.length+1:=by rw [hs1];simp [PRun.mkO,PRun.addA]
   have hf:s1.p=s.p∧s1.sched=s.sched∧s1.used=s.used∧s1.turns=s.turns∧s1.cks=s.cks∧s1.acts=s.acts∧s1.lines=s.lines∧s1.pool=s.pool∧s1.behs=s.behs∧s1.tasks=s.tasks:=by rw [hs1];exact ⟨rfl,rfl,rfl,rfl,rfl,rfl,rfl,rfl,rfl,rfl⟩
   rw [← hs1]
   obtain ⟨f1,f2,f3,f4,f5,f6,f7,f8,f9,f10⟩:=hf
   have hI3:Iv ((s1.setO (varN c w) ((objAt s (varN c w)).1,s.objs.length)).addA ⟨whoF c n,varN c w,true,time⟩):=(hI1.setO _ _).addA _ (by show s1.accs.length<_;have:=h.sza;omega)
   have hG3:=hgA _ ⟨whoF c n,varN c w,true,time⟩ hG2
   refine SgR.eqs (hG3.vset hI3 (j:=j) (c:=c) (by show s1.calls[j]?=_;rw [hc1];exact hc) (by show (s.objs.length:Int)<(s1.setO (varN c w) ((objAt s (varN c w)).1,s.objs.length)).objs.length;rw [hl2];omega)) (by show (2:Int)≠6;decide) f1 f2 f3 f4 f5 f6 ?_ ?_ ?_ ?_ (fun _=>⟨?_,?_⟩) ?_
   ·show (s1.accs++[_]).length≤_;rw [List.length_append,hac1];exact Nat.le_refl _
   ·show s1.lines.length≤_;rw [f7];omega
   ·show (s1.setO (varN c w) ((objAt s (varN c w)).1,s.objs.length)).objs.length≤_;rw [hl2];omega
   ·show _≤(s1.setO (varN c w) ((objAt s (varN c w)).1,s.objs.length)).objs.length;rw [hl2];omega
   ·show s1.pool.length=_;rw [f8]
   ·show s1.behs.length=_;rw [f9]
   ·show s1.tasks.length=_;rw [f10]
 ·have hcan':setB c [v,w]=true:=by
   unfold canF at hcan
   rw [if_neg (by show ¬(3:Int)=1;decide),if_neg (by show ¬(3:Int)=2;decide),if_pos rfl] at hcan;exact hcan
  simp +decide only [stepF,if_true,if_false]
  have hw:=hvar w (hvok.w (.inr rfl))
  exact SgR.eqs ((hgA s _ hg).setO (by have:=hobj (varN c v);simp only;omega) hw) (by show (3:Int)≠6;decide) rfl rfl rfl rfl rfl rfl (by show (s.accs++[_]).length≤_;simp) (Nat.le_succ _) (by show (s.objs.set _ _).length≤_;rw [List.length_set];exact hob) (by show _≤(s.objs.set _ _).length;rw [List.length_set];exact Nat.le_refl _) (fun _=>⟨rfl,rfl⟩) rfl
 ·simp +decide only [stepF,if_true,if_false]
  exact SgR.eqs (hgL _ _ (hgA s _ hg)) (by show (4:Int)≠6;decide) rfl rfl rfl rfl rfl rfl (by show (s.accs++[_]).length≤_;simp) (by show (s.lines++[_]).length≤_;simp) hob (Nat.le_refl _) (fun _=>⟨rfl,rfl⟩) rfl
 ·have hb:-1000≤nn∧nn≤1000:=by
   unfold Rg.okStep at hos;simp only at hos;omega
  simp +decide only [stepF,if_true,if_false]
  exact SgR.eqs ((hgA s _ hg).setO hb (hobj (varN c v)).2.2) (by show (5:Int)≠6;decide) rfl rfl rfl rfl rfl rfl (by show (s.accs++[_]).length≤_;simp) (Nat.le_succ _) (by show (s.objs.set _ _).length≤_;rw [List.length_set];exact hob) (by show _≤(s.objs.set _ _).length;rw [List.length_set];exact Nat.le_refl _) (fun _=>⟨rfl,rfl⟩) rfl
 ·have hcan2:(bif setB c vs then decide ((s.tasks.length:Int)<32) else false)=true:=by
   unfold canF at hcan
   rw [if_neg (by show ¬(6:Int)=1;decide),if_neg (by show ¬(6:Int)=2;decide),if_neg (by show ¬(6:Int)=3;decide),if_neg (by show ¬((6:Int)=4∨(6:Int)=5);decide),if_pos rfl] at hcan;exact hcan
  obtain ⟨h1,cd,h2,h3,h4,h5,h6⟩:=r6 rfl
  have hpr:0≤nn∧nn≤3:=by
   unfold Rg.okStep at hos;simp only at hos;omega
  have h32:s.tasks.length<32:=by
   cases hb:setB c vs with
   | true=>rw [hb] at hcan2;have:=of_decide_eq_true hcan2;omega
   | false=>rw [hb] at hcan2;cases hcan2
  have hcdE:cdAt s.p.codes tk=cd:=getD_at h2
  obtain ⟨a1,a2,a3,a4⟩:=hiv.wf.tsk t (List.mem_of_getElem? ht)
  have hcl:s.pool[t.clk]?=some (s.pool.getD t.clk []):=by rw [List.getD_eq_getElem?_getD,List.getElem?_eq_getElem a3];rfl
  have hG:=startF_gi hiv hg (k:=tk.toNat) (c:=cd) (vs:=givL c vs) (a:=s.pool.getD t.clk []) (prio:=nn) (par:=n) (canc:=t.canc) h32 h.hC h.hP (by have:=h.hB;omega) ((hiv.wf.p hcl).2) h3 h4 (by rw [givL_len];exact h5) h6 (.inr ⟨n,rfl,hn⟩) h2 hpr (hgiv vs (hvok.vs (.inl rfl)))
  have hFx:=startF_fx s cd (givL c vs) (s.pool.getD t.clk []) nn n t.canc
  obtain ⟨e1,e2,e3⟩:=startF_at (cd:=cd) (vs:=givL c vs) (a:=s.pool.getD t.clk []) (pr:=nn) (canc:=t.canc) ht h.en h.wt
  simp +decide only [stepF,if_true,if_false]
  rw [hcdE]
  have hkl:=(hg.ta n t ht).kl
  have hK:=hG.kid e1 (k:=s.tasks.length) (sp:=if c.actor<0 then setM t.spn c.pc s.tasks.length else t.spn) (by rw [e3];omega) (fun q kc g1 g2=>by
   split
   ·rw [getM_setM]
    split
    ·exact ⟨s.tasks.length,rfl,by rw [e3];omega⟩
    ·exact ⟨kc,g1,g2⟩
   ·exact ⟨kc,g1,g2⟩)
  have hLn:((startF s cd (givL c vs) (s.pool.getD t.clk []) nn n t.canc).tset n { t with kids:=t.kids++[(s.tasks.length:Int)],spn:=if c.actor<0 then setM t.spn c.pc s.tasks.length else t.spn }).tasks.length=s.tasks.length+1:=by rw [tset_len,e3]
  refine ⟨hK,hFx.p,hFx.sched,hFx.used,hFx.turns,hFx.cks,hFx.acts,?_,?_,?_,?_,fun e=>absurd rfl e,by rw [if_pos rfl];exact hLn,fun _ _ t8 g1 g2=>?_⟩
  ·show (startF s cd (givL c vs) (s.pool.getD t.clk []) nn n t.canc).accs.length≤_;rw [hFx.accs];omega
  ·show (startF s cd (givL c vs) (s.pool.getD t.clk []) nn n t.canc).lines.length≤_;rw [hFx.lines];omega
  ·show (startF s cd (givL c vs) (s.pool.getD t.clk []) nn n t.canc).objs.length≤_;rw [hFx.objs];exact hob
  ·show _≤(startF s cd (givL c vs) (s.pool.getD t.clk []) nn n t.canc).objs.length;rw [hFx.objs];exact Nat.le_refl _
  ·have g1':((startF s cd (givL c vs) (s.pool.getD t.clk []) nn n t.canc).tset n { t with kids:=t.kids++[(s.tasks.length:Int)],spn:=if c.actor<0 then setM t.spn c.pc s.tasks.length else t.spn }).tasks[n]?=some t8:=g1
   rw [tset_at e1] at g1';injection g1' with g1'
   have hsl:t.slen=1:=by rw [← g1'] at g2;exact g2
   have hi0:i=0:=by omega
   have hma:c.actor = -1:=by
    have:=hb0 hi0
    rcases hcd.me with ⟨_,m,_⟩|⟨m,_⟩
    ·exact m
    ·rw [this] at m;cases m
   refine ⟨s.tasks.length,?_,by show s.tasks.length<((startF s cd (givL c vs) (s.pool.getD t.clk []) nn n t.canc).tset n _).tasks.length;rw [hLn];omega⟩
   rw [← g1']
   simp only
   rw [if_pos (by omega),getM_setM,if_pos rfl]
 ·have hid:SgR s n c ⟨7,v,w,nn,tk,vs⟩ (true,s):=SgR.eqs hg (by show (7:Int)≠6;decide) rfl rfl rfl rfl rfl rfl (Nat.le_add_right _ _) (Nat.le_succ _) hob (Nat.le_refl _) (fun _=>⟨rfl,rfl⟩) rfl
  simp +decide only [stepF,if_true,if_false]
  by_cases ho:ovr s (kidN t nn)=true
  ·rw [if_pos ho];exact hid
  ·rw [if_neg ho]
   obtain ⟨kc,h1,h2⟩:=r7 (.inl rfl)
   have hkn:kidN t nn=kc:=by unfold kidN;rw [h1];rfl
   have hW:=hg.wait ht (kc:=kidN t nn) (by rw [hkn];exact h2) h.en (fun j' c' st' e1 e2 e3=>by
    rw [h.tp] at e1;injection e1 with e1;subst e1
    rw [hc] at e2;injection e2 with e2;subst e2
    rw [hst] at e3;injection e3 with e3;subst e3;rfl)
   exact SgR.eqs hW (by show (7:Int)≠6;decide) rfl rfl rfl rfl rfl rfl (Nat.le_add_right _ _) (Nat.le_succ _) hob (Nat.le_refl _) (fun _=>⟨rfl,rfl⟩) tset_len
 ·obtain ⟨h1,h2,h3⟩:=r8 rfl
  simp +decide only [stepF,if_true,if_false]
  have hv0:vs.getD 0 0∈vs:=mem_getD h3
  have hw:=hvar _ (hvok.vs (.inr (.inl rfl)) _ hv0)
  exact SgR.eqs ((hgA s _ hg).setO (by have:=hobj nn.toNat;simp only;omega) hw) (by show (8:Int)≠6;decide) rfl rfl rfl rfl rfl rfl (by show (s.accs++[_]).length≤_;simp) (Nat.le_succ _) (by show (s.objs.set _ _).length≤_;rw [List.length_set];exact hob) (by show _≤(s.objs.set _ _).length;rw [List.length_set];exact Nat.le_refl _) (fun _=>⟨rfl,rfl⟩) rfl
 ·obtain ⟨h1,cd,h2,h3,h4,h5,h6⟩:=r9 rfl
  have hcdE:cdAt s.p.methods tk=cd:=getD_at h2
  have hn9:0≤nn∧nn<s.p.actors∧tk<s.p.methods.length∧(l.method=true→tk<l.own):=by
   unfold Rg.okStep at hos
   rw [hcd.lp] at hos
   simp only at hos
   rcases hos with q|q|q|q|q|q|q|q
   ·omega
   ·omega
   ·omega
   ·omega
   ·omega
   ·omega
   ·exact ⟨q.2.2.1,q.2.2.2.1,q.2.2.2.2.2.1,q.2.2.2.2.2.2.1⟩
   ·omega
  obtain ⟨b1,b2,b3,b4⟩:=hn9
  have hm6:s.p.methods.length≤6:=hg.ok.1.2.2.1
  have hdep:tk.toNat+t.slen≤6:=by
   rw [hTs]
   by_cases e0:i=0
   ·omega
   ·obtain ⟨m1,m2⟩:=hdp (by omega)
    have:=b4 m1
    rw [hcd.own] at this
    omega
  simp +decide only [stepF,if_true,if_false]
  rw [hcdE]
  obtain ⟨nc,hnc⟩:∃nc,nc=newC cd (givL c vs++[nn]) nn:=⟨_,rfl⟩
  rw [← hnc]
  have hCG:CalG s.p s.objs.length nc:=by
   rw [hnc]
   refine .new (k:=tk.toNat) (.inr ⟨b1,b2,h2⟩) h3 (by rw [List.length_append,givL_len,List.length_singleton];omega) fun x hx=>?_
   rcases List.mem_append.1 hx with hx|hx
   ·exact hgiv vs (hvok.vs (.inr (.inr rfl))) x hx
   ·rw [List.mem_singleton] at hx;subst hx;exact act_lt b1 b2 hao
  have hvl2:nc.vars.length≤1000:=by
   rw [hnc];simp only [newC,List.length_append,List.length_replicate,givL_len,List.length_singleton];omega
  have hIc:Iv (s.addC nc):=hiv.addC h.hC hvl2 (by rw [hnc];exact h6) ⟨by rw [hnc];exact Int.le_refl _,by rw [hnc];show (0:Int)≤_;omega⟩
  have hGc:Gi (s.addC nc):=hg.addC hiv hCG
  by_cases hz:cd.steps.length=0
  ·rw [if_pos hz]
   exact SgR.eqs hGc (by show (9:Int)≠6;decide) rfl rfl rfl rfl rfl rfl (Nat.le_add_right _ _) (Nat.le_succ _) hob (Nat.le_refl _) (fun _=>⟨rfl,rfl⟩) rfl
  ·rw [if_neg hz]
   have hc1:(s.addC nc).calls[j]?=some c:=by rw [addC_ne (by omega)];exact hc
   have ht1:(s.addC nc).tasks[n]?=some t:=ht
   have hgo:=hGc.go hIc (t':=t) ht1 h.tp hc1 rfl (Nat.le_refl _) rfl rfl rfl h.wt (fun _=>h.en) (fun _ st' e1 e2=>by
    rw [hst] at e1;injection e1 with e1;subst e1
    have:(9:Int)=6:=e2
    omega)
   have hse:((s.addC nc).cset j { c with pc:=c.pc+1 }).tset n t=(s.addC nc).cset j { c with pc:=c.pc+1 }:=tset_self (s:=(s.addC nc).cset j { c with pc:=c.pc+1 }) ht
   rw [hse] at hgo
   have hP:=hgo.psh (n:=n) (J:=s.calls.length) (k:=tk.toNat) (cJ:=nc) (t:=t) ht (hiv.stk n t ht) (hiv.wf.tsk t (List.mem_of_getElem? ht)).2.1 (by
    rw [cset_ne (by omega)];exact addC_at) (by rw [hnc];exact b1) (by rw [hnc];exact h2) hdep h.wt
   exact SgR.eqs hP (by show (9:Int)≠6;decide) rfl rfl rfl rfl rfl rfl (Nat.le_add_right _ _) (Nat.le_succ _) hob (Nat.le_refl _) (fun e=>by cases e) tset_len
 ·simp +decide only [stepF,if_true,if_false]
  exact SgR.eqs (hg.canL _) (by show (10:Int)≠6;decide) rfl rfl rfl rfl rfl rfl (Nat.le_add_right _ _) (Nat.le_succ _) hob (Nat.le_refl _) (fun _=>⟨rfl,rfl⟩) canL_len
 ·simp +decide only [stepF,if_true,if_false]
  by_cases hcc:t.canc=true
  ·rw [if_pos hcc]
   have hP:=h.hP
   have hB:=h.hB
   have hS:=stop_gi hiv hg ht h.wt hP (by omega)
   have hF:=stopF_fx s n
   obtain ⟨_,_,hSb⟩:=stop_ok hiv ht (by rw [h.st1];decide) h.wt hP (by omega)
   exact SgR.eqs hS (by show (11:Int)≠6;decide) hF.p hF.sched hF.used hF.turns hF.cks hF.acts (by rw [hF.accs];omega) (by rw [hF.lines];omega) (by rw [hF.objs];exact hob) (by rw [hF.objs];exact Nat.le_refl _) (fun e=>by cases e) hSb.tl
  ·rw [if_neg hcc]
   exact SgR.eqs hg (by show (11:Int)≠6;decide) rfl rfl rfl rfl rfl rfl (Nat.le_add_right _ _) (Nat.le_succ _) hob (Nat.le_refl _) (fun _=>⟨rfl,rfl⟩) rfl
 ·simp +decide only [stepF,if_true,if_false]
  exact SgR.eqs hg (by show (12:Int)≠6;decide) rfl rfl rfl rfl rfl rfl (Nat.le_add_right _ _) (Nat.le_succ _) hob (Nat.le_refl _) (fun _=>⟨rfl,rfl⟩) rfl
end Go.Ab
set_option maxHeartbeats 4000000
namespace Go.Ab
open Go Go.Ab Go.Proofs Go.Ab.Ty
theorem turnB_cs {s:PRun} {n j:Nat} {t:PTask} {c:PCall} {st:Stp} (h:Tok 80010 s n j t c st) (hac:0≤actF c st→(actF c st).toNat<s.acts.length) (hz1:s.turns.length≤900000) (hz2:s.cks.length≤900000) :
 ∃t9,Cs s n t 10 (turnB s n c st) t9∧t9.beh=none:=by
 have hiv:=h.iv
 have ht:=h.ht
 have hP:=h.hP
 have hA:=Cs.turnA hiv ht (by omega)
 have hck1:(turnA s n).cks=s.cks:=rfl
 unfold turnB
 obtain ⟨s1,hs1⟩:∃s1,s1=turnA s n:=⟨_,rfl⟩
 rw [← hs1] at hA hck1 ⊢
 have ht1:=hA.tk
 have hw1:=hA.iv.wf
 have hp1:s1.pool.length+80010≤MM:=by have:=hA.pl;omega
 -- behind
 have hb2:Cs s1 n t 1 (behK s1 n) (tkAt (behK s1 n) n):=by
  unfold behK
  rw [tkAt_eq ht1]
  cases hbh:t.beh with
  | none=>simp only;rw [tkAt_eq ht1];exact (Cs.refl hA.iv ht1).mono (by omega)
  | some b =>
    have hbl:=(hw1.tsk t (List.mem_of_getElem? ht1)).2.2.2 b hbh
    have hbm:s1.behs[b]?=some s1.behs[b]:=List.getElem?_eq_getElem hbl
    obtain ⟨e1,e2⟩:=hw1.behs _ (List.mem_of_getElem? hbm)
    obtain ⟨x,hx⟩:∃x,s1.behs[b]=[x]:=List.length_eq_one_iff.1 e1
    rw [hx] at hbm e2
    have e3:behX s1 b=x:=by unfold behX;rw [getD_at hbm];rfl
    simp only
    rw [e3]
    have:=Cs.clkJ hA.iv ht1 (e2 x (by simp)) (by omega)
    rw [tkAt_eq this.tk]
    exact this
 have hck2:(behK s1 n).cks=s1.cks:=by unfold behK;split<;>rfl
 obtain ⟨s2,hs2⟩:∃s2,s2=behK s1 n:=⟨_,rfl⟩
 rw [← hs2] at hb2 hck2 ⊢
 obtain ⟨t2,ht2e⟩:∃t2,t2=tkAt s2 n:=⟨_,rfl⟩
 rw [← ht2e] at hb2
 have ht2:=hb2.tk
 have hC3:Cs s2 n t2 0 (nobS s2 n) { t2 with beh:=none }:=by
  unfold nobS
  rw [tkAt_eq ht2]
  exact Cs.tset (t':={ t2 with beh:=none }) hb2.iv ht2 ⟨rfl,rfl,rfl,rfl⟩ ⟨rfl,rfl,rfl,rfl,rfl⟩ ((hb2.iv.wf.tsk t2 (List.mem_of_getElem? ht2)).2.2.1) (.inr rfl)
 have hA3':Cs s n t 1 (nobS s2 n) { t2 with beh:=none }:=((hA.trans hb2).trans hC3).mono (by omega)
 have hck3:(nobS s2 n).cks=s2.cks:=rfl
 obtain ⟨t3,ht3e⟩:∃t3,t3={ t2 with beh:=none }:=⟨_,rfl⟩
 obtain ⟨s3,hs3⟩:∃s3,s3=nobS s2 n:=⟨_,rfl⟩
 have hb3:t3.beh=none:=by rw [ht3e]
 rw [← hs3,← ht3e] at hA3'
 rw [← hs3] at hck3 ⊢
 have hA3:=hA3'
 have ht3:=hA3.tk
 have hI3:=hA3.iv
 have hw3:=hI3.wf
 have hp3:s3.pool.length+80009≤MM:=by have:=hA3.pl;omega
 have hC4:∃t4,Cs s3 n t3 1 (awK s3 n st) t4∧t4.beh=none:=by
  unfold awK
  rw [tkAt_eq ht3]
  split
  ·rename_i hh
   obtain ⟨kc,q1,q2⟩:=h.r7 (.inl hh.1)
   rw [← hA3.tsa.2.2.2] at q1
   rw [← hA3.tl] at q2
   have htc:s3.tasks[kc]?=some s3.tasks[kc]:=List.getElem?_eq_getElem q2
   have q4:kidN t3 st.n=kc:=by unfold kidN;rw [q1];rfl
   have q5:ovr s3 kc=decide (3≤s3.tasks[kc].state):=by unfold ovr;rw [htc]
   rw [q4,q5] at hh
   obtain ⟨x,hx⟩:=hI3.en kc _ htc (of_decide_eq_true hh.2)
   have x3:endX s3 kc=x:=by unfold endX;rw [getD_at hx];rfl
   rw [q4,x3]
   exact ⟨_,Cs.clkJ hI3 ht3 (hw3.ends _ (List.mem_of_getElem? hx) x rfl) (by omega),hb3⟩
  ·exact ⟨t3,(Cs.refl hI3 ht3).mono (by omega),hb3⟩
 have hck4:(awK s3 n st).cks=s3.cks:=by unfold awK;split<;>rfl
 obtain ⟨s4,hs4⟩:∃s4,s4=awK s3 n st:=⟨_,rfl⟩
 rw [← hs4] at hC4 hck4 ⊢
 obtain ⟨t4,hC4',hb4⟩:=hC4
 have hA4:Cs s n t 2 s4 t4:=(hA3.trans hC4').mono (by omega)
 have hI4:=hA4.iv
 have hw4:=hI4.wf
 have ht4:=hA4.tk
 have hp4:s4.pool.length+80008≤MM:=by have:=hA4.pl;omega
 obtain ⟨cn,hcn⟩:∃cn,cn=canF s c st:=⟨_,rfl⟩
 obtain ⟨a,haF⟩:∃a,a=actF c st:=⟨_,rfl⟩
 rw [← haF] at hac
 rw [← hcn,← haF]
 have hC5:∃t5,Cs s4 n t4 1 (acK s4 n cn a) t5∧t5.beh=none:=by
  unfold acK
  split
  ·rename_i hh
   have h1:=hac hh.2
   rw [← hA4.acl] at h1
   have h2:s4.acts[a.toNat]?=some s4.acts[a.toNat]:=List.getElem?_eq_getElem h1
   rw [getD_at h2]
   exact ⟨_,Cs.clkJ hI4 ht4 (hw4.acts _ (List.mem_of_getElem? h2)) (by omega),hb4⟩
  ·exact ⟨t4,(Cs.refl hI4 ht4).mono (by omega),hb4⟩
 have hck5:(acK s4 n cn a).cks=s4.cks:=by unfold acK;split<;>rfl
 obtain ⟨s5,hs5⟩:∃s5,s5=acK s4 n cn a:=⟨_,rfl⟩
 rw [← hs5] at hC5 hck5 ⊢
 obtain ⟨t5,hC5',hb5⟩:=hC5
 have hA5:Cs s n t 3 s5 t5:=(hA4.trans hC5').mono (by omega)
 have hC6:Cs s5 n t5 0 (timeS s5 n s.turns.length) t5:=Cs.timeS hA5.iv hA5.tk
 have hck6:(timeS s5 n s.turns.length).cks=s5.cks:=rfl
 obtain ⟨s6,hs6⟩:∃s6,s6=timeS s5 n s.turns.length:=⟨_,rfl⟩
 rw [← hs6] at hC6 hck6 ⊢
 have hA6:Cs s n t 3 s6 t5:=(hA5.trans hC6).mono (by omega)
 have hC7:Cs s6 n t5 1 (actS s6 n cn a) t5:=Cs.actS hA6.iv hA6.tk (by have:=hA6.pl;omega)
 have hck7:(actS s6 n cn a).cks=s6.cks:=by unfold actS;split<;>rfl
 obtain ⟨s7,hs7⟩:∃s7,s7=actS s6 n cn a:=⟨_,rfl⟩
 rw [← hs7] at hC7 hck7 ⊢
 have hA7:Cs s n t 4 s7 t5:=(hA6.trans hC7).mono (by omega)
 have hz7:s7.cks.length≤900000:=by rw [hck7,hck6,hck5,hck4,hck3,hck2,hck1];exact hz2
 have hC8:Cs s7 n t5 1 (ckS s7 n) t5:=Cs.ckS hA7.iv hA7.tk (by have:=hA7.pl;omega) (by omega)
 have hA8:Cs s n t 5 (ckS s7 n) t5:=(hA7.trans hC8).mono (by omega)
 obtain ⟨s8,hs8⟩:∃s8,s8=ckS s7 n:=⟨_,rfl⟩
 rw [← hs8] at hA8 ⊢
 have ht8:=hA8.tk
 have hC9:Cs s8 n t5 0 (hasS s8 n (-1)) { t5 with has:=-1 }:=by
  unfold hasS;rw [tkAt_eq ht8]
  exact Cs.tset hA8.iv ht8 ⟨rfl,rfl,rfl,rfl⟩ ⟨rfl,rfl,rfl,rfl,rfl⟩ (hA8.iv.wf.tsk t5 (List.mem_of_getElem? ht8)).2.2.1 (.inl rfl)
 exact ⟨_,(hA8.trans hC9).mono (by omega),hb5⟩
end Go.Ab
