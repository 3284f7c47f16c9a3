/- Part of the proof. -/
import Derived.Test.YthgicbkdckpeaaaDoorG31
set_option linter.unusedSimpArgs false
set_option linter.unusedVariables false
set_option maxHeartbeats 4000000
namespace Go.Ab
open Go Go.Ab Go.Proofs Go.Ab.Ty
structure CalG (p:Tk) (no:Nat) (c:PCall):Prop where
 cd:(c.actor = -1∧∃k:Nat,p.codes[k]?=some c.code)∨(0≤c.actor∧c.actor<p.actors∧∃k:Nat,p.methods[k]?=some c.code)
 vl:c.vars.length=c.code.vars.toNat
 vo:∀x∈c.vars,x<(no:Int)
structure TasG (s:PRun) (t:PTask):Prop where
 pr:0≤t.prio∧t.prio≤3
 wt:t.waits<s.tasks.length
 s1:t.state=1→t.ending=0∧t.waits<0
 kl:t.kids.length≤s.tasks.length
 sl:t.sarr.length≤7
 b0:∀(j:Nat) (c:PCall),t.sarr[0]?=some j→s.calls[j]?=some c→c.actor = -1∧∀(i:Nat) (st:Stp),(i:Int)<c.pc→c.code.steps[i]?=some st→st.op=6→∃kc:Nat,getM t.spn i=some (kc:Int)∧kc<s.tasks.length
 st:∀(i j:Nat) (c:PCall),0<i→i<t.slen→t.sarr[i]?=some j→s.calls[j]?=some c→0≤c.actor∧∃k:Nat,s.p.methods[k]?=some c.code∧k+i≤6
 w7:0≤t.waits→t.ending=0∧∀(j:Nat) (c:PCall) (st:Stp),t.sarr[t.slen-1]?=some j→s.calls[j]?=some c→c.code.steps[c.pc.toNat]?=some st→st.op=7
structure Gi (s:PRun):Prop where
 ok:Rg.okValid s.p
 ob:∀x∈s.objs,-1000≤x.1∧x.1≤1000∧x.2<(s.objs.length:Int)
 ca:∀c∈s.calls,CalG s.p s.objs.length c
 ta:∀(n:Nat) (t:PTask),s.tasks[n]?=some t→TasG s t
structure T1 (t t':PTask):Prop where
 sa:t'.sarr=t.sarr
 sl:t'.slen=t.slen
 kd:t'.kids=t.kids
 sp:t'.spn=t.spn
 pr:t'.prio=t.prio
 wt:t'.waits=t.waits∨t'.waits = -1
 s1:t'.state=1→t'.ending=0∧t'.waits<0
 w0:0≤t'.waits→t'.ending=0
theorem T1.refl {s:PRun} {t:PTask} (h:TasG s t):T1 t t:=⟨rfl,rfl,rfl,rfl,rfl,.inl rfl,h.s1,fun h2=>(h.w7 h2).1⟩
theorem TasG.t1 {s s':PRun} {t t':PTask} (h:TasG s t) (h1:T1 t t') (hp:s'.p=s.p) (hc:s'.calls=s.calls) (hl:s'.tasks.length=s.tasks.length):TasG s' t':=by
 refine ⟨by rw [h1.pr];exact h.pr,?_,h1.s1,by rw [h1.kd,hl];exact h.kl,by rw [h1.sa];exact h.sl,fun j c e1 e2=>?_,fun i j c e0 e1 e2 e3=>?_,fun h2=>⟨h1.w0 h2,fun j c st e1 e2 e3=>?_⟩⟩
 ·rw [hl]
  rcases h1.wt with e|e
  ·rw [e];exact h.wt
  ·rw [e];omega
 ·rw [h1.sa] at e1;rw [hc] at e2
  rw [h1.sp,hl];exact h.b0 j c e1 e2
 ·rw [h1.sa] at e2;rw [hc] at e3;rw [h1.sl] at e1
  rw [hp];exact h.st i j c e0 e1 e2 e3
 ·rw [h1.sa,h1.sl] at e1;rw [hc] at e2
  rcases h1.wt with e|e
  ·exact (h.w7 (by rw [← e];exact h2)).2 j c st e1 e2 e3
  ·omega
theorem Gi.same {s s':PRun} (h:Gi s) (hp:s'.p=s.p) (ho:s'.objs=s.objs) (hc:s'.calls=s.calls) (hl:s'.tasks.length=s.tasks.length) (ht:∀(n:Nat) (t':PTask),s'.tasks[n]?=some t'→∃t,s.tasks[n]?=some t∧T1 t t'):Gi s':=by
 refine ⟨by rw [hp];exact h.ok,by rw [ho];exact h.ob,by rw [hp,ho,hc];exact h.ca,fun n t' e=>?_⟩
 obtain ⟨t,e1,e2⟩:=ht n t' e
 exact (h.ta n t e1).t1 e2 hp hc hl
theorem Gi.eqs {s s':PRun} (h:Gi s) (hp:s'.p=s.p) (ho:s'.objs=s.objs) (hc:s'.calls=s.calls) (ht:s'.tasks=s.tasks):Gi s':=
 h.same hp ho hc (by rw [ht]) fun n t' e=>⟨t',by rw [← ht];exact e,.refl (h.ta n t' (by rw [← ht];exact e))⟩
theorem Gi.tset {s:PRun} (h:Gi s) {n:Nat} {t t':PTask} (ht:s.tasks[n]?=some t) (h1:T1 t t'):Gi (s.tset n t'):=by
 refine h.same rfl rfl rfl tset_len fun k u e=>?_
 by_cases ek:n=k
 ·subst ek;rw [tset_at ht] at e;injection e with e;subst e;exact ⟨t,ht,h1⟩
 ·rw [tset_ne ek] at e;exact ⟨u,e,.refl (h.ta k u e)⟩
theorem Gi.go {s:PRun} (hi:Iv s) (h:Gi s) {n j:Nat} {t t':PTask} {c:PCall} (ht:s.tasks[n]?=some t) (hj:t.sarr[t.slen-1]?=some j) (hc:s.calls[j]?=some c)
 (h1:t'.sarr=t.sarr) (h2:t'.slen≤t.slen) (h3:t'.kids=t.kids) (h4:t'.spn=t.spn) (h5:t'.prio=t.prio) (h6:t'.waits<0) (h7:t'.state=1→t'.ending=0)
 (hN:t.slen=1→∀st,c.code.steps[c.pc.toNat]?=some st→st.op=6→∃kc:Nat,getM t.spn c.pc=some (kc:Int)∧kc<s.tasks.length):Gi ((s.cset j { c with pc:=c.pc+1 }).tset n t'):=by
 obtain ⟨c',hc'⟩:∃c',c'={ c with pc:=c.pc+1 }:=⟨_,rfl⟩
 rw [← hc']
 have hs0:=hi.stk n t ht
 have hsl:=(hi.wf.tsk t (List.mem_of_getElem? ht)).2.1
 have hpc:=(hi.pcB c (List.mem_of_getElem? hc)).1
 have hcg:=h.ca c (List.mem_of_getElem? hc)
 have hca:CalG s.p s.objs.length c':=by rw [hc'];exact ⟨hcg.cd,hcg.vl,hcg.vo⟩
 have htg:=h.ta n t ht
 have hat:(s.cset j c').calls[j]?=some c':=cset_at hc
 have hne:∀ {i:Nat},i≠j→(s.cset j c').calls[i]?=s.calls[i]?:=fun e=>cset_ne (fun e2=>e e2.symm)
 have hL:((s.cset j c').tset n t').tasks.length=s.tasks.length:=by rw [tset_len];rfl
 refine ⟨h.ok,h.ob,fun x hx=>?_,fun k u hu=>?_⟩
 ·rcases List.mem_or_eq_of_mem_set hx with hx|rfl
  ·exact h.ca x hx
  ·exact hca
 by_cases ek:n=k
 ·subst ek
  rw [tset_at (s:=s.cset j c') ht] at hu;injection hu with hu;subst hu
  refine ⟨by rw [h5];exact htg.pr,by omega,fun e=>⟨h7 e,h6⟩,by rw [h3,hL];exact htg.kl,by rw [h1];exact htg.sl,fun j0 c0 e1 e2=>?_,fun i j1 c1 e0 e1 e2 e3=>?_,fun e=>by omega⟩
  ·rw [h1] at e1
   by_cases ej:j0=j
   ·subst ej
    have e2':(s.cset j0 c').calls[j0]?=some c0:=e2
    rw [hat] at e2';injection e2' with e2';subst e2'
    obtain ⟨b1,b2⟩:=htg.b0 j0 c e1 hc
    have hs1:t.slen=1:=by
     have:=(hi.dis n t n t 0 (t.slen-1) j0 ht ht (by omega) (by omega) e1 hj).2
     omega
    refine ⟨by rw [hc'];exact b1,fun i st g1 g2 g3=>?_⟩
    rw [h4,hL]
    rw [hc'] at g1 g2
    simp only at g1 g2
    by_cases ei:(i:Int)<c.pc
    ·exact b2 i st ei g2 g3
    ·have:c.pc=(i:Int):=by omega
     obtain ⟨kc,k1,k2⟩:=hN hs1 st (by rw [this,Int.toNat_natCast];exact g2) g3
     rw [this] at k1
     exact ⟨kc,k1,k2⟩
   ·have e2':(s.cset j c').calls[j0]?=some c0:=e2
    rw [hne ej] at e2'
    rw [h4,hL]
    exact htg.b0 j0 c0 e1 e2'
  ·rw [h1] at e2
   by_cases ej:j1=j
   ·subst ej
    have e3':(s.cset j1 c').calls[j1]?=some c1:=e3
    rw [hat] at e3';injection e3' with e3';subst e3'
    have:=htg.st i j1 c e0 (by omega) e2 hc
    rw [hc'];exact this
   ·have e3':(s.cset j c').calls[j1]?=some c1:=e3
    rw [hne ej] at e3'
    exact htg.st i j1 c1 e0 (by omega) e2 e3'
 ·have hu2:s.tasks[k]?=some u:=by rw [tset_ne ek] at hu;exact hu
  have hug:=h.ta k u hu2
  have hus:=hi.stk k u hu2
  have hd:∀(i j1:Nat),i<u.slen→u.sarr[i]?=some j1→j1≠j:=fun i j1 g1 g2 e=>by
   subst e
   exact ek (hi.dis n t k u (t.slen-1) i j1 ht hu2 (by omega) g1 hj g2).1
  refine ⟨hug.pr,by rw [hL];exact hug.wt,hug.s1,by rw [hL];exact hug.kl,hug.sl,fun j0 c0 e1 e2=>?_,fun i j1 c1 e0 e1 e2 e3=>?_,fun e=>⟨(hug.w7 e).1,fun j0 c0 st e1 e2 e3=>?_⟩⟩
  ·have e2':(s.cset j c').calls[j0]?=some c0:=e2
   rw [hne (hd 0 j0 hus e1)] at e2'
   rw [hL];exact hug.b0 j0 c0 e1 e2'
  ·have e3':(s.cset j c').calls[j1]?=some c1:=e3
   rw [hne (hd i j1 e1 e2)] at e3'
   exact hug.st i j1 c1 e0 e1 e2 e3'
  ·have e2':(s.cset j c').calls[j0]?=some c0:=e2
   rw [hne (hd (u.slen-1) j0 (by omega) e1)] at e2'
   exact (hug.w7 e).2 j0 c0 st e1 e2' e3
end Go.Ab
set_option maxHeartbeats 4000000
namespace Go.Ab
open Go Go.Ab Go.Proofs Go.Ab.Ty
def Okg (S:PRun→Nat→PRun) (f:Nat):Prop:=∀(s:PRun) (n:Nat),Iv s→Gi s→s.pool.length+1001*f≤MM→s.behs.length+f≤MM→Gi (S s n)
theorem goOnF_gi {S:PRun→Nat→PRun} {f:Nat} (hS:Okg S f) {s:PRun} (hi:Iv s) (h:Gi s) {n j:Nat} {t:PTask} {c:PCall} (ht:s.tasks[n]?=some t) (hst:t.state<3) (hwt:t.waits<0) (hj:t.sarr[t.slen-1]?=some j) (hc:s.calls[j]?=some c) (hp:c.pc<c.code.steps.length)
 (hN:t.slen=1→∀st,c.code.steps[c.pc.toNat]?=some st→st.op=6→∃kc:Nat,getM t.spn c.pc=some (kc:Int)∧kc<s.tasks.length)
 (hb1:s.pool.length+1001*f≤MM) (hb2:s.behs.length+f≤MM):Gi (goOnF S s n j):=by
 have hs0:=hi.stk n t ht
 unfold goOnF
 rw [ht,hc]
 simp only
 cases hpop:popS (s.cset j { c with pc:=c.pc+1 }).calls t.sarr (t.slen-1) j with
 | none =>
   have i1:=hi.go (t':=clo { t with slen:=1 } 3) ht hj hc hp rfl (by show 1≤_;omega) (by show 0<1;omega) rfl rfl rfl rfl (by show (2:Int)<3;omega) hwt (.inr (by show (3:Int)≤3;omega)) (fun e=>by have:(2:Int)=1:=e;omega)
   exact hS _ n i1 (h.go hi ht hj hc rfl (by show 1≤_;omega) rfl rfl rfl hwt (fun e=>by have:(2:Int)=1:=e;omega) hN) hb1 hb2
 | some m =>
   obtain ⟨p1,p2⟩:=popS_top hpop hj
   exact h.go hi ht hj hc rfl (by show m+1≤_;omega) rfl rfl rfl hwt (fun e=>((h.ta n t ht).s1 e).1) hN
theorem wakeP_gi {s:PRun} (h:Gi s) {p e:Nat} {tp:PTask} (ht:s.tasks[p]?=some tp) (hw:0≤tp.waits):Gi (wakeP s p tp e):=by
 have hen:=((h.ta p tp ht).w7 hw).1
 have hT:∀(b k:Nat),T1 tp { tp with waits:=-1,state:=1,beh:=some b,clk:=k }:=fun b k=>⟨rfl,rfl,rfl,rfl,rfl,.inr rfl,fun _=>⟨hen,by show (-1:Int)<0;omega⟩,fun _=>hen⟩
 have h0:Gi (s.addB [e]):=h.eqs rfl rfl rfl rfl
 have h1:Gi (wakeT s p tp e):=h0.tset (t:=tp) ht (hT s.behs.length tp.clk)
 unfold wakeP
 split
 ·split
  ·have e2:((wakeT s p tp e).addP (joinL (s.pool.getD tp.clk []) (s.pool.getD e []))).tset p { tp with waits:=-1,state:=1,beh:=some s.behs.length,clk:=s.pool.length }=((s.addB [e]).addP (joinL (s.pool.getD tp.clk []) (s.pool.getD e []))).tset p { tp with waits:=-1,state:=1,beh:=some s.behs.length,clk:=s.pool.length }:=by
    simp [wakeT,PRun.tset,PRun.addP,PRun.addB]
   rw [e2]
   have h2:Gi ((s.addB [e]).addP (joinL (s.pool.getD tp.clk []) (s.pool.getD e []))):=h0.eqs rfl rfl rfl rfl
   exact h2.tset (t:=tp) ht (hT _ _)
  ·exact h1
 ·exact h1
theorem wakeP_spn {s:PRun} {p e:Nat} {tp:PTask} (ht:s.tasks[p]?=some tp):∃t,(wakeP s p tp e).tasks[p]?=some t∧t.state=1∧t.waits = -1∧t.sarr=tp.sarr∧t.slen=tp.slen∧t.ending=tp.ending:=by
 have h1:(wakeT s p tp e).tasks[p]?=some { tp with waits:=-1,state:=1,beh:=some s.behs.length }:=tset_at ht
 unfold wakeP
 split
 ·split
  ·exact ⟨_,tset_at (s:=(wakeT s p tp e).addP _) h1,rfl,rfl,rfl,rfl,rfl⟩
  ·exact ⟨_,h1,rfl,rfl,rfl,rfl,rfl⟩
 ·exact ⟨_,h1,rfl,rfl,rfl,rfl,rfl⟩
theorem settleF_gi:∀f:Nat,Okg (settleF f) f:=by
 intro f
 induction f with
 | zero=>intro s n _ h _ _;exact h
 | succ f ih =>
   intro s n h hg hb1 hb2
   simp only [settleF]
   split
   ·exact hg
   ·rename_i t ht
    split
    ·exact hg
    ·rename_i hcl
     obtain ⟨a1,a2,a3,a4⟩:=h.wf.tsk t (List.mem_of_getElem? ht)
     have hkl:=(h.wf.tsz t (List.mem_of_getElem? ht)).2
     obtain ⟨k1,k2,k3,k4,k5⟩:=kidsJ_ok t.kids s t.clk h a3 (by omega)
     split
     ·rename_i s1 e hk
      rw [hk] at k3
      simp only at k3
      rw [k3];exact hg.eqs rfl rfl rfl rfl
     ·rename_i s1 e hk
      rw [hk] at k1 k2 k3 k4 k5
      simp only at k1 k2 k3 k4 k5
      have htl:s1.tasks=s.tasks:=by rw [k3]
      have hcll:s1.calls=s.calls:=by rw [k3]
      have hbl:s1.behs=s.behs:=by rw [k3]
      have ht1:s1.tasks[n]?=some t:=by rw [htl];exact ht
      have hg1:Gi s1:=by rw [k3];exact hg.eqs rfl rfl rfl rfl
      have i2:=k1.end ht1 k2 (fun g=>hcl (.inl g))
      have hed:=h.ed n t ht
      have g2:Gi ((s1.enS n e).tset n { t with state:=t.ending }):=by
       have:Gi (s1.enS n e):=hg1.eqs rfl rfl rfl rfl
       refine this.tset (t:=t) ht1 ⟨rfl,rfl,rfl,rfl,rfl,.inl rfl,fun g=>?_,fun g=>((hg1.ta n t ht1).w7 g).1⟩
       have:t.ending=1:=g
       omega
      split
      ·exact g2
      ·rename_i hpar
       split
       ·exact hg1
       ·rename_i tp htp
        have hpn:t.par.toNat≠n:=by
         rcases h.par n t ht with e1|⟨p,e1,e2⟩
         ·omega
         ·rw [e1];simp;omega
        have htp2:((s1.enS n e).tset n { t with state:=t.ending }).tasks[t.par.toNat]?=some tp:=by rw [tset_ne (fun g=>hpn g.symm)];exact htp
        split
        ·rename_i hwt
         have hw:=wakeP_iv (e:=e) i2 htp2 (by omega) k2 (by show s1.behs.length<_;rw [hbl];omega) (by show s1.pool.length<_;omega)
         obtain ⟨tq,q1,q2,q3,q4,q5,q6⟩:=wakeP_spn (e:=e) htp2
         obtain ⟨c,c1,c2⟩:=topJ_at i2 htp2
         have hc3:c.pc<c.code.steps.length:=i2.pcI _ tp _ c htp2 (.inr (by omega)) c1 c2
         have hpb:(wakeP ((s1.enS n e).tset n { t with state:=t.ending }) t.par.toNat tp e).pool.length≤s1.pool.length+1:=hw.pl
         have hbb:(wakeP ((s1.enS n e).tset n { t with state:=t.ending }) t.par.toNat tp e).behs.length=s.behs.length+1:=by rw [hw.bl];show s1.behs.length+1=_;rw [hbl]
         have h7:=((g2.ta _ tp htp2).w7 (by omega)).2
         exact goOnF_gi ih hw.iv (wakeP_gi g2 htp2 (by omega)) q1 (by omega) (by omega) (by rw [q4,q5];exact c1) (by rw [hw.cl];exact c2) hc3 (fun _ st g1 g3=>by have:=h7 _ c st c1 c2 g1;omega) (by omega) (by omega)
        ·exact ih _ t.par.toNat i2 g2 (by show s1.pool.length+_≤_;omega) (by show s1.behs.length+_≤_;rw [hbl];omega)
end Go.Ab
set_option maxHeartbeats 4000000
namespace Go.Ab
open Go Go.Ab Go.Proofs Go.Ab.Ty
structure Zs (s s':PRun) (n:Nat):Prop where
 p:s'.p=s.p
 sched:s'.sched=s.sched
 used:s'.used=s.used
 objs:s'.objs=s.objs
 lines:s'.lines=s.lines
 accs:s'.accs=s.accs
 calls:s'.calls=s.calls
 acl:s'.acts.length=s.acts.length
 bl:s'.behs=s.behs
 tl:s'.tasks.length=s.tasks.length
 tk:∀(k:Nat) (t':PTask),s'.tasks[k]?=some t'→∃t,s.tasks[k]?=some t∧t'={ t with clk:=t'.clk,has:=t'.has,beh:=t'.beh }
theorem Zs.refl (s:PRun) (n:Nat):Zs s s n:=⟨rfl,rfl,rfl,rfl,rfl,rfl,rfl,rfl,rfl,rfl,fun k t h=>⟨t,h,rfl⟩⟩
theorem Zs.trans {s s1 s2:PRun} {n:Nat} (h:Zs s s1 n) (g:Zs s1 s2 n):Zs s s2 n:=
 ⟨g.p.trans h.p,g.sched.trans h.sched,g.used.trans h.used,g.objs.trans h.objs,g.lines.trans h.lines,g.accs.trans h.accs,g.calls.trans h.calls,g.acl.trans h.acl,g.bl.trans h.bl,g.tl.trans h.tl,fun k t2 e=>by
  obtain ⟨t1,e1,f1⟩:=g.tk k t2 e
  obtain ⟨t,e0,f0⟩:=h.tk k t1 e1
  refine ⟨t,e0,?_⟩
  rw [f0] at f1
  exact f1⟩
theorem Zs.gi {s s':PRun} {n:Nat} (h:Zs s s' n) (hg:Gi s):Gi s':=by
 refine hg.same h.p h.objs h.calls h.tl fun k t' e=>?_
 obtain ⟨t,e0,f0⟩:=h.tk k t' e
 have ht:=hg.ta k t e0
 refine ⟨t,e0,?_⟩
 rw [f0]
 exact ⟨rfl,rfl,rfl,rfl,rfl,.inl rfl,ht.s1,fun g=>(ht.w7 g).1⟩
theorem Zs.tset {s:PRun} {n k:Nat} {t':PTask} (h:∀t,s.tasks[k]?=some t→t'={ t with clk:=t'.clk,has:=t'.has,beh:=t'.beh }):Zs s (s.tset k t') n:=
 ⟨rfl,rfl,rfl,rfl,rfl,rfl,rfl,rfl,rfl,tset_len,fun i u e=>by
  by_cases ei:k=i
  ·subst ei
   have hlt:=(List.getElem?_eq_some_iff.1 e).1
   rw [tset_len] at hlt
   have h1:=List.getElem?_eq_getElem hlt
   rw [tset_at h1] at e;injection e with e;subst e
   exact ⟨_,h1,h _ h1⟩
  ·rw [tset_ne ei] at e;exact ⟨u,e,rfl⟩⟩
theorem Zs.eqs {s s':PRun} {n:Nat} (p:s'.p=s.p) (sched:s'.sched=s.sched) (used:s'.used=s.used) (objs:s'.objs=s.objs) (lines:s'.lines=s.lines) (accs:s'.accs=s.accs) (calls:s'.calls=s.calls) (acl:s'.acts.length=s.acts.length) (bl:s'.behs=s.behs) (tl:s'.tasks=s.tasks):Zs s s' n:=
 ⟨p,sched,used,objs,lines,accs,calls,acl,bl,by rw [tl],fun k t h=>⟨t,by rw [← tl];exact h,rfl⟩⟩
theorem zs_clkJ (s:PRun) (n x:Nat):Zs s (clkJ s n x) n:=by
 unfold clkJ
 have h1:Zs s (s.addP (joinL (plA s (tkAt s n).clk) (plA s x))) n:=Zs.eqs rfl rfl rfl rfl rfl rfl rfl rfl rfl rfl
 refine h1.trans (Zs.tset fun t ht=>?_)
 have:s.tasks[n]?=some t:=ht
 rw [tkAt_eq this]
theorem zs_behK (s:PRun) (n:Nat):Zs s (behK s n) n:=by
 unfold behK
 split
 ·exact .refl s n
 ·exact zs_clkJ ..
theorem zs_nobS (s:PRun) (n:Nat):Zs s (nobS s n) n:=by
 unfold nobS
 exact .tset fun t ht=>by rw [tkAt_eq ht]
theorem zs_awK (s:PRun) (n:Nat) (st:Stp):Zs s (awK s n st) n:=by
 unfold awK
 split
 ·exact zs_clkJ ..
 ·exact .refl s n
theorem zs_acK (s:PRun) (n:Nat) (b:Bool) (a:Int):Zs s (acK s n b a) n:=by
 unfold acK
 split
 ·exact zs_clkJ ..
 ·exact .refl s n
theorem zs_timeS (s:PRun) (n:Nat) (x:Int):Zs s (timeS s n x) n:=.eqs rfl rfl rfl rfl rfl rfl rfl rfl rfl rfl
theorem zs_actS (s:PRun) (n:Nat) (b:Bool) (a:Int):Zs s (actS s n b a) n:=by
 unfold actS
 split
 ·exact .eqs rfl rfl rfl rfl rfl rfl rfl (by simp) rfl rfl
 ·exact .refl s n
theorem zs_ckS (s:PRun) (n:Nat):Zs s (ckS s n) n:=.eqs rfl rfl rfl rfl rfl rfl rfl rfl rfl rfl
theorem zs_hasS (s:PRun) (n:Nat) (v:Int):Zs s (hasS s n v) n:=by
 unfold hasS
 exact .tset fun t ht=>by rw [tkAt_eq ht]
theorem zs_turnA (s:PRun) (n:Nat):Zs s (turnA s n) n:=.eqs rfl rfl rfl rfl rfl rfl rfl rfl rfl rfl
theorem zs_turnB (s:PRun) (n:Nat) (c:PCall) (st:Stp):Zs s (turnB s n c st) n:=by
 unfold turnB
 exact ((((((((zs_turnA s n).trans (zs_behK _ n)).trans (zs_nobS _ n)).trans (zs_awK _ n st)).trans (zs_acK _ n _ _)).trans (zs_timeS _ n _)).trans (zs_actS _ n _ _)).trans (zs_ckS _ n)).trans (zs_hasS _ n _)
theorem turnB_turns (s:PRun) (n:Nat) (c:PCall) (st:Stp):(turnB s n c st).turns=s.turns++[(n:Int)]∧(turnB s n c st).cks.length=s.cks.length+1:=by
 have hb:∀s:PRun,(behK s n).turns=s.turns∧(behK s n).cks=s.cks:=fun s=>by
  unfold behK;split
  ·exact ⟨rfl,rfl⟩
  ·exact ⟨rfl,rfl⟩
 have hw:∀s:PRun,(awK s n st).turns=s.turns∧(awK s n st).cks=s.cks:=fun s=>by
  unfold awK;split
  ·exact ⟨rfl,rfl⟩
  ·exact ⟨rfl,rfl⟩
 have ha:∀(s:PRun) (b:Bool) (a:Int),(acK s n b a).turns=s.turns∧(acK s n b a).cks=s.cks:=fun s b a=>by
  unfold acK;split
  ·exact ⟨rfl,rfl⟩
  ·exact ⟨rfl,rfl⟩
 have hs:∀(s:PRun) (b:Bool) (a:Int),(actS s n b a).turns=s.turns∧(actS s n b a).cks=s.cks:=fun s b a=>by
  unfold actS;split
  ·exact ⟨rfl,rfl⟩
  ·exact ⟨rfl,rfl⟩
 unfold turnB
 constructor
 ·show (actS (timeS (acK (awK (nobS (behK (turnA s n) n) n) n st) n (canF s c st) (actF c st)) n s.turns.length) n (canF s c st) (actF c st)).turns=_
  rw [(hs _ _ _).1]
  show (acK (awK (nobS (behK (turnA s n) n) n) n st) n (canF s c st) (actF c st)).turns=_
  rw [(ha _ _ _).1,(hw _).1]
  show (behK (turnA s n) n).turns=_
  rw [(hb _).1];rfl
 ·show ((actS (timeS (acK (awK (nobS (behK (turnA s n) n) n) n st) n (canF s c st) (actF c st)) n s.turns.length) n (canF s c st) (actF c st)).cks++[_]).length=_
  rw [(hs _ _ _).2]
  show ((acK (awK (nobS (behK (turnA s n) n) n) n st) n (canF s c st) (actF c st)).cks++[_]).length=_
  rw [(ha _ _ _).2,(hw _).2]
  show ((behK (turnA s n) n).cks++[_]).length=_
  rw [(hb _).2]
  simp [turnA]
end Go.Ab
set_option maxHeartbeats 4000000
namespace Go.Ab
open Go Go.Ab Go.Proofs Go.Ab.Ty
structure Sz (s:PRun):Prop where
 us:0≤s.used∧s.used≤s.sched.length
 sl:s.sched.length≤200
 ck:s.cks.length≤s.turns.length
 ac:s.accs.length≤2*s.turns.length
 ln:s.lines.length≤s.turns.length
 cl:s.calls.length≤s.turns.length+1
 pl:s.pool.length≤50000+45000*(s.turns.length+s.tasks.length)
 bl:s.behs.length≤100+100*(s.turns.length+s.tasks.length)
 ob:s.objs.length≤200
 ao:s.p.actors.toNat≤s.objs.length
 al:s.acts.length=s.p.actors.toNat
 tn:s.turns.length≤2000
theorem nth_at {α:Type} {l:List α} {d x:α} {i:Nat} (h:l[i]?=some x):nth d l i=x:=by
 unfold nth
 rw [Int.toNat_natCast,h];rfl
structure Cdk (s:PRun) (c:PCall) (l:Lk) (k:Nat):Prop where
 lp:l.p=s.p
 lc:l.c=c.code
 own:l.own=k
 ok:Rg.okCode l
 me:(l.method=false∧c.actor = -1∧s.p.codes[k]?=some c.code)∨(l.method=true∧0≤c.actor∧c.actor<s.p.actors∧s.p.methods[k]?=some c.code)
theorem cdk_of {s:PRun} (hg:Gi s) {c:PCall} (hc:c∈s.calls):∃l k,Cdk s c l k:=by
 obtain ⟨_,h2,h3⟩:=hg.ok
 rcases (hg.ca c hc).cd with ⟨a1,k,hk⟩|⟨a1,a2,k,hk⟩
 ·exact ⟨⟨s.p,Rg.cod s.p.codes k,k,false⟩,k,rfl,nth_at hk,rfl,h2 k (List.getElem?_eq_some_iff.1 hk).1,.inl ⟨rfl,a1,hk⟩⟩
 ·exact ⟨⟨s.p,Rg.cod s.p.methods k,k,true⟩,k,rfl,nth_at hk,rfl,h3 k (List.getElem?_eq_some_iff.1 hk).1,.inr ⟨rfl,a1,a2,hk⟩⟩
theorem cdk_me {s:PRun} (hg:Gi s) {c:PCall} {k:Nat} (ha:0≤c.actor) (hk:s.p.methods[k]?=some c.code) (hc:c∈s.calls):∃l,Cdk s c l k∧l.method=true:=by
 obtain ⟨_,h2,h3⟩:=hg.ok
 rcases (hg.ca c hc).cd with ⟨a1,_⟩|⟨a1,a2,_⟩
 ·omega
 ·exact ⟨⟨s.p,Rg.cod s.p.methods k,k,true⟩,⟨rfl,nth_at hk,rfl,h3 k (List.getElem?_eq_some_iff.1 hk).1,.inr ⟨rfl,a1,a2,hk⟩⟩,rfl⟩
structure TopC (s:PRun) (n:Nat) (t:PTask) (j:Nat) (c:PCall) (st:Stp) (l:Lk) (k i:Nat):Prop where
 ht:s.tasks[n]?=some t
 hs:t.slen=i+1
 hj:t.sarr[i]?=some j
 hc:s.calls[j]?=some c
 cd:Cdk s c l k
 dp:0<i→l.method=true∧k+i≤6
 b0:i=0→l.method=false
 pc:0≤c.pc∧c.pc<c.code.steps.length
 es:c.code.steps[c.pc.toNat]?=some st
 os:Rg.okStep l c.pc st
theorem topC_of {s:PRun} (hi:Iv s) (hg:Gi s) {n:Nat} {t:PTask} (ht:s.tasks[n]?=some t) (h1:t.state=1):∃j c st l k i,TopC s n t j c st l k i:=by
 obtain ⟨c,e1,e2⟩:=topJ_at hi ht
 have hs0:=hi.stk n t ht
 obtain ⟨i,hi'⟩:∃i,t.slen=i+1:=⟨t.slen-1,by omega⟩
 have hj:t.sarr[i]?=some (topJ t):=by rw [hi'] at e1;exact e1
 have hcm:=List.mem_of_getElem? e2
 have hpc:=hi.pcI n t _ c ht (.inl h1) e1 e2
 have hp0:=(hi.pcB c hcm).1
 obtain ⟨st,hst⟩:∃st,c.code.steps[c.pc.toNat]?=some st:=⟨_,List.getElem?_eq_getElem (by omega)⟩
 have htg:=hg.ta n t ht
 obtain ⟨l,k,hcd,hd,hb⟩:∃l k,Cdk s c l k∧(0<i→l.method=true∧k+i≤6)∧(i=0→l.method=false):=by
  by_cases e:i=0
  ·subst e
   obtain ⟨l,k,h⟩:=cdk_of hg hcm
   have ha:=(htg.b0 _ c hj e2).1
   refine ⟨l,k,h,fun h=>by omega,fun _=>?_⟩
   rcases h.me with ⟨m,_⟩|⟨_,m,_⟩
   ·exact m
   ·omega
  ·obtain ⟨a1,k,a2,a3⟩:=htg.st i _ c (by omega) (by omega) hj e2
   obtain ⟨l,h,hm⟩:=cdk_me hg a1 a2 hcm
   exact ⟨l,k,h,fun _=>⟨hm,a3⟩,fun h=>by omega⟩
 refine ⟨_,c,st,l,k,i,ht,hi',hj,e2,hcd,hd,hb,⟨hp0,hpc⟩,hst,?_⟩
 have h2:=hcd.ok.2 c.pc.toNat (by rw [hcd.lc];omega)
 rw [hcd.lc,Int.toNat_of_nonneg hp0] at h2
 have e3:Rg.stp c.code.steps c.pc=st:=by
  have:=nth_at (d:=Rg.stp0) hst
  rw [Int.toNat_of_nonneg hp0] at this;exact this
 rw [e3] at h2
 exact h2
theorem cod_at {l:List Cd} {i:Int} (h0:0≤i) (h1:i<l.length):l[i.toNat]?=some (Rg.cod l i):=by
 have:=List.getElem?_eq_getElem (l:=l) (i:=i.toNat) (by omega)
 rw [this]
 have e:=nth_at (d:=Rg.cd0) this
 rw [Int.toNat_of_nonneg h0] at e
 rw [← e]
theorem TopC.tok {s:PRun} (hi:Iv s) (hg:Gi s) (hz:Sz s) {n j:Nat} {t:PTask} {c:PCall} {st:Stp} {l:Lk} {k i:Nat} (h:TopC s n t j c st l k i) (h1:t.state=1) :
 Tok 80010 s n j t c st∧(0≤actF c st→(actF c st).toNat<s.acts.length):=by
 obtain ⟨ht,hs,hj,hc,hcd,hdp,hb0,hpc,hst,hos⟩:=h
 have hcm:=List.mem_of_getElem? hc
 have hcg:=hg.ca c hcm
 have htg:=hg.ta n t ht
 obtain ⟨⟨o1,o2,o3,o4,o5⟩,oc,om⟩:=hg.ok
 obtain ⟨⟨q1,q2,q3,q4,q5⟩,_⟩:=hcd.ok
 rw [hcd.lc] at q1 q2 q3 q4 q5
 have hac:c.actor = -1∨(0≤c.actor∧c.actor<s.p.actors):=by
  rcases hcg.cd with ⟨a,_⟩|⟨a,b,_⟩
  ·exact .inl a
  ·exact .inr ⟨a,b⟩
 have hMM:=MM_eq
 have hinv:∀vs:List Int,Rg.okVars l.c.vars vs→∀v∈vs,inV c v:=fun vs hv v hm=>by
  obtain ⟨a,b⟩:=hv.1 v hm
  rw [hcd.lc] at b
  exact ⟨a,by rw [hcg.vl];omega⟩
 have hvlen:st.vars.length≤4:=by
  unfold Rg.okStep Rg.noneT at hos
  rw [hcd.lp] at hos
  rcases hos with h|h|h|h|h|h|h|h
  ·omega
  ·omega
  ·omega
  ·obtain ⟨_,_,_,_,a,b,_,e,_⟩:=h
   have:=oc st.task.toNat (by omega)
   have:=this.1.2.1
   simp only at this
   rw [Int.toNat_of_nonneg (by omega)] at this
   omega
  ·omega
  ·omega
  ·obtain ⟨_,_,_,_,a,b,_,e,_⟩:=h
   have:=om st.task.toNat (by omega)
   have:=this.1.2.1
   simp only at this
   rw [Int.toNat_of_nonneg (by omega)] at this
   omega
  ·omega
 have hop:1≤st.op∧st.op≤12:=by unfold Rg.okStep at hos;omega
 have htm:=List.mem_of_getElem? ht
 have hs1:=htg.s1 h1
 have hnT:=hi.wf.nT
 have ht32:s.tasks.length≤32:=hnT
 have htn:=hz.tn
 have hpl:=hz.pl
 have hbl:=hz.bl
 have hcl:=hz.cl
 have hac2:=hz.ac
 have hln:=hz.ln
 refine ⟨⟨hi,ht,hc,by omega,⟨fun ho=>?_,fun ho=>?_,fun ho=>?_,hcg.vo,by omega⟩,fun x hx=>by have:=hg.ob x hx;omega,by have:=hz.ob;omega,by omega,by omega,by rw [hs];exact hj,hpc.2,h1,hs1.1,hs1.2,⟨hpc.1,by omega⟩,by omega,by omega,by omega,by have:=htg.kl;omega,by have:=htg.sl;omega,by omega,hop,fun ho=>?_,fun ho=>?_,fun ho=>?_,fun ho=>?_⟩,fun ha=>?_⟩
 ·have:Rg.okVars l.c.vars [st.v]∨Rg.okVars l.c.vars [st.v,st.w]:=by
   unfold Rg.okStep at hos
   rcases hos with h|h|h|h|h|h|h|h
   ·exact .inl h.2.1
   ·exact .inr h.2.1
   ·exact .inl h.2.1
   all_goals omega
  rcases this with h|h
  ·exact hinv _ h _ (by simp)
  ·exact hinv _ h _ (by simp)
 ·have:Rg.okVars l.c.vars [st.v,st.w]:=by
   unfold Rg.okStep at hos
   rcases hos with h|h|h|h|h|h|h|h
   ·omega
   ·exact h.2.1
   all_goals omega
  exact hinv _ this _ (by simp)
 ·have:Rg.okVars l.c.vars st.vars:=by
   unfold Rg.okStep at hos
   rcases hos with h|h|h|h|h|h|h|h
   ·omega
   ·omega
   ·omega
   ·exact h.2.2.2.2.2.2.2.2
   ·omega
   ·exact h.2.2.2.2.2.2.2.2
   ·exact h.2.2.2.2.2.2.2.2
   ·omega
  exact hinv _ this
 ·have:0<st.task∧st.task<s.p.codes.length∧(st.vars.length:Int)=(Rg.cod s.p.codes st.task).params:=by
   unfold Rg.okStep at hos
   rw [hcd.lp] at hos
   rcases hos with h|h|h|h|h|h|h|h
   ·omega
   ·omega
   ·omega
   ·exact ⟨h.2.2.2.2.1,h.2.2.2.2.2.1,h.2.2.2.2.2.2.2.1⟩
   all_goals omega
  obtain ⟨a,b,e⟩:=this
  obtain ⟨⟨r1,r2,r3,r4,r5⟩,_⟩:=oc st.task.toNat (by omega)
  rw [Int.toNat_of_nonneg (by omega)] at r1 r2 r3 r4 r5
  simp only [Bool.false_eq_true,if_false] at r3
  have r3':(Rg.cod s.p.codes st.task).params≤(Rg.cod s.p.codes st.task).vars:=r3
  have r4':(Rg.cod s.p.codes st.task).vars≤8:=r4
  have r1':0≤(Rg.cod s.p.codes st.task).params:=r1
  have r5':(Rg.cod s.p.codes st.task).steps.length≤20:=r5
  exact ⟨by omega,_,cod_at (by omega) b,by omega,by omega,by omega,by omega⟩
 ·have:l.method=false∧Rg.spawn l c.pc st:=by
   unfold Rg.okStep at hos
   rcases hos with h|h|h|h|h|h|h|h
   ·omega
   ·omega
   ·omega
   ·omega
   ·exact ⟨h.2.2.1,h.2.2.2.2.1⟩
   all_goals omega
  obtain ⟨hm,⟨a,b⟩,e⟩:=this
  have hi0:i=0:=by
   by_cases e0:i=0
   ·exact e0
   ·have:=(hdp (by omega)).1
    rw [hm] at this;cases this
  rw [hi0] at hj
  rw [hcd.lc] at e
  have hsn:c.code.steps[st.n.toNat]?=some (Rg.stp c.code.steps st.n):=by
   have h3:=List.getElem?_eq_getElem (l:=c.code.steps) (i:=st.n.toNat) (by omega)
   rw [h3]
   have e4:=nth_at (d:=Rg.stp0) h3
   rw [Int.toNat_of_nonneg a] at e4
   rw [← e4]
  have:=(htg.b0 j c hj hc).2 st.n.toNat _ (by omega) hsn e
  rw [Int.toNat_of_nonneg a] at this
  exact this
 ·have:0≤st.n∧st.n<s.p.actors∧(1:Int)≤st.vars.length:=by
   unfold Rg.okStep at hos
   rw [hcd.lp] at hos
   rcases hos with h|h|h|h|h|h|h|h
   ·omega
   ·omega
   ·omega
   ·omega
   ·omega
   ·exact ⟨h.2.2.2.1,h.2.2.2.2.1,h.2.2.2.2.2.2.1⟩
   all_goals omega
  have:=hz.ao
  omega
 ·have:0≤st.task∧st.task<s.p.methods.length∧(st.vars.length:Int)=(Rg.cod s.p.methods st.task).params:=by
   unfold Rg.okStep at hos
   rw [hcd.lp] at hos
   rcases hos with h|h|h|h|h|h|h|h
   ·omega
   ·omega
   ·omega
   ·omega
   ·omega
   ·omega
   ·exact ⟨h.2.2.2.2.1,h.2.2.2.2.2.1,h.2.2.2.2.2.2.2.1⟩
   ·omega
  obtain ⟨a,b,e⟩:=this
  obtain ⟨⟨r1,r2,r3,r4,r5⟩,_⟩:=om st.task.toNat (by omega)
  rw [Int.toNat_of_nonneg (by omega)] at r1 r2 r3 r4 r5
  simp only [if_true] at r3
  have r3':(Rg.cod s.p.methods st.task).params+1≤(Rg.cod s.p.methods st.task).vars:=r3
  have r4':(Rg.cod s.p.methods st.task).vars≤8:=r4
  have r1':0≤(Rg.cod s.p.methods st.task).params:=r1
  have r5':(Rg.cod s.p.methods st.task).steps.length≤20:=r5
  exact ⟨by omega,_,cod_at (by omega) b,by omega,by omega,by omega,by omega⟩
 ·have hal:=hz.al
  unfold actF at ha ⊢
  split
  ·rename_i ho
   rw [if_pos ho] at ha
   have:st.n<s.p.actors:=by
    unfold Rg.okStep at hos
    rw [hcd.lp] at hos
    rcases hos with h|h|h|h|h|h|h|h
    ·omega
    ·omega
    ·omega
    ·omega
    ·omega
    ·exact h.2.2.2.2.1
    all_goals omega
   omega
  ·rename_i ho
   rw [if_neg ho] at ha
   omega
end Go.Ab
set_option maxHeartbeats 4000000
namespace Go.Ab
open Go Go.Ab Go.Proofs Go.Ab.Ty
theorem TasG.up {s s':PRun} {t:PTask} (h:TasG s t) (hsa:∀j∈t.sarr,j<s.calls.length) (hp:s'.p=s.p) (hl:s.tasks.length≤s'.tasks.length)
 (hc:∀(j:Nat) (c':PCall),j<s.calls.length→s'.calls[j]?=some c'→∃c,s.calls[j]?=some c∧c'.code=c.code∧c'.actor=c.actor∧c'.pc=c.pc):TasG s' t:=by
 have:=h.kl
 have:=h.wt
 refine ⟨h.pr,by omega,h.s1,by omega,h.sl,fun j c e1 e2=>?_,fun i j c e0 e1 e2 e3=>?_,fun g=>⟨(h.w7 g).1,fun j c st e1 e2 e3=>?_⟩⟩
 ·obtain ⟨c0,f1,f2,f3,f4⟩:=hc j c (hsa j (List.mem_of_getElem? e1)) e2
  obtain ⟨b1,b2⟩:=h.b0 j c0 e1 f1
  refine ⟨by rw [f3];exact b1,fun i st g1 g2 g3=>?_⟩
  obtain ⟨kc,k1,k2⟩:=b2 i st (by rw [← f4];exact g1) (by rw [← f2];exact g2) g3
  exact ⟨kc,k1,by omega⟩
 ·obtain ⟨c0,f1,f2,f3,f4⟩:=hc j c (hsa j (List.mem_of_getElem? e2)) e3
  obtain ⟨b1,k,b2,b3⟩:=h.st i j c0 e0 e1 e2 f1
  exact ⟨by rw [f3];exact b1,k,by rw [hp,f2];exact b2,b3⟩
 ·obtain ⟨c0,f1,f2,f3,f4⟩:=hc j c (hsa j (List.mem_of_getElem? e1)) e2
  exact (h.w7 g).2 j c0 st e1 f1 (by rw [← f2,← f4];exact e3)
theorem CalG.up {p:Tk} {n n':Nat} {c:PCall} (h:CalG p n c) (hn:n≤n'):CalG p n' c:=⟨h.cd,h.vl,fun x hx=>by have:=h.vo x hx;omega⟩
theorem sarr_lt {s:PRun} (hi:Iv s) {n:Nat} {t:PTask} (ht:s.tasks[n]?=some t):∀j∈t.sarr,j<s.calls.length:=(hi.wf.tsk t (List.mem_of_getElem? ht)).1
theorem Gi.vset {s:PRun} (hi:Iv s) (h:Gi s) {j i:Nat} {c:PCall} {x:Int} (hc:s.calls[j]?=some c) (hx:x<s.objs.length):Gi (s.cset j { c with vars:=c.vars.set i x }):=by
 have hcg:=h.ca c (List.mem_of_getElem? hc)
 refine ⟨h.ok,h.ob,fun y hy=>?_,fun n t ht=>(h.ta n t ht).up (sarr_lt hi ht) rfl (Nat.le_refl _) fun k c' hk e=>?_⟩
 ·rcases List.mem_or_eq_of_mem_set hy with hy|rfl
  ·exact h.ca y hy
  ·refine ⟨hcg.cd,by simp only [List.length_set];exact hcg.vl,fun z hz=>?_⟩
   rcases List.mem_or_eq_of_mem_set hz with hz|rfl
   ·exact hcg.vo z hz
   ·exact hx
 ·by_cases e2:j=k
  ·subst e2;rw [cset_at hc] at e;injection e with e;subst e;exact ⟨c,hc,rfl,rfl,rfl⟩
  ·rw [cset_ne e2] at e;exact ⟨c',e,rfl,rfl,rfl⟩
theorem Gi.mkO {s:PRun} (h:Gi s) {n:Int} (hn:-1000≤n∧n≤1000):Gi (s.mkO n):=by
 have hl:(s.mkO n).objs.length=s.objs.length+1:=by simp [PRun.mkO]
 refine ⟨h.ok,fun x hx=>?_,fun c hc=>by rw [hl];exact (h.ca c hc).up (Nat.le_succ _),fun k t ht=>⟨(h.ta k t ht).pr,(h.ta k t ht).wt,(h.ta k t ht).s1,(h.ta k t ht).kl,(h.ta k t ht).sl,(h.ta k t ht).b0,(h.ta k t ht).st,(h.ta k t ht).w7⟩⟩
 rw [hl]
 simp only [PRun.mkO,List.mem_append,List.mem_singleton] at hx
 rcases hx with hx|rfl
 ·have:=h.ob x hx;omega
 ·simp only;omega
theorem Gi.setO {s:PRun} (h:Gi s) {o:Nat} {x:Int × Int} (hx:-1000≤x.1∧x.1≤1000) (hy:x.2<s.objs.length):Gi (s.setO o x):=by
 have hl:(s.setO o x).objs.length=s.objs.length:=by simp [PRun.setO]
 refine ⟨h.ok,fun y hy=>?_,fun c hc=>by rw [hl];exact h.ca c hc,fun k t ht=>⟨(h.ta k t ht).pr,(h.ta k t ht).wt,(h.ta k t ht).s1,(h.ta k t ht).kl,(h.ta k t ht).sl,(h.ta k t ht).b0,(h.ta k t ht).st,(h.ta k t ht).w7⟩⟩
 rw [hl]
 rcases List.mem_or_eq_of_mem_set hy with hy|rfl
 ·exact h.ob y hy
 ·exact ⟨hx.1,hx.2,by assumption⟩
theorem Gi.addC {s:PRun} (hi:Iv s) (h:Gi s) {c:PCall} (hc:CalG s.p s.objs.length c):Gi (s.addC c):=by
 refine ⟨h.ok,h.ob,fun y hy=>?_,fun n t ht=>(h.ta n t ht).up (sarr_lt hi ht) rfl (Nat.le_refl _) fun k c' hk e=>?_⟩
 ·simp only [PRun.addC,List.mem_append,List.mem_singleton] at hy
  rcases hy with hy|rfl
  ·exact h.ca y hy
  ·exact hc
 ·rw [addC_ne (by omega)] at e;exact ⟨c',e,rfl,rfl,rfl⟩
theorem Gi.addT {s:PRun} (hi:Iv s) (h:Gi s) {t:PTask} (hg:TasG (s.addT t) t):Gi (s.addT t):=by
 refine ⟨h.ok,h.ob,h.ca,fun n u hu=>?_⟩
 rcases addT_of hu with ⟨e1,e2⟩|⟨e1,rfl⟩
 ·exact (h.ta n u e2).up (sarr_lt hi e2) rfl (by simp [PRun.addT]) fun k c' hk e=>⟨c',e,rfl,rfl,rfl⟩
 ·exact hg
theorem Gi.canL {s:PRun} (h:Gi s) (l:List Nat):Gi (canL s l):=by
 refine h.same rfl rfl rfl canL_len fun n t' e=>?_
 obtain ⟨t,e1,rfl⟩:=canL_of e
 have:=h.ta n t e1
 refine ⟨t,e1,?_⟩
 split
 ·exact ⟨rfl,rfl,rfl,rfl,rfl,.inl rfl,this.s1,fun g=>(this.w7 g).1⟩
 ·exact .refl this
theorem stop_gi {s:PRun} (h:Iv s) (hg:Gi s) {n:Nat} {t:PTask} (ht:s.tasks[n]?=some t) (hwt:t.waits<0) (hb1:s.pool.length+40000≤MM) (hb2:s.behs.length+40≤MM):Gi (stopF s n):=by
 have hw:=h.wf
 have hn:=(List.getElem?_eq_some_iff.1 ht).1
 have hkd:=h.kd.kd n t ht
 have hn32:=hw.nT
 obtain ⟨f,hf⟩:∃f,f=n+1:=⟨_,rfl⟩
 have hf32:f≤32:=by omega
 have hfp:s.pool.length+1001*f≤MM:=by omega
 have hfb:s.behs.length+f≤MM:=by omega
 have hnl:n∉t.kids.flatMap fun k=>dsc s (s.tasks.length) k.toNat:=by
  intro hm
  obtain ⟨k,h1,h2⟩:=List.mem_flatMap.1 hm
  obtain ⟨j,rfl,h3,h4⟩:=hkd k h1
  have:=dsc_ge h.kd _ _ _ h2
  rw [Int.toNat_natCast] at this
  omega
 have htk:(canK s t.kids).tasks[n]?=some t:=by unfold canK;rw [canL_at ht,if_neg hnl]
 have hIk:Iv (canK s t.kids):=h.can _
 obtain ⟨a1,a2,a3,a4⟩:=hIk.wf.tsk t (List.mem_of_getElem? htk)
 have hI2:Iv ((canK s t.kids).tset n (clo t 4)):=hIk.tset htk rfl (Nat.le_refl _) (hIk.stk n t htk) rfl rfl a3 a4 (fun e=>absurd e (by show ¬(3:Int)≤2;omega)) (fun e=>absurd e (by show ¬ 0≤t.waits;omega)) (.inr (by show (3:Int)≤4;omega)) (fun e=>by
  rcases e with e|e
  ·have:(2:Int)=1:=e
   omega
  ·have:0≤t.waits:=e
   omega)
 have hE:stopF s n=settleF f ((canK s t.kids).tset n (clo t 4)) n:=by unfold stopF;rw [ht,hf]
 rw [hE]
 have hgk:Gi (canK s t.kids):=hg.canL _
 refine settleF_gi f _ n hI2 (hgk.tset htk ⟨rfl,rfl,rfl,rfl,rfl,.inl rfl,fun e=>?_,fun e=>?_⟩) hfp hfb
 ·have:(2:Int)=1:=e
  omega
 ·have:0≤t.waits:=e
  omega
end Go.Ab
