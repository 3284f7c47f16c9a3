/- Part of the proof. -/
import Derived.Test.YthgicbkdckpeaaaDoorG33
import Derived.Test.YthgicbkdckpeaaaDoorG13
set_option linter.unusedSimpArgs false
set_option linter.unusedVariables false
set_option maxHeartbeats 4000000
namespace Go.Ab
open Go Go.Ab Go.Proofs Go.Ab.Ty
structure GG (s:PRun):Prop where
 iv:Iv s
 gi:Gi s
 sz:Sz s
theorem TopC.zs {s s':PRun} {n j:Nat} {t t':PTask} {c:PCall} {st:Stp} {l:Lk} {k i:Nat} (h:TopC s n t j c st l k i) (hp:s'.p=s.p) (hc:s'.calls=s.calls) (ht:s'.tasks[n]?=some t') (h1:t'.sarr=t.sarr) (h2:t'.slen=t.slen):TopC s' n t' j c st l k i:=
 ⟨ht,by rw [h2];exact h.hs,by rw [h1];exact h.hj,by rw [hc];exact h.hc,⟨by rw [hp];exact h.cd.lp,h.cd.lc,h.cd.own,h.cd.ok,by rw [hp];exact h.cd.me⟩,h.dp,h.b0,h.pc,h.es,h.os⟩
theorem turnX_gg {s:PRun} (h:GG s) (htn:s.turns.length<2000) {n j:Nat} {t:PTask} {c:PCall} {st:Stp} {l:Lk} {k i:Nat} (hT:TopC s n t j c st l k i) (h1:t.state=1):GG (turnX s n j c st)∧(turnX s n j c st).turns.length=s.turns.length+1:=by
 obtain ⟨hi,hg,hz⟩:=h
 obtain ⟨hK,hac⟩:=hT.tok hi hg hz h1
 have hMM:=MM_eq
 have hck:=hz.ck
 obtain ⟨t9,hA9,hb9⟩:=turnB_cs hK hac (by omega) (by omega)
 have hZ:=zs_turnB s n c st
 obtain ⟨hTn,hCk⟩:=turnB_turns s n c st
 have hcan9:canF (turnB s n c st) c st=canF s c st:=canF_cs hA9 c st
 unfold turnX
 obtain ⟨s9,hs9⟩:∃s9,s9=turnB s n c st:=⟨_,rfl⟩
 rw [← hs9] at hA9 hZ hTn hCk hcan9 ⊢
 have hI9:=hA9.iv
 have hG9:=hZ.gi hg
 have ht9:=hA9.tk
 have hT9:TopC s9 n t9 j c st l k i:=hT.zs hZ.p hZ.calls ht9 hA9.tsa.1 hA9.tsa.2.1
 have hK9:Tok 80000 s9 n j t9 c st:=hK.cs hA9 (by omega)
 have hn32:n<32:=by have:=hi.wf.nT;have:=(List.getElem?_eq_some_iff.1 hT.ht).1;omega
 have htl9:s9.turns.length=s.turns.length+1:=by rw [hTn];simp
 have hp9:=hA9.pl
 have q1:=hz.pl
 have q2:=hz.bl
 have q3:=hz.cl
 have q4:=hz.ac
 have q5:=hz.ln
 have q6:=hz.us
 have q7:=hz.sl
 have q8:=hz.ob
 have q9:=hz.ao
 have q10:=hz.al
 -- sizes from those of s9
 have fin:∀s':PRun,Iv s'→Gi s'→s'.p=s9.p→s'.sched=s9.sched→s'.used=s9.used→s'.turns=s9.turns→s'.cks=s9.cks→s'.acts=s9.acts→s'.accs.length≤s9.accs.length+2→s'.lines.length≤s9.lines.length+1→s'.objs.length≤200→s9.objs.length≤s'.objs.length→s'.calls.length≤s9.calls.length+1 →
  s'.pool.length+45000*s9.tasks.length≤s9.pool.length+44000+45000*s'.tasks.length→s'.behs.length+100*s9.tasks.length≤s9.behs.length+100+100*s'.tasks.length→GG s'∧s'.turns.length=s.turns.length+1:=fun s' a1 a2 b1 b2 b3 b4 b5 b6 b7 b8 b9 b10 b11 b12 b13=>by
  have e1:=hZ.tl
  have e2:=hZ.bl
  have e3:=hZ.calls
  have e4:=hZ.accs
  have e5:=hZ.lines
  have e6:=hZ.objs
  have e7:=hZ.p
  have e8:=hZ.sched
  have e9:=hZ.used
  have e10:=hZ.acl
  rw [e3] at b11
  rw [e4] at b7
  rw [e5] at b8
  rw [e6] at b10
  rw [e2] at b13
  rw [e1] at b12 b13
  refine ⟨⟨a1,a2,⟨by rw [b3,b2,e9,e8];exact q6,by rw [b2,e8];exact q7,by rw [b5,b4,hCk,htl9];omega,by rw [b4,htl9];omega,by rw [b4,htl9];omega,by rw [b4,htl9];omega,by rw [b4,htl9];omega,by rw [b4,htl9];omega,b9,by rw [b1,e7];omega,by rw [b6,b1,e7,e10];exact q10,by rw [b4,htl9];omega⟩⟩,by rw [b4,htl9]⟩
 have e9t:tkAt s9 n=t9:=tkAt_eq ht9
 rw [e9t]
 have hst9:=hK9.st1
 have hwt9:=hK9.wt
 have hP9:=hK9.hP
 have hB9:=hK9.hB
 have ho9:s9.objs.length≤200:=by rw [hZ.objs];exact q8
 have hao9:s9.p.actors.toNat≤s9.objs.length:=by rw [hZ.objs,hZ.p];exact q9
 cases hcn:canF s c st with
 | false =>
   rw [if_pos rfl]
   obtain ⟨_,hIs,hSb⟩:=stop_ok hI9 ht9 (by rw [hst9];decide) hwt9 (by omega) (by omega)
   have hGs:=stop_gi hI9 hG9 ht9 hwt9 (by omega) (by omega)
   have hF:=stopF_fx s9 n
   have c1:=hSb.pl
   have c2:=hSb.bl
   have c3:=hSb.tl
   exact fin _ hIs hGs hF.p hF.sched hF.used hF.turns hF.cks hF.acts (by rw [hF.accs];omega) (by rw [hF.lines];omega) (by rw [hF.objs];exact ho9) (by rw [hF.objs];exact Nat.le_refl _) (by rw [hSb.cl];omega) (by rw [c3];omega) (by rw [c3];omega)
 | true =>
   rw [if_neg (by simp)]
   have hS:Sok s9 n j t9 c st:={ hK9.cs (Cs.refl hI9 ht9) (k':=40000) (by omega) with can:=by rw [hcan9];exact hcn,bh:=hb9 }
   have hR:=stepF_iv hS (time:=s.turns.length)
   have hSg:=stepF_gi hG9 ho9 hao9 hS hT9 (time:=s.turns.length)
   obtain ⟨r,hr⟩:∃r,r=stepF s9 n j t9 c st s.turns.length:=⟨_,rfl⟩
   rw [← hr] at hR hSg ⊢
   obtain ⟨rb,s10⟩:=r
   have d1:=hR.pl
   have d2:=hR.bl
   have d3:=hR.cl
   have d4:=hSg.tl
   simp only at d1 d2 d3 d4
   cases rb with
   | false =>
     rw [if_pos rfl]
     refine fin s10 hR.iv hSg.gi hSg.p hSg.sched hSg.used hSg.turns hSg.cks hSg.acts hSg.ac hSg.ln hSg.ob hSg.oo d3 ?_ ?_
     ·split at d4<;>omega
     ·split at d4<;>omega
   | true =>
     rw [if_neg (by simp)]
     obtain ⟨t10,c10,r1,r2,r3,r4,r5,r6,r7,r8,r9,r10⟩:=hR.go rfl
     simp only at r1 r7
     have hI10:Iv s10:=hR.iv
     have hG10:Gi s10:=hSg.gi
     unfold turnG
     simp only
     obtain ⟨s11,hs11⟩:∃s11,s11=if 0≤c.actor∧st.op≠12∧st.op≠9∧c.pc≠(c.code.steps.length:Int)-1 then hasS s10 n c.actor else s10:=⟨_,rfl⟩
     rw [← hs11]
     have hC11:∃t11,Cs s10 n t10 0 s11 t11:=by
      rw [hs11]
      split
      ·refine ⟨{ t10 with has:=c.actor },?_⟩
       unfold hasS;rw [tkAt_eq r1]
       exact Cs.tset hI10 r1 ⟨rfl,rfl,rfl,rfl⟩ ⟨rfl,rfl,rfl,rfl,rfl⟩ (hI10.wf.tsk t10 (List.mem_of_getElem? r1)).2.2.1 (.inl rfl)
      ·exact ⟨t10,Cs.refl hI10 r1⟩
     have hZ11:Zs s10 s11 n:=by
      rw [hs11]
      split
      ·exact zs_hasS s10 n c.actor
      ·exact .refl s10 n
     have hF11:Fx s10 s11:=by
      rw [hs11]
      split
      ·exact ⟨rfl,rfl,rfl,rfl,rfl,rfl,rfl,rfl,rfl⟩
      ·exact .refl s10
     obtain ⟨t11,hC11⟩:=hC11
     have ht11:=hC11.tk
     have hI11:=hC11.iv
     have hG11:=hZ11.gi hG10
     obtain ⟨a1,a2,a3,a4⟩:=hC11.tsa
     obtain ⟨b1,b2,b3,b4,b5⟩:=hC11.tst
     obtain ⟨f,hf⟩:∃f,f=n+1:=⟨_,rfl⟩
     have hf32:f≤32:=by omega
     have hp11:s11.pool.length≤s10.pool.length:=by have:=hC11.pl;omega
     have hb11:s11.behs=s10.behs:=hC11.behs
     have hb1':s11.pool.length+1001*f≤MM:=by omega
     have hb2':s11.behs.length+f≤MM:=by rw [hb11];omega
     have hj11:t11.sarr[t11.slen-1]?=some j:=by rw [a1,a2,r2,r3];exact hK9.tp
     have hc11:s11.calls[j]?=some c10:=by rw [hC11.calls];exact r7
     have hpc11:c10.pc<c10.code.steps.length:=by rw [r8,r9];exact hK9.pcl
     have hw11:t11.waits<0:=by rw [b3,r6];exact hwt9
     have hN:t11.slen=1→∀st',c10.code.steps[c10.pc.toNat]?=some st'→st'.op=6→∃kc:Nat,getM t11.spn c10.pc=some (kc:Int)∧kc<s11.tasks.length:=fun g1 st' g2 g3=>by
      rw [r8,r9] at g2
      rw [hT9.es] at g2;injection g2 with g2;subst g2
      obtain ⟨kc,k1,k2⟩:=hSg.nn rfl g3 t10 r1 (by rw [← a2];exact g1)
      refine ⟨kc,by rw [a4,r8];exact k1,by rw [hC11.tl];exact k2⟩
     rw [← hf]
     obtain ⟨g1,g2⟩:=goOnF_iv (settleF_iv f) hI11 ht11 (by rw [b1,r4];decide) hw11 hj11 hc11 hpc11 hb1' hb2'
     have g3:=goOnF_gi (settleF_gi f) hI11 hG11 ht11 (by rw [b1,r4];decide) hw11 hj11 hc11 hpc11 hN hb1' hb2'
     have hF:=hF11.trans (goOnF_fx (fun s n=>settleF_fx f s n) s11 n j)
     have c1:=g2.pl
     have c2:=g2.bl
     have c3:=g2.tl
     have c4:=g2.cl
     rw [hb11] at c2
     rw [hC11.tl] at c3
     rw [hC11.calls] at c4
     have e1:=hSg.ac
     have e2:=hSg.ln
     have e3:=hSg.ob
     have e4:=hSg.oo
     simp only at e1 e2 e3 e4
     refine fin _ g1 g3 (hF.p.trans hSg.p) (hF.sched.trans hSg.sched) (hF.used.trans hSg.used) (hF.turns.trans hSg.turns) (hF.cks.trans hSg.cks) (hF.acts.trans hSg.acts) (by rw [hF.accs];exact e1) (by rw [hF.lines];exact e2) (by rw [hF.objs];exact e3) (by rw [hF.objs];exact e4) (by rw [c4];exact d3) ?_ ?_
     ·rw [c3]
      by_cases h6:st.op=6
      ·rw [if_pos h6] at d4;omega
      ·rw [if_neg h6] at d4
       have:=(hSg.pl h6 rfl).1
       simp only at this
       omega
     ·rw [c3]
      by_cases h6:st.op=6
      ·rw [if_pos h6] at d4;omega
      ·rw [if_neg h6] at d4
       have:=(hSg.pl h6 rfl).2
       simp only at this
       omega
end Go.Ab
set_option maxHeartbeats 4000000
namespace Go.Ab
open Go Go.Ab Go.Proofs Go.Ab.Ty
theorem rdF_mem {s:PRun} {l:List Int}:∀(m:Nat) (x:Int),x∈(rdF s l m).2→∃i:Nat,x=(i:Int)∧∃t,s.tasks[i]?=some t∧t.state=1:=by
 intro m
 induction m with
 | zero=>intro x h;simp [rdF] at h
 | succ m ih =>
   intro x h
   simp only [rdF] at h
   split at h
   ·rename_i t ht
    split at h
    ·exact ih x h
    ·rename_i hs
     have h1:t.state=1:=Classical.byContradiction fun e=>hs (.inl e)
     split at h
     ·rw [List.mem_singleton] at h;exact ⟨m,h,t,ht,h1⟩
     ·split at h
      ·exact ih x h
      ·rcases List.mem_append.1 h with h|h
       ·exact ih x h
       ·rw [List.mem_singleton] at h;exact ⟨m,h,t,ht,h1⟩
   ·exact ih x h
theorem chF_mem {s:PRun} (h:readyF s≠[]):chF s∈readyF s:=by
 unfold chF
 obtain ⟨L,hL⟩:∃L,L=readyF s:=⟨_,rfl⟩
 rw [← hL] at h ⊢
 have hl:0<L.length:=List.length_pos_iff.2 h
 obtain ⟨x,hx⟩:∃x,x=schF s:=⟨_,rfl⟩
 rw [← hx]
 have h1:-(L.length:Int)<x.tmod L.length∧x.tmod L.length<L.length:=by
  have a:=Int.tmod_lt_of_pos x (show (0:Int)<L.length by omega)
  have b:=Int.lt_tmod_of_pos x (show (0:Int)<L.length by omega)
  omega
 have h2:0≤(x.tmod L.length+L.length).tmod L.length∧(x.tmod L.length+L.length).tmod L.length<L.length:=by
  have a:=Int.tmod_lt_of_pos (x.tmod L.length+L.length) (show (0:Int)<L.length by omega)
  have b:=Int.tmod_nonneg (L.length:Int) (show 0≤x.tmod L.length+L.length by omega)
  omega
 exact mem_getD (by omega)
theorem pikF_gg {s:PRun} (h:GG s):GG (pikF s):=by
 unfold pikF
 split
 ·exact h
 ·split
  ·rename_i h1 h2
   obtain ⟨hi,hg,hz⟩:=h
   refine ⟨⟨⟨hi.wf.nT,hi.wf.nC,hi.wf.nK,hi.wf.nB,hi.wf.pl,hi.wf.cks,hi.wf.acts,hi.wf.ends,hi.wf.tsk,hi.wf.behs,hi.wf.endl,hi.wf.sz,hi.wf.tsz,hi.wf.csz⟩,⟨hi.kd.kd⟩,hi.par,hi.stk,hi.en,hi.wt,hi.ed,hi.dis,hi.pcB,hi.pcI⟩,hg.eqs rfl rfl rfl rfl,⟨⟨?_,?_⟩,hz.sl,hz.ck,hz.ac,hz.ln,hz.cl,hz.pl,hz.bl,hz.ob,hz.ao,hz.al,hz.tn⟩⟩
   ·have:=hz.us
    show 0≤s.used+1
    omega
   ·show s.used+1≤(s.sched.length:Int)
    omega
  ·exact h
theorem pikF_same (s:PRun):(pikF s).tasks=s.tasks∧(pikF s).turns=s.turns:=by
 unfold pikF
 split
 ·exact ⟨rfl,rfl⟩
 ·split
  ·exact ⟨rfl,rfl⟩
  ·exact ⟨rfl,rfl⟩
theorem TopC.turnF {s:PRun} {n j:Nat} {t:PTask} {c:PCall} {st:Stp} {l:Lk} {k i:Nat} (h:TopC s n t j c st l k i):turnF s n=turnX s n j c st:=by
 have e1:tkAt s n=t:=tkAt_eq h.ht
 have e2:topJ t=j:=by
  unfold topJ
  rw [h.hs,Nat.add_sub_cancel]
  exact getD_at h.hj
 have e3:clAt s j=c:=getD_at h.hc
 have e4:stAt c=st:=getD_at h.es
 unfold Go.Ab.turnF
 rw [e1,e2,e3,e4]
theorem gg_run {mm:List (Nat × Obj)} (hmm:TabM mm):RunG mm GG:=by
 refine ⟨fun s h=>h.iv.wf,fun s h=>⟨⟨fun t ht=>?_,fun t ht=>?_⟩,⟨fun k t ht h1=>?_,?_⟩⟩,fun s h htn hr=>?_⟩
 ·obtain ⟨i,hi⟩:=List.getElem?_of_mem ht
  exact (h.gi.ta i t hi).pr
 ·obtain ⟨i,hi⟩:=List.getElem?_of_mem ht
  exact (h.gi.ta i t hi).wt
 ·obtain ⟨j,c,st,l,k',i,hT⟩:=topC_of h.iv h.gi ht h1
  exact ⟨j,c,st,ht,⟨i,hT.hs,hT.hj⟩,hT.hc,⟨c.pc.toNat,(Int.toNat_of_nonneg hT.pc.1).symm,hT.es⟩⟩
 ·have:=h.sz.us;have:=h.sz.sl;omega
 ·obtain ⟨n,hn,t,ht,h1⟩:=rdF_mem _ _ (chF_mem hr)
  have hG:=pikF_gg h
  obtain ⟨e1,e2⟩:=pikF_same s
  have ht':(pikF s).tasks[n]?=some t:=by rw [e1];exact ht
  obtain ⟨j,c,st,l,k,i,hT⟩:=topC_of hG.iv hG.gi ht' h1
  obtain ⟨hK,hac⟩:=hT.tok hG.iv hG.gi hG.sz h1
  have hck:=hG.sz.ck
  have hok:=turn_ok hmm hK hT.es hac (by rw [e2];omega) (by rw [e2] at hck;omega)
  obtain ⟨g1,g2⟩:=turnX_gg hG (by rw [e2];exact htn) hT h1
  rw [← hT.turnF] at hok g1 g2
  exact ⟨n,hn,hG.iv.wf,hok,g1,by rw [g2,e2]⟩
end Go.Ab
set_option maxHeartbeats 4000000
namespace Go.Ab
open Go Go.Ab Go.Proofs Go.Ab.Ty
def okRun (p:Tk) (sched:List Int):Prop:=Rg.okValid p∧sched.length≤200
theorem new_gg {p:Tk} {sched:List Int} (h:okRun p sched):∃cd,p.codes[0]?=some cd∧GG (newF p sched cd)∧(newF p sched cd).turns=[]∧0≤cd.params∧cd.params≤4∧cd.params≤cd.vars∧cd.vars≤8∧cd.steps.length≤20:=by
 obtain ⟨hok,hsl⟩:=h
 obtain ⟨⟨o1,o2,o3,o4,o5⟩,oc,om⟩:=hok
 have hok:Rg.okValid p:=⟨⟨o1,o2,o3,o4,o5⟩,oc,om⟩
 obtain ⟨cd,hcd⟩:∃cd,p.codes[0]?=some cd:=⟨_,List.getElem?_eq_getElem (by omega)⟩
 obtain ⟨⟨r1,r2,r3,r4,r5⟩,_⟩:=oc 0 (by omega)
 have hce:Rg.cod p.codes ((0:Nat):Int)=cd:=nth_at hcd
 have r1':0≤cd.params:=by rw [← hce];exact r1
 have r2':cd.params≤4:=by rw [← hce];exact r2
 have r3':cd.params≤cd.vars:=by
  rw [← hce]
  simp only [Bool.false_eq_true,if_false] at r3
  exact r3
 have r4':cd.vars≤8:=by rw [← hce];exact r4
 have r5':cd.steps.length≤20:=by rw [← hce];exact r5
 clear r1 r2 r3 r4 r5
 have hMM:=MM_eq
 obtain ⟨na,hna⟩:∃na,na=p.actors.toNat:=⟨_,rfl⟩
 obtain ⟨np,hnp⟩:∃np,np=cd.params.toNat:=⟨_,rfl⟩
 have hna4:na≤4:=by omega
 have hnp4:np≤4:=by omega
 obtain ⟨s,hs⟩:∃s,s=nwS p sched (na+np) na (List.replicate (na+1) m32):=⟨_,rfl⟩
 have hiv:Iv s:=by
  rw [hs]
  refine nwS_iv (by omega) (by rw [List.length_replicate];omega) (by omega) (by omega) (by rw [List.length_replicate];omega) fun l hl=>?_
  rw [List.eq_of_mem_replicate hl];rfl
 have hol:s.objs.length=na+np:=by rw [hs];simp [nwS]
 have htl:s.tasks.length=0:=by rw [hs];rfl
 have hcl:s.calls.length=0:=by rw [hs];rfl
 have hbl:s.behs.length=0:=by rw [hs];rfl
 have hpl:s.pool.length=na+1:=by rw [hs];exact List.length_replicate
 have hvl:(varsN na np).length=np:=by simp [varsN]
 have hgi:Gi s:=by
  refine ⟨by rw [hs];exact hok,fun x hx=>?_,fun c hc=>?_,fun n t ht=>?_⟩
  ·have hx':x∈List.replicate (na+np) ((0:Int),(-1:Int)):=by rw [hs] at hx;exact hx
   rw [List.eq_of_mem_replicate hx']
   simp only;omega
  ·rw [hs] at hc;cases hc
  ·rw [hs] at ht;simp [nwS] at ht
 have hvo:∀x∈varsN na np,x<(s.objs.length:Int):=fun x hx=>by
  obtain ⟨i,hi,rfl⟩:=List.mem_map.1 hx
  have:=List.mem_range.1 hi
  rw [hol];omega
 have hSt:=startF_iv hiv (c:=cd) (vs:=varsN na np) (a:=m32) (prio:=0) (par:=-1) (canc:=false) (by omega) (by omega) (by omega) (by omega) rfl (by omega) (by rw [hvl];omega) (by omega) (.inl rfl)
 have hG:=startF_gi hiv hgi (k:=0) (c:=cd) (vs:=varsN na np) (a:=m32) (prio:=0) (par:=-1) (canc:=false) (by omega) (by omega) (by omega) (by omega) rfl (by omega) (by omega) (by rw [hvl];omega) (by omega) (.inl rfl) (by rw [hs];exact hcd) (by omega) hvo
 have hF:=startF_fx s cd (varsN na np) m32 0 (-1) false
 have hE:newF p sched cd=startF s cd (varsN na np) m32 0 (-1) false:=by unfold newF;rw [hs,← hna,← hnp]
 refine ⟨cd,hcd,?_⟩
 rw [hE]
 obtain ⟨R,hR⟩:∃R,R=startF s cd (varsN na np) m32 0 (-1) false:=⟨_,rfl⟩
 rw [← hR] at hSt hG hF ⊢
 have e1:R.turns=[]:=by rw [hF.turns,hs];rfl
 have e2:R.cks=[]:=by rw [hF.cks,hs];rfl
 have e3:R.accs=[]:=by rw [hF.accs,hs];rfl
 have e4:R.lines=[]:=by rw [hF.lines,hs];rfl
 have e5:R.used=0:=by rw [hF.used,hs];rfl
 have e6:R.sched=sched:=by rw [hF.sched,hs];rfl
 have e7:R.objs.length=na+np:=by rw [hF.objs];exact hol
 have e8:R.acts.length=na:=by rw [hF.acts,hs];simp [nwS]
 have e9:R.p=p:=by rw [hF.p,hs];rfl
 have c1:=hSt.tl
 have c2:=hSt.cl
 have c3:=hSt.pl
 have c4:=hSt.bl
 refine ⟨⟨hSt.iv,hG,⟨by rw [e5,e6];omega,by rw [e6];exact hsl,by rw [e2];exact Nat.zero_le _,by rw [e3];exact Nat.zero_le _,by rw [e4];exact Nat.zero_le _,by omega,by omega,by omega,by omega,by rw [e9];omega,by rw [e9];omega,by rw [e1];exact Nat.zero_le _⟩⟩,e1,r1',r2',r3',r4',r5'⟩
theorem runF_gg {mm:List (Nat × Obj)} (hmm:TabM mm):∀(f:Nat) (s:PRun),GG s→GG (runF f s):=by
 intro f
 induction f with
 | zero=>intro s h;exact h
 | succ f ih =>
   intro s h
   unfold runF
   split
   ·rename_i htn
    split
    ·exact pikF_gg h
    ·rename_i hr
     obtain ⟨n,hn,_,_,g,_⟩:=(gg_run hmm).tn s h htn hr
     rw [hn,Int.toNat_natCast]
     exact ih _ g
   ·exact h
noncomputable def endF (p:Tk) (sched:List Int):PRun:=runF 2001 (newF p sched (p.codes.getD 0 ⟨0,0,[]⟩))
theorem ran_good {mm:List (Nat × Obj)} (hmm:TabM mm) {p:Tk} {sched:List Int} (h:okRun p sched) :
 FnHM Tryd.prog mm 39 [encT p,.lst (sched.map .int)] [] (.tup [ptR,.int 0]) (HH (endF p sched))∧GG (endF p sched):=by
 obtain ⟨cd,hcd,hG,hT,r1,r2,r3,r4,r5⟩:=new_gg h
 have hgd:p.codes.getD 0 ⟨0,0,[]⟩=cd:=getD_at hcd
 have hE:endF p sched=runF 2001 (newF p sched cd):=by unfold endF;rw [hgd]
 rw [hE]
 have hGE:=runF_gg hmm 2001 _ hG
 refine ⟨?_,hGE⟩
 have hck:=checked_ok p sched true (by simp only [true_iff];exact h.1)
 have hc0:chkI true sched.length=0:=by unfold chkI;rw [if_pos rfl,if_neg (by have:=h.2;omega)]
 rw [hc0] at hck
 have hp:=h.1.1
 have hnw:=new_ok (p:=p) (sched:=sched) (cd:=cd) (na:=p.actors.toNat) (np:=cd.params.toNat) (by omega) (by omega) hcd (by omega) (by omega) (by omega) (by omega) (by omega) (by have:=h.2;omega)
 exact ran_ok (gg_run hmm) hG (by rw [hT];rfl) (by rw [hT];exact Nat.zero_le _) hGE.iv.wf hck hnw
end Go.Ab
set_option maxHeartbeats 4000000
namespace Go.Ab
open Go Go.Ab Go.Proofs Go.Ab.Ty
def sh1 (k:Nat):AV→AV
 | .ptr b t i o=>.ptr (b+k) t i o
 | .own b t o l=>.own (b+k) t o l
 | .mapv b=>.mapv (b+k)
 | a=>a
def shE (k:Nat):AV→AV
 | .agg cs=>.agg (cs.map (sh1 k))
 | a=>sh1 k a
def shB (k:Nat) (B:ABlk):ABlk:=⟨B.ty,B.sz,B.es.map (shE k)⟩
theorem shE_cells (k:Nat) (e:AV):(shE k e).cells=e.cells.map (sh1 k):=by
 cases e<;>rfl
theorem Pu.sh (w:World) {k:Nat} {a:AV} (h:Pu a):sh1 k a=a:=by
 have hg:∀(b tot:Nat),(List.replicate (b+1) (⟨0,0,List.replicate (tot+1) .bad⟩:ABlk))[b]?=some ⟨0,0,List.replicate (tot+1) .bad⟩:=fun b tot=>by
  rw [List.getElem?_replicate,if_pos (by omega)]
 cases a with
 | ptr b t i o =>
   have h1:=h w (fun _=>False) (fun _=>none) _ _ (.stalePtr b t i o _ none (hg b t) (by simp))
   cases h1 with
   | stalePtr _ _ _ _ _ _ hb=>simp at hb
 | own b t o l =>
   have h1:=h w (fun _=>False) (fun _=>none) _ _ (.staleOwn b t o l _ none 0 0 (hg b t) (by simp))
   cases h1 with
   | staleOwn _ _ _ _ _ _ _ _ hb=>simp at hb
   | ownNil _ _ hb=>simp at hb
 | mapv b =>
   have h1:=h w (fun _=>False) (fun _=>none) _ _ (.staleMap b _ none (hg b 1) (by simp))
   cases h1 with
   | staleMap _ _ _ hb=>simp at hb
 | _=>rfl
theorem RfA.shM {S:Nat→Prop} {r:Nat→Option Nat} {H:List ABlk} {k:Nat} {a:AV} (h:RfA S a) (hr:∀b,S b→r b=some (b+k)):MvR r H a (sh1 k a):=by
 rcases h with h|⟨b,tot,i,off,rfl,h⟩|⟨b,tot,off,len,rfl,h⟩|⟨b,rfl,h⟩
 ·intro H2 w O ι ι2 u v hu
  rw [h.sh w]
  exact MvR.pu h H2 w O ι ι2 u v hu
 ·exact .ptr (hr b h)
 ·exact .own (hr b h)
 ·exact .mapv (hr b h)
theorem RfA.shP {S:Nat→Prop} {r:Nat→Option Nat} {H:List ABlk} {k:Nat} {a:AV} (h:RfA S a) (hr:∀b,S b→r (b+k)=some b):PubR r H (sh1 k a) a:=by
 rcases h with h|⟨b,tot,i,off,rfl,h⟩|⟨b,tot,off,len,rfl,h⟩|⟨b,rfl,h⟩
 ·intro H2 w0 w O ι ι2 u hs v hu
  rw [h.sh w] at hu
  exact PubR.pu h H2 w0 w O ι ι2 u hs v hu
 ·exact .ptr (hr b h)
 ·exact .own (hr b h)
 ·exact .mapv (hr b h)
theorem CallE.runner {HC:List ABlk} {R:PRun} (hw:WF R):CallE [] HC [] (HH R) (HC++(HH R).map (shB HC.length)):=
 ⟨List.nodup_nil,rfl,fun j b h=>by simp at h,Nat.zero_le _,by simp,fun b hb _=>List.getElem?_append_left hb,fun j c bk h h2=>by
  simp [rb] at h;subst h
  refine ⟨shB HC.length bk,by rw [List.getElem?_append_right (by omega),Nat.add_sub_cancel_left,List.getElem?_map,h2];rfl,⟨rfl,rfl,by simp [shB],fun i e e2 h3 h4=>?_⟩⟩
  simp only [shB,List.getElem?_map,h3,Option.map_some,Option.some.injEq] at h4
  subst h4
  refine ⟨by rw [shE_cells,List.length_map],fun m c c2 h5 h6=>?_⟩
  rw [shE_cells,List.getElem?_map,h5] at h6
  simp only [Option.map_some,Option.some.injEq] at h6
  subst h6
  exact (HH_rn hw bk (List.mem_of_getElem? h2) e (List.mem_of_getElem? h3) c (List.mem_of_getElem? h5)).shM fun b hb=>by simp [rb,Nat.add_comm]⟩
noncomputable def frt (k b:Nat):Option Nat:=if b<k then some (NN+b) else if b<k+NN then some (b-k) else none
theorem Wk.front {n:Fr} {R:PRun} (hw:WF R) {T:List ABlk} {E E2:Env} (hm:n.m=0) (hT:∀b∈T,∀e∈b.es,∀c∈e.cells,Pu c) (h:WkR (frt T.length) (T++(HH R).map (shB T.length)) E E2):Wk n ⟨E,T++(HH R).map (shB T.length)⟩ ⟨E2,HH R++T⟩:=by
 have hl:=HH_len R
 refine Wk.sel (q:=fun j=>if j<NN then T.length+j else j-NN) (r:=frt T.length) ⟨fun b hb=>by omega,fun j hj=>?_,fun b j hb hr=>?_,fun j b1 b2 h1 h2=>?_⟩ (WkR.all h)
 ·simp only [List.length_append,List.length_map,hl] at hj ⊢
  unfold frt
  by_cases e:j<NN
  ·rw [if_pos e];refine ⟨by omega,?_⟩;rw [if_neg (by omega),if_pos (by omega)];congr 1;omega
  ·rw [if_neg e];refine ⟨by omega,?_⟩;rw [if_pos (by omega)];congr 1;omega
 ·simp only [List.length_append,List.length_map,hl] at hb ⊢
  unfold frt at hr
  split at hr
  ·injection hr with hr;subst hr
   rw [if_neg (by omega)];omega
  ·injection hr with hr;subst hr
   rw [if_pos (by omega)];omega
 ·by_cases e:j<NN
  ·simp only [if_pos e] at h1
   rw [List.getElem?_append_right (by omega),Nat.add_sub_cancel_left,List.getElem?_map] at h1
   rw [List.getElem?_append_left (by omega)] at h2
   rw [h2] at h1
   simp only [Option.map_some,Option.some.injEq] at h1
   subst h1
   refine ⟨rfl,rfl,by simp [shB],fun i e1 e2 h3 h4=>?_⟩
   simp only [shB,List.getElem?_map,h4,Option.map_some,Option.some.injEq] at h3
   subst h3
   refine ⟨by rw [shE_cells,List.length_map],fun m c c2 h5 h6=>?_⟩
   rw [shE_cells,List.getElem?_map,h6] at h5
   simp only [Option.map_some,Option.some.injEq] at h5
   subst h5
   exact (HH_rn hw b2 (List.mem_of_getElem? h2) e2 (List.mem_of_getElem? h4) c2 (List.mem_of_getElem? h6)).shP fun b hb=>by
    have:b<NN:=hb
    unfold frt;rw [if_neg (by omega),if_pos (by omega)];congr 1;omega
  ·simp only [if_neg e] at h1
   have hj:j-NN<T.length:=by
    have:=(List.getElem?_eq_some_iff.1 h2).1
    simp only [List.length_append,hl] at this
    omega
   rw [List.getElem?_append_left hj] at h1
   rw [List.getElem?_append_right (by omega),hl,h1] at h2
   injection h2 with h2;subst h2
   refine ⟨rfl,rfl,rfl,fun i e1 e2 h3 h4=>?_⟩
   rw [h3] at h4;injection h4 with h4;subst h4
   refine ⟨rfl,fun m c c2 h5 h6=>?_⟩
   rw [h5] at h6;injection h6 with h6;subst h6
   exact .pu (hT b1 (List.mem_of_getElem? h1) e1 (List.mem_of_getElem? h3) c (List.mem_of_getElem? h5))
end Go.Ab
set_option maxHeartbeats 4000000
namespace Go.Ab
open Go Go.Ab Go.Proofs Go.Ab.Ty
def ranV (R:PRun):AV:=.agg [.lst (R.lines.map fun x=>.base (.string x)),.lst (R.accs.map encA),.lst ((R.tasks.map (·.state)).map AV.int),.lst ((R.tasks.map (·.par)).map AV.int),.base (.bool (R.tasks.all fun t=>decide (3≤t.state))),.int R.turns.length]
abbrev z32B:ABlk:=⟨32,6,[.agg [nilS,nilS,nilS,nilS,.base (.bool false),.int 0]]⟩
theorem NilB.app {H:List ABlk}:∀ {L L' M M':List ABlk},NilB H L L'→NilB H M M'→NilB H (L++M) (L'++M')
 | [],[],_,_,_,h=>h
 | _::_,_::_,_,_,⟨h1,h2⟩,h=>⟨h1,NilB.app h2 h⟩
abbrev runB (R:PRun) (v1 v2:AV) (b:Bool):ABlk:=⟨32,6,[.agg [.own (ix .ln) R.lines.length 0 R.lines.length,.own (ix .ac) R.accs.length 0 R.accs.length,v1,v2,.base (.bool b),.int R.turns.length]]⟩
theorem run_ok {mm:List (Nat × Obj)} (hmm:TabM mm) {p:Tk} {sched:List Int} (h:okRun p sched):FnM Tryd.prog mm 17 [encT p,.lst (sched.map .int)] (.tup [ranV (endF p sched),.int 0]):=by
 obtain ⟨iran,hGE⟩:=ran_good hmm h
 obtain ⟨R,hR⟩:∃R,R=endF p sched:=⟨_,rfl⟩
 rw [← hR] at iran hGE ⊢
 have hwR:=hGE.iv.wf
 have hlR:=HH_len R
 obtain ⟨co,me,ac⟩:=p
 clear hR
 refine FnM.intro' [(0,encT ⟨co,me,ac⟩),(1,.lst (sched.map .int))] 2 71 Tryd.func17 (by kernel_rfl) rfl rfl rfl rfl rfl ?_
 refine AWp.seq ?_
 refine AWp.join ⟨[(1,.lst (sched.map .int)),(2,.iptr (encT ⟨co,me,ac⟩) 0),(4,.ptr 0 1 0 0),(memSlot,.mem mm)],[z32B]⟩ ?_ ?_
 ·refine reS ?_
  refine goF ?_
  refine Wk.selB [1] (by simp) (fun b hb=>absurd hb (Nat.not_lt_zero _)) ⟨⟨_,rfl,.pu (fun e he c hc=>by
   rw [List.mem_singleton] at he;subst he
   simp only [AV.cells,List.mem_cons,List.not_mem_nil,or_false] at hc
   rcases hc with rfl|rfl|rfl|rfl|rfl|rfl<;>exact .base _)⟩,trivial⟩ (WkR.all ⟨.pu (Pu_mapInt _),.iptr rfl rfl rfl rfl ⟨.pu (Pu_mapC _),.pu (Pu_mapC _),.pu (.base _),trivial⟩,.ptr rfl,.pu (.mem _),trivial⟩)
 have hcE:CallE [] [z32B] [] (HH R) ([z32B]++(HH R).map (shB 1)):=CallE.runner (HC:=[z32B]) hwR
 have hmv:MvR (rb [] [z32B].length) (HH R) (.tup [ptR,.int 0]) (.tup [.ptr 1 1 0 0,.int 0]):=.tup' ⟨.ptr (by simp [rb,ix]),.pu (.base _),trivial⟩
 refine AWp.seq ?_
 refine AWp.join ⟨[(4,.ptr NN 1 0 0),(6,ptR),(7,.int 0),(memSlot,.mem mm)],HH R++[z32B]⟩ ?_ ?_
 ·refine reS ?_
  refine ARun.p1 rfl rfl (pl_callHM iran (.inr (by simp +decide only [go_sem, *]<;>rfl)) hcE rfl (by simp +decide only [go_sem, *]<;>rfl) (args:=[encT ⟨co,me,ac⟩,.lst (sched.map .int)]) ?_ hmv) ?_
  ·exact ⟨.pu (Pu_encT ⟨co,me,ac⟩),.pu (Pu_mapInt _),trivial⟩
  refine goF ?_
  exact Wk.front (T:=[z32B]) hwR rfl (fun b hb e he c hc=>by
   rw [List.mem_singleton] at hb;subst hb
   rw [List.mem_singleton] at he;subst he
   simp only [AV.cells,List.mem_cons,List.not_mem_nil,or_false] at hc
   rcases hc with rfl|rfl|rfl|rfl|rfl|rfl<;>exact .base _) ⟨.ptr (by unfold frt;rfl),.ptr (by
    unfold frt;rw [if_neg (by decide),if_pos (by have:=ixl_rn;simp only [List.length_singleton];omega)];rfl),.pu (.base _),.pu (.mem _),trivial⟩
 clear hcE hmv iran
 refine goF ?_
 refine iff_ ?_ rfl (by simp +decide only [go_sem, *]<;>rfl)
 refine AWp.skip ?_
 obtain ⟨B0,hB0⟩:∃B0:ABlk,B0=runB R nilS nilS true:=⟨_,rfl⟩
 refine AWp.seq ?_
 refine AWp.join ⟨[(4,.ptr NN 1 0 0),(6,ptR),(8,.ptr (NN+1) 1 0 0),(memSlot,.mem mm)],HH R++[z32B,B0]⟩ ?_ ?_
 ·refine drS (k:=15) [none,none,none,none,none,none,none,none,none,none,none,none,none,none,some 0] (fun k=>match k with
   | 0=>HH R++[z32B]
   | _=>HH R++[z32B,z32B]) 1 follows ?_
  refine gS ?_
  refine gS ?_
  refine gS ?_
  refine gS ?_
  refine gS ?_
  refine gS ?_
  refine gS ?_
  refine gS ?_
  refine gS ?_
  refine gS ?_
  refine gS ?_
  refine gS ?_
  refine gS ?_
  refine GRun.q1 (v:=.agg [.own (ix .ln) R.lines.length 0 R.lines.length,.own (ix .ac) R.accs.length 0 R.accs.length,nilS,nilS,.base (.bool true),.int R.turns.length]) rfl rfl (fun c _=>ql_build pl32 zero32 (by (simp +decide only [List.map,go_sem]<;>rfl))) ?_
  refine GRun.p1 (v:=.ptr (NN+1) 1 0 0) rfl rfl (fun ρ' h=>?_) ?_
  ·show PL Tryd.prog (HH R++[z32B]) ρ' _ (.ptr (NN+1) 1 0 0) (HH R++[z32B,z32B])
   have h1:=pl_alloc (P:=Tryd.prog) (H:=HH R++[z32B]) (ρ:=ρ') zero32 rfl
   rw [List.append_assoc,List.length_append,hlR] at h1
   exact h1
  refine GRun.nil ?_
  refine goF ?_
  exact .wf (hH:=by rw [hB0];simp +decide only [go_sem, *]<;>rfl)
 rw [hB0]
 clear hB0
 refine goF ?_
 have hzN:∀ {H:List ABlk},BlkNil H z32B z32B:=.pu fun e he c hc=>by
  rw [List.mem_singleton] at he;subst he
  simp only [AV.cells,List.mem_cons,List.not_mem_nil,or_false] at hc
  rcases hc with rfl|rfl|rfl|rfl|rfl|rfl<;>exact .base _
 have hRN:∀ {H:List ABlk},NilB H (HH R) (HH R):=NilB.rf (S:=(·<NN)) (HH_rn hwR)
 refine AWp.weaken (Wk.nilC (E2:=[(4,.ptr NN 1 0 0),(6,ptR),(8,.ptr (NN+1) 1 0 0),(38,.own (ix .tk) R.tasks.length 0 R.tasks.length),(39,.int R.tasks.length),(40,.int 0)]) (H2:=HH R++[z32B,runB R (.own (NN+2) 0 0 0) nilS true]) 3 1
  (.app hRN ⟨hzN,.one ⟨.own,.own,.nil (by simp [hlR]),.pu (.base _),.pu (.base _),.pu (.base _),trivial⟩,trivial⟩) ⟨.ptr,.ptr,.ptr,.own,.pu (.base _),.pu (.base _),trivial⟩) ?_
 refine AWp.weaken (Wk.nilC (E2:=[(4,.ptr NN 1 0 0),(6,ptR),(8,.ptr (NN+1) 1 0 0),(38,.own (ix .tk) R.tasks.length 0 R.tasks.length),(39,.int R.tasks.length),(40,.int 0)]) (H2:=HH R++[z32B,runB R (.own (NN+2) 0 0 0) (.own (NN+3) 0 0 0) true]++[intB []]) 3 1
  (.app (.app hRN ⟨hzN,.one ⟨.own,.own,.own,.nil (by simp [hlR]),.pu (.base _),.pu (.base _),trivial⟩,trivial⟩) ⟨.pu (fun e he=>by cases he),trivial⟩) ⟨.ptr,.ptr,.ptr,.own,.pu (.base _),.pu (.base _),trivial⟩) ?_
 refine AWp.loop (J:=fun i:Nat=>i≤R.tasks.length) (fun i=>⟨[(4,.ptr NN 1 0 0),(6,ptR),(8,.ptr (NN+1) 1 0 0),(38,.own (ix .tk) R.tasks.length 0 R.tasks.length),(39,.int R.tasks.length),(40,.int i)],HH R++[z32B,runB R (.own (NN+2) i 0 i) (.own (NN+3) i 0 i) ((R.tasks.take i).all fun t=>decide (3≤t.state)),intB ((R.tasks.take i).map (·.state)),intB ((R.tasks.take i).map (·.par))]⟩) (fun i=>R.tasks.length-i) 0 (Nat.zero_le _) (.wf (hH:=by simp)) ?_
 rintro i hi
 by_cases hlt:i<R.tasks.length
 ·have hd:decide ((i:Int)<(R.tasks.length:Int))=true:=decide_eq_true (by omega)
  obtain ⟨t,ht⟩:∃t,R.tasks[i]?=some t:=⟨_,List.getElem?_eq_getElem hlt⟩
  obtain ⟨g1,g2,g3,g4,_,g6⟩:=hwR.k ht
  have hn32:=hwR.nT
  have htk:R.tasks.take (i+1)=R.tasks.take i++[t]:=by rw [List.take_add_one,ht];rfl
  obtain ⟨l1,hl1⟩:∃l1,l1=(R.tasks.take i).map (·.state):=⟨_,rfl⟩
  obtain ⟨l2,hl2⟩:∃l2,l2=(R.tasks.take i).map (·.par):=⟨_,rfl⟩
  obtain ⟨b,hb⟩:∃b,b=(R.tasks.take i).all fun t=>decide (3≤t.state):=⟨_,rfl⟩
  have hn1:Hid ((R.tasks.take (i+1)).map (·.state)=l1++[t.state]):=⟨by rw [htk,List.map_append,← hl1];rfl⟩
  have hn2:Hid ((R.tasks.take (i+1)).map (·.par)=l2++[t.par]):=⟨by rw [htk,List.map_append,← hl2];rfl⟩
  have hn3:Hid (((R.tasks.take (i+1)).all fun t=>decide (3≤t.state))=(b&&decide (3≤t.state))):=⟨by rw [htk,List.all_append,← hb];simp⟩
  have hll1:l1.length=i:=by rw [hl1];simp;omega
  have hll2:l2.length=i:=by rw [hl2];simp;omega
  rw [← hl1,← hl2,← hb]
  clear hl1 hl2 hb htk
  refine goF ?_
  refine ift_ ?_ rfl (by simp +decide only [go_sem, *]<;>rfl)
  refine goF ?_
  refine ARun.q1 rfl rfl (ql_ixo (n:=i) (b:=ix .tk) (by simp +decide only [go_sem, *]<;>rfl) (by simp +decide only [go_sem, *]<;>rfl) Tryd.underlying80 (by simp +decide only [go_sem, *]<;>rfl) (by simp) hlt (by simp +decide only [go_sem, *]<;>rfl)) ?_
  refine goF ?_
  refine drS (k:=8) [none,none,none,none,none,none,none,some 0] (fun k=>match k with
   | 0=>HH R++[z32B,runB R (.own (NN+2) i 0 i) (.own (NN+3) i 0 i) b,intB l1,intB l2]
   | _=>HH R++[z32B,runB R (.own (NN+2) i 0 i) (.own (NN+3) i 0 i) b,intB (l1++[t.state]),intB l2]) 1 follows ?_
  refine gS ?_
  refine gS ?_
  refine gS ?_
  refine gS ?_
  refine gS ?_
  refine gS ?_
  refine GRun.q1 (v:=.lst [.int t.state]) rfl rfl (fun _ _=>ql_buildSlice (by decide) Tryd.underlying25 sz3 (by kernel_rfl) (by decide) (by (simp +decide only [List.map,go_sem, *]<;>rfl)) (by (simp +decide only [List.map,go_sem, *]<;>rfl)) rfl) ?_
  refine GRun.p1 (v:=.own (NN+2) (i+1) 0 (i+1)) rfl rfl (fun ρ' h=>?_) ?_
  ·have h1:=pl_append (P:=Tryd.prog) (ρ:=ρ') (H:=HH R++[z32B,runB R (.own (NN+2) i 0 i) (.own (NN+3) i 0 i) b,intB l1,intB l2]) (b:=NN+2) (tot:=i) (es:=[.int t.state]) (blk:=intB l1) ((h (.tmp 45) (by simp [Op.operands,Call.operands])).trans (by simp +decide only [go_sem, *]<;>rfl)) ((h (.tmp 50) (by simp [Op.operands,Call.operands])).trans (by simp +decide only [go_sem, *]<;>rfl)) (by simp +decide only [go_sem, *]<;>rfl) (by simp [hll1]) Tryd.underlying25 el3 rfl rfl (by simp) (fun e he=>by rw [List.mem_singleton] at he;subst he;exact ⟨rfl,rfl⟩) (by simp;omega) (by simp;omega)
   rw [app_setT hlR] at h1
   have e1:intB (l1++[t.state])=⟨3,1,l1.map AV.int++[.int t.state]⟩:=by simp
   show PL Tryd.prog _ ρ' _ _ (HH R++[z32B,runB R (.own (NN+2) i 0 i) (.own (NN+3) i 0 i) b,intB (l1++[t.state]),intB l2])
   rw [e1]
   exact h1
  refine GRun.nil ?_
  refine rcS ?_
  refine zOut' ?_
  refine AWp.weaken (s2:=⟨[(4,.ptr NN 1 0 0),(6,ptR),(8,.ptr (NN+1) 1 0 0),(10,ptK i),(38,.own (ix .tk) R.tasks.length 0 R.tasks.length),(39,.int R.tasks.length),(40,.int i)],HH R++[z32B,runB R (.own (NN+2) (i+1) 0 (i+1)) (.own (NN+3) i 0 i) b,intB (l1++[t.state]),intB l2]⟩) ?_ ?_
  ·exact .wf (hH:=by simp +decide only [go_sem, *]<;>rfl)
  refine AWp.seq ?_
  refine drS (k:=8) [none,none,none,none,none,none,none,some 0] (fun k=>match k with
   | 0=>HH R++[z32B,runB R (.own (NN+2) (i+1) 0 (i+1)) (.own (NN+3) i 0 i) b,intB (l1++[t.state]),intB l2]
   | _=>HH R++[z32B,runB R (.own (NN+2) (i+1) 0 (i+1)) (.own (NN+3) i 0 i) b,intB (l1++[t.state]),intB (l2++[t.par])]) 1 follows ?_
  refine gS ?_
  refine gS ?_
  refine gS ?_
  refine gS ?_
  refine gS ?_
  refine gS ?_
  refine GRun.q1 (v:=.lst [.int t.par]) rfl rfl (fun _ _=>ql_buildSlice (by decide) Tryd.underlying25 sz3 (by kernel_rfl) (by decide) (by (simp +decide only [List.map,go_sem, *]<;>rfl)) (by (simp +decide only [List.map,go_sem, *]<;>rfl)) rfl) ?_
  refine GRun.p1 (v:=.own (NN+3) (i+1) 0 (i+1)) rfl rfl (fun ρ' h=>?_) ?_
  ·have h1:=pl_append (P:=Tryd.prog) (ρ:=ρ') (H:=HH R++[z32B,runB R (.own (NN+2) (i+1) 0 (i+1)) (.own (NN+3) i 0 i) b,intB (l1++[t.state]),intB l2]) (b:=NN+3) (tot:=i) (es:=[.int t.par]) (blk:=intB l2) ((h (.tmp 54) (by simp [Op.operands,Call.operands])).trans (by simp +decide only [go_sem, *]<;>rfl)) ((h (.tmp 59) (by simp [Op.operands,Call.operands])).trans (by simp +decide only [go_sem, *]<;>rfl)) (by simp +decide only [go_sem, *]<;>rfl) (by simp [hll2]) Tryd.underlying25 el3 rfl rfl (by simp) (fun e he=>by rw [List.mem_singleton] at he;subst he;exact ⟨rfl,rfl⟩) (by simp;omega) (by simp;omega)
   rw [app_setT hlR] at h1
   have e1:intB (l2++[t.par])=⟨3,1,l2.map AV.int++[.int t.par]⟩:=by simp
   show PL Tryd.prog _ ρ' _ _ (HH R++[z32B,runB R (.own (NN+2) (i+1) 0 (i+1)) (.own (NN+3) i 0 i) b,intB (l1++[t.state]),intB (l2++[t.par])])
   rw [e1]
   exact h1
  refine GRun.nil ?_
  refine rcS ?_
  refine zOut' ?_
  refine AWp.weaken (s2:=⟨[(4,.ptr NN 1 0 0),(6,ptR),(8,.ptr (NN+1) 1 0 0),(10,ptK i),(38,.own (ix .tk) R.tasks.length 0 R.tasks.length),(39,.int R.tasks.length),(40,.int i)],HH R++[z32B,runB R (.own (NN+2) (i+1) 0 (i+1)) (.own (NN+3) (i+1) 0 (i+1)) b,intB (l1++[t.state]),intB (l2++[t.par])]⟩) ?_ ?_
  ·exact .wf (hH:=by simp +decide only [go_sem, *]<;>rfl)
  have iov:=over_ok ht g1
  cases b with
  | false =>
    refine goF ?_
    refine gxA (.bool false) ?_
    refine goF ?_
    rw [wrap_succ (by omega)]
    refine ⟨i+1,by omega,by omega,?_⟩
    rw [hn1.out,hn2.out,hn3.out]
    exact .wf
  | true =>
    refine goF ?_
    refine ARun.gpl rfl rfl (by simp +decide only [go_sem, *]<;>rfl) rfl (pl_callR hwR hwR (T:=[z32B,runB R (.own (NN+2) (i+1) 0 (i+1)) (.own (NN+3) (i+1) 0 (i+1)) true,intB (l1++[t.state]),intB (l2++[t.par])]) iov rfl (by simp +decide only [go_sem, *]<;>rfl) (by simp +decide only [go_sem, *]<;>rfl) (by
     intro a ha
     rw [List.mem_singleton] at ha;subst ha
     exact .ptr g1) (.pu (.base _))) ?_
    refine goF ?_
    rw [wrap_succ (by omega)]
    refine ⟨i+1,by omega,by omega,?_⟩
    rw [hn1.out,hn2.out,hn3.out]
    exact .wf
 ·have hd:decide ((i:Int)<(R.tasks.length:Int))=false:=decide_eq_false (by omega)
  have hin:R.tasks.length=i:=by omega
  have hti:R.tasks.take i=R.tasks:=by rw [← hin];exact List.take_length
  rw [hti]
  obtain ⟨l1,hl1⟩:∃l1,l1=R.tasks.map (·.state):=⟨_,rfl⟩
  obtain ⟨l2,hl2⟩:∃l2,l2=R.tasks.map (·.par):=⟨_,rfl⟩
  obtain ⟨b,hb⟩:∃b,b=R.tasks.all fun t=>decide (3≤t.state):=⟨_,rfl⟩
  have hll1:l1.length=i:=by rw [hl1,List.length_map];exact hin
  have hll2:l2.length=i:=by rw [hl2,List.length_map];exact hin
  have hV:ranV R=.agg [.lst (R.lines.map fun x=>.base (.string x)),.lst (R.accs.map encA),.lst (l1.map AV.int),.lst (l2.map AV.int),.base (.bool b),.int R.turns.length]:=by rw [hl1,hl2,hb];rfl
  rw [hV,← hl1,← hl2,← hb]
  clear hl1 hl2 hb hV hti hin
  refine goF ?_
  refine iff_ ?_ rfl (by simp +decide only [go_sem, *]<;>rfl)
  refine goF ?_
  refine Ret.pub (vs:=[.agg [.own (ix .ln) R.lines.length 0 R.lines.length,.own (ix .ac) R.accs.length 0 R.accs.length,.own (NN+2) i 0 i,.own (NN+3) i 0 i,.base (.bool b),.int R.turns.length],.int 0]) (by show resVals _ _ [.cell 4 32,.tmp 5]=_;simp +decide only [resVals,resVal,ldPtr,ldE,go_sem, *]<;>rfl) ?_
  have hpi:∀x:Int,∀c∈(AV.int x).cells,Pu c:=fun x c hc=>by simp only [AV.cells,List.mem_singleton] at hc;subst hc;exact .base _
  refine .tup' ⟨.agg' ⟨.ownM (ty:=9) (sz:=1) (f:=fun x=>.base (.string x)) (Nat.zero_le _) (by rw [app_get hlR ixl_ln,HH_get R _ ixl_ln];rfl) rfl (fun x _ c hc=>by simp only [AV.cells,List.mem_singleton] at hc;subst hc;exact .base _),
   .ownM (ty:=73) (sz:=4) (f:=encA) (Nat.zero_le _) (by rw [app_get hlR ixl_ac,HH_get R _ ixl_ac];rfl) rfl (fun x _ c hc=>by
    simp only [encA,AV.cells,List.mem_cons,List.not_mem_nil,or_false] at hc
    rcases hc with rfl|rfl|rfl|rfl<;>exact .base _),
   .ownM (ty:=3) (sz:=1) (f:=AV.int) (Nat.zero_le _) (app_getT hlR) hll1 (fun x _ c hc=>hpi x c hc),
   .ownM (ty:=3) (sz:=1) (f:=AV.int) (Nat.zero_le _) (app_getT hlR) hll2 (fun x _ c hc=>hpi x c hc),.pu (.base _),.pu (.base _),trivial⟩,.pu (.base _),trivial⟩
end Go.Ab
set_option maxHeartbeats 4000000
namespace Go.Ab
open Go Go.Ab Go.Proofs Go.Ab.Ty
def p0:Tk:=⟨[⟨0,1,[⟨1,0,0,5,0,[]⟩,⟨4,0,0,0,0,[]⟩]⟩],[],0⟩
theorem end0_turns:(endF p0 []).turns.length=2:=by
 unfold endF;decide +kernel
theorem end0_states:(endF p0 []).tasks.map (·.state)=[3]:=by
 unfold endF;decide +kernel
theorem end0_line:(endF p0 []).lines=[⟨#[48,58,53]⟩]:=by
 unfold endF;decide +kernel
theorem end0_all:((endF p0 []).tasks.all fun t=>decide (3≤t.state))=true:=by
 unfold endF;decide +kernel
theorem ok0:okRun p0 []:=by
 have hs1:Rg.okStep ⟨p0,Rg.cod p0.codes 0,0,false⟩ 0 ⟨1,0,0,5,0,[]⟩:=.inl ⟨.inl rfl,⟨fun v hv=>by rw [List.mem_singleton] at hv;subst hv;exact ⟨by decide,by decide⟩,by decide⟩,rfl,by decide,by decide,rfl,rfl⟩
 have hs2:Rg.okStep ⟨p0,Rg.cod p0.codes 0,0,false⟩ 1 ⟨4,0,0,0,0,[]⟩:=.inr (.inr (.inl ⟨rfl,⟨fun v hv=>by rw [List.mem_singleton] at hv;subst hv;exact ⟨by decide,by decide⟩,by decide⟩,rfl,rfl,rfl,rfl⟩))
 refine ⟨⟨⟨by decide,by decide,by decide,by decide,by decide⟩,fun i hi=>?_,fun i hi=>absurd hi (Nat.not_lt_zero _)⟩,by decide⟩
 have:i=0:=by have:i<1:=hi;omega
 subst this
 refine ⟨⟨by decide,by decide,by decide,by decide,by decide⟩,fun k hk=>?_⟩
 have hk2:k<2:=hk
 rcases k with _|_|k
 ·exact hs1
 ·exact hs2
 ·omega
theorem ran0:∃(ac:List Acc) (ps:List Int),ranV (endF p0 [])=.agg [.lst [.base (.string ⟨#[48,58,53]⟩)],.lst (ac.map encA),.lst [.int 3],.lst (ps.map AV.int),.base (.bool true),.int 2]:=
 ⟨(endF p0 []).accs,(endF p0 []).tasks.map (·.par),by
   unfold ranV
   rw [end0_line,end0_states,end0_all,end0_turns]
   rfl⟩
end Go.Ab
