/- Part of the proof. -/
import Derived.Test.YthgicbkdckpeaaaDoorG24
set_option linter.unusedSimpArgs false
set_option linter.unusedVariables false
set_option maxHeartbeats 4000000
namespace Go.Ab
open Go Go.Ab Go.Proofs Go.Ab.Ty
theorem Iv.mkO {s:PRun} (h:Iv s) (n:Int) (hb:s.objs.length<1000000):Iv (s.mkO n):=
 ⟨h.wf.mkO n hb,⟨h.kd.kd⟩,h.par,h.stk,h.en,h.wt,h.ed,h.dis,h.pcB,h.pcI⟩
theorem Iv.setO {s:PRun} (h:Iv s) (o:Nat) (x:Int × Int):Iv (s.setO o x):=
 ⟨⟨h.wf.1,h.wf.2,h.wf.3,h.wf.4,h.wf.5,h.wf.6,h.wf.7,h.wf.8,h.wf.9,h.wf.10,h.wf.11,by
   obtain ⟨a1,a2⟩:=h.wf.12
   exact ⟨by simp only [PRun.setO,List.length_set];exact a1,a2⟩,h.wf.13,h.wf.14⟩,⟨h.kd.kd⟩,h.par,h.stk,h.en,h.wt,h.ed,h.dis,h.pcB,h.pcI⟩
theorem Iv.addL {s:PRun} (h:Iv s) (x:ByteArray) (hb:s.lines.length<1000000):Iv (s.addL x):=
 ⟨⟨h.wf.1,h.wf.2,h.wf.3,h.wf.4,h.wf.5,h.wf.6,h.wf.7,h.wf.8,h.wf.9,h.wf.10,h.wf.11,by
   obtain ⟨a1,a2,a3⟩:=h.wf.12
   exact ⟨a1,by simp only [PRun.addL,List.length_append,List.length_singleton];omega,a3⟩,h.wf.13,h.wf.14⟩,⟨h.kd.kd⟩,h.par,h.stk,h.en,h.wt,h.ed,h.dis,h.pcB,h.pcI⟩
theorem Iv.vset {s:PRun} (h:Iv s) {j:Nat} {c:PCall} (hc:s.calls[j]?=some c) (i:Nat) (x:Int):Iv (s.cset j { c with vars:=c.vars.set i x }):=
 h.cset hc (by simp;exact (h.wf.csz c (List.mem_of_getElem? hc)).1) rfl (h.pcB c (List.mem_of_getElem? hc)) fun k t ht hs hj=>h.pcI k t j c ht hs hj hc
theorem Iv.kid {s:PRun} (h:Iv s) {n k:Nat} {t:PTask} (ht:s.tasks[n]?=some t) (hk:n<k) (hk2:k<s.tasks.length) (hl:t.kids.length≤900) (sp:List (Int × Int)):Iv (s.tset n { t with kids:=t.kids++[(k:Int)],spn:=sp }):=by
 have key:∀ {p:Nat→PTask→Prop},(∀i u,s.tasks[i]?=some u→p i u)→p n { t with kids:=t.kids++[(k:Int)],spn:=sp }→∀i u,(s.tset n { t with kids:=t.kids++[(k:Int)],spn:=sp }).tasks[i]?=some u→p i u:=fun {p} g1 g2 i u hu=>by
  by_cases e:n=i
  ·subst e;rw [tset_at ht] at hu;injection hu with hu;subst hu;exact g2
  ·rw [tset_ne e] at hu;exact g1 i u hu
 have htm:=List.mem_of_getElem? ht
 refine ⟨h.wf.tset (h.wf.tsk t htm) ⟨(h.wf.tsz t htm).1,by simp;omega⟩,⟨key (p:=fun i u=>∀c:Int,c∈u.kids→∃j:Nat,c=j∧i<j∧j<(s.tset n { t with kids:=t.kids++[(k:Int)],spn:=sp }).tasks.length) (by rw [tset_len];exact h.kd.kd) (by
  rw [tset_len]
  intro c hc
  rcases List.mem_append.1 hc with hc|hc
  ·exact h.kd.kd n t ht c hc
  ·rw [List.mem_singleton] at hc;exact ⟨k,hc,hk,hk2⟩)⟩,
  key h.par (h.par n t ht),key h.stk (h.stk n t ht),key h.en (h.en n t ht),key h.wt (h.wt n t ht),key h.ed (h.ed n t ht),?_,h.pcB,fun i u j c hu=>key (p:=fun i u=>(u.state=1∨0≤u.waits)→u.sarr[u.slen-1]?=some j→s.calls[j]?=some c→c.pc<c.code.steps.length) (fun i u hu=>h.pcI i u j c hu) (h.pcI n t j c ht) i u hu⟩
 intro i u i' u' x x' j hu hu' hx hx' hj hj'
 have cv:∀ {i:Nat} {u:PTask} {x:Nat},(s.tset n { t with kids:=t.kids++[(k:Int)],spn:=sp }).tasks[i]?=some u→x<u.slen→u.sarr[x]?=some j→∃v:PTask,s.tasks[i]?=some v∧x<v.slen∧v.sarr[x]?=some j:=fun {i u x} hu hx hj=>by
  by_cases e:n=i
  ·subst e;rw [tset_at ht] at hu;injection hu with hu;subst hu;exact ⟨t,ht,hx,hj⟩
  ·rw [tset_ne e] at hu;exact ⟨u,hu,hx,hj⟩
 obtain ⟨v,b1,b2,b3⟩:=cv hu hx hj
 obtain ⟨v',b1',b2',b3'⟩:=cv hu' hx' hj'
 exact h.dis i v i' v' x x' j b1 b1' b2 b2' b3 b3'
theorem pshF_at {l:List Nat} {k j i x:Nat} (hk:k≤l.length) (h:(pshF l k j)[i]?=some x) (hi:i<k+1):(i=k∧x=j)∨(i<k∧l[i]?=some x):=by
 unfold pshF at h
 split at h
 ·rename_i hlt
  rw [List.getElem?_set] at h
  split at h
  ·rename_i e
   injection h with h;exact .inl ⟨e.symm,h.symm⟩
  ·exact .inr ⟨by omega,h⟩
 ·rcases Nat.lt_or_ge i l.length with h1|h1
  ·rw [List.getElem?_append_left h1] at h;exact .inr ⟨by omega,h⟩
  ·rw [List.getElem?_append_right h1] at h
   have:i=k:=by omega
   rw [show i-l.length=0 by omega] at h
   injection h with h;exact .inl ⟨this,h.symm⟩
theorem pshF_top {l:List Nat} {k j:Nat} (hk:k≤l.length):(pshF l k j)[k]?=some j:=by
 unfold pshF
 split
 ·rename_i h;rw [List.getElem?_set_self h]
 ·rw [List.getElem?_append_right (by omega),show k-l.length=0 by omega];rfl
theorem Iv.psh {s:PRun} (h:Iv s) {n J:Nat} {t:PTask} {cJ:PCall} (ht:s.tasks[n]?=some t) (hJ:s.calls[J]?=some cJ) (hfr:∀(k:Nat) (u:PTask) (i:Nat),s.tasks[k]?=some u→i<u.slen→u.sarr[i]?≠some J) (hpc:cJ.pc<cJ.code.steps.length) (hl:t.sarr.length≤900):Iv (s.tset n { t with sarr:=pshF t.sarr t.slen J,slen:=t.slen+1 }):=by
 obtain ⟨T,hT⟩:∃T:PTask,T={ t with sarr:=pshF t.sarr t.slen J,slen:=t.slen+1 }:=⟨_,rfl⟩
 rw [← hT]
 have T1:T.sarr=pshF t.sarr t.slen J:=by rw [hT]
 have T2:T.slen=t.slen+1:=by rw [hT]
 have key:∀ {p:Nat→PTask→Prop},(∀i u,s.tasks[i]?=some u→p i u)→p n T→∀i u,(s.tset n T).tasks[i]?=some u→p i u:=fun {p} g1 g2 i u hu=>by
  by_cases e:n=i
  ·subst e;rw [tset_at ht] at hu;injection hu with hu;subst hu;exact g2
  ·rw [tset_ne e] at hu;exact g1 i u hu
 have htm:=List.mem_of_getElem? ht
 obtain ⟨a1,a2,a3,a4⟩:=h.wf.tsk t htm
 have hJl:=(List.getElem?_eq_some_iff.1 hJ).1
 refine ⟨h.wf.tset ⟨fun i hi=>?_,by rw [T1,T2,pshF_len a2];split<;>omega,by rw [hT];exact a3,by rw [hT];exact a4⟩ ⟨by rw [T1,pshF_len a2];split<;>omega,by rw [hT];exact (h.wf.tsz t htm).2⟩,⟨key (p:=fun i u=>∀c:Int,c∈u.kids→∃j:Nat,c=j∧i<j∧j<(s.tset n T).tasks.length) (by rw [tset_len];exact h.kd.kd) (by rw [tset_len,hT];exact h.kd.kd n t ht)⟩,
  key h.par (by rw [hT];exact h.par n t ht),key h.stk (by rw [T2];omega),key h.en (by rw [hT];exact h.en n t ht),key h.wt (by rw [hT];exact h.wt n t ht),key h.ed (by rw [hT];exact h.ed n t ht),?_,h.pcB,fun i u j c hu=>key (p:=fun i u=>(u.state=1∨0≤u.waits)→u.sarr[u.slen-1]?=some j→s.calls[j]?=some c→c.pc<c.code.steps.length) (fun i u hu=>h.pcI i u j c hu) (fun _ g2 g3=>?_) i u hu⟩
 ·rw [T1] at hi
  simp only [pshF] at hi
  split at hi
  ·rcases List.mem_or_eq_of_mem_set hi with hi|rfl
   ·exact a1 i hi
   ·exact hJl
  ·rcases List.mem_append.1 hi with hi|hi
   ·exact a1 i hi
   ·rw [List.mem_singleton] at hi;subst hi;exact hJl
 ·intro i u i' u' x x' j hu hu' hx hx' hj hj'
  have cv:∀ {i:Nat} {u:PTask} {x:Nat},(s.tset n T).tasks[i]?=some u→x<u.slen→u.sarr[x]?=some j→(i=n∧x=t.slen∧j=J)∨∃v:PTask,s.tasks[i]?=some v∧x<v.slen∧v.sarr[x]?=some j:=fun {i u x} hu hx hj=>by
   by_cases e:n=i
   ·subst e
    rw [tset_at ht] at hu;injection hu with hu;subst hu
    rw [T2] at hx;rw [T1] at hj
    rcases pshF_at a2 hj hx with ⟨e1,e2⟩|⟨e1,e2⟩
    ·exact .inl ⟨rfl,e1,e2⟩
    ·exact .inr ⟨t,ht,e1,e2⟩
   ·rw [tset_ne e] at hu;exact .inr ⟨u,hu,hx,hj⟩
  rcases cv hu hx hj with ⟨e1,e2,e3⟩|⟨v,b1,b2,b3⟩<;>rcases cv hu' hx' hj' with ⟨e1',e2',e3'⟩|⟨v',b1',b2',b3'⟩
  ·exact ⟨e1.trans e1'.symm,e2.trans e2'.symm⟩
  ·subst e3;exact absurd b3' (hfr _ v' _ b1' b2')
  ·subst e3';exact absurd b3 (hfr _ v _ b1 b2)
  ·exact h.dis i v i' v' x x' j b1 b1' b2 b2' b3 b3'
 ·rw [T1,T2,Nat.add_sub_cancel,pshF_top a2] at g2
  injection g2 with g2;subst g2
  rw [hJ] at g3;injection g3 with g3;subst g3
  exact hpc
structure StR (s:PRun) (n j:Nat) (t:PTask) (c:PCall) (r:Bool × PRun):Prop where
 iv:Iv r.2
 tl:r.2.tasks.length≤s.tasks.length+1∧s.tasks.length≤r.2.tasks.length
 cl:r.2.calls.length≤s.calls.length+1
 pl:r.2.pool.length≤s.pool.length+40000
 bl:r.2.behs.length≤s.behs.length+40
 go:r.1=true→∃t8 c8,r.2.tasks[n]?=some t8∧t8.sarr=t.sarr∧t8.slen=t.slen∧t8.state=1∧t8.ending=0∧t8.waits=t.waits∧r.2.calls[j]?=some c8∧c8.pc=c.pc∧c8.code=c.code∧c8.actor=c.actor
theorem stepF_iv {s:PRun} {n j:Nat} {t:PTask} {c:PCall} {st:Stp} {time:Int} (h:Sok s n j t c st):StR s n j t c (stepF s n j t c st time):=by
 have hiv:=h.iv
 have ht:=h.ht
 have hc:=h.hc
 have hn:=(List.getElem?_eq_some_iff.1 ht).1
 have hj:=(List.getElem?_eq_some_iff.1 hc).1
 have hid:StR s n j t c (true,s):=⟨hiv,⟨Nat.le_succ _,Nat.le_refl _⟩,Nat.le_succ _,Nat.le_add_right _ _,Nat.le_add_right _ _,fun _=>⟨t,c,ht,rfl,rfl,h.st1,h.en,rfl,hc,rfl,rfl,rfl⟩⟩
 have szo:=h.szo
 have sza:=h.sza
 have szl:=h.szl
 have simp1:∀s':PRun,Iv s'→s'.tasks=s.tasks→s'.calls=s.calls→s'.pool=s.pool→s'.behs=s.behs→StR s n j t c (true,s'):=fun s' a1 a2 a3 a4 a5=>⟨a1,by simp only [a2];omega,by simp only [a3];omega,by simp only [a4];omega,by simp only [a5];omega,fun _=>⟨t,c,by simp only [a2];exact ht,rfl,rfl,h.st1,h.en,rfl,by simp only [a3];exact hc,rfl,rfl,rfl⟩⟩
 have simpV:∀(s':PRun) (i:Nat) (x:Int),Iv s'→s'.tasks=s.tasks→s'.calls=s.calls→s'.pool=s.pool→s'.behs=s.behs→StR s n j t c (true,s'.cset j { c with vars:=c.vars.set i x }):=fun s' i x a1 a2 a3 a4 a5=>by
  have hc':s'.calls[j]?=some c:=by rw [a3];exact hc
  refine ⟨a1.vset hc' i x,⟨by show s'.tasks.length≤_;rw [a2];omega,by show _≤s'.tasks.length;rw [a2];omega⟩,by show (s'.calls.set _ _).length≤_;rw [List.length_set,a3];omega,by show s'.pool.length≤_;rw [a4];omega,by show s'.behs.length≤_;rw [a5];omega,fun _=>⟨t,_,by show s'.tasks[n]?=_;rw [a2];exact ht,rfl,rfl,h.st1,h.en,rfl,cset_at hc',rfl,rfl,rfl⟩⟩
 obtain ⟨op,v,w,nn,tk,vs⟩:=st
 have hop:=h.op
 have r6:=h.r6
 have r7:=h.r7
 have r9:=h.r9
 have hcan:=h.can
 simp only at hop r6 r7 r9
 have hc12:op=1∨op=2∨op=3∨op=4∨op=5∨op=6∨op=7∨op=8∨op=9∨op=10∨op=11∨op=12:=by omega
 rcases hc12 with rfl|rfl|rfl|rfl|rfl|rfl|rfl|rfl|rfl|rfl|rfl|rfl
 ·exact simpV (s.mkO nn) v.toNat _ (hiv.mkO _ (by omega)) rfl rfl rfl rfl
 ·by_cases hx:0≤(objAt s (varN c w)).2
  ·simp +decide only [stepF,if_true,if_false,if_pos hx]
   exact simpV _ v.toNat _ (hiv.addA _ (by omega)) rfl rfl rfl rfl
  ·simp +decide only [stepF,if_true,if_false,if_neg hx]
   refine simpV _ v.toNat _ ((((hiv.addA _ (by omega)).mkO _ (by show s.objs.length<_;omega)).setO _ _).addA _ ?_) rfl rfl rfl rfl
   show (s.accs++[_]).length<_
   simp;omega
 ·exact simp1 _ ((hiv.addA _ (by omega)).setO _ _) rfl rfl rfl rfl
 ·exact simp1 _ ((hiv.addA _ (by omega)).addL _ (by show s.lines.length<_;omega)) rfl rfl rfl rfl
 ·exact simp1 _ ((hiv.addA _ (by omega)).setO _ _) rfl rfl rfl rfl
 ·have hcan2:(bif setB c vs then decide ((s.tasks.length:Int)<32) else false)=true:=hcan
  obtain ⟨h1,cd,h2,h3,h4,h5,h6⟩:=r6 rfl
  have h32:s.tasks.length<32:=by
   cases hb:setB c vs with
   | true=>rw [hb] at hcan2;have:=of_decide_eq_true hcan2;omega
   | false=>rw [hb] at hcan2;cases hcan2
  have hcd:cdAt s.p.codes tk=cd:=getD_at h2
  obtain ⟨a1,a2,a3,a4⟩:=hiv.wf.tsk t (List.mem_of_getElem? ht)
  have hcl:s.pool[t.clk]?=some (s.pool.getD t.clk []):=by rw [List.getD_eq_getElem?_getD,List.getElem?_eq_getElem a3];rfl
  have hSt:=startF_iv hiv (c:=cd) (vs:=givL c vs) (a:=s.pool.getD t.clk []) (prio:=nn) (par:=n) (canc:=t.canc) h32 h.hC h.hP (by have:=h.hB;omega) ((hiv.wf.p hcl).2) h4 (by rw [givL_len];exact h5) h6 (.inr ⟨n,rfl,hn⟩)
  obtain ⟨e1,e2,e3⟩:=startF_at (cd:=cd) (vs:=givL c vs) (a:=s.pool.getD t.clk []) (pr:=nn) (canc:=t.canc) ht h.en h.wt
  simp +decide only [stepF,if_true,if_false]
  rw [hcd]
  have hI:=hSt.iv.kid e1 (k:=s.tasks.length) hn (by rw [e3];omega) h.kl (if c.actor<0 then setM t.spn c.pc s.tasks.length else t.spn)
  refine ⟨hI,⟨by show (List.set _ _ _).length≤_;rw [List.length_set,e3];omega,by show _≤(List.set _ _ _).length;rw [List.length_set,e3];omega⟩,by show (startF s cd (givL c vs) (s.pool.getD t.clk []) nn n t.canc).calls.length≤_;rw [e2];simp,hSt.pl,hSt.bl,fun _=>⟨_,c,tset_at e1,rfl,rfl,h.st1,h.en,rfl,?_,rfl,rfl,rfl⟩⟩
  show (startF s cd (givL c vs) (s.pool.getD t.clk []) nn n t.canc).calls[j]?=_
  rw [e2,List.getElem?_append_left hj];exact hc
 ·simp +decide only [stepF,if_true,if_false]
  by_cases ho:ovr s (kidN t nn)=true
  ·rw [if_pos ho];exact hid
  ·rw [if_neg ho]
   obtain ⟨a1,a2,a3,a4⟩:=hiv.wf.tsk t (List.mem_of_getElem? ht)
   have hI:=hiv.tset ht (t':={ t with waits:=kidN t nn,state:=2 }) rfl (Nat.le_refl _) (hiv.stk n t ht) rfl rfl a3 a4 (fun e=>absurd e (by show ¬(3:Int)≤2;omega)) (fun _=>h.bh) (.inl h.en) (fun _ i x hi hx=>by
    have hi':t.sarr[t.slen-1]?=some i:=hi
    rw [h.tp] at hi';injection hi' with hi';subst hi'
    rw [hc] at hx;injection hx with hx;subst hx
    exact h.pcl)
   exact ⟨hI,⟨by show (List.set _ _ _).length≤_;rw [List.length_set];omega,by show _≤(List.set _ _ _).length;rw [List.length_set];omega⟩,by show s.calls.length≤_;omega,by show s.pool.length≤_;omega,by show s.behs.length≤_;omega,fun e=>by cases e⟩
 ·exact simp1 _ ((hiv.addA _ (by omega)).setO _ _) rfl rfl rfl rfl
 ·obtain ⟨h1,cd,h2,h3,h4,h5,h6⟩:=r9 rfl
  have hcd:cdAt s.p.methods tk=cd:=getD_at h2
  simp +decide only [stepF,if_true,if_false]
  rw [hcd]
  have hvl2:(newC cd (givL c vs++[nn]) nn).vars.length≤1000:=by
   simp only [newC,List.length_append,List.length_replicate,givL_len,List.length_singleton];omega
  have hIc:Iv (s.addC (newC cd (givL c vs++[nn]) nn)):=hiv.addC h.hC hvl2 h6 ⟨Int.le_refl _,by show (0:Int)≤_;omega⟩
  have hcl:(s.addC (newC cd (givL c vs++[nn]) nn)).calls.length=s.calls.length+1:=by simp [PRun.addC]
  have hc1:(s.addC (newC cd (givL c vs++[nn]) nn)).calls[j]?=some c:=by rw [addC_ne (by omega)];exact hc
  by_cases hz:cd.steps.length=0
  ·rw [if_pos hz]
   exact ⟨hIc,⟨by show s.tasks.length≤_;omega,Nat.le_refl _⟩,by rw [hcl];exact Nat.le_refl _,by show s.pool.length≤_;omega,by show s.behs.length≤_;omega,fun _=>⟨t,c,ht,rfl,rfl,h.st1,h.en,rfl,hc1,rfl,rfl,rfl⟩⟩
  ·rw [if_neg hz]
   have hpc:=hiv.pcB c (List.mem_of_getElem? hc)
   have hpcl:=h.pcl
   -- the stack first, then the place in the code
   have hJ0:(s.addC (newC cd (givL c vs++[nn]) nn)).calls[s.calls.length]?=some (newC cd (givL c vs++[nn]) nn):=addC_at
   have hfr:∀(k:Nat) (u:PTask) (i:Nat),s.tasks[k]?=some u→i<u.slen→u.sarr[i]?≠some s.calls.length:=fun k u i hu _ he=>by
    have:=(hiv.wf.tsk u (List.mem_of_getElem? hu)).1 _ (List.mem_of_getElem? he);omega
   have hP:=hIc.psh (n:=n) (J:=s.calls.length) ht hJ0 hfr (by show (0:Int)<(cd.steps.length:Int);omega) h.sl
   have hcP:((s.addC (newC cd (givL c vs++[nn]) nn)).tset n { t with sarr:=pshF t.sarr t.slen s.calls.length,slen:=t.slen+1 }).calls[j]?=some c:=hc1
   have hF:=hP.cset hcP (c':={ c with pc:=c.pc+1 }) (hiv.wf.csz c (List.mem_of_getElem? hc)).1 rfl ⟨by show 0≤c.pc+1;omega,by show c.pc+1≤(c.code.steps.length:Int);omega⟩ fun k u hu hs hju=>by
    exfalso
    by_cases e:n=k
    ·subst e
     rw [tset_at (show (s.addC (newC cd (givL c vs++[nn]) nn)).tasks[n]?=some t from ht)] at hu
     injection hu with hu;subst hu
     have hju':(pshF t.sarr t.slen s.calls.length)[t.slen+1-1]?=some j:=hju
     rw [Nat.add_sub_cancel,pshF_top (hiv.wf.tsk t (List.mem_of_getElem? ht)).2.1] at hju'
     injection hju' with hju';omega
    ·rw [tset_ne e] at hu
     have hu':s.tasks[k]?=some u:=hu
     have hs0:=hiv.stk k u hu'
     have hs1:=hiv.stk n t ht
     exact e (hiv.dis n t k u (t.slen-1) (u.slen-1) j ht hu' (by omega) (by omega) h.tp hju).1
   exact ⟨hF,⟨by show (List.set _ _ _).length≤_;rw [List.length_set];show s.tasks.length≤_;omega,by show _≤(List.set _ _ _).length;rw [List.length_set];exact Nat.le_refl s.tasks.length⟩,by show (List.set _ _ _).length≤_;rw [List.length_set,hcl];exact Nat.le_refl _,by show s.pool.length≤_;omega,by show s.behs.length≤_;omega,fun e=>by cases e⟩
 ·obtain ⟨kc,h1,h2⟩:=r7 (.inr rfl)
  simp +decide only [stepF,if_true,if_false]
  have hcn:=canL_at (l:=dsc s s.tasks.length (kidN t nn)) ht
  refine ⟨hiv.can _,⟨by simp only [canL_len];omega,by simp only [canL_len];omega⟩,by show s.calls.length≤_;omega,by show s.pool.length≤_;omega,by show s.behs.length≤_;omega,fun _=>⟨_,c,hcn,?_,?_,?_,?_,?_,hc,rfl,rfl,rfl⟩⟩
  ·split<;>rfl
  ·split<;>rfl
  ·split<;>exact h.st1
  ·split<;>exact h.en
  ·split<;>rfl
 ·simp +decide only [stepF,if_true,if_false]
  cases hcn:t.canc with
  | true =>
    simp only [if_true]
    obtain ⟨_,hI,hSb⟩:=stop_ok hiv ht (by rw [h.st1];decide) h.wt h.hP (by have:=h.hB;omega)
    have hn32:=hiv.wf.nT
    have h3:1001*(n+1)≤40000:=Nat.le_trans (Nat.mul_le_mul_left 1001 (show n+1≤33 by omega)) (by decide)
    have h1:(stopF s n).pool.length≤s.pool.length+40000:=Nat.le_trans hSb.pl (Nat.add_le_add_left h3 _)
    have h2:(stopF s n).behs.length≤s.behs.length+40:=Nat.le_trans hSb.bl (Nat.add_le_add_left (by omega) _)
    exact ⟨hI,⟨by show (stopF s n).tasks.length≤_;rw [hSb.tl];exact Nat.le_succ _,by show _≤(stopF s n).tasks.length;rw [hSb.tl];exact Nat.le_refl _⟩,by show (stopF s n).calls.length≤_;rw [hSb.cl];exact Nat.le_succ _,h1,h2,fun e=>by cases e⟩
  | false=>exact hid
 ·exact hid
end Go.Ab
set_option maxHeartbeats 4000000
namespace Go.Ab
open Go Go.Ab Go.Proofs Go.Ab.Ty
def tk0:PTask:=⟨[],0,0,false,-1,[],[],-1,0,0,-1,0,none⟩
def tkAt (s:PRun) (n:Nat):PTask:=s.tasks.getD n tk0
theorem tkAt_eq {s:PRun} {n:Nat} {t:PTask} (h:s.tasks[n]?=some t):tkAt s n=t:=getD_at h
def plA (s:PRun) (x:Nat):List Int:=s.pool.getD x []
theorem plA_at {s:PRun} {x:Nat} (h:x<s.pool.length):s.pool[x]?=some (plA s x):=by unfold plA;rw [List.getD_eq_getElem?_getD,List.getElem?_eq_getElem h];rfl
def clkJ (s:PRun) (n x:Nat):PRun:=(s.addP (joinL (plA s (tkAt s n).clk) (plA s x))).tset n { tkAt s n with clk:=s.pool.length }
def turnA (s:PRun) (n:Nat):PRun:={ s with turns:=s.turns++[(n:Int)] }
def behX (s:PRun) (b:Nat):Nat:=(s.behs.getD b []).getD 0 0
def behK (s:PRun) (n:Nat):PRun:=match (tkAt s n).beh with
 | none=>s
 | some b=>clkJ s n (behX s b)
def nobS (s:PRun) (n:Nat):PRun:=s.tset n { tkAt s n with beh:=none }
def endX (s:PRun) (k:Nat):Nat:=((s.ends.getD k none).getD 0)
def awK (s:PRun) (n:Nat) (st:Stp):PRun:=if st.op=7∧ovr s (kidN (tkAt s n) st.n)=true then clkJ s n (endX s (kidN (tkAt s n) st.n)) else s
def actF (c:PCall) (st:Stp):Int:=if st.op=8 then st.n else c.actor
def acK (s:PRun) (n:Nat) (b:Bool) (a:Int):PRun:=if b=true∧0≤a then clkJ s n (s.acts.getD a.toNat 0) else s
def timeS (s:PRun) (n:Nat) (time:Int):PRun:={ s with pool:=s.pool.set (tkAt s n).clk ((plA s (tkAt s n).clk).set n time) }
def actS (s:PRun) (n:Nat) (b:Bool) (a:Int):PRun:=if b=true∧0≤a then { s.addP (plA s (tkAt s n).clk) with acts:=s.acts.set a.toNat s.pool.length } else s
def ckS (s:PRun) (n:Nat):PRun:={ s.addP (plA s (tkAt s n).clk) with cks:=s.cks++[s.pool.length] }
def hasS (s:PRun) (n:Nat) (v:Int):PRun:=s.tset n { tkAt s n with has:=v }
def cl0:PCall:=⟨⟨0,0,[]⟩,[],0,0⟩
def clAt (s:PRun) (j:Nat):PCall:=s.calls.getD j cl0
def stAt (c:PCall):Stp:=c.code.steps.getD c.pc.toNat ⟨0,0,0,0,0,[]⟩
def turnB (s:PRun) (n:Nat) (c:PCall) (st:Stp):PRun:=
 hasS (ckS (actS (timeS (acK (awK (nobS (behK (turnA s n) n) n) n st) n (canF s c st) (actF c st)) n s.turns.length) n (canF s c st) (actF c st)) n) n (-1)
def turnG (s8:PRun) (n j:Nat) (c:PCall) (st:Stp):PRun:=
 goOnF (settleF (n+1)) (if 0≤c.actor∧st.op≠12∧st.op≠9∧c.pc≠(c.code.steps.length:Int)-1 then hasS s8 n c.actor else s8) n j
def turnX (s:PRun) (n j:Nat) (c:PCall) (st:Stp):PRun:=
 if canF s c st=false then stopF (turnB s n c st) n else
 if (stepF (turnB s n c st) n j (tkAt (turnB s n c st) n) c st s.turns.length).1=false then (stepF (turnB s n c st) n j (tkAt (turnB s n c st) n) c st s.turns.length).2
 else turnG (stepF (turnB s n c st) n j (tkAt (turnB s n c st) n) c st s.turns.length).2 n j c st
def turnF (s:PRun) (n:Nat):PRun:=turnX s n (topJ (tkAt s n)) (clAt s (topJ (tkAt s n))) (stAt (clAt s (topJ (tkAt s n))))
structure Cs (s:PRun) (n:Nat) (t:PTask) (k:Nat) (s':PRun) (t':PTask):Prop where
 iv:Iv s'
 tk:s'.tasks[n]?=some t'
 tl:s'.tasks.length=s.tasks.length
 ot:∀i,i≠n→s'.tasks[i]?=s.tasks[i]?
 p:s'.p=s.p
 objs:s'.objs=s.objs
 accs:s'.accs=s.accs
 lines:s'.lines=s.lines
 calls:s'.calls=s.calls
 ends:s'.ends=s.ends
 behs:s'.behs=s.behs
 acl:s'.acts.length=s.acts.length
 tsa:t'.sarr=t.sarr∧t'.slen=t.slen∧t'.kids=t.kids∧t'.spn=t.spn
 tst:t'.state=t.state∧t'.ending=t.ending∧t'.waits=t.waits∧t'.canc=t.canc∧t'.par=t.par
 pl:s'.pool.length≤s.pool.length+k
theorem Cs.refl {s:PRun} {n:Nat} {t:PTask} (h:Iv s) (ht:s.tasks[n]?=some t):Cs s n t 0 s t:=
 ⟨h,ht,rfl,fun _ _=>rfl,rfl,rfl,rfl,rfl,rfl,rfl,rfl,rfl,⟨rfl,rfl,rfl,rfl⟩,⟨rfl,rfl,rfl,rfl,rfl⟩,Nat.le_refl _⟩
theorem Cs.trans {s s1 s2:PRun} {n:Nat} {t t1 t2:PTask} {k k1:Nat} (h:Cs s n t k s1 t1) (g:Cs s1 n t1 k1 s2 t2):Cs s n t (k+k1) s2 t2:=by
 obtain ⟨a1,a2,a3,a4⟩:=h.tsa
 obtain ⟨b1,b2,b3,b4⟩:=g.tsa
 obtain ⟨c1,c2,c3,c4,c5⟩:=h.tst
 obtain ⟨d1,d2,d3,d4,d5⟩:=g.tst
 exact ⟨g.iv,g.tk,g.tl.trans h.tl,fun i hi=>(g.ot i hi).trans (h.ot i hi),g.p.trans h.p,g.objs.trans h.objs,g.accs.trans h.accs,g.lines.trans h.lines,g.calls.trans h.calls,g.ends.trans h.ends,g.behs.trans h.behs,g.acl.trans h.acl,⟨b1.trans a1,b2.trans a2,b3.trans a3,b4.trans a4⟩,⟨d1.trans c1,d2.trans c2,d3.trans c3,d4.trans c4,d5.trans c5⟩,by have:=h.pl;have:=g.pl;omega⟩
theorem Cs.mono {s s1:PRun} {n:Nat} {t t1:PTask} {k k1:Nat} (h:Cs s n t k s1 t1) (hk:k≤k1):Cs s n t k1 s1 t1:=
 ⟨h.iv,h.tk,h.tl,h.ot,h.p,h.objs,h.accs,h.lines,h.calls,h.ends,h.behs,h.acl,h.tsa,h.tst,by have:=h.pl;omega⟩
theorem Cs.tset {s:PRun} {n:Nat} {t t':PTask} (h:Iv s) (ht:s.tasks[n]?=some t) (h1:t'.sarr=t.sarr∧t'.slen=t.slen∧t'.kids=t.kids∧t'.spn=t.spn) (h2:t'.state=t.state∧t'.ending=t.ending∧t'.waits=t.waits∧t'.canc=t.canc∧t'.par=t.par) (h3:t'.clk<s.pool.length) (h4:t'.beh=t.beh∨t'.beh=none):Cs s n t 0 (s.tset n t') t':=by
 obtain ⟨a1,a2,a3,a4⟩:=h.wf.tsk t (List.mem_of_getElem? ht)
 obtain ⟨b1,b2,b3,b4⟩:=h1
 obtain ⟨c1,c2,c3,c4,c5⟩:=h2
 refine ⟨h.tset ht b1 (by omega) (by rw [b2];exact h.stk n t ht) b3 c5 h3 (fun b hb=>?_) (fun e=>h.en n t ht (by omega)) (fun e=>?_) (by rw [c2];exact h.ed n t ht) (fun e i x hi hx=>?_),tset_at ht,tset_len,fun i hi=>tset_ne (fun e=>hi e.symm),rfl,rfl,rfl,rfl,rfl,rfl,rfl,rfl,⟨b1,b2,b3,b4⟩,⟨c1,c2,c3,c4,c5⟩,Nat.le_refl _⟩
 ·rcases h4 with e|e
  ·rw [e] at hb;exact a4 b hb
  ·rw [e] at hb;cases hb
 ·rcases h4 with e2|e2
  ·rw [e2];exact h.wt n t ht (by omega)
  ·exact e2
 ·rw [b2] at hi
  exact h.pcI n t i x ht (by rw [c1,c3] at e;exact e) hi hx
theorem Cs.clkJ {s:PRun} {n x:Nat} {t:PTask} (h:Iv s) (ht:s.tasks[n]?=some t) (hx:x<s.pool.length) (hM:s.pool.length<MM):Cs s n t 1 (clkJ s n x) { t with clk:=s.pool.length }:=by
 obtain ⟨a1,a2,a3,a4⟩:=h.wf.tsk t (List.mem_of_getElem? ht)
 have l1:=(h.wf.p (plA_at a3)).2
 have l2:=(h.wf.p (plA_at hx)).2
 have h1:=h.addP (l:=joinL (plA s t.clk) (plA s x)) hM (by rw [joinL_len (by omega)];exact l1)
 have ht1:(s.addP (joinL (plA s t.clk) (plA s x))).tasks[n]?=some t:=ht
 have h2:=Cs.tset (t':={ t with clk:=s.pool.length }) h1 ht1 ⟨rfl,rfl,rfl,rfl⟩ ⟨rfl,rfl,rfl,rfl,rfl⟩ (by simp [PRun.addP]) (.inl rfl)
 unfold Go.Ab.clkJ
 rw [tkAt_eq ht]
 exact ⟨h2.iv,h2.tk,h2.tl,h2.ot,rfl,rfl,rfl,rfl,rfl,rfl,rfl,rfl,h2.tsa,h2.tst,by show (s.pool++[_]).length≤_;simp⟩
theorem Iv.pset {s:PRun} (h:Iv s) {x:Nat} {l:List Int} (hl:l.length=32):Iv { s with pool:=s.pool.set x l }:=by
 have e:(s.pool.set x l).length=s.pool.length:=List.length_set
 refine ⟨⟨h.wf.1,h.wf.2,by show (s.pool.set x l).length≤_;rw [e];exact h.wf.3,h.wf.4,fun y hy=>?_,fun i hi=>by show i<(s.pool.set x l).length;rw [e];exact h.wf.6 i hi,fun i hi=>by show i<(s.pool.set x l).length;rw [e];exact h.wf.7 i hi,fun o ho i hi=>by show i<(s.pool.set x l).length;rw [e];exact h.wf.8 o ho i hi,fun t ht=>by
  obtain ⟨a1,a2,a3,a4⟩:=h.wf.9 t ht
  exact ⟨a1,a2,by show t.clk<(s.pool.set x l).length;rw [e];exact a3,a4⟩,fun y hy=>by
  obtain ⟨a1,a2⟩:=h.wf.10 y hy
  exact ⟨a1,fun i hi=>by show i<(s.pool.set x l).length;rw [e];exact a2 i hi⟩,h.wf.11,h.wf.12,h.wf.13,h.wf.14⟩,⟨h.kd.kd⟩,h.par,h.stk,h.en,h.wt,h.ed,h.dis,h.pcB,h.pcI⟩
 rcases List.mem_or_eq_of_mem_set hy with hy|rfl
 ·exact h.wf.5 y hy
 ·exact hl
theorem Cs.timeS {s:PRun} {n:Nat} {t:PTask} {time:Int} (h:Iv s) (ht:s.tasks[n]?=some t):Cs s n t 0 (timeS s n time) t:=by
 obtain ⟨a1,a2,a3,a4⟩:=h.wf.tsk t (List.mem_of_getElem? ht)
 have l1:=(h.wf.p (plA_at a3)).2
 unfold Go.Ab.timeS
 rw [tkAt_eq ht]
 exact ⟨h.pset (by rw [List.length_set];exact l1),ht,rfl,fun _ _=>rfl,rfl,rfl,rfl,rfl,rfl,rfl,rfl,rfl,⟨rfl,rfl,rfl,rfl⟩,⟨rfl,rfl,rfl,rfl,rfl⟩,by show (List.set _ _ _).length≤_;rw [List.length_set];omega⟩
theorem Cs.actS {s:PRun} {n:Nat} {t:PTask} {b:Bool} {a:Int} (h:Iv s) (ht:s.tasks[n]?=some t) (hM:s.pool.length<MM):Cs s n t 1 (actS s n b a) t:=by
 obtain ⟨a1,a2,a3,a4⟩:=h.wf.tsk t (List.mem_of_getElem? ht)
 have l1:=(h.wf.p (plA_at a3)).2
 unfold Go.Ab.actS
 rw [tkAt_eq ht]
 split
 ·have h1:=h.addP (l:=plA s t.clk) hM l1
  refine ⟨⟨⟨h1.wf.1,h1.wf.2,h1.wf.3,h1.wf.4,h1.wf.5,h1.wf.6,fun i hi=>?_,h1.wf.8,h1.wf.9,h1.wf.10,h1.wf.11,by
   obtain ⟨b1,b2,b3,b4,b5,b6,b7⟩:=h1.wf.12
   exact ⟨b1,b2,b3,b4,b5,by show (s.acts.set _ _).length≤_;rw [List.length_set];exact b6,b7⟩,h1.wf.13,h1.wf.14⟩,⟨h1.kd.kd⟩,h1.par,h1.stk,h1.en,h1.wt,h1.ed,h1.dis,h1.pcB,h1.pcI⟩,ht,rfl,fun _ _=>rfl,rfl,rfl,rfl,rfl,rfl,rfl,rfl,by show (s.acts.set _ _).length=_;rw [List.length_set],⟨rfl,rfl,rfl,rfl⟩,⟨rfl,rfl,rfl,rfl,rfl⟩,by show (s.pool++[_]).length≤_;simp⟩
  rcases List.mem_or_eq_of_mem_set hi with hi|rfl
  ·exact h1.wf.7 i hi
  ·show s.pool.length<(s.pool++[_]).length
   simp
 ·exact (Cs.refl h ht).mono (by omega)
theorem Cs.ckS {s:PRun} {n:Nat} {t:PTask} (h:Iv s) (ht:s.tasks[n]?=some t) (hM:s.pool.length<MM) (hk:s.cks.length<1000000):Cs s n t 1 (ckS s n) t:=by
 obtain ⟨a1,a2,a3,a4⟩:=h.wf.tsk t (List.mem_of_getElem? ht)
 have l1:=(h.wf.p (plA_at a3)).2
 unfold Go.Ab.ckS
 rw [tkAt_eq ht]
 have h1:=h.addP (l:=plA s t.clk) hM l1
 refine ⟨⟨⟨h1.wf.1,h1.wf.2,h1.wf.3,h1.wf.4,h1.wf.5,fun i hi=>?_,h1.wf.7,h1.wf.8,h1.wf.9,h1.wf.10,h1.wf.11,by
  obtain ⟨b1,b2,b3,b4,b5,b6,b7⟩:=h1.wf.12
  exact ⟨b1,b2,b3,b4,by show (s.cks++[_]).length≤_;simp;omega,b6,b7⟩,h1.wf.13,h1.wf.14⟩,⟨h1.kd.kd⟩,h1.par,h1.stk,h1.en,h1.wt,h1.ed,h1.dis,h1.pcB,h1.pcI⟩,ht,rfl,fun _ _=>rfl,rfl,rfl,rfl,rfl,rfl,rfl,rfl,rfl,⟨rfl,rfl,rfl,rfl⟩,⟨rfl,rfl,rfl,rfl,rfl⟩,by show (s.pool++[_]).length≤_;simp⟩
 rcases List.mem_append.1 hi with hi|hi
 ·exact h1.wf.6 i hi
 ·rw [List.mem_singleton] at hi;subst hi
  show s.pool.length<(s.pool++[_]).length
  simp
theorem Cs.turnA {s:PRun} {n:Nat} {t:PTask} (h:Iv s) (ht:s.tasks[n]?=some t) (hk:s.turns.length<1000000):Cs s n t 0 (turnA s n) t:=
 ⟨⟨⟨h.wf.1,h.wf.2,h.wf.3,h.wf.4,h.wf.5,h.wf.6,h.wf.7,h.wf.8,h.wf.9,h.wf.10,h.wf.11,by
   obtain ⟨b1,b2,b3,b4,b5,b6,b7⟩:=h.wf.12
   exact ⟨b1,b2,b3,by show (s.turns++[_]).length≤_;simp;omega,b5,b6,b7⟩,h.wf.13,h.wf.14⟩,⟨h.kd.kd⟩,h.par,h.stk,h.en,h.wt,h.ed,h.dis,h.pcB,h.pcI⟩,ht,rfl,fun _ _=>rfl,rfl,rfl,rfl,rfl,rfl,rfl,rfl,rfl,⟨rfl,rfl,rfl,rfl⟩,⟨rfl,rfl,rfl,rfl,rfl⟩,Nat.le_refl _⟩
theorem Tok.cs {k k':Nat} {s s':PRun} {n j:Nat} {t t':PTask} {c:PCall} {st:Stp} {m:Nat} (h:Tok k s n j t c st) (g:Cs s n t m s' t') (hk:m+k'≤k):Tok k' s' n j t' c st:=by
 obtain ⟨a1,a2,a3,a4⟩:=g.tsa
 obtain ⟨c1,c2,c3,c4,c5⟩:=g.tst
 refine ⟨g.iv,g.tk,by rw [g.calls];exact h.hc,h.hac,⟨h.vok.v,h.vok.w,h.vok.vs,by rw [g.objs];exact h.vok.ob,h.vok.vl⟩,by rw [g.objs];exact h.ob,by rw [g.objs];exact h.szo,by rw [g.accs];exact h.sza,by rw [g.lines];exact h.szl,by rw [a1,a2];exact h.tp,h.pcl,by rw [c1];exact h.st1,by rw [c2];exact h.en,by rw [c3];exact h.wt,h.pc,by rw [g.calls];exact h.hC,by have:=g.pl;have:=h.hP;omega,by rw [g.behs];exact h.hB,by rw [a3];exact h.kl,by rw [a1];exact h.sl,h.vl,h.op,by rw [g.p];exact h.r6,by rw [a4,g.tl];exact h.r7,by rw [g.objs];exact h.r8,by rw [g.p];exact h.r9⟩
theorem canF_cs {s s':PRun} {n:Nat} {t t':PTask} {m:Nat} (g:Cs s n t m s' t') (c:PCall) (st:Stp):canF s' c st=canF s c st:=by
 unfold canF room objL
 rw [g.objs,g.tl]
end Go.Ab
