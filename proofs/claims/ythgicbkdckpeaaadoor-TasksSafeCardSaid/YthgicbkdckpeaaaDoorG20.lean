/- Part of the proof. -/
import Derived.Test.YthgicbkdckpeaaaDoorG19
set_option linter.unusedSimpArgs false
set_option linter.unusedVariables false
set_option maxHeartbeats 4000000
namespace Go.Ab
open Go Go.Ab Go.Proofs Go.Ab.Ty
def newT (j:Nat) (prio:Int) (canc:Bool) (par:Int) (clk:Nat):PTask:=⟨[j],1,prio,canc,par,[],[],-1,0,1,-1,clk,none⟩
def PRun.addT (s:PRun) (t:PTask):PRun:={ s with tasks:=s.tasks++[t],ends:=s.ends++[none] }
theorem addT_at {s:PRun} {t:PTask}:(s.addT t).tasks[s.tasks.length]?=some t:=by simp [PRun.addT]
theorem addT_old {s:PRun} {t:PTask} {k:Nat} (h:k<s.tasks.length):(s.addT t).tasks[k]?=s.tasks[k]?:=by
 unfold PRun.addT;simp only;exact List.getElem?_append_left h
theorem addT_of {s:PRun} {t u:PTask} {k:Nat} (h:(s.addT t).tasks[k]?=some u):(k<s.tasks.length∧s.tasks[k]?=some u)∨(k=s.tasks.length∧u=t):=by
 rcases Nat.lt_trichotomy k s.tasks.length with h1|h1|h1
 ·rw [addT_old h1] at h;exact .inl ⟨h1,h⟩
 ·subst h1;rw [addT_at] at h;injection h with h;exact .inr ⟨rfl,h.symm⟩
 ·unfold PRun.addT at h;simp only at h
  rw [List.getElem?_eq_none (by simp;omega)] at h;cases h
theorem addT_tset {s:PRun} {t t':PTask}:(s.addT t).tset s.tasks.length t'=s.addT t':=by simp [PRun.addT,PRun.tset]
def startS (s:PRun) (c:Cd) (vs a:List Int) (prio par:Int) (canc:Bool):PRun:=(((s.addC (newC c vs (-1))).addP a)).addT (newT s.calls.length prio canc par s.pool.length)
def startF (s:PRun) (c:Cd) (vs a:List Int) (prio par:Int) (canc:Bool):PRun:=
 if c.steps.length=0 then settleF (s.tasks.length+1) ((startS s c vs a prio par canc).tset s.tasks.length (clo (newT s.calls.length prio canc par s.pool.length) 3)) s.tasks.length else startS s c vs a prio par canc
theorem Iv.addC {s:PRun} (h:Iv s) {c:PCall} (h1:s.calls.length<MM) (h2:c.vars.length≤1000) (h3:c.code.steps.length≤1000) (h4:0≤c.pc∧c.pc≤c.code.steps.length):Iv (s.addC c):=by
 refine ⟨h.wf.addC h1 h2 h3,⟨h.kd.kd⟩,h.par,h.stk,h.en,h.wt,h.ed,h.dis,fun x hx=>?_,fun k t j x ht hs hj hx=>?_⟩
 ·simp only [PRun.addC,List.mem_append,List.mem_singleton] at hx
  rcases hx with hx|rfl
  ·exact h.pcB x hx
  ·exact h4
 ·have hjl:j<s.calls.length:=(h.wf.tsk t (List.mem_of_getElem? ht)).1 j (List.mem_of_getElem? hj)
  rw [addC_ne (by omega)] at hx
  exact h.pcI k t j x ht hs hj hx
theorem WF.addT {s:PRun} (hw:WF s) {t:PTask} (h0:s.tasks.length<32) (h1:(∀j∈t.sarr,j<s.calls.length)∧t.slen≤t.sarr.length∧t.clk<s.pool.length∧∀b,t.beh=some b→b<s.behs.length) (h2:t.sarr.length≤1000∧t.kids.length≤1000):WF (s.addT t):=by
 refine ⟨by simp [PRun.addT];omega,hw.nC,hw.nK,hw.nB,hw.pl,hw.cks,hw.acts,fun o ho=>?_,fun x hx=>?_,hw.behs,by simp [PRun.addT];exact hw.endl,hw.sz,fun x hx=>?_,hw.csz⟩
 ·simp only [PRun.addT,List.mem_append,List.mem_singleton] at ho
  rcases ho with ho|rfl
  ·exact hw.ends o ho
  ·intro j e;cases e
 ·simp only [PRun.addT,List.mem_append,List.mem_singleton] at hx
  rcases hx with hx|rfl
  ·exact hw.tsk x hx
  ·exact h1
 ·simp only [PRun.addT,List.mem_append,List.mem_singleton] at hx
  rcases hx with hx|rfl
  ·exact hw.tsz x hx
  ·exact h2
theorem Iv.addT {s:PRun} (h:Iv s) {t:PTask} {j:Nat} {c:PCall} (h0:s.tasks.length<32) (hsa:t.sarr=[j]) (hsl:t.slen=1) (hj:s.calls[j]?=some c) (hfr:∀u∈s.tasks,j∉u.sarr) (hk:t.kids=[]) (hcl:t.clk<s.pool.length) (hb:t.beh=none) (hst:t.state<3) (hen:t.ending=0∨3≤t.ending) (hwt:t.waits = -1)
 (hpar:t.par = -1∨∃p:Nat,t.par=(p:Int)∧p<s.tasks.length) (hpc:t.state=1→c.pc<c.code.steps.length):Iv (s.addT t):=by
 have hjl:j<s.calls.length:=(List.getElem?_eq_some_iff.1 hj).1
 have hl:(s.addT t).tasks.length=s.tasks.length+1:=by simp [PRun.addT]
 refine ⟨h.wf.addT h0 ⟨by rw [hsa];intro i hi;rw [List.mem_singleton] at hi;subst hi;exact hjl,by rw [hsa,hsl];simp,hcl,by rw [hb];intro b e;cases e⟩ (by rw [hsa,hk];simp),⟨fun k u hu c hc=>?_⟩,fun k u hu=>?_,fun k u hu=>?_,fun k u hu h3=>?_,fun k u hu h3=>?_,fun k u hu=>?_,?_,h.pcB,fun k u i x hu hs hi hx=>?_⟩
 ·rw [hl]
  rcases addT_of hu with ⟨h1,h2⟩|⟨rfl,rfl⟩
  ·obtain ⟨i,a1,a2,a3⟩:=h.kd.kd k u h2 c hc;exact ⟨i,a1,a2,by omega⟩
  ·rw [hk] at hc;cases hc
 ·rcases addT_of hu with ⟨h1,h2⟩|⟨rfl,rfl⟩
  ·exact h.par k u h2
  ·exact hpar
 ·rcases addT_of hu with ⟨h1,h2⟩|⟨rfl,rfl⟩
  ·exact h.stk k u h2
  ·omega
 ·rcases addT_of hu with ⟨h1,h2⟩|⟨rfl,rfl⟩
  ·obtain ⟨i,hi⟩:=h.en k u h2 h3
   exact ⟨i,by unfold PRun.addT;simp only;rw [List.getElem?_append_left (List.getElem?_eq_some_iff.1 hi).1];exact hi⟩
  ·omega
 ·rcases addT_of hu with ⟨h1,h2⟩|⟨rfl,rfl⟩
  ·exact h.wt k u h2 h3
  ·exact hb
 ·rcases addT_of hu with ⟨h1,h2⟩|⟨rfl,rfl⟩
  ·exact h.ed k u h2
  ·exact hen
 ·intro k u k' u' i i' x hu hu' hi hi' hx hx'
  have e1:∀ {i:Nat} {u:PTask},u=t→i<u.slen→u.sarr[i]?=some x→i=0∧x=j:=fun {i u} e hi hx=>by
   subst e;rw [hsl] at hi
   have:i=0:=by omega
   subst this
   rw [hsa] at hx;injection hx with hx;exact ⟨rfl,hx.symm⟩
  rcases addT_of hu with ⟨h1,h2⟩|⟨rfl,q⟩<;>rcases addT_of hu' with ⟨h1',h2'⟩|⟨rfl,q'⟩
  ·exact h.dis k u k' u' i i' x h2 h2' hi hi' hx hx'
  ·obtain ⟨_,rfl⟩:=e1 q' hi' hx'
   exact absurd (List.mem_of_getElem? hx) (hfr u (List.mem_of_getElem? h2))
  ·obtain ⟨_,rfl⟩:=e1 q hi hx
   exact absurd (List.mem_of_getElem? hx') (hfr u' (List.mem_of_getElem? h2'))
  ·exact ⟨rfl,by rw [(e1 q hi hx).1,(e1 q' hi' hx').1]⟩
 ·rcases addT_of hu with ⟨h1,h2⟩|⟨rfl,rfl⟩
  ·exact h.pcI k u i x h2 hs hi hx
  ·rw [hsa,hsl] at hi
   injection hi with hi;subst hi
   have hx':s.calls[j]?=some x:=hx
   rw [hj] at hx';injection hx' with hx';subst hx'
   rcases hs with hs|hs
   ·exact hpc hs
   ·omega
theorem startIv {s:PRun} (h:Iv s) {c:Cd} {vs a:List Int} {prio par:Int} {canc:Bool} {t:PTask} (h0:s.tasks.length<32) (hC:s.calls.length<MM) (hP:s.pool.length<MM) (ha:a.length=32) (hv:c.vars≤1000) (hvl:vs.length≤1000) (hcs:c.steps.length≤1000)
 (hsa:t.sarr=[s.calls.length]) (hsl:t.slen=1) (hk:t.kids=[]) (hcl:t.clk=s.pool.length) (hb:t.beh=none) (hst:t.state<3) (hen:t.ending=0∨3≤t.ending) (hwt:t.waits = -1)
 (hpar:t.par = -1∨∃p:Nat,t.par=(p:Int)∧p<s.tasks.length) (hpc:t.state=1→0<c.steps.length):Iv (((s.addC (newC c vs (-1))).addP a).addT t):=by
 have i1:Iv (s.addC (newC c vs (-1))):=h.addC hC (by simp only [newC,List.length_append,List.length_replicate];omega) hcs ⟨Int.le_refl _,by show (0:Int)≤_;omega⟩
 have i2:=i1.addP (l:=a) hP ha
 exact i2.addT (c:=newC c vs (-1)) h0 hsa hsl addC_at (fun u hu hm=>by have:=(h.wf.tsk u hu).1 _ hm;omega) hk (by rw [hcl];simp [PRun.addP,PRun.addC]) hb hst hen hwt hpar (fun e=>by have:=hpc e;show (0:Int)<(c.steps.length:Int);omega)
end Go.Ab
set_option maxHeartbeats 4000000
namespace Go.Ab
open Go Go.Ab Go.Proofs Go.Ab.Ty
theorem HH_tk {s:PRun} {t:PTask} {k:Nat} (hk:k=s.tasks.length) (h1:ix (.tsk k)<NN) (h2:ix (.stk k)<NN) (h3:ix (.spn k)<NN) (hkd:t.kids=[]) :
 (((((HH s).set (ix (.stk k)) ⟨135,1,t.sarr.map ptC⟩).set (ix (.spn k)) (spnB t.spn)).set (ix (.tsk k)) (tskB k t)).set (ix .tk) ⟨84,1,(List.range (k+1)).map ptK⟩).set (ix .rn) (rnB { s with tasks:=s.tasks++[t] })=HH { s with tasks:=s.tasks++[t] }:=by
 subst hk
 have hat:(s.tasks++[t])[s.tasks.length]?=some t:=by simp
 refine HH_upd (s:=s) (s':={ s with tasks:=s.tasks++[t] }) [(.stk s.tasks.length,_),(.spn s.tasks.length,_),(.tsk s.tasks.length,_),(.tk,_),(.rn,_)] (fun p hp=>?_) fun a ha=>?_
 ·simp only [List.mem_cons,List.not_mem_nil,or_false] at hp
  rcases hp with rfl|rfl|rfl|rfl|rfl
  ·exact ⟨h2,by simp only [blk];rw [hat]⟩
  ·exact ⟨h3,by simp only [blk];rw [hat];rfl⟩
  ·exact ⟨h1,by simp only [blk];rw [hat]⟩
  ·exact ⟨ixl_tk,by simp only [blk,List.length_append,List.length_singleton]⟩
  ·exact ⟨ixl_rn,rfl⟩
 ·simp only [List.map_cons,List.map_nil,List.mem_cons,List.not_mem_nil,or_false,not_or] at ha
  obtain ⟨a1,a2,a3,a4,a5⟩:=ha
  have hne:∀ {i:Nat},i≠s.tasks.length→(s.tasks++[t])[i]?=s.tasks[i]?:=fun {i} h=>by
   rcases Nat.lt_or_ge i s.tasks.length with g|g
   ·exact List.getElem?_append_left g
   ·rw [List.getElem?_eq_none (by simp;omega),List.getElem?_eq_none g]
  cases a with
  | tsk i=>simp only [blk];rw [hne fun e=>a3 (by rw [e])]
  | stk i=>simp only [blk];rw [hne fun e=>a1 (by rw [e])]
  | spn i=>simp only [blk];rw [hne fun e=>a2 (by rw [e])]
  | kid i =>
    simp only [blk]
    by_cases e:i=s.tasks.length
    ·subst e;rw [hat,List.getElem?_eq_none (Nat.le_refl _)];simp only [hkd]
    ·rw [hne e]
  | rn=>exact absurd rfl a5
  | tk=>exact absurd rfl a4
  | _=>rfl
theorem start_ok {s:PRun} (h:Iv s) {c:Cd} {vs a:List Int} {prio par:Int} {canc:Bool} {x:Nat} (h0:s.tasks.length<32) (hC:s.calls.length<MM) (hP:s.pool.length+40000≤MM) (hB:s.behs.length+40≤MM) (hx:s.pool[x]?=some a) (hv0:0≤c.vars) (hv1:c.vars≤1000) (hvs:vs.length≤c.vars) (hcs:c.steps.length≤1000)
 (hpar:par = -1∨∃p:Nat,par=(p:Int)∧p<s.tasks.length) :
 FnH Tryd.prog 83 [ptR,encC c,.lst (vs.map .int),.int prio,.int par,.base (.bool canc),ownC x] (HH s) (.int s.tasks.length) (HH (startF s c vs a prio par canc)):=by
 have hw:=h.wf
 have hlen:=HH_len s
 have ie:=entered_ok hw (a:=-1) hv0 hv1 hvs hC hcs
 obtain ⟨j,hj⟩:∃j,j=s.calls.length:=⟨_,rfl⟩
 obtain ⟨k,hk⟩:∃k,k=s.tasks.length:=⟨_,rfl⟩
 obtain ⟨s1,hs1⟩:∃s1,s1=s.addC (newC c vs (-1)):=⟨_,rfl⟩
 have hw1:WF s1:=by rw [hs1];exact hw.addC hC (by simp only [newC,List.length_append,List.length_replicate];omega) hcs
 rw [← hs1,← hj] at ie
 obtain ⟨T,hT⟩:∃T:List ABlk,T=[cdB c]:=⟨_,rfl⟩
 have hTr:∀ {S:Nat→Prop},∀b∈T,RfB S b:=fun b hb=>by rw [hT] at hb;exact one_rf cdB_rf b hb
 have hkM:k<MM:=by have:=hw.nT;rw [MM_eq];omega
 have hjM:j<MM:=by rw [hj];exact hC
 have hkt:ix (.tsk k)<NN:=ix_lt hkM
 have hks:ix (.stk k)<NN:=ix_lt hkM
 have hkp:ix (.spn k)<NN:=ix_lt hkM
 have hjc:ix (.cal j)<NN:=ix_lt hjM
 have h1n:s1.tasks[k]?=none:=by rw [hs1,hk];exact List.getElem?_eq_none (Nat.le_refl _)
 have h1l:s1.tasks.length=k:=by rw [hs1,hk];rfl
 obtain ⟨q,hq⟩:∃q,q=s1.pool.length:=⟨_,rfl⟩
 have hqs:q=s.pool.length:=by rw [hq,hs1];rfl
 have hqM:q<MM:=by rw [hqs];omega
 have hqc:ix (.clk q)<NN:=ix_lt hqM
 have h1q:s1.pool[q]?=none:=List.getElem?_eq_none (by omega)
 have h1x:s1.pool[x]?=some a:=by rw [hs1];exact hx
 have hal:a.length=32:=(hw.p hx).2
 have hxc:ix (.clk x)<NN:=(hw.p hx).1
 have hxq:x≠q:=by have:=(List.getElem?_eq_some_iff.1 hx).1;omega
 have hnd:∀ {a:Nm},a=.tsk k∨a=.stk k∨a=.spn k∨a=.clk q→¬dom s1 a:=fun {a} e hd=>by
  rcases e with rfl|rfl|rfl|rfl
  ·have:k<s1.tasks.length:=hd
   omega
  ·have:k<s1.tasks.length:=hd
   omega
  ·have:k<s1.tasks.length:=hd
   omega
  ·have:q<s1.pool.length:=hd
   omega
 have hbs:∀(ρ:Operand→AV) (x:Operand),ρ x=ptC j→PL Tryd.prog (HH s1++T) ρ (.buildSlice 85 1 #[(0,x)]) (.own (ix (.stk k)) 1 0 1) ((HH s1).set (ix (.stk k)) ⟨135,1,[ptC j]⟩++T):=fun ρ x hx=>by
  have h0:=pl_buildSlice (P:=Tryd.prog) (H:=HH s1++T) (ρ:=ρ) (es:=[ptC j]) (len:=1) (parts:=#[(0,x)]) (size:=1) (by decide) Tryd.underlying85 (by kernel_rfl) (by kernel_rfl) (by decide) (by simp only [List.map,hx];rfl) (by simp only [List.map,hx]) rfl
  have h2:=PL.placeS h0 (p:=ix (.stk k)) (blk0:=⟨135,1,[]⟩) (by rw [app_get (HH_len s1) hks,HH_get s1 _ hks];simp only [blk];rw [h1n]) rfl (by simp) (fun e he d hd=>by
   rw [List.mem_singleton] at he;subst he
   simp only [AV.cells,List.mem_singleton] at hd;subst hd
   exact .ptr ⟨fun e=>(by have:=ix_inj e;cases this),by simp only [List.length_append,HH_len];omega⟩) (app_rf (HH_nb hw1 (hnd (.inr (.inl rfl))) (by simp [HH_len])) hTr) MvR.ownL
  rw [app_set (HH_len s1) hks] at h2
  exact h2
 obtain ⟨L1,hL1⟩:∃L1,L1=(HH s1).set (ix (.stk k)) ⟨135,1,[ptC j]⟩:=⟨_,rfl⟩
 obtain ⟨L2,hL2⟩:∃L2,L2=L1.set (ix (.spn k)) (spnB []):=⟨_,rfl⟩
 obtain ⟨L3,hL3⟩:∃L3,L3=L2.set (ix (.clk q)) (intB a):=⟨_,rfl⟩
 have l1:L1.length=NN:=by rw [hL1,set_len,HH_len]
 have l2:L2.length=NN:=by rw [hL2,set_len,l1]
 have l3:L3.length=NN:=by rw [hL3,set_len,l2]
 have r1:∀ {a:Nm},a=.tsk k∨a=.stk k∨a=.spn k∨a=.clk q→∀ {q:Nat},NN≤q→∀b∈L1,RfB (Nb q (ix a)) b:=fun {a} e {q} hq=>by
  rw [hL1]
  refine set_rf (HH_nb hw1 (hnd e) hq) fun e1 he d hd=>?_
  rw [List.mem_singleton] at he;subst he
  simp only [AV.cells,List.mem_singleton] at hd;subst hd
  exact .ptr ⟨fun e2=>(by have:=ix_inj e2;subst this;rcases e with e|e|e|e<;>cases e),by omega⟩
 have spr:∀ {S:Nat→Prop},RfB S (spnB []):=fun e he d hd=>by
  simp only [mapB,List.mem_singleton] at he;subst he
  simp only [AV.cells,List.map_nil,List.mem_cons,List.not_mem_nil,or_false] at hd
  rcases hd with rfl|rfl<;>exact .pu (.agg fun c hc=>by cases hc)
 have r2:∀ {a:Nm},a=.tsk k∨a=.stk k∨a=.spn k∨a=.clk q→∀ {q:Nat},NN≤q→∀b∈L2,RfB (Nb q (ix a)) b:=fun {a} e {q} hq=>by
  rw [hL2];exact set_rf (r1 e hq) spr
 have r3:∀ {a:Nm},a=.tsk k∨a=.stk k∨a=.spn k∨a=.clk q→∀ {q:Nat},NN≤q→∀b∈L3,RfB (Nb q (ix a)) b:=fun {a} e {q} hq=>by
  rw [hL3];exact set_rf (r2 e hq) intB_rf
 have d1:L1[ix (.spn k)]?=some ⟨mapTy,2,[]⟩:=by
  rw [hL1,set_get (HH_len s1) hks,if_neg (by simp),HH_get s1 _ hkp];simp only [blk];rw [h1n]
 have d2:L2[ix (.clk q)]?=some (intB []):=by
  rw [hL2,set_get l1 hkp,if_neg (by simp),hL1,set_get (HH_len s1) hks,if_neg (by simp),HH_get s1 _ hqc];simp only [blk];rw [h1q]
 have d2x:L2[ix (.clk x)]?=some (intB a):=by
  rw [hL2,set_get l1 hkp,if_neg (by simp),hL1,set_get (HH_len s1) hks,if_neg (by simp),HH_get s1 _ hxc];simp only [blk];rw [h1x]
 have d3:L3[ix (.tsk k)]?=some ⟨88,12,[]⟩:=by
  rw [hL3,set_get l2 hqc,if_neg (by simp),hL2,set_get l1 hkp,if_neg (by simp),hL1,set_get (HH_len s1) hks,if_neg (by simp),HH_get s1 _ hkt];simp only [blk];rw [h1n]
 have hmm:∀(ρ:Operand→AV) (t:TypeId),PL Tryd.prog (L1++T) ρ (.makeMap t none) (.mapv (ix (.spn k))) (L2++T):=fun ρ t=>by
  have h2:=PL.placeS (pl_makeMap (P:=Tryd.prog) encI1 AV.int (H:=L1++T) (ρ:=ρ) (t:=t)) (p:=ix (.spn k)) (blk0:=⟨mapTy,2,[]⟩) (by rw [app_get l1 hkp];exact d1) rfl (by simp [mapB]) spr (app_rf (r1 (.inr (.inr (.inl rfl))) (by simp [l1])) hTr) MvR.mapL
  rw [app_set l1 hkp] at h2
  rw [hL2];exact h2
 have hcl:∀(ρ:Operand→AV) (c:Call) (fx:Operand),c.callee=.value fx→ρ fx=.clo 89 []→c.args.toList.map ρ++[]=[ownC x]→PL Tryd.prog (L2++T) ρ (.call c) (ownC q) (L3++T):=fun ρ c fx hc hfx hca=>by
  have h0:=pl_callW (ρ:=ρ) (clone_ok (H:=L2++T) (b:=ix (.clk x)) (n:=32) (l:=a) (by rw [app_get l2 hxc];exact d2x) hal (by decide) (by decide)) (by simp) hc hfx hca
  have h2:=PL.placeS h0 (p:=ix (.clk q)) (blk0:=intB []) (by rw [app_get l2 hqc];exact d2) rfl (by simp;intro e;rw [e] at hal;cases hal) intB_rf (app_rf (r2 (.inr (.inr (.inr rfl))) (by simp [l2])) hTr) MvR.ownL
  rw [app_set l2 hqc] at h2
  rw [hL3];exact h2
 obtain ⟨t,ht⟩:∃t,t=newT j prio canc par q:=⟨_,rfl⟩
 have hbx:∀(ρ:Operand→AV) (x:Operand),ρ x=.agg [.own (ix (.stk k)) 1 0 1,.int prio,.base (.bool canc),.int par,nilS,.mapv (ix (.spn k)),.int (-1),.int 0,.int 1,.int (-1),ownC q,nilS]→PL Tryd.prog (L3++T) ρ (.box 88 x) (ptK k) (L3.set (ix (.tsk k)) (tskB k t)++T):=fun ρ x hx=>by
  have h2:=PL.placeS (p:=ix (.tsk k)) (pl_box (P:=Tryd.prog) (H:=L3++T) (el:=88) hx (by simp [okCells,isOne,Value.oneCell'])) (blk0:=⟨88,12,[]⟩) (by rw [app_get l3 hkt];exact d3) rfl (by simp) (fun e he d hd=>by
   rw [List.mem_singleton] at he;subst he
   simp only [AV.cells,List.mem_cons,List.not_mem_nil,or_false] at hd
   rcases hd with rfl|rfl|rfl|rfl|rfl|rfl|rfl|rfl|rfl|rfl|rfl|rfl
   ·exact .own ⟨fun e=>(by have:=ix_inj e;cases this),by simp only [List.length_append,l3];omega⟩
   ·exact .pu (.base _)
   ·exact .pu (.base _)
   ·exact .pu (.base _)
   ·exact .pu (.base _)
   ·exact .mapv ⟨fun e=>(by have:=ix_inj e;cases this),by simp only [List.length_append,l3];omega⟩
   ·exact .pu (.base _)
   ·exact .pu (.base _)
   ·exact .pu (.base _)
   ·exact .pu (.base _)
   ·exact .own ⟨fun e=>(by have:=ix_inj e;cases this),by simp only [List.length_append,l3];omega⟩
   ·exact .pu (.base _)) (app_rf (r3 (.inl rfl) (by simp [l3])) hTr) MvR.ptrL
  rw [app_set l3 hkt] at h2
  rw [ht];exact h2
 obtain ⟨L4,hL4⟩:∃L4,L4=L3.set (ix (.tsk k)) (tskB k t):=⟨_,rfl⟩
 have l4:L4.length=NN:=by rw [hL4,set_len,l3]
 have hne4:∀ {a:Nm},a≠.tsk k→a≠.clk q→a≠.spn k→a≠.stk k→L4[ix a]?=(HH s1)[ix a]?:=fun {a} e1 e2 e3 e4=>by
  rw [hL4,set_get l3 hkt,if_neg (fun e=>e1 e.symm),hL3,set_get l2 hqc,if_neg (fun e=>e2 e.symm),hL2,set_get l1 hkp,if_neg (fun e=>e3 e.symm),hL1,set_get (HH_len s1) hks,if_neg (fun e=>e4 e.symm)]
 have g4r:L4[ix .rn]?=some (rnB s1):=by rw [hne4 (by simp) (by simp) (by simp) (by simp),HH_get s1 _ ixl_rn];rfl
 have g4t:L4[ix .tk]?=some ⟨84,1,(List.range k).map ptK⟩:=by rw [hne4 (by simp) (by simp) (by simp) (by simp),HH_get s1 _ ixl_tk];simp only [blk];rw [h1l]
 obtain ⟨sP,hsP⟩:∃sP,sP=s1.addP a:=⟨_,rfl⟩
 have hPk:k=sP.tasks.length:=by rw [hsP];exact h1l.symm
 obtain ⟨s2,hs2⟩:∃s2,s2={ sP with tasks:=sP.tasks++[t] }:=⟨_,rfl⟩
 have hset6:(L4.set (ix .tk) ⟨84,1,(List.range k).map ptK++[ptK k]⟩).set (ix .rn) (rnB s2)=HH s2:=by
  have h1:=HH_tk (s:=sP) (t:=t) hPk hkt hks hkp (by rw [ht];rfl)
  rw [← hs2,List.range_succ,List.map_append] at h1
  rw [← h1]
  have e1:L4=((((HH sP).set (ix (.stk k)) ⟨135,1,t.sarr.map ptC⟩).set (ix (.spn k)) (spnB t.spn)).set (ix (.tsk k)) (tskB k t)):=by
   rw [hL4,hL3,hL2,hL1,hsP,← HH_addP hq hqc]
   rw [List.set_comm (i:=ix (.spn k)) (j:=ix (.clk q)) _ _ (fun e=>by cases ix_inj e),List.set_comm (i:=ix (.stk k)) (j:=ix (.clk q)) _ _ (fun e=>by cases ix_inj e),ht]
   rfl
  rw [e1]
  rfl
 have hL1':=Hid.mk hL1
 have hL2':=Hid.mk hL2
 have hL3':=Hid.mk hL3
 have ht':=Hid.mk ht
 rw [← hL1] at hbs
 have hL4':=Hid.mk hL4
 have hr2:rnB s2=⟨83,13,[.agg [.lst (s1.p.codes.map encC),.lst (s1.p.methods.map encC),.int s1.p.actors,.lst (s1.sched.map .int),.int s1.used,.own (ix .ob) s1.objs.length 0 s1.objs.length,.own (ix .tk) (k+1) 0 (k+1),.own (ix .ln) s1.lines.length 0 s1.lines.length,.own (ix .ac) s1.accs.length 0 s1.accs.length,.own (ix .tn) s1.turns.length 0 s1.turns.length,.own (ix .ck) s1.cks.length 0 s1.cks.length,.own (ix .en) s1.ends.length 0 s1.ends.length,.own (ix .at') s1.acts.length 0 s1.acts.length]]⟩:=by
  rw [hs2,hsP];simp only [rnB,PRun.addP,List.length_append,List.length_singleton,h1l]
 rw [hr2] at hset6
 obtain ⟨s3,hs3⟩:∃s3,s3=startS s c vs a prio par canc:=⟨_,rfl⟩
 have h3e:s3=sP.addT t:=by rw [hs3,hsP,hs1,ht,hj,hqs];rfl
 have h23:s3={ s2 with ends:=s2.ends++[none] }:=by rw [h3e,hs2];rfl
 have hset7:((HH s2).set (ix .en) ⟨25,1,s2.ends.map endV++[AV.base (Value.slice none 0 0)]⟩).set (ix .rn) (rnB s3)=HH s3:=by
  refine HH_upd (s:=s2) (s':=s3) [(.en,_),(.rn,_)] (upd2 ⟨ixl_en,?_⟩ ⟨ixl_rn,rfl⟩) fun a ha=>?_
  ·simp only [blk];rw [h23];simp only [List.map_append];rfl
  ·rw [h23];cases a<;>first|rfl|simp at ha
 have hr3:rnB s3=⟨83,13,[.agg [.lst (s2.p.codes.map encC),.lst (s2.p.methods.map encC),.int s2.p.actors,.lst (s2.sched.map .int),.int s2.used,.own (ix .ob) s2.objs.length 0 s2.objs.length,.own (ix .tk) s2.tasks.length 0 s2.tasks.length,.own (ix .ln) s2.lines.length 0 s2.lines.length,.own (ix .ac) s2.accs.length 0 s2.accs.length,.own (ix .tn) s2.turns.length 0 s2.turns.length,.own (ix .ck) s2.cks.length 0 s2.cks.length,.own (ix .en) (s2.ends.length+1) 0 (s2.ends.length+1),.own (ix .at') s2.acts.length 0 s2.acts.length]]⟩:=by
  rw [h23];simp only [rnB,List.length_append,List.length_singleton]
 rw [hr3] at hset7
 have hk32:k≤31:=by omega
 have h2e:s2.ends.length≤32:=by rw [hs2,hsP,hs1];show s.ends.length≤32;rw [hw.endl];omega
 have h3t:s3.tasks[k]?=some t:=by rw [h3e,hPk];exact addT_at
 have h3l:Hid (s3.tasks.length=k+1):=⟨by rw [h3e,hPk];simp [PRun.addT]⟩
 have h3e':=Hid.mk h3e
 have hs3':=Hid.mk hs3
 have hr3':=Hid.mk hr3
 have hPk':=Hid.mk hPk
 have hr2':=Hid.mk hr2
 have hsP':=Hid.mk hsP
 have hs2':=Hid.mk hs2
 rw [← hL4] at hbx
 clear hL1 hL2 hL3 ht d1 d2 d2x d3 r1 r2 r3 hL4 hne4 hsP hs2 hPk hr2 h3e h23 hs3 hr3
 have hs1':=Hid.mk hs1
 have hj':=Hid.mk hj
 have hk':=Hid.mk hk
 have h':=Hid.mk h
 have hT':=Hid.mk hT
 have hq':=Hid.mk hq
 have hqs':=Hid.mk hqs
 clear hs1 hj hk h hq hqs hT
 refine FnH.intro' [(0,ptR),(1,encC c),(2,.lst (vs.map .int)),(3,.int prio),(4,.int par),(5,.base (.bool canc)),(6,ownC x)] 7 62 NN Tryd.func83 (by kernel_rfl) rfl rfl rfl rfl rfl (HH_len s) ?_
 refine goF ?_
 refine ARun.p1 rfl rfl (pl_callR hw hw1 (T:=[cdB c]) ie rfl (by simp +decide only [go_sem, *]<;>rfl) (by simp +decide only [go_sem, *]<;>rfl) ?_ (.ptr hjc)) ?_
 ·intro a ha
  simp only [List.mem_cons,List.not_mem_nil,or_false] at ha
  rcases ha with rfl|rfl|rfl
  ·exact .pu (Pu_encC _)
  ·exact .pu (Pu_mapInt _)
  ·exact .pu (.base _)
 rw [← hT'.out]
 refine ARun.p1 rfl rfl (hbs _ _ (by simp +decide only [go_sem, *]<;>rfl)) ?_
 refine goF ?_
 refine ARun.p1 rfl rfl (hmm _ _) ?_
 refine goF ?_
 refine ARun.p1 rfl rfl (hcl _ _ _ rfl (by simp +decide only [go_sem, *]<;>rfl) (by simp +decide only [go_sem, *]<;>rfl)) ?_
 refine bldA (cs:=[.own (ix (.stk k)) 1 0 1,.int prio,.base (.bool canc),.int par,nilS,.mapv (ix (.spn k)),.int (-1),.int 0,.int 1,.int (-1),ownC q,nilS]) pl88 zero88 ?_
 refine ARun.p1 rfl rfl (hbx _ _ (by simp +decide only [go_sem, *]<;>rfl)) ?_
 refine goF ?_
 refine ARun.p1 rfl rfl (pl_append (b:=ix .tk) (tot:=k) (es:=[ptK k]) (blk:=⟨84,1,(List.range k).map ptK⟩) (by simp +decide only [go_sem, *]<;>rfl) (by simp +decide only [go_sem, *]<;>rfl) (by simp +decide only [go_sem, *]<;>rfl) (by simp) Tryd.underlying80 el84 rfl rfl (by simp) (fun e he=>by rw [List.mem_singleton] at he;subst he;exact ⟨rfl,rfl⟩) (by simp;omega) (by simp;omega)) ?_
 refine goF ?_
 refine ARun.p1 rfl rfl (pl_append (b:=ix .en) (tot:=s2.ends.length) (es:=[AV.base (Value.slice none 0 0)]) (blk:=⟨25,1,s2.ends.map endV⟩) (by simp +decide only [go_sem, *]<;>rfl) (by simp +decide only [go_sem, *]<;>rfl) (by simp +decide only [go_sem, *]<;>rfl) (by simp) Tryd.underlying81 el25 rfl rfl (by simp) (fun e he=>by rw [List.mem_singleton] at he;subst he;exact ⟨rfl,rfl⟩) (by simp;omega) (by simp;omega)) ?_
 refine goF ?_
 have hwk:IntKind.i64.wrap ((s3.tasks.length:Int)-1)=(k:Int):=by rw [h3l.out,wrap_id (by omega) (by omega)];omega
 have hparP:(par:Int) = -1∨∃p:Nat,par=(p:Int)∧p<s.tasks.length:=hpar
 have htn:Hid (t=newT s.calls.length prio canc par s.pool.length):=⟨by rw [ht'.out,hj'.out,hqs'.out]⟩
 have hPs:Hid (sP=(s.addC (newC c vs (-1))).addP a):=⟨by rw [hsP'.out,hs1'.out]⟩
 have hkP:Hid (k=sP.tasks.length):=hPk'
 have hvl:vs.length≤1000:=by omega
 have hiv:∀t':PTask,t'.sarr=[s.calls.length]→t'.slen=1→t'.kids=[]→t'.clk=s.pool.length→t'.beh=none→t'.state<3→(t'.ending=0∨3≤t'.ending)→t'.waits = -1→t'.par=par→(t'.state=1→0<c.steps.length)→Iv (sP.addT t'):=fun t' b1 b2 b3 b4 b5 b6 b7 b8 b9 b10=>by
  rw [hPs.out]
  exact startIv (prio:=prio) (par:=par) (canc:=canc) h'.out h0 hC (by omega) hal hv1 hvl hcs b1 b2 b3 b4 b5 b6 b7 b8 (by rw [b9];exact hpar) b10
 have hiv':=Hid.mk hiv
 clear hiv hset6 hset7 hparP
 rw [hT'.out]
 refine goF ?_
 by_cases hc0:c.steps.length=0
 ·have hd:decide ((c.steps.length:Int)=0)=true:=by simp [hc0]
  have hI4:Iv (sP.addT (clo t 3)):=hiv'.out _ (by rw [htn.out];rfl) (by rw [htn.out];rfl) (by rw [htn.out];rfl) (by rw [htn.out];rfl) (by rw [htn.out];rfl) (by show (2:Int)<3;omega) (.inr (by show (3:Int)≤3;omega)) (by rw [htn.out];rfl) (by rw [htn.out];rfl) (fun e=>by have:(2:Int)=1:=e;omega)
  have h4e:s3.tset k (clo t 3)=sP.addT (clo t 3):=by rw [h3e'.out,hkP.out,addT_tset]
  have hl4:(sP.addT (clo t 3)).tasks.length=k+1:=by simp [PRun.addT];exact hkP.out.symm
  have hp4:(sP.addT (clo t 3)).pool.length=s.pool.length+1:=by rw [hPs.out];simp [PRun.addT,PRun.addP,PRun.addC]
  have hb4:(sP.addT (clo t 3)).behs.length=s.behs.length:=by rw [hPs.out];rfl
  obtain ⟨f,hf⟩:∃f,f=k+1:=⟨_,rfl⟩
  have hf32:f≤32:=by omega
  have hfp:s.pool.length+1+1001*f≤MM:=by omega
  have hfb:s.behs.length+f≤MM:=by omega
  have hkf:k<f:=by omega
  have hS:=settleF_walk f (sP.addT (clo t 3)) k hI4 (by rw [hl4];exact Nat.lt_succ_self k) hkf (by rw [hp4];exact hfp) (by rw [hb4];exact hfb)
  have hF:=settleF_iv f (sP.addT (clo t 3)) k hI4 (by rw [hp4];exact hfp) (by rw [hb4];exact hfb)
  have hE:startF s c vs a prio par canc=settleF f (sP.addT (clo t 3)) k:=by
   unfold startF;rw [if_pos hc0,← hs3'.out,← hk'.out,← htn.out,h4e,hf]
  have hw3:WF s3:=by
   rw [h3e'.out,show sP.addT t=(sP.addT (clo t 3)).tset k t by rw [hkP.out,addT_tset]]
   exact hI4.wf.tset' (t:=clo t 3) (by rw [hkP.out];exact addT_at) rfl (Nat.le_refl _) rfl rfl rfl
  have icl:=close_ok hw3 (st:=3) h3t hF.1.wf (by rw [h4e];exact hS)
  have hE':=Hid.mk hE
  have hwF:=hF.1.wf
  clear hS hF hE hI4 h4e hl4 hp4 hb4 hf hfp hfb hkf
  refine ift_ ?_ rfl (by simp +decide only [go_sem, *]<;>rfl)
  refine goF ?_
  refine ARun.p1 rfl rfl (pl_callR hw3 hwF (T:=[cdB c]) icl rfl (by simp +decide only [go_sem, *]<;>rfl) (by simp +decide only [go_sem, *]<;>rfl) ?_ (.pu (Pu.tup (by simp)))) ?_
  ·intro a ha
   simp only [List.mem_cons,List.not_mem_nil,or_false] at ha
   rcases ha with rfl|rfl|rfl
   ·exact .ptr ixl_rn
   ·exact .pu (.base _)
   ·exact .pu (.base _)
  refine goF ?_
  rw [hE'.out,← hk'.out]
  exact RetH.runV [cdB c] hwF (vs:=[.int k]) (by show resVals _ _ [.tmp 14]=_;simp +decide only [resVals,resVal,ldPtr,ldE,go_sem, *]<;>rfl) (by simp) rfl (.pu (.base _))
 ·have hd:decide ((c.steps.length:Int)=0)=false:=decide_eq_false (by omega)
  have hI3:Iv (sP.addT t):=hiv'.out _ (by rw [htn.out];rfl) (by rw [htn.out];rfl) (by rw [htn.out];rfl) (by rw [htn.out];rfl) (by rw [htn.out];rfl) (by rw [htn.out];show (1:Int)<3;omega) (.inl (by rw [htn.out];rfl)) (by rw [htn.out];rfl) (by rw [htn.out];rfl) (fun e=>by omega)
  have hE:startF s c vs a prio par canc=s3:=by
   unfold startF;rw [if_neg hc0,hs3'.out]
  have hw3:WF s3:=by rw [h3e'.out];exact hI3.wf
  clear hI3
  refine iff_ ?_ rfl (by simp +decide only [go_sem, *]<;>rfl)
  refine goF ?_
  rw [hE,← hk'.out]
  exact RetH.runV [cdB c] hw3 (vs:=[.int k]) (by show resVals _ _ [.tmp 14]=_;simp +decide only [resVals,resVal,ldPtr,ldE,go_sem, *]<;>rfl) (by simp) rfl (.pu (.base _))
end Go.Ab
set_option maxHeartbeats 4000000
namespace Go.Ab
open Go Go.Ab Go.Proofs Go.Ab.Ty
theorem canL_of' {s:PRun} {l:List Nat} {k:Nat} {t':PTask} (ht:(canL s l).tasks[k]?=some t'):∃t b,s.tasks[k]?=some t∧t'={ t with canc:=b }:=by
 obtain ⟨t,h1,rfl⟩:=canL_of ht
 split
 ·exact ⟨t,true,h1,rfl⟩
 ·exact ⟨t,t.canc,h1,rfl⟩
theorem Iv.can {s:PRun} (h:Iv s) (l:List Nat):Iv (canL s l):=by
 have key:∀ {p:Nat→PTask→Prop},(∀k t b,p k t→p k { t with canc:=b })→(∀k t,s.tasks[k]?=some t→p k t)→∀k t,(canL s l).tasks[k]?=some t→p k t:=fun {p} g1 g2 k t ht=>by
  obtain ⟨t0,b,h1,rfl⟩:=canL_of' ht
  exact g1 k t0 b (g2 k t0 h1)
 refine ⟨h.wf.can l,h.kd.can l,key (fun k t b g=>g) h.par,key (fun k t b g=>g) h.stk,key (p:=fun k t=>3≤t.state→∃j,s.ends[k]?=some (some j)) (fun k t b g=>g) h.en,key (p:=fun k t=>0≤t.waits→t.beh=none) (fun k t b g=>g) h.wt,key (p:=fun k t=>t.ending=0∨3≤t.ending) (fun k t b g=>g) h.ed,?_,h.pcB,fun k t j c=>key (p:=fun k t=>(t.state=1∨0≤t.waits)→t.sarr[t.slen-1]?=some j→s.calls[j]?=some c→c.pc<c.code.steps.length) (fun k t b g=>g) (fun k t ht=>h.pcI k t j c ht) k t⟩
 intro k t k' t' i i' j ht ht' hi hi' hj hj'
 obtain ⟨u,b,h1,rfl⟩:=canL_of' ht
 obtain ⟨u',b',h1',rfl⟩:=canL_of' ht'
 exact h.dis k u k' u' i i' j h1 h1' hi hi' hj hj'
def canK (s:PRun) (ks:List Int):PRun:=canL s (ks.flatMap fun k=>dsc s (s.tasks.length) k.toNat)
def stopF (s:PRun) (n:Nat):PRun:=match s.tasks[n]? with
 | some t=>settleF (n+1) ((canK s t.kids).tset n (clo t 4)) n
 | none=>s
theorem dsc_ge {s:PRun} (hk:Kok s):∀(f j x:Nat),x∈dsc s f j→j≤x:=by
 intro f
 induction f with
 | zero=>intro j x h;simp [dsc] at h
 | succ f ih =>
   intro j x h
   simp only [dsc,List.mem_cons,List.mem_flatMap] at h
   rcases h with rfl|⟨k,h1,h2⟩
   ·exact Nat.le_refl _
   ·unfold kidsF at h1
    split at h1
    ·rename_i t ht
     obtain ⟨i,rfl,h3,h4⟩:=hk.kd j t ht k h1
     have:=ih _ x h2
     rw [Int.toNat_natCast] at this
     omega
    ·cases h1
theorem stop_ok {s:PRun} (h:Iv s) {n:Nat} {t:PTask} (ht:s.tasks[n]?=some t) (hst:t.state<3) (hwt:t.waits<0) (hb1:s.pool.length+40000≤MM) (hb2:s.behs.length+40≤MM) :
 FnH Tryd.prog 90 [ptR,.int n] (HH s) (.tup []) (HH (stopF s n))∧Iv (stopF s n)∧Sb s (stopF s n) (n+1):=by
 have hw:=h.wf
 obtain ⟨g1,g2,g3,g4,hn,g6⟩:=hw.k ht
 have hkd:=h.kd.kd n t ht
 have hkl:=(hw.tsz t (List.mem_of_getElem? ht)).2
 have hn32:=hw.nT
 obtain ⟨f,hf⟩:∃f,f=n+1:=⟨_,rfl⟩
 have hf32:f≤32:=by omega
 have hfp:s.pool.length+1001*f≤MM:=by omega
 have hfb:s.behs.length+f≤MM:=by omega
 have hnl:n∉t.kids.flatMap fun k=>dsc s (s.tasks.length) k.toNat:=by
  intro hm
  obtain ⟨k,h1,h2⟩:=List.mem_flatMap.1 hm
  obtain ⟨j,rfl,h3,h4⟩:=hkd k h1
  have:=dsc_ge h.kd _ _ _ h2
  rw [Int.toNat_natCast] at this
  omega
 have htk:(canK s t.kids).tasks[n]?=some t:=by unfold canK;rw [canL_at ht,if_neg hnl]
 have hIk:Iv (canK s t.kids):=h.can _
 obtain ⟨a1,a2,a3,a4⟩:=hIk.wf.tsk t (List.mem_of_getElem? htk)
 have hI2:Iv ((canK s t.kids).tset n (clo t 4)):=hIk.tset htk rfl (Nat.le_refl _) (hIk.stk n t htk) rfl rfl a3 a4 (fun e=>absurd e (by show ¬(3:Int)≤2;omega)) (fun e=>absurd e (by show ¬ 0≤t.waits;omega)) (.inr (by show (3:Int)≤4;omega)) (fun e=>by
  rcases e with e|e
  ·have:(2:Int)=1:=e
   omega
  ·have:0≤t.waits:=e
   omega)
 have hl2:((canK s t.kids).tset n (clo t 4)).tasks.length=s.tasks.length:=by rw [tset_len];exact canL_len
 have hS:=settleF_walk f _ n hI2 (by rw [hl2];exact hn) (by omega) hfp hfb
 have hF:=settleF_iv f _ n hI2 hfp hfb
 have hE:stopF s n=settleF f ((canK s t.kids).tset n (clo t 4)) n:=by unfold stopF;rw [ht,hf]
 have icl:=close_ok hIk.wf (st:=4) htk hF.1.wf hS
 rw [hE,← hf]
 refine ⟨?_,hF.1,⟨by rw [hF.2.tl,hl2],hF.2.cl,hF.2.pl,hF.2.bl⟩⟩
 have hwF:=hF.1.wf
 obtain ⟨R,hR⟩:∃R,R=settleF f ((canK s t.kids).tset n (clo t 4)) n:=⟨_,rfl⟩
 rw [← hR] at hwF icl ⊢
 have hlk:=lenFk (H:=HH s) (k:=n) (l:=t.kids) (by simp +decide only [go_sem, *])
 simp +decide only [go_sem] at hlk
 have h':=Hid.mk h
 have ht':=Hid.mk ht
 obtain ⟨Z,hZ⟩:∃Z,Z=canK s t.kids:=⟨_,rfl⟩
 rw [← hZ] at icl htk
 have hZ':=Hid.mk hZ
 clear hS hF hE hI2 hl2 hIk hR h hf hnl hZ
 refine FnH.intro' [(0,ptR),(1,.int n)] 2 28 NN Tryd.func90 (by kernel_rfl) rfl rfl rfl rfl rfl (HH_len s) ?_
 refine goF ?_
 refine ARun.q1 rfl rfl (ql_ixo (n:=n) (b:=ix .tk) (by simp +decide only [go_sem, *]<;>rfl) (by simp +decide only [go_sem, *]<;>rfl) Tryd.underlying80 (by simp +decide only [go_sem, *]<;>rfl) (by simp) hn (by simp +decide only [go_sem, *]<;>rfl)) ?_
 refine goF ?_
 refine AWp.loop (J:=fun i:Nat=>i≤t.kids.length) (fun i=>⟨[(0,ptR),(1,.int n),(15,kidV n t.kids),(16,.int t.kids.length),(17,.int i)],HH (canK s (t.kids.take i))⟩) (fun i=>t.kids.length-i) 0 (Nat.zero_le _) (.wf (hH:=by show HH s=HH (canL s []);rw [canL_nil])) ?_
 intro i hi
 obtain ⟨s2,hs2⟩:∃s2,s2=canK s (t.kids.take i):=⟨_,rfl⟩
 have hI2:Iv s2:=by rw [hs2];exact h'.out.can _
 have hw2:=hI2.wf
 obtain ⟨t2,b2,ht2,hk2⟩:∃t2 b,s2.tasks[n]?=some t2∧t2={ t with canc:=b }:=by
  obtain ⟨x,hx⟩:∃x,s2.tasks[n]?=some x:=⟨_,List.getElem?_eq_getElem (by rw [hs2];unfold canK;rw [canL_len];exact hn)⟩
  have hx2:=hx
  rw [hs2] at hx2
  obtain ⟨y,b,e1,e2⟩:=canL_of' hx2
  rw [ht'.out] at e1;injection e1 with e1;subst e1
  exact ⟨x,b,hx,e2⟩
 subst hk2
 obtain ⟨f1,f2,f3,f4,_,f6⟩:=hw2.k ht2
 have hs2':Hid (s2=canK s (t.kids.take i)):=⟨hs2⟩
 have hI2':=Hid.mk hI2
 rw [← hs2]
 clear hs2 hI2 ht g6 hlk
 refine goF ?_
 refine ifA (fun hd=>?_) (fun hd=>?_)
 ·simp at hd
  obtain ⟨k,hkk⟩:∃k,t.kids[i]?=some k:=⟨_,List.getElem?_eq_getElem hd⟩
  obtain ⟨j,rfl,hj1,hj2⟩:=hkd k (List.mem_of_getElem? hkk)
  have hkm:(t.kids.map AV.int)[i]?=some (.int j):=by rw [List.getElem?_map,hkk];rfl
  have hl2:s2.tasks.length=s.tasks.length:=by rw [hs2'.out];exact canL_len
  have ic:=cancel_ok s.tasks.length (s:=s2) j hw2 hI2'.out.kd (by omega) (by rw [hl2];exact hj2)
  have hR:Hid (canL s2 (dsc s2 s.tasks.length j)=canK s (t.kids.take (i+1))):=⟨by
   rw [hs2'.out];unfold canK;rw [dsc_can,canL_app,List.take_add_one,hkk,List.flatMap_append]
   simp⟩
  have hkv:=kidV_own (k:=n) hkk
  clear hkk hl2
  refine goF ?_
  refine ARun.q1 rfl rfl (ql_ixo (n:=i) (b:=ix (.kid n)) (by simp +decide only [go_sem, *]<;>rfl) (by simp +decide only [go_sem, *]<;>rfl) Tryd.underlying25 (by simp +decide only [go_sem, *]<;>rfl) (by simp) hd (by simp +decide only [go_sem, *]<;>rfl)) ?_
  refine goF ?_
  refine ARun.p1 rfl rfl (pl_callW ic (by simp [HH_len]) rfl (by simp +decide only [go_sem, *]<;>rfl) (by simp +decide only [go_sem, *]<;>rfl)) ?_
  refine goF ?_
  rw [wrap_succ (by omega)]
  refine ⟨i+1,hd,by omega,?_⟩
  rw [hR.out,hkv]
  exact .wf
 simp at hd
 obtain rfl:i=t.kids.length:=by omega
 have hsZ:s2=Z:=by rw [hs2'.out,hZ'.out,List.take_length]
 rw [hsZ]
 clear ht2 f1 f2 f3 f4
 refine goF ?_
 refine ARun.p1 rfl rfl (pl_callW icl (by simp [HH_len]) rfl (by simp +decide only [go_sem, *]<;>rfl) (by simp +decide only [go_sem, *]<;>rfl)) ?_
 refine goF ?_
 exact .runV [] hwF (vs:=[]) (by show resVals _ _ []=_;simp +decide only [resVals,resVal,ldPtr,ldE,go_sem, *]<;>rfl) (by simp) rfl (.pu (Pu.tup (by simp)))
end Go.Ab
set_option maxHeartbeats 4000000
namespace Go.Ab
open Go Go.Ab Go.Proofs Go.Ab.Ty
def PRun.addA (s:PRun) (x:Acc):PRun:={ s with accs:=s.accs++[x] }
theorem HH_addA {s:PRun} {x:Acc}:((HH s).set (ix .ac) ⟨73,4,s.accs.map encA++[encA x]⟩).set (ix .rn) (rnB (s.addA x))=HH (s.addA x):=by
 refine HH_upd (s:=s) (s':=s.addA x) [(.ac,_),(.rn,_)] (upd2 ⟨ixl_ac,?_⟩ ⟨ixl_rn,rfl⟩) fun a ha=>?_
 ·simp [blk,PRun.addA]
 ·cases a<;>first|rfl|simp at ha
theorem Iv.addA {s:PRun} (h:Iv s) (x:Acc) (hb:s.accs.length<1000000):Iv (s.addA x):=
 ⟨⟨h.wf.1,h.wf.2,h.wf.3,h.wf.4,h.wf.5,h.wf.6,h.wf.7,h.wf.8,h.wf.9,h.wf.10,h.wf.11,by
   obtain ⟨a1,a2,a3,a4⟩:=h.wf.12
   exact ⟨a1,a2,by simp [PRun.addA];omega,a4⟩,h.wf.13,h.wf.14⟩,⟨h.kd.kd⟩,h.par,h.stk,h.en,h.wt,h.ed,h.dis,h.pcB,h.pcI⟩
abbrev rpB:ABlk:=⟨76,1,[ptR]⟩
abbrev stT (st:Stp) (time who:Int):List ABlk:=[rpB,stB st,intB [time],intB [who]]
theorem step1_ok {s:PRun} {st:Stp} {time who o:Int} {w:Bool} (hb:s.accs.length≤900000):FnH Tryd.prog 113 [.int o,.base (.bool w),.ptr NN 1 0 0,.ptr (NN+3) 1 0 0,.ptr (NN+2) 1 0 0] (HH s++stT st time who) (.tup []) (HH (s.addA ⟨who,o,w,time⟩)++stT st time who):=by
 refine FnH.intro' [(0,.int o),(1,.base (.bool w)),(2,.ptr NN 1 0 0),(3,.ptr (NN+3) 1 0 0),(4,.ptr (NN+2) 1 0 0)] 5 21 (NN+4) Tryd.func113 (by kernel_rfl) rfl rfl rfl rfl rfl (by simp [HH_len]) ?_
 refine goF ?_
 have hset:=HH_addA (s:=s) (x:=⟨who,o,w,time⟩)
 refine drS (k:=12) [none,none,none,none,none,none,none,none,none,none,none,some 0] (fun k=>match k with
  | 0=>HH s++stT st time who
  | _=>(HH s).set (ix .ac) ⟨73,4,s.accs.map encA++[encA ⟨who,o,w,time⟩]⟩++stT st time who) 1 follows ?_
 refine gS ?_
 refine gS ?_
 refine gS ?_
 refine gS ?_
 refine gS ?_
 refine gS ?_
 refine gS ?_
 refine gS ?_
 refine gS ?_
 refine GRun.q1 (v:=.agg [.int who,.int o,.base (.bool w),.int time]) rfl rfl (fun c _=>ql_build pl73 zero73 (by (simp +decide only [List.map,go_sem]<;>rfl))) ?_
 refine GRun.q1 (v:=.lst [.agg [.int who,.int o,.base (.bool w),.int time]]) rfl rfl (fun c _=>ql_bsl Tryd.underlying30 sz73 (by decide) (by kernel_rfl) (by decide) (by (simp +decide only [List.map,go_sem]<;>rfl)) (by (simp +decide only [List.map,go_sem]<;>rfl)) rfl) ?_
 refine GRun.p1 (v:=.own (ix .ac) (s.accs.length+1) 0 (s.accs.length+1)) rfl rfl (fun ρ' h=>?_) ?_
 ·have h1:=pl_append (P:=Tryd.prog) (ρ:=ρ') (H:=HH s++stT st time who) (b:=ix .ac) (tot:=s.accs.length) (es:=[.agg [.int who,.int o,.base (.bool w),.int time]]) (blk:=⟨73,4,s.accs.map encA⟩) ((h (.tmp 11) (by simp [Op.operands,Call.operands])).trans (by simp +decide only [go_sem, *]<;>rfl)) ((h (.tmp 17) (by simp [Op.operands,Call.operands])).trans (by simp +decide only [go_sem, *]<;>rfl)) (by simp +decide only [go_sem, *]<;>rfl) (by simp) Tryd.underlying30 el73 rfl rfl (by simp) (fun e he=>by rw [List.mem_singleton] at he;subst he;exact ⟨rfl,rfl⟩) (by simp;omega) (by simp;omega)
  rw [app_set (HH_len s) ixl_ac] at h1
  exact h1
 refine GRun.nil ?_
 have hr:rnB (s.addA ⟨who,o,w,time⟩)=⟨83,13,[.agg [.lst (s.p.codes.map encC),.lst (s.p.methods.map encC),.int s.p.actors,.lst (s.sched.map .int),.int s.used,.own (ix .ob) s.objs.length 0 s.objs.length,.own (ix .tk) s.tasks.length 0 s.tasks.length,.own (ix .ln) s.lines.length 0 s.lines.length,.own (ix .ac) (s.accs.length+1) 0 (s.accs.length+1),.own (ix .tn) s.turns.length 0 s.turns.length,.own (ix .ck) s.cks.length 0 s.cks.length,.own (ix .en) s.ends.length 0 s.ends.length,.own (ix .at') s.acts.length 0 s.acts.length]]⟩:=by
  simp only [rnB,PRun.addA,List.length_append,List.length_singleton]
 rw [hr] at hset
 have hset':=Hid.mk hset
 clear hset
 refine goF ?_
 refine RetH.same (vs:=[]) (by show resVals _ _ []=_;simp +decide only [resVals,resVal,ldPtr,ldE,go_sem, *]<;>rfl) rfl ?_
 show ((HH s).set (ix .ac) _++_).set (ix .rn) _=_
 rw [app_set (by rw [set_len,HH_len]) ixl_rn]
 exact congrArg (·++_) hset'.out
end Go.Ab
