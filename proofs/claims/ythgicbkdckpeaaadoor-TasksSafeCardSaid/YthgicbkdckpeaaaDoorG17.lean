/- Part of the proof. -/
import Derived.Test.YthgicbkdckpeaaaDoorG16
set_option linter.unusedSimpArgs false
set_option linter.unusedVariables false
set_option maxHeartbeats 4000000
namespace Go.Ab
open Go Go.Ab Go.Proofs Go.Ab.Ty
def passE (ts:List PTask):Nat→List Int→List Int × Bool
 | 0,L=>(L,false)
 | k+1,L=>match ts[k]? with
   | some t=>if 0≤t.waits∧(passE ts k L).1.getD t.waits.toNat 0<(passE ts k L).1.getD k 0 then ((passE ts k L).1.set t.waits.toNat ((passE ts k L).1.getD k 0),true) else passE ts k L
   | none=>passE ts k L
def effI (ts:List PTask):Nat→List Int→List Int
 | 0,L=>L
 | f+1,L=>if (passE ts ts.length L).2 then effI ts f (passE ts ts.length L).1 else (passE ts ts.length L).1
def effF (s:PRun):List Int:=effI s.tasks 200 (s.tasks.map (·.prio))
def muE (L:List Int):Nat:=(L.map fun x=>(3-x).toNat).sum
def b3 (L:List Int):Prop:=∀x∈L,x≤3
theorem muE_set:∀(L:List Int) (w:Nat) (x:Int),w<L.length→L.getD w 0<x→x≤3→muE (L.set w x)<muE L
 | [],w,x,h,_,_=>by simp at h
 | a::L,0,x,_,h,h3=>by
   simp only [List.getD_cons_zero] at h
   simp only [muE,List.set_cons_zero,List.map_cons,List.sum_cons]
   omega
 | a::L,w+1,x,hw,h,h3=>by
   have:=muE_set L w x (by simpa using hw) (by simpa using h) h3
   simp only [muE,List.set_cons_succ,List.map_cons,List.sum_cons] at this ⊢
   omega
theorem passE_ok {ts:List PTask} {L:List Int} (hl:L.length=ts.length) (h3:b3 L) (hwt:∀t∈ts,t.waits<ts.length):∀k,k≤ts.length→(passE ts k L).1.length=ts.length∧b3 (passE ts k L).1∧muE (passE ts k L).1≤muE L∧((passE ts k L).2=true→muE (passE ts k L).1<muE L)
 | 0,_=>⟨hl,h3,Nat.le_refl _,fun h=>by cases h⟩
 | k+1,hk=>by
   obtain ⟨a1,a2,a3,a4⟩:=passE_ok hl h3 hwt k (by omega)
   have ht:ts[k]?=some ts[k]:=List.getElem?_eq_getElem hk
   simp only [passE,ht]
   split
   ·rename_i hc
    have hw1:=hwt ts[k] (List.getElem_mem _)
    have hk3:(passE ts k L).1.getD k 0≤3:=by
     rw [List.getD_eq_getElem?_getD,List.getElem?_eq_getElem (by omega)]
     exact a2 _ (List.getElem_mem _)
    have hm:=muE_set (passE ts k L).1 ts[k].waits.toNat _ (by omega) hc.2 hk3
    refine ⟨by rw [List.length_set];exact a1,fun x hx=>?_,Nat.le_of_lt (Nat.lt_of_lt_of_le hm a3),fun _=>Nat.lt_of_lt_of_le hm a3⟩
    rcases List.mem_or_eq_of_mem_set hx with h|h
    ·exact a2 x h
    ·rw [h];exact hk3
   ·exact ⟨a1,a2,a3,a4⟩
structure Prok (s:PRun):Prop where
 pr:∀t∈s.tasks,0≤t.prio∧t.prio≤3
 wt:∀t∈s.tasks,t.waits<s.tasks.length
theorem muE_le {L:List Int} (h:∀x∈L,0≤x):muE L≤3*L.length:=by
 induction L with
 | nil=>simp [muE]
 | cons a L ih =>
   have h1:=ih fun x hx=>h x (by simp [hx])
   have h2:=h a (by simp)
   simp only [muE,List.map_cons,List.sum_cons,List.length_cons] at h1 ⊢
   omega
def prI (l:List Int) (i:Nat):List Int:=l.take i++List.replicate (l.length-i) 0
theorem prI_len {l:List Int} {i:Nat} (h:i≤l.length):(prI l i).length=l.length:=by unfold prI;simp;omega
theorem prI_zero (l:List Int):(prI l 0).map AV.int=List.replicate l.length (AV.int 0):=by unfold prI;simp
theorem prI_succ {l:List Int} {i:Nat} (h:i<l.length):(prI l i).set i l[i]=prI l (i+1):=by
 unfold prI
 rw [List.set_append_right _ _ (by simp;omega),List.length_take,show i-min i l.length=0 by omega,show l.length-i=(l.length-(i+1))+1 by omega,List.replicate_succ,List.set_cons_zero,List.take_succ_eq_append_getElem h,List.append_assoc];rfl
theorem prI_all (l:List Int):prI l l.length=l:=by unfold prI;simp
theorem effective_ok {s:PRun} (hw:WF s) (hp:Prok s):FnH Tryd.prog 109 [ptR] (HH s) (.own NN s.tasks.length 0 s.tasks.length) (HH s++[intB (effF s)]):=by
 obtain ⟨R,hR⟩:∃R,R=effF s:=⟨_,rfl⟩
 rw [← hR]
 have hn32:=hw.nT
 have hlen:(HH s).length=NN:=HH_len s
 refine FnH.intro' [(0,ptR)] 1 75 NN Tryd.func109 (by kernel_rfl) rfl rfl rfl rfl rfl (HH_len s) ?_
 refine goF ?_
 refine ARun.p1 rfl rfl (pl_make (z:=.int 0) (by simp +decide only [go_sem, *]<;>rfl) (by simp +decide only [go_sem, *]<;>rfl) Tryd.underlying25 el3 zero3 rfl (by omega) (Int.le_refl _) (by omega) (by omega)) ?_
 refine goF ?_
 obtain ⟨P,hP⟩:∃P,P=s.tasks.map (·.prio):=⟨_,rfl⟩
 have hPl:P.length=s.tasks.length:=by rw [hP,List.length_map]
 have hpg:Hid (∀(i:Nat) (t:PTask),s.tasks[i]?=some t→P[i]?=some t.prio):=⟨fun i (t:PTask) h=>by rw [hP,List.getElem?_map,h];rfl⟩
 replace hR:Hid (R=effI s.tasks 200 P):=⟨by rw [hR,hP];rfl⟩
 have hPm:Hid (b3 P∧muE P≤96):=⟨by
  rw [hP]
  refine ⟨fun x hx=>?_,?_⟩
  ·obtain ⟨t,h,rfl⟩:=List.mem_map.1 hx;exact (hp.pr t h).2
  ·have:=muE_le (L:=s.tasks.map (·.prio)) fun x hx=>by obtain ⟨t,h,rfl⟩:=List.mem_map.1 hx;exact (hp.pr t h).1
   rw [List.length_map] at this;omega⟩
 clear hP
 rw [← hPl,← prI_zero P,hPl]
 refine AWp.loop (J:=fun i:Nat=>i≤s.tasks.length) (fun i=>⟨[(0,ptR),(3,.own NN s.tasks.length 0 s.tasks.length),(18,.own (ix .tk) s.tasks.length 0 s.tasks.length),(19,.int s.tasks.length),(20,.int i)],HH s++[intB (prI P i)]⟩) (fun i=>s.tasks.length-i) 0 (Nat.zero_le _) .wf ?_
 ·rintro i hi
  have hpl:=prI_len (l:=P) (i:=i) (by omega)
  rw [hPl] at hpl
  refine goF ?_
  refine ifA (fun hd=>?_) (fun hd=>?_)
  ·simp at hd
   obtain ⟨ti,hti⟩:∃ti,s.tasks[i]?=some ti:=⟨_,List.getElem?_eq_getElem hd⟩
   obtain ⟨g1,g2,g3,g4,_,g6⟩:=hw.k hti
   have hps:=prI_succ (l:=P) (i:=i) (by omega)
   have hpi:P[i]'(by omega)=ti.prio:=by
    have h1:=hpg.out i ti hti
    rw [List.getElem?_eq_getElem (by omega)] at h1;injection h1
   rw [hpi] at hps
   clear hpi
   refine goF ?_
   refine ARun.q1 rfl rfl (ql_ixo (n:=i) (b:=ix .tk) (by simp +decide only [go_sem, *]<;>rfl) (by simp +decide only [go_sem, *]<;>rfl) Tryd.underlying80 (by simp +decide only [go_sem, *]<;>rfl) (by simp) hd (by simp +decide only [go_sem, *]<;>rfl)) ?_
   refine goF ?_
   refine ARun.q1 rfl rfl (ql_ixo (n:=i) (b:=NN) (by simp +decide only [go_sem, *]<;>rfl) (by simp +decide only [go_sem, *]<;>rfl) Tryd.underlying25 (by simp +decide only [go_sem, *]<;>rfl) (by simp [hpl]) hd (by simp +decide only [go_sem, *]<;>rfl)) ?_
   refine goF ?_
   refine ARun.p1 rfl rfl (pl_store_own (f:=AV.int) (l:=prI P i) (b:=NN) (tot:=s.tasks.length) (i:=i) (ty:=3) (sz:=1) ti.prio (by simp +decide only [go_sem, *]<;>rfl) (by simp +decide only [go_sem, *]<;>rfl) (by simp +decide only [go_sem, *]<;>rfl) hpl (by omega) sz3 rfl rfl) ?_
   refine goF ?_
   rw [wrap_succ (by omega)]
   refine ⟨i+1,hd,by omega,?_⟩
   rw [← hps]
   exact .wf
  simp at hd
  obtain rfl:i=s.tasks.length:=by omega
  rw [show prI P s.tasks.length=P by rw [← hPl];exact prI_all P]
  refine goF ?_
  refine AWp.loop (J:=fun x:Nat × List Int × Bool=>x.1+muE x.2.1≤96∧x.2.1.length=s.tasks.length∧b3 x.2.1∧(if x.2.2 then effI s.tasks (200-x.1) x.2.1=R else x.2.1=R)) (fun x=>⟨[(0,ptR),(3,.own NN s.tasks.length 0 s.tasks.length),(6,.bool x.2.2)],HH s++[intB x.2.1]⟩) (fun x=>2*muE x.2.1+(if x.2.2 then 1 else 0)) (0,P,true) ⟨by have:=hPm.out.2;simp only;omega,hPl,hPm.out.1,by simp;exact hR.out.symm⟩ .wf ?_
  rintro ⟨m,L,b⟩ ⟨j1,j2,j3,j4⟩
  simp only at j1 j2 j3 j4
  clear hPm hpg hR hPl
  refine goF ?_
  cases b with
  | false =>
    simp at j4
    subst j4
    refine iff_ ?_ rfl rfl
    refine goF ?_
    exact RetH.same (vs:=[.own NN s.tasks.length 0 s.tasks.length]) (by show resVals _ _ [.tmp 2]=_;simp +decide only [resVals,resVal,ldPtr,ldE,go_sem, *]<;>rfl) rfl rfl
  | true =>
    simp at j4
    refine ift_ ?_ rfl rfl
    refine goF ?_
    refine AWp.loop (J:=fun i:Nat=>i≤s.tasks.length) (fun i=>⟨[(0,ptR),(3,.own NN s.tasks.length 0 s.tasks.length),(6,.bool (passE s.tasks i L).2),(37,.own (ix .tk) s.tasks.length 0 s.tasks.length),(38,.int s.tasks.length),(39,.int i)],HH s++[intB (passE s.tasks i L).1]⟩) (fun i=>s.tasks.length-i) 0 (Nat.zero_le _) .wf ?_
    rintro i hi
    obtain ⟨a1,a2,a3,a4⟩:=passE_ok j2 j3 hp.wt i hi
    refine goF ?_
    refine ifA (fun hd=>?_) (fun hd=>?_)
    ·simp at hd
     obtain ⟨ti,hti⟩:∃ti,s.tasks[i]?=some ti:=⟨_,List.getElem?_eq_getElem hd⟩
     obtain ⟨g1,g2,g3,g4,_,g6⟩:=hw.k hti
     have hwt:=hp.wt ti (List.mem_of_getElem? hti)
     have hps:passE s.tasks (i+1) L=if 0≤ti.waits∧(passE s.tasks i L).1.getD ti.waits.toNat 0<(passE s.tasks i L).1.getD i 0 then ((passE s.tasks i L).1.set ti.waits.toNat ((passE s.tasks i L).1.getD i 0),true) else passE s.tasks i L:=by simp only [passE,hti]
     clear j4
     obtain ⟨⟨A,b⟩,hA⟩:∃A,A=passE s.tasks i L:=⟨_,rfl⟩
     rw [← hA] at hps a1 ⊢
     simp only at hps a1 ⊢
     clear hA a2 a3 a4
     obtain ⟨x,hx⟩:∃x,A[i]?=some x:=⟨_,List.getElem?_eq_getElem (by omega)⟩
     have hxg:A.getD i 0=x:=by rw [List.getD_eq_getElem?_getD,hx];rfl
     have hxm:(A.map AV.int)[i]?=some (.int x):=by rw [List.getElem?_map,hx];rfl
     rw [hxg] at hps
     by_cases hwa:0≤ti.waits
     ·obtain ⟨v,hv⟩:∃v:Nat,ti.waits=v:=⟨_,(Int.toNat_of_nonneg hwa).symm⟩
      rw [hv,Int.toNat_natCast] at hps
      rw [hv] at hwt
      obtain ⟨y,hy⟩:∃y,A[v]?=some y:=⟨_,List.getElem?_eq_getElem (by omega)⟩
      have hyg:A.getD v 0=y:=by rw [List.getD_eq_getElem?_getD,hy];rfl
      have hym:(A.map AV.int)[v]?=some (.int y):=by rw [List.getElem?_map,hy];rfl
      rw [hyg] at hps
      have hge:decide ((v:Int)≥0)=true:=by simp
      have hvl:v<s.tasks.length:=by omega
      clear hxg hyg hwa hwt
      refine goF ?_
      refine ARun.q1 rfl rfl (ql_ixo (n:=i) (b:=ix .tk) (by simp +decide only [go_sem, *]<;>rfl) (by simp +decide only [go_sem, *]<;>rfl) Tryd.underlying80 (by simp +decide only [go_sem, *]<;>rfl) (by simp) hd (by simp +decide only [go_sem, *]<;>rfl)) ?_
      refine goF ?_
      refine drA (k:=17) follows (hr:=?_)
      refine goF ?_
      refine gqA (h:=fun hg=>ql_ixo (n:=v) (b:=NN) (by simp +decide only [go_sem, *]<;>rfl) (by simp +decide only [go_sem, *]<;>rfl) Tryd.underlying25 (by simp +decide only [go_sem, *]<;>rfl) (by simp [a1]) hvl (by simp +decide only [go_sem, *]<;>rfl)) (hr:=?_)
      refine goF ?_
      refine gqA (h:=fun hg=>ql_ixo (n:=i) (b:=NN) (by simp +decide only [go_sem, *]<;>rfl) (by simp +decide only [go_sem, *]<;>rfl) Tryd.underlying25 (by simp +decide only [go_sem, *]<;>rfl) (by simp [a1]) hd (by simp +decide only [go_sem, *]<;>rfl)) (hr:=?_)
      refine goF ?_
      refine ifA (fun hxy=>?_) (fun hxy=>?_)
      ·simp at hxy
       rw [if_pos ⟨by omega,hxy⟩] at hps
       refine goF ?_
       refine drA (k:=9) follows (hr:=?_)
       refine goF ?_
       refine ARun.q1 rfl rfl (ql_ixo (n:=i) (b:=NN) (by simp +decide only [go_sem, *]<;>rfl) (by simp +decide only [go_sem, *]<;>rfl) Tryd.underlying25 (by simp +decide only [go_sem, *]<;>rfl) (by simp [a1]) hd (by simp +decide only [go_sem, *]<;>rfl)) ?_
       refine goF ?_
       refine ARun.q1 rfl rfl (ql_ixo (n:=v) (b:=NN) (by simp +decide only [go_sem, *]<;>rfl) (by simp +decide only [go_sem, *]<;>rfl) Tryd.underlying25 (by simp +decide only [go_sem, *]<;>rfl) (by simp [a1]) hvl (by simp +decide only [go_sem, *]<;>rfl)) ?_
       refine goF ?_
       refine ARun.p1 rfl rfl (pl_store_own (f:=AV.int) (l:=A) (b:=NN) (tot:=s.tasks.length) (i:=v) (ty:=3) (sz:=1) x (by simp +decide only [go_sem, *]<;>rfl) (by simp +decide only [go_sem, *]<;>rfl) (by simp +decide only [go_sem, *]<;>rfl) a1 (by omega) sz3 rfl rfl) ?_
       refine goF ?_
       rw [wrap_succ (by omega)]
       refine ⟨i+1,hd,by omega,?_⟩
       rw [hps]
       exact .wf
      simp at hxy
      rw [if_neg (by omega)] at hps
      refine goF ?_
      rw [wrap_succ (by omega)]
      refine ⟨i+1,hd,by omega,?_⟩
      rw [hps]
      exact .wf
     rw [if_neg (by omega)] at hps
     have hge:decide (ti.waits≥0)=false:=by simp;omega
     clear hxg hwt
     refine goF ?_
     refine ARun.q1 rfl rfl (ql_ixo (n:=i) (b:=ix .tk) (by simp +decide only [go_sem, *]<;>rfl) (by simp +decide only [go_sem, *]<;>rfl) Tryd.underlying80 (by simp +decide only [go_sem, *]<;>rfl) (by simp) hd (by simp +decide only [go_sem, *]<;>rfl)) ?_
     refine goF ?_
     refine drA (k:=17) follows (hr:=?_)
     refine goF ?_
     refine gxA .bad ?_
     refine gxA (.int 0) ?_
     refine goF ?_
     refine gxA .bad ?_
     refine gxA (.int 0) ?_
     refine goF ?_
     refine iff_ ?_ rfl rfl
     refine goF ?_
     rw [wrap_succ (by omega)]
     refine ⟨i+1,hd,by omega,?_⟩
     rw [hps]
     exact .wf
    simp at hd
    obtain rfl:i=s.tasks.length:=by omega
    refine goF ?_
    cases hb:(passE s.tasks s.tasks.length L).2 with
    | true =>
      rw [show 200-m=(199-m)+1 by omega,effI,if_pos hb] at j4
      have:=a4 hb
      refine ⟨(m+1,(passE s.tasks s.tasks.length L).1,true),⟨by simp only;omega,a1,a2,?_⟩,by simp;omega,?_⟩
      ·simp only [if_true];rw [show 200-(m+1)=199-m by omega];exact j4
      ·clear j4;exact .wf
    | false =>
      rw [show 200-m=(199-m)+1 by omega,effI,if_neg (by simp [hb])] at j4
      refine ⟨(m,(passE s.tasks s.tasks.length L).1,false),⟨by simp only;omega,a1,a2,?_⟩,by simp;omega,?_⟩
      ·simp;exact j4
      ·clear j4;exact .wf
end Go.Ab
set_option maxHeartbeats 4000000
namespace Go.Ab
open Go Go.Ab Go.Proofs Go.Ab.Ty
def nxF (s:PRun) (k:Nat):Option (Nat × PCall × Stp):=match s.tasks[k]? with
 | some t=>match t.slen with
   | 0=>none
   | m+1=>match t.sarr[m]? with
     | some j=>match s.calls[j]? with
       | some c=>match c.code.steps[c.pc.toNat]? with
         | some st=>some (j,c,st)
         | none=>none
       | none=>none
     | none=>none
 | none=>none
theorem Nx.f {s:PRun} {k j:Nat} {t:PTask} {c:PCall} {st:Stp} (h:Nx s k t j c st):nxF s k=some (j,c,st):=by
 obtain ⟨m,h1,h2⟩:=h.hm
 obtain ⟨i,h3,h4⟩:=h.hi
 unfold nxF
 rw [h.ht]
 simp only [h1,h2,h.hc,h3,Int.toNat_natCast,h4]
def blkT (s:PRun) (k:Nat):Bool:=match nxF s k with
 | some (_,c,st)=>blkF s k (actOf c st)
 | none=>false
def rdF (s:PRun) (l:List Int):Nat→Int × List Int
 | 0=>(-1,[])
 | i+1=>match s.tasks[i]? with
   | some t=>if t.state≠1∨blkT s i=true then rdF s l i else if (rdF s l i).1<l.getD i 0 then (l.getD i 0,[(i:Int)]) else if l.getD i 0<(rdF s l i).1 then rdF s l i else ((rdF s l i).1,(rdF s l i).2++[(i:Int)])
   | none=>rdF s l i
def readyF (s:PRun):List Int:=(rdF s (effF s) s.tasks.length).2
def schF (s:PRun):Int:=if s.used<s.sched.length then s.sched.getD s.used.toNat 0 else 0
def pikF (s:PRun):PRun:=if readyF s=[] then s else if s.used<s.sched.length then { s with used:=s.used+1 } else s
def chF (s:PRun):Int:=(readyF s).getD (((schF s).tmod (readyF s).length+(readyF s).length).tmod (readyF s).length).toNat 0
structure Rdy (s:PRun):Prop where
 nx:∀k t,s.tasks[k]?=some t→t.state=1→∃j c st,Nx s k t j c st
 us:0≤s.used∧s.used≤1000000
theorem effF_len (s:PRun) (hp:Prok s):(effF s).length=s.tasks.length:=by
 unfold effF
 have key:∀f L,L.length=s.tasks.length→b3 L→(effI s.tasks f L).length=s.tasks.length:=by
  intro f
  induction f with
  | zero=>intro L h _;exact h
  | succ f ih =>
    intro L h h3
    obtain ⟨a1,a2,_,_⟩:=passE_ok h h3 hp.wt s.tasks.length (Nat.le_refl _)
    simp only [effI]
    split
    ·exact ih _ a1 a2
    ·exact a1
 exact key _ _ (by simp) fun x hx=>by obtain ⟨t,h,rfl⟩:=List.mem_map.1 hx;exact (hp.pr t h).2
def pushL (E:List Int) (len:Nat) (v:Int):List Int:=E.take len++v::E.drop (len+1)
theorem pushL_lt {E:List Int} {len:Nat} {v:Int} (h:len<E.length):pushL E len v=E.set len v:=by
 unfold pushL;rw [List.set_eq_take_append_cons_drop,if_pos h]
theorem pushL_eq {E:List Int} {v:Int}:pushL E E.length v=E++[v]:=by
 unfold pushL;rw [List.take_length,List.drop_eq_nil_of_le (by omega)]
theorem pushL_len {E:List Int} {len:Nat} {v:Int} (h:len≤E.length):len+1≤(pushL E len v).length∧(pushL E len v).length≤E.length+1:=by
 unfold pushL;simp;omega
theorem pushL_take {E:List Int} {len:Nat} {v:Int} (h:len≤E.length):(pushL E len v).take (len+1)=E.take len++[v]:=by
 unfold pushL
 rw [List.take_append,List.length_take,show min len E.length=len by omega,show len+1-len=1 by omega,List.take_take,show min (len+1) len=len by omega]
 rfl
theorem pl_push {H:List ABlk} {ρ:Operand→AV} {s x:Operand} {b len:Nat} {E:List Int} {v:Int} (hsv:ρ s=.own b E.length 0 len) (hx:ρ x=.lst [.int v]) (hb:H[b]?=some (intB E)) (hlen:len≤E.length) (hE:E.length≤1000000) :
 PL Tryd.prog H ρ (.call { callee:=.builtin .append,args:=#[s,x],argTypes:=#[25,25] }) (.own b (pushL E len v).length 0 (len+1)) (H.set b (intB (pushL E len v))):=by
 rcases Nat.lt_or_ge len E.length with h|h
 ·rw [pushL_lt h,List.length_set,show intB (E.set len v)={ intB E with es:=(E.map AV.int).set len (.int v) } by simp [List.map_set]]
  exact pl_appendIn hsv hx rfl rfl hb (by simp) h rfl Tryd.underlying25 el3 (by show (3:Nat)<mapTy;decide)
 ·obtain rfl:len=E.length:=by omega
  rw [pushL_eq,show intB (E++[v])={ intB E with es:=(E.map AV.int)++[.int v] } by simp]
  simpa using pl_append (P:=Tryd.prog) (b:=b) (tot:=E.length) (es:=[.int v]) hsv hx hb (by simp) Tryd.underlying25 el3 rfl rfl (by simp) (fun e he=>by rw [List.mem_singleton] at he;subst he;exact ⟨rfl,rfl⟩) (by simp;omega) (by simp;omega)
theorem AWp.scopeH {P:Program} {n n':Fr} {s:ASt} {c:Code} {rs:List ResultVar} {d:AV} {H':List ABlk} (h:AWp P n c (retHQ P rs n' d H') s):AWp P n (.scope c) (retHQ P rs n' d H') s:=
 .scope (h.mono fun e s hq=>by cases e<;>first|exact hq|exact hq.elim)
theorem rfRi (i:Int):∀a∈[ptR,AV.int i],RfA (·<NN) a:=by
 intro a ha
 simp only [List.mem_cons,List.not_mem_nil,or_false] at ha
 rcases ha with rfl|rfl
 ·exact .ptr ixl_rn
 ·exact .pu (.base _)
theorem pick_ok {s:PRun} (hw:WF s) (hp:Prok s) (hr:Rdy s):FnH Tryd.prog 85 [ptR] (HH s) (if readyF s=[] then .tup [.int 0,.bool false] else .tup [.int (chF s),.bool true]) (HH (pikF s)):=by
 have i1:=effective_ok hw hp
 have hel:=effF_len s hp
 have hn32:=hw.nT
 have hlen:(HH s).length=NN:=HH_len s
 refine FnH.intro' [(0,ptR)] 1 101 NN Tryd.func85 (by kernel_rfl) rfl rfl rfl rfl rfl (HH_len s) ?_
 refine goF ?_
 refine AWp.scopeH ?_
 refine goF ?_
 refine ARun.p1 rfl rfl (pl_callW i1 (by simp) rfl (by simp +decide only [go_sem, *]<;>rfl) (by simp +decide only [go_sem, *]<;>rfl)) ?_
 refine goF ?_
 refine AWp.label ?_
 refine goF ?_
 refine AWp.weaken (Wk.nilC (E2:=[(0,ptR),(2,.int 0),(3,.bool false),(4,.own NN s.tasks.length 0 s.tasks.length),(5,.own (NN+1) 0 0 0),(6,.int (-1)),(16,.own (ix .tk) s.tasks.length 0 s.tasks.length),(17,.int s.tasks.length),(18,.int 0)]) (H2:=HH s++[intB (effF s)]) 3 1 (NilB.rf (S:=Sd s) (fun b hb=>by
  rcases List.mem_append.1 hb with hb|hb
  ·exact HH_rf hw b hb
  ·rw [List.mem_singleton] at hb;subst hb;exact .int _)) ⟨.ptr,.pu (.base _),.pu (.base _),.own,.nil (by simp [hlen]),.pu (.base _),.own,.pu (.base _),.pu (.base _),trivial⟩) ?_
 simp only [app_app,List.cons_append,List.nil_append]
 obtain ⟨l,hl⟩:∃l,l=effF s:=⟨_,rfl⟩
 rw [← hl] at hel ⊢
 have hrdy:Hid (readyF s=(rdF s l s.tasks.length).2):=⟨by rw [hl];rfl⟩
 clear hl i1
 refine AWp.loop (J:=fun x:Nat × List Int=>x.1≤s.tasks.length∧x.2.take (rdF s l x.1).2.length=(rdF s l x.1).2∧x.2.length≤x.1) (fun x=>⟨[(0,ptR),(2,.int 0),(3,.bool false),(4,.own NN s.tasks.length 0 s.tasks.length),(5,.own (NN+1) x.2.length 0 (rdF s l x.1).2.length),(6,.int (rdF s l x.1).1),(16,.own (ix .tk) s.tasks.length 0 s.tasks.length),(17,.int s.tasks.length),(18,.int x.1)],HH s++[intB l,intB x.2]⟩) (fun x=>s.tasks.length-x.1) (0,[]) ⟨Nat.zero_le _,rfl,Nat.zero_le _⟩ .wf ?_
 rintro ⟨i,E⟩ ⟨hi,hE,hEl⟩
 simp only at hi hE hEl
 have hrl:(rdF s l i).2.length≤E.length:=by rw [← hE,List.length_take];omega
 have hrt:Hid (E.take (rdF s l i).2.length=(rdF s l i).2):=⟨hE⟩
 clear hE
 refine goF ?_
 refine ifA (fun hd=>?_) (fun hd=>?_)
 ·simp at hd
  obtain ⟨ti,hti⟩:∃ti,s.tasks[i]?=some ti:=⟨_,List.getElem?_eq_getElem hd⟩
  obtain ⟨g1,g2,g3,g4,_,g6⟩:=hw.k hti
  have hrs:Hid (rdF s l (i+1)=if ti.state≠1∨blkT s i=true then rdF s l i else if (rdF s l i).1<l.getD i 0 then (l.getD i 0,[(i:Int)]) else if l.getD i 0<(rdF s l i).1 then rdF s l i else ((rdF s l i).1,(rdF s l i).2++[(i:Int)])):=⟨by simp only [rdF,hti]⟩
  obtain ⟨x,hx⟩:∃x,l[i]?=some x:=⟨_,List.getElem?_eq_getElem (by omega)⟩
  have hxg:Hid (l.getD i 0=x):=⟨by rw [List.getD_eq_getElem?_getD,hx];rfl⟩
  have hxm:(l.map AV.int)[i]?=some (.int x):=by rw [List.getElem?_map,hx];rfl
  obtain ⟨⟨b,r⟩,hA⟩:∃A,A=rdF s l i:=⟨_,rfl⟩
  rw [← hA] at hrl hrt hrs ⊢
  clear hA
  simp only at hrl ⊢
  have hnx:Hid (ti.state=1→∃j c st,Nx s i ti j c st):=⟨hr.nx i ti hti⟩
  clear hr
  have hset:∀X,(HH s++[intB l,intB E]).set (NN+1) X=HH s++[intB l,X]:=fun X=>by rw [List.set_append_right _ _ (by omega),hlen,Nat.add_sub_cancel_left];rfl
  refine goF ?_
  refine ARun.q1 rfl rfl (ql_ixo (n:=i) (b:=ix .tk) (by simp +decide only [go_sem, *]<;>rfl) (by simp +decide only [go_sem, *]<;>rfl) Tryd.underlying80 (by simp +decide only [go_sem, *]<;>rfl) (by simp) hd (by simp +decide only [go_sem, *]<;>rfl)) ?_
  refine goF ?_
  by_cases h1:ti.state=1
  ·obtain ⟨j,c,st,hN⟩:=hnx.out h1
   have ib:=blocked_ok hw hN
   have hbt:blkT s i=blkF s i (actOf c st):=by unfold blkT;rw [hN.f]
   rw [hbt] at hrs
   clear hbt hN
   obtain ⟨bb,hbb⟩:∃bb,bb=blkF s i (actOf c st):=⟨_,rfl⟩
   rw [← hbb] at hrs ib
   clear hbb
   have hd1:decide (ti.state≠1)=false:=by simp [h1]
   refine goF ?_
   refine ARun.gpl rfl rfl (by simp +decide only [go_sem, *]<;>rfl) rfl (pl_callR hw hw (T:=[intB l,intB E]) ib rfl (by simp +decide only [go_sem, *]<;>rfl) (by simp +decide only [go_sem, *]<;>rfl) (rfRi _) (.pu (.base _))) ?_
   refine goF ?_
   cases bb with
   | true =>
     rw [if_pos (.inr rfl)] at hrs
     refine goF ?_
     refine ift_ ?_ rfl rfl
     refine goF ?_
     rw [wrap_succ (by omega)]
     refine ⟨(i+1,E),⟨hd,by rw [hrs.out];exact hrt.out,by show E.length≤i+1;omega⟩,by show s.tasks.length-(i+1)<_;omega,?_⟩
     rw [hrs.out]
     exact .wf
   | false =>
     rw [if_neg (by simp [h1])] at hrs
     refine goF ?_
     refine iff_ ?_ rfl rfl
     refine goF ?_
     refine ARun.q1 rfl rfl (ql_ixo (n:=i) (b:=NN) (by simp +decide only [go_sem, *]<;>rfl) (by simp +decide only [go_sem, *]<;>rfl) Tryd.underlying25 (by simp +decide only [go_sem, *]<;>rfl) (by simp [hel]) hd (by simp +decide only [go_sem, *]<;>rfl)) ?_
     refine goF ?_
     refine ifA (fun hgt=>?_) (fun hgt=>?_)
     ·simp at hgt
      rw [if_pos (by rw [hxg.out];exact hgt)] at hrs
      refine goF ?_
      refine ARun.q1 rfl rfl (ql_ixo (n:=i) (b:=NN) (by simp +decide only [go_sem, *]<;>rfl) (by simp +decide only [go_sem, *]<;>rfl) Tryd.underlying25 (by simp +decide only [go_sem, *]<;>rfl) (by simp [hel]) hd (by simp +decide only [go_sem, *]<;>rfl)) ?_
      refine goF ?_
      refine ARun.q1 rfl rfl (ql_slice_own (b:=NN+1) (l:=0) (h:=0) (blk:=intB E) (by simp +decide only [go_sem, *]<;>rfl) Tryd.underlying25 (by rw [List.getElem?_append_right (by omega),hlen,Nat.add_sub_cancel_left];rfl) (by simp) (by simp [bnd,lk,go_sem]) (by simp [bnd,lk,go_sem]) (Nat.le_refl _) (Nat.zero_le _) sz3) ?_
      refine goF ?_
      refine ARun.p1 rfl rfl (pl_push (b:=NN+1) (E:=E) (len:=0) (v:=i) (by simp +decide only [go_sem, *]<;>rfl) (by simp +decide only [go_sem, *]<;>rfl) (by rw [List.getElem?_append_right (by omega),hlen,Nat.add_sub_cancel_left];rfl) (Nat.zero_le _) (by omega)) ?_
      rw [hset]
      refine goF ?_
      rw [wrap_succ (by omega)]
      refine ⟨(i+1,pushL E (0) i),⟨hd,by rw [hrs.out];show (pushL E (0) i).take ([(i:Int)]).length=[(i:Int)];exact pushL_take (len:=0) (Nat.zero_le _),by show (pushL E (0) i).length≤i+1;have:=(pushL_len (E:=E) (v:=(i:Int)) (Nat.zero_le _)).2;omega⟩,by show s.tasks.length-(i+1)<_;omega,?_⟩
      rw [hrs.out,hxg.out]
      exact .wf
     simp at hgt
     rw [if_neg (by rw [hxg.out];omega)] at hrs
     refine goF ?_
     refine ARun.q1 rfl rfl (ql_ixo (n:=i) (b:=NN) (by simp +decide only [go_sem, *]<;>rfl) (by simp +decide only [go_sem, *]<;>rfl) Tryd.underlying25 (by simp +decide only [go_sem, *]<;>rfl) (by simp [hel]) hd (by simp +decide only [go_sem, *]<;>rfl)) ?_
     refine goF ?_
     refine ifA (fun hlt=>?_) (fun hlt=>?_)
     ·simp at hlt
      rw [if_pos (by rw [hxg.out];exact hlt)] at hrs
      refine goF ?_
      rw [wrap_succ (by omega)]
      refine ⟨(i+1,E),⟨hd,by rw [hrs.out];exact hrt.out,by show E.length≤i+1;omega⟩,by show s.tasks.length-(i+1)<_;omega,?_⟩
      rw [hrs.out]
      exact .wf
     simp at hlt
     rw [if_neg (by rw [hxg.out];omega)] at hrs
     refine goF ?_
     refine ARun.p1 rfl rfl (pl_push (b:=NN+1) (E:=E) (len:=r.length) (v:=i) (by simp +decide only [go_sem, *]<;>rfl) (by simp +decide only [go_sem, *]<;>rfl) (by rw [List.getElem?_append_right (by omega),hlen,Nat.add_sub_cancel_left];rfl) hrl (by omega)) ?_
     rw [hset]
     refine goF ?_
     rw [wrap_succ (by omega)]
     refine ⟨(i+1,pushL E (r.length) i),⟨hd,by rw [hrs.out];show (pushL E (r.length) i).take (r++[(i:Int)]).length=r++[(i:Int)];rw [List.length_append];show (pushL E r.length i).take (r.length+1)=_;rw [pushL_take hrl,hrt.out],by show (pushL E (r.length) i).length≤i+1;have:=(pushL_len (E:=E) (v:=(i:Int)) hrl).2;omega⟩,by show s.tasks.length-(i+1)<_;omega,?_⟩
     rw [hrs.out]
     simp only [List.length_append,List.length_cons,List.length_nil,Nat.zero_add]
     exact .wf
  have hd1:(ti.state != 1)=true:=by simp [h1]
  rw [if_pos (.inl h1)] at hrs
  refine goF ?_
  refine gxA (.bool false) ?_ (hx:=by simp [allL,gc,h1])
  refine goF ?_
  refine ift_ ?_ rfl rfl
  refine goF ?_
  rw [wrap_succ (by omega)]
  refine ⟨(i+1,E),⟨hd,by rw [hrs.out];exact hrt.out,by show E.length≤i+1;omega⟩,by show s.tasks.length-(i+1)<_;omega,?_⟩
  rw [hrs.out]
  exact .wf
 simp at hd
 obtain rfl:i=s.tasks.length:=by omega
 refine goF ?_
 obtain ⟨R,hR⟩:∃R,readyF s=R:=⟨_,rfl⟩
 have hRr:(rdF s l s.tasks.length).2=R:=by rw [← hrdy.out,hR]
 rw [hRr] at hrl hrt ⊢
 clear hRr hrdy
 have hp2:Hid (pikF s=if R=[] then s else if s.used<s.sched.length then { s with used:=s.used+1 } else s):=⟨by rw [← hR];rfl⟩
 have hc2:Hid (chF s=R.getD (((schF s).tmod R.length+R.length).tmod R.length).toNat 0):=⟨by rw [← hR];rfl⟩
 rw [hR]
 clear hR
 by_cases hR0:R=[]
 ·subst hR0
  rw [if_pos rfl] at hp2
  refine ift_ ?_ rfl rfl
  refine goF ?_
  rw [hp2.out,if_pos rfl]
  refine RetH.runV [intB l,intB E] hw (vs:=[.int 0,.bool false]) (by show resVals _ _ [.tmp 2,.tmp 3]=_;simp +decide only [resVals,resVal,ldPtr,ldE,go_sem, *]<;>rfl) rfl rfl (.pu (Pu.tup (by simp)))
 have hRl:0<R.length:=List.length_pos_iff.2 hR0
 rw [if_neg hR0] at hp2 ⊢
 refine iff_ ?_ rfl (by simp [hR0,lk,go_sem])
 refine goF ?_
 obtain ⟨q0,q1⟩:=hr.us
 have hsf:Hid (schF s=if s.used<s.sched.length then s.sched.getD s.used.toNat 0 else 0):=⟨rfl⟩
 refine drA (k:=9) follows (hr:=?_)
 refine goF ?_
 refine AWp.join ⟨[(0,ptR),(5,.own (NN+1) E.length 0 R.length),(9,.int (schF s))],HH (pikF s)++[intB l,intB E]⟩ ?_ ?_
 ·refine ifA (fun hu=>?_) (fun hu=>?_)
  ·simp at hu
   obtain ⟨u,hus⟩:∃u:Nat,s.used=u:=⟨_,(Int.toNat_of_nonneg q0).symm⟩
   have hul:u<s.sched.length:=by omega
   obtain ⟨y,hy⟩:∃y,s.sched[u]?=some y:=⟨_,List.getElem?_eq_getElem hul⟩
   have hym:(s.sched.map AV.int)[u]?=some (.int y):=by rw [List.getElem?_map,hy];rfl
   rw [if_pos hu,List.getD_eq_getElem?_getD,hus,Int.toNat_natCast,hy] at hsf
   rw [if_pos hu] at hp2
   refine goF ?_
   refine drA (k:=8) follows (hr:=?_)
   refine goF ?_
   have hH:(HH s).set (ix .rn) (blk { s with used:=(u:Int)+1 } .rn)=HH (pikF s):=by
    rw [hp2.out,hus]
    exact HH_upd (s:=s) (s':={ s with used:=(u:Int)+1 }) [(.rn,_)] (fun p hp=>by rw [List.mem_singleton] at hp;subst hp;exact ⟨ixl_rn,rfl⟩) fun a ha=>by cases a<;>first|rfl|simp at ha
   rw [wrap_succ (by omega)]
   rw [hsf.out]
   rw [show nth 0 s.sched (u:Int)=y by simp [nth,hy]]
   show Wk _ ⟨_,(HH s++[intB l,intB E]).set (ix .rn) (blk { s with used:=(u:Int)+1 } .rn)⟩ _
   rw [app_set (HH_len s) ixl_rn,hH]
   exact .wf
  ·simp at hu
   rw [if_neg (by omega)] at hsf hp2
   refine goF ?_
   rw [hsf.out,hp2.out]
   exact .wf
 have hwp:WF (pikF s):=by
  rw [hp2.out]
  split
  ·exact ⟨hw.1,hw.2,hw.3,hw.4,hw.5,hw.6,hw.7,hw.8,hw.9,hw.10,hw.11,hw.12,hw.13,hw.14⟩
  ·exact hw
 have hlp:(HH (pikF s)).length=NN:=HH_len _
 rw [hc2.out]
 clear hc2 hp2 hsf
 obtain ⟨s2,hS⟩:∃s2,s2=pikF s:=⟨_,rfl⟩
 rw [← hS] at hwp hlp ⊢
 obtain ⟨cc,hcc⟩:∃cc,cc=schF s:=⟨_,rfl⟩
 rw [← hcc]
 clear hS hcc
 have hz:¬((R.length:Int)=0):=by omega
 refine goF ?_
 have b1:cc.tmod R.length<R.length:=Int.tmod_lt_of_pos _ (by omega)
 have b2:-(R.length:Int)<cc.tmod R.length:=by
  have:=Int.tmod_lt_of_pos (-cc) (show (0:Int)<R.length by omega)
  rw [Int.neg_tmod] at this;omega
 have hlE:E.length≤32:=by omega
 rw [wrap_id (by omega) (by omega)]
 obtain ⟨m,hm⟩:∃m:Nat,(cc.tmod R.length+R.length).tmod R.length=m:=⟨_,(Int.toNat_of_nonneg (Int.tmod_nonneg _ (by omega))).symm⟩
 have hmR:m<R.length:=by have:=Int.tmod_lt_of_pos (cc.tmod R.length+R.length) (show (0:Int)<R.length by omega);omega
 obtain ⟨z,hzz⟩:∃z,R[m]?=some z:=⟨_,List.getElem?_eq_getElem hmR⟩
 have hEm:(E.map AV.int)[m]?=some (.int z):=by
  rw [List.getElem?_map]
  rw [← hrt.out,List.getElem?_take_of_lt hmR] at hzz
  rw [hzz];rfl
 rw [List.getD_eq_getElem?_getD,hm,Int.toNat_natCast,hzz]
 refine ARun.q1 rfl rfl (ql_ixo (n:=m) (b:=NN+1) (by simp +decide only [go_sem, *]<;>rfl) (by simp +decide only [go_sem, *]<;>rfl) Tryd.underlying25 (by rw [List.getElem?_append_right (by omega),hlp,Nat.add_sub_cancel_left];rfl) (by simp) hmR (by simp +decide only [go_sem, *]<;>rfl)) ?_
 refine goF ?_
 exact .runV [intB l,intB E] hwp (vs:=[.int z,.bool true]) (by show resVals _ _ [.tmp 2,.tmp 3]=_;simp +decide only [resVals,resVal,ldPtr,ldE,go_sem, *]<;>rfl) rfl rfl (.pu (Pu.tup (by simp)))
end Go.Ab
set_option maxHeartbeats 4000000
namespace Go.Ab
open Go Go.Ab Go.Proofs Go.Ab.Ty
structure Kok (s:PRun):Prop where
 kd:∀k t,s.tasks[k]?=some t→∀c:Int,c∈t.kids→∃j:Nat,c=j∧k<j∧j<s.tasks.length
def canL (s:PRun) (l:List Nat):PRun:={ s with tasks:=s.tasks.mapIdx fun k t=>if k∈l then { t with canc:=true } else t }
theorem canL_len {s:PRun} {l:List Nat}:(canL s l).tasks.length=s.tasks.length:=by simp [canL]
theorem canL_at {s:PRun} {l:List Nat} {k:Nat} {t:PTask} (ht:s.tasks[k]?=some t):(canL s l).tasks[k]?=some (if k∈l then { t with canc:=true } else t):=by
 simp [canL,List.getElem?_mapIdx,ht]
theorem canL_of {s:PRun} {l:List Nat} {k:Nat} {t':PTask} (ht:(canL s l).tasks[k]?=some t'):∃t,s.tasks[k]?=some t∧t'=if k∈l then { t with canc:=true } else t:=by
 have hk:k<s.tasks.length:=by rw [← canL_len (l:=l)];exact (List.getElem?_eq_some_iff.1 ht).1
 obtain ⟨t,h⟩:∃t,s.tasks[k]?=some t:=⟨_,List.getElem?_eq_getElem hk⟩
 rw [canL_at h] at ht
 exact ⟨t,h,by injection ht with e;exact e.symm⟩
theorem canL_nil {s:PRun}:canL s []=s:=by
 unfold canL
 have:s.tasks.mapIdx (fun k t=>if k∈([]:List Nat) then { t with canc:=true } else t)=s.tasks:=by
  refine List.ext_getElem? fun k=>?_
  rw [List.getElem?_mapIdx]
  cases s.tasks[k]?<;>simp
 rw [this]
theorem canL_app {s:PRun} {l m:List Nat}:canL (canL s l) m=canL s (l++m):=by
 unfold canL
 simp only [PRun.mk.injEq,true_and,and_true]
 refine List.ext_getElem? fun k=>?_
 simp only [List.getElem?_mapIdx,Option.map_map]
 congr 1
 funext t
 simp only [Function.comp,List.mem_append]
 by_cases h1:k∈l<;>by_cases h2:k∈m<;>simp [h1,h2]
theorem canL_tset {s:PRun} {l:List Nat} {k:Nat} {t:PTask} (ht:(canL s l).tasks[k]?=some t):(canL s l).tset k { t with canc:=true }=canL s (l++[k]):=by
 rw [← canL_app]
 generalize canL s l=s' at ht
 unfold canL PRun.tset
 simp only [PRun.mk.injEq,true_and,and_true]
 refine List.ext_getElem? fun i=>?_
 rw [List.getElem?_mapIdx,List.getElem?_set]
 by_cases h:k=i
 ·subst h;rw [if_pos rfl,if_pos (List.getElem?_eq_some_iff.1 ht).1,ht];simp
 ·rw [if_neg h];cases s'.tasks[i]?<;>simp [Ne.symm h]
theorem Kok.can {s:PRun} (h:Kok s) (l:List Nat):Kok (canL s l):=⟨fun k t' ht c hc=>by
 obtain ⟨t,h1,rfl⟩:=canL_of ht
 rw [canL_len]
 refine h.kd k t h1 c ?_
 split at hc<;>exact hc⟩
theorem WF.can {s:PRun} (hw:WF s) (l:List Nat):WF (canL s l):=by
 have key:∀ {p:PTask→Prop},(∀t b,p t→p { t with canc:=b })→(∀t∈s.tasks,p t)→∀t∈(canL s l).tasks,p t:=by
  intro p h1 h2 t ht
  obtain ⟨k,hk⟩:=List.mem_iff_getElem?.1 ht
  obtain ⟨t0,h3,rfl⟩:=canL_of hk
  have:=h2 t0 (List.mem_of_getElem? h3)
  split
  ·exact h1 _ _ this
  ·exact this
 refine ⟨by rw [canL_len];exact hw.nT,hw.nC,hw.nK,hw.nB,hw.pl,hw.cks,hw.acts,hw.ends,key (fun t b h=>h) hw.tsk,hw.behs,by rw [canL_len];exact hw.endl,hw.sz,key (fun t b h=>h) hw.tsz,hw.csz⟩
def kidsF (s:PRun) (n:Nat):List Int:=match s.tasks[n]? with
 | some t=>t.kids
 | none=>[]
theorem kidsF_can {s:PRun} {l:List Nat} {n:Nat}:kidsF (canL s l) n=kidsF s n:=by
 unfold kidsF
 cases h:s.tasks[n]? with
 | some t=>rw [canL_at h];simp only;split<;>rfl
 | none=>simp [canL,List.getElem?_mapIdx,h]
def dsc (s:PRun):Nat→Nat→List Nat
 | 0,_=>[]
 | f+1,n=>n::(kidsF s n).flatMap fun k=>dsc s f k.toNat
theorem dsc_can {s:PRun} {l:List Nat} (f:Nat) (n:Nat):dsc (canL s l) f n=dsc s f n:=by
 induction f generalizing n with
 | zero=>rfl
 | succ f ih=>simp only [dsc,kidsF_can,ih]
theorem cancel_ok:∀(f:Nat) {s:PRun} (n:Nat),WF s→Kok s→s.tasks.length-n≤f→n<s.tasks.length→FnH Tryd.prog 112 [ptR,.int n] (HH s) (.tup []) (HH (canL s (dsc s f n))):=by
 intro f
 induction f with
 | zero=>intro s n _ _ h1 h2;omega
 | succ f ih =>
   intro s n hw hk hf hn
   obtain ⟨t,ht⟩:∃t,s.tasks[n]?=some t:=⟨_,List.getElem?_eq_getElem hn⟩
   obtain ⟨g1,g2,g3,g4,_,g6⟩:=hw.k ht
   have hkd:=hk.kd n t ht
   have hk32:=(hw.tsz t (List.mem_of_getElem? ht)).2
   have hkF:kidsF s n=t.kids:=by unfold kidsF;rw [ht]
   have hset:=HH_tset (t':={ t with canc:=true }) ht g1 rfl rfl rfl
   have hst:=canL_tset (l:=[]) (s:=s) (k:=n) (t:=t) (by rw [canL_nil];exact ht)
   rw [canL_nil,List.nil_append] at hst
   rw [hst] at hset
   clear hst
   obtain ⟨s1,hs1⟩:∃s1,s1=canL s [n]:=⟨_,rfl⟩
   have hw1:WF s1:=by rw [hs1];exact hw.can _
   have ht1:s1.tasks[n]?=some { t with canc:=true }:=by rw [hs1,canL_at ht];simp
   have hn1:n<s1.tasks.length:=by rw [hs1,canL_len];exact hn
   obtain ⟨e1,e2,e3,e4,_,e6⟩:=hw1.k ht1
   rw [← hs1] at hset
   have hs1':Hid (s1=canL s [n]):=⟨hs1⟩
   clear hs1
   simp only [tskB,behV] at hset
   have hlk:=lenFk (H:=HH s1) (k:=n) (l:=t.kids) (by simp +decide only [go_sem, *])
   simp +decide only [go_sem] at hlk
   refine FnH.intro' [(0,ptR),(1,.int n)] 2 34 NN Tryd.func112 (by kernel_rfl) rfl rfl rfl rfl rfl (HH_len s) ?_
   refine goF ?_
   refine ARun.q1 rfl rfl (ql_ixo (n:=n) (b:=ix .tk) (by simp +decide only [go_sem, *]<;>rfl) (by simp +decide only [go_sem, *]<;>rfl) Tryd.underlying80 (by simp +decide only [go_sem, *]<;>rfl) (by simp) hn (by simp +decide only [go_sem, *]<;>rfl)) ?_
   refine goF ?_
   refine ARun.q1 rfl rfl (ql_ixo (n:=n) (b:=ix .tk) (by simp +decide only [go_sem, *]<;>rfl) (by simp +decide only [go_sem, *]<;>rfl) Tryd.underlying80 (by simp +decide only [go_sem, *]<;>rfl) (by simp) hn1 (by simp +decide only [go_sem, *]<;>rfl)) ?_
   refine goF ?_
   rw [hs1'.out]
   refine AWp.loop (J:=fun i:Nat=>i≤t.kids.length) (fun i=>⟨[(0,ptR),(24,kidV n t.kids),(25,.int t.kids.length),(26,.int i)],HH (canL s (n::(t.kids.take i).flatMap fun k=>dsc s f k.toNat))⟩) (fun i=>t.kids.length-i) 0 (Nat.zero_le _) .wf ?_
   intro i hi
   obtain ⟨l,hl⟩:∃l,l=n::(t.kids.take i).flatMap fun k=>dsc s f k.toNat:=⟨_,rfl⟩
   have hnl:n∈l:=by rw [hl];simp
   obtain ⟨s2,hs2⟩:∃s2,s2=canL s l:=⟨_,rfl⟩
   have hw2:WF s2:=by rw [hs2];exact hw.can _
   have ht2:s2.tasks[n]?=some { t with canc:=true }:=by rw [hs2,canL_at ht,if_pos hnl]
   obtain ⟨f1,f2,f3,f4,_,f6⟩:=hw2.k ht2
   have hl':Hid (l=n::(t.kids.take i).flatMap fun k=>dsc s f k.toNat):=⟨hl⟩
   have hs2':Hid (s2=canL s l):=⟨hs2⟩
   rw [← hl,← hs2]
   clear hl hs2
   refine goF ?_
   refine ifA (fun hd=>?_) (fun hd=>?_)
   ·simp at hd
    obtain ⟨k,hkk⟩:∃k,t.kids[i]?=some k:=⟨_,List.getElem?_eq_getElem hd⟩
    obtain ⟨j,rfl,hj1,hj2⟩:=hkd k (List.mem_of_getElem? hkk)
    have hkm:(t.kids.map AV.int)[i]?=some (.int j):=by rw [List.getElem?_map,hkk];rfl
    have ih':=ih (s:=s2) j hw2 (by rw [hs2'.out];exact hk.can l) (by rw [hs2'.out,canL_len];omega) (by rw [hs2'.out,canL_len];exact hj2)
    have hR:Hid (canL s2 (dsc s2 f j)=canL s (n::(t.kids.take (i+1)).flatMap fun k=>dsc s f k.toNat)):=⟨by
     rw [hs2'.out,dsc_can,canL_app,hl'.out,List.take_add_one,hkk,List.flatMap_append]
     simp⟩
    have hkv:=kidV_own (k:=n) hkk
    clear hkk
    refine goF ?_
    refine ARun.q1 rfl rfl (ql_ixo (n:=i) (b:=ix (.kid n)) (by simp +decide only [go_sem, *]<;>rfl) (by simp +decide only [go_sem, *]<;>rfl) Tryd.underlying25 (by simp +decide only [go_sem, *]<;>rfl) (by simp) hd (by simp +decide only [go_sem, *]<;>rfl)) ?_
    refine goF ?_
    refine ARun.p1 rfl rfl (pl_callW ih' (by simp [HH_len]) rfl (by simp +decide only [go_sem, *]<;>rfl) (by simp +decide only [go_sem, *]<;>rfl)) ?_
    refine goF ?_
    rw [wrap_succ (by omega)]
    refine ⟨i+1,hd,by omega,?_⟩
    rw [hR.out,hkv]
    exact .wf
   simp at hd
   obtain rfl:i=t.kids.length:=by omega
   have hR:Hid (s2=canL s (dsc s (f+1) n)):=⟨by rw [hs2'.out,hl'.out,List.take_length];simp only [dsc,hkF]⟩
   refine goF ?_
   rw [← hR.out]
   exact .runV [] hw2 (vs:=[]) (by show resVals _ _ []=_;simp +decide only [resVals,resVal,ldPtr,ldE,go_sem, *]<;>rfl) (by simp) rfl (.pu (Pu.tup (by simp)))
end Go.Ab
