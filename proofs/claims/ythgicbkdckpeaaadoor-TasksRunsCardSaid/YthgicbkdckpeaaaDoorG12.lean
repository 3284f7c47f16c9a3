/- Part. -/
import Derived.Laws.StructEq
import Derived.Test.YthgicbkdckpeaaaDoorCards
import Derived.Test.YthgicbkdckpeaaaDoorTie
import Derived.WalkKit
import Derived.ProofKit
import Derived.OpenShut
import Derived.Deep.DeepHandedRow
import Derived.Lib.LaidTab
import Derived.Lib.LaidU8
import Derived.Test.YthgicbkdckpeaaaDoorG11
set_option linter.unusedSimpArgs false
set_option linter.unusedVariables false
set_option maxHeartbeats 4000000
namespace Go.Ab
open Go Go.Ab Go.Proofs Go.Ab.Ty
structure CV (p:Tk) (no:Nat) (c:kh):Prop where
 cd:(c.jM = -1∧∃k:Nat,p.kT[k]?=some c.code)∨(0≤c.jM∧c.jM<p.mb∧∃k:Nat,p.methods[k]?=some c.code)
 vl:c.vars.length=c.code.vars.toNat
 vo:∀x∈c.vars,x<(no:Int)
structure CW (s:jv) (t:jQ):Prop where
 pr:0≤t.prio∧t.prio≤3
 wt:t.waits<s.tasks.length
 s1:t.state=1→t.ending=0∧t.waits<0
 kl:t.kids.length≤s.tasks.length
 sl:t.jZ.length≤7
 b0:∀(j:Nat) (c:kh),t.jZ[0]?=some j→s.calls[j]?=some c→c.jM = -1∧∀(i:Nat) (st:kG),(i:Int)<c.pc→c.code.steps[i]?=some st→st.op=6→∃kc:Nat,getM t.kg i=some (kc:Int)∧kc<s.tasks.length
 st:∀(i j:Nat) (c:kh),0<i→i<t.jC→t.jZ[i]?=some j→s.calls[j]?=some c→0≤c.jM∧∃k:Nat,s.p.methods[k]?=some c.code∧k+i≤6
 w7:0≤t.waits→t.ending=0∧∀(j:Nat) (c:kh) (st:kG),t.jZ[t.jC-1]?=some j→s.calls[j]?=some c→c.code.steps[c.pc.toNat]?=some st→st.op=7
structure Gi (s:jv):Prop where
 ok:Rg.Ap s.p
 ob:∀x∈s.jL,-1000≤x.1∧x.1≤1000∧x.2<(s.jL.length:Int)
 ca:∀c∈s.calls,CV s.p s.jL.length c
 ta:∀(n:Nat) (t:jQ),s.tasks[n]?=some t→CW s t
structure T1 (t t':jQ):Prop where
 sa:t'.jZ=t.jZ
 sl:t'.jC=t.jC
 kd:t'.kids=t.kids
 sp:t'.kg=t.kg
 pr:t'.prio=t.prio
 wt:t'.waits=t.waits∨t'.waits = -1
 s1:t'.state=1→t'.ending=0∧t'.waits<0
 w0:0≤t'.waits→t'.ending=0
theorem T1.refl {s:jv} {t:jQ} (h:CW s t):T1 t t:=⟨rfl,rfl,rfl,rfl,rfl,.inl rfl,h.s1,fun h2=>(h.w7 h2).1⟩
theorem CW.t1 {s s':jv} {t t':jQ} (h:CW s t) (h1:T1 t t') (hp:s'.p=s.p) (hc:s'.calls=s.calls) (hl:s'.tasks.length=s.tasks.length):CW s' t':=by
 refine ⟨by rw [h1.pr];exact h.pr,?_,h1.s1,by rw [h1.kd,hl];exact h.kl,by rw [h1.sa];exact h.sl,fun j c e1 e2=>?_,fun i j c e0 e1 e2 e3=>?_,fun h2=>⟨h1.w0 h2,fun j c st e1 e2 e3=>?_⟩⟩
 ·rw [hl];rcases h1.wt with e|e
  ·rw [e];exact h.wt
  ·rw [e];omega
 ·rw [h1.sa] at e1;rw [hc] at e2;rw [h1.sp,hl];exact h.b0 j c e1 e2
 ·rw [h1.sa] at e2;rw [hc] at e3;rw [h1.sl] at e1;rw [hp];exact h.st i j c e0 e1 e2 e3
 ·rw [h1.sa,h1.sl] at e1;rw [hc] at e2;rcases h1.wt with e|e
  ·exact (h.w7 (by rw [← e];exact h2)).2 j c st e1 e2 e3
  ·omega
theorem Gi.same {s s':jv} (h:Gi s) (hp:s'.p=s.p) (ho:s'.jL=s.jL) (hc:s'.calls=s.calls) (hl:s'.tasks.length=s.tasks.length) (ht:∀(n:Nat) (t':jQ),s'.tasks[n]?=some t'→∃t,s.tasks[n]?=some t∧T1 t t'):Gi s':=by
 refine ⟨by rw [hp];exact h.ok,by rw [ho];exact h.ob,by rw [hp,ho,hc];exact h.ca,fun n t' e=>?_⟩;obtain ⟨t,e1,e2⟩:=ht n t' e;exact (h.ta n t e1).t1 e2 hp hc hl
theorem Gi.eqs {s s':jv} (h:Gi s) (hp:s'.p=s.p) (ho:s'.jL=s.jL) (hc:s'.calls=s.calls) (ht:s'.tasks=s.tasks):Gi s':=
 h.same hp ho hc (by rw [ht]) fun n t' e=>⟨t',by rw [← ht];exact e,.refl (h.ta n t' (by rw [← ht];exact e))⟩
theorem Gi.jF {s:jv} (h:Gi s) {n:Nat} {t t':jQ} (ht:s.tasks[n]?=some t) (h1:T1 t t'):Gi (s.jF n t'):=by
 refine h.same rfl rfl rfl lY fun k u e=>?_;by_cases ek:n=k
 ·subst ek;rw [lq ht] at e;injection e with e;subst e;exact ⟨t,ht,h1⟩
 ·rw [mw ek] at e;exact ⟨u,e,.refl (h.ta k u e)⟩
theorem Gi.go {s:jv} (hi:Iv s) (h:Gi s) {n j:Nat} {t t':jQ} {c:kh} (ht:s.tasks[n]?=some t) (hj:t.jZ[t.jC-1]?=some j) (hc:s.calls[j]?=some c)
 (h1:t'.jZ=t.jZ) (h2:t'.jC≤t.jC) (h3:t'.kids=t.kids) (h4:t'.kg=t.kg) (h5:t'.prio=t.prio) (h6:t'.waits<0) (h7:t'.state=1→t'.ending=0)
 (hN:t.jC=1→∀st,c.code.steps[c.pc.toNat]?=some st→st.op=6→∃kc:Nat,getM t.kg c.pc=some (kc:Int)∧kc<s.tasks.length):Gi ((s.ly j { c with pc:=c.pc+1 }).jF n t'):=by
 obtain ⟨c',lC⟩:∃c',c'={ c with pc:=c.pc+1 }:=⟨_,rfl⟩
 rw [← lC];have pB:=hi.jH n t ht;have mV:=(hi.wf.kQ t (dx ht)).2.1;have uj:=(hi.qN c (dx hc)).1;have y9:=h.ca c (dx hc);have EK:CV s.p s.jL.length c':=by rw [lC];exact ⟨y9.cd,y9.vl,y9.vo⟩
 have py:=h.ta n t ht;have pq:(s.ly j c').calls[j]?=some c':=yw hc;have lO:∀ {i:Nat},i≠j→(s.ly j c').calls[i]?=s.calls[i]?:=fun e=>Bk (fun e2=>e e2.symm);have hL:((s.ly j c').jF n t').tasks.length=s.tasks.length:=by rw [lY];rfl
 refine ⟨h.ok,h.ob,fun x hx=>?_,fun k u hu=>?_⟩
 ·rcases eu hx with hx|rfl
  ·exact h.ca x hx
  ·exact EK
 by_cases ek:n=k
 ·subst ek;rw [lq (s:=s.ly j c') ht] at hu;injection hu with hu;subst hu;refine ⟨by rw [h5];exact py.pr,ae,fun e=>⟨h7 e,h6⟩,by rw [h3,hL];exact py.kl,by rw [h1];exact py.sl,fun j0 c0 e1 e2=>?_,fun i j1 c1 e0 e1 e2 e3=>?_,fun e=>ae⟩
  ·rw [h1] at e1;by_cases ej:j0=j
   ·subst ej;have pW:(s.ly j0 c').calls[j0]?=some c0:=e2;rw [pq] at pW;injection pW with pW;subst pW;obtain ⟨b1,b2⟩:=py.b0 j0 c e1 hc;have j6:t.jC=1:=by
     have:=(hi.rZ n t n t 0 (t.jC-1) j0 ht ht ae ae e1 hj).2;omega
    refine ⟨by rw [lC];exact b1,fun i st g1 g2 g3=>?_⟩;rw [h4,hL];rw [lC] at g1 g2;simp only at g1 g2;by_cases ei:(i:Int)<c.pc
    ·exact b2 i st ei g2 g3
    ·have:c.pc=(i:Int):=ae;obtain ⟨kc,k1,k2⟩:=hN j6 st (by rw [this,dF];exact g2) g3;rw [this] at k1;exact ⟨kc,k1,k2⟩
   ·have pW:(s.ly j c').calls[j0]?=some c0:=e2;rw [lO ej] at pW;rw [h4,hL];exact py.b0 j0 c0 e1 pW
  ·rw [h1] at e2;by_cases ej:j1=j
   ·subst ej;have vX:(s.ly j1 c').calls[j1]?=some c1:=e3;rw [pq] at vX;injection vX with vX;subst vX;have:=py.st i j1 c e0 ae e2 hc;rw [lC];exact this
   ·have vX:(s.ly j c').calls[j1]?=some c1:=e3;rw [lO ej] at vX;exact py.st i j1 c1 e0 ae e2 vX
 ·have sb:s.tasks[k]?=some u:=by rw [mw ek] at hu;exact hu
  have oZ:=h.ta k u sb;have uD:=hi.jH k u sb;have hd:∀(i j1:Nat),i<u.jC→u.jZ[i]?=some j1→j1≠j:=fun i j1 g1 g2 e=>by
   subst e;exact ek (hi.rZ n t k u (t.jC-1) i j1 ht sb ae g1 hj g2).1
  refine ⟨oZ.pr,by rw [hL];exact oZ.wt,oZ.s1,by rw [hL];exact oZ.kl,oZ.sl,fun j0 c0 e1 e2=>?_,fun i j1 c1 e0 e1 e2 e3=>?_,fun e=>⟨(oZ.w7 e).1,fun j0 c0 st e1 e2 e3=>?_⟩⟩
  ·have pW:(s.ly j c').calls[j0]?=some c0:=e2;rw [lO (hd 0 j0 uD e1)] at pW;rw [hL];exact oZ.b0 j0 c0 e1 pW
  ·have vX:(s.ly j c').calls[j1]?=some c1:=e3;rw [lO (hd i j1 e1 e2)] at vX;exact oZ.st i j1 c1 e0 e1 e2 vX
  ·have pW:(s.ly j c').calls[j0]?=some c0:=e2;rw [lO (hd (u.jC-1) j0 ae e1)] at pW;exact (oZ.w7 e).2 j0 c0 st e1 pW e3
def Okg (S:jv→Nat→jv) (f:Nat):Prop:=∀(s:jv) (n:Nat),Iv s→Gi s→s.jE.length+1001*f≤MM→s.ke.length+f≤MM→Gi (S s n)
theorem Vj {S:jv→Nat→jv} {f:Nat} (hS:Okg S f) {s:jv} (hi:Iv s) (h:Gi s) {n j:Nat} {t:jQ} {c:kh} (ht:s.tasks[n]?=some t) (jP:t.state<3) (mr:t.waits<0) (hj:t.jZ[t.jC-1]?=some j) (hc:s.calls[j]?=some c) (hp:c.pc<c.code.steps.length)
 (hN:t.jC=1→∀st,c.code.steps[c.pc.toNat]?=some st→st.op=6→∃kc:Nat,getM t.kg c.pc=some (kc:Int)∧kc<s.tasks.length)
 (pH:s.jE.length+1001*f≤MM) (nV:s.ke.length+f≤MM):Gi (sK S s n j):=by
 have pB:=hi.jH n t ht;unfold sK;rw [ht,hc];simp only;cases Rh:tv (s.ly j { c with pc:=c.pc+1 }).calls t.jZ (t.jC-1) j with
 | none =>
   have i1:=hi.go (t':=j9 { t with jC:=1 } 3) ht hj hc hp rfl (by show 1≤_;omega) (by show 0<1;omega) rfl rfl rfl rfl cE mr (.inr cG) (fun e=>by have:(2:Int)=1:=e;omega);exact hS _ n i1 (h.go hi ht hj hc rfl (by show 1≤_;omega) rfl rfl rfl mr (fun e=>by have:(2:Int)=1:=e;omega) hN) pH nV
 | some m =>
   obtain ⟨p1,p2⟩:=Vk Rh hj;exact h.go hi ht hj hc rfl (by show m+1≤_;omega) rfl rfl rfl mr (fun e=>((h.ta n t ht).s1 e).1) hN
theorem aiQ {s:jv} (h:Gi s) {p e:Nat} {tp:jQ} (ht:s.tasks[p]?=some tp) (hw:0≤tp.waits):Gi (qT s p tp e):=by
 have za:=((h.ta p tp ht).w7 hw).1;have hT:∀(b k:Nat),T1 tp { tp with waits:=-1,state:=1,lB:=some b,jX:=k }:=fun b k=>⟨rfl,rfl,rfl,rfl,rfl,.inr rfl,fun _=>⟨za,by show (-1:Int)<0;omega⟩,fun _=>za⟩
 have h0:Gi (s.o9 [e]):=h.eqs rfl rfl rfl rfl;have h1:Gi (tL s p tp e):=h0.jF (t:=tp) ht (hT s.ke.length tp.jX);unfold qT;split
 ·split
  ·have e2:((tL s p tp e).ld (oH (s.jE.getD tp.jX []) (s.jE.getD e []))).jF p { tp with waits:=-1,state:=1,lB:=some s.ke.length,jX:=s.jE.length }=((s.o9 [e]).ld (oH (s.jE.getD tp.jX []) (s.jE.getD e []))).jF p { tp with waits:=-1,state:=1,lB:=some s.ke.length,jX:=s.jE.length }:=by
    simp [tL,jv.jF,jv.ld,jv.o9]
   rw [e2];have h2:Gi ((s.o9 [e]).ld (oH (s.jE.getD tp.jX []) (s.jE.getD e []))):=h0.eqs rfl rfl rfl rfl;exact h2.jF (t:=tp) ht (hT _ _)
  ·exact h1
 ·exact h1
theorem Ut {s:jv} {p e:Nat} {tp:jQ} (ht:s.tasks[p]?=some tp):∃t,(qT s p tp e).tasks[p]?=some t∧t.state=1∧t.waits = -1∧t.jZ=tp.jZ∧t.jC=tp.jC∧t.ending=tp.ending:=by
 have h1:(tL s p tp e).tasks[p]?=some { tp with waits:=-1,state:=1,lB:=some s.ke.length }:=lq ht;unfold qT;split
 ·split
  ·exact ⟨_,lq (s:=(tL s p tp e).ld _) h1,rfl,rfl,rfl,rfl,rfl⟩
  ·exact ⟨_,h1,rfl,rfl,rfl,rfl,rfl⟩
 ·exact ⟨_,h1,rfl,rfl,rfl,rfl,rfl⟩
theorem OL:∀f:Nat,Okg (oe f) f:=by
 intro f
 induction f with
 | zero=>intro s n _ h _ _;exact h
 | succ f ih =>
   intro s n h hg pH nV;simp only [oe];split
   ·exact hg
   ·rename_i t ht;split
    ·exact hg
    ·rename_i lK;obtain ⟨a1,a2,a3,a4⟩:=h.wf.kQ t (dx ht);have pR:=(h.wf.tF t (dx ht)).2;obtain ⟨k1,k2,k3,k4,k5⟩:=Pe t.kids s t.jX h a3 ae;split
     ·rename_i s1 e hk;rw [hk] at k3;simp only at k3;rw [k3];exact hg.eqs rfl rfl rfl rfl
     ·rename_i s1 e hk;rw [hk] at k1 k2 k3 k4 k5;simp only at k1 k2 k3 k4 k5;have re:s1.tasks=s.tasks:=by rw [k3]
      have Kw:s1.calls=s.calls:=by rw [k3]
      have lR:s1.ke=s.ke:=by rw [k3]
      have lr:s1.tasks[n]?=some t:=by rw [re];exact ht
      have AU:Gi s1:=by rw [k3];exact hg.eqs rfl rfl rfl rfl
      have i2:=k1.end lr k2 (fun g=>lK (.inl g));have BL:=h.ed n t ht;have g2:Gi ((s1.oa n e).jF n { t with state:=t.ending }):=by
       have:Gi (s1.oa n e):=AU.eqs rfl rfl rfl rfl;refine this.jF (t:=t) lr ⟨rfl,rfl,rfl,rfl,rfl,.inl rfl,fun g=>?_,fun g=>((AU.ta n t lr).w7 g).1⟩;have:t.ending=1:=g;omega
      split
      ·exact g2
      ·rename_i we;split
       ·exact AU
       ·rename_i tp ns;have EY:t.par.toNat≠n:=by
         rcases h.par n t ht with e1|⟨p,e1,e2⟩
         ·omega
         ·rw [e1];simp;omega
        have uR:((s1.oa n e).jF n { t with state:=t.ending }).tasks[t.par.toNat]?=some tp:=by rw [mw (fun g=>EY g.symm)];exact ns
        split
        ·rename_i mr;have hw:=Mi (e:=e) i2 uR ae k2 (by show s1.ke.length<_;rw [lR];omega) (by show s1.jE.length<_;omega);obtain ⟨tq,q1,q2,q3,q4,q5,q6⟩:=Ut (e:=e) uR;obtain ⟨c,c1,c2⟩:=JE i2 uR;have zW:c.pc<c.code.steps.length:=i2.rr _ tp _ c uR (.inr ae) c1 c2;have NM:(qT ((s1.oa n e).jF n { t with state:=t.ending }) t.par.toNat tp e).jE.length≤s1.jE.length+1:=hw.pl;have BO:(qT ((s1.oa n e).jF n { t with state:=t.ending }) t.par.toNat tp e).ke.length=s.ke.length+1:=by rw [hw.bl];show s1.ke.length+1=_;rw [lR]
         have h7:=((g2.ta _ tp uR).w7 ae).2;exact Vj ih hw.iv (aiQ g2 uR ae) q1 ae ae (by rw [q4,q5];exact c1) (by rw [hw.cl];exact c2) zW (fun _ st g1 g3=>by have:=h7 _ c st c1 c2 g1;omega) ae ae
        ·exact ih _ t.par.toNat i2 g2 (by show s1.jE.length+_≤_;omega) (by show s1.ke.length+_≤_;rw [lR];omega)
structure Zs (s s':jv) (n:Nat):Prop where
 p:s'.p=s.p
 sched:s'.sched=s.sched
 used:s'.used=s.used
 jL:s'.jL=s.jL
 lines:s'.lines=s.lines
 jT:s'.jT=s.jT
 calls:s'.calls=s.calls
 acl:s'.jV.length=s.jV.length
 bl:s'.ke=s.ke
 tl:s'.tasks.length=s.tasks.length
 tk:∀(k:Nat) (t':jQ),s'.tasks[k]?=some t'→∃t,s.tasks[k]?=some t∧t'={ t with jX:=t'.jX,has:=t'.has,lB:=t'.lB }
theorem Zs.refl (s:jv) (n:Nat):Zs s s n:=⟨rfl,rfl,rfl,rfl,rfl,rfl,rfl,rfl,rfl,rfl,fun k t h=>⟨t,h,rfl⟩⟩
theorem Zs.trans {s s1 s2:jv} {n:Nat} (h:Zs s s1 n) (g:Zs s1 s2 n):Zs s s2 n:=
 ⟨g.p.trans h.p,g.sched.trans h.sched,g.used.trans h.used,g.jL.trans h.jL,g.lines.trans h.lines,g.jT.trans h.jT,g.calls.trans h.calls,g.acl.trans h.acl,g.bl.trans h.bl,g.tl.trans h.tl,fun k t2 e=>by
  obtain ⟨t1,e1,f1⟩:=g.tk k t2 e;obtain ⟨t,e0,f0⟩:=h.tk k t1 e1;refine ⟨t,e0,?_⟩;rw [f0] at f1;exact f1⟩
theorem Zs.gi {s s':jv} {n:Nat} (h:Zs s s' n) (hg:Gi s):Gi s':=by
 refine hg.same h.p h.jL h.calls h.tl fun k t' e=>?_;obtain ⟨t,e0,f0⟩:=h.tk k t' e;have ht:=hg.ta k t e0;refine ⟨t,e0,?_⟩;rw [f0];exact ⟨rfl,rfl,rfl,rfl,rfl,.inl rfl,ht.s1,fun g=>(ht.w7 g).1⟩
theorem Zs.jF {s:jv} {n k:Nat} {t':jQ} (h:∀t,s.tasks[k]?=some t→t'={ t with jX:=t'.jX,has:=t'.has,lB:=t'.lB }):Zs s (s.jF k t') n:=
 ⟨rfl,rfl,rfl,rfl,rfl,rfl,rfl,rfl,rfl,lY,fun i u e=>by
  by_cases ei:k=i
  ·subst ei;have kn:=(dt e).1;rw [lY] at kn;have h1:=dy kn;rw [lq h1] at e;injection e with e;subst e;exact ⟨_,h1,h _ h1⟩
  ·rw [mw ei] at e;exact ⟨u,e,rfl⟩⟩
theorem Zs.eqs {s s':jv} {n:Nat} (p:s'.p=s.p) (sched:s'.sched=s.sched) (used:s'.used=s.used) (jL:s'.jL=s.jL) (lines:s'.lines=s.lines) (jT:s'.jT=s.jT) (calls:s'.calls=s.calls) (acl:s'.jV.length=s.jV.length) (bl:s'.ke=s.ke) (tl:s'.tasks=s.tasks):Zs s s' n:=
 ⟨p,sched,used,jL,lines,jT,calls,acl,bl,by rw [tl],fun k t h=>⟨t,by rw [← tl];exact h,rfl⟩⟩
theorem PG (s:jv) (n x:Nat):Zs s (uT s n x) n:=by
 unfold uT;have h1:Zs s (s.ld (oH (te s (jJ s n).jX) (te s x))) n:=Zs.eqs rfl rfl rfl rfl rfl rfl rfl rfl rfl rfl;refine h1.trans (Zs.jF fun t ht=>?_);have:s.tasks[n]?=some t:=ht;rw [oG this]
theorem alD (s:jv) (n:Nat):Zs s (qf s n) n:=by
 unfold qf;split
 ·exact .refl s n
 ·exact PG ..
theorem alE (s:jv) (n:Nat):Zs s (vH s n) n:=by
 unfold vH;exact .jF fun t ht=>by rw [oG ht]
theorem anW (s:jv) (n:Nat) (st:kG):Zs s (se s n st) n:=by
 unfold se;split
 ·exact PG ..
 ·exact .refl s n
theorem anX (s:jv) (n:Nat) (b:Bool) (a:Int):Zs s (sZ s n b a) n:=by
 unfold sZ;split
 ·exact PG ..
 ·exact .refl s n
theorem aiR (s:jv) (n:Nat) (x:Int):Zs s (xl s n x) n:=.eqs rfl rfl rfl rfl rfl rfl rfl rfl rfl rfl
theorem alF (s:jv) (n:Nat) (b:Bool) (a:Int):Zs s (tz s n b a) n:=by
 unfold tz;split
 ·exact .eqs rfl rfl rfl rfl rfl rfl rfl ah rfl rfl
 ·exact .refl s n
theorem anY (s:jv) (n:Nat):Zs s (Ad s n) n:=.eqs rfl rfl rfl rfl rfl rfl rfl rfl rfl rfl
theorem VX (s:jv) (n:Nat) (v:Int):Zs s (tw s n v) n:=by
 unfold tw;exact .jF fun t ht=>by rw [oG ht]
theorem aiS (s:jv) (n:Nat):Zs s (rI s n) n:=.eqs rfl rfl rfl rfl rfl rfl rfl rfl rfl rfl
theorem DS (s:jv) (n:Nat) (c:kh) (st:kG):Zs s (rz s n c st) n:=by
 unfold rz;exact ((((((((aiS s n).trans (alD _ n)).trans (alE _ n)).trans (anW _ n st)).trans (anX _ n _ _)).trans (aiR _ n _)).trans (alF _ n _ _)).trans (anY _ n)).trans (VX _ n _)
theorem LW (s:jv) (n:Nat) (c:kh) (st:kG):(rz s n c st).turns=s.turns++[(n:Int)]∧(rz s n c st).kK.length=s.kK.length+1:=by
 have hb:∀s:jv,(qf s n).turns=s.turns∧(qf s n).kK=s.kK:=fun s=>by
  unfold qf;split
  ·exact ⟨rfl,rfl⟩
  ·exact ⟨rfl,rfl⟩
 have hw:∀s:jv,(se s n st).turns=s.turns∧(se s n st).kK=s.kK:=fun s=>by
  unfold se;split
  ·exact ⟨rfl,rfl⟩
  ·exact ⟨rfl,rfl⟩
 have ha:∀(s:jv) (b:Bool) (a:Int),(sZ s n b a).turns=s.turns∧(sZ s n b a).kK=s.kK:=fun s b a=>by
  unfold sZ;split
  ·exact ⟨rfl,rfl⟩
  ·exact ⟨rfl,rfl⟩
 have hs:∀(s:jv) (b:Bool) (a:Int),(tz s n b a).turns=s.turns∧(tz s n b a).kK=s.kK:=fun s b a=>by
  unfold tz;split
  ·exact ⟨rfl,rfl⟩
  ·exact ⟨rfl,rfl⟩
 unfold rz;constructor
 ·show (tz (xl (sZ (se (vH (qf (rI s n) n) n) n st) n (lZ s c st) (ud c st)) n s.turns.length) n (lZ s c st) (ud c st)).turns=_;rw [(hs _ _ _).1];show (sZ (se (vH (qf (rI s n) n) n) n st) n (lZ s c st) (ud c st)).turns=_;rw [(ha _ _ _).1,(hw _).1];show (qf (rI s n) n).turns=_;rw [(hb _).1];rfl
 ·show ((tz (xl (sZ (se (vH (qf (rI s n) n) n) n st) n (lZ s c st) (ud c st)) n s.turns.length) n (lZ s c st) (ud c st)).kK++[_]).length=_;rw [(hs _ _ _).2];show ((sZ (se (vH (qf (rI s n) n) n) n st) n (lZ s c st) (ud c st)).kK++[_]).length=_;rw [(ha _ _ _).2,(hw _).2];show ((qf (rI s n) n).kK++[_]).length=_;rw [(hb _).2];simp [rI]
structure Sz (s:jv):Prop where
 us:0≤s.used∧s.used≤s.sched.length
 sl:s.sched.length≤200
 ck:s.kK.length≤s.turns.length
 ac:s.jT.length≤2*s.turns.length
 ln:s.lines.length≤s.turns.length
 cl:s.calls.length≤s.turns.length+1
 pl:s.jE.length≤50000+45000*(s.turns.length+s.tasks.length)
 bl:s.ke.length≤100+100*(s.turns.length+s.tasks.length)
 ob:s.jL.length≤200
 ao:s.p.mb.toNat≤s.jL.length
 al:s.jV.length=s.p.mb.toNat
 tn:s.turns.length≤2000
theorem zu {α:Type} {l:List α} {d x:α} {i:Nat} (h:l[i]?=some x):nth d l i=x:=by
 unfold nth;rw [dF,h];rfl
structure N7 (s:jv) (c:kh) (l:Lk) (k:Nat):Prop where
 lp:l.p=s.p
 lc:l.c=c.code
 own:l.own=k
 ok:Rg.D2 l
 me:(l.method=false∧c.jM = -1∧s.p.kT[k]?=some c.code)∨(l.method=true∧0≤c.jM∧c.jM<s.p.mb∧s.p.methods[k]?=some c.code)
theorem WE {s:jv} (hg:Gi s) {c:kh} (hc:c∈s.calls):∃l k,N7 s c l k:=by
 obtain ⟨_,h2,h3⟩:=hg.ok;rcases (hg.ca c hc).cd with ⟨a1,k,hk⟩|⟨a1,a2,k,hk⟩
 ·exact ⟨⟨s.p,Rg.mz s.p.kT k,k,false⟩,k,rfl,zu hk,rfl,h2 k (dt hk).1,.inl ⟨rfl,a1,hk⟩⟩
 ·exact ⟨⟨s.p,Rg.mz s.p.methods k,k,true⟩,k,rfl,zu hk,rfl,h3 k (dt hk).1,.inr ⟨rfl,a1,a2,hk⟩⟩
theorem anZ {s:jv} (hg:Gi s) {c:kh} {k:Nat} (ha:0≤c.jM) (hk:s.p.methods[k]?=some c.code) (hc:c∈s.calls):∃l,N7 s c l k∧l.method=true:=by
 obtain ⟨_,h2,h3⟩:=hg.ok;rcases (hg.ca c hc).cd with ⟨a1,_⟩|⟨a1,a2,_⟩
 ·omega
 ·exact ⟨⟨s.p,Rg.mz s.p.methods k,k,true⟩,⟨rfl,zu hk,rfl,h3 k (dt hk).1,.inr ⟨rfl,a1,a2,hk⟩⟩,rfl⟩
structure uS (s:jv) (n:Nat) (t:jQ) (j:Nat) (c:kh) (st:kG) (l:Lk) (k i:Nat):Prop where
 ht:s.tasks[n]?=some t
 hs:t.jC=i+1
 hj:t.jZ[i]?=some j
 hc:s.calls[j]?=some c
 cd:N7 s c l k
 dp:0<i→l.method=true∧k+i≤6
 b0:i=0→l.method=false
 pc:0≤c.pc∧c.pc<c.code.steps.length
 es:c.code.steps[c.pc.toNat]?=some st
 os:Rg.oP l c.pc st
theorem JJ {s:jv} (hi:Iv s) (hg:Gi s) {n:Nat} {t:jQ} (ht:s.tasks[n]?=some t) (h1:t.state=1):∃j c st l k i,uS s n t j c st l k i:=by
 obtain ⟨c,e1,e2⟩:=JE hi ht;have pB:=hi.jH n t ht;obtain ⟨i,oX⟩:∃i,t.jC=i+1:=⟨t.jC-1,ae⟩
 have hj:t.jZ[i]?=some (ye t):=by rw [oX] at e1;exact e1
 have xF:=dx e2;have uj:=hi.rr n t _ c ht (.inl h1) e1 e2;have wY:=(hi.qN c xF).1;obtain ⟨st,jP⟩:∃st,c.code.steps[c.pc.toNat]?=some st:=⟨_,dy ae⟩
 have py:=hg.ta n t ht;obtain ⟨l,k,mY,hd,hb⟩:∃l k,N7 s c l k∧(0<i→l.method=true∧k+i≤6)∧(i=0→l.method=false):=by
  by_cases e:i=0
  ·subst e;obtain ⟨l,k,h⟩:=WE hg xF;have ha:=(py.b0 _ c hj e2).1;refine ⟨l,k,h,fun h=>ae,fun _=>?_⟩;rcases h.me with ⟨m,_⟩|⟨_,m,_⟩
   ·exact m
   ·omega
  ·obtain ⟨a1,k,a2,a3⟩:=py.st i _ c ae ae hj e2;obtain ⟨l,h,hm⟩:=anZ hg a1 a2 xF;exact ⟨l,k,h,fun _=>⟨hm,a3⟩,fun h=>ae⟩
 refine ⟨_,c,st,l,k,i,ht,oX,hj,e2,mY,hd,hb,⟨wY,uj⟩,jP,?_⟩;have h2:=mY.ok.2 c.pc.toNat (by rw [mY.lc];omega);rw [mY.lc,dP wY] at h2;have e3:Rg.pF c.code.steps c.pc=st:=by
  have:=zu (d:=Rg.wO) jP;rw [dP wY] at this;exact this
 rw [e3] at h2;exact h2
theorem WL {l:List Cd} {i:Int} (h0:0≤i) (h1:i<l.length):l[i.toNat]?=some (Rg.mz l i):=by
 have:=dy (l:=l) (i:=i.toNat) ae;rw [this];have e:=zu (d:=Rg.yr) this;rw [dP h0] at e;rw [← e]
theorem uS.tok {s:jv} (hi:Iv s) (hg:Gi s) (hz:Sz s) {n j:Nat} {t:jQ} {c:kh} {st:kG} {l:Lk} {k i:Nat} (h:uS s n t j c st l k i) (h1:t.state=1) :
 Tok 80010 s n j t c st∧(0≤ud c st→(ud c st).toNat<s.jV.length):=by
 obtain ⟨ht,hs,hj,hc,mY,S9,EJ,uj,jP,ng⟩:=h;have xF:=dx hc;have y9:=hg.ca c xF;have py:=hg.ta n t ht;obtain ⟨⟨o1,o2,o3,o4,o5⟩,oc,om⟩:=hg.ok;obtain ⟨⟨q1,q2,q3,q4,q5⟩,_⟩:=mY.ok;rw [mY.lc] at q1 q2 q3 q4 q5;have kW:c.jM = -1∨(0≤c.jM∧c.jM<s.p.mb):=by
  rcases y9.cd with ⟨a,_⟩|⟨a,b,_⟩
  ·exact .inl a
  ·exact .inr ⟨a,b⟩
 have GZ:=vB;have hinv:∀vs:List Int,Rg.qR l.c.vars vs→∀v∈vs,mW c v:=fun vs hv v hm=>by
  obtain ⟨a,b⟩:=hv.1 v hm;rw [mY.lc] at b;exact ⟨a,by rw [y9.vl];omega⟩
 have aCT:st.vars.length≤4:=by
  unfold Rg.oP Rg.zB at ng;rw [mY.lp] at ng;rcases ng with h|h|h|h|h|h|h|h
  ·omega
  ·omega
  ·omega
  ·obtain ⟨_,_,_,_,a,b,_,e,_⟩:=h;have:=oc st.task.toNat ae;have:=this.1.2.1;simp only at this;rw [dP ae] at this;omega
  ·omega
  ·omega
  ·obtain ⟨_,_,_,_,a,b,_,e,_⟩:=h;have:=om st.task.toNat ae;have:=this.1.2.1;simp only at this;rw [dP ae] at this;omega
  ·omega
 have vK:1≤st.op∧st.op≤12:=by unfold Rg.oP at ng;omega
 have n9:=dx ht;have j6:=py.s1 h1;have hnT:=hi.wf.nT;have aDB:s.tasks.length≤32:=hnT;have nN:=hz.tn;have nG:=hz.pl;have lR:=hz.bl;have lK:=hz.cl;have tu:=hz.ac;have sW:=hz.ln;refine ⟨⟨hi,ht,hc,ae,⟨fun ho=>?_,fun ho=>?_,fun ho=>?_,y9.vo,ae⟩,fun x hx=>by have:=hg.ob x hx;omega,by have:=hz.ob;omega,ae,ae,by rw [hs];exact hj,uj.2,h1,j6.1,j6.2,⟨uj.1,ae⟩,ae,ae,ae,by have:=py.kl;omega,by have:=py.sl;omega,ae,vK,fun ho=>?_,fun ho=>?_,fun ho=>?_,fun ho=>?_⟩,fun ha=>?_⟩
 ·have:Rg.qR l.c.vars [st.v]∨Rg.qR l.c.vars [st.v,st.w]:=by
   unfold Rg.oP at ng;rcases ng with h|h|h|h|h|h|h|h
   ·exact .inl h.2.1
   ·exact .inr h.2.1
   ·exact .inl h.2.1
   all_goals omega
  rcases this with h|h
  ·exact hinv _ h _ ah
  ·exact hinv _ h _ ah
 ·have:Rg.qR l.c.vars [st.v,st.w]:=by
   unfold Rg.oP at ng;rcases ng with h|h|h|h|h|h|h|h
   ·omega
   ·exact h.2.1
   all_goals omega
  exact hinv _ this _ ah
 ·have:Rg.qR l.c.vars st.vars:=by
   unfold Rg.oP at ng;rcases ng with h|h|h|h|h|h|h|h
   ·omega
   ·omega
   ·omega
   ·exact h.2.2.2.2.2.2.2.2
   ·omega
   ·exact h.2.2.2.2.2.2.2.2
   ·exact h.2.2.2.2.2.2.2.2
   ·omega
  exact hinv _ this
 ·have:0<st.task∧st.task<s.p.kT.length∧(st.vars.length:Int)=(Rg.mz s.p.kT st.task).params:=by
   unfold Rg.oP at ng;rw [mY.lp] at ng;rcases ng with h|h|h|h|h|h|h|h
   ·omega
   ·omega
   ·omega
   ·exact ⟨h.2.2.2.2.1,h.2.2.2.2.2.1,h.2.2.2.2.2.2.2.1⟩
   all_goals omega
  obtain ⟨a,b,e⟩:=this;obtain ⟨⟨r1,r2,r3,r4,r5⟩,_⟩:=oc st.task.toNat ae;rw [dP ae] at r1 r2 r3 r4 r5;simp only [eG,jc] at r3;have Lx:(Rg.mz s.p.kT st.task).params≤(Rg.mz s.p.kT st.task).vars:=r3;have Ly:(Rg.mz s.p.kT st.task).vars≤8:=r4;have Ta:0≤(Rg.mz s.p.kT st.task).params:=r1;have N8:(Rg.mz s.p.kT st.task).steps.length≤20:=r5;exact ⟨ae,_,WL ae b,ae,ae,ae,ae⟩
 ·have:l.method=false∧Rg.spawn l c.pc st:=by
   unfold Rg.oP at ng;rcases ng with h|h|h|h|h|h|h|h
   ·omega
   ·omega
   ·omega
   ·omega
   ·exact ⟨h.2.2.1,h.2.2.2.2.1⟩
   all_goals omega
  obtain ⟨hm,⟨a,b⟩,e⟩:=this;have G6:i=0:=by
   by_cases e0:i=0
   ·exact e0
   ·have:=(S9 ae).1;rw [hm] at this;cases this
  rw [G6] at hj;rw [mY.lc] at e;have hsn:c.code.steps[st.n.toNat]?=some (Rg.pF c.code.steps st.n):=by
   have h3:=dy (l:=c.code.steps) (i:=st.n.toNat) ae;rw [h3];have e4:=zu (d:=Rg.wO) h3;rw [dP a] at e4;rw [← e4]
  have:=(py.b0 j c hj hc).2 st.n.toNat _ ae hsn e;rw [dP a] at this;exact this
 ·have:0≤st.n∧st.n<s.p.mb∧(1:Int)≤st.vars.length:=by
   unfold Rg.oP at ng;rw [mY.lp] at ng;rcases ng with h|h|h|h|h|h|h|h
   ·omega
   ·omega
   ·omega
   ·omega
   ·omega
   ·exact ⟨h.2.2.2.1,h.2.2.2.2.1,h.2.2.2.2.2.2.1⟩
   all_goals omega
  have:=hz.ao;omega
 ·have:0≤st.task∧st.task<s.p.methods.length∧(st.vars.length:Int)=(Rg.mz s.p.methods st.task).params:=by
   unfold Rg.oP at ng;rw [mY.lp] at ng;rcases ng with h|h|h|h|h|h|h|h
   ·omega
   ·omega
   ·omega
   ·omega
   ·omega
   ·omega
   ·exact ⟨h.2.2.2.2.1,h.2.2.2.2.2.1,h.2.2.2.2.2.2.2.1⟩
   ·omega
  obtain ⟨a,b,e⟩:=this;obtain ⟨⟨r1,r2,r3,r4,r5⟩,_⟩:=om st.task.toNat ae;rw [dP ae] at r1 r2 r3 r4 r5;simp only [jb] at r3;have Lx:(Rg.mz s.p.methods st.task).params+1≤(Rg.mz s.p.methods st.task).vars:=r3;have Ly:(Rg.mz s.p.methods st.task).vars≤8:=r4;have Ta:0≤(Rg.mz s.p.methods st.task).params:=r1;have N8:(Rg.mz s.p.methods st.task).steps.length≤20:=r5;exact ⟨ae,_,WL ae b,ae,ae,ae,ae⟩
 ·have xH:=hz.al;unfold ud at ha ⊢;split
  ·rename_i ho;rw [ja ho] at ha;have:st.n<s.p.mb:=by
    unfold Rg.oP at ng;rw [mY.lp] at ng;rcases ng with h|h|h|h|h|h|h|h
    ·omega
    ·omega
    ·omega
    ·omega
    ·omega
    ·exact h.2.2.2.2.1
    all_goals omega
   omega
  ·rename_i ho;rw [iZ ho] at ha;omega
theorem CW.up {s s':jv} {t:jQ} (h:CW s t) (uk:∀j∈t.jZ,j<s.calls.length) (hp:s'.p=s.p) (hl:s.tasks.length≤s'.tasks.length)
 (hc:∀(j:Nat) (c':kh),j<s.calls.length→s'.calls[j]?=some c'→∃c,s.calls[j]?=some c∧c'.code=c.code∧c'.jM=c.jM∧c'.pc=c.pc):CW s' t:=by
 have:=h.kl;have:=h.wt;refine ⟨h.pr,ae,h.s1,ae,h.sl,fun j c e1 e2=>?_,fun i j c e0 e1 e2 e3=>?_,fun g=>⟨(h.w7 g).1,fun j c st e1 e2 e3=>?_⟩⟩
 ·obtain ⟨c0,f1,f2,f3,f4⟩:=hc j c (uk j (dx e1)) e2;obtain ⟨b1,b2⟩:=h.b0 j c0 e1 f1;refine ⟨by rw [f3];exact b1,fun i st g1 g2 g3=>?_⟩;obtain ⟨kc,k1,k2⟩:=b2 i st (by rw [← f4];exact g1) (by rw [← f2];exact g2) g3;exact ⟨kc,k1,ae⟩
 ·obtain ⟨c0,f1,f2,f3,f4⟩:=hc j c (uk j (dx e2)) e3;obtain ⟨b1,k,b2,b3⟩:=h.st i j c0 e0 e1 e2 f1;exact ⟨by rw [f3];exact b1,k,by rw [hp,f2];exact b2,b3⟩
 ·obtain ⟨c0,f1,f2,f3,f4⟩:=hc j c (uk j (dx e1)) e2;exact (h.w7 g).2 j c0 st e1 f1 (by rw [← f2,← f4];exact e3)
theorem CV.up {p:Tk} {n n':Nat} {c:kh} (h:CV p n c) (hn:n≤n'):CV p n' c:=⟨h.cd,h.vl,fun x hx=>by have:=h.vo x hx;omega⟩
theorem PH {s:jv} (hi:Iv s) {n:Nat} {t:jQ} (ht:s.tasks[n]?=some t):∀j∈t.jZ,j<s.calls.length:=(hi.wf.kQ t (dx ht)).1
theorem Gi.CS {s:jv} (hi:Iv s) (h:Gi s) {j i:Nat} {c:kh} {x:Int} (hc:s.calls[j]?=some c) (hx:x<s.jL.length):Gi (s.ly j { c with vars:=c.vars.set i x }):=by
 have y9:=h.ca c (dx hc);refine ⟨h.ok,h.ob,fun y hy=>?_,fun n t ht=>(h.ta n t ht).up (PH hi ht) rfl (dD _) fun k c' hk e=>?_⟩
 ·rcases eu hy with hy|rfl
  ·exact h.ca y hy
  ·refine ⟨y9.cd,by simp only [dW];exact y9.vl,fun z hz=>?_⟩;rcases eu hz with hz|rfl
   ·exact y9.vo z hz
   ·exact hx
 ·by_cases e2:j=k
  ·subst e2;rw [yw hc] at e;injection e with e;subst e;exact ⟨c,hc,rfl,rfl,rfl⟩
  ·rw [Bk e2] at e;exact ⟨c',e,rfl,rfl,rfl⟩
theorem Gi.ll {s:jv} (h:Gi s) {n:Int} (hn:-1000≤n∧n≤1000):Gi (s.ll n):=by
 have hl:(s.ll n).jL.length=s.jL.length+1:=by simp [jv.ll]
 refine ⟨h.ok,fun x hx=>?_,fun c hc=>by rw [hl];exact (h.ca c hc).up (fi _),fun k t ht=>⟨(h.ta k t ht).pr,(h.ta k t ht).wt,(h.ta k t ht).s1,(h.ta k t ht).kl,(h.ta k t ht).sl,(h.ta k t ht).b0,(h.ta k t ht).st,(h.ta k t ht).w7⟩⟩;rw [hl];simp only [jv.ll,eg,dz] at hx;rcases hx with hx|rfl
 ·have:=h.ob x hx;omega
 ·simp only;omega
theorem Gi.n7 {s:jv} (h:Gi s) {o:Nat} {x:Int×Int} (hx:-1000≤x.1∧x.1≤1000) (hy:x.2<s.jL.length):Gi (s.n7 o x):=by
 have hl:(s.n7 o x).jL.length=s.jL.length:=by simp [jv.n7]
 refine ⟨h.ok,fun y hy=>?_,fun c hc=>by rw [hl];exact h.ca c hc,fun k t ht=>⟨(h.ta k t ht).pr,(h.ta k t ht).wt,(h.ta k t ht).s1,(h.ta k t ht).kl,(h.ta k t ht).sl,(h.ta k t ht).b0,(h.ta k t ht).st,(h.ta k t ht).w7⟩⟩;rw [hl];rcases eu hy with hy|rfl
 ·exact h.ob y hy
 ·exact ⟨hx.1,hx.2,bM⟩
theorem Gi.kF {s:jv} (hi:Iv s) (h:Gi s) {c:kh} (hc:CV s.p s.jL.length c):Gi (s.kF c):=by
 refine ⟨h.ok,h.ob,fun y hy=>?_,fun n t ht=>(h.ta n t ht).up (PH hi ht) rfl (dD _) fun k c' hk e=>?_⟩
 ·simp only [jv.kF,eg,dz] at hy;rcases hy with hy|rfl
  ·exact h.ca y hy
  ·exact hc
 ·rw [Cw ae] at e;exact ⟨c',e,rfl,rfl,rfl⟩
theorem Gi.lJ {s:jv} (hi:Iv s) (h:Gi s) {t:jQ} (hg:CW (s.lJ t) t):Gi (s.lJ t):=by
 refine ⟨h.ok,h.ob,h.ca,fun n u hu=>?_⟩;rcases Bm hu with ⟨e1,e2⟩|⟨e1,rfl⟩
 ·exact (h.ta n u e2).up (PH hi e2) rfl (by simp [jv.lJ]) fun k c' hk e=>⟨c',e,rfl,rfl,rfl⟩
 ·exact hg
theorem Gi.mx {s:jv} (h:Gi s) (l:List Nat):Gi (mx s l):=by
 refine h.same rfl rfl rfl vy fun n t' e=>?_;obtain ⟨t,e1,rfl⟩:=JI e;have:=h.ta n t e1;refine ⟨t,e1,?_⟩;split
 ·exact ⟨rfl,rfl,rfl,rfl,rfl,.inl rfl,this.s1,fun g=>(this.w7 g).1⟩
 ·exact .refl this
theorem VY {s:jv} (h:Iv s) (hg:Gi s) {n:Nat} {t:jQ} (ht:s.tasks[n]?=some t) (mr:t.waits<0) (pH:s.jE.length+40000≤MM) (nV:s.ke.length+40≤MM):Gi (sL s n):=by
 have hw:=h.wf;have hn:=(dt ht).1;have uX:=h.kd.kd n t ht;have sR:=hw.nT;obtain ⟨f,hf⟩:∃f,f=n+1:=⟨_,rfl⟩
 have Kx:f≤32:=ae;have Ae:s.jE.length+1001*f≤MM:=ae;have ui:s.ke.length+f≤MM:=ae;have vU:n∉t.kids.flatMap fun k=>pI s (s.tasks.length) k.toNat:=by
  intro hm;obtain ⟨k,h1,h2⟩:=List.mem_flatMap.1 hm;obtain ⟨j,rfl,h3,h4⟩:=uX k h1;have:=PY h.kd _ _ _ h2;rw [dF] at this;omega
 have pg:(oS s t.kids).tasks[n]?=some t:=by unfold oS;rw [Bl ht,iZ vU]
 have yX:Iv (oS s t.kids):=h.can _;obtain ⟨a1,a2,a3,a4⟩:=yX.wf.kQ t (dx pg);have A3:Iv ((oS s t.kids).jF n (j9 t 4)):=yX.jF pg rfl (dD _) (yX.jH n t pg) rfl rfl a3 a4 (fun e=>absurd e (by show ¬(3:Int)≤2;omega)) (fun e=>absurd e (by show ¬ 0≤t.waits;omega)) (.inr (by show (3:Int)≤4;omega)) (fun e=>by
  rcases e with e|e
  ·have:(2:Int)=1:=e;omega
  ·have:0≤t.waits:=e;omega)
 have hE:sL s n=oe f ((oS s t.kids).jF n (j9 t 4)) n:=by unfold sL;rw [ht,hf]
 rw [hE];have rL:Gi (oS s t.kids):=hg.mx _;refine OL f _ n A3 (rL.jF pg ⟨rfl,rfl,rfl,rfl,rfl,.inl rfl,fun e=>?_,fun e=>?_⟩) Ae ui
 ·have:(2:Int)=1:=e;omega
 ·have:0≤t.waits:=e;omega
theorem CV.new {p:Tk} {no k:Nat} {cd:Cd} {vs:List Int} {a:Int} (hk:(a = -1∧p.kT[k]?=some cd)∨(0≤a∧a<p.mb∧p.methods[k]?=some cd)) (nH:0≤cd.vars) (hl:vs.length≤cd.vars) (kV:∀x∈vs,x<(no:Int)):CV p no (lQ cd vs a):=by
 refine ⟨?_,?_,fun x hx=>?_⟩
 ·rcases hk with ⟨h1,h2⟩|⟨h1,h2,h3⟩
  ·exact .inl ⟨h1,k,h2⟩
  ·exact .inr ⟨h1,h2,k,h3⟩
 ·simp only [lQ,dK,eB];omega
 ·simp only [lQ,eg,List.mem_replicate] at hx;rcases hx with hx|⟨_,rfl⟩
  ·exact kV x hx
  ·omega
theorem UJ {s:jv} (h:Iv s) (hg:Gi s) {k:Nat} {c:Cd} {vs a:List Int} {prio par:Int} {canc:Bool} (h0:s.tasks.length<32) (hC:s.calls.length<MM) (hP:s.jE.length+40000≤MM) (hB:s.ke.length+40≤MM) (ha:a.length=32) (nH:0≤c.vars) (lI:c.vars≤1000) (kV:vs.length≤c.vars) (mh:c.steps.length≤1000)
 (we:par = -1∨∃p:Nat,par=(p:Int)∧p<s.tasks.length) (hk:s.p.kT[k]?=some c) (AZ:0≤prio∧prio≤3) (Tb:∀x∈vs,x<(s.jL.length:Int)):Gi (oU s c vs a prio par canc):=by
 have lT:∀t':jQ,t'.jZ=[s.calls.length]→t'.jC=1→t'.kids=[]→t'.jX=s.jE.length→t'.lB=none→t'.state<3→(t'.ending=0∨3≤t'.ending)→t'.waits = -1→t'.par=par→(t'.state=1→0<c.steps.length)→Iv (((s.kF (lQ c vs (-1))).ld a).lJ t'):=fun t' b1 b2 b3 b4 b5 b6 b7 b8 b9 zZ =>
  PI (prio:=prio) (par:=par) (canc:=canc) h h0 hC ae ha lI ae mh b1 b2 b3 b4 b5 b6 b7 b8 (by rw [b9];exact we) zZ
 have Tc:Iv ((s.kF (lQ c vs (-1))).ld a):=(h.kF hC bE mh ⟨fy _,by show (0:Int)≤_;omega⟩).ld (by show s.jE.length<_;omega) ha;have AU:Gi ((s.kF (lQ c vs (-1))).ld a):=(hg.kF h (.new (k:=k) (.inl ⟨rfl,hk⟩) nH kV Tb)).eqs rfl rfl rfl rfl;have BS:∀t':jQ,t'.jZ=[s.calls.length]→t'.jC=1→t'.kids=[]→t'.prio=prio→t'.waits = -1→(t'.state=1→t'.ending=0)→Gi (((s.kF (lQ c vs (-1))).ld a).lJ t'):=fun t' b1 b2 b3 b4 b5 b6=>by
  refine AU.lJ Tc ⟨by rw [b4];exact AZ,by rw [b5];omega,fun e=>⟨b6 e,by rw [b5];omega⟩,by rw [b3];exact dL _,by rw [b1];show 1≤7;omega,fun j c0 e1 e2=>?_,fun i j c0 e0 e1=>ae,fun e=>ae⟩;rw [b1] at e1;simp only [gQ,fA] at e1;subst e1;have pW:(s.kF (lQ c vs (-1))).calls[s.calls.length]?=some c0:=e2;rw [zm] at pW;injection pW with pW;subst pW;exact ⟨rfl,fun i st g1=>by have:(i:Int)<0:=g1;omega⟩
 have hl:∀t':jQ,(((s.kF (lQ c vs (-1))).ld a).lJ t').tasks.length=s.tasks.length+1:=fun t'=>cu;have hp:∀t':jQ,(((s.kF (lQ c vs (-1))).ld a).lJ t').jE.length=s.jE.length+1:=fun t'=>cu;have hb:∀t':jQ,(((s.kF (lQ c vs (-1))).ld a).lJ t').ke.length=s.ke.length:=fun t'=>rfl;unfold oU;split
 ·rename_i l5;obtain ⟨t,ht⟩:∃t,t=mN s.calls.length prio canc par s.jE.length:=⟨_,rfl⟩
  have he:(zw s c vs a prio par canc).jF s.tasks.length (j9 t 3)=((s.kF (lQ c vs (-1))).ld a).lJ (j9 t 3):=L9 (s:=(s.kF (lQ c vs (-1))).ld a);rw [← ht,he];have hI:=lT (j9 t 3) bt bt bt bt bt cE (.inr cG) bt bt (fun e=>by have:(2:Int)=1:=e;omega);have hG:=BS (j9 t 3) bt bt bt bt bt (fun e=>by have:(2:Int)=1:=e;omega);obtain ⟨f,hf⟩:∃f,f=s.tasks.length+1:=⟨_,rfl⟩
  rw [← hf];have Kx:f≤32:=ae;have Ae:s.jE.length+1+1001*f≤MM:=ae;have ui:s.ke.length+f≤MM:=ae;exact OL f _ s.tasks.length hI hG (by rw [hp];exact Ae) (by rw [hb];exact ui)
 ·exact BS _ rfl rfl rfl rfl rfl (fun _=>rfl)
theorem Gi.lU {s:jv} (h:Gi s) {n k:Nat} {t:jQ} {sp:List (Int×Int)} (ht:s.tasks[n]?=some t) (hk:t.kids.length+1≤s.tasks.length) (rB:∀(i:Nat) (kc:Nat),getM t.kg i=some (kc:Int)→kc<s.tasks.length→∃kc2:Nat,getM sp i=some (kc2:Int)∧kc2<s.tasks.length):Gi (s.jF n { t with kids:=t.kids++[(k:Int)],kg:=sp }):=by
 have py:=h.ta n t ht;have hL:(s.jF n { t with kids:=t.kids++[(k:Int)],kg:=sp }).tasks.length=s.tasks.length:=lY;refine ⟨h.ok,h.ob,h.ca,fun i u hu=>?_⟩;by_cases e:n=i
 ·subst e;rw [lq ht] at hu;injection hu with hu;subst hu;refine ⟨py.pr,by rw [hL];exact py.wt,py.s1,by rw [hL];simp;omega,py.sl,fun j c e1 e2=>?_,py.st,py.w7⟩;obtain ⟨b1,b2⟩:=py.b0 j c e1 e2;refine ⟨b1,fun i st g1 g2 g3=>?_⟩;obtain ⟨kc,k1,k2⟩:=b2 i st g1 g2 g3;rw [hL];exact rB i kc k1 k2
 ·rw [mw e] at hu;have oZ:=h.ta i u hu;exact ⟨oZ.pr,by rw [hL];exact oZ.wt,oZ.s1,by rw [hL];exact oZ.kl,oZ.sl,fun j c e1 e2=>by rw [hL];exact oZ.b0 j c e1 e2,oZ.st,oZ.w7⟩
theorem Gi.IY {s:jv} (h:Gi s) {n J k:Nat} {t:jQ} {cJ:kh} (ht:s.tasks[n]?=some t) (pB:0<t.jC) (mV:t.jC≤t.jZ.length) (hJ:s.calls[J]?=some cJ) (kW:0≤cJ.jM) (hk:s.p.methods[k]?=some cJ.code) (hd:k+t.jC≤6) (hw:t.waits<0):Gi (s.jF n { t with jZ:=oW t.jZ t.jC J,jC:=t.jC+1 }):=by
 have py:=h.ta n t ht;have hL:(s.jF n { t with jZ:=oW t.jZ t.jC J,jC:=t.jC+1 }).tasks.length=s.tasks.length:=lY;have hold:∀i,i<t.jC→(oW t.jZ t.jC J)[i]?=t.jZ[i]?:=fun i hi=>by
  unfold oW;split
  ·rw [dS ae]
  ·rw [dA ae]
 have xm:(oW t.jZ t.jC J)[t.jC]?=some J:=by
  unfold oW;split
  ·rename_i h1;rw [ee h1]
  ·rename_i h1;rw [dJ ae,show t.jC-t.jZ.length=0 by omega];rfl
 refine ⟨h.ok,h.ob,h.ca,fun i u hu=>?_⟩;by_cases e:n=i
 ·subst e;rw [lq ht] at hu;injection hu with hu;subst hu;refine ⟨py.pr,by rw [hL];exact py.wt,py.s1,by rw [hL];exact py.kl,?_,fun j c e1 e2=>?_,fun i j c e0 e1 e2 e3=>?_,fun g=>absurd g (by show ¬ 0≤t.waits;omega)⟩
  ·show (oW t.jZ t.jC J).length≤7;rw [Hz mV];have:=py.sl;split<;>omega
  ·have Lz:(oW t.jZ t.jC J)[0]?=some j:=e1;rw [hold 0 pB] at Lz;rw [hL];exact py.b0 j c Lz e2
  ·have Lz:i<t.jC+1:=e1;have pW:(oW t.jZ t.jC J)[i]?=some j:=e2;have vX:s.calls[j]?=some c:=e3;by_cases ei:i=t.jC
   ·subst ei;rw [xm] at pW;injection pW with pW;subst pW;rw [hJ] at vX;injection vX with vX;subst vX;exact ⟨kW,k,hk,hd⟩
   ·rw [hold i ae] at pW;exact py.st i j c e0 ae pW vX
 ·rw [mw e] at hu;have oZ:=h.ta i u hu;exact ⟨oZ.pr,by rw [hL];exact oZ.wt,oZ.s1,by rw [hL];exact oZ.kl,oZ.sl,fun j c e1 e2=>by rw [hL];exact oZ.b0 j c e1 e2,oZ.st,oZ.w7⟩
theorem Gi.wait {s:jv} (h:Gi s) {n kc:Nat} {t:jQ} (ht:s.tasks[n]?=some t) (hk:kc<s.tasks.length) (za:t.ending=0) (h7:∀(j:Nat) (c:kh) (st:kG),t.jZ[t.jC-1]?=some j→s.calls[j]?=some c→c.code.steps[c.pc.toNat]?=some st→st.op=7):Gi (s.jF n { t with waits:=(kc:Int),state:=2 }):=by
 have py:=h.ta n t ht;have hL:(s.jF n { t with waits:=(kc:Int),state:=2 }).tasks.length=s.tasks.length:=lY;refine ⟨h.ok,h.ob,h.ca,fun i u hu=>?_⟩;by_cases e:n=i
 ·subst e;rw [lq ht] at hu;injection hu with hu;subst hu;refine ⟨py.pr,by rw [hL];show (kc:Int)<_;omega,fun e=>by have:(2:Int)=1:=e;omega,by rw [hL];exact py.kl,py.sl,fun j c e1 e2=>by rw [hL];exact py.b0 j c e1 e2,py.st,fun _=>⟨za,h7⟩⟩
 ·rw [mw e] at hu;have oZ:=h.ta i u hu;exact ⟨oZ.pr,by rw [hL];exact oZ.wt,oZ.s1,by rw [hL];exact oZ.kl,oZ.sl,fun j c e1 e2=>by rw [hL];exact oZ.b0 j c e1 e2,oZ.st,oZ.w7⟩
structure Fx (s s':jv):Prop where
 p:s'.p=s.p
 sched:s'.sched=s.sched
 used:s'.used=s.used
 jL:s'.jL=s.jL
 lines:s'.lines=s.lines
 jT:s'.jT=s.jT
 turns:s'.turns=s.turns
 kK:s'.kK=s.kK
 jV:s'.jV=s.jV
theorem Fx.refl (s:jv):Fx s s:=⟨rfl,rfl,rfl,rfl,rfl,rfl,rfl,rfl,rfl⟩
theorem Fx.trans {s s1 s2:jv} (h:Fx s s1) (g:Fx s1 s2):Fx s s2:=⟨g.p.trans h.p,g.sched.trans h.sched,g.used.trans h.used,g.jL.trans h.jL,g.lines.trans h.lines,g.jT.trans h.jT,g.turns.trans h.turns,g.kK.trans h.kK,g.jV.trans h.jV⟩
theorem aiT:∀(ks:List Int) (s:jv) (e:Nat),Fx s (o8 s e ks).1:=by
 intro ks
 induction ks with
 | nil=>intro s e;exact .refl s
 | cons k ks ih =>
   intro s e;simp only [o8];split
   ·split
    ·exact Fx.trans (s1:=s.ld _) ⟨rfl,rfl,rfl,rfl,rfl,rfl,rfl,rfl,rfl⟩ (ih _ _)
    ·exact .refl s
   ·exact .refl s
theorem Hy {S:jv→Nat→jv} (hS:∀s n,Fx s (S s n)) (s:jv) (n j:Nat):Fx s (sK S s n j):=by
 unfold sK;cases ht:s.tasks[n]? with
 | none=>exact .refl s
 | some t =>
   cases hc:s.calls[j]? with
   | none=>exact .refl s
   | some c =>
     simp only;split
     ·exact Fx.trans (s1:=(s.ly j { c with pc:=c.pc+1 }).jF n (j9 { t with jC:=1 } 3)) ⟨rfl,rfl,rfl,rfl,rfl,rfl,rfl,rfl,rfl⟩ (hS _ _)
     ·exact ⟨rfl,rfl,rfl,rfl,rfl,rfl,rfl,rfl,rfl⟩
theorem aiU (s:jv) (p:Nat) (tp:jQ) (e:Nat):Fx s (qT s p tp e):=by
 unfold qT;split
 ·split
  ·exact ⟨rfl,rfl,rfl,rfl,rfl,rfl,rfl,rfl,rfl⟩
  ·exact ⟨rfl,rfl,rfl,rfl,rfl,rfl,rfl,rfl,rfl⟩
 ·exact ⟨rfl,rfl,rfl,rfl,rfl,rfl,rfl,rfl,rfl⟩
theorem Fy:∀(f:Nat) (s:jv) (n:Nat),Fx s (oe f s n):=by
 intro f
 induction f with
 | zero=>intro s n;exact .refl s
 | succ f ih =>
   intro s n;simp only [oe];split
   ·exact .refl s
   ·rename_i t ht;split
    ·exact .refl s
    ·have hk:=aiT t.kids s t.jX;split
     ·rename_i s1 e he;rw [he] at hk;exact hk
     ·rename_i s1 e he;rw [he] at hk;have h2:Fx s ((s1.oa n e).jF n { t with state:=t.ending }):=hk.trans ⟨rfl,rfl,rfl,rfl,rfl,rfl,rfl,rfl,rfl⟩;split
      ·exact h2
      ·split
       ·exact hk
       ·rename_i tp ns;split
        ·exact (h2.trans (aiU _ _ tp e)).trans (Hy ih _ _ _)
        ·exact h2.trans (ih _ _)
theorem FF (s:jv) (n:Nat):Fx s (sL s n):=by
 unfold sL;split
 ·rename_i t _;exact Fx.trans (s1:=(oS s t.kids).jF n (j9 t 4)) ⟨rfl,rfl,rfl,rfl,rfl,rfl,rfl,rfl,rfl⟩ (Fy _ _ _)
 ·exact .refl s
theorem Hw (s:jv) (c:Cd) (vs a:List Int) (prio par:Int) (canc:Bool):Fx s (oU s c vs a prio par canc):=by
 have h1:Fx s (zw s c vs a prio par canc):=⟨rfl,rfl,rfl,rfl,rfl,rfl,rfl,rfl,rfl⟩
 unfold oU;split
 ·exact (h1.trans (s2:=(zw s c vs a prio par canc).jF s.tasks.length (j9 (mN s.calls.length prio canc par s.jE.length) 3)) ⟨rfl,rfl,rfl,rfl,rfl,rfl,rfl,rfl,rfl⟩).trans (Fy _ _ _)
 ·exact h1
structure vv (s:jv) (n:Nat) (c:kh) (st:kG) (r:Bool×jv):Prop where
 gi:Gi r.2
 p:r.2.p=s.p
 sched:r.2.sched=s.sched
 used:r.2.used=s.used
 turns:r.2.turns=s.turns
 kK:r.2.kK=s.kK
 jV:r.2.jV=s.jV
 ac:r.2.jT.length≤s.jT.length+2
 ln:r.2.lines.length≤s.lines.length+1
 ob:r.2.jL.length≤200
 oo:s.jL.length≤r.2.jL.length
 pl:st.op≠6→r.1=true→r.2.jE.length=s.jE.length∧r.2.ke.length=s.ke.length
 tl:r.2.tasks.length=if st.op=6 then s.tasks.length+1 else s.tasks.length
 nn:r.1=true→st.op=6→∀t8,r.2.tasks[n]?=some t8→t8.jC=1→∃kc:Nat,getM t8.kg c.pc=some (kc:Int)∧kc<r.2.tasks.length
theorem vv.eqs {s:jv} {n:Nat} {c:kh} {st:kG} {s':jv} {b:Bool} (hg:Gi s') (ho:st.op≠6) (p:s'.p=s.p) (sched:s'.sched=s.sched) (used:s'.used=s.used) (turns:s'.turns=s.turns) (kK:s'.kK=s.kK) (jV:s'.jV=s.jV)
 (ac:s'.jT.length≤s.jT.length+2) (ln:s'.lines.length≤s.lines.length+1) (ob:s'.jL.length≤200) (oo:s.jL.length≤s'.jL.length) (pl:b=true→s'.jE.length=s.jE.length∧s'.ke.length=s.ke.length) (tl:s'.tasks.length=s.tasks.length):vv s n c st (b,s'):=
 ⟨hg,p,sched,used,turns,kK,jV,ac,ln,ob,oo,fun _=>pl,by rw [iZ ho];exact tl,fun _ e=>absurd e ho⟩
theorem aoA {a n:Int} {m:Nat} (h0:0≤n) (h1:n<a) (h2:a.toNat≤m):n<m:=ae
theorem Pj {l:List Int} {i:Nat} {d:Int} (h:i<l.length):l.getD i d∈l:=by
 rw [dI,dy h];exact ey h
theorem Ve {s:jv} (hg:Gi s) (pt:s.jL.length≤200) (hao:s.p.mb.toNat≤s.jL.length) {n j k i:Nat} {t:jQ} {c:kh} {st:kG} {l:Lk} {time:Int} (h:uK s n j t c st) (hT:uS s n t j c st l k i):vv s n c st (kR s n j t c st time):=by
 have lT:=h.iv;have ht:=h.ht;have hc:=h.hc;have hn:=(dt ht).1;have hj:=(dt hc).1;have y9:=hg.ca c (dx hc);have sy:=h.can;have yF:=h.wB;obtain ⟨hTt,hTs,hTj,hTc,mY,S9,EJ,uj,jP,ng⟩:=hT;have Ri:∀v:Int,mW c v→c.vars.getD v.toNat 0<s.jL.length:=fun v hv=>y9.vo _ (Pj hv.2);have Ky:∀vs:List Int,(∀v∈vs,mW c v)→∀x∈lN c vs,x<(s.jL.length:Int):=fun vs hv x hx=>by
  obtain ⟨v,h1,rfl⟩:=eI.1 hx;exact Ri v (hv v h1)
 have Er:∀o:Nat,-1000≤(nX s o).1∧(nX s o).1≤1000∧(nX s o).2<(s.jL.length:Int):=fun o=>by
  unfold nX;by_cases ho:o<s.jL.length
  ·rw [dI,dy ho];exact hg.ob _ (ey ho)
  ·rw [dI,dT ae];simp only [Option.getD_none];omega
 have Hd:∀(s':jv) (x:Acc),Gi s'→Gi (s'.kE x):=fun s' x h'=>h'.eqs rfl rfl rfl rfl;have hgL:∀(s':jv) (x:ByteArray),Gi s'→Gi (s'.pM x):=fun s' x h'=>h'.eqs rfl rfl rfl rfl;have Xl:room s=true→s.jL.length<200:=fun e=>by unfold room at e;have:=jm e;omega
 obtain ⟨op,v,w,nn,tk,vs⟩:=st;have vK:=h.op;have r6:=h.r6;have r7:=h.r7;have r9:=h.r9;have r8:=h.r8;simp only at vK r6 r7 r9 r8;have AF:op=1∨op=2∨op=3∨op=4∨op=5∨op=6∨op=7∨op=8∨op=9∨op=10∨op=11∨op=12:=ae;rcases AF with rfl|rfl|rfl|rfl|rfl|rfl|rfl|rfl|rfl|rfl|rfl|rfl
 ·have J4:room s=true:=by
   unfold lZ at sy;rw [ja rfl] at sy;exact sy
  have avW:=Xl J4;have hb:-1000≤nn∧nn≤1000:=by
   unfold Rg.oP at ng;simp only at ng;omega
  have hI:Iv (s.ll nn):=lT.ll _ ae;have hG:Gi (s.ll nn):=hg.ll hb;have hl:(s.ll nn).jL.length=s.jL.length+1:=by simp [jv.ll]
  simp +decide only [kR,jb,jc];refine vv.eqs (hG.CS hI (j:=j) (c:=c) hc (by rw [hl];omega)) (by show (1:Int)≠6;decide) rfl rfl rfl rfl rfl rfl (fj _ _) (fi _) (by show (s.ll nn).jL.length≤_;omega) (by show _≤(s.ll nn).jL.length;omega) (fun _=>⟨rfl,rfl⟩) rfl
 ·have J4:(n8 c [w]&&(room s||decide (0≤lX s (c.vars.getD w.toNat 0))))=true:=by
   unfold lZ at sy;rw [iZ (by show ¬(2:Int)=1;decide),ja rfl] at sy;exact sy
  rw [er] at J4;obtain ⟨lF,hrm⟩:=J4;obtain ⟨wn,kq,lj,mD,qD⟩:=HO lF (v:=w) ah (yF.w (.inl rfl)) yF.ob;by_cases hx:0≤(nX s (lz c w)).2
  ·simp +decide only [kR,jb,jc,ja hx];exact vv.eqs ((Hd s _ hg).CS (lT.kE _ (by have:=h.y7;omega)) (j:=j) (c:=c) hc (Er _).2.2) (by show (2:Int)≠6;decide) rfl rfl rfl rfl rfl rfl cP (fi _) pt (dD _) (fun _=>⟨rfl,rfl⟩) rfl
  ·simp +decide only [kR,jb,jc,iZ hx];have avW:s.jL.length<200:=by
    rw [Bool.or_eq_true] at hrm;rcases hrm with h1|h1
    ·exact Xl h1
    ·exfalso;have h1:=jm h1;apply hx;have e0:∀o:Nat,o<s.jL.length→(s.jL.getD o (0,0)).2=(s.jL.getD o (0,-1)).2:=fun o ho=>by
      rw [dI,dI,dy ho];rfl
     have e1:lX s (c.vars.getD w.toNat 0)=(nX s (lz c w)).2:=e0 _ mD;rw [← e1];exact h1
   obtain ⟨s1,j6⟩:∃s1,s1=(s.kE ⟨jR c n,lz c w,false,time⟩).ll 0:=⟨_,rfl⟩
   have hI0:Iv (s.kE ⟨jR c n,lz c w,false,time⟩):=lT.kE _ (by have:=h.y7;omega);have Tc:Iv s1:=by rw [j6];exact hI0.ll _ (by show s.jL.length<_;omega)
   have G8:Gi s1:=by rw [j6];exact (Hd s _ hg).ll az
   have oA:s1.jL.length=s.jL.length+1:=by rw [j6];simp [jv.ll,jv.kE]
   have IU:Gi (s1.n7 (lz c w) ((nX s (lz c w)).1,s.jL.length)):=G8.n7 (by have:=Er (lz c w);simp only;omega) bp;have nL:(s1.n7 (lz c w) ((nX s (lz c w)).1,s.jL.length)).jL.length=s.jL.length+1:=by simp only [jv.n7,dW];exact oA
   have nU:s1.calls=s.calls:=by rw [j6];rfl
   have Bz:s1.jT.length=s.jT.length+1:=by rw [j6];simp [jv.ll,jv.kE]
   have hf:s1.p=s.p∧s1.sched=s.sched∧s1.used=s.used∧s1.turns=s.turns∧s1.kK=s.kK∧s1.jV=s.jV∧s1.lines=s.lines∧s1.jE=s.jE∧s1.ke=s.ke∧s1.tasks=s.tasks:=by rw [j6];exact ⟨rfl,rfl,rfl,rfl,rfl,rfl,rfl,rfl,rfl,rfl⟩
   rw [← j6];obtain ⟨f1,f2,f3,f4,f5,f6,f7,f8,f9,f10⟩:=hf;have xT:Iv ((s1.n7 (lz c w) ((nX s (lz c w)).1,s.jL.length)).kE ⟨jR c n,lz c w,true,time⟩):=(Tc.n7 _ _).kE _ (by show s1.jT.length<_;have:=h.y7;omega);have IV:=Hd _ ⟨jR c n,lz c w,true,time⟩ IU;refine vv.eqs (IV.CS xT (j:=j) (c:=c) (by show s1.calls[j]?=_;rw [nU];exact hc) (by show (s.jL.length:Int)<(s1.n7 (lz c w) ((nX s (lz c w)).1,s.jL.length)).jL.length;rw [nL];omega)) (by show (2:Int)≠6;decide) f1 f2 f3 f4 f5 f6 ?_ ?_ ?_ ?_ (fun _=>⟨?_,?_⟩) ?_
   ·show (s1.jT++[_]).length≤_;rw [dK,Bz];exact dD _
   ·show s1.lines.length≤_;rw [f7];omega
   ·show (s1.n7 (lz c w) ((nX s (lz c w)).1,s.jL.length)).jL.length≤_;rw [nL];omega
   ·show _≤(s1.n7 (lz c w) ((nX s (lz c w)).1,s.jL.length)).jL.length;rw [nL];omega
   ·show s1.jE.length=_;rw [f8]
   ·show s1.ke.length=_;rw [f9]
   ·show s1.tasks.length=_;rw [f10]
 ·have J4:n8 c [v,w]=true:=by
   unfold lZ at sy;rw [iZ (by show ¬(3:Int)=1;decide),iZ (by show ¬(3:Int)=2;decide),ja rfl] at sy;exact sy
  simp +decide only [kR,jb,jc];have hw:=Ri w (yF.w (.inr rfl));exact vv.eqs ((Hd s _ hg).n7 (by have:=Er (lz c v);simp only;omega) hw) (by show (3:Int)≠6;decide) rfl rfl rfl rfl rfl rfl cP (fi _) cz bY (fun _=>⟨rfl,rfl⟩) rfl
 ·simp +decide only [kR,jb,jc];exact vv.eqs (hgL _ _ (Hd s _ hg)) (by show (4:Int)≠6;decide) rfl rfl rfl rfl rfl rfl cP (by show (s.lines++[_]).length≤_;simp) pt (dD _) (fun _=>⟨rfl,rfl⟩) rfl
 ·have hb:-1000≤nn∧nn≤1000:=by
   unfold Rg.oP at ng;simp only at ng;omega
  simp +decide only [kR,jb,jc];exact vv.eqs ((Hd s _ hg).n7 hb (Er (lz c v)).2.2) (by show (5:Int)≠6;decide) rfl rfl rfl rfl rfl rfl cP (fi _) cz bY (fun _=>⟨rfl,rfl⟩) rfl
 ·have th:(bif n8 c vs then decide ((s.tasks.length:Int)<32) else false)=true:=by
   unfold lZ at sy;rw [iZ (by show ¬(6:Int)=1;decide),iZ (by show ¬(6:Int)=2;decide),iZ (by show ¬(6:Int)=3;decide),iZ (by show ¬((6:Int)=4∨(6:Int)=5);decide),ja rfl] at sy;exact sy
  obtain ⟨h1,cd,h2,h3,h4,h5,h6⟩:=r6 rfl;have AZ:0≤nn∧nn≤3:=by
   unfold Rg.oP at ng;simp only at ng;omega
  have rX:s.tasks.length<32:=by
   cases hb:n8 c vs with
   | true=>rw [hb] at th;have:=jm th;omega
   | false=>rw [hb] at th;cases th
  have Rj:po s.p.kT tk=cd:=getD_at h2;obtain ⟨a1,a2,a3,a4⟩:=lT.wf.kQ t (dx ht);have lK:s.jE[t.jX]?=some (s.jE.getD t.jX []):=cq;have hG:=UJ lT hg (k:=tk.toNat) (c:=cd) (vs:=lN c vs) (a:=s.jE.getD t.jX []) (prio:=nn) (par:=n) (canc:=t.canc) rX h.hC h.hP (by have:=h.hB;omega) ((lT.wf.p lK).2) h3 h4 (by rw [DT];exact h5) h6 (.inr ⟨n,rfl,hn⟩) h2 AZ (Ky vs (yF.vs (.inl rfl)));have B9:=Hw s cd (lN c vs) (s.jE.getD t.jX []) nn n t.canc;obtain ⟨e1,e2,e3⟩:=O8 (cd:=cd) (vs:=lN c vs) (a:=s.jE.getD t.jX []) (pr:=nn) (canc:=t.canc) ht h.en h.wt;simp +decide only [kR,jb,jc];rw [Rj];have pR:=(hg.ta n t ht).kl;have hK:=hG.lU e1 (k:=s.tasks.length) (sp:=if c.jM<0 then qu t.kg c.pc s.tasks.length else t.kg) (by rw [e3];omega) (fun q kc g1 g2=>by
   split
   ·rw [Jq];split
    ·exact ⟨s.tasks.length,rfl,by rw [e3];omega⟩
    ·exact ⟨kc,g1,g2⟩
   ·exact ⟨kc,g1,g2⟩)
  have hLn:((oU s cd (lN c vs) (s.jE.getD t.jX []) nn n t.canc).jF n { t with kids:=t.kids++[(s.tasks.length:Int)],kg:=if c.jM<0 then qu t.kg c.pc s.tasks.length else t.kg }).tasks.length=s.tasks.length+1:=by rw [lY,e3]
  refine ⟨hK,B9.p,B9.sched,B9.used,B9.turns,B9.kK,B9.jV,?_,?_,?_,?_,fun e=>absurd rfl e,by rw [ja rfl];exact hLn,fun _ _ t8 g1 g2=>?_⟩
  ·show (oU s cd (lN c vs) (s.jE.getD t.jX []) nn n t.canc).jT.length≤_;rw [B9.jT];omega
  ·show (oU s cd (lN c vs) (s.jE.getD t.jX []) nn n t.canc).lines.length≤_;rw [B9.lines];omega
  ·show (oU s cd (lN c vs) (s.jE.getD t.jX []) nn n t.canc).jL.length≤_;rw [B9.jL];exact pt
  ·show _≤(oU s cd (lN c vs) (s.jE.getD t.jX []) nn n t.canc).jL.length;rw [B9.jL];exact dD _
  ·have LA:((oU s cd (lN c vs) (s.jE.getD t.jX []) nn n t.canc).jF n { t with kids:=t.kids++[(s.tasks.length:Int)],kg:=if c.jM<0 then qu t.kg c.pc s.tasks.length else t.kg }).tasks[n]?=some t8:=g1;rw [lq e1] at LA;injection LA with LA;have mV:t.jC=1:=by rw [← LA] at g2;exact g2
   have G6:i=0:=ae;have hma:c.jM = -1:=by
    have:=EJ G6;rcases mY.me with ⟨_,m,_⟩|⟨m,_⟩
    ·exact m
    ·rw [this] at m;cases m
   refine ⟨s.tasks.length,?_,by show s.tasks.length<((oU s cd (lN c vs) (s.jE.getD t.jX []) nn n t.canc).jF n _).tasks.length;rw [hLn];omega⟩;rw [← LA];simp only;rw [ja ae,Jq,ja rfl]
 ·have hid:vv s n c ⟨7,v,w,nn,tk,vs⟩ (true,s):=vv.eqs hg (by show (7:Int)≠6;decide) rfl rfl rfl rfl rfl rfl (fj _ _) (fi _) pt (dD _) (fun _=>⟨rfl,rfl⟩) rfl;simp +decide only [kR,jb,jc];by_cases ho:sX s (qX t nn)=true
  ·rw [ja ho];exact hid
  ·rw [iZ ho];obtain ⟨kc,h1,h2⟩:=r7 (.inl rfl);have Ha:qX t nn=kc:=by unfold qX;rw [h1];rfl
   have hW:=hg.wait ht (kc:=qX t nn) (by rw [Ha];exact h2) h.en (fun j' c' LB e1 e2 e3=>by
    rw [h.tp] at e1;injection e1 with e1;subst e1;rw [hc] at e2;injection e2 with e2;subst e2;rw [jP] at e3;injection e3 with e3;subst e3;rfl)
   exact vv.eqs hW (by show (7:Int)≠6;decide) rfl rfl rfl rfl rfl rfl (fj _ _) (fi _) pt (dD _) (fun _=>⟨rfl,rfl⟩) lY
 ·obtain ⟨h1,h2,h3⟩:=r8 rfl;simp +decide only [kR,jb,jc];have nH:vs.getD 0 0∈vs:=Pj h3;have hw:=Ri _ (yF.vs (.inr (.inl rfl)) _ nH);exact vv.eqs ((Hd s _ hg).n7 (by have:=Er nn.toNat;simp only;omega) hw) (by show (8:Int)≠6;decide) rfl rfl rfl rfl rfl rfl cP (fi _) cz bY (fun _=>⟨rfl,rfl⟩) rfl
 ·obtain ⟨h1,cd,h2,h3,h4,h5,h6⟩:=r9 rfl;have Rj:po s.p.methods tk=cd:=getD_at h2;have G9:0≤nn∧nn<s.p.mb∧tk<s.p.methods.length∧(l.method=true→tk<l.own):=by
   unfold Rg.oP at ng;rw [mY.lp] at ng;simp only at ng;rcases ng with q|q|q|q|q|q|q|q
   ·omega
   ·omega
   ·omega
   ·omega
   ·omega
   ·omega
   ·exact ⟨q.2.2.1,q.2.2.2.1,q.2.2.2.2.2.1,q.2.2.2.2.2.2.1⟩
   ·omega
  obtain ⟨b1,b2,b3,b4⟩:=G9;have hm6:s.p.methods.length≤6:=hg.ok.1.2.2.1;have avX:tk.toNat+t.jC≤6:=by
   rw [hTs];by_cases e0:i=0
   ·omega
   ·obtain ⟨m1,m2⟩:=S9 ae;have:=b4 m1;rw [mY.own] at this;omega
  simp +decide only [kR,jb,jc];rw [Rj];obtain ⟨nc,AY⟩:∃nc,nc=lQ cd (lN c vs++[nn]) nn:=⟨_,rfl⟩
  rw [← AY];have hCG:CV s.p s.jL.length nc:=by
   rw [AY];refine .new (k:=tk.toNat) (.inr ⟨b1,b2,h2⟩) h3 (by rw [dK,DT,dO];omega) fun x hx=>?_;rcases eg.1 hx with hx|hx
   ·exact Ky vs (yF.vs (.inr (.inr rfl))) x hx
   ·rw [dz] at hx;subst hx;exact aoA b1 b2 hao
  have Rl:nc.vars.length≤1000:=by
   rw [AY];simp only [lQ,dK,eB,DT,dO];omega
  have N9:Iv (s.kF nc):=lT.kF h.hC Rl (by rw [AY];exact h6) ⟨by rw [AY];exact fy _,by rw [AY];show (0:Int)≤_;omega⟩;have hGc:Gi (s.kF nc):=hg.kF lT hCG;by_cases hz:cd.steps.length=0
  ·rw [ja hz];exact vv.eqs hGc (by show (9:Int)≠6;decide) rfl rfl rfl rfl rfl rfl (fj _ _) (fi _) pt (dD _) (fun _=>⟨rfl,rfl⟩) rfl
  ·rw [iZ hz];have nU:(s.kF nc).calls[j]?=some c:=by rw [Cw ae];exact hc
   have lr:(s.kF nc).tasks[n]?=some t:=ht;have wX:=hGc.go N9 (t':=t) lr h.tp nU rfl (dD _) rfl rfl rfl h.wt (fun _=>h.en) (fun _ LB e1 e2=>by
    rw [jP] at e1;injection e1 with e1;subst e1;have:(9:Int)=6:=e2;omega)
   have hse:((s.kF nc).ly j { c with pc:=c.pc+1 }).jF n t=(s.kF nc).ly j { c with pc:=c.pc+1 }:=Jt (s:=(s.kF nc).ly j { c with pc:=c.pc+1 }) ht;rw [hse] at wX;have hP:=wX.IY (n:=n) (J:=s.calls.length) (k:=tk.toNat) (cJ:=nc) (t:=t) ht (lT.jH n t ht) (lT.wf.kQ t (dx ht)).2.1 (by
    rw [Bk ae];exact zm) (by rw [AY];exact b1) (by rw [AY];exact h2) avX h.wt
   exact vv.eqs hP (by show (9:Int)≠6;decide) rfl rfl rfl rfl rfl rfl (fj _ _) (fi _) pt (dD _) (fun e=>by cases e) lY
 ·simp +decide only [kR,jb,jc];exact vv.eqs (hg.mx _) (by show (10:Int)≠6;decide) rfl rfl rfl rfl rfl rfl (fj _ _) (fi _) pt (dD _) (fun _=>⟨rfl,rfl⟩) vy
 ·simp +decide only [kR,jb,jc];by_cases pO:t.canc=true
  ·rw [ja pO];have hP:=h.hP;have hB:=h.hB;have hS:=VY lT hg ht h.wt hP ae;have hF:=FF s n;obtain ⟨_,_,Af⟩:=JL lT ht (by rw [h.sY];decide) h.wt hP ae;exact vv.eqs hS (by show (11:Int)≠6;decide) hF.p hF.sched hF.used hF.turns hF.kK hF.jV (by rw [hF.jT];omega) (by rw [hF.lines];omega) (by rw [hF.jL];exact pt) (by rw [hF.jL];exact dD _) (fun e=>by cases e) Af.tl
  ·rw [iZ pO];exact vv.eqs hg (by show (11:Int)≠6;decide) rfl rfl rfl rfl rfl rfl (fj _ _) (fi _) pt (dD _) (fun _=>⟨rfl,rfl⟩) rfl
 ·simp +decide only [kR,jb,jc];exact vv.eqs hg (by show (12:Int)≠6;decide) rfl rfl rfl rfl rfl rfl (fj _ _) (fi _) pt (dD _) (fun _=>⟨rfl,rfl⟩) rfl
theorem Jz {s:jv} {n j:Nat} {t:jQ} {c:kh} {st:kG} (h:Tok 80010 s n j t c st) (kW:0≤ud c st→(ud c st).toNat<s.jV.length) (xI:s.turns.length≤900000) (wZ:s.kK.length≤900000) :
 ∃t9,Cs s n t 10 (rz s n c st) t9∧t9.lB=none:=by
 have lT:=h.iv;have ht:=h.ht;have hP:=h.hP;have hA:=Cs.rI lT ht ae;have Yz:(rI s n).kK=s.kK:=rfl;unfold rz;obtain ⟨s1,j6⟩:∃s1,s1=rI s n:=⟨_,rfl⟩
 rw [← j6] at hA Yz ⊢;have lr:=hA.tk;have kq:=hA.iv.wf;have xD:s1.jE.length+80010≤MM:=by have:=hA.pl;omega
 have nV:Cs s1 n t 1 (qf s1 n) (jJ (qf s1 n) n):=by
  unfold qf;rw [oG lr];cases DC:t.lB with
  | none=>simp only;rw [oG lr];exact (Cs.refl hA.iv lr).mono ae
  | some b =>
    have lR:=(kq.kQ t (dx lr)).2.2.2 b DC;have BQ:s1.ke[b]?=some s1.ke[b]:=dy lR;obtain ⟨e1,e2⟩:=kq.ke _ (dx BQ);obtain ⟨x,hx⟩:∃x,s1.ke[b]=[x]:=List.length_eq_one_iff.1 e1;rw [hx] at BQ e2;have e3:Kz s1 b=x:=by unfold Kz;rw [getD_at BQ];rfl
    simp only;rw [e3];have:=Cs.uT hA.iv lr (e2 x ah) ae;rw [oG this.tk];exact this
 have YA:(qf s1 n).kK=s1.kK:=by unfold qf;split<;>rfl
 obtain ⟨s2,jW⟩:∃s2,s2=qf s1 n:=⟨_,rfl⟩
 rw [← jW] at nV YA ⊢;obtain ⟨t2,avY⟩:∃t2,t2=jJ s2 n:=⟨_,rfl⟩
 rw [← avY] at nV;have ov:=nV.tk;have Ca:Cs s2 n t2 0 (vH s2 n) { t2 with lB:=none }:=by
  unfold vH;rw [oG ov];exact Cs.jF (t':={ t2 with lB:=none }) nV.iv ov ⟨rfl,rfl,rfl,rfl⟩ ⟨rfl,rfl,rfl,rfl,rfl⟩ ((nV.iv.wf.kQ t2 (dx ov)).2.2.1) (.inr rfl)
 have YB:Cs s n t 1 (vH s2 n) { t2 with lB:=none }:=((hA.trans nV).trans Ca).mono ae;have YC:(vH s2 n).kK=s2.kK:=rfl;obtain ⟨t3,Gk⟩:∃t3,t3={ t2 with lB:=none }:=⟨_,rfl⟩
 obtain ⟨s3,lV⟩:∃s3,s3=vH s2 n:=⟨_,rfl⟩
 have He:t3.lB=none:=by rw [Gk]
 rw [← lV,← Gk] at YB;rw [← lV] at YC ⊢;have Ba:=YB;have rl:=Ba.tk;have xT:=Ba.iv;have mD:=xT.wf;have B1:s3.jE.length+80009≤MM:=by have:=Ba.pl;omega
 have Oa:∃t4,Cs s3 n t3 1 (se s3 n st) t4∧t4.lB=none:=by
  unfold se;rw [oG rl];split
  ·rename_i hh;obtain ⟨kc,q1,q2⟩:=h.r7 (.inl hh.1);rw [← Ba.vV.2.2.2] at q1;rw [← Ba.tl] at q2;have Ag:s3.tasks[kc]?=some s3.tasks[kc]:=dy q2;have q4:qX t3 st.n=kc:=by unfold qX;rw [q1];rfl
   have q5:sX s3 kc=decide (3≤s3.tasks[kc].state):=by unfold sX;rw [Ag]
   rw [q4,q5] at hh;obtain ⟨x,hx⟩:=xT.en kc _ Ag (jm hh.2);have x3:KA s3 kc=x:=by unfold KA;rw [getD_at hx];rfl
   rw [q4,x3];exact ⟨_,Cs.uT xT rl (mD.ends _ (dx hx) x rfl) ae,He⟩
  ·exact ⟨t3,(Cs.refl xT rl).mono ae,He⟩
 have YD:(se s3 n st).kK=s3.kK:=by unfold se;split<;>rfl
 obtain ⟨s4,ox⟩:∃s4,s4=se s3 n st:=⟨_,rfl⟩
 rw [← ox] at Oa YD ⊢;obtain ⟨t4,Gl,yl⟩:=Oa;have Ah:Cs s n t 2 s4 t4:=(Ba.trans Gl).mono ae;have zd:=Ah.iv;have qD:=zd.wf;have tU:=Ah.tk;have I5:s4.jE.length+80008≤MM:=by have:=Ah.pl;omega
 obtain ⟨cn,ni⟩:∃cn,cn=lZ s c st:=⟨_,rfl⟩
 obtain ⟨a,I6⟩:∃a,a=ud c st:=⟨_,rfl⟩
 rw [← I6] at kW;rw [← ni,← I6];have Ob:∃t5,Cs s4 n t4 1 (sZ s4 n cn a) t5∧t5.lB=none:=by
  unfold sZ;split
  ·rename_i hh;have h1:=kW hh.2;rw [← Ah.acl] at h1;have h2:s4.jV[a.toNat]?=some s4.jV[a.toNat]:=dy h1;rw [getD_at h2];exact ⟨_,Cs.uT zd tU (qD.jV _ (dx h2)) ae,yl⟩
  ·exact ⟨t4,(Cs.refl zd tU).mono ae,yl⟩
 have YE:(sZ s4 n cn a).kK=s4.kK:=by unfold sZ;split<;>rfl
 obtain ⟨s5,uh⟩:∃s5,s5=sZ s4 n cn a:=⟨_,rfl⟩
 rw [← uh] at Ob YE ⊢;obtain ⟨t5,Gm,Hf⟩:=Ob;have Hg:Cs s n t 3 s5 t5:=(Ah.trans Gm).mono ae;have Bb:Cs s5 n t5 0 (xl s5 n s.turns.length) t5:=Cs.xl Hg.iv Hg.tk;have YF:(xl s5 n s.turns.length).kK=s5.kK:=rfl;obtain ⟨s6,I7⟩:∃s6,s6=xl s5 n s.turns.length:=⟨_,rfl⟩
 rw [← I7] at Bb YF ⊢;have Fl:Cs s n t 3 s6 t5:=(Hg.trans Bb).mono ae;have Cb:Cs s6 n t5 1 (tz s6 n cn a) t5:=Cs.tz Fl.iv Fl.tk (by have:=Fl.pl;omega);have YG:(tz s6 n cn a).kK=s6.kK:=by unfold tz;split<;>rfl
 obtain ⟨s7,Bc⟩:∃s7,s7=tz s6 n cn a:=⟨_,rfl⟩
 rw [← Bc] at Cb YG ⊢;have Hh:Cs s n t 4 s7 t5:=(Fl.trans Cb).mono ae;have hz7:s7.kK.length≤900000:=by rw [YG,YF,YE,YD,YC,YA,Yz];exact wZ
 have DE:Cs s7 n t5 1 (Ad s7 n) t5:=Cs.Ad Hh.iv Hh.tk (by have:=Hh.pl;omega) ae;have Fm:Cs s n t 5 (Ad s7 n) t5:=(Hh.trans DE).mono ae;obtain ⟨s8,A9⟩:∃s8,s8=Ad s7 n:=⟨_,rfl⟩
 rw [← A9] at Fm ⊢;have Cc:=Fm.tk;have LD:Cs s8 n t5 0 (tw s8 n (-1)) { t5 with has:=-1 }:=by
  unfold tw;rw [oG Cc];exact Cs.jF Fm.iv Cc ⟨rfl,rfl,rfl,rfl⟩ ⟨rfl,rfl,rfl,rfl,rfl⟩ (Fm.iv.wf.kQ t5 (dx Cc)).2.2.1 (.inl rfl)
 exact ⟨_,(Fm.trans LD).mono ae,Hf⟩
structure GG (s:jv):Prop where
 iv:Iv s
 gi:Gi s
 sz:Sz s
theorem uS.zs {s s':jv} {n j:Nat} {t t':jQ} {c:kh} {st:kG} {l:Lk} {k i:Nat} (h:uS s n t j c st l k i) (hp:s'.p=s.p) (hc:s'.calls=s.calls) (ht:s'.tasks[n]?=some t') (h1:t'.jZ=t.jZ) (h2:t'.jC=t.jC):uS s' n t' j c st l k i:=
 ⟨ht,by rw [h2];exact h.hs,by rw [h1];exact h.hj,by rw [hc];exact h.hc,⟨by rw [hp];exact h.cd.lp,h.cd.lc,h.cd.own,h.cd.ok,by rw [hp];exact h.cd.me⟩,h.dp,h.b0,h.pc,h.es,h.os⟩
theorem Vc {s:jv} (h:GG s) (nN:s.turns.length<2000) {n j:Nat} {t:jQ} {c:kh} {st:kG} {l:Lk} {k i:Nat} (hT:uS s n t j c st l k i) (h1:t.state=1):GG (tM s n j c st)∧(tM s n j c st).turns.length=s.turns.length+1:=by
 obtain ⟨hi,hg,hz⟩:=h;obtain ⟨hK,kW⟩:=hT.tok hi hg hz h1;have GZ:=vB;have rm:=hz.ck;obtain ⟨t9,od,yY⟩:=Jz hK kW ae ae;have hZ:=DS s n c st;obtain ⟨vu,DA⟩:=LW s n c st;have yB:lZ (rz s n c st) c st=lZ s c st:=JF od c st;unfold tM;obtain ⟨s9,oE⟩:∃s9,s9=rz s n c st:=⟨_,rfl⟩
 rw [← oE] at od hZ vu DA yB ⊢;have B6:=od.iv;have G4:=hZ.gi hg;have qF:=od.tk;have oF:uS s9 n t9 j c st l k i:=hT.zs hZ.p hZ.calls qF od.vV.1 od.vV.2.1;have px:Tok 80000 s9 n j t9 c st:=hK.cs od ae;have sR:n<32:=by have:=hi.wf.nT;have:=(dt hT.ht).1;omega
 have Ev:s9.turns.length=s.turns.length+1:=by rw [vu];simp
 have hp9:=od.pl;have q1:=hz.pl;have q2:=hz.bl;have q3:=hz.cl;have q4:=hz.ac;have q5:=hz.ln;have q6:=hz.us;have q7:=hz.sl;have q8:=hz.ob;have q9:=hz.ao;have q10:=hz.al;have fin:∀s':jv,Iv s'→Gi s'→s'.p=s9.p→s'.sched=s9.sched→s'.used=s9.used→s'.turns=s9.turns→s'.kK=s9.kK→s'.jV=s9.jV→s'.jT.length≤s9.jT.length+2→s'.lines.length≤s9.lines.length+1→s'.jL.length≤200→s9.jL.length≤s'.jL.length→s'.calls.length≤s9.calls.length+1 →
  s'.jE.length+45000*s9.tasks.length≤s9.jE.length+44000+45000*s'.tasks.length→s'.ke.length+100*s9.tasks.length≤s9.ke.length+100+100*s'.tasks.length→GG s'∧s'.turns.length=s.turns.length+1:=fun s' a1 a2 b1 b2 b3 b4 b5 b6 b7 b8 b9 zZ b11 b12 b13=>by
  have e1:=hZ.tl;have e2:=hZ.bl;have e3:=hZ.calls;have e4:=hZ.jT;have e5:=hZ.lines;have e6:=hZ.jL;have e7:=hZ.p;have e8:=hZ.sched;have e9:=hZ.used;have e10:=hZ.acl;rw [e3] at b11;rw [e4] at b7;rw [e5] at b8;rw [e6] at zZ;rw [e2] at b13;rw [e1] at b12 b13;refine ⟨⟨a1,a2,⟨by rw [b3,b2,e9,e8];exact q6,by rw [b2,e8];exact q7,by rw [b5,b4,DA,Ev];omega,by rw [b4,Ev];omega,by rw [b4,Ev];omega,by rw [b4,Ev];omega,by rw [b4,Ev];omega,by rw [b4,Ev];omega,b9,by rw [b1,e7];omega,by rw [b6,b1,e7,e10];exact q10,by rw [b4,Ev];omega⟩⟩,by rw [b4,Ev]⟩
 have G5:jJ s9 n=t9:=oG qF;rw [G5];have Rm:=px.sY;have KB:=px.wt;have yZ:=px.hP;have NQ:=px.hB;have N3:s9.jL.length≤200:=by rw [hZ.jL];exact q8
 have Ra:s9.p.mb.toNat≤s9.jL.length:=by rw [hZ.jL,hZ.p];exact q9
 cases ni:lZ s c st with
 | false =>
   rw [ja rfl];obtain ⟨_,Hi,Af⟩:=JL B6 qF (by rw [Rm];decide) KB ae ae;have Hc:=VY B6 G4 qF KB ae ae;have hF:=FF s9 n;have c1:=Af.pl;have c2:=Af.bl;have c3:=Af.tl;exact fin _ Hi Hc hF.p hF.sched hF.used hF.turns hF.kK hF.jV (by rw [hF.jT];omega) (by rw [hF.lines];omega) (by rw [hF.jL];exact N3) (by rw [hF.jL];exact dD _) (by rw [Af.cl];omega) (by rw [c3];omega) (by rw [c3];omega)
 | true =>
   rw [iZ ah];have hS:uK s9 n j t9 c st:={ px.cs (Cs.refl B6 qF) (k':=40000) ae with can:=by rw [yB];exact ni,bh:=yY }
   have hR:=Mj hS (time:=s.turns.length);have qO:=Ve G4 N3 Ra hS oF (time:=s.turns.length);obtain ⟨r,hr⟩:∃r,r=kR s9 n j t9 c st s.turns.length:=⟨_,rfl⟩
   rw [← hr] at hR qO ⊢;obtain ⟨rb,pJ⟩:=r;have d1:=hR.pl;have d2:=hR.bl;have d3:=hR.cl;have d4:=qO.tl;simp only at d1 d2 d3 d4;cases rb with
   | false =>
     rw [ja rfl];refine fin pJ hR.iv qO.gi qO.p qO.sched qO.used qO.turns qO.kK qO.jV qO.ac qO.ln qO.ob qO.oo d3 ?_ ?_
     ·split at d4<;>omega
     ·split at d4<;>omega
   | true =>
     rw [iZ ah];obtain ⟨t10,yU,r1,r2,r3,r4,r5,r6,r7,r8,r9,Sy⟩:=hR.go rfl;simp only at r1 r7;have Gn:Iv pJ:=hR.iv;have avZ:Gi pJ:=qO.gi;unfold tg;simp only;obtain ⟨oN,sx⟩:∃oN,oN=if 0≤c.jM∧st.op≠12∧st.op≠9∧c.pc≠(c.code.steps.length:Int)-1 then tw pJ n c.jM else pJ:=⟨_,rfl⟩
     rw [← sx];have yf:∃t11,Cs pJ n t10 0 oN t11:=by
      rw [sx];split
      ·refine ⟨{ t10 with has:=c.jM },?_⟩;unfold tw;rw [oG r1];exact Cs.jF Gn r1 ⟨rfl,rfl,rfl,rfl⟩ ⟨rfl,rfl,rfl,rfl,rfl⟩ (Gn.wf.kQ t10 (dx r1)).2.2.1 (.inl rfl)
      ·exact ⟨t10,Cs.refl Gn r1⟩
     have awA:Zs pJ oN n:=by
      rw [sx];split
      ·exact VX pJ n c.jM
      ·exact .refl pJ n
     have awB:Fx pJ oN:=by
      rw [sx];split
      ·exact ⟨rfl,rfl,rfl,rfl,rfl,rfl,rfl,rfl,rfl⟩
      ·exact .refl pJ
     obtain ⟨t11,yf⟩:=yf;have Im:=yf.tk;have Gp:=yf.iv;have awC:=awA.gi avZ;obtain ⟨a1,a2,a3,a4⟩:=yf.vV;obtain ⟨b1,b2,b3,b4,b5⟩:=yf.Hj;obtain ⟨f,hf⟩:∃f,f=n+1:=⟨_,rfl⟩
     have Kx:f≤32:=ae;have M9:oN.jE.length≤pJ.jE.length:=by have:=yf.pl;omega
     have YH:oN.ke=pJ.ke:=yf.ke;have Rn:oN.jE.length+1001*f≤MM:=ae;have YI:oN.ke.length+f≤MM:=by rw [YH];omega
     have YJ:t11.jZ[t11.jC-1]?=some j:=by rw [a1,a2,r2,r3];exact px.tp
     have Io:oN.calls[j]?=some yU:=by rw [yf.calls];exact r7
     have Xm:yU.pc<yU.code.steps.length:=by rw [r8,r9];exact px.EZ
     have Na:t11.waits<0:=by rw [b3,r6];exact KB
     have hN:t11.jC=1→∀LB,yU.code.steps[yU.pc.toNat]?=some LB→LB.op=6→∃kc:Nat,getM t11.kg yU.pc=some (kc:Int)∧kc<oN.tasks.length:=fun g1 LB g2 g3=>by
      rw [r8,r9] at g2;rw [oF.es] at g2;injection g2 with g2;subst g2;obtain ⟨kc,k1,k2⟩:=qO.nn rfl g3 t10 r1 (by rw [← a2];exact g1);refine ⟨kc,by rw [a4,r8];exact k1,by rw [yf.tl];exact k2⟩
     rw [← hf];obtain ⟨g1,g2⟩:=Ml (DK f) Gp Im (by rw [b1,r4];decide) Na YJ Io Xm Rn YI;have g3:=Vj (OL f) Gp awC Im (by rw [b1,r4];decide) Na YJ Io Xm hN Rn YI;have hF:=awB.trans (Hy (fun s n=>Fy f s n) oN n j);have c1:=g2.pl;have c2:=g2.bl;have c3:=g2.tl;have c4:=g2.cl;rw [YH] at c2;rw [yf.tl] at c3;rw [yf.calls] at c4;have e1:=qO.ac;have e2:=qO.ln;have e3:=qO.ob;have e4:=qO.oo;simp only at e1 e2 e3 e4;refine fin _ g1 g3 (hF.p.trans qO.p) (hF.sched.trans qO.sched) (hF.used.trans qO.used) (hF.turns.trans qO.turns) (hF.kK.trans qO.kK) (hF.jV.trans qO.jV) (by rw [hF.jT];exact e1) (by rw [hF.lines];exact e2) (by rw [hF.jL];exact e3) (by rw [hF.jL];exact e4) (by rw [c4];exact d3) ?_ ?_
     ·rw [c3];by_cases h6:st.op=6
      ·rw [ja h6] at d4;omega
      ·rw [iZ h6] at d4;have:=(qO.pl h6 rfl).1;simp only at this;omega
     ·rw [c3];by_cases h6:st.op=6
      ·rw [ja h6] at d4;omega
      ·rw [iZ h6] at d4;have:=(qO.pl h6 rfl).2;simp only at this;omega
theorem alG {s:jv} {l:List Int}:∀(m:Nat) (x:Int),x∈(qa s l m).2→∃i:Nat,x=(i:Int)∧∃t,s.tasks[i]?=some t∧t.state=1:=by
 intro m
 induction m with
 | zero=>intro x h;simp [qa] at h
 | succ m ih =>
   intro x h;simp only [qa] at h;split at h
   ·rename_i t ht;split at h
    ·exact ih x h
    ·rename_i hs;have h1:t.state=1:=Classical.byContradiction fun e=>hs (.inl e);split at h
     ·rw [dz] at h;exact ⟨m,h,t,ht,h1⟩
     ·split at h
      ·exact ih x h
      ·rcases eg.1 h with h|h
       ·exact ih x h
       ·rw [dz] at h;exact ⟨m,h,t,ht,h1⟩
   ·exact ih x h
theorem VZ {s:jv} (h:rv s≠[]):xR s∈rv s:=by
 unfold xR;obtain ⟨L,hL⟩:∃L,L=rv s:=⟨_,rfl⟩
 rw [← hL] at h ⊢;have hl:0<L.length:=List.length_pos_iff.2 h;obtain ⟨x,hx⟩:∃x,x=BC s:=⟨_,rfl⟩
 rw [← hx];have h1:-(L.length:Int)<x.tmod L.length∧x.tmod L.length<L.length:=by
  have a:=fW x (show (0:Int)<L.length by omega);have b:=Int.lt_tmod_of_pos x (show (0:Int)<L.length by omega);omega
 have h2:0≤(x.tmod L.length+L.length).tmod L.length∧(x.tmod L.length+L.length).tmod L.length<L.length:=by
  have a:=fW (x.tmod L.length+L.length) (show (0:Int)<L.length by omega);have b:=Int.tmod_nonneg (L.length:Int) (show 0≤x.tmod L.length+L.length by omega);omega
 exact Pj ae
theorem Mr {s:jv} (h:GG s):GG (nf s):=by
 unfold nf;split
 ·exact h
 ·split
  ·rename_i h1 h2;obtain ⟨hi,hg,hz⟩:=h;refine ⟨⟨⟨hi.wf.nT,hi.wf.nC,hi.wf.nK,hi.wf.nB,hi.wf.pl,hi.wf.kK,hi.wf.jV,hi.wf.ends,hi.wf.kQ,hi.wf.ke,hi.wf.xu,hi.wf.sz,hi.wf.tF,hi.wf.tW⟩,⟨hi.kd.kd⟩,hi.par,hi.jH,hi.en,hi.wt,hi.ed,hi.rZ,hi.qN,hi.rr⟩,hg.eqs rfl rfl rfl rfl,⟨⟨?_,?_⟩,hz.sl,hz.ck,hz.ac,hz.ln,hz.cl,hz.pl,hz.bl,hz.ob,hz.ao,hz.al,hz.tn⟩⟩
   ·have:=hz.us;show 0≤s.used+1;omega
   ·show s.used+1≤(s.sched.length:Int);omega
  ·exact h
theorem O6 (s:jv):(nf s).tasks=s.tasks∧(nf s).turns=s.turns:=by
 unfold nf;split
 ·exact ⟨rfl,rfl⟩
 ·split
  ·exact ⟨rfl,rfl⟩
  ·exact ⟨rfl,rfl⟩
theorem uS.vc {s:jv} {n j:Nat} {t:jQ} {c:kh} {st:kG} {l:Lk} {k i:Nat} (h:uS s n t j c st l k i):vc s n=tM s n j c st:=by
 have e1:jJ s n=t:=oG h.ht;have e2:ye t=j:=by
  unfold ye;rw [h.hs,eM];exact getD_at h.hj
 have e3:Ro s j=c:=getD_at h.hc;have e4:YK c=st:=getD_at h.es;unfold Go.Ab.vc;rw [e1,e2,e3,e4]
theorem WM {mm:List (Nat×Obj)} (pD:xp mm):Kt mm GG:=by
 refine ⟨fun s h=>h.iv.wf,fun s h=>⟨⟨fun t ht=>?_,fun t ht=>?_⟩,⟨fun k t ht h1=>?_,?_⟩⟩,fun s h nN hr=>?_⟩
 ·obtain ⟨i,hi⟩:=eC ht;exact (h.gi.ta i t hi).pr
 ·obtain ⟨i,hi⟩:=eC ht;exact (h.gi.ta i t hi).wt
 ·obtain ⟨j,c,st,l,k',i,hT⟩:=JJ h.iv h.gi ht h1;exact ⟨j,c,st,ht,⟨i,hT.hs,hT.hj⟩,hT.hc,⟨c.pc.toNat,(dP hT.pc.1).symm,hT.es⟩⟩
 ·have:=h.sz.us;have:=h.sz.sl;omega
 ·obtain ⟨n,hn,t,ht,h1⟩:=alG _ _ (VZ hr);have hG:=Mr h;obtain ⟨e1,e2⟩:=O6 s;have nk:(nf s).tasks[n]?=some t:=by rw [e1];exact ht
  obtain ⟨j,c,st,l,k,i,hT⟩:=JJ hG.iv hG.gi nk h1;obtain ⟨hK,kW⟩:=hT.tok hG.iv hG.gi hG.sz h1;have rm:=hG.sz.ck;have og:=PA pD hK hT.es kW (by rw [e2];omega) (by rw [e2] at rm;omega);obtain ⟨g1,g2⟩:=Vc hG (by rw [e2];exact nN) hT h1;rw [← hT.vc] at og g1 g2;exact ⟨n,hn,hG.iv.wf,og,g1,by rw [g2,e2]⟩
def CJ (p:Tk) (sched:List Int):Prop:=Rg.Ap p∧sched.length≤200
theorem P0 {p:Tk} {sched:List Int} (h:CJ p sched):∃cd,p.kT[0]?=some cd∧GG (vI p sched cd)∧(vI p sched cd).turns=[]∧0≤cd.params∧cd.params≤4∧cd.params≤cd.vars∧cd.vars≤8∧cd.steps.length≤20:=by
 obtain ⟨og,mV⟩:=h;obtain ⟨⟨o1,o2,o3,o4,o5⟩,oc,om⟩:=og;have og:Rg.Ap p:=⟨⟨o1,o2,o3,o4,o5⟩,oc,om⟩
 obtain ⟨cd,mY⟩:∃cd,p.kT[0]?=some cd:=⟨_,dy ae⟩
 obtain ⟨⟨r1,r2,r3,r4,r5⟩,_⟩:=oc 0 ae;have Ai:Rg.mz p.kT ((0:Nat):Int)=cd:=zu mY;have Ta:0≤cd.params:=by rw [← Ai];exact r1
 have Td:cd.params≤4:=by rw [← Ai];exact r2
 have Lx:cd.params≤cd.vars:=by
  rw [← Ai];simp only [eG,jc] at r3;exact r3
 have Ly:cd.vars≤8:=by rw [← Ai];exact r4
 have N8:cd.steps.length≤20:=by rw [← Ai];exact r5
 clear r1 r2 r3 r4 r5;have GZ:=vB;obtain ⟨na,Ll⟩:∃na,na=p.mb.toNat:=⟨_,rfl⟩
 obtain ⟨np,I1⟩:∃np,np=cd.params.toNat:=⟨_,rfl⟩
 have aDC:na≤4:=ae;have aDD:np≤4:=ae;obtain ⟨s,hs⟩:∃s,s=mA p sched (na+np) na (List.replicate (na+1) m32):=⟨_,rfl⟩
 have lT:Iv s:=by
  rw [hs];refine WK ae bN ae ae bN fun l hl=>?_;rw [gN hl];rfl
 have oT:s.jL.length=na+np:=by rw [hs];simp [mA]
 have re:s.tasks.length=0:=by rw [hs];rfl
 have lK:s.calls.length=0:=by rw [hs];rfl
 have lR:s.ke.length=0:=by rw [hs];rfl
 have nG:s.jE.length=na+1:=by rw [hs];exact eB
 have mf:(mT na np).length=np:=by simp [mT]
 have KL:Gi s:=by
  refine ⟨by rw [hs];exact og,fun x hx=>?_,fun c hc=>?_,fun n t ht=>?_⟩
  ·have mH:x∈List.replicate (na+np) ((0:Int),(-1:Int)):=by rw [hs] at hx;exact hx
   rw [gN mH];simp only;omega
  ·rw [hs] at hc;cases hc
  ·rw [hs] at ht;simp [mA] at ht
 have Tb:∀x∈mT na np,x<(s.jL.length:Int):=fun x hx=>by
  obtain ⟨i,hi,rfl⟩:=eI.1 hx;have:=eU.1 hi;rw [oT];omega
 have qg:=L8 lT (c:=cd) (vs:=mT na np) (a:=m32) (prio:=0) (par:=-1) (canc:=false) ae ae ae ae rfl ae (by rw [mf];omega) ae (.inl rfl);have hG:=UJ lT KL (k:=0) (c:=cd) (vs:=mT na np) (a:=m32) (prio:=0) (par:=-1) (canc:=false) ae ae ae ae rfl ae ae (by rw [mf];omega) ae (.inl rfl) (by rw [hs];exact mY) ae Tb;have hF:=Hw s cd (mT na np) m32 0 (-1) false;have hE:vI p sched cd=oU s cd (mT na np) m32 0 (-1) false:=by unfold vI;rw [hs,← Ll,← I1]
 refine ⟨cd,mY,?_⟩;rw [hE];obtain ⟨R,hR⟩:∃R,R=oU s cd (mT na np) m32 0 (-1) false:=⟨_,rfl⟩
 rw [← hR] at qg hG hF ⊢;have e1:R.turns=[]:=by rw [hF.turns,hs];rfl
 have e2:R.kK=[]:=by rw [hF.kK,hs];rfl
 have e3:R.jT=[]:=by rw [hF.jT,hs];rfl
 have e4:R.lines=[]:=by rw [hF.lines,hs];rfl
 have e5:R.used=0:=by rw [hF.used,hs];rfl
 have e6:R.sched=sched:=by rw [hF.sched,hs];rfl
 have e7:R.jL.length=na+np:=by rw [hF.jL];exact oT
 have e8:R.jV.length=na:=by rw [hF.jV,hs];simp [mA]
 have e9:R.p=p:=by rw [hF.p,hs];rfl
 have c1:=qg.tl;have c2:=qg.cl;have c3:=qg.pl;have c4:=qg.bl;refine ⟨⟨qg.iv,hG,⟨by rw [e5,e6];omega,by rw [e6];exact mV,by rw [e2];exact dL _,by rw [e3];exact dL _,by rw [e4];exact dL _,ae,ae,ae,ae,by rw [e9];omega,by rw [e9];omega,by rw [e1];exact dL _⟩⟩,e1,Ta,Td,Lx,Ly,N8⟩
theorem alH {mm:List (Nat×Obj)} (pD:xp mm):∀(f:Nat) (s:jv),GG s→GG (wP f s):=by
 intro f
 induction f with
 | zero=>intro s h;exact h
 | succ f ih =>
   intro s h;unfold wP;split
   ·rename_i nN;split
    ·exact Mr h
    ·rename_i hr;obtain ⟨n,hn,_,_,g,_⟩:=(WM pD).tn s h nN hr;rw [hn,dF];exact ih _ g
   ·exact h
noncomputable def uc (p:Tk) (sched:List Int):jv:=wP 2001 (vI p sched (p.kT.getD 0 ⟨0,0,[]⟩))
theorem Vl {mm:List (Nat×Obj)} (pD:xp mm) {p:Tk} {sched:List Int} (h:CJ p sched) :
 vh Tryd.prog mm 39 [kU p,.jA (sched.map .int)] [] (.ky [jI,.int 0]) (HH (uc p sched))∧GG (uc p sched):=by
 obtain ⟨cd,mY,hG,hT,r1,r2,r3,r4,r5⟩:=P0 h;have Dy:p.kT.getD 0 ⟨0,0,[]⟩=cd:=getD_at mY;have hE:uc p sched=wP 2001 (vI p sched cd):=by unfold uc;rw [Dy]
 rw [hE];have Fp:=alH pD 2001 _ hG;refine ⟨?_,Fp⟩;have rm:=Uc p sched true (by simp only [true_iff];exact h.1);have l5:wN true sched.length=0:=by unfold wN;rw [ja rfl,iZ (by have:=h.2;omega)]
 rw [l5] at rm;have hp:=h.1.1;have S8:=anT (p:=p) (sched:=sched) (cd:=cd) (na:=p.mb.toNat) (np:=cd.params.toNat) ae ae mY ae ae ae ae ae (by have:=h.2;omega);exact anV (WM pD) hG (by rw [hT];rfl) (by rw [hT];exact dL _) Fp.iv.wf rm S8
theorem V0 {p:Tk} {sched:List Int} (e:Int) (he:e≠0) (rm:Fn Tryd.prog 59 [kU p,.jA (sched.map .int)] (.int e)) :
 Fn Tryd.prog 39 [kU p,.jA (sched.map .int)] (.ky [.base (.pointer none),.int e]):=by
 refine Fn.nZ [(0,kU p),(1,.jA (sched.map .int))] 2 25 Tryd.func39 ag rfl rfl rfl rfl rfl ?_;refine lD ?_;refine oQ (rm) ?_;refine lD ?_;have hd:(e !=0)=true:=by simp [he]
 refine j8 ?_ rfl aa;refine lD ?_;exact kO.data (vs:=[.base (.pointer none),.int e]) rfl rfl (Pu.ky ah)
def EX (k:Nat):AV→AV
 | .ptr b t i o=>.ptr (b+k) t i o
 | .own b t o l=>.own (b+k) t o l
 | .n5 b=>.n5 (b+k)
 | a=>a
def NK (k:Nat):AV→AV
 | .agg cs=>.agg (cs.map (EX k))
 | a=>EX k a
def vT (k:Nat) (B:jy):jy:=⟨B.ty,B.sz,B.es.map (NK k)⟩
theorem Ma (k:Nat) (e:AV):(NK k e).cells=e.cells.map (EX k):=by
 cases e<;>rfl
theorem Pu.sh (w:World) {k:Nat} {a:AV} (h:Pu a):EX k a=a:=by
 have hg:∀(b tot:Nat),(List.replicate (b+1) (⟨0,0,List.replicate (tot+1) .bad⟩:jy))[b]?=some ⟨0,0,List.replicate (tot+1) .bad⟩:=fun b tot=>by
  rw [fk,ja ae]
 cases a with
 | ptr b t i o =>
   have h1:=h w (fun _=>False) (fun _=>none) _ _ (.ys b t i o _ none (hg b t) ah);cases h1 with
   | ys _ _ _ _ _ _ hb=>simp at hb
 | own b t o l =>
   have h1:=h w (fun _=>False) (fun _=>none) _ _ (.uq b t o l _ none 0 0 (hg b t) ah);cases h1 with
   | uq _ _ _ _ _ _ _ _ hb=>simp at hb
   | tI _ _ hb=>simp at hb
 | n5 b =>
   have h1:=h w (fun _=>False) (fun _=>none) _ _ (.Bg b _ none (hg b 1) ah);cases h1 with
   | Bg _ _ _ hb=>simp at hb
 | _=>rfl
theorem mR.shM {S:Nat→Prop} {r:Nat→Option Nat} {H:List jy} {k:Nat} {a:AV} (h:mR S a) (hr:∀b,S b→r b=some (b+k)):mI r H a (EX k a):=by
 rcases h with h|⟨b,tot,i,off,rfl,h⟩|⟨b,tot,off,len,rfl,h⟩|⟨b,rfl,h⟩
 ·intro H2 w O ι jO u v hu;rw [h.sh w];exact mI.pu h H2 w O ι jO u v hu
 ·exact .ptr (hr b h)
 ·exact .own (hr b h)
 ·exact .n5 (hr b h)
theorem mR.shP {S:Nat→Prop} {r:Nat→Option Nat} {H:List jy} {k:Nat} {a:AV} (h:mR S a) (hr:∀b,S b→r (b+k)=some b):mL r H (EX k a) a:=by
 rcases h with h|⟨b,tot,i,off,rfl,h⟩|⟨b,tot,off,len,rfl,h⟩|⟨b,rfl,h⟩
 ·intro H2 w0 w O ι jO u hs v hu;rw [h.sh w] at hu;exact mL.pu h H2 w0 w O ι jO u hs v hu
 ·exact .ptr (hr b h)
 ·exact .own (hr b h)
 ·exact .n5 (hr b h)
theorem tf.QY {HC L:List jy} (hL:∀b∈L,kI (·<NN) b):tf [] HC [] L (HC++L.map (vT HC.length)):=
 ⟨gK,rfl,fun j b h=>bQ,dL _,ah,fun b hb _=>dA hb,fun j c bk h h2=>by
  simp [rb] at h;subst h;refine ⟨vT HC.length bk,by rw [dJ ae,fM,dE,h2];rfl,⟨rfl,rfl,by simp [vT],fun i e e2 h3 h4=>?_⟩⟩;simp only [vT,dE,h3,eJ,fA] at h4;subst h4;refine ⟨by rw [Ma,eo],fun m c c2 h5 h6=>?_⟩;rw [Ma,dE,h5] at h6;simp only [eJ,fA] at h6;subst h6;exact (hL bk (dx h2) e (dx h3) c (dx h5)).shM fun b hb=>by simp [rb,Nat.add_comm]⟩
theorem tf.aoB {HC:List jy} {R:jv} (hw:WF R):tf [] HC [] (HH R) (HC++(HH R).map (vT HC.length)):=.QY (vd hw)
noncomputable def B5 (k b:Nat):Option Nat:=if b<k then some (NN+b) else if b<k+NN then some (b-k) else none
theorem Wk.WI {n:Fr} {L:List jy} (hl:L.length=NN) (hL:∀b∈L,kI (·<NN) b) {T:List jy} {E E2:Env} (hm:n.m=0) (hT:∀b∈T,∀e∈b.es,∀c∈e.cells,Pu c) (h:wv (B5 T.length) (T++L.map (vT T.length)) E E2):Wk n ⟨E,T++L.map (vT T.length)⟩ ⟨E2,L++T⟩:=by
 refine Wk.pQ (q:=fun j=>if j<NN then T.length+j else j-NN) (r:=B5 T.length) ⟨fun b hb=>ae,fun j hj=>?_,fun b j hb hr=>?_,fun j b1 b2 h1 h2=>?_⟩ (wv.all h)
 ·simp only [dK,eo,hl] at hj ⊢;unfold B5;by_cases e:j<NN
  ·rw [ja e];refine ⟨ae,?_⟩;rw [iZ ae,ja ae];congr 1;omega
  ·rw [iZ e];refine ⟨ae,?_⟩;rw [ja ae];congr 1;omega
 ·simp only [dK,eo,hl] at hb ⊢;unfold B5 at hr;split at hr
  ·injection hr with hr;subst hr;rw [iZ ae];omega
  ·injection hr with hr;subst hr;rw [ja ae];omega
 ·by_cases e:j<NN
  ·simp only [ja e] at h1;rw [dJ ae,fM,dE] at h1;rw [dA ae] at h2;rw [h2] at h1;simp only [eJ,fA] at h1;subst h1;refine ⟨rfl,rfl,by simp [vT],fun i e1 e2 h3 h4=>?_⟩;simp only [vT,dE,h4,eJ,fA] at h3;subst h3;refine ⟨by rw [Ma,eo],fun m c c2 h5 h6=>?_⟩;rw [Ma,dE,h6] at h5;simp only [eJ,fA] at h5;subst h5;exact (hL b2 (dx h2) e2 (dx h4) c2 (dx h6)).shP fun b hb=>by
    have:b<NN:=hb;unfold B5;rw [iZ ae,ja ae];congr 1;omega
  ·simp only [iZ e] at h1;have hj:j-NN<T.length:=by
    have:=(dt h2).1;simp only [dK,hl] at this;omega
   rw [dA hj] at h1;rw [dJ ae,hl,h1] at h2;injection h2 with h2;subst h2;refine ⟨rfl,rfl,rfl,fun i e1 e2 h3 h4=>?_⟩;rw [h3] at h4;injection h4 with h4;subst h4;refine ⟨rfl,fun m c c2 h5 h6=>?_⟩;rw [h5] at h6;injection h6 with h6;subst h6;exact .pu (hT b1 (dx h1) e1 (dx h3) c (dx h5))
theorem Wk.front {n:Fr} {R:jv} (hw:WF R) {T:List jy} {E E2:Env} (hm:n.m=0) (hT:∀b∈T,∀e∈b.es,∀c∈e.cells,Pu c) (h:wv (B5 T.length) (T++(HH R).map (vT T.length)) E E2):Wk n ⟨E,T++(HH R).map (vT T.length)⟩ ⟨E2,HH R++T⟩:=.WI (kC R) (vd hw) hm hT h
def Gd (R:jv):AV:=.agg [.jA (R.lines.map fun x=>.base (.string x)),.jA (R.jT.map oJ),.jA ((R.tasks.map (·.state)).map AV.int),.jA ((R.tasks.map (·.par)).map AV.int),.base (.bool (R.tasks.all fun t=>decide (3≤t.state))),.int R.turns.length]
abbrev mn:jy:=⟨32,6,[.agg [kD,kD,kD,kD,.base (.bool false),.int 0]]⟩
theorem sO.app {H:List jy}:∀ {L L' M M':List jy},sO H L L'→sO H M M'→sO H (L++M) (L'++M')
 | [],[],_,_,_,h=>h
 | _::_,_::_,_,_,⟨h1,h2⟩,h=>⟨h1,sO.app h2 h⟩
abbrev xv (R:jv) (v1 v2:AV) (b:Bool):jy:=⟨32,6,[.agg [.own (ix .ln) R.lines.length 0 R.lines.length,.own (ix .ac) R.jT.length 0 R.jT.length,v1,v2,.base (.bool b),.int R.turns.length]]⟩
theorem WB {mm:List (Nat×Obj)} (pD:xp mm) {p:Tk} {sched:List Int} (h:CJ p sched):qY Tryd.prog mm 17 [kU p,.jA (sched.map .int)] (.ky [Gd (uc p sched),.int 0]):=by
 obtain ⟨Gq,Fp⟩:=Vl pD h;obtain ⟨R,hR⟩:∃R,R=uc p sched:=⟨_,rfl⟩
 rw [← hR] at Gq Fp ⊢;have qE:=Fp.iv.wf;have td:=kC R;obtain ⟨co,me,ac⟩:=p;clear hR;refine qY.nZ [(0,kU ⟨co,me,ac⟩),(1,.jA (sched.map .int))] 2 71 Tryd.func17 ag rfl rfl rfl rfl rfl ?_;refine jG.seq ?_;refine jG.join ⟨[(1,.jA (sched.map .int)),(2,.kN (kU ⟨co,me,ac⟩) 0),(4,.ptr 0 1 0 0),(mu,.mem mm)],[mn]⟩ ?_ ?_
 ·refine yj ?_;refine jw ?_;refine Wk.Ee [1] ah (fun b hb=>absurd hb (gF _)) ⟨⟨_,rfl,.pu (fun e he c hc=>by
   rw [dz] at he;subst he;simp only [AV.cells,dC,dB,jd] at hc;rcases hc with rfl|rfl|rfl|rfl|rfl|rfl<;>exact .base _)⟩,trivial⟩ (wv.all ⟨.pu (l7 _),.kN rfl rfl rfl rfl ⟨.pu (nz _),.pu (nz _),.pu (.base _),trivial⟩,.ptr rfl,.pu (.mem _),trivial⟩)
 have BY:tf [] [mn] [] (HH R) ([mn]++(HH R).map (vT 1)):=tf.aoB (HC:=[mn]) qE;have A2:mI (rb [] [mn].length) (HH R) (.ky [jI,.int 0]) (.ky [.ptr 1 1 0 0,.int 0]):=.Az ⟨.ptr (by simp [rb,ix]),.pu (.base _),trivial⟩;refine jG.seq ?_;refine jG.join ⟨[(4,.ptr NN 1 0 0),(6,jI),(7,.int 0),(mu,.mem mm)],HH R++[mn]⟩ ?_ ?_
 ·refine yj ?_;refine jB.p2 (OW Gq (.inr aa) BY rfl aa (args:=[kU ⟨co,me,ac⟩,.jA (sched.map .int)]) ?_ A2) ?_
  ·exact ⟨.pu (Bi ⟨co,me,ac⟩),.pu (l7 _),trivial⟩
  refine jw ?_;exact Wk.front (T:=[mn]) qE rfl (fun b hb e he c hc=>by
   rw [dz] at hb;subst hb;rw [dz] at he;subst he;simp only [AV.cells,dC,dB,jd] at hc;rcases hc with rfl|rfl|rfl|rfl|rfl|rfl<;>exact .base _) ⟨.ptr (by unfold B5;rfl),.ptr (by
    unfold B5;rw [iZ az,ja (by have:=mc;simp only [dO];omega)];rfl),.pu (.base _),.pu (.mem _),trivial⟩
 clear BY A2 Gq;refine jw ?_;refine jK ?_ rfl aa;refine jG.skip ?_;obtain ⟨B0,Te⟩:∃B0:jy,B0=xv R kD kD true:=⟨_,rfl⟩
 refine jG.seq ?_;refine jG.join ⟨[(4,.ptr NN 1 0 0),(6,jI),(8,.ptr (NN+1) 1 0 0),(mu,.mem mm)],HH R++[mn,B0]⟩ ?_ ?_
 ·refine qK (k:=15) [none,none,none,none,none,none,none,none,none,none,none,none,none,none,some 0] (fun k=>match k with
   | 0=>HH R++[mn]
   | _=>HH R++[mn,mn]) 1 follows ?_
  refine gS ?_;refine gS ?_;refine gS ?_;refine gS ?_;refine gS ?_;refine gS ?_;refine gS ?_;refine gS ?_;refine gS ?_;refine gS ?_;refine gS ?_;refine gS ?_;refine gS ?_;refine ko.q1 (v:=.agg [.own (ix .ln) R.lines.length 0 R.lines.length,.own (ix .ac) R.jT.length 0 R.jT.length,kD,kD,.base (.bool true),.int R.turns.length]) rfl rfl (fun c _=>DN M3 HP aC) ?_;refine ko.p1 (v:=.ptr (NN+1) 1 0 0) rfl rfl (fun kB h=>?_) ?_
  ·show PL Tryd.prog (HH R++[mn]) kB _ (.ptr (NN+1) 1 0 0) (HH R++[mn,mn]);have h1:=wD (P:=Tryd.prog) (H:=HH R++[mn]) (ρ:=kB) HP rfl;rw [eA,dK,td] at h1;exact h1
  refine ko.nil ?_;refine jw ?_;exact .wf (hH:=by rw [Te];simp +decide only [go_sem, *]<;>rfl)
 rw [Te];clear Te;refine jw ?_;have Lq:∀ {H:List jy},Bo H mn mn:=.pu fun e he c hc=>by
  rw [dz] at he;subst he;simp only [AV.cells,dC,dB,jd] at hc;rcases hc with rfl|rfl|rfl|rfl|rfl|rfl<;>exact .base _
 have Lr:∀ {H:List jy},sO H (HH R) (HH R):=sO.rf (S:=(·<NN)) (vd qE);refine jG.weaken (Wk.rQ (E2:=[(4,.ptr NN 1 0 0),(6,jI),(8,.ptr (NN+1) 1 0 0),(38,.own (ix .tk) R.tasks.length 0 R.tasks.length),(39,.int R.tasks.length),(40,.int 0)]) (H2:=HH R++[mn,xv R (.own (NN+2) 0 0 0) kD true]) 3 1
  (.app Lr ⟨Lq,.one ⟨.own,.own,.nil (by simp [td]),.pu (.base _),.pu (.base _),.pu (.base _),trivial⟩,trivial⟩) ⟨.ptr,.ptr,.ptr,.own,.pu (.base _),.pu (.base _),trivial⟩) ?_
 refine jG.weaken (Wk.rQ (E2:=[(4,.ptr NN 1 0 0),(6,jI),(8,.ptr (NN+1) 1 0 0),(38,.own (ix .tk) R.tasks.length 0 R.tasks.length),(39,.int R.tasks.length),(40,.int 0)]) (H2:=HH R++[mn,xv R (.own (NN+2) 0 0 0) (.own (NN+3) 0 0 0) true]++[jD []]) 3 1
  (.app (.app Lr ⟨Lq,.one ⟨.own,.own,.own,.nil (by simp [td]),.pu (.base _),.pu (.base _),trivial⟩,trivial⟩) ⟨.pu (fun e he=>by cases he),trivial⟩) ⟨.ptr,.ptr,.ptr,.own,.pu (.base _),.pu (.base _),trivial⟩) ?_
 refine jG.loop (J:=fun i:Nat=>i≤R.tasks.length) (fun i=>⟨[(4,.ptr NN 1 0 0),(6,jI),(8,.ptr (NN+1) 1 0 0),(38,.own (ix .tk) R.tasks.length 0 R.tasks.length),(39,.int R.tasks.length),(40,.int i)],HH R++[mn,xv R (.own (NN+2) i 0 i) (.own (NN+3) i 0 i) ((R.tasks.take i).all fun t=>decide (3≤t.state)),jD ((R.tasks.take i).map (·.state)),jD ((R.tasks.take i).map (·.par))]⟩) (fun i=>R.tasks.length-i) 0 (dL _) (.wf (hH:=ah)) ?_;rintro i hi;by_cases kn:i<R.tasks.length
 ·have hd:decide ((i:Int)<(R.tasks.length:Int))=true:=jf ae;obtain ⟨t,ht⟩:∃t,R.tasks[i]?=some t:=⟨_,dy kn⟩
  obtain ⟨g1,g2,g3,g4,_,g6⟩:=qE.k ht;have sR:=qE.nT;have pg:R.tasks.take (i+1)=R.tasks.take i++[t]:=by rw [fH,ht];rfl
  obtain ⟨l1,oA⟩:∃l1,l1=(R.tasks.take i).map (·.state):=⟨_,rfl⟩
  obtain ⟨l2,nL⟩:∃l2,l2=(R.tasks.take i).map (·.par):=⟨_,rfl⟩
  obtain ⟨b,hb⟩:∃b,b=(R.tasks.take i).all fun t=>decide (3≤t.state):=⟨_,rfl⟩
  have zU:Hid ((R.tasks.take (i+1)).map (·.state)=l1++[t.state]):=⟨by rw [pg,fY,← oA];rfl⟩
  have Dt:Hid ((R.tasks.take (i+1)).map (·.par)=l2++[t.par]):=⟨by rw [pg,fY,← nL];rfl⟩
  have Ls:Hid (((R.tasks.take (i+1)).all fun t=>decide (3≤t.state))=(b&&decide (3≤t.state))):=⟨by rw [pg,List.all_append,← hb];simp⟩
  have Es:l1.length=i:=by rw [oA];simp;omega
  have Et:l2.length=i:=by rw [nL];simp;omega
  rw [← oA,← nL,← hb];clear oA nL hb pg;refine jw ?_;refine j8 ?_ rfl aa;refine jw ?_;refine jB.q2 (lu (n:=i) (b:=ix .tk) aa aa ew aa ah kn aa) ?_;refine jw ?_;refine qK (k:=8) [none,none,none,none,none,none,none,some 0] (fun k=>match k with
   | 0=>HH R++[mn,xv R (.own (NN+2) i 0 i) (.own (NN+3) i 0 i) b,jD l1,jD l2]
   | _=>HH R++[mn,xv R (.own (NN+2) i 0 i) (.own (NN+3) i 0 i) b,jD (l1++[t.state]),jD l2]) 1 follows ?_
  refine gS ?_;refine gS ?_;refine gS ?_;refine gS ?_;refine gS ?_;refine gS ?_;refine ko.q1 (v:=.jA [.int t.state]) rfl rfl (fun _ _=>Al az dG ny ag az aM aM rfl) ?_;refine ko.p1 (v:=.own (NN+2) (i+1) 0 (i+1)) rfl rfl (fun kB h=>?_) ?_
  ·have h1:=tX (P:=Tryd.prog) (ρ:=kB) (H:=HH R++[mn,xv R (.own (NN+2) i 0 i) (.own (NN+3) i 0 i) b,jD l1,jD l2]) (b:=NN+2) (tot:=i) (es:=[.int t.state]) (blk:=jD l1) ((h (.tmp 45) ai).trans aa) ((h (.tmp 50) ai).trans aa) aa (by simp [Es]) dG ug rfl rfl ah (fun e he=>aw) aj aj;rw [wE td] at h1;have e1:jD (l1++[t.state])=⟨3,1,l1.map AV.int++[.int t.state]⟩:=ah;show PL Tryd.prog _ kB _ _ (HH R++[mn,xv R (.own (NN+2) i 0 i) (.own (NN+3) i 0 i) b,jD (l1++[t.state]),jD l2]);rw [e1];exact h1
  refine ko.nil ?_;refine IA ?_;refine Bq ?_;refine jG.weaken (s2:=⟨[(4,.ptr NN 1 0 0),(6,jI),(8,.ptr (NN+1) 1 0 0),(10,nW i),(38,.own (ix .tk) R.tasks.length 0 R.tasks.length),(39,.int R.tasks.length),(40,.int i)],HH R++[mn,xv R (.own (NN+2) (i+1) 0 (i+1)) (.own (NN+3) i 0 i) b,jD (l1++[t.state]),jD l2]⟩) ?_ ?_
  ·exact .wf (hH:=aa)
  refine jG.seq ?_;refine qK (k:=8) [none,none,none,none,none,none,none,some 0] (fun k=>match k with
   | 0=>HH R++[mn,xv R (.own (NN+2) (i+1) 0 (i+1)) (.own (NN+3) i 0 i) b,jD (l1++[t.state]),jD l2]
   | _=>HH R++[mn,xv R (.own (NN+2) (i+1) 0 (i+1)) (.own (NN+3) i 0 i) b,jD (l1++[t.state]),jD (l2++[t.par])]) 1 follows ?_
  refine gS ?_;refine gS ?_;refine gS ?_;refine gS ?_;refine gS ?_;refine gS ?_;refine ko.q1 (v:=.jA [.int t.par]) rfl rfl (fun _ _=>Al az dG ny ag az aM aM rfl) ?_;refine ko.p1 (v:=.own (NN+3) (i+1) 0 (i+1)) rfl rfl (fun kB h=>?_) ?_
  ·have h1:=tX (P:=Tryd.prog) (ρ:=kB) (H:=HH R++[mn,xv R (.own (NN+2) (i+1) 0 (i+1)) (.own (NN+3) i 0 i) b,jD (l1++[t.state]),jD l2]) (b:=NN+3) (tot:=i) (es:=[.int t.par]) (blk:=jD l2) ((h (.tmp 54) ai).trans aa) ((h (.tmp 59) ai).trans aa) aa (by simp [Et]) dG ug rfl rfl ah (fun e he=>aw) aj aj;rw [wE td] at h1;have e1:jD (l2++[t.par])=⟨3,1,l2.map AV.int++[.int t.par]⟩:=ah;show PL Tryd.prog _ kB _ _ (HH R++[mn,xv R (.own (NN+2) (i+1) 0 (i+1)) (.own (NN+3) i 0 i) b,jD (l1++[t.state]),jD (l2++[t.par])]);rw [e1];exact h1
  refine ko.nil ?_;refine IA ?_;refine Bq ?_;refine jG.weaken (s2:=⟨[(4,.ptr NN 1 0 0),(6,jI),(8,.ptr (NN+1) 1 0 0),(10,nW i),(38,.own (ix .tk) R.tasks.length 0 R.tasks.length),(39,.int R.tasks.length),(40,.int i)],HH R++[mn,xv R (.own (NN+2) (i+1) 0 (i+1)) (.own (NN+3) (i+1) 0 (i+1)) b,jD (l1++[t.state]),jD (l2++[t.par])]⟩) ?_ ?_
  ·exact .wf (hH:=aa)
  have wA:=yv ht g1;cases b with
  | false =>
    refine jw ?_;refine wu (.bool false) ?_;refine jw ?_;rw [l6 ae];refine ⟨i+1,ae,ae,?_⟩;rw [zU.out,Dt.out,Ls.out];exact .wf
  | true =>
    refine jw ?_;refine jB.Nl rfl rfl aa rfl (sf qE qE (T:=[mn,xv R (.own (NN+2) (i+1) 0 (i+1)) (.own (NN+3) (i+1) 0 (i+1)) true,jD (l1++[t.state]),jD (l2++[t.par])]) wA rfl aa aa (by
     intro a ha;rw [dz] at ha;subst ha;exact .ptr g1) (.pu (.base _))) ?_
    refine jw ?_;rw [l6 ae];refine ⟨i+1,ae,ae,?_⟩;rw [zU.out,Dt.out,Ls.out];exact .wf
 ·have hd:decide ((i:Int)<(R.tasks.length:Int))=false:=je ae;have wz:R.tasks.length=i:=ae;have nh:R.tasks.take i=R.tasks:=by rw [← wz];exact fT
  rw [nh];obtain ⟨l1,oA⟩:∃l1,l1=R.tasks.map (·.state):=⟨_,rfl⟩
  obtain ⟨l2,nL⟩:∃l2,l2=R.tasks.map (·.par):=⟨_,rfl⟩
  obtain ⟨b,hb⟩:∃b,b=R.tasks.all fun t=>decide (3≤t.state):=⟨_,rfl⟩
  have Es:l1.length=i:=by rw [oA,eo];exact wz
  have Et:l2.length=i:=by rw [nL,eo];exact wz
  have hV:Gd R=.agg [.jA (R.lines.map fun x=>.base (.string x)),.jA (R.jT.map oJ),.jA (l1.map AV.int),.jA (l2.map AV.int),.base (.bool b),.int R.turns.length]:=by rw [oA,nL,hb];rfl
  rw [hV,← oA,← nL,← hb];clear oA nL hb hV nh wz;refine jw ?_;refine jK ?_ rfl aa;refine jw ?_;refine kO.tB (vs:=[.agg [.own (ix .ln) R.lines.length 0 R.lines.length,.own (ix .ac) R.jT.length 0 R.jT.length,.own (NN+2) i 0 i,.own (NN+3) i 0 i,.base (.bool b),.int R.turns.length],.int 0]) aS ?_;have AR:∀x:Int,∀c∈(AV.int x).cells,Pu c:=fun x c hc=>aH;refine .Az ⟨.F2 ⟨.vE (ty:=9) (sz:=1) (f:=fun x=>.base (.string x)) (dL _) (by rw [mZ td Aq,qS R _ Aq];rfl) rfl (fun x _ c hc=>aH),
   .vE (ty:=73) (sz:=4) (f:=oJ) (dL _) (by rw [mZ td Cz,qS R _ Cz];rfl) rfl (fun x _ c hc=>by
    simp only [oJ,AV.cells,dC,dB,jd] at hc;rcases hc with rfl|rfl|rfl|rfl<;>exact .base _),
   .vE (ty:=3) (sz:=1) (f:=AV.int) (dL _) (vx td) Es (fun x _ c hc=>AR x c hc),
   .vE (ty:=3) (sz:=1) (f:=AV.int) (dL _) (vx td) Et (fun x _ c hc=>AR x c hc),.pu (.base _),.pu (.base _),trivial⟩,.pu (.base _),trivial⟩
theorem akL {p:Tk} {sched:List Int} (e:Int) (he:e≠0) (rm:Fn Tryd.prog 59 [kU p,.jA (sched.map .int)] (.int e)) :
 Fn Tryd.prog 17 [kU p,.jA (sched.map .int)] (.ky [.agg [kD,kD,kD,kD,.base (.bool false),.int 0],.int e]):=by
 have ib:=V0 e he rm;refine Fn.nZ [(0,kU p),(1,.jA (sched.map .int))] 2 71 Tryd.func17 ag rfl rfl rfl rfl rfl ?_;refine jN ?_;refine oQ (ib) ?_;refine jN ?_;have hd:(e !=0)=true:=by simp [he]
 refine j8 ?_ rfl aa;refine jN ?_;refine x9 M3 HP ?_;refine jN ?_;exact kO.data (vs:=[.agg [kD,kD,kD,kD,.base (.bool false),.int 0],.int e]) aS rfl (Pu.ky (by
  intro a ha;simp only [dC,dB,jd] at ha;rcases ha with rfl|rfl
  ·exact .agg fun c hc=>by
    simp only [dC,dB,jd] at hc;rcases hc with rfl|rfl|rfl|rfl|rfl|rfl<;>exact .base _
  ·exact .base _))
def p0:Tk:=⟨[⟨0,1,[⟨1,0,0,5,0,[]⟩,⟨4,0,0,0,0,[]⟩]⟩],[],0⟩
theorem aeX:(uc p0 []).turns.length=2:=by
 unfold uc;decide +kernel
theorem aeD:(uc p0 []).tasks.map (·.state)=[3]:=by
 unfold uc;decide +kernel
theorem agN:(uc p0 []).lines=[⟨#[48,58,53]⟩]:=by
 unfold uc;decide +kernel
theorem aiV:((uc p0 []).tasks.all fun t=>decide (3≤t.state))=true:=by
 unfold uc;decide +kernel
theorem ok0:CJ p0 []:=by
 have j6:Rg.oP ⟨p0,Rg.mz p0.kT 0,0,false⟩ 0 ⟨1,0,0,5,0,[]⟩:=.inl ⟨.inl rfl,⟨fun v hv=>by rw [dz] at hv;subst hv;exact ⟨az,az⟩,az⟩,rfl,az,az,rfl,rfl⟩;have jW:Rg.oP ⟨p0,Rg.mz p0.kT 0,0,false⟩ 1 ⟨4,0,0,0,0,[]⟩:=.inr (.inr (.inl ⟨rfl,⟨fun v hv=>by rw [dz] at hv;subst hv;exact ⟨az,az⟩,az⟩,rfl,rfl,rfl,rfl⟩));refine ⟨⟨⟨az,az,az,az,az⟩,fun i hi=>?_,fun i hi=>absurd hi (gF _)⟩,az⟩;have:i=0:=by have:i<1:=hi;omega
 subst this;refine ⟨⟨az,az,az,az,az⟩,fun k hk=>?_⟩;have B7:k<2:=hk;rcases k with _|_|k
 ·exact j6
 ·exact jW
 ·omega
theorem awD:∃(ac:List Acc) (ps:List Int),Gd (uc p0 [])=.agg [.jA [.base (.string ⟨#[48,58,53]⟩)],.jA (ac.map oJ),.jA [.int 3],.jA (ps.map AV.int),.base (.bool true),.int 2]:=
 ⟨(uc p0 []).jT,(uc p0 []).tasks.map (·.par),by
   unfold Gd;rw [agN,aeD,aiV,aeX];rfl⟩
theorem Le.awE {es ds:List AV} (hl:es.length=ds.length) (h:∀(i:Nat) (e d:AV),es[i]?=some e→ds[i]?=some d→yi e.cells d.cells):Le (.jA es) (.jA ds):=fun w O ι H u hu=>by
 have hex:∀(i:Nat) (d:AV),ds[i]?=some d→∃e,es[i]?=some e∧yi e.cells d.cells:=fun i d hd=>by
  have hi:i<es.length:=aR;exact ⟨_,dy hi,h i _ d (dy hi) hd⟩
 cases hu with
 | sn =>
   obtain rfl:ds=[]:=dQ hl.symm;exact .sn
 | jA es a n cap s val hn nQ so hlen ry hc hv =>
   refine .jA ds a n cap s val (hn.trans hl) nQ so (fun d hd=>?_) (fun d hd=>?_) (fun i j d c hd lC=>?_) (fun i j d c hd lC=>?_)
   ·obtain ⟨i,hi⟩:=eC hd;obtain ⟨e,he,hle⟩:=hex i d hi;rw [← hle.len];exact hlen e (dx he)
   ·obtain ⟨i,hi⟩:=eC hd;obtain ⟨e,he,hle⟩:=hex i d hi;exact ry e (dx he)
   ·obtain ⟨e,he,hle⟩:=hex i d hd;obtain ⟨y,hy,_⟩:=hle.at lC;exact hc i j e y he hy
   ·obtain ⟨e,he,hle⟩:=hex i d hd;obtain ⟨y,hy,EM⟩:=hle.at lC;exact EM _ _ _ _ _ (hv i j e y he hy)
abbrev n0:AV:=.agg [.jA [.agg [.int 0,.int 1,.jA [.agg [.int 1,.int 0,.int 0,.int 5,.int 0,kD],.agg [.int 4,.int 0,.int 0,.int 0,.int 0,kD]]]],kD,.int 0]
theorem arR:Le n0 (kU p0):=by
 have hs:∀(a b c d e:Int),Le (.agg [.int a,.int b,.int c,.int d,.int e,kD]) (ki ⟨a,b,c,d,e,[]⟩):=fun a b c d e=>.QE ⟨.refl _,.refl _,.refl _,.refl _,.refl _,.nil,trivial⟩;refine .QE ⟨.atF ⟨.refl _,.refl _,.awE rfl fun i e d h1 h2=>?_,trivial⟩,.nil,.refl _,trivial⟩;rcases i with _|_|i
 ·cases h1;cases h2;exact ⟨.refl _,.refl _,.refl _,.refl _,.refl _,.nil,trivial⟩
 ·cases h1;cases h2;exact ⟨.refl _,.refl _,.refl _,.refl _,.refl _,.nil,trivial⟩
 ·cases h1
theorem arS:Pu n0:=by
 have hS:∀(x:AV),x∈[AV.agg [.int 1,.int 0,.int 0,.int 5,.int 0,kD],.agg [.int 4,.int 0,.int 0,.int 0,.int 0,kD]]→∀c∈x.cells,Pu c:=fun x hx c hc=>by
  simp only [dC,dB,jd] at hx;rcases hx with rfl|rfl<;>(simp only [AV.cells,dC,dB,jd] at hc;rcases hc with rfl|rfl|rfl|rfl|rfl|rfl<;>exact .base _)
 refine .agg fun c hc=>?_;simp only [dC,dB,jd] at hc;rcases hc with rfl|rfl|rfl
 ·refine .jA fun e he c hc=>?_;rw [dz] at he;subst he;simp only [AV.cells,dC,dB,jd] at hc;rcases hc with rfl|rfl|rfl
  ·exact .base _
  ·exact .base _
  ·exact .jA hS
 ·exact .base _
 ·exact .base _
theorem ahN {mm:List (Nat×Obj)} (pD:xp mm):qY Tryd.prog mm 22 [] (.bool true):=by
 have Tf:=WB pD ok0;obtain ⟨ac,ps,e0⟩:=awD;rw [e0] at Tf;have ir:qY Tryd.prog mm 17 [n0,kD] _:=Tf.le ⟨arR,.nil,trivial⟩;clear Tf e0;refine qY.nZ [] 0 52 Tryd.func22 ag rfl rfl rfl rfl rfl ?_;refine jN ?_;refine x9 YL WN ?_;refine jN ?_;refine x9 YL WN ?_;refine jN ?_;refine jB.q2 (Al az fg MU ag az aM aM rfl) ?_;refine jN ?_;refine x9 awF WO ?_;refine jN ?_;refine jB.q2 (Al az eO awG ag az aM aM rfl) ?_;refine jN ?_;refine x9 awH aoC ?_;refine jN ?_;have wY:∀a∈[n0,kD],Pu a:=fun a ha=>by
  simp only [dC,dB,jd] at ha;rcases ha with rfl|rfl
  ·exact arS
  ·exact .base _
 refine oQ ir ?_ (hp:=wY);refine jN ?_;refine uf (h:=fun hg=>wC (e:=.base (.string ⟨#[48,58,53]⟩)) rfl rfl im ae rfl ag) (hr:=?_);refine jN ?_;refine uf (h:=fun hg=>wC (e:=.int 3) rfl rfl dG ae rfl ag) (hr:=?_);refine jN ?_;exact kO.data (vs:=[.bool true]) rfl rfl (.base _)
theorem O5 (a b:List Int):Fn Tryd.prog 31 [.jA (a.map .int),.jA (b.map .int)] (.bool (decide (a=b))):=by
 refine Fn.nZ [(0,.jA (a.map .int)),(1,.jA (b.map .int))] 2 26 Tryd.func31 ag rfl rfl rfl rfl rfl ?_;refine jG.CD 0 rfl fun hlen=>?_;rw [eo] at hlen;refine lD ?_;refine kL (fun hl=>?_) (fun hl=>?_)
 ·simp at hl;refine lD ?_;exact kO.bool rfl cM
 simp at hl;have qz:a.length=b.length:=ae;refine lD ?_;refine jG.Qe (J:=fun k:Nat=>k≤a.length∧∀i:Nat,i<k→nth 0 a i=nth 0 b i) (fun k=>[(5,.int k)]) (fun k=>a.length-k) 0 ⟨dL _,fun i h=>ae⟩ .wk ?_;rintro k ⟨hk,he⟩;refine lD ?_;refine kL (fun hd=>?_) (fun hd=>?_)
 ·simp at hd;refine lD ?_;refine mi (k:=9) follows (hr:=?_);refine lD ?_;refine kL (fun hq=>?_) (fun hq=>?_)
  ·simp at hq;refine lD ?_;exact kO.bool rfl cD
  ·simp at hq;refine lD ?_;rw [l6 ae];refine ⟨k+1,⟨ae,fun i hi=>?_⟩,ae,.wk⟩;by_cases e:i=k
   ·subst e;exact hq
   ·exact he i ae
 simp at hd;refine lD ?_;exact kO.bool rfl (by
  simp;apply gA qz;intro i h1 h2;have:=he i ae;rwa [uP h1,uP h2] at this)
theorem Uf (a b:List Int):Fn Tryd.prog 54 [.jA (a.map .int),.jA (b.map .int)] (.bool (decide (a=b))):=by
 refine Fn.nZ [(0,.jA (a.map .int)),(1,.jA (b.map .int))] 2 26 Tryd.func54 ag rfl rfl rfl rfl rfl ?_;refine jG.CD 0 rfl fun hlen=>?_;rw [eo] at hlen;refine lD ?_;refine kL (fun hl=>?_) (fun hl=>?_)
 ·simp at hl;refine lD ?_;exact kO.bool rfl cM
 simp at hl;have qz:a.length=b.length:=ae;refine lD ?_;refine jG.loop (J:=fun k:Nat=>k≤a.length∧∀i:Nat,i<k→nth 0 a i=nth 0 b i) (fun k=>⟨[(0,.jA (a.map .int)),(1,.jA (b.map .int)),(12,.int a.length),(13,.int k)],[]⟩) (fun k=>a.length-k) 0 ⟨dL _,fun i h=>ae⟩ .wf ?_;rintro k ⟨hk,he⟩;refine lD ?_;refine kL (fun hd=>?_) (fun hd=>?_)
 ·simp at hd;refine lD ?_;refine mi (k:=9) follows (hr:=?_);refine lD ?_;refine kL (fun hq=>?_) (fun hq=>?_)
  ·simp at hq;refine lD ?_;exact kO.bool rfl cD
  ·simp at hq;refine lD ?_;rw [l6 ae];refine ⟨k+1,⟨ae,fun i hi=>?_⟩,ae,.wf⟩;by_cases e:i=k
   ·subst e;exact hq
   ·exact he i ae
 simp at hd;refine lD ?_;exact kO.bool rfl (by
  simp;apply gA qz;intro i h1 h2;have:=he i ae;rwa [uP h1,uP h2] at this)
abbrev zM (x:ByteArray):AV:=.base (.string x)
theorem alI (b:ByteArray) (n:Nat):∀(i:Nat) (r:List UInt8),b.size-i=n→ByteArray.toList.loop b i r=r.reverse++b.data.toList.drop i:=by
 have hb:b.size=b.data.toList.length:=rfl
 induction n with
 | zero =>
   intro i r h;rw [ByteArray.toList.loop];rw [iZ ae,ga ae,fC]
 | succ n ih =>
   intro i r h;rw [ByteArray.toList.loop,ja ae,ih (i+1) _ ae];rw [fS (i:=i) ae];have:b.get! i=b.data.toList[i]' ae:=by
    have h2:i<b.data.size:=by have:b.size=b.data.size:=rfl
                              omega
    show b.data[i]! = _;rw [getElem!_pos b.data i h2];rfl
   rw [this];simp
theorem UK (b:ByteArray):b.toList=b.data.toList:=by
 rw [ByteArray.toList,alI b _ 0 [] rfl];simp
theorem WQ {x y:ByteArray} (h:x.toList=y.toList):x=y:=by
 rw [UK,UK] at h;cases x;cases y;simp at h;rw [h]
instance:OfNat ByteArray 0:=⟨ByteArray.empty⟩
theorem agO (a b:List ByteArray):Fn Tryd.prog 42 [.jA (a.map zM),.jA (b.map zM)] (.bool (decide (a=b))):=by
 refine Fn.nZ [(0,.jA (a.map zM)),(1,.jA (b.map zM))] 2 26 Tryd.func42 ag rfl rfl rfl rfl rfl ?_;refine jG.CD 0 rfl fun hlen=>?_;rw [eo] at hlen;refine lD ?_;refine kL (fun hl=>?_) (fun hl=>?_)
 ·simp at hl;refine lD ?_;exact kO.bool rfl cM
 simp at hl;have qz:a.length=b.length:=ae;refine lD ?_;refine jG.Qe (J:=fun k:Nat=>k≤a.length∧∀i:Nat,i<k→nth 0 a i=nth 0 b i) (fun k=>[(5,.int k)]) (fun k=>a.length-k) 0 ⟨dL _,fun i h=>ae⟩ .wk ?_;rintro k ⟨hk,he⟩;refine lD ?_;refine kL (fun hd=>?_) (fun hd=>?_)
 ·simp at hd;refine lD ?_;refine mi (k:=9) follows (hr:=?_);refine lD ?_;refine kL (fun hq=>?_) (fun hq=>?_)
  ·simp at hq;refine lD ?_;exact kO.bool rfl cD
  ·simp at hq;refine lD ?_;rw [l6 ae];refine ⟨k+1,⟨ae,fun i hi=>?_⟩,ae,.wk⟩;by_cases e:i=k
   ·subst e;exact WQ hq
   ·exact he i ae
 simp at hd;refine lD ?_;exact kO.bool rfl (by
  simp;apply gA qz;intro i h1 h2;have:=he i ae;rwa [uP h1,uP h2] at this)
theorem aeY (a b:List ByteArray):Fn Tryd.prog 52 [.jA (a.map zM),.jA (b.map zM)] (.bool (decide (a=b))):=by
 refine Fn.nZ [(0,.jA (a.map zM)),(1,.jA (b.map zM))] 2 26 Tryd.func52 ag rfl rfl rfl rfl rfl ?_;refine jG.CD 0 rfl fun hlen=>?_;rw [eo] at hlen;refine lD ?_;refine kL (fun hl=>?_) (fun hl=>?_)
 ·simp at hl;refine lD ?_;exact kO.bool rfl cM
 simp at hl;have qz:a.length=b.length:=ae;refine lD ?_;refine jG.loop (J:=fun k:Nat=>k≤a.length∧∀i:Nat,i<k→nth 0 a i=nth 0 b i) (fun k=>⟨[(0,.jA (a.map zM)),(1,.jA (b.map zM)),(12,.int a.length),(13,.int k)],[]⟩) (fun k=>a.length-k) 0 ⟨dL _,fun i h=>ae⟩ .wf ?_;rintro k ⟨hk,he⟩;refine lD ?_;refine kL (fun hd=>?_) (fun hd=>?_)
 ·simp at hd;refine lD ?_;refine mi (k:=9) follows (hr:=?_);refine lD ?_;refine kL (fun hq=>?_) (fun hq=>?_)
  ·simp at hq;refine lD ?_;exact kO.bool rfl cD
  ·simp at hq;refine lD ?_;rw [l6 ae];refine ⟨k+1,⟨ae,fun i hi=>?_⟩,ae,.wf⟩;by_cases e:i=k
   ·subst e;exact WQ hq
   ·exact he i ae
 simp at hd;refine lD ?_;exact kO.bool rfl (by
  simp;apply gA qz;intro i h1 h2;have:=he i ae;rwa [uP h1,uP h2] at this)
end Go.Ab
set_option maxHeartbeats 4000000
namespace Go.Ab
open Go Go.Ab Go.Proofs Go.Ab.Ty Go.RowKit
deriving instance DecidableEq for Acc
instance:Inhabited Acc:=⟨⟨0,0,false,0⟩⟩
instance:OfNat Acc 0:=⟨⟨0,0,false,0⟩⟩
abbrev xw (x:Acc):Array Value:=#[.int .i64 x.task,.int .i64 x.object,.bool x.write,.int .i64 x.time]
theorem V1 {w:World} {O:Nat→Prop} {ι:Nat→Option Nat} {H:List jy} {x:Acc} {u:Value} (h:VR w O ι H (oJ x) u):u=.agg (xw x):=by
 obtain ⟨arr,e1,h1,h2⟩:=VR.Co h;obtain ⟨l⟩:=arr
 match l,h1 with
 | [a,b,c,d],_ =>
   have ha:=(h2 0 _ a rfl rfl).nO;have hb:=(h2 1 _ b rfl rfl).nO;have hc:=(h2 2 _ c rfl rfl).nO;have hd:=(h2 3 _ d rfl rfl).nO;rw [e1,ha,hb,hc,hd]
theorem aeZ:(Tryd.prog.fieldsOf 73).toList=[
 { name:="Task",type:=3,offset:=0,embedded:=false,tag:="",pkgPath:="",byteOffset:=0 },
 { name:="Object",type:=3,offset:=1,embedded:=false,tag:="",pkgPath:="",byteOffset:=8 },
 { name:="Write",type:=4,offset:=2,embedded:=false,tag:="",pkgPath:="",byteOffset:=16 },
 { name:="Time",type:=3,offset:=3,embedded:=false,tag:="",pkgPath:="",byteOffset:=24 }]:=ag
theorem aoD (w:World) (x y:Acc):(Op.equal 73 (.agg (xw x)) (.agg (xw y))).run Tryd.prog w=.ok (decide (x=y)) w:=by
 show (Op.equalIn (9999+1) 73 (.agg (xw x)) (.agg (xw y))).run Tryd.prog w=_;rw [run_equalIn_struct w 9999 73 (xw x) (xw y) ag ag,aeZ];have hp:∀(z:Acc),(part 3 (xw z) 0).run Tryd.prog w=.ok (.int .i64 z.task) w∧(part 3 (xw z) 1).run Tryd.prog w=.ok (.int .i64 z.object) w∧(part 4 (xw z) 2).run Tryd.prog w=.ok (.bool z.write) w∧(part 3 (xw z) 3).run Tryd.prog w=.ok (.int .i64 z.time) w:=fun z=>by
  have hc:∀(j:Nat) (c:AV) (u:Value),[AV.int z.task,.int z.object,.base (.bool z.write),.int z.time][j]?=some c→(xw z)[j]?=some u→VR w (fun _=>False) (fun _=>none) [] c u:=fun j c u h1 h2=>by
   rcases j with _|_|_|_|j
   ·cases h1;cases h2;exact .base _
   ·cases h1;cases h2;exact .base _
   ·cases h1;cases h2;exact .base _
   ·cases h1;cases h2;exact .base _
   ·cases h1
  have g:∀(t:TypeId) (o:Nat) (v:Value),uB (mE Tryd.prog t) (lW Tryd.prog t) (.agg [AV.int z.task,.int z.object,.base (.bool z.write),.int z.time]) o=some (.base v)→(part t (xw z) o).run Tryd.prog w=.ok v w:=fun t o v hl=>by
   obtain ⟨u,r,hv⟩:=UQ (P:=Tryd.prog) (w:=w) rfl hc hl;rw [hv.nO] at r;exact r
  exact ⟨g 3 0 _ (by rw [Nc,ny];rfl),g 3 1 _ (by rw [Nc,ny];rfl),g 4 2 _ (by rw [awI,KX];rfl),g 3 3 _ (by rw [Nc,ny];rfl)⟩
 obtain ⟨x0,x1,x2,x3⟩:=hp x;obtain ⟨y0,y1,y2,y3⟩:=hp y;have i1:∀a b:Int,(Op.equalIn 9999 3 (.int .i64 a) (.int .i64 b)).run Tryd.prog w=.ok (a==b) w:=fun a b=>run_equalIn_int w 9998 3 .i64 .i64 a b ag;have i2:∀a b:Bool,(Op.equalIn 9999 4 (.bool a) (.bool b)).run Tryd.prog w=.ok (a==b) w:=fun a b=>run_equalIn_bool' w 9998 4 a b ag;have hd:decide (x=y)=(x.task==y.task&&(x.object==y.object&&(x.write==y.write&&x.time==y.time))):=by
  obtain ⟨a,b,c,d⟩:=x;obtain ⟨a',b',c',d'⟩:=y;rw [gW];simp
 rw [hd];have n1:("Task":String) ≠ "_":=az;have n2:("Object":String) ≠ "_":=az;have n3:("Write":String) ≠ "_":=az;have n4:("Time":String) ≠ "_":=az;have j0:=i1 x.task y.task;have j1:=i1 x.object y.object;have j2:=i2 x.write y.write;have j3:=i1 x.time y.time;clear i1 i2 hd hp;generalize (x.task==y.task)=b0 at j0 ⊢;generalize (x.object==y.object)=b1 at j1 ⊢;generalize (x.write==y.write)=b2 at j2 ⊢;generalize (x.time==y.time)=b3 at j3 ⊢;simp only [Op.eqFields,n1,n2,n3,n4,ne_eq,not_false_eq_true,jb,dR,x0,y0,dN,j0];cases b0<;>cases b1<;>cases b2<;>cases b3<;>simp [Op.eqFields,dR,dV,x1,y1,x2,y2,x3,y3,j1,j2,j3,dN]
theorem Ug {H:List jy} {ρ:Operand→AV} {x y:Operand} {a b:Acc} {yt:TypeId} (hx:ρ x=oJ a) (hy:ρ y=oJ b):QL Tryd.prog H ρ (.binOp .neq 73 x y yt) (.base (.bool (decide (a≠b)))):=by
 refine QL.ql fun w0 O ι A w hs hv o ho=>?_;have h1:=hv x au;have h2:=hv y au;rw [hx] at h1;rw [hy] at h2;have e1:=V1 h1;have e2:=V1 h2;have he:=aoD w a b;have hg:Tryd.prog.eqGuardType Tryd.prog.depth 73=false:=ag;have wW:(eqGuard .neq 73 x y (.agg (xw a)) (.agg (xw b))).run Tryd.prog w=.ok () w:=by
  simp [eqGuard,hg]
 exact ⟨.bool (decide (a≠b)),by simp only [execOp,ho,e1,e2,dR,wW,dN,binOp,he,dV,decide_not],.base _⟩
end Go.Ab
set_option maxHeartbeats 4000000
namespace Go.Ab
open Go Go.Ab Go.Proofs Go.Ab.Ty
theorem afA (a b:List Acc):Fn Tryd.prog 53 [.jA (a.map oJ),.jA (b.map oJ)] (.bool (decide (a=b))):=by
 refine Fn.nZ [(0,.jA (a.map oJ)),(1,.jA (b.map oJ))] 2 26 Tryd.func53 ag rfl rfl rfl rfl rfl ?_;refine jG.CD 0 rfl fun hlen=>?_;rw [eo] at hlen;refine lD ?_;refine kL (fun hl=>?_) (fun hl=>?_)
 ·simp at hl;refine lD ?_;exact kO.bool rfl cM
 simp at hl;have qz:a.length=b.length:=ae;refine lD ?_;refine jG.loop (J:=fun k:Nat=>k≤a.length∧∀i:Nat,i<k→nth 0 a i=nth 0 b i) (fun k=>⟨[(0,.jA (a.map oJ)),(1,.jA (b.map oJ)),(12,.int a.length),(13,.int k)],[]⟩) (fun k=>a.length-k) 0 ⟨dL _,fun i h=>ae⟩ .wf ?_;rintro k ⟨hk,he⟩;refine lD ?_;refine kL (fun hd=>?_) (fun hd=>?_)
 ·simp at hd;refine lD ?_;refine mi (k:=9) follows (hr:=?_);refine lD ?_;refine jB.q2 (Ug (a:=nth default a k) (b:=nth default b k) rfl rfl) ?_;refine lD ?_;refine kL (fun hq=>?_) (fun hq=>?_)
  ·simp at hq;refine lD ?_;exact kO.bool rfl cD
  ·simp at hq;refine lD ?_;rw [l6 ae];refine ⟨k+1,⟨ae,fun i hi=>?_⟩,ae,.wf⟩;by_cases e:i=k
   ·subst e;exact hq
   ·exact he i ae
 simp at hd;refine lD ?_;exact kO.bool rfl (by
  simp;apply gA qz;intro i h1 h2;have:=he i ae;rwa [uP h1,uP h2] at this)
structure TR where
 lines:List ByteArray
 jT:List Acc
 xf:List Int
 xx:List Int
 all:Bool
 turns:Int
deriving DecidableEq
def qW (x:TR):AV:=.agg [.jA (x.lines.map zM),.jA (x.jT.map oJ),.jA (x.xf.map .int),.jA (x.xx.map .int),.base (.bool x.all),.int x.turns]
attribute [go_sem] qW
@[simp] theorem UL (l:List ByteArray):Pu (.jA (l.map zM)):=.jA fun e he c hc=>by
 obtain ⟨x,_,rfl⟩:=eI.1 he;simp only [AV.cells,dz] at hc;subst hc;exact .base _
@[simp] theorem UM (l:List Acc):Pu (.jA (l.map oJ)):=.jA fun e he c hc=>by
 obtain ⟨x,_,rfl⟩:=eI.1 he;simp only [oJ,AV.cells,dC,dB,jd] at hc;rcases hc with rfl|rfl|rfl|rfl<;>exact .base _
@[simp] theorem aBo (l:List Int):Pu (.jA (l.map .int)):=l7 l
theorem akK (x y:TR):Fn Tryd.prog 27 [qW x,qW y] (.bool (decide (x=y))):=by
 refine Fn.nZ [(0,qW x),(1,qW y)] 2 45 Tryd.func27 ag rfl rfl rfl rfl rfl ?_;refine lD ?_;refine oQ (aeY x.lines y.lines) ?_;refine lD ?_;refine xe (i:=fun hg=>afA x.jT y.jT) (hr:=?_);refine lD ?_;refine xe (i:=fun hg=>Uf x.xf y.xf) (hr:=?_);refine lD ?_;refine xe (i:=fun hg=>Uf x.xx y.xx) (hr:=?_);refine lD ?_;refine kO.bool rfl ?_;have Ce:x=y↔(x.lines=y.lines∧x.jT=y.jT∧x.xf=y.xf∧x.xx=y.xx∧x.all=y.all∧x.turns=y.turns):=by
  cases x;cases y;simp
 rw [decide_eq_true_iff,Ce];clear Ce;by_cases h1:x.lines=y.lines<;>by_cases h2:x.jT=y.jT<;>by_cases h3:x.xf=y.xf<;>by_cases h4:x.xx=y.xx<;>simp [h1,h2,h3,h4]
theorem VR.bdR {w:World} {O:Nat→Prop} {ι:Nat→Option Nat} {H:List jy} {u:Value} {x:TR} (h:VR w O ι H (qW x) u):x.jT.length≤9223372036854775807:=by
 obtain ⟨v,hv⟩:=h.Wj (j:=1) rfl;have:=hv.Ps;rw [eo] at this;exact this
theorem VM (x y:TR):Fn Tryd.prog 21 [qW x,qW y] (.bool (decide (x=y))):=by
 refine Fn.nZ [(0,qW x),(1,qW y)] 2 69 Tryd.func21 ag rfl rfl rfl rfl rfl ?_;refine jG.Wi 0 (a:=qW x) (Ψ:=x.jT.length≤9223372036854775807) rfl (fun w O ι H u h=>VR.bdR h) fun AQ=>?_;refine jG.seq ?_;refine jG.join ⟨[(2,.kN (qW x) 0),(3,.kN (qW y) 0)],[]⟩ ?_ ?_
 ·refine lD ?_;have NJ:∀(z:TR) (r:Nat→Option Nat) (H:List jy),zA r H (qW z).cells (qW z).cells:=fun z r H=>⟨.pu (UL _),.pu (UM _),.pu (l7 _),.pu (l7 _),.pu (.base _),.pu (.base _),trivial⟩
  exact Wk.Ee [] gK (fun b hb=>absurd hb (gF _)) trivial (wv.all ⟨.kN rfl rfl rfl rfl (NJ x _ _),.kN rfl rfl rfl rfl (NJ y _ _),trivial⟩)
 refine lD ?_;refine xe (i:=fun hg=>agO x.lines y.lines) (hr:=?_);refine lD ?_;refine xe (i:=fun hg=>O5 x.xf y.xf) (hr:=?_);refine lD ?_;refine xe (i:=fun hg=>O5 x.xx y.xx) (hr:=?_);refine lD ?_;have Ce:x=y↔((x.all=y.all∧x.turns=y.turns∧x.lines=y.lines∧x.xf=y.xf∧x.xx=y.xx∧x.jT.length=y.jT.length)∧x.jT=y.jT):=by
  cases x;cases y;simp;constructor
  ·rintro ⟨rfl,rfl,rfl,rfl,rfl,rfl⟩;simp
  ·rintro ⟨⟨rfl,rfl,rfl,rfl,rfl,_⟩,rfl⟩;simp
 by_cases hP:x.all=y.all∧x.turns=y.turns∧x.lines=y.lines∧x.xf=y.xf∧x.xx=y.xx∧x.jT.length=y.jT.length
 ·obtain ⟨h1,h2,h3,h4,h5,h6⟩:=hP;refine jK ?_ ?_ rfl;rotate_left
  ·simp [h1,h2,h3,h4,h5,h6]
  refine jG.skip ?_;refine jG.weaken (s2:=⟨[(2,.kN (qW x) 0),(3,.kN (qW y) 0)],[]⟩) ?_ ?_
  ·exact .wf
  refine lD ?_;refine jG.loop (J:=fun k:Nat=>k≤x.jT.length∧∀i:Nat,i<k→nth 0 x.jT i=nth 0 y.jT i) (fun k=>⟨[(2,.kN (qW x) 0),(3,.kN (qW y) 0),(5,.int k)],[]⟩) (fun k=>x.jT.length-k) 0 ⟨dL _,fun i h=>ae⟩ .wf ?_;rintro k ⟨hk,he⟩;refine lD ?_;refine kL (fun hd=>?_) (fun hd=>?_)
  ·simp at hd;refine lD ?_;refine mi (k:=11) follows (hr:=?_);refine lD ?_;refine jB.q2 (Ug (a:=nth default x.jT k) (b:=nth default y.jT k) rfl rfl) ?_;refine lD ?_;refine kL (fun hq=>?_) (fun hq=>?_)
   ·simp at hq;refine lD ?_;exact kO.bool rfl cD
   ·simp at hq;refine lD ?_;rw [l6 ae];refine ⟨k+1,⟨ae,fun i hi=>?_⟩,ae,.wf⟩;by_cases e:i=k
    ·subst e;exact hq
    ·exact he i ae
  simp at hd;refine lD ?_;exact kO.bool rfl (by
   rw [decide_eq_true_iff,Ce];simp only [true_iff];refine ⟨⟨h1,h2,h3,h4,h5,h6⟩,?_⟩;apply gA h6;intro i q1 q2;have:=he i ae;rwa [uP q1,uP q2] at this)
 ·refine j8 ?_ ?_ rfl;rotate_left
  ·(by_cases h1:x.all=y.all<;>by_cases h2:x.turns=y.turns<;>by_cases h3:x.lines=y.lines<;>by_cases h4:x.xf=y.xf<;>by_cases h5:x.xx=y.xx<;>by_cases h6:x.jT.length=y.jT.length<;>simp [h1,h2,h3,h4,h5,h6]<;>(first|omega|exact hP ⟨h1,h2,h3,h4,h5,h6⟩))
  refine lD ?_;exact kO.bool rfl (by rw [decide_eq_true_iff,Ce];simp only [eG,ji];exact fun h=>hP h.1)
theorem Pw (x:TR):Pu (qW x):=.agg fun c hc=>by
 simp only [dC,dB,jd] at hc;rcases hc with rfl|rfl|rfl|rfl|rfl|rfl
 ·exact UL _
 ·exact UM _
 ·exact l7 _
 ·exact l7 _
 ·exact .base _
 ·exact .base _
attribute [simp] Pw
theorem CX {f:Nat} {xs:List AV} (h:Sh Tryd.prog f 3 xs):∃n:Int,xs=[.int n]:=by
 cases f with
 | zero=>exact h.elim
 | succ f =>
   simp only [Sh,gL] at h;obtain ⟨n,h1,h2⟩:=h;exact ⟨n,h1⟩
theorem P3 {α:Type} {Q:List AV→Prop} {f:α→AV} {g:List AV→AV} {parts:List (List AV)} (h:∀p∈parts,Q p) (hq:∀p,Q p→∃x,g p=f x):∃l:List α,parts.map g=l.map f:=by
 induction parts with
 | nil=>exact ⟨[],rfl⟩
 | cons p ps ih =>
   obtain ⟨l,hl⟩:=ih fun q C4=>h q (by simp [C4]);obtain ⟨x,hx⟩:=hq p (h p ah);exact ⟨x::l,by rw [ef,ef,hl,hx]⟩
theorem Xn {f:Nat} {xs:List AV} (h:Sh Tryd.prog f 25 xs):∃l:List Int,xs=[.jA (l.map .int)]:=by
 cases f with
 | zero=>exact h.elim
 | succ f =>
   simp only [Sh,dG] at h;obtain ⟨parts,rfl,hl,h⟩:=h;obtain ⟨l,h1⟩:=P3 (f:=AV.int) (g:=wK (mE Tryd.prog 3==some true)) h fun p hp=>by
    obtain ⟨n,rfl⟩:=CX hp.2;exact ⟨n,by rw [Nc];rfl⟩
   exact ⟨l,by rw [h1]⟩
theorem six {α:Type} {l:List α} (h:l.length=6):∃p0 p1 p2 p3 p4 p5,l=[p0,p1,p2,p3,p4,p5]:=by
 match l,h with
 | [p0,p1,p2,p3,p4,p5],_=>exact ⟨_,_,_,_,_,_,rfl⟩
end Go.Ab
set_option maxHeartbeats 4000000
namespace Go.Proofs.YthgicbkdckpeaaaDoor
open Go.ChangeShapes Go.WideShapes Go.ChangeAt Go.RowKit Go.Lib Go.Ab
theorem own:ownKnob Tryd.prog.godebug=none:=ag
set_option maxRecDepth 100000 in
theorem awJ:(Rows.laid_internal_strconv_uint64pow10:DataW Unit)=tabData .u64 pow10Tab:=ag
theorem awL {W:World} (h:laidMetH Tryd.prog [("math/bits.deBruijn32tab",Rows.laid_math_bits_deBruijn32tab),("math/bits.deBruijn64tab",Rows.laid_math_bits_deBruijn64tab),("internal/strconv.uint64pow10",Rows.laid_internal_strconv_uint64pow10)] W):∃mm,xp mm∧∀p∈mm,W.heap[p.1]?=some p.2:=by
 have h:laidMet Tryd.prog [("math/bits.deBruijn32tab",Rows.laid_math_bits_deBruijn32tab),("math/bits.deBruijn64tab",Rows.laid_math_bits_deBruijn64tab),("internal/strconv.uint64pow10",Rows.laid_internal_strconv_uint64pow10)] W:=h;obtain ⟨g,t,cs,fuel,p,h1,h2,h3,h4⟩:=laidMet.reads h (n:="internal/strconv.uint64pow10") (d:=tabData .u64 pow10Tab) (by rw [awJ];exact List.mem_cons_of_mem _ (List.mem_cons_of_mem _ (dz.2 rfl)));have e1:Tryd.prog.globalNamed "internal/strconv.uint64pow10" = some 0:=Qh.m17;obtain rfl:=Option.some.inj (e1.symm.trans h1);have e2:(Tryd.prog.globals[0]?).map (·.type)=some 177:=ag;obtain rfl:=Option.some.inj (e2.symm.trans h2);have mh:=cells_of_tab (P:=Tryd.prog) (t:=177) (e:=171) (n:=20) (k:=.u64) (zs:=pow10Tab) ag ag ag ag h4;unfold World.var? at h3;rw [e1] at h3;simp only [gy] at h3;split at h3
 ·rename_i c ty fz hc;injection h3 with h3;subst h3;refine ⟨[(0,.cells c ty fz)],⟨ty,fz,?_⟩,fun p hp=>?_⟩
  ·rw [← mh]
  ·rw [dz] at hp;subst hp;exact hc
 ·cases h3
def Rp (l:List Value):Obj→Obj
 | .cells _ t frozen=>.cells l.toArray t frozen
 | o=>o
def awM:List Value:=pow10Tab.map fun z=>Value.int .u64 z
def awN:List Value:=[0,1,28,2,29,14,24,3,30,22,20,15,25,17,4,8,31,27,13,23,21,19,16,7,26,12,18,6,11,5,10,9].map fun z=>Value.int .u8 z
def awO:List Value:=[0,1,56,2,57,49,28,3,61,58,42,50,38,29,17,4,62,47,59,36,45,43,51,22,53,39,33,30,24,18,12,5,63,55,48,27,60,41,37,16,46,35,44,21,52,32,23,11,54,26,40,15,34,20,31,10,25,14,19,9,13,8,7,6].map fun z=>Value.int .u8 z
noncomputable def alJ (os:Os):Array Obj:=(((World.holding Tryd.prog os ⟨#[],#[],[]⟩).heap.modify 0 (Rp awM)).modify 1 (Rp awN)).modify 2 (Rp awO)
noncomputable def laidWorld (os:Os):World:={ World.holding Tryd.prog os ⟨#[],#[],[]⟩ with heap:=alJ os }
end Go.Proofs.YthgicbkdckpeaaaDoor
set_option maxHeartbeats 4000000
namespace Go.Ab
open Go Go.Ab Go.Proofs Go.Ab.Ty
theorem three {α:Type} {l:List α} (h:l.length=3):∃p0 p1 p2,l=[p0,p1,p2]:=by
 match l,h with
 | [p0,p1,p2],_=>exact ⟨_,_,_,rfl⟩
theorem arT {f:Nat} {p:List AV} (h:Sh Tryd.prog f 70 p):∃x:kG,AV.agg p=ki x:=by
 cases f with
 | zero=>exact h.elim
 | succ f =>
   simp only [Sh,Tryd.underlying70] at h;obtain ⟨parts,hlen,rfl,h⟩:=h;obtain ⟨p0,p1,p2,p3,p4,p5,rfl⟩:=six (show parts.length=6 from hlen);obtain ⟨a0,rfl⟩:=CX (h 0 _ p0 rfl rfl).2;obtain ⟨a1,rfl⟩:=CX (h 1 _ p1 rfl rfl).2;obtain ⟨a2,rfl⟩:=CX (h 2 _ p2 rfl rfl).2;obtain ⟨a3,rfl⟩:=CX (h 3 _ p3 rfl rfl).2;obtain ⟨a4,rfl⟩:=CX (h 4 _ p4 rfl rfl).2;obtain ⟨a5,rfl⟩:=Xn (h 5 _ p5 rfl rfl).2;exact ⟨⟨a0,a1,a2,a3,a4,a5⟩,rfl⟩
theorem arU {f:Nat} {xs:List AV} (h:Sh Tryd.prog f 66 xs):∃l:List kG,xs=[.jA (l.map ki)]:=by
 cases f with
 | zero=>exact h.elim
 | succ f =>
   simp only [Sh,fg] at h;obtain ⟨parts,rfl,hl,h⟩:=h;obtain ⟨l,h1⟩:=P3 (f:=ki) (g:=wK (mE Tryd.prog 70==some true)) h fun p hp=>by
    obtain ⟨n,hn⟩:=arT hp.2;exact ⟨n,by rw [arV];exact hn⟩
   exact ⟨l,by rw [h1]⟩
theorem arW {f:Nat} {p:List AV} (h:Sh Tryd.prog f 68 p):∃x:Cd,AV.agg p=kx x:=by
 cases f with
 | zero=>exact h.elim
 | succ f =>
   simp only [Sh,Tryd.underlying68] at h;obtain ⟨parts,hlen,rfl,h⟩:=h;obtain ⟨p0,p1,p2,rfl⟩:=three (show parts.length=3 from hlen);obtain ⟨a0,rfl⟩:=CX (h 0 _ p0 rfl rfl).2;obtain ⟨a1,rfl⟩:=CX (h 1 _ p1 rfl rfl).2;obtain ⟨a2,rfl⟩:=arU (h 2 _ p2 rfl rfl).2;exact ⟨⟨a0,a1,a2⟩,rfl⟩
theorem Xo {f:Nat} {xs:List AV} (h:Sh Tryd.prog f 22 xs):∃l:List Cd,xs=[.jA (l.map kx)]:=by
 cases f with
 | zero=>exact h.elim
 | succ f =>
   simp only [Sh,eO] at h;obtain ⟨parts,rfl,hl,h⟩:=h;obtain ⟨l,h1⟩:=P3 (f:=kx) (g:=wK (mE Tryd.prog 68==some true)) h fun p hp=>by
    obtain ⟨n,hn⟩:=arW hp.2;exact ⟨n,by rw [arX];exact hn⟩
   exact ⟨l,by rw [h1]⟩
theorem arY {a:AV} (h:EI Tryd.prog 24 a):∃x:Tk,a=kU x:=by
 unfold EI at h;obtain ⟨f,p,h,hn,e⟩:=h;cases f with
 | zero=>exact h.elim
 | succ f =>
   simp only [Sh,Tryd.underlying24] at h;have ⟨parts,hlen,e2,h3⟩:=h;clear h;subst e2;obtain ⟨p0,p1,p2,hp⟩:=three (show parts.length=3 from hlen);rw [hp] at h3 e;have g0:Sh Tryd.prog f 22 p0:=(h3 0 _ p0 rfl rfl).2;have g1:Sh Tryd.prog f 22 p1:=(h3 1 _ p1 rfl rfl).2;have g2:Sh Tryd.prog f 3 p2:=(h3 2 _ p2 rfl rfl).2;obtain ⟨a0,rfl⟩:=Xo g0;obtain ⟨a1,rfl⟩:=Xo g1;obtain ⟨a2,rfl⟩:=CX g2;exact ⟨⟨a0,a1,a2⟩,by rw [e,arZ];rfl⟩
theorem aoE {a:AV} (h:EI Tryd.prog 25 a):∃l:List Int,a=.jA (l.map .int):=by
 unfold EI at h;obtain ⟨f,p,h,hn,e⟩:=h;obtain ⟨l,rfl⟩:=Xn h;exact ⟨l,by rw [e,asA];rfl⟩
end Go.Ab
set_option maxHeartbeats 4000000
namespace Go.Ab.Rf
open Go Go.Ab Go.Proofs Go.Ab.Ty
structure lM where
 code:Cd
 jM:Int
 step:Int
 fr:Nat
structure km where
 jH:List lM
 jC:Nat
 prio:Int
 par:Int
 canc:Bool
 state:Int
 ended:Bool
 closing:Bool
 waits:Int
 has:Int
 kids:List Int
 turns:List Int
structure jz where
 p:Tk
 tasks:List km
 kr:List Int
 ml:List Int
 lines:List ByteArray
 jT:List Acc
 turns:List Int
 jV:List Int
 after:List (Int×Int)
 at':Int
 jY:List (List Int×List Int)
def uw (b:Nat):Nat→AV
 | 0=>.jA []
 | n+1=>.own b (n+1) 0 (n+1)
theorem ahH {b n:Nat} (h:0<n):uw b n=.own b n 0 n:=by
 cases n with
 | zero=>omega
 | succ n=>rfl
def CP (k:Nat):List Int→AV
 | []=>kD
 | _::l=>.own (ix (.kg k)) (l.length+1) 0 (l.length+1)
theorem ahI {k:Nat} {l:List Int} {i:Nat} {x:Int} (h:l[i]?=some x):CP k l=.own (ix (.kg k)) l.length 0 l.length:=by
 cases l with
 | nil=>simp at h
 | cons a l=>rfl
abbrev nD (l:lM):AV:=.agg [.int l.code.params,.int l.code.vars,.jA (l.code.steps.map ki),.int l.jM,.int l.step,uw (ix (.kz l.fr)) l.code.vars.toNat,uw (ix (.lg l.fr)) l.code.steps.length]
abbrev oI (k:Nat) (t:km):AV:=.agg [.own (ix (.jH k)) t.jH.length 0 t.jC,.int t.prio,.int t.par,.base (.bool t.canc),.int t.state,.base (.bool t.ended),.base (.bool t.closing),.int t.waits,.int t.has,xq k t.kids,CP k t.turns]
def uI (l:List km):List AV:=l.mapIdx oI
@[go_sem] theorem FG (l:List km):(uI l).length=l.length:=List.length_mapIdx
theorem DZ {l:List km} {k:Nat} {t:km} (h:l[k]?=some t):(uI l)[k]?=some (oI k t):=by
 unfold uI;rw [fh,h];rfl
theorem JC {l:List km} {k:Nat} {t:km}:(uI l).set k (oI k t)=uI (l.set k t):=by
 apply fG;intro i;unfold uI;rw [eN,fh,fh,eN];by_cases e:k=i
 ·subst e;simp only [jb,List.length_mapIdx];split<;>rfl
 ·rw [iZ e,iZ e]
theorem ajY {l:List km} {t:km}:uI l++[oI l.length t]=uI (l++[t]):=by
 unfold uI;rw [List.mapIdx_append];simp
abbrev vO (p:Tk) (a b c d e f g h:Nat) (i:Int):jy:=⟨51,12,[.agg [.jA (p.kT.map kx),.jA (p.methods.map kx),.int p.mb,.own (ix .tk) a 0 a,.own (ix .ob) b 0 b,.own (ix .ck) c 0 c,.own (ix .ln) d 0 d,.own (ix .ac) e 0 e,.own (ix .tn) f 0 f,.own (ix .at') g 0 g,.own (ix .en) h 0 h,.int i]]⟩
abbrev lE (s:jz):jy:=vO s.p s.tasks.length s.kr.length s.ml.length s.lines.length s.jT.length s.turns.length s.jV.length s.after.length s.at'
abbrev qB (l:List km):jy:=⟨94,11,uI l⟩
abbrev tt (l:List lM):jy:=⟨112,7,l.map nD⟩
abbrev IF (l:List (Int×Int)):jy:=⟨63,2,l.map qH⟩
def blk (s:jz):Nm→jy
 | .rn=>lE s
 | .ob=>jD s.kr
 | .tk=>qB s.tasks
 | .ln=>⟨9,1,s.lines.map fun x=>.base (.string x)⟩
 | .ac=>⟨73,4,s.jT.map oJ⟩
 | .tn=>jD s.turns
 | .ck=>jD s.ml
 | .en=>IF s.after
 | .at'=>jD s.jV
 | .jH k=>match s.tasks[k]? with
   | some t=>tt t.jH
   | none=>tt []
 | .lU k=>match s.tasks[k]? with
   | some t=>jD t.kids
   | none=>jD []
 | .kg k=>match s.tasks[k]? with
   | some t=>jD t.turns
   | none=>jD []
 | .lg j=>match s.jY[j]? with
   | some c=>jD c.2
   | none=>jD []
 | .kz j=>match s.jY[j]? with
   | some c=>jD c.1
   | none=>jD []
 | _=>jD []
noncomputable def RH (s:jz):List jy:=hp NN fun i=>blk s (nm i)
theorem kv (s:jz):(RH s).length=NN:=Wn
@[go_sem] theorem nj (s:jz) (a:Nm) (h:ix a<NN):(RH s)[ix a]?=some (blk s a):=by
 unfold RH;rw [PS h,HW]
theorem WZ {L:List jy} {s:jz} (hl:L.length=NN) (h:∀a:Nm,a.zX→L[ix a]?=some (blk s a)):L=RH s:=
 Wo hl fun i hi=>by have:=h (nm i) (Wt hi);rw [CI] at this;exact this
attribute [go_sem] kv blk
theorem W0 {H:List jy} {k:Nat} {l:List Int} (h:H[ix (.kg k)]?=some (jD l)):wI Tryd.prog H 25 (CP k l)=some (.int l.length):=by
 cases l with
 | nil=>simp only [CP,kD,wI];rw [dG];rfl
 | cons a l=>simp only [CP,wI,fresh,h];rw [dG];simp
theorem ME {H:List jy} {b:Nat} {l:List Int} {n:Nat} (h:H[b]?=some (jD l)) (hn:l.length=n):wI Tryd.prog H 25 (uw b n)=some (.int n):=by
 cases n with
 | zero=>simp only [uw,wI];rw [dG];rfl
 | succ m=>simp only [uw,wI,fresh,h];rw [dG];simp [hn]
structure WF (s:jz):Prop where
 nT:s.tasks.length≤32
 nF:s.jY.length≤MM
 lv:∀t∈s.tasks,t.jC≤t.jH.length∧t.jH.length≤1000∧t.kids.length≤1000∧t.turns.length≤1000000∧∀l∈t.jH,∃f,s.jY[l.fr]?=some f∧f.1.length=l.code.vars.toNat∧f.2.length=l.code.steps.length∧l.code.vars≤1000∧l.code.steps.length≤1000
 sz:s.kr.length≤1000000∧s.ml.length=s.kr.length∧s.lines.length≤1000000∧s.jT.length≤1000000∧s.turns.length≤1000000∧s.jV.length=s.turns.length∧s.after.length≤100000000000
def sH (s:jz):Nm→Prop
 | .jH k | .lU k | .kg k=>k<s.tasks.length
 | .lg j | .kz j=>j<s.jY.length
 | .kQ _ | .jX _ | .lB _=>False
 | _=>True
theorem tY {s:jz} (h:WF s) {a:Nm} (hd:sH s a):a.zX:=by
 have:=h.nT;have:=h.nF;have:=vB;cases a<;>simp only [sH,Nm.zX] at*<;> omega
def Sd (s:jz) (b:Nat):Prop:=∃a,sH s a∧b=ix a
theorem Sd.of {s:jz} {a:Nm} (h:sH s a):Sd s (ix a):=⟨a,h,rfl⟩
theorem Sd.lt {s:jz} (hw:WF s) {b:Nat} (h:Sd s b):b<NN:=by
 obtain ⟨a,hd,rfl⟩:=h;exact mq (tY hw hd)
theorem DQ {S:Nat→Prop} {b n:Nat} (h:S b):mR S (uw b n):=by
 cases n with
 | zero=>exact .pu (.jA fun e he=>by cases he)
 | succ n=>exact .own h
theorem HD {S:Nat→Prop} {l:lM} (h1:S (ix (.kz l.fr))) (h2:S (ix (.lg l.fr))):∀c∈(nD l).cells,mR S c:=fun c hc=>by
 simp only [AV.cells,dC,dB,jd] at hc;rcases hc with rfl|rfl|rfl|rfl|rfl|rfl|rfl
 ·exact .pu (.base _)
 ·exact .pu (.base _)
 ·exact .pu (zl _)
 ·exact .pu (.base _)
 ·exact .pu (.base _)
 ·exact DQ h1
 ·exact DQ h2
theorem ajZ {S:Nat→Prop} {k:Nat} {t:km} (h1:S (ix (.jH k))) (h2:S (ix (.lU k))) (h3:S (ix (.kg k))):∀c∈(oI k t).cells,mR S c:=fun c hc=>by
 simp only [AV.cells,dC,dB,jd] at hc;rcases hc with rfl|rfl|rfl|rfl|rfl|rfl|rfl|rfl|rfl|rfl|rfl
 ·exact .own h1
 ·exact .pu (.base _)
 ·exact .pu (.base _)
 ·exact .pu (.base _)
 ·exact .pu (.base _)
 ·exact .pu (.base _)
 ·exact .pu (.base _)
 ·exact .pu (.base _)
 ·exact .pu (.base _)
 ·cases t.kids with
  | nil=>exact .pu (.base _)
  | cons a l=>exact .own h2
 ·cases t.turns with
  | nil=>exact .pu (.base _)
  | cons a l=>exact .own h3
theorem PV {s:jz} (hw:WF s) (a:Nm):kI (Sd s) (blk s a):=by
 have hi:∀l:List Int,kI (Sd s) (jD l):=fun l=>rE;cases a with
 | rn =>
   refine .one fun c hc=>?_;simp only [dC,dB,jd] at hc;rcases hc with rfl|rfl|rfl|rfl|rfl|rfl|rfl|rfl|rfl|rfl|rfl|rfl
   ·exact .pu ah
   ·exact .pu ah
   ·exact .pu (.base _)
   all_goals first|exact .own (.of trivial)|exact .pu (.base _)
 | tk =>
   intro e he c hc;simp only [blk,uI] at he;obtain ⟨k,hk⟩:=eC he;rw [fh] at hk;cases ht:s.tasks[k]? with
   | none=>rw [ht] at hk;cases hk
   | some t =>
     rw [ht] at hk;have hl:k<s.tasks.length:=(dt ht).1;injection hk with hk;subst hk;exact ajZ (.of (a:=.jH k) hl) (.of (a:=.lU k) hl) (.of (a:=.kg k) hl) c hc
 | ln =>
   exact .map fun x _ c hc=>bj
 | ac =>
   exact .map fun x _ c hc=>by
    simp only [oJ,AV.cells,dC,dB,jd] at hc;rcases hc with rfl|rfl|rfl|rfl<;>exact .pu (.base _)
 | en =>
   exact .map fun x _ c hc=>by
    simp only [qH,AV.cells,dC,dB,jd] at hc;rcases hc with rfl|rfl<;>exact .pu (.base _)
 | jH k =>
   simp only [blk];split
   ·rename_i t ht;refine .map fun l hl c hc=>?_;obtain ⟨f,hf,_⟩:=(hw.lv t (dx ht)).2.2.2.2 l hl;have hj:l.fr<s.jY.length:=(dt hf).1;exact HD (.of (a:=.kz l.fr) hj) (.of (a:=.lg l.fr) hj) c hc
   ·exact .nil
 | lU k=>simp only [blk];split<;>exact hi _
 | kg k=>simp only [blk];split<;>exact hi _
 | lg k=>simp only [blk];split<;>exact hi _
 | kz k=>simp only [blk];split<;>exact hi _
 | _=>exact hi _
theorem W3 {s:jz} (hw:WF s):∀b∈RH s,kI (Sd s) b:=fun b hb=>by
 unfold RH hp at hb;obtain ⟨i,_,rfl⟩:=eI.1 hb;exact PV hw _
theorem rO {s:jz} (hw:WF s):∀b∈RH s,kI (·<NN) b:=fun b hb=>(W3 hw b hb).mono fun _ h=>h.lt hw
theorem Qi {s:jz} (hw:WF s) {a:Nm} (ha:¬sH s a) {q:Nat} (hq:NN≤q):∀b∈RH s,kI (Nb q (ix a)) b:=fun b hb =>
 (W3 hw b hb).mono fun i hi=>⟨fun e=>by obtain ⟨a',h1,h2⟩:=hi;rw [e] at h2;rw [sg h2] at ha;exact ha h1,by have:=hi.lt hw;omega⟩
theorem Mf {s s':jz} (hw:WF s) (tC:WF s') {T:List jy} {ρ:Operand→AV} {c:Call} {fx:Operand} {f:FuncId} {caps args:List AV} {d:AV} (hf:jS Tryd.prog f args (RH s) d (RH s')) (hc:c.callee=.value fx) (qL:ρ fx=.j9 f caps) (ha:c.args.toList.map ρ++caps=args) (hr:∀a∈args,mR (·<NN) a) (hd:mR (·<NN) d):PL Tryd.prog (RH s++T) ρ (.call c) d (RH s'++T):=by
 have rW:∀b,b<NN→ro (List.range NN) b=some b:=fun b hb=>bo;refine zg hf (.pre (kv s) (kv s') (rO hw) (rO tC)) hc qL ?_ (hd.mv fun b hb=>Cj hb);rw [ha];clear ha hf
 induction args with
 | nil=>trivial
 | cons a l ih=>exact ⟨(hr a ah).mv rW,ih fun x hx=>hr x (by simp [hx])⟩
theorem kY.ref {rs:List ResultVar} {n:Nat} {d:AV} {s':jz} {E:Env} {H:List jy} {vs:List AV} (T:List jy) (hw:WF s') (hv:o6 Tryd.prog ⟨E,H⟩ rs=some vs) (hH:H=RH s'++T) (he:rG vs=d) (hd:mR (·<NN) d):kY Tryd.prog rs ⟨n,NN⟩ d (RH s') ⟨E,H⟩:=by
 have hl:=kv s';refine ⟨_,vs,pre NN,id,.refl _,hv,.pre (by rw [hH];simp [hl]) (dD _) hl fun j b1 b2 h1 h2=>?_,by rw [he];exact hd.tB fun b hb=>rF hb⟩;have hj:=(dt h2).1;simp only at h1;rw [hH,dA hj,h2] at h1;injection h1 with h1;subst h1;refine ⟨rfl,rfl,rfl,fun i e e2 h3 h4=>?_⟩;rw [h3] at h4;injection h4 with h4;subst h4;refine ⟨rfl,fun k c c2 h5 h6=>?_⟩;rw [h5] at h6;injection h6 with h6;subst h6;exact (rO hw b2 (dx h2) e (dx h3) c (dx h5)).tB fun b hb=>rF hb
theorem vz {s s':jz} (l:List (Nm×jy)) (hl:∀p∈l,ix p.1<NN∧p.2=blk s' p.1) (h:∀a,a∉l.map (·.1)→blk s' a=blk s a):l.foldl (fun L p=>L.set (ix p.1) p.2) (RH s)=RH s':=by
 have key:∀(l:List (Nm×jy)) (L:List jy),L.length=NN→(∀p∈l,ix p.1<NN∧p.2=blk s' p.1)→(∀a:Nm,a.zX→a∉l.map (·.1)→L[ix a]?=some (blk s' a))→l.foldl (fun L p=>L.set (ix p.1) p.2) L=RH s':=by
  intro l
  induction l with
  | nil=>intro L hL _ h2;exact WZ hL fun a ha=>h2 a ha ah
  | cons p l ih =>
    intro L hL h1 h2;refine ih _ (by rw [dW];exact hL) (fun q hq=>h1 q (by simp [hq])) fun a ha hn=>?_;rw [qQ hL (h1 p ah).1];split
    ·rename_i e;subst e;rw [(h1 p ah).2]
    ·rename_i e;exact h2 a ha (by simp only [ef,dC,jl];exact ⟨fun e'=>e e'.symm,hn⟩)
 exact key l _ (kv s) hl fun a ha hn=>by rw [nj s a (mq ha),h a hn]
end Go.Ab.Rf
