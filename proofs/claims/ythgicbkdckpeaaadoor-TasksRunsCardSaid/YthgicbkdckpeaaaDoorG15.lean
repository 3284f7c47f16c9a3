/- Part. -/
import Derived.Test.YthgicbkdckpeaaaDoorG14
set_option linter.unusedSimpArgs false
set_option linter.unusedVariables false
set_option maxHeartbeats 4000000
namespace Go.Ab.Rf
open Go Go.Ab Go.Proofs Go.Ab.Ty
structure ST (C:List kh) (F:List (List Int×List Int)) (t:jQ) (u:km):Prop where
 sl:u.jC=t.jC
 jH:∀i:Nat,i<t.jC→∃(j:Nat) (c:kh),t.jZ[i]?=some j∧C[j]?=some c∧u.jH[i]?=some ⟨c.code,c.jM,c.pc,j⟩
 pr:u.prio=t.prio
 par:u.par=t.par
 canc:u.canc=t.canc
 state:u.state=t.state
 kids:u.kids=t.kids
 waits:u.waits=t.waits
 has:u.has=t.has
 ed:u.ended=decide (t.ending=4)
 cl:u.closing=decide (t.ending≠0)
 k0:∀(j:Nat) (g:List Int×List Int),t.jZ[0]?=some j→F[j]?=some g→∀q:Nat,q<g.2.length→g.2[q]?=some ((getM t.kg (q:Int)).getD (-1))
 ym:t.ending=0∨t.ending=3∨t.ending=4
 st:(t.state=1∧t.ending=0∧t.waits = -1)∨(t.state=2∧t.ending=0∧0≤t.waits∧t.has = -1)∨(t.state=2∧t.ending≠0∧t.waits = -1∧t.has = -1)∨(3≤t.state∧t.state=t.ending∧t.waits = -1∧t.has = -1)
structure kZ (s:jv) (r:jz):Prop where
 p:r.p=s.p
 lk:r.kr=s.jL.map (·.2)
 nu:r.ml=s.jL.map (·.1)
 li:r.lines=s.lines
 ac:r.jT=s.jT
 tn:r.turns=s.turns
 us:r.at'=s.used
 fl:r.jY.length=s.calls.length
 fr:∀(j:Nat) (c:kh),s.calls[j]?=some c→∃g:List Int,r.jY[j]?=some (c.vars,g)∧g.length=c.code.steps.length
 tl:r.tasks.length=s.tasks.length
 tk:∀(k:Nat) (t:jQ),s.tasks[k]?=some t→∃u:km,r.tasks[k]?=some u∧ST s.calls r.jY t u
theorem kZ.eqs {s s':jv} {r r':jz} (h:kZ s r) (e1:s'.p=s.p) (e2:s'.jL=s.jL) (e3:s'.lines=s.lines) (e4:s'.jT=s.jT) (e5:s'.turns=s.turns) (e6:s'.used=s.used) (e7:s'.calls=s.calls) (e8:s'.tasks=s.tasks)
 (f1:r'.p=r.p) (f2:r'.kr=r.kr) (f3:r'.ml=r.ml) (f4:r'.lines=r.lines) (f5:r'.jT=r.jT) (f6:r'.turns=r.turns) (f7:r'.at'=r.at') (f8:r'.jY=r.jY) (f9:r'.tasks=r.tasks):kZ s' r':=
 ⟨by rw [f1,e1];exact h.p,by rw [f2,e2];exact h.lk,by rw [f3,e2];exact h.nu,by rw [f4,e3];exact h.li,by rw [f5,e4];exact h.ac,by rw [f6,e5];exact h.tn,by rw [f7,e6];exact h.us,by rw [f8,e7];exact h.fl,by rw [f8,e7];exact h.fr,by rw [f9,e8];exact h.tl,by rw [f9,e8,f8,e7];exact h.tk⟩
theorem kZ.jF {s:jv} {r:jz} (h:kZ s r) {k:Nat} {t':jQ} {u':km} (hs:k<s.tasks.length→ST s.calls r.jY t' u'):kZ (s.jF k t') (r.jF k u'):=by
 refine ⟨h.p,h.lk,h.nu,h.li,h.ac,h.tn,h.us,h.fl,h.fr,by rw [Go.Ab.lY,lY];exact h.tl,fun i t hi=>?_⟩;have hl:=(dt hi).1;rw [Go.Ab.lY] at hl;by_cases e:k=i
 ·subst e;have h0:=dy hl;rw [Go.Ab.lq h0] at hi;injection hi with hi;subst hi;obtain ⟨u,hu,_⟩:=h.tk k _ h0;exact ⟨u',lq hu,hs hl⟩
 ·rw [Go.Ab.mw e] at hi;obtain ⟨u,hu,g⟩:=h.tk i t hi;exact ⟨u,by rw [mw e];exact hu,g⟩
theorem kZ.ta {s:jv} {r:jz} (h:kZ s r) {k:Nat} {t:jQ} (ht:s.tasks[k]?=some t):r.tasks[k]?=some (jJ r k)∧ST s.calls r.jY t (jJ r k):=by
 obtain ⟨u,hu,g⟩:=h.tk k t ht;rw [oO hu];exact ⟨hu,g⟩
theorem ST.oD {C:List kh} {F:List (List Int×List Int)} {t:jQ} {u:km} (h:ST C F t u) {i j:Nat} {c:kh} (hi:i<t.jC) (hj:t.jZ[i]?=some j) (hc:C[j]?=some c):u.jH[i]?=some ⟨c.code,c.jM,c.pc,j⟩∧l9 u i=⟨c.code,c.jM,c.pc,j⟩:=by
 obtain ⟨j',c',h1,h2,h3⟩:=h.jH i hi;rw [hj] at h1;injection h1 with h1;subst h1;rw [hc] at h2;injection h2 with h2;subst h2;exact ⟨h3,zh h3⟩
theorem ST.pop {C:List kh} {F:List (List Int×List Int)} {t:jQ} {u:km} (h:ST C F t u):∀ {m j:Nat},m<t.jC→t.jZ[m]?=some j→tv C t.jZ m j=rR u m:=by
 intro m
 induction m with
 | zero =>
   intro j hm hj;obtain ⟨j',c,h1,h2,h3⟩:=h.jH 0 hm;rw [hj] at h1;injection h1 with h1;subst h1;have h4:=zh h3;simp only [tv,h2,rR,h4];by_cases e:(c.code.steps.length:Int)≤c.pc
   ·rw [ja e,iZ ae]
   ·rw [iZ e,ja ae]
 | succ m ih =>
   intro j hm hj;obtain ⟨j',c,h1,h2,h3⟩:=h.jH (m+1) hm;rw [hj] at h1;injection h1 with h1;subst h1;have h4:=zh h3;obtain ⟨j2,c2,g1,g2,g3⟩:=h.jH m ae;simp only [tv,h2,rR,h4,g1];by_cases e:(c.code.steps.length:Int)≤c.pc
   ·rw [ja e,iZ ae];exact ih ae g1
   ·rw [iZ e,ja ae]
theorem kZ.bump {s:jv} {r:jz} (hi:Iv s) (h:kZ s r) {n j:Nat} {t:jQ} {c:kh} (ht:s.tasks[n]?=some t) (hj:t.jZ[t.jC-1]?=some j) (hc:s.calls[j]?=some c):kZ (s.ly j { c with pc:=c.pc+1 }) (r.jF n (pK (jJ r n))):=by
 have pB:=hi.jH n t ht;obtain ⟨hu,jP⟩:=h.ta ht;obtain ⟨l1,l2⟩:=jP.oD (i:=t.jC-1) ae hj hc;have pq:(s.ly j { c with pc:=c.pc+1 }).calls[j]?=some { c with pc:=c.pc+1 }:=yw hc;have sT:t.jC-1<(jJ r n).jH.length:=(dt l1).1;have lO:∀ {i:Nat},i≠j→(s.ly j { c with pc:=c.pc+1 }).calls[i]?=s.calls[i]?:=fun e=>Bk (fun e2=>e e2.symm);refine ⟨h.p,h.lk,h.nu,h.li,h.ac,h.tn,h.us,by show r.jY.length=(s.calls.set j _).length;rw [dW];exact h.fl,fun i c' lC=>?_,by rw [lY];exact h.tl,fun k v hv=>?_⟩
 ·by_cases e:i=j
  ·subst e;rw [pq] at lC;injection lC with lC;subst lC;exact h.fr i c hc
  ·rw [lO e] at lC;exact h.fr i c' lC
 ·have hv:s.tasks[k]?=some v:=hv;by_cases e:n=k
  ·subst e;rw [ht] at hv;injection hv with hv;subst hv;refine ⟨_,lq hu,?_⟩;refine ⟨jP.sl,fun i hit=>?_,jP.pr,jP.par,jP.canc,jP.state,jP.kids,jP.waits,jP.has,jP.ed,jP.cl,jP.k0,jP.ym,jP.st⟩;obtain ⟨j',c',a1,a2,a3⟩:=jP.jH i hit;by_cases ei:i=t.jC-1
   ·subst ei;rw [hj] at a1;injection a1 with a1;subst a1;refine ⟨j,_,hj,pq,?_⟩;unfold pK;simp only;rw [jP.sl,ee sT,l2]
   ·have:j'≠j:=fun e=>by
     subst e;have:=(hi.rZ n t n t i (t.jC-1) j' ht ht hit ae a1 hj).2;omega
    refine ⟨j',c',a1,by rw [lO this];exact a2,?_⟩;unfold pK;simp only;rw [jP.sl,dS ae];exact a3
  ·obtain ⟨u,sb,g⟩:=h.tk k v hv;refine ⟨u,by rw [mw e];exact sb,⟨g.sl,fun i hit=>?_,g.pr,g.par,g.canc,g.state,g.kids,g.waits,g.has,g.ed,g.cl,g.k0,g.ym,g.st⟩⟩;obtain ⟨j',c',a1,a2,a3⟩:=g.jH i hit;have:j'≠j:=fun e2=>by
    subst e2;exact e (hi.rZ n t k v (t.jC-1) i j' ht hv ae hit hj a1).1
   exact ⟨j',c',a1,by rw [lO this];exact a2,a3⟩
theorem ST.shr {C:List kh} {F:List (List Int×List Int)} {t:jQ} {u:km} (h:ST C F t u) {m:Nat} (hm:m≤t.jC):ST C F { t with jC:=m } { u with jC:=m }:=
 ⟨rfl,fun i hi=>h.jH i (by have:i<m:=hi;omega),h.pr,h.par,h.canc,h.state,h.kids,h.waits,h.has,h.ed,h.cl,h.k0,h.ym,h.st⟩
theorem ST.j9 {C:List kh} {F:List (List Int×List Int)} {t:jQ} {u:km} (h:ST C F t u) (hs:t.state=1) (hh:t.has = -1) (b:Bool):ST C F (Go.Ab.j9 t (if b=true then 4 else 3)) (vi u b):=by
 have hw:t.waits = -1:=by
  rcases h.st with ⟨_,_,e⟩|⟨e,_⟩|⟨e,_⟩|⟨e,_⟩<;>omega
 refine ⟨h.sl,h.jH,h.pr,h.par,h.canc,rfl,h.kids,?_,?_,?_,?_,h.k0,?_,?_⟩
 ·show (-1:Int)=t.waits;exact hw.symm
 ·show u.has = -1;rw [h.has];exact hh
 ·cases b<;>rfl
 ·cases b<;>rfl
 ·cases b<;>simp [Go.Ab.j9]
 ·refine .inr (.inr (.inl ⟨rfl,?_,hw,rfl⟩));cases b<;>simp [Go.Ab.j9]
def Sv (S:jv→Nat→jv) (S':jz→Nat→jz) (f:Nat):Prop:=∀(s:jv) (r:jz) (n:Nat) (t:jQ),n<f→Iv s→kZ s r→s.tasks[n]?=some t→t.state=2→t.ending≠0→s.jE.length+1001*f≤MM→s.ke.length+f≤MM→kZ (S s n) (S' r n)
theorem Ue {S:jv→Nat→jv} {S':jz→Nat→jz} {f:Nat} (hS:Sv S S' f) {s1:jv} {r1:jz} (hb:kZ s1 r1) {n j:Nat} {t:jQ} {U:km} (nI:n<f) (lr:s1.tasks[n]?=some t) (pB:0<t.jC) (h1:t.state=1) (hh:t.has = -1) (hj:t.jZ[t.jC-1]?=some j)
 (hU:∀m,m≤t.jC→ST s1.calls r1.jY { t with jC:=m } { U with jC:=m }) (i1:tv s1.calls t.jZ (t.jC-1) j=none→Iv (s1.jF n (Go.Ab.j9 { t with jC:=1 } 3))) (pH:s1.jE.length+1001*f≤MM) (nV:s1.ke.length+f≤MM) :
 kZ (match tv s1.calls t.jZ (t.jC-1) j with|none=>S (s1.jF n (Go.Ab.j9 { t with jC:=1 } 3)) n|some m=>s1.jF n { t with jC:=m+1 }) (match rR U (t.jC-1) with|some m=>r1.jF n { U with jC:=m+1 } | none=>sJ S' (r1.jF n { U with jC:=1 }) n false):=by
 have jP:ST s1.calls r1.jY t { U with jC:=t.jC }:=hU t.jC (dD _);have pop:=jP.pop (m:=t.jC-1) ae hj;have hpU:∀m,rR { U with jC:=t.jC } m=rR U m:=fun m=>by
  induction m with
  | zero=>rfl
  | succ m ih=>simp only [rR,ih];rfl
 rw [hpU] at pop;obtain ⟨hu,_⟩:=hb.ta lr;rw [pop];rw [pop] at i1;cases nG:rR U (t.jC-1) with
 | none =>
   simp only;unfold sJ;rw [iZ ah,oO (lq hu),u7];exact hS _ _ n _ nI (i1 nG) (hb.jF fun _=>(hU 1 ae).j9 h1 hh false) (Go.Ab.lq lr) rfl (by show (3:Int)≠0;omega) pH nV
 | some m =>
   simp only;have hm:=(Pv nG).1;exact hb.jF fun _=>hU (m+1) ae
theorem U6 {S:jv→Nat→jv} {S':jz→Nat→jz} {f:Nat} (hS:Sv S S' f) {s:jv} {r:jz} (hi:Iv s) (h:kZ s r) {n j:Nat} {t:jQ} {c:kh} (nI:n<f) (ht:s.tasks[n]?=some t) (h1:t.state=1) (hh:t.has = -1) (hj:t.jZ[t.jC-1]?=some j) (hc:s.calls[j]?=some c) (hp:c.pc<c.code.steps.length)
 (pH:s.jE.length+1001*f≤MM) (nV:s.ke.length+f≤MM):kZ (sK S s n j) (mM S' r n):=by
 have pB:=hi.jH n t ht;have hb:=h.bump hi ht hj hc;have lr:(s.ly j { c with pc:=c.pc+1 }).tasks[n]?=some t:=ht;obtain ⟨hu,jP⟩:=hb.ta lr;have mr:t.waits<0:=by rcases jP.st with ⟨_,_,e⟩|⟨e,_⟩|⟨e,_⟩|⟨e,_⟩<;>omega
 have:=Ue hS hb (U:=jJ (r.jF n (pK (jJ r n))) n) nI lr pB h1 hh hj (fun m hm=>jP.shr hm) (fun _=>hi.go (t':=Go.Ab.j9 { t with jC:=1 } 3) ht hj hc hp rfl (by show 1≤_;omega) (by show 0<1;omega) rfl rfl rfl rfl cE mr (.inr cG) (fun e=>by have:(2:Int)=1:=e;omega)) pH nV;unfold sK mM tJ;rw [ht,hc,jP.sl];exact this
theorem ahS {s:jv} {r:jz} (h:kZ s r) {p e:Nat} {tp:jQ} (ht:s.tasks[p]?=some tp) (hw:0≤tp.waits):kZ (qT s p tp e) (r.jF p { jJ r p with waits:=-1,state:=1 }):=by
 obtain ⟨hu,g⟩:=h.ta ht;have h0:tp.ending=0:=by rcases g.st with ⟨_,a,e⟩|⟨_,a,e,_⟩|⟨_,a,e,_⟩|⟨_,a,e,_⟩<;>omega
 have hT:∀(b:Option Nat) (k:Nat),ST s.calls r.jY { tp with waits:=-1,state:=1,lB:=b,jX:=k } { jJ r p with waits:=-1,state:=1 }:=fun b k =>
  ⟨g.sl,g.jH,g.pr,g.par,g.canc,rfl,g.kids,rfl,g.has,g.ed,g.cl,g.k0,g.ym,.inl ⟨rfl,h0,rfl⟩⟩
 have h1:kZ (s.o9 [e]) r:=h.eqs rfl rfl rfl rfl rfl rfl rfl rfl rfl rfl rfl rfl rfl rfl rfl rfl rfl;unfold qT;split
 ·split
  ·have e2:((tL s p tp e).ld (oH (s.jE.getD tp.jX []) (s.jE.getD e []))).jF p { tp with waits:=-1,state:=1,lB:=some s.ke.length,jX:=s.jE.length }=((s.o9 [e]).ld (oH (s.jE.getD tp.jX []) (s.jE.getD e []))).jF p { tp with waits:=-1,state:=1,lB:=some s.ke.length,jX:=s.jE.length }:=by
    simp [tL,jv.jF,jv.ld,jv.o9]
   rw [e2];have h2:kZ ((s.o9 [e]).ld (oH (s.jE.getD tp.jX []) (s.jE.getD e []))) r:=h1.eqs rfl rfl rfl rfl rfl rfl rfl rfl rfl rfl rfl rfl rfl rfl rfl rfl rfl;exact h2.jF fun _=>hT _ _
  ·exact h1.jF fun _=>hT _ tp.jX
 ·exact h1.jF fun _=>hT _ tp.jX
theorem VN (r:jz) (k:Nat) (u:km):∃l,tO r k u={ r with after:=l }:=by
 unfold tO;split
 ·exact ⟨_,rfl⟩
 ·exact ⟨r.after,rfl⟩
theorem Px (k:Nat):∀(ks:List Int) (r:jz),∃l,uQ r k ks={ r with after:=l }
 | [],r=>⟨r.after,rfl⟩
 | c::ks,r=>by
   obtain ⟨l,e⟩:=Px k ks (r.nw (2000+c,2000+k));unfold uQ at e ⊢;rw [fD,e];exact ⟨l,rfl⟩
theorem OJ:∀f f':Nat,f≤f'→Sv (oe f) (lh f') f:=by
 intro f
 induction f with
 | zero=>intro f' _ s r n t hn;omega
 | succ f ih =>
   intro f' hff s r n t hn hi h ht h2 he pH nV;obtain ⟨f',rfl⟩:∃g,f'=g+1:=⟨f'-1,ae⟩
   rw [fZ] at pH;obtain ⟨a1,a2,a3,a4⟩:=hi.wf.kQ t (dx ht);have pR:=(hi.wf.tF t (dx ht)).2;obtain ⟨k1,k2,k3,k4,k5⟩:=Pe t.kids s t.jX hi a3 ae;obtain ⟨_,_,_,j4,j5⟩:=ahT (x:=F0) (y:=F0) t.kids s t.jX (fun z hz=>by
    obtain ⟨c,rfl,c1,c2⟩:=hi.kd.kd n t ht z hz;obtain ⟨u,hu⟩:∃u,s.tasks[c]?=some u:=⟨_,dy c2⟩
    obtain ⟨o,ho⟩:∃o,s.ends[c]?=some o:=⟨_,dy (by rw [hi.wf.xu];exact c2)⟩
    refine ⟨c,u,rfl,hu,o,ho,fun g=>?_⟩;obtain ⟨j,hj⟩:=hi.en c u hu g;rw [ho] at hj;injection hj with hj;exact ⟨j,hj⟩)
   obtain ⟨hu,g⟩:=h.ta ht;have EV:∀(c:Nat) (v:jQ),s.tasks[c]?=some v→sX r (c:Int)=decide (2<v.state):=fun c v hv=>by
    obtain ⟨_,gv⟩:=h.ta hv;unfold sX;rw [dF,gv.state]
   have auO:t.ending=3∨t.ending=4:=by rcases g.ym with e|e|e;exact absurd e he;exact .inl e;exact .inr e
   simp only [oe,ht];rw [iZ ae];unfold lh;simp only;obtain ⟨u,NL⟩:∃u,u=jJ r n:=⟨_,rfl⟩
   rw [← NL] at hu g ⊢;rw [g.kids];cases hk:o8 s t.jX t.kids with
   | mk s1 eb =>
     obtain ⟨e,b⟩:=eb;rw [hk] at k1 k2 k3 k4 k5 j4 j5;simp only at k1 k2 k3 k4 k5 j4 j5;have j6:kZ s1 r:=by rw [k3];exact h.eqs rfl rfl rfl rfl rfl rfl rfl rfl rfl rfl rfl rfl rfl rfl rfl rfl rfl
     have re:s1.tasks=s.tasks:=by rw [k3]
     have lR:s1.ke=s.ke:=by rw [k3]
     have lr:s1.tasks[n]?=some t:=by rw [re];exact ht
     cases b with
     | false =>
       obtain ⟨c,v,hc,hv,oM⟩:=j5 rfl;rw [ja (eS.2 ⟨_,hc,by rw [EV c v hv,je ae];rfl⟩)];exact j6
     | true =>
       simp only;have auP:¬(t.kids.any fun c=>!sX r c)=true:=by
        intro ha;obtain ⟨z,hz,wZ⟩:=eS.1 ha;obtain ⟨c,rfl,c1,c2⟩:=hi.kd.kd n t ht z hz;have hv:=dy c2;have:=j4 rfl c _ hz hv;rw [EV c _ hv,jf ae] at wZ;cases wZ
       rw [iZ auP];obtain ⟨r3,yW⟩:∃r3,r3=uQ (tO (r.jF n { u with state:=if u.ended=true then 4 else 3,kids:=t.kids }) n u) n t.kids:=⟨_,rfl⟩
       rw [← yW];have hsE:kZ (s1.oa n e) r:=j6.eqs rfl rfl rfl rfl rfl rfl rfl rfl rfl rfl rfl rfl rfl rfl rfl rfl rfl;have jW:kZ ((s1.oa n e).jF n { t with state:=t.ending }) r3:=by
        have h4:(if u.ended=true then (4:Int) else 3)=t.ending:=by
         rw [g.ed];rcases auO with e|e<;>rw [e]<;>decide
        have hST:ST s.calls r.jY { t with state:=t.ending } { u with state:=if u.ended=true then 4 else 3,kids:=t.kids }:=by
         have mD:t.waits = -1∧t.has = -1:=by rcases g.st with ⟨e,_⟩|⟨_,e,_⟩|⟨_,_,e1,e2⟩|⟨e,_⟩<;>first|omega|exact ⟨e1,e2⟩
         refine ⟨g.sl,g.jH,g.pr,g.par,g.canc,h4,rfl,g.waits,g.has,g.ed,g.cl,g.k0,g.ym,.inr (.inr (.inr ⟨by show 3≤t.ending;omega,rfl,mD.1,mD.2⟩))⟩
        have my:kZ ((s1.oa n e).jF n { t with state:=t.ending }) (r.jF n { u with state:=if u.ended=true then 4 else 3,kids:=t.kids }):=hsE.jF fun _=>by
         show ST s1.calls _ _ _;rw [show s1.calls=s.calls by rw [k3]];exact hST
        obtain ⟨l1,e1⟩:=VN (r.jF n { u with state:=if u.ended=true then 4 else 3,kids:=t.kids }) n u;obtain ⟨l2,e2⟩:=Px n t.kids (tO (r.jF n { u with state:=if u.ended=true then 4 else 3,kids:=t.kids }) n u);rw [yW,e2,e1];exact my.eqs rfl rfl rfl rfl rfl rfl rfl rfl rfl rfl rfl rfl rfl rfl rfl rfl rfl
       clear yW;have i2:=k1.end lr k2 he;obtain ⟨s4,ox⟩:∃s4,s4=(s1.oa n e).jF n { t with state:=t.ending }:=⟨_,rfl⟩
       have p4:s4.jE=s1.jE:=by rw [ox];rfl
       have b4:s4.ke=s.ke:=by rw [ox];exact lR
       have t4:∀q,q≠n→s4.tasks[q]?=s1.tasks[q]?:=fun q hq=>by rw [ox,Go.Ab.mw (fun e=>hq e.symm)];rfl
       rw [← ox] at jW i2 ⊢;clear ox;rw [g.par];by_cases hp:t.par<0
       ·rw [ja hp,ja (show t.par<0∨(jJ r3 t.par.toNat).state≠2 from .inl hp)];exact jW
       rw [iZ hp];obtain ⟨p,R8,EY⟩:∃p:Nat,t.par=(p:Int)∧p<n:=by
        rcases hi.par n t ht with e1|e1
        ·omega
        ·exact e1
       rw [R8,dF];have nG:p<s1.tasks.length:=by rw [re];have:=(dt ht).1;omega
       obtain ⟨tp,ns⟩:∃tp,s1.tasks[p]?=some tp:=⟨_,dy nG⟩
       have uR:s4.tasks[p]?=some tp:=by rw [t4 p ae];exact ns
       obtain ⟨IQ,gp⟩:=jW.ta uR;rw [ns];simp only;by_cases mr:tp.waits=n
       ·rw [ja mr];have MV:tp.state=2∧tp.ending=0∧tp.has = -1:=by rcases gp.st with ⟨_,_,e⟩|⟨e1,e2,_,e3⟩|⟨_,_,e,_⟩|⟨_,_,e,_⟩<;>first|omega|exact ⟨e1,e2,e3⟩
        rw [iZ (show ¬((p:Int)<0∨(jJ r3 p).state≠2) by rw [gp.state];omega),iZ (show ¬(jJ r3 p).closing=true by rw [gp.cl,MV.2.1];simp),ja (show (jJ r3 p).waits=(n:Int) by rw [gp.waits];exact mr)];have hw:=Mi (e:=e) i2 uR ae (by rw [p4];exact k2) (by rw [b4];omega) (by rw [p4];omega);obtain ⟨tq,q1,q2,q3,q4,q5,q6⟩:=Ut (e:=e) uR;obtain ⟨c,c1,c2⟩:=JE i2 uR;have zW:c.pc<c.code.steps.length:=i2.rr _ tp _ c uR (.inr ae) c1 c2;have NM:(qT s4 p tp e).jE.length≤s1.jE.length+1:=by rw [← p4];exact hw.pl
        have BO:(qT s4 p tp e).ke.length=s.ke.length+1:=by rw [hw.bl,b4]
        have Z2:=ahS (e:=e) jW uR ae;obtain ⟨_,gq⟩:=Z2.ta q1;have hhq:tq.has = -1:=by
         have e1:=gq.has;rw [oO (lq IQ)] at e1;rw [← e1];exact gp.has.trans MV.2.2
        exact U6 (ih f' ae) hw.iv Z2 ae q1 q2 hhq (by rw [q4,q5];exact c1) (by rw [hw.cl];exact c2) zW ae ae
       ·rw [iZ mr];have IM:¬(jJ r3 p).waits=(n:Int):=by rw [gp.waits];exact mr
        by_cases NO:tp.state=2∧tp.ending≠0
        ·rw [iZ (by rw [gp.state];omega),ja (by rw [gp.cl];simp [NO.2])];exact ih f' ae _ _ p tp ae i2 jW uR NO.1 NO.2 (by rw [p4];omega) (by rw [b4];omega)
        ·have hL:oe f s4 p=s4:=by
          obtain ⟨f0,rfl⟩:∃f0,f=f0+1:=⟨f-1,ae⟩
          simp only [oe,uR];rw [ja (by rcases gp.st with ⟨e1,e2,_⟩|⟨e1,e2,_,e3⟩|⟨e1,e2,e,_⟩|⟨e1,_,e,_⟩<;>omega)]
         rw [hL];by_cases h3:tp.state=2
         ·have h0:tp.ending=0:=by
           by_cases e0:tp.ending=0
           ·exact e0
           ·exact absurd ⟨h3,e0⟩ NO
          rw [iZ (show ¬((p:Int)<0∨(jJ r3 p).state≠2) by rw [gp.state];omega),iZ (show ¬(jJ r3 p).closing=true by rw [gp.cl,h0];simp),iZ IM];exact jW
         ·rw [ja (show (p:Int)<0∨(jJ r3 p).state≠2 from .inr (by rw [gp.state];exact h3))];exact jW
theorem VO:∀(f:Nat) (s:jv) (r:jz) (n:Nat),Go.Ab.w9 s→n<s.tasks.length→kZ s r→kZ (mx s (pI s f n)) (lZ f r n):=by
 intro f
 induction f with
 | zero=>intro s r n _ _ h;simp only [pI,lZ,FD];exact h
 | succ f ih =>
   intro s r n hk hn h;have ht:=dy hn;generalize s.tasks[n]=t at ht;obtain ⟨hu,g⟩:=h.ta ht;obtain ⟨u,NL⟩:∃u,u=jJ r n:=⟨_,rfl⟩
   have h1:kZ (mx s [n]) (r.jF n { u with canc:=true,kids:=t.kids }):=by
    have jP:=Uu (l:=[]) (s:=s) (k:=n) (t:=t) (by rw [FD];exact ht);rw [FD,gY] at jP;rw [← jP];rw [← NL] at g;exact h.jF fun _=>⟨g.sl,g.jH,g.pr,g.par,rfl,g.state,rfl,g.waits,g.has,g.ed,g.cl,g.k0,g.ym,g.st⟩
   simp only [pI,lZ];have Sw:x8 s n=t.kids:=by unfold x8;rw [ht]
   rw [← NL] at g ⊢;rw [Sw,g.kids,← List.singleton_append];have key:∀(ks:List Int) (L:List Nat) (r':jz),(∀c∈ks,∃j:Nat,c=j∧n<j∧j<s.tasks.length)→kZ (mx s L) r'→kZ (mx s (L++ks.flatMap fun k=>pI s f k.toNat)) (ks.foldl (fun s c=>lZ f s c.toNat) r'):=by
    intro ks
    induction ks with
    | nil=>intro L r' _ h;simpa using h
    | cons c ks Sx =>
      intro L r' hc h;obtain ⟨j,rfl,_,hj⟩:=hc c ah;rw [List.flatMap_cons,fD,← eA,dF];refine Sx _ _ (fun c lC=>hc c (by simp [lC])) ?_;have:=ih (mx s L) r' j (hk.can L) (by rw [vy];exact hj) h;rw [Mp,Jx] at this;exact this
   exact key t.kids [n] _ (hk.kd n t ht) h1
theorem ahU {s:jv} (hk:Go.Ab.w9 s):∀(ks:List Int) (L:List Nat) (r':jz),(∀c∈ks,∃j:Nat,c=j∧j<s.tasks.length)→kZ (mx s L) r'→r'.tasks.length=s.tasks.length→kZ (mx s (L++ks.flatMap fun k=>pI s s.tasks.length k.toNat)) (oS r' ks):=by
 intro ks
 induction ks with
 | nil=>intro L r' _ h _;simpa [oS] using h
 | cons c ks Sx =>
   intro L r' hc h hl;obtain ⟨j,rfl,hj⟩:=hc c ah;rw [List.flatMap_cons,← eA,dF];have:=VO s.tasks.length (mx s L) r' j (hk.can L) (by rw [vy];exact hj) h;rw [Mp,Jx] at this;have e:oS r' ((j:Int)::ks)=oS (lZ s.tasks.length r' j) ks:=by unfold oS;rw [fD,dF,hl]
   rw [e];exact Sx _ _ (fun c lC=>hc c (by simp [lC])) this (by rw [this.tl,vy])
theorem ahV {s s':jv} (h:∀n,x8 s' n=x8 s n):∀f n,pI s' f n=pI s f n:=by
 intro f
 induction f with
 | zero=>intro n;rfl
 | succ f ih=>intro n;simp only [pI,h,ih]
theorem adQ {s:jv} {n:Nat} {x:jQ} {L:List Nat} (h:n∉L):mx (s.jF n x) L=(mx s L).jF n x:=by
 have e:(mx (s.jF n x) L).tasks=((mx s L).jF n x).tasks:=by
  apply fG;intro i;simp only [mx,jv.jF,fh,eN,List.length_mapIdx];by_cases ei:n=i
  ·subst ei;simp only [jb];by_cases hl:n<s.tasks.length<;>simp [hl,h]
  ·simp only [iZ ei]
 have e2:mx (s.jF n x) L={ s with tasks:=(mx (s.jF n x) L).tasks }:=rfl;have e3:(mx s L).jF n x={ s with tasks:=((mx s L).jF n x).tasks }:=rfl;rw [e2,e3,e]
theorem U7 {s:jv} {r:jz} (hi:Iv s) (h:kZ s r) {n f:Nat} {t:jQ} (ht:s.tasks[n]?=some t) (h1:t.state=1) (hh:t.has = -1) (hf:n<f) (pH:s.jE.length+40000≤MM) (nV:s.ke.length+40≤MM):kZ (sL s n) (sJ (lh f) r n true):=by
 have hw:=hi.wf;have hn:=(dt ht).1;have uX:=hi.kd.kd n t ht;have sR:=hw.nT;obtain ⟨hu,g⟩:=h.ta ht;have mr:t.waits<0:=by rcases g.st with ⟨_,_,e⟩|⟨e,_⟩|⟨e,_⟩|⟨e,_⟩<;>omega
 have vU:n∉t.kids.flatMap fun k=>pI s (s.tasks.length) k.toNat:=by
  intro hm;obtain ⟨k,h1,h2⟩:=List.mem_flatMap.1 hm;obtain ⟨j,rfl,h3,h4⟩:=uX k h1;have:=PY hi.kd _ _ _ h2;rw [dF] at this;omega
 have j6:kZ (s.jF n (Go.Ab.j9 t 4)) (r.jF n (vi (jJ r n) true)):=h.jF fun _=>g.j9 h1 hh true;have o0:∀m,x8 (s.jF n (Go.Ab.j9 t 4)) m=x8 s m:=fun m=>by
  unfold x8;by_cases e:n=m
  ·subst e;rw [Go.Ab.lq ht,ht];rfl
  ·rw [Go.Ab.mw e]
 have oA:(s.jF n (Go.Ab.j9 t 4)).tasks.length=s.tasks.length:=Go.Ab.lY;have K3:Go.Ab.w9 (s.jF n (Go.Ab.j9 t 4)):=⟨fun k u uC c hc=>by
  rw [oA];by_cases e:n=k
  ·subst e;rw [Go.Ab.lq ht] at uC;injection uC with uC;subst uC;exact uX c hc
  ·rw [Go.Ab.mw e] at uC;exact hi.kd.kd k u uC c hc⟩
 have jW:=ahU K3 t.kids [] _ (fun c hc=>by
  obtain ⟨j,a1,_,a3⟩:=uX c hc;exact ⟨j,a1,by rw [oA];exact a3⟩) (by rw [FD];exact j6) (by rw [j6.tl])
 rw [gY] at jW;have e1:(t.kids.flatMap fun k=>pI (s.jF n (Go.Ab.j9 t 4)) (s.jF n (Go.Ab.j9 t 4)).tasks.length k.toNat)=t.kids.flatMap fun k=>pI s s.tasks.length k.toNat:=by
  rw [oA]
  congr 1
  funext k
  exact ahV o0 _ _
 rw [e1,adQ vU] at jW;have pg:(Go.Ab.oS s t.kids).tasks[n]?=some t:=by unfold Go.Ab.oS;rw [Bl ht,iZ vU]
 have yX:Iv (Go.Ab.oS s t.kids):=hi.can _;obtain ⟨a1,a2,a3,a4⟩:=yX.wf.kQ t (dx pg);have A3:Iv ((Go.Ab.oS s t.kids).jF n (Go.Ab.j9 t 4)):=yX.jF pg rfl (dD _) (yX.jH n t pg) rfl rfl a3 a4 (fun e=>absurd e (by show ¬(3:Int)≤2;omega)) (fun e=>absurd e (by show ¬ 0≤t.waits;omega)) (.inr (by show (3:Int)≤4;omega)) (fun e=>by
  rcases e with e|e
  ·have:(2:Int)=1:=e;omega
  ·have:0≤t.waits:=e;omega)
 unfold sL sJ;rw [ht,ja rfl,g.kids];simp only;obtain ⟨m1,IH⟩:∃m1,m1=1001*(n+1):=⟨_,rfl⟩
 refine OJ (n+1) f hf _ _ n _ (gB n) A3 jW (Go.Ab.lq pg) rfl (by show (4:Int)≠0;omega) ?_ ?_
 ·show s.jE.length+1001*(n+1)≤_;rw [← IH];omega
 ·show s.ke.length+(n+1)≤_;omega
theorem ST.mv {C C':List kh} {F F':List (List Int×List Int)} {t:jQ} {u:km} (h:ST C F t u) (hC:∀(i j:Nat) (c:kh),i<t.jC→t.jZ[i]?=some j→C[j]?=some c→∃c':kh,C'[j]?=some c'∧c'.code=c.code∧c'.jM=c.jM∧c'.pc=c.pc) (hF:∀(j:Nat) (g':List Int×List Int),t.jZ[0]?=some j→F'[j]?=some g'→∃g:List Int×List Int,F[j]?=some g∧g'.2=g.2):ST C' F' t u:=
 ⟨h.sl,fun i hi=>by
  obtain ⟨j,c,a1,a2,a3⟩:=h.jH i hi;obtain ⟨c',b1,b2,b3,b4⟩:=hC i j c hi a1 a2;exact ⟨j,c',a1,b1,by rw [b2,b3,b4];exact a3⟩,h.pr,h.par,h.canc,h.state,h.kids,h.waits,h.has,h.ed,h.cl,fun j g' e1 e2=>by
  obtain ⟨g,f1,f2⟩:=hF j g' e1 e2;rw [f2];exact h.k0 j g e1 f1,h.ym,h.st⟩
theorem kZ.kE {s:jv} {r:jz} (h:kZ s r) (x:Acc):kZ (s.kE x) (r.kE x):=
 ⟨h.p,h.lk,h.nu,h.li,by show r.jT++[x]=s.jT++[x];rw [h.ac],h.tn,h.us,h.fl,h.fr,h.tl,h.tk⟩
theorem kZ.pM {s:jv} {r:jz} (h:kZ s r) (x:ByteArray):kZ (s.pM x) (r.pM x):=
 ⟨h.p,h.lk,h.nu,by show r.lines++[x]=s.lines++[x];rw [h.li],h.ac,h.tn,h.us,h.fl,h.fr,h.tl,h.tk⟩
theorem kZ.ll {s:jv} {r:jz} (h:kZ s r) (n:Int):kZ (s.ll n) (r.ll n):=
 ⟨h.p,by show r.kr++[-1]=(s.jL++[(n,-1)]).map _;rw [h.lk];simp,by show r.ml++[n]=(s.jL++[(n,-1)]).map _;rw [h.nu];simp,h.li,h.ac,h.tn,h.us,h.fl,h.fr,h.tl,h.tk⟩
theorem kZ.nw {s:jv} {r:jz} (h:kZ s r) (x:Int×Int):kZ s (r.nw x):=
 h.eqs rfl rfl rfl rfl rfl rfl rfl rfl rfl rfl rfl rfl rfl rfl rfl rfl rfl
theorem FB {α:Type} {l:List α} {i:Nat} {x:α} (h:l[i]?=some x∨l.length≤i):l.set i x=l:=by
 apply fG;intro j;rw [eN];split
 ·rename_i e;subst e;split
  ·rcases h with h|h
   ·exact h.symm
   ·omega
  ·rw [dT ae]
 ·rfl
theorem kZ.qJ {s:jv} {r:jz} (h:kZ s r) (o:Nat) (v:Int):kZ (s.n7 o ((nX s o).1,v)) (r.qJ o v):=by
 refine ⟨h.p,?_,?_,h.li,h.ac,h.tn,h.us,h.fl,h.fr,h.tl,h.tk⟩
 ·show r.kr.set o v=(s.jL.set o _).map _;rw [fJ,h.lk]
 ·show r.ml=(s.jL.set o _).map _;rw [fJ,h.nu,FB];rcases eE o s.jL.length with e|e
  ·refine .inl ?_;rw [dE];unfold nX;rw [dI,dy e];rfl
  ·exact .inr (by rw [eo];exact e)
theorem kZ.wi {s:jv} {r:jz} (h:kZ s r) (o:Nat) (v:Int):kZ (s.n7 o (v,(nX s o).2)) (r.wi o v):=by
 refine ⟨h.p,?_,?_,h.li,h.ac,h.tn,h.us,h.fl,h.fr,h.tl,h.tk⟩
 ·show r.kr=(s.jL.set o _).map _;rw [fJ,h.lk,FB];rcases eE o s.jL.length with e|e
  ·refine .inl ?_;rw [dE];unfold nX;rw [dI,dy e];rfl
  ·exact .inr (by rw [eo];exact e)
 ·show r.ml.set o v=(s.jL.set o _).map _;rw [fJ,h.nu]
theorem kZ.CS {s:jv} {r:jz} (h:kZ s r) {j:Nat} {c:kh} {g:List Int} {vs:List Int} (hc:s.calls[j]?=some c) (hg:r.jY[j]?=some (c.vars,g)):kZ (s.ly j { c with vars:=vs }) (r.nY j (vs,g)):=by
 refine ⟨h.p,h.lk,h.nu,h.li,h.ac,h.tn,h.us,by show (r.jY.set j _).length=(s.calls.set j _).length;rw [dW,dW];exact h.fl,fun i c' lC=>?_,h.tl,fun k t ht=>?_⟩
 ·by_cases e:j=i
  ·subst e;rw [yw hc] at lC;injection lC with lC;subst lC;obtain ⟨g',g1,g2⟩:=h.fr j c hc;rw [hg] at g1;injection g1 with g1;injection g1 with _ g1;subst g1;exact ⟨g,Cr hg,g2⟩
  ·rw [Bk e] at lC;rw [FJ e];exact h.fr i c' lC
 ·obtain ⟨u,hu,gu⟩:=h.tk k t ht;refine ⟨u,hu,gu.mv (fun i j' c' _ _ e2=>?_) fun j' g' e1 e2=>?_⟩
  ·by_cases e:j=j'
   ·subst e;rw [hc] at e2;injection e2 with e2;subst e2;exact ⟨_,yw hc,rfl,rfl,rfl⟩
   ·exact ⟨c',by rw [Bk e];exact e2,rfl,rfl,rfl⟩
  ·by_cases e:j=j'
   ·subst e;have e2:(r.nY j (vs,g)).jY[j]?=some g':=e2;rw [Cr hg] at e2;injection e2 with e2;subst e2;exact ⟨_,hg,rfl⟩
   ·have e2:(r.nY j (vs,g)).jY[j']?=some g':=e2;rw [FJ e] at e2;exact ⟨g',e2,rfl⟩
def Dn (r:jz) (j:Nat):List Int×List Int:=r.jY.getD j ([],[])
theorem WC {r:jz} {j:Nat} {g:List Int×List Int} (h:r.jY[j]?=some g):Dn r j=g:=by unfold Dn;rw [dI,h];rfl
def vN (fr:List Int×List Int) (v:Int):Nat:=(fr.1.getD v.toNat 0).toNat
def zI (fr:List Int×List Int) (n:Int):Nat:=(fr.2.getD n.toNat 0).toNat
def sw (l:List lM) (k:Nat) (x:lM):List lM:=if k<l.length then l.set k x else l++[x]
def Ie (r:jz) (k:Nat) (c:Cd) (a:Int):km:={ pK (jJ r k) with jH:=sw (pK (jJ r k)).jH (jJ r k).jC ⟨c,a,0,r.jY.length⟩,jC:=(jJ r k).jC+1 }
def wj (r:jz) (k:Nat) (c:Cd) (a:Int) (gv:List Int):jz:=((r.jF k (pK (jJ r k))).l8 (qj c gv)).jF k (Ie r k c a)
def mX (S:jz→Nat→jz) (r:jz) (k:Nat) (l:lM) (st:kG) (fr:List Int×List Int):Bool×jz:=
 if st.op=1 then (if r.kr.length<200 then (true,mM S ((r.ll st.n).nY l.fr (fr.1.set st.v.toNat r.kr.length,fr.2)) k) else (false,r))
 else if st.op=2 then (if mO fr.1 [st.w]=false then (false,r)
  else if 0≤r.kr.getD (vN fr st.w) 0 then (true,mM S ((r.kE ⟨jR l.jM k,(vN fr st.w:Int),false,(r.turns.length:Int)-1⟩).nY l.fr (fr.1.set st.v.toNat (r.kr.getD (vN fr st.w) 0),fr.2)) k)
  else if r.kr.length<200 then (true,mM S (((((r.kE ⟨jR l.jM k,(vN fr st.w:Int),false,(r.turns.length:Int)-1⟩).ll 0).qJ (vN fr st.w) r.kr.length).kE ⟨jR l.jM k,(vN fr st.w:Int),true,(r.turns.length:Int)-1⟩).nY l.fr (fr.1.set st.v.toNat r.kr.length,fr.2)) k)
  else (false,r))
 else if st.op=3 then (if mO fr.1 [st.v,st.w]=false then (false,r) else (true,mM S ((r.qJ (vN fr st.v) (vN fr st.w)).kE ⟨jR l.jM k,(vN fr st.v:Int),true,(r.turns.length:Int)-1⟩) k))
 else if st.op=4 then (if mO fr.1 [st.v]=false then (false,r) else (true,mM S ((r.kE ⟨jR l.jM k,(vN fr st.v:Int),false,(r.turns.length:Int)-1⟩).pM (xk k (r.ml.getD (vN fr st.v) 0))) k))
 else if st.op=5 then (if mO fr.1 [st.v]=false then (false,r) else (true,mM S ((r.kE ⟨jR l.jM k,(vN fr st.v:Int),true,(r.turns.length:Int)-1⟩).wi (vN fr st.v) st.n) k))
 else if st.op=6 then (if mO fr.1 st.vars=false then (false,r) else if r.tasks.length<32 then (true,mM S (xr S (zF r k (po r.p.kT st.task) st.n (lX fr.1 st.vars) l.fr l.step.toNat fr) r.tasks.length (po r.p.kT st.task)) k) else (false,r))
 else if st.op=7 then (if 2<(jJ r (zI fr st.n)).state then (true,mM S (r.nw (2000+(zI fr st.n:Int),(r.turns.length:Int)-1)) k) else (true,r.jF k { jJ r k with state:=2,waits:=(zI fr st.n:Int) }))
 else if st.op=8 then (if mO fr.1 st.vars=false then (false,r) else (true,mM S (((r.qJ st.n.toNat ((lX fr.1 st.vars).getD 0 0)).kE ⟨-1-(st.n.toNat:Int),(st.n.toNat:Int),true,(r.turns.length:Int)-1⟩).uA (r.jV.length-1) st.n) k))
 else if st.op=9 then (if mO fr.1 st.vars=false then (false,r) else (true,tJ S (wj r k (po r.p.methods st.task) st.n (lX fr.1 st.vars++[st.n])) k))
 else if st.op=10 then (true,mM S (lZ r.tasks.length r (zI fr st.n)) k)
 else if st.op=11 then (if (jJ r k).canc=true then (false,r) else (true,mM S r k))
 else (true,mM S r k)
def yE (op jM:Int) (last:Bool) (k:Nat) (r:jz):jz:=if 0≤jM∧op≠12∧op≠9∧last=false∧¬ 2<(jJ r k).state then r.jF k { jJ r k with has:=jM } else r
def uv (S:jz→Nat→jz) (r:jz) (k:Nat) (l:lM) (st:kG) (fr:List Int×List Int) (now:Nat):jz:=
 if (mX S r k l st fr).1=false then sJ S (if st.op=11 then (mX S r k l st fr).2 else (mX S r k l st fr).2.uA now (-1)) k true
 else yE st.op l.jM (decide (l.step=(l.code.steps.length:Int)-1)) k (mX S r k l st fr).2
theorem akM {s:jv} {r:jz} {n j f:Nat} {t:jQ} {c c0:kh} (st:kG) (hi:Iv s) (h:kZ s r) (nI:n<f) (ht:s.tasks[n]?=some t) (h1:t.state=1) (hh:t.has = -1) (hj:t.jZ[t.jC-1]?=some j) (hc:s.calls[j]?=some c) (hp:c.pc<c.code.steps.length)
 (e1:c.pc=c0.pc) (e2:c.code=c0.code) (e3:c.jM=c0.jM) (pH:s.jE.length+1001*(n+1)≤MM) (nV:s.ke.length+(n+1)≤MM) :
 kZ (tg s n j c0 st) (yE st.op c0.jM (decide (c0.pc=(c0.code.steps.length:Int)-1)) n (mM (lh f) r n)):=by
 unfold tg;by_cases hd:0≤c0.jM∧st.op≠12∧st.op≠9∧c0.pc≠(c0.code.steps.length:Int)-1
 ·rw [ja hd];obtain ⟨d1,d2,d3,d4⟩:=hd;have pB:=hi.jH n t ht;have hb:=h.bump hi ht hj hc;have lr:(s.ly j { c with pc:=c.pc+1 }).tasks[n]?=some t:=ht;obtain ⟨hu,jP⟩:=hb.ta lr;have uj:(s.ly j { c with pc:=c.pc+1 }).calls[j]?=some { c with pc:=c.pc+1 }:=yw hc;have qA:tv (s.ly j { c with pc:=c.pc+1 }).calls t.jZ (t.jC-1) j=some (t.jC-1):=Uv uj (by show c.pc+1<_;rw [e1,e2] at hp ⊢;omega);have nG:=jP.pop (m:=t.jC-1) ae hj;rw [qA] at nG;have wX:sK (oe (n+1)) (tw s n c0.jM) n j=(s.ly j { c with pc:=c.pc+1 }).jF n { t with has:=c0.jM,jC:=t.jC-1+1 }:=by
   unfold sK tw;rw [Go.Ab.oG ht,Go.Ab.lq ht,show (s.jF n { t with has:=c0.jM }).calls[j]?=some c from hc];simp only;rw [show ((s.jF n { t with has:=c0.jM }).ly j { c with pc:=c.pc+1 }).calls=(s.ly j { c with pc:=c.pc+1 }).calls from rfl,qA];simp [jv.jF,jv.ly]
  rw [wX];unfold mM tJ;obtain ⟨r1,yM⟩:∃r1,r1=r.jF n (pK (jJ r n)):=⟨_,rfl⟩
  rw [← yM] at hb hu jP nG ⊢;rw [jP.sl,← nG];simp only;unfold yE;rw [oO (lq hu),ja ⟨d1,d2,d3,by simpa using d4,by show ¬ 2<(jJ r1 n).state;rw [jP.state];omega⟩,u7];refine hb.jF fun _=>?_;have g:=jP.shr (m:=t.jC-1+1) ae;refine ⟨g.sl,g.jH,g.pr,g.par,g.canc,g.state,g.kids,g.waits,rfl,g.ed,g.cl,g.k0,g.ym,?_⟩;rcases g.st with a|⟨a,_⟩|⟨a,_⟩|⟨a,_⟩
  ·exact .inl a
  all_goals
   have a:=a;simp only at a;omega
 ·rw [iZ hd];have e:yE st.op c0.jM (decide (c0.pc=(c0.code.steps.length:Int)-1)) n (mM (lh f) r n)=mM (lh f) r n:=by
   unfold yE;refine iZ fun g=>hd ⟨g.1,g.2.1,g.2.2.1,?_⟩;simpa using g.2.2.2.1
  rw [e];exact U6 (OJ (n+1) f nI) hi h (gB n) ht h1 hh hj hc hp pH nV
theorem kZ.link {s:jv} {r:jz} (h:kZ s r) {o:Nat} (ho:o<s.jL.length):r.kr.getD o 0=(nX s o).2∧r.ml.getD o 0=(nX s o).1:=by
 unfold nX;rw [h.lk,h.nu];simp [dI,dy ho]
theorem kZ.ol {s:jv} {r:jz} (h:kZ s r):r.kr.length=s.jL.length:=by rw [h.lk,eo]
theorem Mq {s:jv} {c:kh} {vs:List Int} {v:Int} (h:n8 c vs=true) (hv:v∈vs) (hi:Go.Ab.mW c v) (pt:∀x∈c.vars,x<s.jL.length):((lz c v:Nat):Int)=c.vars.getD v.toNat 0∧lz c v<s.jL.length:=by
 obtain ⟨vn,h1,h2,h3,_⟩:=HO h hv hi pt;refine ⟨?_,h3⟩;rw [h1,dF,dI,h2];simp [← h1]
theorem W8 {s:jv} (h:room s=true):s.jL.length<200:=by
 unfold room at h;have h3:=jm h;omega
section
variable {s:jv} {r:jz} {n j f:Nat} {t:jQ} {c:kh} {l:Lk} {k i:Nat} {v w nn tk time:Int} {vs g:List Int} {now:Nat}
theorem zi {op:Int} (h:uK s n j t c ⟨op,v,w,nn,tk,vs⟩) (hP:s.jE.length+80000≤MM) (nI:n<f) {s':jv} {r':jz} {t':jQ} (he:kR s n j t c ⟨op,v,w,nn,tk,vs⟩ time=(true,s')) (hd:mX (lh f) r n ⟨c.code,c.jM,c.pc,j⟩ ⟨op,v,w,nn,tk,vs⟩ (c.vars,g)=(true,mM (lh f) r' n)) (hs:kZ s' r') (nk:s'.tasks[n]?=some t') (hh:t'.has = -1) :
 kZ (if (kR s n j t c ⟨op,v,w,nn,tk,vs⟩ time).1=false then (kR s n j t c ⟨op,v,w,nn,tk,vs⟩ time).2 else tg (kR s n j t c ⟨op,v,w,nn,tk,vs⟩ time).2 n j c ⟨op,v,w,nn,tk,vs⟩) (uv (lh f) r n ⟨c.code,c.jM,c.pc,j⟩ ⟨op,v,w,nn,tk,vs⟩ (c.vars,g) now):=by
 have hR:=Mj h (time:=time);have hB:=h.hB;have sR:=h.iv.wf.nT;have hn:=(dt h.ht).1;have Dp:=h.tp;have nG:=h.EZ;obtain ⟨t8,c8,r1,r2,r3,r4,r5,r6,r7,r8,r9,Sy⟩:=hR.go (by rw [he]);have p1:=hR.pl;have p2:=hR.bl;have p3:=hR.iv;unfold uv;rw [hd];simp only [gD,jc];rw [he] at r1 r7 p1 p2 p3 ⊢;simp only at r1 r7 p1 p2 p3;simp only [gD,jc];rw [nk] at r1;injection r1 with r1;subst r1;obtain ⟨m1,IH⟩:∃m1,m1=1001*(n+1):=⟨_,rfl⟩
 have GI:m1≤40000:=ae;exact akM _ p3 hs nI nk r4 hh (by rw [r2,r3];exact Dp) r7 (by rw [r8,r9];exact nG) r8 r9 Sy (by rw [← IH];omega) ae
theorem aqY (h:uK s n j t c ⟨1,v,w,nn,tk,vs⟩):room s=true:=by
 have h2:=h.can;simp only [Go.Ab.lZ,jb] at h2;exact h2
theorem step1 (h:uK s n j t c ⟨1,v,w,nn,tk,vs⟩) (hP:s.jE.length+80000≤MM) (nI:n<f) (hs:kZ s r) (hh:t.has = -1) (n9:time=(r.turns.length:Int)-1) (hg:r.jY[j]?=some (c.vars,g)) :
 kZ (if (kR s n j t c ⟨1,v,w,nn,tk,vs⟩ time).1=false then (kR s n j t c ⟨1,v,w,nn,tk,vs⟩ time).2 else tg (kR s n j t c ⟨1,v,w,nn,tk,vs⟩ time).2 n j c ⟨1,v,w,nn,tk,vs⟩) (uv (lh f) r n ⟨c.code,c.jM,c.pc,j⟩ ⟨1,v,w,nn,tk,vs⟩ (c.vars,g) now):=by
 have hc:s.jL.length<200:=W8 (aqY h);refine zi h hP nI (s':=(s.ll nn).ly j { c with vars:=c.vars.set v.toNat s.jL.length }) (r':=(r.ll nn).nY j (c.vars.set v.toNat r.kr.length,g)) rfl (by simp only [mX,jb];rw [ja (by rw [hs.ol];exact hc)]) ?_ h.ht hh;rw [hs.ol];exact (hs.ll nn).CS (s:=s.ll nn) h.hc hg
theorem step2 (h:uK s n j t c ⟨2,v,w,nn,tk,vs⟩) (hP:s.jE.length+80000≤MM) (nI:n<f) (hs:kZ s r) (hh:t.has = -1) (n9:time=(r.turns.length:Int)-1) (hg:r.jY[j]?=some (c.vars,g)) :
 kZ (if (kR s n j t c ⟨2,v,w,nn,tk,vs⟩ time).1=false then (kR s n j t c ⟨2,v,w,nn,tk,vs⟩ time).2 else tg (kR s n j t c ⟨2,v,w,nn,tk,vs⟩ time).2 n j c ⟨2,v,w,nn,tk,vs⟩) (uv (lh f) r n ⟨c.code,c.jM,c.pc,j⟩ ⟨2,v,w,nn,tk,vs⟩ (c.vars,g) now):=by
 have ni:=h.can;simp +decide only [Go.Ab.lZ,jb,jc,er,Bool.or_eq_true] at ni;obtain ⟨hb,hr⟩:=ni;obtain ⟨o1,o2⟩:=Mq (v:=w) hb ah (h.wB.w (.inl rfl)) h.wB.ob;have ka:mO c.vars [w]=true:=hb;obtain ⟨k1,k2⟩:=hs.link o2;have e0:vN (c.vars,g) w=lz c w:=rfl;by_cases hx:0≤(nX s (lz c w)).2
 ·refine zi h hP nI (s':=(s.kE ⟨Go.Ab.jR c n,lz c w,false,time⟩).ly j { c with vars:=c.vars.set v.toNat (nX s (lz c w)).2 }) (r':=(r.kE ⟨jR c.jM n,(lz c w:Int),false,(r.turns.length:Int)-1⟩).nY j (c.vars.set v.toNat (r.kr.getD (lz c w) 0),g)) (by simp +decide only [kR,jb,jc,ja hx]) (by simp +decide only [mX,jb,jc,ka,e0];rw [ja (by rw [k1];exact hx)]) ?_ h.ht hh;rw [k1,n9];exact (hs.kE _).CS (s:=s.kE _) h.hc hg
 ·have hro:s.jL.length<200:=by
   rcases hr with hr|hr
   ·exact W8 hr
   ·exfalso;unfold nX at hx;unfold Go.Ab.lX at hr;rw [← o1,dF] at hr;have hr:=jm hr;rw [dI,dy o2] at hx hr;exact hx hr
  refine zi h hP nI (s':=((((s.kE ⟨Go.Ab.jR c n,lz c w,false,time⟩).ll 0).n7 (lz c w) ((nX s (lz c w)).1,s.jL.length)).kE ⟨Go.Ab.jR c n,lz c w,true,time⟩).ly j { c with vars:=c.vars.set v.toNat s.jL.length }) (r':=((((r.kE ⟨jR c.jM n,(lz c w:Int),false,(r.turns.length:Int)-1⟩).ll 0).qJ (lz c w) r.kr.length).kE ⟨jR c.jM n,(lz c w:Int),true,(r.turns.length:Int)-1⟩).nY j (c.vars.set v.toNat r.kr.length,g)) (by simp +decide only [kR,jb,jc,iZ hx]) (by simp +decide only [mX,jb,jc,ka,e0];rw [iZ (by rw [k1];exact hx),ja (by rw [hs.ol];exact hro)]) ?_ h.ht hh;rw [hs.ol,n9];have e1:nX ((s.kE ⟨Go.Ab.jR c n,lz c w,false,(r.turns.length:Int)-1⟩).ll 0) (lz c w)=nX s (lz c w):=by
   unfold nX jv.ll;simp only [dI];rw [dA (by exact o2)];rfl
  have hL:=((hs.kE ⟨Go.Ab.jR c n,lz c w,false,(r.turns.length:Int)-1⟩).ll 0).qJ (lz c w) s.jL.length;rw [e1] at hL;exact (hL.kE _).CS (s:=(((s.kE _).ll 0).n7 _ _).kE _) h.hc hg
theorem aqZ (h:uK s n j t c ⟨3,v,w,nn,tk,vs⟩) (hP:s.jE.length+80000≤MM) (nI:n<f) (hs:kZ s r) (hh:t.has = -1) (n9:time=(r.turns.length:Int)-1) (hg:r.jY[j]?=some (c.vars,g)) :
 kZ (if (kR s n j t c ⟨3,v,w,nn,tk,vs⟩ time).1=false then (kR s n j t c ⟨3,v,w,nn,tk,vs⟩ time).2 else tg (kR s n j t c ⟨3,v,w,nn,tk,vs⟩ time).2 n j c ⟨3,v,w,nn,tk,vs⟩) (uv (lh f) r n ⟨c.code,c.jM,c.pc,j⟩ ⟨3,v,w,nn,tk,vs⟩ (c.vars,g) now):=by
 have hb:n8 c [v,w]=true:=by have:=h.can;simp +decide only [Go.Ab.lZ,jb,jc] at this;exact this
 have ka:mO c.vars [v,w]=true:=hb;obtain ⟨o1,o2⟩:=Mq (v:=w) hb ah (h.wB.w (.inr rfl)) h.wB.ob;refine zi h hP nI (s':=(s.kE ⟨Go.Ab.jR c n,lz c v,true,time⟩).n7 (lz c v) ((nX s (lz c v)).1,c.vars.getD w.toNat 0)) (r':=(r.qJ (lz c v) (lz c w)).kE ⟨jR c.jM n,(lz c v:Int),true,(r.turns.length:Int)-1⟩) bW df ?_ h.ht hh;rw [n9,← o1];exact (hs.qJ (lz c v) (lz c w)).kE _
theorem arA (h:uK s n j t c ⟨4,v,w,nn,tk,vs⟩) (hP:s.jE.length+80000≤MM) (nI:n<f) (hs:kZ s r) (hh:t.has = -1) (n9:time=(r.turns.length:Int)-1) (hg:r.jY[j]?=some (c.vars,g)) :
 kZ (if (kR s n j t c ⟨4,v,w,nn,tk,vs⟩ time).1=false then (kR s n j t c ⟨4,v,w,nn,tk,vs⟩ time).2 else tg (kR s n j t c ⟨4,v,w,nn,tk,vs⟩ time).2 n j c ⟨4,v,w,nn,tk,vs⟩) (uv (lh f) r n ⟨c.code,c.jM,c.pc,j⟩ ⟨4,v,w,nn,tk,vs⟩ (c.vars,g) now):=by
 have hb:n8 c [v]=true:=by have:=h.can;simp +decide only [Go.Ab.lZ,jb,jc] at this;exact this
 have ka:mO c.vars [v]=true:=hb;obtain ⟨o1,o2⟩:=Mq (v:=v) hb ah (h.wB.v ah) h.wB.ob;obtain ⟨k1,k2⟩:=hs.link o2;have e0:vN (c.vars,g) v=lz c v:=rfl;refine zi h hP nI (s':=(s.kE ⟨Go.Ab.jR c n,lz c v,false,time⟩).pM (xk n (nX s (lz c v)).1)) (r':=(r.kE ⟨jR c.jM n,(lz c v:Int),false,(r.turns.length:Int)-1⟩).pM (xk n (r.ml.getD (lz c v) 0))) bW df ?_ h.ht hh;rw [n9,k2];exact (hs.kE _).pM _
theorem arB (h:uK s n j t c ⟨5,v,w,nn,tk,vs⟩) (hP:s.jE.length+80000≤MM) (nI:n<f) (hs:kZ s r) (hh:t.has = -1) (n9:time=(r.turns.length:Int)-1) (hg:r.jY[j]?=some (c.vars,g)) :
 kZ (if (kR s n j t c ⟨5,v,w,nn,tk,vs⟩ time).1=false then (kR s n j t c ⟨5,v,w,nn,tk,vs⟩ time).2 else tg (kR s n j t c ⟨5,v,w,nn,tk,vs⟩ time).2 n j c ⟨5,v,w,nn,tk,vs⟩) (uv (lh f) r n ⟨c.code,c.jM,c.pc,j⟩ ⟨5,v,w,nn,tk,vs⟩ (c.vars,g) now):=by
 have hb:n8 c [v]=true:=by have:=h.can;simp +decide only [Go.Ab.lZ,jb,jc] at this;exact this
 have ka:mO c.vars [v]=true:=hb;refine zi h hP nI (s':=(s.kE ⟨Go.Ab.jR c n,lz c v,true,time⟩).n7 (lz c v) (nn,(nX s (lz c v)).2)) (r':=(r.kE ⟨jR c.jM n,(lz c v:Int),true,(r.turns.length:Int)-1⟩).wi (lz c v) nn) bW df ?_ h.ht hh;rw [n9];exact (hs.kE _).wi (lz c v) nn
theorem arC (h:uK s n j t c ⟨8,v,w,nn,tk,vs⟩) (hP:s.jE.length+80000≤MM) (nI:n<f) (hs:kZ s r) (hh:t.has = -1) (n9:time=(r.turns.length:Int)-1) (hg:r.jY[j]?=some (c.vars,g)) :
 kZ (if (kR s n j t c ⟨8,v,w,nn,tk,vs⟩ time).1=false then (kR s n j t c ⟨8,v,w,nn,tk,vs⟩ time).2 else tg (kR s n j t c ⟨8,v,w,nn,tk,vs⟩ time).2 n j c ⟨8,v,w,nn,tk,vs⟩) (uv (lh f) r n ⟨c.code,c.jM,c.pc,j⟩ ⟨8,v,w,nn,tk,vs⟩ (c.vars,g) now):=by
 have hb:n8 c vs=true:=by have:=h.can;simp +decide only [Go.Ab.lZ,jb,jc] at this;exact this
 have ka:mO c.vars vs=true:=hb;obtain ⟨q1,q2,q3⟩:=h.r8 rfl;simp only at q1 q2 q3;refine zi h hP nI (s':=(s.kE ⟨-1-(nn.toNat:Int),nn.toNat,true,time⟩).n7 nn.toNat ((nX s nn.toNat).1,c.vars.getD (vs.getD 0 0).toNat 0)) (r':=((r.qJ nn.toNat ((lX c.vars vs).getD 0 0)).kE ⟨-1-(nn.toNat:Int),(nn.toNat:Int),true,(r.turns.length:Int)-1⟩).uA (r.jV.length-1) nn) bW (by simp +decide only [mX,jb,jc,ka]) ?_ h.ht hh;have e:(lX c.vars vs).getD 0 0=c.vars.getD (vs.getD 0 0).toNat 0:=by
  cases vs with
  | nil=>simp at q3
  | cons a vs=>simp [lX]
 rw [n9,e];exact ((hs.qJ nn.toNat _).kE _).eqs rfl rfl rfl rfl rfl rfl rfl rfl rfl rfl rfl rfl rfl rfl rfl rfl rfl
theorem anF (h:uK s n j t c ⟨10,v,w,nn,tk,vs⟩) (hP:s.jE.length+80000≤MM) (nI:n<f) (hs:kZ s r) (hh:t.has = -1) (uX:zI (c.vars,g) nn=qX t nn) :
 kZ (if (kR s n j t c ⟨10,v,w,nn,tk,vs⟩ time).1=false then (kR s n j t c ⟨10,v,w,nn,tk,vs⟩ time).2 else tg (kR s n j t c ⟨10,v,w,nn,tk,vs⟩ time).2 n j c ⟨10,v,w,nn,tk,vs⟩) (uv (lh f) r n ⟨c.code,c.jM,c.pc,j⟩ ⟨10,v,w,nn,tk,vs⟩ (c.vars,g) now):=by
 obtain ⟨kc,k1,k2⟩:=h.r7 (.inr rfl);have e1:qX t nn=kc:=by unfold qX;rw [k1];simp
 refine zi h hP nI (s':=mx s (pI s s.tasks.length kc)) (r':=lZ r.tasks.length r kc) (by simp +decide only [kR,jb,jc,e1]) (by simp +decide only [mX,jb,jc,uX,e1]) ?_ (Bl h.ht) (by split<;>exact hh);rw [hs.tl];exact VO _ s r kc h.iv.kd k2 hs
theorem anG (h:uK s n j t c ⟨12,v,w,nn,tk,vs⟩) (hP:s.jE.length+80000≤MM) (nI:n<f) (hs:kZ s r) (hh:t.has = -1) :
 kZ (if (kR s n j t c ⟨12,v,w,nn,tk,vs⟩ time).1=false then (kR s n j t c ⟨12,v,w,nn,tk,vs⟩ time).2 else tg (kR s n j t c ⟨12,v,w,nn,tk,vs⟩ time).2 n j c ⟨12,v,w,nn,tk,vs⟩) (uv (lh f) r n ⟨c.code,c.jM,c.pc,j⟩ ⟨12,v,w,nn,tk,vs⟩ (c.vars,g) now):=
 zi h hP nI (s':=s) (r':=r) bW (by simp +decide only [mX,jb,jc]) hs h.ht hh
theorem anH (h:uK s n j t c ⟨11,v,w,nn,tk,vs⟩) (hP:s.jE.length+80000≤MM) (nI:n<f) (hs:kZ s r) (hh:t.has = -1) :
 kZ (if (kR s n j t c ⟨11,v,w,nn,tk,vs⟩ time).1=false then (kR s n j t c ⟨11,v,w,nn,tk,vs⟩ time).2 else tg (kR s n j t c ⟨11,v,w,nn,tk,vs⟩ time).2 n j c ⟨11,v,w,nn,tk,vs⟩) (uv (lh f) r n ⟨c.code,c.jM,c.pc,j⟩ ⟨11,v,w,nn,tk,vs⟩ (c.vars,g) now):=by
 obtain ⟨_,gu⟩:=hs.ta h.ht;cases pO:t.canc with
 | false =>
   exact zi h hP nI (s':=s) (r':=r) (by simp +decide only [kR,jb,jc,pO]) (by simp +decide only [mX,jb,jc,gu.canc,pO]) hs h.ht hh
 | true =>
   have e:kR s n j t c ⟨11,v,w,nn,tk,vs⟩ time=(false,sL s n):=by simp +decide only [kR,jb,jc,pO]
   have d:mX (lh f) r n ⟨c.code,c.jM,c.pc,j⟩ ⟨11,v,w,nn,tk,vs⟩ (c.vars,g)=(false,r):=by simp +decide only [mX,jb,jc,gu.canc,pO]
   unfold uv;rw [e,d];simp only [jb];have hB:=h.hB;exact U7 h.iv hs h.ht h.sY hh nI ae ae
theorem arD (h:uK s n j t c ⟨7,v,w,nn,tk,vs⟩) (hP:s.jE.length+80000≤MM) (nI:n<f) (hs:kZ s r) (hh:t.has = -1) (uX:zI (c.vars,g) nn=qX t nn) (kW:c.jM<0) :
 kZ (if (kR s n j t c ⟨7,v,w,nn,tk,vs⟩ time).1=false then (kR s n j t c ⟨7,v,w,nn,tk,vs⟩ time).2 else tg (kR s n j t c ⟨7,v,w,nn,tk,vs⟩ time).2 n j c ⟨7,v,w,nn,tk,vs⟩) (uv (lh f) r n ⟨c.code,c.jM,c.pc,j⟩ ⟨7,v,w,nn,tk,vs⟩ (c.vars,g) now):=by
 obtain ⟨kc,k1,k2⟩:=h.r7 (.inl rfl);have e1:qX t nn=kc:=by unfold qX;rw [k1];simp
 have pg:=dy k2;obtain ⟨_,gk⟩:=hs.ta pg;obtain ⟨hu,gu⟩:=hs.ta h.ht;have ho:Go.Ab.sX s kc=decide (2<(jJ r kc).state):=by
  unfold Go.Ab.sX;rw [pg,gk.state];simp only;by_cases e:3≤s.tasks[kc].state
  ·rw [jf e,jf ae]
  ·rw [je e,je ae]
 by_cases hc:2<(jJ r kc).state
 ·rw [jf hc] at ho;exact zi h hP nI (s':=s) (r':=r.nw (2000+(kc:Int),(r.turns.length:Int)-1)) (by simp +decide only [kR,jb,jc,e1,ho]) (by simp +decide only [mX,jb,jc,uX,e1,hc]) (hs.nw _) h.ht hh
 ·rw [je hc] at ho;have e:kR s n j t c ⟨7,v,w,nn,tk,vs⟩ time=(false,s.jF n { t with waits:=kc,state:=2 }):=by simp +decide only [kR,jb,jc,e1,ho]
  have d:mX (lh f) r n ⟨c.code,c.jM,c.pc,j⟩ ⟨7,v,w,nn,tk,vs⟩ (c.vars,g)=(true,r.jF n { jJ r n with state:=2,waits:=(kc:Int) }):=by simp +decide only [mX,jb,jc,uX,e1,hc]
  unfold uv;rw [e,d];simp only [jb,gD,jc];unfold yE;rw [iZ (fun g=>by have:=g.1;omega)];refine hs.jF fun _=>⟨gu.sl,gu.jH,gu.pr,gu.par,gu.canc,rfl,gu.kids,rfl,gu.has,gu.ed,gu.cl,gu.k0,gu.ym,.inr (.inl ⟨rfl,h.en,?_,hh⟩)⟩
  show (0:Int)≤(kc:Int);omega
end
theorem U8 {C:List kh} {F:List (List Int×List Int)} {tn:jQ} {cd:Cd} {gv:List Int} {J:Nat} {n:Int} {par:Int} {canc:Bool} (hC:C[J]?=some (lQ cd gv (-1))) (hF:F[J]?=some (qj cd gv)) (e1:tn.jZ=[J]) (e2:tn.jC=1) (e3:tn.prio=n) (e4:tn.canc=canc) (e5:tn.par=par) (e6:tn.kids=[]) (e7:tn.kg=[]) (e8:tn.waits = -1) (e9:tn.has = -1)
 {u:km} (he:(tn.state=1∧tn.ending=0∧u=Rf.mN cd J n par canc)∨(tn.state=3∧tn.ending=3∧u={ vi (Rf.mN cd J n par canc) false with state:=3 })):ST C F tn u:=by
 have XY:∀i:Nat,i<tn.jC→∃(j:Nat) (c:kh),tn.jZ[i]?=some j∧C[j]?=some c∧([⟨cd,-1,0,J⟩]:List lM)[i]?=some ⟨c.code,c.jM,c.pc,j⟩:=fun i hi=>by
  have:i=0:=ae;subst this;exact ⟨J,_,by rw [e1];rfl,hC,rfl⟩
 have Z3:∀(j:Nat) (g:List Int×List Int),tn.jZ[0]?=some j→F[j]?=some g→∀q:Nat,q<g.2.length→g.2[q]?=some ((getM tn.kg (q:Int)).getD (-1)):=fun j g h1 h2 q hq=>by
  rw [e1] at h1;injection h1 with h1;subst h1;rw [hF] at h2;injection h2 with h2;subst h2;rw [e7];show (List.replicate cd.steps.length (-1:Int))[q]?=some (-1);rw [fk,ja (by simpa [qj] using hq)]
 rcases he with ⟨f1,f2,rfl⟩|⟨f1,f2,rfl⟩
 ·exact ⟨e2.symm,XY,e3.symm,e5.symm,e4.symm,f1.symm,e6.symm,e8.symm,e9.symm,by rw [f2];rfl,by rw [f2];rfl,Z3,.inl f2,.inl ⟨f1,f2,e8⟩⟩
 ·exact ⟨e2.symm,XY,e3.symm,e5.symm,e4.symm,f1.symm,e6.symm,e8.symm,e9.symm,by rw [f2];rfl,by rw [f2];rfl,Z3,.inr (.inl f2),.inr (.inr (.inr ⟨ae,ae,e8,e9⟩))⟩
theorem Uw {f:Nat} {r:jz} {K J:Nat} {cd:Cd} {n par:Int} {canc:Bool} (hK:r.tasks[K]?=some (Rf.mN cd J n par canc)) (hp:par = -1∨∃p:Nat,par=(p:Int)∧p≠K∧(jJ r p).state≠2):sJ (lh (f+1)) r K false=r.jF K { vi (Rf.mN cd J n par canc) false with state:=3 }:=by
 unfold sJ;rw [iZ ah,oO hK];unfold lh;simp only;rw [oO (lq hK)];have e1:(vi (Rf.mN cd J n par canc) false).kids=[]:=rfl;rw [e1,iZ ah];have e2:∀(R:jz),uQ (tO R K (vi (Rf.mN cd J n par canc) false)) K []=R:=fun R=>rfl;rw [e2,u7];have e3:(vi (Rf.mN cd J n par canc) false).par=par:=rfl;rw [e3];have e4:(if (vi (Rf.mN cd J n par canc) false).ended=true then (4:Int) else 3)=3:=rfl;rw [e4];refine ja ?_;rcases hp with h|⟨p,h1,h2,h3⟩
 ·exact .inl ae
 ·refine .inr ?_;rw [h1,dF];unfold jJ at h3 ⊢;rw [dI] at h3 ⊢;rw [mw (fun e=>h2 e.symm)];exact h3
def BA (cd:Cd) (J:Nat) (n par:Int) (canc:Bool):km:=if cd.steps.length=0 then { vi (Rf.mN cd J n par canc) false with state:=3 } else Rf.mN cd J n par canc
theorem VP {f:Nat} {r:jz} {k:Nat} {u:km} {cd:Cd} {nn:Int} {gv:List Int} {lf i:Nat} {fr:List Int×List Int} (hu:r.tasks[k]?=some u) (h1:u.state≠2):xr (lh (f+1)) (zF r k cd nn gv lf i fr) r.tasks.length cd={ r with tasks:=(r.tasks++[BA cd r.jY.length nn k u.canc]).set k { u with kids:=u.kids++[(r.tasks.length:Int)] },jY:=(r.jY++[qj cd gv]).set lf (fr.1,fr.2.set i r.tasks.length),after:=r.after++[((r.turns.length:Int)-1,2000+(r.tasks.length:Int))] }:=by
 have hk:=vb hu;obtain ⟨e1,e2,e3,e4⟩:=OY (c:=cd) (n:=nn) (gv:=gv) hu;have hR:zF r k cd nn gv lf i fr={ r with tasks:=(r.tasks++[Rf.mN cd r.jY.length nn k u.canc]).set k { u with kids:=u.kids++[(r.tasks.length:Int)] },jY:=(r.jY++[qj cd gv]).set lf (fr.1,fr.2.set i r.tasks.length),after:=r.after++[((r.turns.length:Int)-1,2000+(r.tasks.length:Int))] }:=by
  unfold zF qm;rw [ja ae,dF,oO hu];rfl
 rw [hR];unfold xr BA;split
 ·have hK:((r.tasks++[Rf.mN cd r.jY.length nn k u.canc]).set k { u with kids:=u.kids++[(r.tasks.length:Int)] })[r.tasks.length]?=some (Rf.mN cd r.jY.length nn k u.canc):=by
   rw [dS ae,dJ (dD _),eT];rfl
  rw [Uw hK (.inr ⟨k,rfl,ae,by
   unfold jJ;rw [dI,ee aj];exact h1⟩)]
  unfold jz.jF;simp only
  congr 1
  rw [List.set_comm _ _ ae]
  congr 1
  simp
 ·rfl
section
variable {s:jv} {r:jz} {n j f:Nat} {t:jQ} {c:kh} {l:Lk} {k i:Nat} {v w nn tk time:Int} {vs g:List Int} {now:Nat}
theorem arE (h:uK s n j t c ⟨6,v,w,nn,tk,vs⟩) (hP:s.jE.length+80000≤MM) (nI:n<f) (hs:kZ s r) (hh:t.has = -1) (hg:r.jY[j]?=some (c.vars,g)) (kW:(c.jM<0∧t.jZ[0]?=some j)∨(0≤c.jM∧t.jZ[0]?≠some j)) :
 kZ (if (kR s n j t c ⟨6,v,w,nn,tk,vs⟩ time).1=false then (kR s n j t c ⟨6,v,w,nn,tk,vs⟩ time).2 else tg (kR s n j t c ⟨6,v,w,nn,tk,vs⟩ time).2 n j c ⟨6,v,w,nn,tk,vs⟩) (uv (lh f) r n ⟨c.code,c.jM,c.pc,j⟩ ⟨6,v,w,nn,tk,vs⟩ (c.vars,g) now):=by
 obtain ⟨f,rfl⟩:∃f',f=f'+1:=⟨f-1,ae⟩
 have ni:=h.can;simp +decide only [Go.Ab.lZ,jb,jc] at ni;have hb:n8 c vs=true:=by
  cases e:n8 c vs with
  | true=>rfl
  | false=>rw [e] at ni;cases ni
 rw [hb] at ni;have rX:(s.tasks.length:Int)<32:=jm ni;have ka:mO c.vars vs=true:=hb;obtain ⟨hu,gu⟩:=hs.ta h.ht;obtain ⟨tn,o,a1,a2,a3,b1,b2,b3,b4,b5,b6,b7,b8,b9,zZ⟩:=L0 (s:=s) (c:=po s.p.kT tk) (vs:=lN c vs) (a:=s.jE.getD t.jX []) (prio:=nn) (par:=n) (canc:=t.canc) h.iv.wf.xu (.inr ⟨n,t,rfl,h.ht,h.en,h.wt⟩);have hF:=Hw s (po s.p.kT tk) (lN c vs) (s.jE.getD t.jX []) nn n t.canc;obtain ⟨sF,SA⟩:∃sF,sF=oU s (po s.p.kT tk) (lN c vs) (s.jE.getD t.jX []) nn n t.canc:=⟨_,rfl⟩
 have hE:=VP (f:=f) (cd:=po s.p.kT tk) (nn:=nn) (gv:=lX c.vars vs) (lf:=j) (i:=c.pc.toNat) (fr:=(c.vars,g)) hu (by rw [gu.state,h.sY];decide);have hn:=(dt h.ht).1;have pP:=(dt h.hc).1;have pB:=h.iv.jH n t h.ht;have uj:=h.pc;have nG:=h.EZ;refine zi h hP nI (s':=sF.jF n { t with kids:=t.kids++[(s.tasks.length:Int)],kg:=if c.jM<0 then qu t.kg c.pc s.tasks.length else t.kg }) (r':=xr (lh (f+1)) (zF r n (po s.p.kT tk) nn (lX c.vars vs) j c.pc.toNat (c.vars,g)) r.tasks.length (po s.p.kT tk)) (by rw [SA];simp +decide only [kR,jb,jc]) (by simp +decide only [mX,jb,jc,ka];rw [ja (by rw [hs.tl];omega),hs.p]) ?_ (Go.Ab.lq (t:=t) (by rw [SA,a1,dA hn];exact h.ht)) hh;rw [← SA] at a1 a2 a3 hF;rw [hE];obtain ⟨sp,rB⟩:∃sp,sp=if c.jM<0 then qu t.kg c.pc (s.tasks.length:Int) else t.kg:=⟨_,rfl⟩
 rw [← rB];have hT:(sF.jF n { t with kids:=t.kids++[(s.tasks.length:Int)],kg:=sp }).tasks=(s.tasks++[tn]).set n { t with kids:=t.kids++[(s.tasks.length:Int)],kg:=sp }:=by rw [jv.jF,a1]
 have SB:(sF.jF n { t with kids:=t.kids++[(s.tasks.length:Int)],kg:=sp }).calls=s.calls++[lQ (po s.p.kT tk) (lN c vs) (-1)]:=a3;have lH:=hs.fl;refine ⟨by rw [show (sF.jF n _).p=sF.p from rfl,hF.p];exact hs.p,by rw [show (sF.jF n _).jL=sF.jL from rfl,hF.jL];exact hs.lk,by rw [show (sF.jF n _).jL=sF.jL from rfl,hF.jL];exact hs.nu,by rw [show (sF.jF n _).lines=sF.lines from rfl,hF.lines];exact hs.li,by rw [show (sF.jF n _).jT=sF.jT from rfl,hF.jT];exact hs.ac,by rw [show (sF.jF n _).turns=sF.turns from rfl,hF.turns];exact hs.tn,by rw [show (sF.jF n _).used=sF.used from rfl,hF.used];exact hs.us,?_,fun x cx hx=>?_,?_,fun x tx hx=>?_⟩
 ·rw [SB];simp [lH]
 ·rw [SB] at hx;show ∃g',((r.jY++[qj (po s.p.kT tk) (lX c.vars vs)]).set j _)[x]?=some (cx.vars,g')∧_;rcases eE x s.calls.length with e|e
  ·rw [dA e] at hx;by_cases ej:j=x
   ·subst ej;rw [h.hc] at hx;injection hx with hx;subst hx;obtain ⟨g',g1,g2⟩:=hs.fr j c h.hc;rw [hg] at g1;injection g1 with g1;injection g1 with _ g1;subst g1;exact ⟨_,ee aj,by rw [dW];exact g2⟩
   ·rw [dS ej,dA ae];exact hs.fr x cx hx
  ·have ex:x=s.calls.length:=by
    have:=(dt hx).1;simp at this;omega
   subst ex;rw [dJ (dD _),eT] at hx;injection hx with hx;subst hx;rw [dS ae,← lH,dJ (dD _),eT];exact ⟨_,rfl,by simp [qj,lQ]⟩
 ·rw [hT];simp [hs.tl]
 ·rw [hT] at hx;rw [SB];show ∃ux,((r.tasks++[BA (po s.p.kT tk) r.jY.length nn n (jJ r n).canc]).set n _)[x]?=some ux∧ST _ ((r.jY++[qj (po s.p.kT tk) (lX c.vars vs)]).set j _) tx ux;have Z4:∀ {z:jQ},(∀q∈z.jZ,q<s.calls.length)→∀i' j' c',i'<z.jC→z.jZ[i']?=some j'→s.calls[j']?=some c'→∃NP,(s.calls++[lQ (po s.p.kT tk) (lN c vs) (-1)])[j']?=some NP∧NP.code=c'.code∧NP.jM=c'.jM∧NP.pc=c'.pc:=fun hz i' j' c' _ e2 e3=>⟨c',by rw [dA (hz j' (dx e2))];exact e3,rfl,rfl,rfl⟩
  by_cases ex:n=x
  ·subst ex;rw [ee aj] at hx;injection hx with hx;subst hx;refine ⟨_,ee (by simp;have:=hs.tl;omega),?_⟩;have uk:=(h.iv.wf.kQ t (dx h.ht)).1;have gm:ST (s.calls++[lQ (po s.p.kT tk) (lN c vs) (-1)]) r.jY t (jJ r n):=gu.mv (Z4 uk) fun j' g' _ e2=>⟨g',e2,rfl⟩
   refine ⟨gm.sl,gm.jH,gm.pr,gm.par,gm.canc,gm.state,by show (jJ r n).kids++[(r.tasks.length:Int)]=t.kids++[(s.tasks.length:Int)];rw [gm.kids,hs.tl],gm.waits,gm.has,gm.ed,gm.cl,fun j' g' e1 e2 q hq=>?_,gm.ym,gm.st⟩;have e1:t.jZ[0]?=some j':=e1;rcases kW with ⟨kW,BP⟩|⟨kW,BP⟩
   case inr =>
    have lO:j≠j':=fun e=>BP (by rw [e];exact e1);have hsj:=uk j' (dx e1);rw [dS lO,dA ae] at e2;show _=some ((getM sp (q:Int)).getD (-1));rw [rB,iZ ae];exact gu.k0 j' g' e1 e2 q hq
   rw [BP] at e1;injection e1 with e1;subst e1;rw [ee aj] at e2;injection e2 with e2;subst e2;show (g.set c.pc.toNat (r.tasks.length:Int))[q]?=some ((getM sp (q:Int)).getD (-1));rw [rB,ja kW];have hq:q<(g.set c.pc.toNat (r.tasks.length:Int)).length:=hq;rw [dW] at hq;rw [Jq,eN];by_cases eq:c.pc.toNat=q
   ·rw [ja eq,ja ae,ja ae,hs.tl];rfl
   ·rw [iZ eq,iZ ae];exact gu.k0 j (c.vars,g) BP hg q hq
  ·rw [dS ex] at hx;rw [dS ex];rcases eE x s.tasks.length with e|e
   ·rw [dA e] at hx;rw [dA (by rw [hs.tl];exact e)];obtain ⟨ux,SC,gx⟩:=hs.tk x tx hx;have uk:=(h.iv.wf.kQ tx (dx hx)).1;refine ⟨ux,SC,gx.mv (Z4 uk) fun j' g' e1 e2=>⟨g',?_,rfl⟩⟩;have lO:j≠j':=fun e=>by
     subst e;have:=(h.iv.rZ n t x tx (t.jC-1) 0 j h.ht hx ae (h.iv.jH x tx hx) h.tp e1).1;exact ex this
    rw [dS lO,dA (by rw [lH];exact uk j' (dx e1))] at e2;exact e2
   ·have Da:x=s.tasks.length:=by
     have:=(dt hx).1;simp at this;omega
    subst Da;rw [dJ (dD _),eT] at hx;injection hx with hx;subst hx;rw [← hs.tl,dJ (dD _),eT];refine ⟨_,rfl,?_⟩;refine U8 (cd:=po s.p.kT tk) (gv:=lN c vs) (J:=r.jY.length) (n:=nn) (par:=n) (canc:=(jJ r n).canc) (by rw [lH,dJ (dD _),eT];rfl) (by rw [dS ae,dJ (dD _),eT];rfl) (by rw [b1,lH]) b2 b3 (by rw [b4,gu.canc]) b5 b6 b7 b8 b9 ?_;unfold BA;rcases zZ with ⟨q1,q2,q3⟩|⟨q1,q2,q3,_⟩
    ·exact .inl ⟨q1,q2,iZ q3⟩
    ·exact .inr ⟨q1,q2,ja q3⟩
theorem kZ.kF {s:jv} {r:jz} (hi:Iv s) (h:kZ s r) (cd:Cd) (gv:List Int) (a:Int):kZ (s.kF (lQ cd gv a)) (r.l8 (qj cd gv)):=by
 have lH:=h.fl;refine ⟨h.p,h.lk,h.nu,h.li,h.ac,h.tn,h.us,by simp [jv.kF,jz.l8,lH],fun x cx hx=>?_,h.tl,fun x tx hx=>?_⟩
 ·by_cases e:x=s.calls.length
  ·subst e;rw [zm] at hx;injection hx with hx;subst hx;exact ⟨_,by rw [← lH];exact FA,by simp [qj,lQ]⟩
  ·rw [Cw e] at hx;rw [Ju (by rw [lH];exact e)];exact h.fr x cx hx
 ·obtain ⟨ux,SC,gx⟩:=h.tk x tx hx;have uk:=(hi.wf.kQ tx (dx hx)).1;refine ⟨ux,SC,gx.mv (fun i' j' c' _ e2 e3=>⟨c',?_,rfl,rfl,rfl⟩) fun j' g' e1 e2=>⟨g',?_,rfl⟩⟩
  ·have:=uk j' (dx e2);rw [Cw ae];exact e3
  ·have:=uk j' (dx e1);rw [Ju ae] at e2;exact e2
theorem VQ {L:List lM} {k i:Nat} {x:lM} (hk:k≤L.length) (h:i<k):(sw L k x)[i]?=L[i]?:=by
 unfold sw;split
 ·exact dS ae
 ·exact dA ae
theorem Py {L:List lM} {k:Nat} {x:lM} (hk:k≤L.length):(sw L k x)[k]?=some x:=by
 unfold sw;split
 ·rename_i h;exact ee h
 ·have:k=L.length:=ae;rw [this,dJ (dD _),eT];rfl
theorem arF (h:uK s n j t c ⟨9,v,w,nn,tk,vs⟩) (hP:s.jE.length+80000≤MM) (nI:n<f) (hs:kZ s r) (hh:t.has = -1) (sT:t.jC≤(jJ r n).jH.length) :
 kZ (if (kR s n j t c ⟨9,v,w,nn,tk,vs⟩ time).1=false then (kR s n j t c ⟨9,v,w,nn,tk,vs⟩ time).2 else tg (kR s n j t c ⟨9,v,w,nn,tk,vs⟩ time).2 n j c ⟨9,v,w,nn,tk,vs⟩) (uv (lh f) r n ⟨c.code,c.jM,c.pc,j⟩ ⟨9,v,w,nn,tk,vs⟩ (c.vars,g) now):=by
 have hb:n8 c vs=true:=by have:=h.can;simp +decide only [Go.Ab.lZ,jb,jc] at this;exact this
 have ka:mO c.vars vs=true:=hb;have hR:=Mj h (time:=time);obtain ⟨m,hm⟩:∃m,m=po s.p.methods tk:=⟨_,rfl⟩
 have hd:mX (lh f) r n ⟨c.code,c.jM,c.pc,j⟩ ⟨9,v,w,nn,tk,vs⟩ (c.vars,g)=(true,tJ (lh f) (wj r n m nn (lN c vs++[nn])) n):=by
  simp +decide only [mX,jb,jc,ka,hs.p];rw [hm];rfl
 unfold uv;rw [hd];simp only [gD,jc];have MY:∀(a:Int) (b:Bool) (R:jz),yE 9 a b n R=R:=fun a b R=>iZ (fun g=>g.2.2.1 rfl);rw [MY];obtain ⟨hu,gu⟩:=hs.ta h.ht;have pB:=h.iv.jH n t h.ht;have hC:=h.hC;obtain ⟨_,cd',q1,q2,q3,q4,q5⟩:=h.r9 rfl;simp only at q1 q4;have hmc:m=cd':=by rw [hm];unfold po;rw [dI,q1];rfl
 rw [← hmc] at q2 q3 q4 q5;have tE:((lN c vs++[nn]).length:Int)≤m.vars:=by simp [lN];omega
 have mf:(lQ m (lN c vs++[nn]) nn).vars.length≤1000:=by
  simp only [lQ,dK,eB] at tE ⊢;omega
 have oB:Iv (s.kF (lQ m (lN c vs++[nn]) nn)):=h.iv.kF hC mf q5 ⟨fy _,by show (0:Int)≤(m.steps.length:Int);omega⟩;have j6:=hs.kF h.iv m (lN c vs++[nn]) nn;have pP:=(dt h.hc).1;have nU:(s.kF (lQ m (lN c vs++[nn]) nn)).calls[j]?=some c:=by rw [Cw ae];exact h.hc
 have lr:(s.kF (lQ m (lN c vs++[nn]) nn)).tasks[n]?=some t:=h.ht;have pH:=j6.bump oB lr h.tp nU;obtain ⟨U,hU⟩:∃U,U=Ie r n m nn:=⟨_,rfl⟩
 have Gu:(pK (jJ r n)).jH.length=(jJ r n).jH.length:=by unfold pK;simp
 have e1:jJ (r.l8 (qj m (lN c vs++[nn]))) n=jJ r n:=rfl;rw [e1] at pH;obtain ⟨r1,yM⟩:∃r1,r1=(r.l8 (qj m (lN c vs++[nn]))).jF n (pK (jJ r n)):=⟨_,rfl⟩
 have auQ:wj r n m nn (lN c vs++[nn])=r1.jF n U:=by rw [yM,hU];rfl
 rw [← yM] at pH;obtain ⟨tT,SD⟩:=pH.ta (k:=n) (t:=t) lr;have eb:jJ r1 n=pK (jJ r n):=by rw [yM];exact oO (lq (s:=r.l8 _) hu)
 have mV:(jJ r n).jC=t.jC:=gu.sl;have Dq:U.jH=sw (pK (jJ r n)).jH t.jC ⟨m,nn,0,r.jY.length⟩:=by rw [hU,← mV];rfl
 have E0:U.jC=t.jC+1:=by rw [hU,← mV];rfl
 rw [eb] at SD;have hUm:∀q,q≤t.jC→ST (s.kF (lQ m (lN c vs++[nn]) nn) |>.ly j { c with pc:=c.pc+1 }).calls r1.jY { t with jC:=q } { U with jC:=q }:=fun q hq=>by
  have gq:=SD.shr hq;refine ⟨rfl,fun x hx=>?_,by rw [hU];exact gq.pr,by rw [hU];exact gq.par,by rw [hU];exact gq.canc,by rw [hU];exact gq.state,by rw [hU];exact gq.kids,by rw [hU];exact gq.waits,by rw [hU];exact gq.has,by rw [hU];exact gq.ed,by rw [hU];exact gq.cl,gq.k0,gq.ym,gq.st⟩;obtain ⟨j',c',a1,a2,a3⟩:=gq.jH x hx;refine ⟨j',c',a1,a2,?_⟩;show U.jH[x]?=_;rw [Dq,VQ (by rw [Gu];exact sT) (by have:x<q:=hx;omega)];exact a3
 rw [auQ];have Z5:jJ (r1.jF n U) n=U:=oO (lq tT);by_cases h0:m.steps.length=0
 ·have e:kR s n j t c ⟨9,v,w,nn,tk,vs⟩ time=(true,s.kF (lQ m (lN c vs++[nn]) nn)):=by
   rw [hm] at h0 ⊢;simp +decide only [kR,jb,jc,ja h0]
  rw [e] at hR ⊢;simp only [gD,jc];have p1:=hR.pl;have p2:=hR.bl;have hB:=h.hB;have sR:=h.iv.wf.nT;have hn:=(dt h.ht).1;unfold tg;rw [iZ (fun g=>g.2.2.1 rfl)];unfold sK tJ;rw [lr,nU,Z5,E0];simp only;obtain ⟨m0,hm0⟩:∃m0,t.jC=m0+1:=⟨t.jC-1,ae⟩
  have uJ:l9 U t.jC=⟨m,nn,0,r.jY.length⟩:=by
   refine zh ?_;rw [Dq,Py (by rw [Gu];exact sT)]
  have Dp:rR U (t.jC+1-1)=rR U (t.jC-1):=by
   rw [show t.jC+1-1=m0+1 by omega,show t.jC-1=m0 by omega];simp only [rR];rw [← hm0,uJ];simp only;rw [iZ ae]
  rw [Dp];have mr:t.waits<0:=h.wt;obtain ⟨m1,IH⟩:∃m1,m1=1001*(n+1):=⟨_,rfl⟩
  have GI:m1≤40000:=ae;have:=Ue (OJ (n+1) f nI) pH (n:=n) (j:=j) (t:=t) (U:=U) (gB n) lr pB h.sY hh h.tp hUm (fun _=>oB.go (t':=Go.Ab.j9 { t with jC:=1 } 3) lr h.tp nU h.EZ rfl (by show 1≤_;omega) (by show 0<1;omega) rfl rfl rfl rfl cE mr (.inr cG) (fun e=>by have:(2:Int)=1:=e;omega)) (by show s.jE.length+1001*(n+1)≤_;rw [← IH];omega) (by show s.ke.length+(n+1)≤_;omega);simp only [u7];exact this
 ·have e:kR s n j t c ⟨9,v,w,nn,tk,vs⟩ time=(false,((s.kF (lQ m (lN c vs++[nn]) nn)).ly j { c with pc:=c.pc+1 }).jF n { t with jZ:=oW t.jZ t.jC s.calls.length,jC:=t.jC+1 }):=by
   rw [hm] at h0 ⊢;simp +decide only [kR,jb,jc,iZ h0]
  rw [e];simp only [jb];unfold tJ;rw [Z5,E0];have uJ:l9 U t.jC=⟨m,nn,0,r.jY.length⟩:=by
   refine zh ?_;rw [Dq,Py (by rw [Gu];exact sT)]
  have Dp:rR U (t.jC+1-1)=some t.jC:=by
   rw [eM];refine VF ?_;rw [uJ];simp only;omega
  rw [Dp];simp only [u7];have hw:=h.iv.wf.kQ t (dx h.ht);refine pH.jF fun _=>?_;have gq:=SD;refine ⟨rfl,fun x hx=>?_,by rw [hU];exact gq.pr,by rw [hU];exact gq.par,by rw [hU];exact gq.canc,by rw [hU];exact gq.state,by rw [hU];exact gq.kids,by rw [hU];exact gq.waits,by rw [hU];exact gq.has,by rw [hU];exact gq.ed,by rw [hU];exact gq.cl,fun j' g' e1 e2=>?_,gq.ym,gq.st⟩
  ·have hx:x<t.jC+1:=hx;by_cases ex:x=t.jC
   ·subst ex;refine ⟨s.calls.length,lQ m (lN c vs++[nn]) nn,Pf hw.2.1,?_,?_⟩
    ·rw [Bk ae,zm]
    ·show U.jH[t.jC]?=_;rw [Dq,Py (by rw [Gu];exact sT),hs.fl];rfl
   ·obtain ⟨j',c',a1,a2,a3⟩:=gq.jH x ae;refine ⟨j',c',?_,a2,?_⟩
    ·show (oW t.jZ t.jC s.calls.length)[x]?=_;unfold oW;split
     ·rw [dS ae];exact a1
     ·rw [dA ae];exact a1
    ·show U.jH[x]?=_;rw [Dq,VQ (by rw [Gu];exact sT) ae];exact a3
  ·refine gq.k0 j' g' ?_ e2;have e1:(oW t.jZ t.jC s.calls.length)[0]?=some j':=e1;unfold oW at e1;split at e1
   ·rw [dS ae] at e1;exact e1
   ·rw [dA ae] at e1;exact e1
end
def Dr (l:lM):kG:=l.code.steps.getD l.step.toNat ⟨0,0,0,0,0,[]⟩
def Ig (r:jz) (k:Nat) (c:Int) (i:Nat):Bool:=
 bif decide (((l9 (jJ r k) 0).code.steps.getD i ⟨0,0,0,0,0,[]⟩).op=7) then decide ((Dn r (l9 (jJ r k) 0).fr).2.getD ((l9 (jJ r k) 0).code.steps.getD i ⟨0,0,0,0,0,[]⟩).n.toNat 0=c) else false
def AE (r:jz) (k:Nat) (c:Int):Bool:=(List.range (l9 (jJ r k) 0).step.toNat).any (Ig r k c)
def A4 (r0:jz) (k:Nat) (now:Int) (ks:List Int) (r:jz):jz:=ks.foldl (fun r c=>if (sX r0 c&&AE r0 k c)=true then r.nw (2000+c,now) else r) r
def yo (r:jz) (t:km) (now:Int):jz:=match t.turns.getLast? with
 | some x=>r.nw (x,now)
 | none=>r
def ua (r:jz) (k:Nat):jz:=
 ({ A4 r k r.turns.length (jJ r k).kids (yo r (jJ r k) r.turns.length) with turns:=r.turns++[(k:Int)],jV:=r.jV++[(l9 (jJ r k) ((jJ r k).jC-1)).jM] }:jz).jF k { jJ r k with turns:=(jJ r k).turns++[(r.turns.length:Int)],has:=-1 }
def vC (S:jz→Nat→jz) (r:jz) (k:Nat):jz:=
 uv S (ua r k) k (l9 (jJ r k) ((jJ r k).jC-1)) (Dr (l9 (jJ r k) ((jJ r k).jC-1))) (Dn r (l9 (jJ r k) ((jJ r k).jC-1)).fr) r.turns.length
theorem My (r0:jz) (k:Nat) (now:Int):∀(ks:List Int) (r:jz),∃af,A4 r0 k now ks r={ r with after:=af }:=by
 intro ks
 induction ks with
 | nil=>intro r;exact ⟨r.after,rfl⟩
 | cons c ks ih =>
   intro r;unfold A4 at ih ⊢;rw [fD];split
   ·obtain ⟨af,e⟩:=ih (r.nw (2000+c,now));exact ⟨af,e⟩
   ·exact ih r
theorem WD (r:jz) (t:km) (now:Int):∃af,yo r t now={ r with after:=af }:=by
 unfold yo;split
 ·exact ⟨_,rfl⟩
 ·exact ⟨r.after,rfl⟩
theorem Jy (r:jz) (k:Nat):∃af,ua r k=({ r with after:=af,turns:=r.turns++[(k:Int)],jV:=r.jV++[(l9 (jJ r k) ((jJ r k).jC-1)).jM] }:jz).jF k { jJ r k with turns:=(jJ r k).turns++[(r.turns.length:Int)],has:=-1 }:=by
 obtain ⟨a1,e1⟩:=WD r (jJ r k) r.turns.length;obtain ⟨a2,e2⟩:=My r k r.turns.length (jJ r k).kids (yo r (jJ r k) r.turns.length);refine ⟨a2,?_⟩;unfold ua;rw [e2,e1]
theorem Ux {s:jv} {r:jz} (h:kZ s r) {n:Nat} {t:jQ} {c:kh} {st:kG} (ht:s.tasks[n]?=some t) (h1:t.state=1):kZ (rz s n c st) (ua r n):=by
 obtain ⟨hu,gu⟩:=h.ta ht;obtain ⟨af,e⟩:=Jy r n;have hZ:=DS s n c st;have hX:∃X,rz s n c st=tw X n (-1)∧X.tasks.length=s.tasks.length∧∀(i:Nat) (t':jQ),i≠n→X.tasks[i]?=some t'→s.tasks[i]?=some t':=by
  have key:∀(a b:jv),(b.tasks=a.tasks∨∃x,b.tasks=a.tasks.set n x)→(a.tasks.length=s.tasks.length∧∀(i:Nat) (t':jQ),i≠n→a.tasks[i]?=some t'→s.tasks[i]?=some t')→(b.tasks.length=s.tasks.length∧∀(i:Nat) (t':jQ),i≠n→b.tasks[i]?=some t'→s.tasks[i]?=some t'):=fun a b hab ha=>by
   rcases hab with e|⟨x,e⟩
   ·rw [e];exact ha
   ·rw [e];exact ⟨by rw [dW];exact ha.1,fun i t' hi nk=>by rw [dS (fun e=>hi e.symm)] at nk;exact ha.2 i t' hi nk⟩
  refine ⟨_,rfl,?_⟩;refine key _ _ (.inl rfl) (key (xl (sZ (se (vH (qf (rI s n) n) n) n st) n (Go.Ab.lZ s c st) (ud c st)) n s.turns.length) _ ?_ (key (sZ (se (vH (qf (rI s n) n) n) n st) n (Go.Ab.lZ s c st) (ud c st)) _ (.inl rfl) (key (se (vH (qf (rI s n) n) n) n st) _ ?_ (key (vH (qf (rI s n) n) n) _ ?_ (key (qf (rI s n) n) _ (.inr ⟨_,rfl⟩) (key (rI s n) _ ?_ ⟨rfl,fun i t' _ h=>h⟩))))))
  ·unfold tz;split
   ·exact .inl rfl
   ·exact .inl rfl
  ·unfold sZ;split
   ·exact .inr ⟨_,rfl⟩
   ·exact .inl rfl
  ·unfold se;split
   ·exact .inr ⟨_,rfl⟩
   ·exact .inl rfl
  ·unfold qf;split
   ·exact .inl rfl
   ·exact .inr ⟨_,rfl⟩
 obtain ⟨X,Z6,hX2,hX3⟩:=hX;have vU:n<s.tasks.length:=(dt ht).1;rw [e];refine ⟨by rw [hZ.p];exact h.p,by rw [hZ.jL];exact h.lk,by rw [hZ.jL];exact h.nu,by rw [hZ.lines];exact h.li,by rw [hZ.jT];exact h.ac,?_,by rw [hZ.used];exact h.us,by rw [hZ.calls];exact h.fl,by rw [hZ.calls];exact h.fr,by rw [lY,hZ.tl];exact h.tl,fun k t' hk=>?_⟩
 ·rw [(LW s n c st).1];show r.turns++[(n:Int)]=_;rw [h.tn]
 ·rw [hZ.calls];obtain ⟨t0,h0,e0⟩:=hZ.tk k t' hk;by_cases ek:n=k
  ·subst ek;rw [ht] at h0;injection h0 with h0;subst h0;have hh:t'.has = -1:=by
    rw [Z6] at hk;unfold tw at hk;rw [Go.Ab.lq (dy (by rw [hX2];exact vU))] at hk;injection hk with hk;rw [← hk]
   refine ⟨_,lq (s:={ r with after:=af,turns:=_,jV:=_ }) hu,?_⟩;rw [e0,hh];refine ⟨gu.sl,gu.jH,gu.pr,gu.par,gu.canc,gu.state,gu.kids,gu.waits,rfl,gu.ed,gu.cl,gu.k0,gu.ym,?_⟩;rcases gu.st with a|⟨a,_⟩|⟨a,_⟩|⟨a,_⟩
   ·exact .inl a
   all_goals omega
  ·obtain ⟨u,sb,g2⟩:=h.tk k t0 h0;have:t'=t0:=by
    rw [Z6] at hk;unfold tw at hk;rw [Go.Ab.mw ek] at hk;have:=hX3 k t' (fun e=>ek e.symm) hk;rw [h0] at this;injection this with this;exact this.symm
   rw [this];exact ⟨u,by rw [mw ek];exact sb,g2⟩
theorem arG {S:jz→Nat→jz} {s:jv} {r:jz} (h:kZ s r) {n j:Nat} {c:kh} {g:List Int} {st:kG} (hv:SE s c st) (hc:Go.Ab.lZ s c st=false):mX S r n ⟨c.code,c.jM,c.pc,j⟩ st (c.vars,g)=(false,r)∧st.op≠11:=by
 obtain ⟨op,v,w,nn,tk,vs⟩:=st;have hr:room s=false→¬r.kr.length<200:=fun e=>by
  rw [h.ol];unfold room at e;have:=of_decide_eq_false e;omega
 simp only;by_cases h1:op=1
 ·subst h1;simp +decide only [Go.Ab.lZ,jb,jc] at hc;refine ⟨?_,az⟩;simp +decide only [mX,jb,jc];rw [iZ (hr hc)]
 by_cases h2:op=2
 ·subst h2;simp +decide only [Go.Ab.lZ,jb,jc] at hc;refine ⟨?_,az⟩;simp +decide only [mX,jb,jc];have e0:mO c.vars [w]=n8 c [w]:=rfl;rw [e0];cases hb:n8 c [w] with
  | false=>rfl
  | true =>
    rw [hb,Bool.true_and,Bool.or_eq_false_iff] at hc;obtain ⟨o1,o2⟩:=Mq (v:=w) hb ah (hv.w (.inl rfl)) hv.ob;obtain ⟨k1,_⟩:=h.link o2;rw [iZ ah,show vN (c.vars,g) w=lz c w from rfl,k1];have h3:=of_decide_eq_false hc.2;have e3:Go.Ab.lX s (c.vars.getD w.toNat 0)=(nX s (lz c w)).2:=by
     unfold Go.Ab.lX nX;rw [← o1,dF,dI,dI,dy o2];rfl
    rw [e3] at h3;rw [iZ h3,iZ (hr hc.1)]
 by_cases h3:op=3
 ·subst h3;simp +decide only [Go.Ab.lZ,jb,jc] at hc;have lC:mO c.vars [v,w]=false:=hc;exact ⟨bS,az⟩
 by_cases h4:op=4
 ·subst h4;simp +decide only [Go.Ab.lZ,jb,jc] at hc;have lC:mO c.vars [v]=false:=hc;exact ⟨bS,az⟩
 by_cases h5:op=5
 ·subst h5;simp +decide only [Go.Ab.lZ,jb,jc] at hc;have lC:mO c.vars [v]=false:=hc;exact ⟨bS,az⟩
 by_cases h6:op=6
 ·subst h6;simp +decide only [Go.Ab.lZ,jb,jc] at hc;refine ⟨?_,az⟩;simp +decide only [mX,jb,jc];have e0:mO c.vars vs=n8 c vs:=rfl;rw [e0];cases hb:n8 c vs with
  | false=>rfl
  | true =>
    rw [hb] at hc;have:=of_decide_eq_false hc;rw [iZ ah,iZ (by rw [h.tl];omega)]
 by_cases h8:op=8
 ·subst h8;simp +decide only [Go.Ab.lZ,jb,jc] at hc;have lC:mO c.vars vs=false:=hc;exact ⟨bS,az⟩
 by_cases h9:op=9
 ·subst h9;simp +decide only [Go.Ab.lZ,jb,jc] at hc;have lC:mO c.vars vs=false:=hc;exact ⟨bS,az⟩
 simp only [Go.Ab.lZ,h1,h2,h3,h4,h5,h6,h8,h9,jc,or_self] at hc;cases hc
theorem TH.QZ {s:jv} {r:jz} (h:kZ s r) {n j:Nat} {t:jQ} {c:kh} {st:kG} {l:Lk} {k i:Nat} (hT:uS s n t j c st l k i):l9 (jJ r n) ((jJ r n).jC-1)=⟨c.code,c.jM,c.pc,j⟩∧Dr ⟨c.code,c.jM,c.pc,j⟩=st∧∃g,Dn r j=(c.vars,g)∧r.jY[j]?=some (c.vars,g)∧g.length=c.code.steps.length:=by
 obtain ⟨hu,gu⟩:=h.ta hT.ht;obtain ⟨l1,l2⟩:=gu.oD (i:=i) (by rw [hT.hs];omega) hT.hj hT.hc;obtain ⟨g,hg,hl⟩:=h.fr j c hT.hc;refine ⟨by rw [gu.sl,hT.hs,eM];exact l2,?_,g,WC hg,hg,hl⟩;unfold Dr;simp only;rw [dI,hT.es];rfl
theorem ahW {s:jv} {r:jz} {n j f:Nat} {t:jQ} {c:kh} {st:kG} {l:Lk} {k i:Nat} (hT:TH s n j t c st l k i) (h:kZ s r) (nI:n<f) (sT:t.jC≤(jJ r n).jH.length):kZ (tM s n j c st) (vC (lh f) r n):=by
 have GZ:=vB;have hz:=hT.gg.sz;have rm:=hz.ck;have nN:=hT.tn;obtain ⟨hK,kW⟩:=hT.top.tok hT.gg.iv hT.gg.gi hz hT.sY;obtain ⟨t9,od,yY⟩:=Jz hK kW ae ae;have hZ:=DS s n c st;have yB:Go.Ab.lZ (rz s n c st) c st=Go.Ab.lZ s c st:=JF od c st;have oE:=Ux (c:=c) (st:=st) h hT.top.ht hT.sY;obtain ⟨e1,e2,g,e3,e4,e5⟩:=TH.QZ h hT.top;unfold tM vC;rw [e1,e2,e3];obtain ⟨s9,Ge⟩:∃s9,s9=rz s n c st:=⟨_,rfl⟩
 obtain ⟨r5,xa⟩:∃r5,r5=ua r n:=⟨_,rfl⟩
 have hf5:r5.jY=r.jY:=by obtain ⟨af,e⟩:=Jy r n;rw [xa,e];rfl
 have IS:r5.turns=r.turns++[(n:Int)]:=by obtain ⟨af,e⟩:=Jy r n;rw [xa,e];rfl
 have hk5:(jJ r5 n).jH=(jJ r n).jH:=by
  obtain ⟨af,e⟩:=Jy r n;rw [xa,e,oO (lq (s:={ r with after:=af,turns:=_,jV:=_ }) (h.ta hT.top.ht).1)]
 rw [← Ge,← xa] at oE;rw [← Ge] at od hZ yB;rw [← Ge,← xa];have G4:=hZ.gi hT.gg.gi;have qF:=od.tk;have oF:uS s9 n t9 j c st l k i:=hT.top.zs hZ.p hZ.calls qF od.vV.1 od.vV.2.1;have px:Tok 80000 s9 n j t9 c st:=hK.cs od ae;have yZ:=px.hP;have NQ:=px.hB;obtain ⟨_,g9⟩:=oE.ta qF;have y5:t9.has = -1:=by
  rw [← g9.has,xa];obtain ⟨af,e⟩:=Jy r n;rw [e,oO (lq (s:={ r with after:=af,turns:=_,jV:=_ }) (h.ta hT.top.ht).1)]
 have E1:r5.jY[j]?=some (c.vars,g):=by rw [hf5];exact e4
 have auR:t9.jC≤(jJ r5 n).jH.length:=by rw [hk5,od.vV.2.1];exact sT
 have G5:Go.Ab.jJ s9 n=t9:=Go.Ab.oG qF;rw [G5];have n9:(s.turns.length:Int)=(r5.turns.length:Int)-1:=by rw [IS,h.tn];simp
 cases ni:Go.Ab.lZ s c st with
 | false =>
   rw [ja rfl];rw [ni] at yB;obtain ⟨d1,d2⟩:=arG (S:=lh f) (n:=n) (j:=j) (g:=g) oE px.wB yB;unfold uv;rw [d1,ja rfl,iZ d2];have uk:kZ s9 (r5.uA r.turns.length (-1)):=oE.eqs rfl rfl rfl rfl rfl rfl rfl rfl rfl rfl rfl rfl rfl rfl rfl rfl rfl;exact U7 od.iv uk qF px.sY y5 nI ae ae
 | true =>
   rw [iZ ah];have hS:uK s9 n j t9 c st:={ px.cs (Cs.refl od.iv qF) (k':=40000) ae with can:=by rw [yB];exact ni,bh:=yY }
   have E3:=oF.hj;have aDr:=oF.hs;have Ih:(st.op=7∨st.op=10)→zI (c.vars,g) st.n=qX t9 st.n∧c.jM<0:=fun ho=>by
    have ng:=oF.os;have:l.method=false∧Rg.spawn l c.pc st:=by
     unfold Rg.oP at ng;rcases ng with h|h|h|h|h|h|h|h
     ·omega
     ·omega
     ·omega
     ·omega
     ·exact ⟨h.2.2.1,h.2.2.2.2.1⟩
     all_goals omega
    obtain ⟨hm,⟨a,b⟩,_⟩:=this;have G6:i=0:=by
     by_cases e0:i=0
     ·exact e0
     ·have:=(oF.dp ae).1;rw [hm] at this;cases this
    rw [G6] at E3;have nG:=oF.pc;obtain ⟨kc,k1,k2⟩:=px.r7 ho;have hk:=g9.k0 j (c.vars,g) E3 E1 st.n.toNat (by show st.n.toNat<g.length;omega);have hk:g[st.n.toNat]?=_:=hk;have ea:((st.n.toNat:Nat):Int)=st.n:=ae;rw [ea,k1] at hk;refine ⟨?_,?_⟩
    ·unfold zI qX;simp only;rw [dI,hk,k1];rfl
    ·rcases oF.cd.me with ⟨_,m,_⟩|⟨m,_⟩
     ·omega
     ·rw [hm] at m;cases m
   have Qb:(c.jM<0∧t9.jZ[0]?=some j)∨(0≤c.jM∧t9.jZ[0]?≠some j):=by
    by_cases e0:i=0
    ·rw [e0] at E3;have hm:=oF.b0 e0;rcases oF.cd.me with ⟨_,m,_⟩|⟨m,_⟩
     ·exact .inl ⟨ae,E3⟩
     ·rw [hm] at m;cases m
    ·have hm:=(oF.dp ae).1;rcases oF.cd.me with ⟨m,_⟩|⟨_,m,_⟩
     ·rw [hm] at m;cases m
     ·refine .inr ⟨m,fun e=>?_⟩;have:=(od.iv.rZ n t9 n t9 0 i j qF qF ae ae e E3).2;omega
   have vK:=px.op;obtain ⟨op,v,w,nn,tk,vs⟩:=st;simp only at vK Ih;have AF:op=1∨op=2∨op=3∨op=4∨op=5∨op=6∨op=7∨op=8∨op=9∨op=10∨op=11∨op=12:=ae;rcases AF with rfl|rfl|rfl|rfl|rfl|rfl|rfl|rfl|rfl|rfl|rfl|rfl
   ·exact step1 hS yZ nI oE y5 n9 E1
   ·exact step2 hS yZ nI oE y5 n9 E1
   ·exact aqZ hS yZ nI oE y5 n9 E1
   ·exact arA hS yZ nI oE y5 n9 E1
   ·exact arB hS yZ nI oE y5 n9 E1
   ·exact arE hS yZ nI oE y5 E1 Qb
   ·exact arD hS yZ nI oE y5 (Ih (.inl rfl)).1 (Ih (.inl rfl)).2
   ·exact arC hS yZ nI oE y5 n9 E1
   ·exact arF hS yZ nI oE y5 auR
   ·exact anF hS yZ nI oE y5 (Ih (.inr rfl)).1
   ·exact anH hS yZ nI oE y5
   ·exact anG hS yZ nI oE y5
def Ii (r:jz) (k:Nat):Int:=if (Dr (l9 (jJ r k) ((jJ r k).jC-1))).op=8 then (Dr (l9 (jJ r k) ((jJ r k).jC-1))).n else (l9 (jJ r k) ((jJ r k).jC-1)).jM
def AG (r:jz) (k:Nat):Bool:=decide ((jJ r k).state=1)&&!busy r k (Ii r k) r.tasks.length
def pT (r:jz):Nat→Int×List Int
 | 0=>(-1,[])
 | k+1=>if AG r k=true then (if (pT r k).1<qI r 40 k then (qI r 40 k,[(k:Int)]) else if qI r 40 k=(pT r k).1 then ((pT r k).1,(pT r k).2++[(k:Int)]) else pT r k) else pT r k
def CT (r:jz) (sched:List Int):Int:=if r.at'<sched.length then sched.getD r.at'.toNat 0 else 0
def vW (r:jz) (sched:List Int):jz:=if (pT r r.tasks.length).2=[] then r else if r.at'<sched.length then { r with at':=r.at'+1 } else r
def yp (r:jz) (sched:List Int):Int:=if (pT r r.tasks.length).2=[] then -1 else (pT r r.tasks.length).2.getD (((CT r sched).tmod (pT r r.tasks.length).2.length+(pT r r.tasks.length).2.length).tmod (pT r r.tasks.length).2.length).toNat 0
structure Pk (r:jz):Prop where
 wf:WF r
 top:∀(k:Nat) (t:km),r.tasks[k]?=some t→t.state=1→∃m l i st,Dh r k t m l i st
 wt:∀k i,i<r.tasks.length→uz r k i=true→i<k
 us:0≤r.at'∧r.at'≤1000000
theorem Dh.act {r:jz} {k m i:Nat} {t:km} {l:lM} {st:kG} (h:Dh r k t m l i st):Ii r k=if st.op=8 then st.n else l.jM:=by
 have h1:l9 (jJ r k) ((jJ r k).jC-1)=l:=by rw [oO h.ht,h.hm,eM];exact zh h.hl
 have h2:Dr l=st:=by unfold Dr;rw [h.hi,dF,dI,h.jP];rfl
 unfold Ii;rw [h1,h2]
theorem anI {r:jz} (h:Pk r) {k:Nat} (hk:k<r.tasks.length):jS Tryd.prog 66 [jI,.int k] (RH r) (.bool (AG r k)) (RH r):=by
 have ht:=tH hk;by_cases h1:(jJ r k).state=1
 ·obtain ⟨m,l,i,st,hT⟩:=h.top k _ ht h1;have:=ahK h.wf hT h1;rw [← hT.act] at this;have e:AG r k=!busy r k (Ii r k) r.tasks.length:=by unfold AG;rw [jf h1];rfl
  rw [e];exact this
 ·have e:AG r k=false:=by unfold AG;rw [je h1];rfl
  rw [e];exact ahJ h.wf ht h1
theorem arH {r:jz} {x:Int}:(RH r).set (ix .rn) (lE { r with at':=x })=RH { r with at':=x }:=by
 refine vz (s:=r) (s':={ r with at':=x }) [(.rn,_)] (wM ⟨mc,rfl⟩) fun a ha=>?_;simp only [ef,ez,dz] at ha;cases a<;>first|exact absurd rfl ha|rfl
theorem WF.at {r:jz} (h:WF r) {x:Int}:WF { r with at':=x }:=⟨h.nT,h.nF,h.lv,h.sz⟩
theorem Pz {r:jz} (h:Pk r) {sched:List Int} (mV:sched.length≤1000000):jS Tryd.prog 49 [jI,.jA (sched.map .int)] (RH r) (.int (yp r sched)) (RH (vW r sched)):=by
 have hw:=h.wf;have sR:=hw.nT;obtain ⟨q0,q1⟩:=h.us;have XZ:=fun k hk=>anI h (k:=k) hk;have X0:=fun k (hk:k<r.tasks.length)=>afN hw h.wt 40 k ae hk;have W9:=Hid.mk XZ;have Xa:=Hid.mk X0;obtain ⟨V,hV⟩:∃V,Hid (V=yp r sched):=⟨_,⟨rfl⟩⟩
 obtain ⟨R,hR⟩:∃R,Hid (R=vW r sched):=⟨_,⟨rfl⟩⟩
 rw [← hV.out,← hR.out];clear h XZ X0;refine jS.i2 [(0,jI),(1,.jA (sched.map .int))] 2 74 NN Tryd.func49 (kv r) ?_;refine jx ?_;refine jG.weaken (Wk.rQ (E2:=[(0,jI),(1,.jA (sched.map .int)),(5,.own NN 0 0 0),(6,.int (-1)),(7,.int 0)]) (H2:=RH r) 3 1 (sO.rf (S:=(·<NN)) (rO hw)) ⟨.ptr,.pu (l7 _),.nil (kv r),.pu (.base _),.pu (.base _),trivial⟩) ?_;refine jG.loop (J:=fun k:Nat=>k≤r.tasks.length∧(pT r k).2.length≤k) (fun k=>⟨[(0,jI),(1,.jA (sched.map .int)),(5,.own NN (pT r k).2.length 0 (pT r k).2.length),(6,.int (pT r k).1),(7,.int k)],RH r++[jD (pT r k).2]⟩) (fun k=>r.tasks.length-k) 0 ⟨dL _,dD _⟩ .wf ?_;rintro k ⟨hk,pR⟩;have qA:Hid (pT r (k+1)=if AG r k=true then (if (pT r k).1<qI r 40 k then (qI r 40 k,[(k:Int)]) else if qI r 40 k=(pT r k).1 then ((pT r k).1,(pT r k).2++[(k:Int)]) else pT r k) else pT r k):=⟨rfl⟩
 refine jx ?_;by_cases hd:k<r.tasks.length
 ·have kb:decide ((k:Int)<(r.tasks.length:Int))=true:=jf ae;have ir:=W9.out k hd;have iu:=Xa.out k hd;obtain ⟨⟨b,L⟩,hA⟩:∃A,A=pT r k:=⟨_,rfl⟩
  obtain ⟨U,hU⟩:∃U,U=qI r 40 k:=⟨_,rfl⟩
  obtain ⟨rd,Z7⟩:∃rd,rd=AG r k:=⟨_,rfl⟩
  rw [← hA] at qA pR ⊢;rw [← hU] at qA iu;rw [← Z7] at qA ir;clear hA hU Z7;simp only at pR ⊢;refine j8 ?_ aa rfl;refine jx ?_;refine cF ir hw hw ?_;refine jx ?_;cases rd with
  | false =>
    rw [iZ ah] at qA;refine j8 ?_ rfl rfl;refine jx ?_;rw [l6 ae];refine ⟨k+1,⟨hd,by rw [qA.out];show L.length≤k+1;omega⟩,ae,?_⟩;rw [qA.out];exact .wf
  | true =>
    rw [ja rfl] at qA;refine jK ?_ rfl rfl;refine jx ?_;refine cF iu hw hw ?_;refine jx ?_;refine jG.join ⟨[(0,jI),(1,.jA (sched.map .int)),(5,.own NN (if b<U then [] else L:List Int).length 0 (if b<U then [] else L:List Int).length),(6,.int (if b<U then U else b)),(7,.int k),(8,.int U)],RH r++[jD (if b<U then [] else L)]⟩ ?_ ?_
    ·by_cases hg:b<U
     ·have mo:decide (U>b)=true:=jf hg;rw [ja hg,ja hg];refine j8 ?_ aa rfl;refine jx ?_;refine (W5 (T2:=[jD L]) (E2:=[(0,jI),(1,.jA (sched.map .int)),(5,kD),(6,.int U),(7,.int k),(8,.int U)]) hw ⟨.ptr mc,.pu (l7 _),.pu (.base _),.pu (.base _),.pu (.base _),.pu (.base _),trivial⟩).trans ?_;exact Wk.rQ (E2:=[(0,jI),(1,.jA (sched.map .int)),(5,.own NN 0 0 0),(6,.int U),(7,.int k),(8,.int U)]) (H2:=RH r) 3 1 (sO.rf (S:=(·<NN)) (rO hw)) ⟨.ptr,.pu (l7 _),.nil (kv r),.pu (.base _),.pu (.base _),.pu (.base _),trivial⟩
     ·have mo:decide (U>b)=false:=je hg;rw [iZ hg,iZ hg];refine jK ?_ aa rfl;refine jx ?_;exact .wf
    obtain ⟨L2,oC⟩:∃L2:List Int,Hid (L2=if b<U then [] else L):=⟨_,⟨rfl⟩⟩
    obtain ⟨b2,nV⟩:∃b2:Int,Hid (b2=if b<U then U else b):=⟨_,⟨rfl⟩⟩
    rw [← oC.out,← nV.out];have nL:L2.length≤k:=by rw [oC.out];split;exact dL _;exact pR
    refine jx ?_;by_cases he:U=b2
    ·have um:decide (U=b2)=true:=jf he;have B1:Hid (pT r (k+1)=(b2,L2++[(k:Int)])):=⟨by
      rw [qA.out,oC.out,nV.out];by_cases hg:b<U
      ·rw [ja hg,ja hg,ja hg];rfl
      ·rw [iZ hg,iZ hg,iZ hg];have:b2=b:=by rw [nV.out,iZ hg]
       rw [ja ae]⟩
     clear he;refine j8 ?_ aa rfl;refine jx ?_;refine jB.p2 (Ao (b:=NN) (l:=L2) (v:=k) aa aa (by rw [← fq NN,vx (kv r)];rfl) ae) ?_;rw [show (RH r++[jD L2]).set NN (jD (L2++[(k:Int)]))=RH r++[jD (L2++[(k:Int)])] by rw [← fq NN,wE (kv r)];rfl];refine jx ?_;rw [l6 ae];refine ⟨k+1,⟨hd,by rw [B1.out];show (L2++[_]).length≤k+1;rw [dK,dO];omega⟩,ae,?_⟩;rw [B1.out];have kJ:(L2++[(k:Int)]).length=L2.length+1:=ah;show Wk _ _ ⟨[(0,jI),(1,.jA (sched.map .int)),(5,.own NN (L2++[(k:Int)]).length 0 (L2++[(k:Int)]).length),(6,.int b2),(7,.int ((k+1:Nat):Int))],_⟩;rw [kJ];exact .wf
    ·have um:decide (U=b2)=false:=je he;have hg:¬b<U:=fun hg=>he (by rw [nV.out,ja hg]);have e1:L2=L:=by rw [oC.out,iZ hg]
     have e2:b2=b:=by rw [nV.out,iZ hg]
     have B1:Hid (pT r (k+1)=(b2,L2)):=⟨by rw [qA.out,iZ hg,iZ (fun e=>he (e.trans e2.symm)),e1,e2]⟩
     clear hg he e1 e2;refine jK ?_ aa rfl;refine jx ?_;rw [l6 ae];refine ⟨k+1,⟨hd,by rw [B1.out];show L2.length≤k+1;omega⟩,ae,?_⟩;rw [B1.out];exact .wf
 have kb:decide ((k:Int)<(r.tasks.length:Int))=false:=je ae;obtain rfl:k=r.tasks.length:=ae;refine jK ?_ aa rfl;obtain ⟨L,hL⟩:∃L,Hid (L=(pT r r.tasks.length).2):=⟨_,⟨rfl⟩⟩
 have La:Hid (V=if L=[] then -1 else L.getD (((CT r sched).tmod L.length+L.length).tmod L.length).toNat 0):=⟨by rw [hV.out,hL.out];rfl⟩
 have rY:Hid (R=if L=[] then r else if r.at'<sched.length then { r with at':=r.at'+1 } else r):=⟨by rw [hR.out,hL.out];rfl⟩
 rw [← hL.out] at pR ⊢;clear hV hR hL qA W9 Xa;refine jx ?_;by_cases SF:L=[]
 ·subst SF;rw [ja rfl] at La rY;refine j8 ?_ rfl rfl;refine jx ?_;rw [La.out,rY.out];exact Rf.kY.ref [jD []] hw (vs:=[.int (-1)]) ag rfl rfl (.pu (.base _))
 have hRl:0<L.length:=List.length_pos_iff.2 SF;rw [iZ SF] at La rY;have A5:decide ((L.length:Int)=0)=false:=je ae;refine jK ?_ aa rfl;clear A5;refine jx ?_;have A6:Hid (CT r sched=if r.at'<sched.length then sched.getD r.at'.toNat 0 else 0):=⟨rfl⟩
 refine jG.join ⟨[(0,jI),(5,.own NN L.length 0 L.length),(9,.int (CT r sched))],RH R++[jD L]⟩ ?_ ?_
 ·by_cases hu:r.at'<sched.length
  ·obtain ⟨u,uD⟩:∃u:Nat,r.at'=u:=⟨_,(dP q0).symm⟩
   have sT:u<sched.length:=ae;obtain ⟨y,hy⟩:∃y,sched[u]?=some y:=⟨_,dy sT⟩
   have SG:(sched.map AV.int)[u]?=some (.int y):=cy;rw [ja hu,dI,uD,dF,hy] at A6;rw [ja hu] at rY;have Lc:decide ((u:Int)<(sched.length:Int))=true:=jf ae;refine j8 ?_ aa rfl;clear Lc;refine jx ?_;rw [l6 ae,A6.out,rY.out,uD,show nth 0 sched (u:Int)=y by simp [nth,hy]];show Wk _ ⟨_,(RH r++[jD L]).set (ix .rn) (lE { r with at':=(u:Int)+1 })⟩ _;rw [o7 (kv r) mc,arH];exact .wf
  ·have Lc:decide (r.at'<(sched.length:Int))=false:=je hu;rw [iZ hu] at A6 rY;refine jK ?_ aa rfl;clear Lc;refine jx ?_;rw [A6.out,rY.out];exact .wf
 have NR:WF R:=by
  rw [rY.out];split
  ·exact hw.at
  ·exact hw
 rw [La.out];clear La rY A6;obtain ⟨cc,pO⟩:∃cc,cc=CT r sched:=⟨_,rfl⟩
 rw [← pO];clear pO;have hz:¬((L.length:Int)=0):=ae;refine jx ?_;have b1:cc.tmod L.length<L.length:=fW _ ae;have b2:-(L.length:Int)<cc.tmod L.length:=by
  have:=fW (-cc) (show (0:Int)<L.length by omega);rw [Int.neg_tmod] at this;omega
 rw [nP ae ae];obtain ⟨m,hm⟩:∃m:Nat,(cc.tmod L.length+L.length).tmod L.length=m:=⟨_,(dP (Int.tmod_nonneg _ ae)).symm⟩
 have IT:m<L.length:=by have:=fW (cc.tmod L.length+L.length) (show (0:Int)<L.length by omega);omega
 obtain ⟨z,EH⟩:∃z,L[m]?=some z:=⟨_,dy IT⟩
 have hEm:(L.map AV.int)[m]?=some (.int z):=by rw [dE,EH];rfl
 rw [dI,hm,dF,EH];refine jB.q2 (lu (n:=m) (b:=NN) aa aa dG (by rw [← fq NN,vx (kv R)];rfl) ah IT aa) ?_;refine jx ?_;exact Rf.kY.ref [jD L] NR (vs:=[.int z]) ag rfl rfl (.pu (.base _))
def Ep (r:jz) (k:Nat) (c:Int) (n:Nat):Bool:=(List.range n).any (Ig r k c)
theorem afS {r:jz} {k n:Nat} {c:Int}:Ep r k c (n+1)=(Ep r k c n||Ig r k c n):=by
 unfold Ep;rw [gE,List.any_append];simp
theorem afT {r:jz} (hw:WF r) {k:Nat} {t:km} {l:lM} {f:List Int×List Int} {c:Int} (ht:r.tasks[k]?=some t) (h0:0<t.jC) (hl:t.jH[0]?=some l) (hf:r.jY[l.fr]?=some f) (lH:f.2.length=l.code.steps.length) (jP:0≤l.step∧l.step≤l.code.steps.length) (hn:∀(i:Nat) (st:kG),(i:Int)<l.step→l.code.steps[i]?=some st→st.op=7→0≤st.n∧st.n.toNat<f.2.length) :
 jS Tryd.prog 70 [jI,.int k,.int c] (RH r) (.bool (AE r k c)) (RH r):=by
 obtain ⟨W,hW⟩:∃W,Hid (W=AE r k c):=⟨_,⟨rfl⟩⟩
 rw [← hW.out];obtain ⟨g1,g2,g3,g4,g5⟩:=hw.k ht;obtain ⟨e1,e2,e3,e4,e5⟩:=hw.oD ht hl;have uJ:l9 (jJ r k) 0=l:=by rw [oO ht];exact zh hl
 have Z8:Dn r l.fr=f:=WC hf;obtain ⟨m,hm⟩:∃m:Nat,l.step=m:=⟨_,(dP jP.1).symm⟩
 have hI:Hid (∀(i:Nat) (st:kG),l.code.steps[i]?=some st→Ig r k c i=bif decide (st.op=7) then decide (f.2.getD st.n.toNat 0=c) else false):=⟨fun i st h=>by
  unfold Ig;rw [uJ,Z8,dI,h];rfl⟩
 have Z9:Hid (W=Ep r k c m):=⟨by rw [hW.out];unfold AE Ep;rw [uJ,hm,dF]⟩
 rw [hm] at jP;obtain ⟨lc,la,ls,lf⟩:=l;simp only at hm jP hn lH hf e5;subst hm;have qC:m≤lc.steps.length:=ae;have Is:=Hid.mk hn;have hF:(RH r)[ix (.lg lf)]?=some (jD f.2):=by rw [nj r _ e2];simp only [blk];rw [hf]
 have hT:∀b∈[kj ⟨lc,la,(m:Int),lf⟩],kI (·<NN) b:=fun b hb=>by
  rw [dz] at hb;subst hb;exact VI e1 e2
 have GV:=Hid.mk hT;clear hn hW uJ Z8 jP hT;refine jS.i2 [(0,jI),(1,.int k),(2,.int c)] 3 45 NN Tryd.func70 (kv r) ?_;refine jx ?_;refine jB.p2 (qc (T:=[kS]) (q:=0) (l:=⟨lc,la,(m:Int),lf⟩) aa aa rfl) ?_;show jB _ _ _ _ _ ⟨_,RH r++[kj ⟨lc,la,(m:Int),lf⟩]⟩;refine jx ?_;refine jG.loop (J:=fun i:Nat=>i≤m∧Ep r k c i=false) (fun i=>⟨[(0,jI),(1,.int k),(2,.int c),(7,.ptr NN 1 0 0),(8,.int i)],RH r++[kj ⟨lc,la,(m:Int),lf⟩]⟩) (fun i=>m-i) 0 ⟨dL _,rfl⟩ .wf ?_;rintro i ⟨hi,hb⟩;have ka:=Hid.mk hb;clear hb;refine jx ?_;by_cases hd:i<m
 ·have kb:decide ((i:Int)<(m:Int))=true:=jf ae;obtain ⟨⟨op,v,w,nn,tk,vs⟩,hs⟩:∃st,lc.steps[i]?=some st:=⟨_,dy ae⟩
  have pG:(lc.steps.map ki)[i]?=some (ki ⟨op,v,w,nn,tk,vs⟩):=by rw [dE,hs];rfl
  have Ds:Hid (Ep r k c (i+1)=bif decide (op=7) then decide (f.2.getD nn.toNat 0=c) else false):=⟨by rw [afS,ka.out,hI.out i _ hs];rfl⟩
  have Dt:=fun h=>Is.out i _ ae hs h;simp only at Dt;have auS:=Hid.mk Dt;clear Dt;refine j8 ?_ aa rfl;clear kb;by_cases h7:op=7
  ·obtain ⟨a1,a2⟩:=auS.out h7;have Ld:decide (op=7)=true:=jf h7;obtain ⟨q,rfl⟩:∃q:Nat,nn=q:=⟨_,(dP a1).symm⟩
   rw [dF] at a2 Ds;obtain ⟨y,hy⟩:∃y,f.2[q]?=some y:=⟨_,dy a2⟩
   have xJ:f.2[q]?=some y∧f.2.length=lc.steps.length:=⟨hy,lH⟩
   have SG:(f.2.map AV.int)[q]?=some (.int y):=cy;rw [dI,hy,Ld] at Ds;clear h7;have hbF:∀T,(RH r++T)[ix (.lg lf)]?=some (jD f.2):=fun T=>by rw [mZ (kv r) e2];exact hF
   refine jx ?_;refine uf (h:=fun hg=>Sj (q:=q) (l:=f.2) aa aa (hbF _) xJ) (hr:=?_);refine jx ?_;by_cases NS:y=c
   ·have SH:decide (y=c)=true:=jf NS;rw [show (bif true then decide ((some y).getD 0=c) else false)=true from SH] at Ds;clear NS;refine j8 ?_ aa rfl;refine jx ?_;have hWt:W=true:=by
     rw [Z9.out];unfold Ep at Ds ⊢;rw [eS];have:=Ds.out;rw [eS] at this;obtain ⟨z,z1,z2⟩:=this;exact ⟨z,eU.2 (by have:=eU.1 z1;omega),z2⟩
    rw [hWt];exact Rf.kY.ref [kj ⟨lc,la,(m:Int),lf⟩,j7 ⟨op,v,w,(q:Int),tk,vs⟩] hw (vs:=[.bool true]) ag rfl rfl (.pu (.base _))
   ·have SH:decide (y=c)=false:=je NS;rw [show (bif true then decide ((some y).getD 0=c) else false)=false from SH] at Ds;clear NS;refine jK ?_ aa rfl;refine jx ?_;rw [l6 ae];refine ⟨i+1,⟨hd,Ds.out⟩,ae,Wv (T:=[kj ⟨lc,la,(m:Int),lf⟩]) hw GV.out ⟨.ptr (Nat.lt_succ_of_lt mc),.pu (.base _),.pu (.base _),.ptr (gB NN),.pu (.base _),trivial⟩⟩
  ·have Ld:decide (op=7)=false:=je h7;rw [Ld] at Ds;clear h7;refine jx ?_;refine wu ((AV.int 0).kN 0) ?_;refine jx ?_;refine jK ?_ aa rfl;refine jx ?_;rw [l6 ae];refine ⟨i+1,⟨hd,Ds.out⟩,ae,Wv (T:=[kj ⟨lc,la,(m:Int),lf⟩]) hw GV.out ⟨.ptr (Nat.lt_succ_of_lt mc),.pu (.base _),.pu (.base _),.ptr (gB NN),.pu (.base _),trivial⟩⟩
 have kb:decide ((i:Int)<(m:Int))=false:=je ae;obtain rfl:i=m:=ae;refine jK ?_ aa rfl;refine jx ?_;rw [Z9.out,ka.out];exact Rf.kY.ref [kj ⟨lc,la,(i:Int),lf⟩] hw (vs:=[.bool false]) ag rfl rfl (.pu (.base _))
def jz.wH (s:jz) (k a:Int):jz:={ s with turns:=s.turns++[k],jV:=s.jV++[a] }
theorem ahX {s:jz} {k a:Int}:(((RH s).set (ix .tn) (jD (s.turns++[k]))).set (ix .at') (jD (s.jV++[a]))).set (ix .rn) (lE (s.wH k a))=RH (s.wH k a):=by
 refine vz (s:=s) (s':=s.wH k a) [(.tn,_),(.at',_),(.rn,_)] (fun p hp=>?_) fun a ha=>?_
 ·simp only [dC,dB,jd] at hp;rcases hp with rfl|rfl|rfl
  ·exact ⟨D1,rfl⟩
  ·exact ⟨zt,rfl⟩
  ·exact ⟨mc,rfl⟩
 ·simp only [ef,ez,dC,dB,jd,jl] at ha;cases a<;>first|exact absurd rfl ha.1|exact absurd rfl ha.2.1|exact absurd rfl ha.2.2|rfl
theorem WF.wH {s:jz} (hw:WF s) {k a:Int} (h:s.turns.length<1000000):WF (s.wH k a):=by
 obtain ⟨a1,a2,a3,a4,a5,a6,a7⟩:=hw.sz;exact ⟨hw.nT,hw.nF,hw.lv,a1,a2,a3,a4,by show (s.turns++[k]).length≤_;rw [dK,dO];omega,by show (s.jV++[a]).length=(s.turns++[k]).length;rw [dK,dK,a6];rfl,a7⟩
theorem Fo.wH {s:jz} (h:Fo s) {k a:Int} (hb:s.turns.length<1000000):Fo (s.wH k a):=⟨h.wf.wH hb,h.tk⟩
theorem VS (r0:jz) (k:Nat) (now:Int):∀(ks:List Int) (r:jz),(A4 r0 k now ks r).after.length≤r.after.length+ks.length:=by
 intro ks
 induction ks with
 | nil=>intro r;exact dD _
 | cons c ks ih =>
   intro r;unfold A4 at ih ⊢;rw [fD];split
   ·have:=ih (r.nw (2000+c,now));have h2:(r.nw (2000+c,now)).after.length=r.after.length+1:=by simp [jz.nw]
    rw [ff];omega
   ·have:=ih r;rw [ff];omega
theorem Fo.NT {s:jz} (h:Fo s) {l:List (Int×Int)} (hb:l.length≤100000000000):Fo { s with after:=l }:=by
 obtain ⟨a1,a2,a3,a4,a5,a6,a7⟩:=h.wf.sz;exact ⟨⟨h.wf.nT,h.wf.nF,h.wf.lv,a1,a2,a3,a4,a5,a6,hb⟩,h.tk⟩
theorem PA {f:Nat} {r:jz} (h:Fo r) {k m i:Nat} {t:km} {l:lM} {st:kG} (hT:Dh r k t m l i st) (h1:t.state=1) (pf:k<f) (nN:r.turns.length<900000) (p9:r.after.length≤900000000) (Q0:t.turns.length≤900000)
 (mr:∀(r':jz) (c:Int),WF r'→r'.tasks=r.tasks→r'.jY=r.jY→jS Tryd.prog 70 [jI,.int k,.int c] (RH r') (.bool (AE r k c)) (RH r'))
 {d:Bool×jz} (hd:d=mX (lh f) (ua r k) k l st (Dn r l.fr)) (Du:jS Tryd.prog 72 [jI,.int k] (RH (ua r k)) (.bool d.1) (RH d.2)) (kb:Fo d.2) (mo:k<d.2.tasks.length) (um:d.2.after.length+1001*f≤1000000000) (A5:r.turns.length<d.2.jV.length):jS Tryd.prog 50 [jI,.int k] (RH r) (.ky []) (RH (vC (lh f) r k)):=by
 have xN:Hid (vC (lh f) r k=if d.1=false then sJ (lh f) (if st.op=11 then d.2 else d.2.uA r.turns.length (-1)) k true else yE st.op l.jM (decide (l.step=(l.code.steps.length:Int)-1)) k d.2):=⟨by
  have h1:l9 (jJ r k) ((jJ r k).jC-1)=l:=by rw [oO hT.ht,hT.hm,eM];exact zh hT.hl
  have h2:Dr l=st:=by unfold Dr;rw [hT.hi,dF,dI,hT.jP];rfl
  unfold vC uv;rw [h1,h2,← hd]⟩
 have Lf:Hid (ua r k=(({ A4 r k r.turns.length t.kids (yo r t r.turns.length) with turns:=r.turns++[(k:Int)],jV:=r.jV++[l.jM] }:jz).jF k { t with turns:=t.turns++[(r.turns.length:Int)],has:=-1 })):=⟨by
  have h1:l9 (jJ r k) ((jJ r k).jC-1)=l:=by rw [oO hT.ht,hT.hm,eM];exact zh hT.hl
  unfold ua;rw [h1,oO hT.ht]⟩
 have Q0:=Hid.mk Q0;have auT:=Hid.mk kb;have auU:=Hid.mk mo;have X3:=Hid.mk um;have auV:=Hid.mk A5;have X4:=Hid.mk Du;clear hd kb mo um A5 Du;have hw:=h.wf;have Q1:=HE hw hT;obtain ⟨ht,hm,hl,hi,jP⟩:=hT;obtain ⟨lc,la,ls,lf⟩:=l;simp only at hi jP xN Lf;subst hi;obtain ⟨g1,g2,g3,g4,g5⟩:=hw.k ht;obtain ⟨e1,e2,e3,e4,e5⟩:=hw.oD ht hl;simp only at e1 e2 e5;have qC:m<t.jC:=ae;have mV:=(hw.lv t (dx ht)).2.1;have nq:i<lc.steps.length:=(dt jP).1;have pG:(lc.steps.map ki)[i]?=some (ki st):=aB;have pS:IntKind.i64.wrap ((t.jC:Int)-1)=m:=ax;have rh:=Hid.mk hm;clear hm;have X5:=Hid.mk mr;clear mr;obtain ⟨op,v,w,nn,tk,vs⟩:=st;simp only at Q1 xN;refine jS.i2 [(0,jI),(1,.int k)] 2 212 NN Tryd.func50 (kv r) ?_;refine jx ?_;refine vP Q1 hw hw ?_ (hD:=.pu (.ky ah));refine jx ?_;refine qK (k:=21) [none,none,none,none,none,none,none,none,none,none,none,none,none,none,none,none,none,none,none,none,some 0] (fun c=>match c with
  | 0=>RH r++[j7 ⟨op,v,w,nn,tk,vs⟩]
  | _=>RH r++[j7 ⟨op,v,w,nn,tk,vs⟩,kS]) 1 follows ?_
 repeat (first|refine gS ?_|refine gT ?_|refine gU ?_|refine gV ?_)
 refine ko.p1 (v:=.ptr (NN+1) 1 0 0) rfl rfl (fun kB h=>?_) ?_
 ·have h1:=wD (P:=Tryd.prog) (ρ:=kB) (H:=RH r++[j7 ⟨op,v,w,nn,tk,vs⟩]) (el:=112) DV rfl;have e:(RH r++[j7 ⟨op,v,w,nn,tk,vs⟩]).length=NN+1:=cV;rw [e,eA] at h1;exact h1
 refine ko.nil ?_;show jB _ _ _ _ _ ⟨_,RH r++[j7 ⟨op,v,w,nn,tk,vs⟩,kS]⟩;refine jB.p2 (qc (T:=[j7 ⟨op,v,w,nn,tk,vs⟩,kS]) (q:=1) (l:=⟨lc,la,i,lf⟩) aa aa rfl) ?_;show jB _ _ _ _ _ ⟨_,RH r++[j7 ⟨op,v,w,nn,tk,vs⟩,kj ⟨lc,la,i,lf⟩]⟩;refine jx ?_;have SI:IntKind.i64.wrap ((lc.steps.length:Int)-1)=(lc.steps.length:Int)-1:=nP ae ae;obtain ⟨T,hT⟩:∃T,Hid (T=[j7 ⟨op,v,w,nn,tk,vs⟩,kj ⟨lc,la,(i:Int),lf⟩]):=⟨_,⟨rfl⟩⟩
 obtain ⟨jA,X6⟩:∃jA,Hid (jA=decide ((i:Int)=(lc.steps.length:Int)-1)):=⟨_,⟨rfl⟩⟩
 refine jG.join ⟨[(0,jI),(1,.int k),(5,.int la),(7,.int op),(8,.bool jA)],RH r++T⟩ ?_ ?_
 ·rw [X6.out,hT.out];refine mi (k:=17) follows (hr:=?_);refine jx ?_;exact .wf
 clear SI e1 e2 e3 pG;have rW:=W0 (H:=RH r++T) (k:=k) (l:=t.turns) (by rw [mZ (kv r) g3,nj _ _ g3];simp only [blk,ht]);simp +decide only [go_sem] at rW;refine jx ?_;obtain ⟨r1,yM⟩:∃r1,Hid (r1=yo r t r.turns.length):=⟨_,⟨rfl⟩⟩
 have pH:r1.tasks=r.tasks∧r1.jY=r.jY∧r1.turns=r.turns∧r1.jV=r.jV∧r1.after.length≤r.after.length+1∧Fo r1:=by
  rw [yM.out];unfold yo;split
  ·exact ⟨rfl,rfl,rfl,rfl,by simp [jz.nw],h.nw ae⟩
  ·exact ⟨rfl,rfl,rfl,rfl,ae,h⟩
 refine jG.join ⟨[(0,jI),(1,.int k),(5,.int la),(7,.int op),(8,.bool jA),(9,.int r.turns.length)],RH r1++T⟩ ?_ ?_
 ·by_cases hn:t.turns.length=0
  ·have kb:decide ((t.turns.length:Int)>0)=false:=je ae;refine jK ?_ kb rfl;refine jx ?_;have e:r1=r:=by
    rw [yM.out];unfold yo;rw [dQ hn];rfl
   rw [e];exact .wf
  ·obtain ⟨q,hq⟩:∃q,t.turns.length=q+1:=⟨t.turns.length-1,ae⟩
   have kb:decide ((t.turns.length:Int)>0)=true:=jf ae;obtain ⟨x,hx⟩:∃x,t.turns[q]?=some x:=⟨_,dy ae⟩
   have hxi:(t.turns.map AV.int)[q]?=some (.int x):=aZ;have re:=(hw.lv t (dx ht)).2.2.2.1;have oh:IntKind.i64.wrap ((t.turns.length:Int)-1)=q:=by rw [hq,nP ae ae];omega
   have Gb:r1=r.nw (x,r.turns.length):=by
    rw [yM.out];unfold yo;rw [List.getLast?_eq_getElem?,hq,eM,hx]
   have xL:=Hv hw x r.turns.length ae;rw [← Gb] at xL;have kq:=pH.2.2.2.2.2.wf;have aqC:=Hid.mk Gb;have C4:=Hid.mk hq;clear Gb hq;refine j8 ?_ kb rfl;refine jx ?_;refine cF xL hw kq ?_;refine jx ?_;exact .wf
 clear g1 g2 g3 g4 g5 rW;obtain ⟨b1,b2,b3,b4,b5,oK⟩:=pH;have Ql:=Hid.mk oK;have g':=Hid.mk (h.tk k t ht);have hk9:=(hw.lv t (dx ht)).2.2.1;clear oK h hw Q1;have og:∀(ks:List Int),ks.length≤1000→∃af,af.length≤900001001∧A4 r k r.turns.length ks r1={ r1 with after:=af }:=fun ks xK=>by
  obtain ⟨af,e⟩:=My r k r.turns.length ks r1;have:=VS r k r.turns.length ks r1;rw [e] at this;exact ⟨af,by have:af.length≤r1.after.length+ks.length:=this;omega,e⟩
 have auW:=Hid.mk og;have E4:=Hid.mk b2;have E5:=Hid.mk b1;clear og b1 b2;refine jx ?_;refine jG.loop (J:=fun x:Nat×jz=>x.1≤t.kids.length∧x.2=A4 r k r.turns.length (t.kids.take x.1) r1) (fun x=>⟨[(0,jI),(1,.int k),(5,.int la),(7,.int op),(8,.bool jA),(9,.int r.turns.length),(11,.int x.1)],RH x.2++T⟩) (fun x=>t.kids.length-x.1) (0,r1) ⟨dL _,rfl⟩ .wf ?_;rintro ⟨i',ri⟩ ⟨hi,NU⟩;simp only at hi NU ⊢;obtain ⟨af,Ij,Ek⟩:=auW.out (t.kids.take i') dj;have Q2:ri={ r1 with after:=af }:=by rw [NU,Ek]
 have tS:Fo ri:=by rw [Q2];exact Ql.out.NT ae
 have pg:ri.tasks=r.tasks∧ri.jY=r.jY∧ri.turns=r.turns∧ri.jV=r.jV∧ri.after.length≤900001001:=by rw [Q2];exact ⟨E5.out,E4.out,b3,b4,Ij⟩
 have nh:ri.tasks[k]?=some t:=by rw [pg.1];exact ht
 have nr:=tS.wf;obtain ⟨g1,g2,g3,g4,g5⟩:=nr.k nh;have oY:=D7 (H:=RH ri++T) (k:=k) (l:=t.kids) (by rw [mZ (kv ri) g2,nj _ _ g2];simp only [blk,nh]);simp +decide only [go_sem] at oY;have MZ:=Hid.mk NU;have AB:=Hid.mk pg;have Gc:=Hid.mk tS;have Q3:=Hid.mk (And.intro b3 b4);clear NU Ij Ek Q2 pg tS b3 b4;refine jx ?_;by_cases hd:i'<t.kids.length
 ·have kb:decide ((i':Int)<(t.kids.length:Int))=true:=jf ae;obtain ⟨c,hc⟩:∃c,t.kids[i']?=some c:=⟨_,dy hd⟩
  have vQ:(t.kids.map AV.int)[i']?=some (.int c):=cW;have wA:jS Tryd.prog 44 [jI,.int c] (RH ri) (.bool (sX r c)) (RH ri):=by
   obtain ⟨j,rfl,h2,h3⟩:=g'.out.kids c (dx hc);have:=yv nr (tH (s:=ri) (i:=j) (by rw [AB.out.1];exact h3));have e:jJ ri j=jJ r j:=by unfold jJ;rw [AB.out.1]
   unfold sX;rw [dF,← e];exact this
  have iwt:=X5.out ri c nr AB.out.1 AB.out.2.1;have xL:=Hv nr (2000+c) r.turns.length (by have:=AB.out.2.2.2.2;omega);have hwb:WF (ri.nw (2000+c,(r.turns.length:Int))):=nr.nw (by have:=AB.out.2.2.2.2;omega);obtain ⟨j,hj,h2,h3⟩:=g'.out.kids c (dx hc);have sR:=nr.nT;rw [AB.out.1] at sR;have Qn:=HN c ae ae;have tP:Hid (A4 r k r.turns.length (t.kids.take (i'+1)) r1=if (sX r c&&AE r k c)=true then ri.nw (2000+c,(r.turns.length:Int)) else ri):=⟨by
   rw [fH,hc];have e:A4 r k r.turns.length (t.kids.take i') r1=ri:=MZ.out.symm;unfold A4 at e ⊢;rw [ik,e];rfl⟩
  have mC:=Hid.mk hj;clear hj;obtain ⟨o,ho⟩:∃o,Hid (o=sX r c):=⟨_,⟨rfl⟩⟩
  obtain ⟨wb,X7⟩:∃wb,Hid (wb=AE r k c):=⟨_,⟨rfl⟩⟩
  rw [← ho.out,← X7.out] at tP;rw [← ho.out] at wA;rw [← X7.out] at iwt;refine j8 ?_ rfl aa;refine jx ?_;refine cF wA nr nr ?_;refine jx ?_;cases o with
  | false =>
    rw [iZ ah] at tP;refine jx ?_;refine wu (.bool false) ?_;refine jx ?_;refine jK ?_ rfl rfl;refine jx ?_;rw [l6 ae];exact ⟨(i'+1,ri),⟨bp,tP.out.symm⟩,bp,.wf⟩
  | true =>
    refine jx ?_;refine IG iwt nr nr ?_;refine jx ?_;cases wb with
    | false =>
      rw [iZ ah] at tP;refine jK ?_ rfl rfl;refine jx ?_;rw [l6 ae];exact ⟨(i'+1,ri),⟨bp,tP.out.symm⟩,bp,.wf⟩
    | true =>
      rw [ja (show (true&&true)=true from rfl)] at tP;refine j8 ?_ rfl rfl;refine jx ?_;refine oQ Qn ?_;refine jx ?_;refine cF xL nr hwb ?_;refine jx ?_;rw [l6 ae];exact ⟨(i'+1,_),⟨bp,tP.out.symm⟩,bp,.wf⟩
 have kb:decide ((i':Int)<(t.kids.length:Int))=false:=je ae;obtain rfl:i'=t.kids.length:=ae;refine jK ?_ rfl aa;rw [fT] at MZ;clear kb hd hi oY;refine jx ?_;obtain ⟨G0,G7⟩:∃G0,G0=RH ri++T:=⟨_,rfl⟩
 obtain ⟨G1,G8⟩:∃G1,G1=G0.set (ix .tn) (jD (ri.turns++[(k:Int)])):=⟨_,rfl⟩
 obtain ⟨G2,IU⟩:∃G2,G2=G1.set (ix .at') (jD (ri.jV++[la])):=⟨_,rfl⟩
 obtain ⟨G3,IV⟩:∃G3,G3=G2.set (ix .rn) (vO ri.p ri.tasks.length ri.kr.length ri.ml.length ri.lines.length ri.jT.length (ri.turns.length+1) ri.jV.length ri.after.length ri.at'):=⟨_,rfl⟩
 have b0:G0[ix .rn]?=some (lE ri):=by rw [G7,mZ (kv ri) mc];exact nj ri .rn mc
 have b0n:G0[ix .tn]?=some (jD ri.turns):=by rw [G7,mZ (kv ri) D1];exact nj ri .tn D1
 have b0a:G0[ix .at']?=some (jD ri.jV):=by rw [G7,mZ (kv ri) zt];exact nj ri .at' zt
 have a1:G1[ix .rn]?=some (lE ri):=by rw [G8,dS az];exact b0
 have a1a:G1[ix .at']?=some (jD ri.jV):=by rw [G8,dS az];exact b0a
 have a2:G2[ix .rn]?=some (lE ri):=by rw [IU,dS az];exact a1
 have a3:G3[ix .rn]?=some (vO ri.p ri.tasks.length ri.kr.length ri.ml.length ri.lines.length ri.jT.length (ri.turns.length+1) ri.jV.length ri.after.length ri.at'):=by
  rw [IV,ee];exact (dt a2).1
 have sQ:G3.set (ix .rn) (vO ri.p ri.tasks.length ri.kr.length ri.ml.length ri.lines.length ri.jT.length (ri.turns.length+1) (ri.jV.length+1) ri.after.length ri.at')=RH (ri.wH k la)++T:=by
  have hr:lE (ri.wH k la)=vO ri.p ri.tasks.length ri.kr.length ri.ml.length ri.lines.length ri.jT.length (ri.turns.length+1) (ri.jV.length+1) ri.after.length ri.at':=by
   simp only [lE,jz.wH,dK,dO]
  rw [IV,IU,G8,List.set_set,← hr,G7,o7 (kv ri) D1,o7 (qG.trans (kv ri)) zt,o7 (qG.trans (qG.trans (kv ri))) mc,ahX]
 have aDs:ri.turns.length<900000:=by rw [AB.out.2.2.1];exact nN
 have xH:=Hid.mk nr.sz.2.2.2.2.2.1;have X8:=Hid.mk G8;have X9:=Hid.mk IU;have Ya:=Hid.mk IV;have auX:=Hid.mk G7;rw [← G7];clear G7 G8 IU IV;refine IB (k:=19) [none,none,none,none,none,none,none,none,some 0,none,none,none,none,none,none,some 1,none,none,some 2] [[0,1,2,3,4,5,6,7],[0,1,2,3,4,5,6,7],[0,1,2,3,4,5,6,7],[0,1,2,3,4,5,6,7],[0,1,2,3,4,5,6,7],[0,2],[0,1,2,3,4,5,6,7],[0,2,4,6],[0],[0,1,2,3,4,5,6,7],[0,1,2,3,4,5,6,7],[0,1,2,3,4,5,6,7],[0,1],[0,1,2,3,4,5,6,7],[0,1,4,5],[1],[0,1,2,3,4,5,6,7],[0,1,2,3],[3]] (fun S=>match S with
  | 0=>G0
  | 1=>G1
  | 2=>G0
  | 3=>G2
  | _=>G3) 3 follows ?_
 repeat refine gM ?_
 refine nA.q1 rfl rfl (fun S _=>CQ rfl) ?_;refine nA.p1 rfl rfl (fun S hS kB h=>by
  rw [dz] at hS;subst hS;have h1:=Ao (H:=G0) (ρ:=kB) (b:=ix .tn) (l:=ri.turns) (v:=k) ((h (.tmp 129) ai).trans rfl) ((h (.tmp 131) ai).trans rfl) b0n ae;rw [← X8.out] at h1;exact h1) ?_
 repeat refine gM ?_
 refine nA.q1 rfl rfl (fun S _=>CQ rfl) ?_;refine nA.p1 rfl rfl (fun S hS kB h=>by
  rw [dz] at hS;subst hS;have h1:=Ao (H:=G1) (ρ:=kB) (b:=ix .at') (l:=ri.jV) (v:=la) ((h (.tmp 136) ai).trans rfl) ((h (.tmp 138) ai).trans rfl) a1a (by have:=xH.out;omega);rw [← X9.out] at h1;exact h1) ?_
 repeat refine gM ?_
 refine nA.p1 (v:=.bad) rfl rfl (fun S hS kB h=>by
  rw [dz] at hS;subst hS;have h1:=qP (P:=Tryd.prog) (ρ:=kB) (t:=25) (H:=G2) (b:=ix .rn) (tot:=1) (i:=0) (off:=8) (blk:=lE ri) (e':=.agg [.jA (ri.p.kT.map kx),.jA (ri.p.methods.map kx),.int ri.p.mb,.own (ix .tk) ri.tasks.length 0 ri.tasks.length,.own (ix .ob) ri.kr.length 0 ri.kr.length,.own (ix .ck) ri.ml.length 0 ri.ml.length,.own (ix .ln) ri.lines.length 0 ri.lines.length,.own (ix .ac) ri.jT.length 0 ri.jT.length,.own (ix .tn) (ri.turns.length+1) 0 (ri.turns.length+1),.own (ix .at') ri.jV.length 0 ri.jV.length,.own (ix .en) ri.after.length 0 ri.after.length,.int ri.at']) ((h (.tmp 141) au).trans rfl) ((h (.tmp 132) au).trans rfl) a2 rfl rfl Ej rfl rfl;have h2:G2.set (ix .rn) { lE ri with es:=(lE ri).es.set 0 (.agg [.jA (ri.p.kT.map kx),.jA (ri.p.methods.map kx),.int ri.p.mb,.own (ix .tk) ri.tasks.length 0 ri.tasks.length,.own (ix .ob) ri.kr.length 0 ri.kr.length,.own (ix .ck) ri.ml.length 0 ri.ml.length,.own (ix .ln) ri.lines.length 0 ri.lines.length,.own (ix .ac) ri.jT.length 0 ri.jT.length,.own (ix .tn) (ri.turns.length+1) 0 (ri.turns.length+1),.own (ix .at') ri.jV.length 0 ri.jV.length,.own (ix .en) ri.after.length 0 ri.after.length,.int ri.at']) }=G3:=Ya.out.symm;rw [h2] at h1;exact h1) ?_
 refine nA.nil ?_;show jB _ _ _ _ _ ⟨_,G3⟩;refine jx ?_;show jG _ _ _ _ ⟨_,G3.set (ix .rn) (vO ri.p ri.tasks.length ri.kr.length ri.ml.length ri.lines.length ri.jT.length (ri.turns.length+1) (ri.jV.length+1) ri.after.length ri.at')⟩;rw [sQ];refine jG.weaken (s2:=⟨[(0,jI),(1,.int k),(5,.int la),(7,.int op),(8,.bool jA),(9,.int r.turns.length)],RH (ri.wH k la)++T⟩) .wf ?_;clear sQ a1 a1a a2 a3 b0 b0n b0a X8 X9 Ya auX G0 G1 G2 G3;obtain ⟨r3,yW⟩:∃r3,Hid (r3=ri.wH k la):=⟨_,⟨rfl⟩⟩
 rw [← yW.out];have sv:Fo r3:=by rw [yW.out];exact Gc.out.wH ae
 have rl:r3.tasks[k]?=some t:=by rw [yW.out];exact nh
 have mD:=sv.wf;have hm3:=mD.lv t (dx rl);obtain ⟨f0,hf0,_⟩:=hm3.2.2.2.2 _ (dx hl);have Yb:lf<r3.jY.length:=(dt hf0).1;have lI:ix (.kz lf)<NN:=mq (tY mD (a:=.kz lf) Yb);have oM:ix (.lg lf)<NN:=mq (tY mD (a:=.lg lf) Yb);clear hf0 hm3 g1 g2 g3 g4 g5 nr nh;obtain ⟨g1,g2,g3,g4,g5⟩:=mD.k rl;have vu:∀q,NN≤q→q=NN+T.length→∀b∈T,kI (Nb q (ix (.kg k))) b:=fun q hq _ b hb=>by
  rw [hT.out] at hb;simp only [dC,dB,jd] at hb;rcases hb with rfl|rfl
  ·exact D0
  ·exact .one (HD ⟨fun e=>(by have:=sg e;cases this),Nat.ne_of_lt (eZ lI hq)⟩ ⟨fun e=>(by have:=sg e;cases this),Nat.ne_of_lt (eZ oM hq)⟩)
 have Yc:=Hid.mk vu;clear vu;have re:=(mD.lv t (dx rl)).2.2.2.1;obtain ⟨L3,qh⟩:∃L3,Hid (L3=(RH r3).set (ix (.kg k)) (jD (t.turns++[(r.turns.length:Int)]))):=⟨_,⟨rfl⟩⟩
 have EP:L3.length=NN:=by rw [qh.out,qG,kv]
 have Sa:L3[ix .rn]?=some (lE r3):=by rw [qh.out,qQ (kv r3) g3,iZ ah];exact nj r3 .rn mc
 have Nz:L3[ix .tk]?=some (qB r3.tasks):=by rw [qh.out,qQ (kv r3) g3,iZ ah];exact nj r3 .tk sj
 have aT:(L3++T)[ix .rn]?=some (lE r3):=by rw [mZ EP mc];exact Sa
 have bT:(L3++T)[ix .tk]?=some (qB r3.tasks):=by rw [mZ EP sj];exact Nz
 refine jx ?_;refine qK (k:=16) [none,none,none,none,none,none,none,none,none,none,none,none,none,none,none,some 0] (fun q=>match q with
  | 0=>RH r3++T
  | _=>L3++T) 1 follows ?_
 repeat (first|refine gS ?_|refine gT ?_|refine gU ?_|refine gV ?_)
 refine ko.q1 (v:=.jA [.int r.turns.length]) rfl rfl (fun _ _=>CQ aa) ?_;refine ko.p1 (v:=.own (ix (.kg k)) (t.turns.length+1) 0 (t.turns.length+1)) rfl rfl (fun kB pb=>by
  have hx:kB (.tmp 156)=CP k t.turns:=(pb (.tmp 156) ai).trans aa;have h:=Vz (s:=r3) (a:=.kg k) (l:=t.turns) (x:=r.turns.length) (T:=T) (ρ:=kB) (y:=.tmp 156) (z:=.tmp 158) g3 (by rw [nj r3 _ g3];simp only [blk];rw [rl]) ae (fun e q hq=>Wq mD (amW rl e) hq) Yc.out (fun e=>by rw [hx,e];rfl) (fun e=>by rw [hx];cases hk:t.turns with|nil=>exact absurd hk e|cons a l=>rfl) ((pb (.tmp 158) ai).trans aa);rw [← qh.out] at h;exact h) ?_
 refine ko.nil ?_;show jB _ _ _ _ _ ⟨_,L3++T⟩;refine jx ?_;have zQ:∀(ρ:Operand→AV) (x y:Operand),ρ x=.ptr (ix .tk) r3.tasks.length k 10→ρ y=.own (ix (.kg k)) (t.turns.length+1) 0 (t.turns.length+1)→PL Tryd.prog (L3++T) ρ (.store 25 x y) .bad (RH (r3.jF k { t with turns:=t.turns++[(r.turns.length:Int)] })++T):=fun ρ x y hx hy=>by
  have h:=qP (P:=Tryd.prog) (H:=L3++T) (t:=25) (blk:=qB r3.tasks) (e':=oI k { t with turns:=t.turns++[(r.turns.length:Int)] }) hx hy bT (FG _) (DZ rl) Ej rfl (by simp only [oI,ahG];rfl);rw [o7 EP sj] at h;rw [← amY rl g3,← qh.out];exact h
 have F8:=Hid.mk zQ;clear zQ;refine jB.p2 (F8.out _ _ _ rfl rfl) ?_;obtain ⟨r4,Lg⟩:∃r4,Hid (r4=r3.jF k { t with turns:=t.turns++[(r.turns.length:Int)] }):=⟨_,⟨rfl⟩⟩
 rw [← Lg.out];have qD:WF r4:=by
  have gq:=mD.lv t (dx rl);have gf:=sv.tk k t rl;rw [Lg.out];exact (sv.jF (t':={ t with turns:=t.turns++[(r.turns.length:Int)] }) ⟨gf.par,gf.kids,gf.pos,gf.pF,gf.GN⟩ gq.2.1 gq.2.2.1 (by show (t.turns++[_]).length≤_;rw [dK,dO];have:=Q0.out;omega) gq.2.2.2.2).wf
 have tU:r4.tasks[k]?=some { t with turns:=t.turns++[(r.turns.length:Int)] }:=by rw [Lg.out];exact lq rl
 obtain ⟨r5,xa⟩:∃r5,Hid (r5=ua r k):=⟨_,⟨rfl⟩⟩
 have e5:Hid (r4.jF k { t with turns:=t.turns++[(r.turns.length:Int)],has:=-1 }=r5):=⟨by
  rw [xa.out,Lf.out,Lg.out,u7,yW.out,MZ.out];have e1:=Q3.out.1;have e2:=Q3.out.2;obtain ⟨af,e3⟩:=My r k r.turns.length t.kids r1;rw [yM.out] at e3 e1 e2 ⊢;rw [e3];unfold jz.wH;simp only;rw [e1,e2]⟩
 clear F8 qh EP Sa Nz aT bT g1 g2 g3 g4 g5 Yc mD sv rl yW Lg re;obtain ⟨g1,g2,g3,g4,g5⟩:=qD.k tU;refine jx ?_;refine jB.p2 (JQ (t':={ t with turns:=t.turns++[(r.turns.length:Int)],has:=-1 }) (v:=.int (-1)) tU aa aa ny rfl rfl rfl rfl rfl) ?_;rw [e5.out];have Dm:WF r5:=by rw [← e5.out];exact qD.jF tU rfl rfl rfl (dD _)
 obtain ⟨b,r6⟩:=d;have Du:=X4.out;rw [← xa.out] at Du;have M0:=auT.out;have hk6:=auU.out;have SJ:=auV.out;simp only at Du M0 hk6 SJ xN;have yq:=M0.wf;have xO:=tH hk6;obtain ⟨R,hR⟩:∃R,Hid (R=vC (lh f) r k):=⟨_,⟨rfl⟩⟩
 rw [← hR.out] at xN ⊢;have hR6:=Hid.mk M0;clear M0 g1 g2 g3 g4 g5 qD tU e5 xa X4;refine jx ?_;refine cF Du Dm yq ?_;clear Du Dm Lf MZ hR yM Q3 AB Gc;cases b with
 | false =>
   rw [ja rfl] at xN;refine jx ?_;refine j8 ?_ rfl rfl;refine jx ?_;obtain ⟨r7,Dv⟩:∃r7,Hid (r7=if op=11 then r6 else r6.uA r.turns.length (-1)):=⟨_,⟨rfl⟩⟩
   have B3:r7.tasks=r6.tasks∧r7.after=r6.after∧Fo r7:=by
    rw [Dv.out];split
    ·exact ⟨rfl,rfl,hR6.out⟩
    ·exact ⟨rfl,rfl,hR6.out.uA⟩
   have Dw:r7.tasks[k]?=some (jJ r6 k):=by rw [B3.1];exact xO
   have uW:=DR (Bj f) (O4 f) B3.2.2 Dw pf true (by rw [B3.2.1];exact X3.out);have lK:=(DL (Bj f) B3.2.2 (vb Dw) true (by rw [B3.2.1];exact X3.out)).fo;have hT7:Hid (R=sJ (lh f) r7 k true):=⟨by rw [xN.out,Dv.out]⟩
   rw [← hT7.out] at uW lK;have IW:=B3.2.2.wf;have qE:=lK.wf;clear xN B3 Dw lK hT7;refine jG.join ⟨[(0,jI),(1,.int k)],RH r7++T⟩ ?_ ?_
   ·by_cases ho:op=11
    ·have NV:(op !=11)=false:=by simp [ho]
     rw [ja ho] at Dv;clear ho;refine jK ?_ aa rfl;refine jx ?_;rw [Dv.out];exact .wf
    ·have NV:(op !=11)=true:=by simp [ho]
     rw [iZ ho] at Dv;clear ho;refine j8 ?_ aa rfl;clear uW IW;refine jx ?_;refine jB.q2 (w8 (l:=r6.jV) (q:=r.turns.length) aa aa aa SJ) ?_;refine jx ?_;refine jB.p2 (Wx (o:=r.turns.length) (v:=-1) aa aa SJ) ?_;rw [← Dv.out];refine jx ?_;exact .wf
   refine jx ?_;refine cF uW IW qE ?_;refine jx ?_;exact Rf.kY.ref T qE (vs:=[]) ag rfl rfl (.pu (.ky ah))
 | true =>
   rw [iZ ah] at xN;rw [← X6.out] at xN;have wA:=yv yq xO;refine jx ?_;refine jK ?_ rfl rfl;refine jx ?_;generalize hB:(bif bif bif decide (la≥0) then op !=12 else false then op !=9 else false then !jA else false)=B;have NW:B=true↔(0≤la∧op≠12∧op≠9∧jA=false):=by
    rw [← hB];by_cases c1:0≤la<;>by_cases c2:op=12<;>by_cases c3:op=9<;>cases jA<;>simp [c1,c2,c3]
   have NW:=Hid.mk NW;clear hB;cases B with
   | false =>
     have hF:R=r6:=by
      rw [xN.out];unfold yE;refine iZ fun g=>?_;have:=NW.out.2 ⟨g.1,g.2.1,g.2.2.1,g.2.2.2.1⟩;cases this
     rw [hF];clear xN hF;refine wu (.bool false) ?_;refine jx ?_;refine jK ?_ rfl rfl;refine jx ?_;exact Rf.kY.ref T yq (vs:=[]) ag rfl rfl (.pu (.ky ah))
   | true =>
     obtain ⟨c1,c2,c3,c4⟩:=NW.out.1 rfl;refine IG wA yq yq ?_;refine jx ?_;by_cases ho:2<(jJ r6 k).state
     ·have NV:decide (2<(jJ r6 k).state)=true:=jf ho;have hF:R=r6:=by
       rw [xN.out];unfold yE;exact iZ fun g=>g.2.2.2.2 ho
      rw [hF];clear xN hF ho c1 c2 c3 c4;refine jK ?_ aa rfl;refine jx ?_;exact Rf.kY.ref T yq (vs:=[]) ag rfl rfl (.pu (.ky ah))
     ·have NV:decide (2<(jJ r6 k).state)=false:=je ho;have hF:R=r6.jF k { jJ r6 k with has:=la }:=by
       rw [xN.out];unfold yE;exact ja ⟨c1,c2,c3,c4,ho⟩
      rw [hF];obtain ⟨u,hu⟩:∃u,u=jJ r6 k:=⟨_,rfl⟩
      rw [← hu] at xO NV ⊢;clear xN hF ho c1 c2 c3 c4 hu wA;obtain ⟨g1,g2,g3,g4,g5⟩:=yq.k xO;refine j8 ?_ aa rfl;refine jx ?_;refine jB.p2 (JQ (t':={ u with has:=la }) (v:=.int la) xO aa aa ny rfl rfl rfl rfl rfl) ?_;refine jx ?_;exact Rf.kY.ref T (yq.jF xO rfl rfl rfl (dD _)) (vs:=[]) ag rfl rfl (.pu (.ky ah))
theorem akN {s:jz} (hw:WF s) {c:Cd} {vs:List Int} {a:Int} (nH:0≤c.vars) (lI:c.vars≤1000) (kV:(vs.length:Int)≤c.vars) (Zq:0<vs.length) (hM:s.jY.length<MM) (mh:c.steps.length≤1000) {T:List jy} {q:Nat} (hq:q=NN+T.length) {ρ:Operand→AV} {cl:Call} {fx:Operand} (h1:cl.callee=.value fx) (h2:ρ fx=.j9 63 []) (h3:cl.args.toList.map ρ++[]=[kx c,.int a,.own q vs.length 0 vs.length]) :
 PL Tryd.prog (RH s++T++[jD vs]) ρ (.call cl) (nD ⟨c,a,0,s.jY.length⟩) (RH (s.l8 (qj c vs))++T++[jD vs]):=by
 have lj:WF (s.l8 (qj c vs)):=hw.l8 hM;refine zg (afM hw nH lI kV Zq hM mh) (.Yd (kv s) (kv _) (rO hw) (rO lj)) h1 h2 (by
  rw [h3];exact ⟨(mR.pu (S:=(·<NN)) (Cp _)).mv fun b hb=>HZ hb,(mR.pu (S:=(·<NN)) (.base _)).mv fun b hb=>HZ hb,.own (by subst hq;exact Xb ae),trivial⟩) (Mx (x:=⟨c,a,0,s.jY.length⟩) (mq hM) (mq hM) fun b hb=>J3 hb)
theorem akO {s:jz} {T:List jy} {ρ:Operand→AV} {ty:TypeId} {x y:Operand} {k m off:Nat} {t:km} {l l':lM} {v:AV} (ht:s.tasks[k]?=some t) (hk:ix (.jH k)<NN) (hl:t.jH[m]?=some l) (hx:ρ x=.ptr (ix (.jH k)) t.jH.length m off) (hy:ρ y=v) (kA:lW Tryd.prog ty=some v.cells.length) (hc:ru v=true) (jP:BK (nD l) off v.cells=some (nD l')) :
 PL Tryd.prog (RH s++T) ρ (.store ty x y) .bad (RH (s.jF k { t with jH:=t.jH.set m l' })++T):=by
 have h:=qP (P:=Tryd.prog) (H:=RH s++T) (t:=ty) (blk:=tt t.jH) (i:=m) hx hy (by rw [mZ (kv s) hk,nj _ _ hk];simp only [blk];rw [ht]) ah (by rw [dE,hl];rfl) kA hc jP;rw [o7 (kv s) hk] at h;rw [← Ww ht hk];exact h
theorem ahY {l:List lM} {k:Nat} {x:lM}:(sw l k x).map nD=if k<l.length then (l.map nD).set k (nD x) else l.map nD++[nD x]:=by
 unfold sw;split
 ·rw [fJ]
 ·simp
theorem Pg {l:List lM} {k:Nat} {x:lM} (h:k≤l.length):(sw l k x).length=if k<l.length then l.length else k+1:=by
 unfold sw;split
 ·simp
 ·simp;omega
theorem akP {H:List jy} {k:Nat} {l:List lM} {m:Nat} (hm:m≤l.length) (hl:l.length≤900) (hb:H[ix (.jH k)]?=some (tt l)) {ρ:Operand→AV} {x y:Operand} {lv:lM} (hx:ρ x=.own (ix (.jH k)) l.length 0 m) (hy:ρ y=.jA [nD lv]) :
 PL Tryd.prog H ρ (.call { callee:=.builtin .append,args:=#[x,y],argTypes:=#[92,92] }) (.own (ix (.jH k)) (sw l m lv).length 0 (m+1)) (H.set (ix (.jH k)) (tt (sw l m lv))):=by
 have e:tt (sw l m lv)=⟨112,7,(sw l m lv).map nD⟩:=rfl;rw [e,ahY,Pg hm];by_cases kn:m<l.length
 ·rw [ja kn,ja kn];exact aeN (P:=Tryd.prog) (H:=H) (b:=ix (.jH k)) (tot:=l.length) (len:=m) (v:=nD lv) (blk:=tt l) hx hy rfl (HV lv) hb ah kn rfl gH Xc (hmt:=by show 112<pj;decide)
 ·have he:m=l.length:=ae;rw [iZ kn,iZ kn];rw [he] at hx ⊢;exact tX (P:=Tryd.prog) (H:=H) (b:=ix (.jH k)) (tot:=l.length) (es:=[nD lv]) (blk:=tt l) hx hy hb ah gH Xc rfl rfl ah (fun e he=>by rw [dz] at he;subst he;exact ⟨rfl,HV lv⟩) aj aj
theorem auY {H:List jy} {ρ:Operand→AV} {x:Operand} {l:lM} (hx:ρ x=nD l):QL Tryd.prog H ρ (.buildSlice 92 1 #[(0,x)]) (.jA [nD l]):=
 Al az gH MF ag az (by
  show zy 7 1 [(0,ρ x)]=true;rw [hx];exact (er _ _).mpr ⟨rfl,dU.2 fun p hp=>by
   rw [dz] at hp;subst hp;exact (er _ _).mpr ⟨rfl,HV l⟩⟩) (by show [ρ x]=_;rw [hx]) rfl
theorem anJ {s:jz} {k m:Nat} {t:km} {l:List lM} (ht:s.tasks[k]?=some t) (hk:ix (.jH k)<NN):((RH s).set (ix (.jH k)) (tt l)).set (ix .tk) ⟨94,11,(uI s.tasks).set k (oI k { t with jH:=l,jC:=m })⟩=RH (s.jF k { t with jH:=l,jC:=m }):=by
 refine vz (s:=s) (s':=s.jF k { t with jH:=l,jC:=m }) [(.jH k,_),(.tk,_)] (vF ⟨hk,bm⟩ ⟨sj,by rw [JC];rfl⟩) fun a ha=>?_;simp only [ef,ez,dC,dB,jd,jl] at ha;by_cases e3:a=.lU k
 ·subst e3;simp only [blk];rw [lq ht,ht]
 by_cases e4:a=.kg k
 ·subst e4;simp only [blk];rw [lq ht,ht]
 exact FC ha.2 ha.1 e3 e4
theorem U9 {L:List lM} {k:Nat} {x y:lM} (h:y∈sw L k x):y∈L∨y=x:=by
 unfold sw at h;split at h
 ·exact eu h
 ·rcases eg.1 h with h|h
  ·exact .inl h
  ·exact .inr cb
theorem VT {s:jz} (h:Fo s) {k:Nat} {t:km} {c:Cd} {a:Int} {gv:List Int} (ht:s.tasks[k]?=some t) (jP:t.state≠2) (kn:(l9 t (t.jC-1)).step<(l9 t (t.jC-1)).code.steps.length) (nH:0≤c.vars) (lI:c.vars≤1000) (kV:(gv.length:Int)≤c.vars) (hM:s.jY.length<MM) (mh:c.steps.length≤1000) (mV:t.jH.length≤900) :
 Fo (wj s k c a gv)∧(wj s k c a gv).tasks[k]?=some (Ie s k c a)∧(Ie s k c a).state=t.state:=by
 have h1:=Mh h ht jP kn;have h2:=h1.l8 (f:=qj c gv) hM;have ov:((s.jF k (pK t)).l8 (qj c gv)).tasks[k]?=some (pK t):=lq ht;have g:=h2.tk k _ ov;have gw:=h2.wf.lv _ (dx ov);have e:jJ s k=t:=oO ht;have lR:(pK t).jH.length=t.jH.length:=by unfold pK;simp
 have tN:=g.pos;have yO:(pK t).jC=t.jC:=rfl;have Ye:(sw (pK t).jH t.jC ⟨c,a,0,s.jY.length⟩).length=if t.jC<(pK t).jH.length then (pK t).jH.length else t.jC+1:=Pg ae
 unfold wj Ie;rw [e];refine ⟨h2.jF ⟨g.par,g.kids,⟨Nat.succ_pos _,?_⟩,fun l hl=>?_,fun e=>absurd e jP⟩ ?_ gw.2.2.1 gw.2.2.2.1 fun l hl=>?_,lq ov,rfl⟩
 ·show t.jC+1≤(sw _ _ _).length;rw [Ye];split<;>omega
 ·rcases U9 hl with hl|rfl
  ·exact g.pF l hl
  ·exact ⟨fy _,by show (0:Int)≤(c.steps.length:Int);omega⟩
 ·show (sw _ _ _).length≤_;rw [Ye];split<;>omega
 ·rcases U9 hl with hl|rfl
  ·exact gw.2.2.2.2 l hl
  ·exact ⟨qj c gv,FA,by show (gv++_).length=_;simp;omega,by show (List.replicate _ _).length=_;simp,lI,mh⟩
theorem arI {S:jz→Nat→jz} {f:Nat} {s:jz} {k m i:Nat} {t:km} {l:lM} {v w nn tk:Int} {q:Nat} {vs:List Int} (h:Dk S f s k m i t l ⟨9,v,w,nn,(q:Int),vs⟩) {fr:List Int×List Int} (kX:s.jY[l.fr]?=some fr) (lH:fr.1.length=l.code.vars.toNat) (kV:∀x∈vs,mW fr.1 x) (mf:vs.length≤1000000) (hb:mO fr.1 vs=true) {c:Cd} (hc:s.p.methods[q]?=some c) (nH:0≤c.vars) (lI:c.vars≤1000) (Ib:((lX fr.1 vs).length:Int)+1≤c.vars) (hM:s.jY.length<MM) (mh:c.steps.length≤1000) (Yf:t.jH.length≤900):jS Tryd.prog 72 [jI,.int k] (RH s) (.bool true) (RH (tJ S (wj s k c nn (lX fr.1 vs++[nn])) k)):=by
 obtain ⟨ow,mJ⟩:=h.next;have hD:=Hid.mk h;have hw:=h.fo.wf;obtain ⟨⟨ht,hm,hl,hi,jP⟩,nM,j6,pf,pZ,my,p9,kW⟩:=h;obtain ⟨lc,la,ls,lf⟩:=l;simp only at hi jP kW;subst hi;simp only at kX lH ⊢;have nN:=hw.sz.2.2.2.2.1;have wh:=Hid.mk kV;clear kV;obtain ⟨L,hL⟩:∃L,Hid (L=lX fr.1 vs):=⟨_,⟨rfl⟩⟩
 rw [← hL.out] at Ib ⊢;have uJ:l9 t (t.jC-1)=⟨lc,la,i,lf⟩:=by rw [hm,eM];exact zh hl
 have kn:(l9 t (t.jC-1)).step<(l9 t (t.jC-1)).code.steps.length:=by rw [uJ];have:=(dt jP).1;simp only;omega
 have yC:t.state≠2:=by rw [j6];decide
 obtain ⟨Ik,Dx,Lh⟩:=VT nM (c:=c) (a:=nn) (gv:=L++[nn]) ht yC kn nH lI (by rw [dK,dO];omega) hM mh Yf;have Q4:(wj s k c nn (L++[nn])).after=s.after:=rfl;have hbR:s.after.length+1001*f≤1000000000:=by rw [fZ] at p9;omega
 have il:=U5 pZ my Ik Dx (by rw [Lh];exact yC) pf (by rw [Q4];exact hbR);have IX:=O0 pZ Ik (k:=k) (vb Dx) (by rw [oO Dx,Lh];exact yC) (by rw [Q4];exact hbR);obtain ⟨R,hR⟩:∃R,Hid (R=tJ S (wj s k c nn (L++[nn])) k):=⟨_,⟨rfl⟩⟩
 rw [← hR.out] at il IX ⊢;have ui:=Mh nM ht yC kn;have zY:pK t={ t with jH:=t.jH.set m ⟨lc,la,(i:Int)+1,lf⟩ }:=by unfold pK;rw [uJ,hm,eM]
 obtain ⟨t1,Ga⟩:∃t1,t1=pK t:=⟨_,rfl⟩
 rw [← Ga] at ui zY;obtain ⟨s1,mK⟩:∃s1,s1=s.jF k t1:=⟨_,rfl⟩
 have lr:s1.tasks[k]?=some t1:=by rw [mK];exact lq ht
 rw [← mK] at ui;have kq:=ui.wf;have xD:s1.p=s.p∧s1.jY=s.jY:=by rw [mK];exact ⟨rfl,rfl⟩
 have St:s1.jY.length<MM:=by rw [xD.2];exact hM
 obtain ⟨s2,jW⟩:∃s2,s2=s1.l8 (qj c (L++[nn])):=⟨_,rfl⟩
 have lj:WF s2:=by rw [jW];exact kq.l8 St
 obtain ⟨lv,Q5⟩:∃lv:lM,lv=⟨c,nn,0,s1.jY.length⟩:=⟨_,rfl⟩
 have hCe:Hid (s2.jF k { t1 with jH:=sw t1.jH t1.jC lv,jC:=t1.jC+1 }=wj s k c nn (L++[nn])):=⟨by
  rw [jW,mK,Ga,Q5,xD.2];unfold wj Ie;rw [oO ht];rfl⟩
 have xF:Hid (s1.p.methods[q]?=some c):=⟨by rw [xD.1];exact hc⟩
 have t1l:Hid (t1.jH.length=t.jH.length∧t1.jC=t.jC):=⟨by rw [zY];exact ⟨ah,rfl⟩⟩
 have qA:t1.jC≤t1.jH.length:=by have:=(nM.tk k t ht).pos.2;have:=t1l.out;omega
 have Kr:∀(ρ:Operand→AV) (cl:Call) (fx:Operand),cl.callee=.value fx→ρ fx=.j9 63 []→cl.args.toList.map ρ++[]=[kx c,.int nn,.own (NN+2) (L.length+1) 0 (L.length+1)]→∀A B:jy,PL Tryd.prog (RH s1++[A,B,jD (L++[nn])]) ρ (.call cl) (nD lv) (RH s2++[A,B,jD (L++[nn])]):=fun ρ cl fx h1 h2 h3 A B=>by
  have h:=akN kq (vs:=L++[nn]) (a:=nn) nH lI (by rw [dK,dO];omega) ah St mh (T:=[A,B]) (q:=NN+2) rfl h1 h2 (by rw [h3,dK,dO]);rw [← Q5,← jW] at h;simpa using h
 have Xd:=Hid.mk Kr;have QN:=Hid.mk zY;have oL:=Hid.mk mK;obtain ⟨M2,BZ⟩:∃M2,Hid (M2=RH s2):=⟨_,⟨rfl⟩⟩
 have SK:M2.length=NN:=by rw [BZ.out,kv]
 have aM2:M2[ix .rn]?=some (lE s1):=by rw [BZ.out,jW];exact nj _ .rn mc
 have bM2:M2[ix .tk]?=some (qB s1.tasks):=by rw [BZ.out,jW];exact nj _ .tk sj
 obtain ⟨k1,k2,k3,k4,k5⟩:=kq.k lr;have cM2:M2[ix (.jH k)]?=some (tt t1.jH):=by rw [BZ.out,jW,nj _ _ k1];simp only [blk];rw [show (s1.l8 (qj c (L++[nn]))).tasks=s1.tasks from rfl,lr]
 have cM1:(RH s1)[ix (.jH k)]?=some (tt t1.jH):=by rw [nj _ _ k1];simp only [blk];rw [lr]
 obtain ⟨G,hG⟩:∃G,Hid (G=M2.set (ix (.jH k)) (tt (sw t1.jH t1.jC lv))):=⟨_,⟨rfl⟩⟩
 have lG:G.length=NN:=by rw [hG.out,qG,SK]
 have aG:G[ix .rn]?=some (lE s1):=by rw [hG.out,dS (fun e=>by have:=sg e;cases this)];exact aM2
 have bG:G[ix .tk]?=some (qB s1.tasks):=by rw [hG.out,dS (fun e=>by have:=sg e;cases this)];exact bM2
 have zQ:∀(T:List jy) (ρ:Operand→AV) (x y:Operand),ρ x=.ptr (ix .tk) s1.tasks.length k 0→ρ y=.own (ix (.jH k)) (sw t1.jH t1.jC lv).length 0 (t1.jC+1)→PL Tryd.prog (G++T) ρ (.store 92 x y) .bad (RH (wj s k c nn (L++[nn]))++T):=fun T ρ x y hx hy=>by
  have h:=qP (P:=Tryd.prog) (H:=G++T) (t:=92) (blk:=qB s1.tasks) (e':=oI k { t1 with jH:=sw t1.jH t1.jC lv,jC:=t1.jC+1 }) hx hy (by rw [mZ lG sj];exact bG) (FG _) (DZ lr) XN rfl rfl;rw [o7 lG sj] at h;have ov:s2.tasks[k]?=some t1:=by rw [jW];exact lr
  rw [← hCe.out,← anJ ov k1,← BZ.out,← hG.out];have e:uI s2.tasks=uI s1.tasks:=by rw [jW];rfl
  rw [e];exact h
 have F8:=Hid.mk zQ;have hwC:=Ik.wf;have qE:=IX.fo.wf;have IY:=fun (ρ:Operand→AV) (x y:Operand) hx hy (T:List jy)=>akP (H:=M2++T) (k:=k) (m:=t1.jC) (lv:=lv) qA (by rw [t1l.out.1];exact Yf) (by rw [mZ SK k1];exact cM2) (ρ:=ρ) (x:=x) (y:=y) hx hy;have Yg:=Hid.mk IY;have xP:L.length≤1000:=ae;have Er:∀(ρ:Operand→AV) (cl:Call) (fx:Operand) (A B:jy),cl.callee=.value fx→ρ fx=.j9 94 []→cl.args.toList.map ρ++[]=[nD ⟨lc,la,i,lf⟩,.jA (vs.map .int)]→PL Tryd.prog (RH s++[A,B]) ρ (.call cl) (.ky [.own (NN+2) L.length 0 L.length,.bool true]) (RH s++[A,B,jD L]):=fun ρ cl fx A B h1 h2 h3=>by
  have h:=VH (x:=⟨lc,la,i,lf⟩) (f:=fr) (vs:=vs) (T:=[A,B]) hw kX lH wh.out mf hb (ρ:=ρ) h1 h2 h3;rw [← hL.out] at h;rw [show (RH s++[A,B]).length=NN+2 by simp [kv]] at h;simpa using h
 have Xe:=Hid.mk Er;clear Er mK jW Q5 zY Ga zQ Kr IY uJ kn Ik Dx Lh Q4 ow mJ xD Ib hc IX ui;obtain ⟨g1,g2,g3,g4,g5⟩:=hw.k ht;obtain ⟨e1,e2,e3,e4,e5⟩:=hw.oD ht hl;simp only at e1 e2 e5;have qC:m<t.jC:=ae;have mV:=(hw.lv t (dx ht)).2.1;have nq:i<lc.steps.length:=(dt jP).1;have pG:(lc.steps.map ki)[i]?=some (ki ⟨9,v,w,nn,(q:Int),vs⟩):=aB;have pS:IntKind.i64.wrap ((t.jC:Int)-1)=m:=ax;have nt:Hid (0≤la→IntKind.i64.wrap (-1-la)=jR la k):=⟨fun h=>ak⟩
 have rh:=Hid.mk hm;clear hm;refine jS.i2 [(0,jI),(1,.int k)] 2 475 NN eX (kv s) ?_;refine jx ?_;refine jB.p2 (qc (T:=[kS]) (q:=0) (l:=⟨lc,la,i,lf⟩) aa aa rfl) ?_;show jB _ _ _ _ _ ⟨_,RH s++[kj ⟨lc,la,i,lf⟩]⟩;refine jx ?_;refine jG.join ⟨[(0,jI),(1,.int k),(5,.int m),(6,.ptr NN 1 0 0),(7,.ptr (NN+1) 1 0 0),(8,.int (jR la k))],RH s++[kj ⟨lc,la,i,lf⟩,j7 ⟨9,v,w,nn,(q:Int),vs⟩]⟩ ?_ ?_
 ·by_cases kJ:0≤la
  ·have kb:decide (la≥0)=true:=jf kJ;refine j8 ?_ kb rfl;refine jx ?_;rw [nt.out kJ];exact .wf
  ·have kb:decide (la≥0)=false:=je kJ;refine jK ?_ kb rfl;refine jx ?_;rw [show jR la k=(k:Int) by unfold jR;rw [iZ kJ]];exact .wf
 refine jx ?_;repeat (refine jK ?_ rfl rfl;refine jx ?_)
 repeat (first|(refine j8 ?_ rfl rfl;refine jx ?_)|(refine jK ?_ rfl rfl;refine jx ?_))
 refine jB.p2 (Xe.out _ _ _ _ _ rfl aa aa) ?_;show jB _ _ _ _ _ ⟨_,RH s++[kj ⟨lc,la,i,lf⟩,j7 ⟨9,v,w,nn,(q:Int),vs⟩,jD L]⟩;clear Xe;refine jx ?_;refine jK ?_ rfl rfl;have nr:IntKind.i64.wrap ((i:Int)+1)=(i:Int)+1:=nP ae ae;refine jx ?_;refine jB.p2 (akO (T:=[kj ⟨lc,la,i,lf⟩,j7 ⟨9,v,w,nn,(q:Int),vs⟩,jD L]) (m:=m) (l:=⟨lc,la,i,lf⟩) (l':=⟨lc,la,(i:Int)+1,lf⟩) (v:=.int ((i:Int)+1)) ht g1 hl aa aa ny rfl rfl) ?_;rw [← QN.out,← oL.out];clear g1 g2 g3 g4 g5 nr ht hl pG j6;refine jx ?_;refine IB (k:=32) [none,none,none,none,none,none,none,none,none,none,none,none,none,none,none,none,none,none,none,none,none,none,none,none,none,none,none,none,some 0,some 1,none,some 2] [[0,1,2,3,4,5,6,7],[0,1,2,3,4,5,6,7],[0,1,2,3,4,5,6,7],[0,1,2,3,4,5,6,7],[0,1,2,3,4,5,6,7],[0,1,2,3,4,5,6,7],[0,1,2,3,4,5,6,7],[0,1,2,3,4,5,6,7],[0,1,2,3,4,5,6,7],[0,1,2,3,4,5,6,7],[0,1,2,3,4,5,6,7],[0,1,2,3,4,5,6,7],[0,1,2,3],[0,1,2,3,4,5,6,7],[0,1,2,3,4,5,6,7],[0,1,2,3,4,5,6,7],[0,1,2,3,4,5,6,7],[0,1,2,3,4,5,6,7],[0,1,2,3,4,5,6,7],[0,1,2,3,4,5,6,7],[0,1,2,3,4,5,6,7],[0,1,4,5],[0,1,2,3,4,5,6,7],[0,1,4,5],[0,2,4,6],[0,1,2,3,4,5,6,7],[0,1,2,3,4,5,6,7],[0,2,4,6],[0,4],[1],[2,3],[2,3]] (fun S=>match S with
  | 0=>RH s1++[kj ⟨lc,la,i,lf⟩,j7 ⟨9,v,w,nn,(q:Int),vs⟩,jD L]
  | 1=>RH s1++[kj ⟨lc,la,i,lf⟩,j7 ⟨9,v,w,nn,(q:Int),vs⟩,jD (L++[nn])]
  | 2=>M2++[kj ⟨lc,la,i,lf⟩,j7 ⟨9,v,w,nn,(q:Int),vs⟩,jD L]
  | 3=>M2++[kj ⟨lc,la,i,lf⟩,j7 ⟨9,v,w,nn,(q:Int),vs⟩,jD (L++[nn])]
  | 4=>RH s1++[kj ⟨lc,la,i,lf⟩,j7 ⟨9,v,w,nn,(q:Int),vs⟩,jD L]
  | 5=>RH s1++[kj ⟨lc,la,i,lf⟩,j7 ⟨9,v,w,nn,(q:Int),vs⟩,jD (L++[nn])]
  | 6=>G++[kj ⟨lc,la,i,lf⟩,j7 ⟨9,v,w,nn,(q:Int),vs⟩,jD L]
  | _=>G++[kj ⟨lc,la,i,lf⟩,j7 ⟨9,v,w,nn,(q:Int),vs⟩,jD (L++[nn])]) 3 follows ?_
 repeat refine gM ?_
 refine nA.q1 (v:=.ptr (ix .tk) s1.tasks.length k 0) rfl rfl (fun S hS=>by
  simp only [dC,dB,jd] at hS;rcases hS with rfl|rfl|rfl|rfl|rfl|rfl|rfl|rfl<;>exact A0 (l:=s1.tasks) rfl rfl aa k4) ?_
 repeat refine gM ?_
 refine nA.q1 (v:=(kx c).kN 0) rfl rfl (fun S _=>R9 (L:=s1.p.methods) (q:=q) rfl rfl xF.out) ?_;repeat refine gM ?_
 refine nA.q1 (v:=.jA [.int nn]) rfl rfl (fun S _=>CQ rfl) ?_;refine nA.p1 (v:=.own (NN+2) (L.length+1) 0 (L.length+1)) rfl rfl (fun S hS kB h=>by
  simp only [dC,dB,jd] at hS;have key:PL Tryd.prog (RH s1++[kj ⟨lc,la,i,lf⟩,j7 ⟨9,v,w,nn,(q:Int),vs⟩,jD L]) kB (.call { callee:=.builtin .append,args:=#[.tmp 449,.tmp 452],argTypes:=#[25,25] }) (.own (NN+2) (L.length+1) 0 (L.length+1)) (RH s1++[kj ⟨lc,la,i,lf⟩,j7 ⟨9,v,w,nn,(q:Int),vs⟩,jD (L++[nn])]):=by
   have h1:=Ao (H:=RH s1++[kj ⟨lc,la,i,lf⟩,j7 ⟨9,v,w,nn,(q:Int),vs⟩,jD L]) (ρ:=kB) (b:=NN+2) (l:=L) (v:=nn) ((h (.tmp 449) ai).trans rfl) ((h (.tmp 452) ai).trans rfl) (by rw [vx (kv s1)];rfl) ae;rw [wE (kv s1)] at h1;exact h1
  rcases hS with rfl|rfl<;>exact key) ?_
 refine nA.p1 (v:=nD lv) rfl rfl (fun S hS kB h=>by
  rw [dz] at hS;subst hS;have h1:=Xd.out kB { callee:=.value (.func 63),args:=#[.tmp 446,.tmp 448,.tmp 453],argTypes:=#[68,3,25] } (.func 63) rfl ((h (.func 63) ai).trans rfl) (by
   simp only [ef,ez,fC];rw [h (.tmp 446) ai,h (.tmp 448) ai,h (.tmp 453) ai];rfl) (kj ⟨lc,la,i,lf⟩) (j7 ⟨9,v,w,nn,(q:Int),vs⟩)
  rw [← BZ.out] at h1;exact h1) ?_
 refine nA.q1 (v:=.jA [nD lv]) rfl rfl (fun S _=>auY rfl) ?_;refine nA.p1 (v:=.own (ix (.jH k)) (sw t1.jH t1.jC lv).length 0 (t1.jC+1)) rfl rfl (fun S hS kB h=>by
  simp only [dC,dB,jd] at hS;have key:∀T:List jy,PL Tryd.prog (M2++T) kB (.call { callee:=.builtin .append,args:=#[.tmp 437,.tmp 455],argTypes:=#[92,92] }) (.own (ix (.jH k)) (sw t1.jH t1.jC lv).length 0 (t1.jC+1)) (G++T):=fun T=>by
   have h1:=Yg.out kB (.tmp 437) (.tmp 455) ((h (.tmp 437) ai).trans rfl) ((h (.tmp 455) ai).trans rfl) T;rw [o7 SK k1,← hG.out] at h1;exact h1
  rcases hS with rfl|rfl<;>exact key _) ?_
 refine nA.nil ?_;show jB _ _ _ _ _ ⟨_,G++[kj ⟨lc,la,i,lf⟩,j7 ⟨9,v,w,nn,(q:Int),vs⟩,jD (L++[nn])]⟩;refine jx ?_;refine jB.p2 (F8.out _ _ _ _ rfl rfl) ?_;clear F8 Yg Xd aM2 bM2 cM2 cM1 aG bG;refine jx ?_;refine cF il hwC qE ?_;refine jx ?_;exact Rf.kY.ref [kj ⟨lc,la,i,lf⟩,j7 ⟨9,v,w,nn,(q:Int),vs⟩,jD (L++[nn])] qE (vs:=[.bool true]) ag rfl rfl (.pu (.base _))
end Go.Ab.Rf
