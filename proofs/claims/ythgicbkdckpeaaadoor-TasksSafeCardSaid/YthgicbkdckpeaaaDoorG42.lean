/- Part of the proof. -/
import Derived.Test.YthgicbkdckpeaaaDoorG41
import Derived.Test.YthgicbkdckpeaaaDoorG35
import Derived.Test.YthgicbkdckpeaaaDoorG38
import Derived.Test.YthgicbkdckpeaaaDoorG10
import Derived.Test.YthgicbkdckpeaaaDoorG37
import Derived.Test.YthgicbkdckpeaaaDoorG08
import Derived.Test.YthgicbkdckpeaaaDoorG09
set_option linter.unusedSimpArgs false
set_option linter.unusedVariables false
set_option maxHeartbeats 4000000
namespace Go.Ab
open Go Go.Ab Go.Proofs Go.Ab.Ty
def tAt (s:PRun) (τ:Int):Nat:=(s.turns.getD τ.toNat 0).toNat
def Cov (s:PRun) (k:Nat) (x:Acc):Prop:=x.time≤cel s k (tAt s x.time)
structure CI (own:Nat→Ow) (s:PRun):Prop where
 lt:∀l∈s.pool,∀v∈l,v<(s.turns.length:Int)
 fr:∀x∈s.accs,∀(n:Nat) (t:PTask) (i j:Nat) (ρ:Int),s.tasks[n]?=some t→i<t.slen→t.sarr[i]?=some j→own x.object.toNat=.fr j ρ→Cov s t.clk x
 ac:∀x∈s.accs,∀a:Int,own x.object.toNat=.ac a→∀k:Nat,s.acts[a.toNat]?=some k→Cov s k x
 be:∀x∈s.accs,∀y∈s.accs,x.object=y.object→x.time<y.time→befF s x.time.toNat y.time.toNat=true
 ob:∀x∈s.accs,0≤x.object∧x.object.toNat<s.objs.length
structure TT1 (s:PRun):Prop where
 ck:s.cks.length=s.turns.length
 ac:∀x∈s.accs,0≤x.time∧x.time<s.turns.length
theorem Cov.mono {s s':PRun} {k k':Nat} {x:Acc} (h:Cov s k x) (ht:tAt s' x.time=tAt s x.time) (hc:∀i,cel s k i≤cel s' k' i):Cov s' k' x:=by
 unfold Cov at h ⊢
 rw [ht]
 exact Int.le_trans h (hc _)
theorem befF_iff {s:PRun} {a b:Nat} {x:Nat} {l:List Int} (ha:s.cks[b]?=some x) (hl:s.pool[x]?=some l):befF s a b=(decide (a<b)&&decide ((a:Int)≤l.getD (s.turns.getD a 0).toNat 0)):=by
 unfold befF;rw [getD_at ha,getD_at hl]
theorem CI.sm {own:Nat→Ow} {s s':PRun} (h:CI own s) (g:Sm s s') (hw:WF s) (ht:TT1 s):CI own s':=by
 have hT:∀τ,tAt s' τ=tAt s τ:=fun τ=>by unfold tAt;rw [g.fx.turns]
 refine ⟨?_,fun x hx n t' i j ρ e1 e2 e3 e4=>?_,fun x hx a e k hk=>?_,fun x hx y hy e1 e2=>?_,?_⟩
 ·rw [g.fx.turns];exact g.up _ h.lt
 ·rw [g.fx.accs] at hx
  obtain ⟨t,a1,a2,a3,a4⟩:=g.tk n t' e1
  obtain ⟨b1,b2⟩:=a4 (hw.tsk t (List.mem_of_getElem? a1)).2.2.1
  rw [a2] at e3
  exact (h.fr x hx n t i j ρ a1 (by omega) e3 e4).mono (hT _) b2
 ·rw [g.fx.accs] at hx
  rw [g.fx.acts] at hk
  exact (h.ac x hx a e k hk).mono (hT _) (fun i=>by rw [cel_of (g.po k (hw.acts k (List.mem_of_getElem? hk)))];exact Int.le_refl _)
 ·rw [g.fx.accs] at hx hy
  have hb:=h.be x hx y hy e1 e2
  have hyl:=ht.ac y hy
  obtain ⟨z,hz⟩:∃z,s.cks[y.time.toNat]?=some z:=⟨_,List.getElem?_eq_getElem (by rw [ht.ck];omega)⟩
  have hzp:=hw.cks z (List.mem_of_getElem? hz)
  have hl:s.pool[z]?=some s.pool[z]:=List.getElem?_eq_getElem hzp
  rw [befF_iff hz hl] at hb
  rw [befF_iff (s:=s') (by rw [g.fx.cks];exact hz) (by rw [g.po z hzp];exact hl),g.fx.turns]
  exact hb
 ·rw [g.fx.accs,g.fx.objs];exact h.ob
theorem TT1.sm {s s':PRun} (h:TT1 s) (g:Sm s s'):TT1 s':=⟨by rw [g.fx.cks,g.fx.turns];exact h.ck,by rw [g.fx.accs,g.fx.turns];exact h.ac⟩
structure TbH (s s9:PRun) (n:Nat) (t9:PTask) (K:Nat) (T:Nat):Prop where
 gr:Gr s s9 n (T+1)
 tk:s9.tasks[n]?=some t9
 tu:s9.turns=s.turns++[(n:Int)]
 ck:s9.cks=s.cks++[K]
 tl:T=s.turns.length
 ac:s9.accs=s.accs
 ob:s9.objs=s.objs
 al:s9.acts.length=s.acts.length
 ta:∀(k:Nat) (t':PTask),s9.tasks[k]?=some t'→∃t:PTask,s.tasks[k]?=some t∧t'.sarr=t.sarr∧t'.slen=t.slen
theorem TbH.old {s s9:PRun} {n:Nat} {t9:PTask} {K T:Nat} (h:TbH s s9 n t9 K T) {τ:Int} (h0:0≤τ) (h1:τ<s.turns.length):tAt s9 τ=tAt s τ:=by
 unfold tAt
 rw [h.tu,List.getD_eq_getElem?_getD,List.getD_eq_getElem?_getD,List.getElem?_append_left (by omega)]
theorem TbH.now {s s9:PRun} {n:Nat} {t9:PTask} {K T:Nat} (h:TbH s s9 n t9 K T):tAt s9 T=n:=by
 unfold tAt
 rw [h.tu,h.tl,List.getD_eq_getElem?_getD,Int.toNat_natCast,List.getElem?_append_right (Nat.le_refl _),Nat.sub_self]
 simp
theorem befF_gr {s s':PRun} {n:Nat} {B:Int} (g:Gr s s' n B) (hw:WF s) (hw':WF s') {a b:Nat} (hb:b<s.cks.length) (hck:∃l,s'.cks=s.cks++l) (htn:∃l,s'.turns=s.turns++l) (ha:a<s.turns.length) (h0:0≤s.turns.getD a 0∧s.turns.getD a 0<32) (h:befF s a b=true):befF s' a b=true:=by
 obtain ⟨l1,hl1⟩:=hck
 obtain ⟨l2,hl2⟩:=htn
 obtain ⟨z,hz⟩:∃z,s.cks[b]?=some z:=⟨_,List.getElem?_eq_getElem hb⟩
 have hzp:=hw.cks z (List.mem_of_getElem? hz)
 have hl:s.pool[z]?=some s.pool[z]:=List.getElem?_eq_getElem hzp
 have hz':s'.cks[b]?=some z:=by rw [hl1,List.getElem?_append_left hb];exact hz
 have hzp':z<s'.pool.length:=Nat.lt_of_lt_of_le hzp g.pl
 have hl':s'.pool[z]?=some s'.pool[z]:=List.getElem?_eq_getElem hzp'
 rw [befF_iff hz hl] at h
 rw [befF_iff hz' hl']
 have hta:s'.turns.getD a 0=s.turns.getD a 0:=by rw [hl2,List.getD_eq_getElem?_getD,List.getD_eq_getElem?_getD,List.getElem?_append_left ha]
 rw [hta]
 simp only [Bool.and_eq_true,decide_eq_true_eq] at h ⊢
 refine ⟨h.1,Int.le_trans h.2 ?_⟩
 have hc:=g.po z hzp (s.turns.getD a 0).toNat
 unfold cel at hc
 rw [getD_at hl,getD_at hl'] at hc
 have k1:=hw.pl _ (List.mem_of_getElem? hl)
 have k2:=hw'.pl _ (List.mem_of_getElem? hl')
 have d1:∀(l:List Int) (m:Nat),m<l.length→l.getD m 0=l.getD m (-1):=fun l m hm=>by
  rw [getD_at (List.getElem?_eq_getElem hm),getD_at (List.getElem?_eq_getElem hm)]
 rw [d1 s.pool[z] _ (by omega),d1 s'.pool[z] _ (by omega)]
 exact hc
theorem CI.tb {own:Nat→Ow} {s s9:PRun} {n:Nat} {t9:PTask} {K T:Nat} (h:CI own s) (b:TbH s s9 n t9 K T) (hw:WF s) (hw9:WF s9) (ht:TT1 s) (htr:∀x∈s.turns,0≤x∧x<32):CI own s9:=by
 refine ⟨?_,fun x hx n1 t' i j ρ e1 e2 e3 e4=>?_,fun x hx a e k hk=>?_,fun x hx y hy e1 e2=>?_,?_⟩
 ·have hu:=b.gr.up fun l hl v hv=>by have:=h.lt l hl v hv;have:=b.tl;omega
  intro l hl v hv
  have:=hu l hl v hv
  rw [b.tu,List.length_append,List.length_singleton]
  have:=b.tl
  omega
 ·rw [b.ac] at hx
  obtain ⟨g1,g2⟩:=ht.ac x hx
  obtain ⟨t,a1,a2,a3⟩:=b.ta n1 t' e1
  have hC:=h.fr x hx n1 t i j ρ a1 (by omega) (by rw [← a2];exact e3) e4
  by_cases en:n1=n
  ·subst en
   obtain ⟨u,c1,c2⟩:=b.gr.tk t a1
   rw [e1] at c1;injection c1 with c1;subst c1
   exact hC.mono (b.old g1 g2) c2
  ·have:s.tasks[n1]?=some t':=by rw [← b.gr.ot n1 en];exact e1
   rw [a1] at this;injection this with this;subst this
   exact hC.mono (b.old g1 g2) (b.gr.po _ (hw.tsk t (List.mem_of_getElem? a1)).2.2.1)
 ·rw [b.ac] at hx
  obtain ⟨g1,g2⟩:=ht.ac x hx
  have hal:a.toNat<s.acts.length:=by rw [← b.al];exact (List.getElem?_eq_some_iff.1 hk).1
  obtain ⟨k',c1,c2⟩:=b.gr.ac a.toNat _ (List.getElem?_eq_getElem hal)
  rw [hk] at c1;injection c1 with c1;subst c1
  exact (h.ac x hx a e _ (List.getElem?_eq_getElem hal)).mono (b.old g1 g2) c2
 ·rw [b.ac] at hx hy
  obtain ⟨g1,g2⟩:=ht.ac x hx
  obtain ⟨g3,g4⟩:=ht.ac y hy
  have hxt:s.turns[x.time.toNat]?=some s.turns[x.time.toNat]:=List.getElem?_eq_getElem (by omega)
  exact befF_gr b.gr hw hw9 (by rw [ht.ck];omega) ⟨_,b.ck⟩ ⟨_,b.tu⟩ (by omega) (by rw [getD_at hxt];exact htr _ (List.mem_of_getElem? hxt)) (h.be x hx y hy e1 e2)
 ·rw [b.ac,b.ob];exact h.ob
end Go.Ab
set_option maxHeartbeats 4000000
namespace Go.Ab
open Go Go.Ab Go.Proofs Go.Ab.Ty
structure S9H (own:Nat→Ow) (s9:PRun) (n j:Nat) (t9:PTask) (c:PCall) (st:Stp) (l:Lk) (k i:Nat) (K T:Nat):Prop where
 ci:CI own s9
 ok:Sok s9 n j t9 c st
 top:TopC s9 n t9 j c st l k i
 op:OpH own s9 j c st
 tm:∀x∈s9.accs,0≤x.time∧x.time<T
 tn:s9.turns.length=T+1
 ck:s9.cks.length=T+1∧s9.cks[T]?=some K
 now:tAt s9 T=n
 oT:(T:Int)≤cel s9 t9.clk n
 hK:∀i,cel s9 t9.clk i≤cel s9 K i
 a1:0≤actF c st→∀x∈s9.accs,own x.object.toNat=.ac (actF c st)→Cov s9 t9.clk x
 a2:0≤actF c st→∃k':Nat,s9.acts[(actF c st).toNat]?=some k'∧∀i,cel s9 t9.clk i≤cel s9 k' i
 tr:∀x∈s9.turns,0≤x∧x<32
theorem CI.step {own own':Nat→Ow} {s9:PRun} {n j:Nat} {t9:PTask} {c:PCall} {st:Stp} {l:Lk} {k i K T:Nat} (h:S9H own s9 n j t9 c st l k i K T) (h11:st.op=11→t9.canc=false) (hM:Mv own own' s9 j (actF c st)):CI own' (stepF s9 n j t9 c st T).2∧TT1 (stepF s9 n j t9 c st T).2:=by
 obtain ⟨b1,b2,b3⟩:=stepF_accs s9 n j t9 c st T
 have hSt:=step_cl (time:=T) h.ok h11
 have hN:=accN_own (time:=T) h.ok h.top h.op
 obtain ⟨r,hr⟩:∃r,r=(stepF s9 n j t9 c st T).2:=⟨_,rfl⟩
 rw [← hr] at b1 b2 b3 hSt ⊢
 have hw9:=h.ok.iv.wf
 have hdis:=h.ok.iv.dis
 have hce:∀q,q<s9.pool.length→∀i,cel r q i=cel s9 q i:=fun q hq i=>cel_of (hSt.po q hq) i
 have hTt:∀τ,tAt r τ=tAt s9 τ:=fun τ=>by unfold tAt;rw [b2]
 have htc:=(hw9.tsk t9 (List.mem_of_getElem? h.ok.ht)).2.2.1
 have htop:i<t9.slen∧t9.sarr[i]?=some j:=⟨by rw [h.top.hs];omega,h.top.hj⟩
 -- new and old accesses
 have hio:∀x∈r.accs,x∈s9.accs∨(x∈accN s9 n c st T∧x.time=(T:Int)):=fun x hx=>by
  rw [b1] at hx
  rcases List.mem_append.1 hx with hx|hx
  ·exact .inl hx
  ·exact .inr ⟨hx,accN_time x hx⟩
 have hob:∀x∈r.accs,0≤x.object∧x.object.toNat<s9.objs.length:=fun x hx=>by
  rcases hio x hx with g|⟨g,_⟩
  ·exact h.ci.ob x g
  ·exact ⟨(hN x g).1,(hN x g).2.1⟩
 have clA:∀x∈r.accs,((∃ρ,own x.object.toNat=.fr j ρ)∨(0≤actF c st∧own x.object.toNat=.ac (actF c st)))→Cov s9 t9.clk x:=fun x hx g=>by
  rcases hio x hx with q|⟨q,q2⟩
  ·rcases g with ⟨ρ,g⟩|⟨g1,g2⟩
   ·exact h.ci.fr x q n t9 i j ρ h.ok.ht htop.1 htop.2 g
   ·exact h.a1 g1 x q g2
  ·unfold Cov
   rw [q2,h.now];exact h.oT
 have isn:∀(n1:Nat) (t0:PTask) (i0:Nat),s9.tasks[n1]?=some t0→i0<t0.slen→t0.sarr[i0]?=some j→t0=t9:=fun n1 t0 i0 q1 q2 q3=>by
  have:=(hdis n1 t0 n t9 i0 i j q1 h.ok.ht q2 htop.1 q3 htop.2).1
  subst this
  rw [h.ok.ht] at q1;injection q1 with q1;exact q1.symm
 have up:∀ {q q':Nat} {x:Acc},Cov s9 q x→(∀i,cel s9 q i≤cel r q' i)→Cov r q' x:=fun g1 g2=>g1.mono (hTt _) g2
 refine ⟨⟨by rw [b2];exact hSt.up _ h.ci.lt,fun x hx n1 t1 i1 j1 ρ e1 e2 e3 e4=>?_,fun x hx a e q hq=>?_,fun x hx y hy e1 e2=>?_,fun x hx=>⟨(hob x hx).1,Nat.lt_of_lt_of_le (hob x hx).2 hSt.ol⟩⟩,⟨by rw [b3,b2,h.ck.1,h.tn],fun x hx=>?_⟩⟩
 ·rcases hSt.tk n1 t1 i1 j1 e1 e2 e3 with ⟨t0,i0,q1,q2,q3,q4⟩|⟨q1,q2⟩
  ·have hq4:∀i,cel s9 t0.clk i≤cel r t1.clk i:=fun i=>by
    rw [q4,hce _ (hw9.tsk t0 (List.mem_of_getElem? q1)).2.2.1];exact Int.le_refl _
   rcases hM _ (hob x hx).2 with g|⟨⟨ρ0,g1⟩,g2⟩
   ·rw [g] at e4
    rcases hio x hx with q|⟨q,_⟩
    ·exact up (h.ci.fr x q n1 t0 i0 j1 ρ q1 q2 q3 e4) hq4
    ·rcases (hN x q).2.2 with ⟨ρ',w⟩|⟨_,w⟩
     ·rw [w] at e4;injection e4 with e4 _;subst e4
      have:=isn n1 t0 i0 q1 q2 q3
      subst this
      exact up (clA x hx (.inl ⟨ρ',w⟩)) hq4
     ·rw [w] at e4;cases e4
   ·rcases g2 with ⟨j',ρ',w1,w2⟩|⟨_,w1⟩
    ·rw [w1] at e4;injection e4 with e4 _;subst e4
     rcases w2 with w2|w2
     ·subst w2
      have:=isn n1 t0 i0 q1 q2 q3
      subst this
      exact up (clA x hx (.inl ⟨ρ0,g1⟩)) hq4
     ·have:=(hw9.tsk t0 (List.mem_of_getElem? q1)).1 _ (List.mem_of_getElem? q3)
      omega
    ·rw [w1] at e4;cases e4
  ·rcases hM _ (hob x hx).2 with g|⟨⟨ρ0,g1⟩,g2⟩
   ·rw [g] at e4
    have:=h.op.fi.cl _ (hob x hx).2 _ _ e4
    omega
   ·exact up (clA x hx (.inl ⟨ρ0,g1⟩)) q2
 ·rw [hSt.ac] at hq
  have hqp:=hw9.acts q (List.mem_of_getElem? hq)
  have hq4:∀i,cel s9 q i≤cel r q i:=fun i=>by rw [hce q hqp];exact Int.le_refl _
  have viaA:a=actF c st→0≤actF c st→Cov s9 t9.clk x→Cov r q x:=fun w1 w2 w3=>by
   obtain ⟨k',p1,p2⟩:=h.a2 w2
   rw [w1] at hq
   rw [hq] at p1;injection p1 with p1;subst p1
   exact up w3 (fun i=>Int.le_trans (p2 i) (hq4 i))
  rcases hM _ (hob x hx).2 with g|⟨⟨ρ0,g1⟩,g2⟩
  ·rw [g] at e
   rcases hio x hx with w|⟨w,_⟩
   ·exact up (h.ci.ac x w a e q hq) hq4
   ·rcases (hN x w).2.2 with ⟨ρ',z⟩|⟨z1,z2⟩
    ·rw [z] at e;cases e
    ·have hz:=z2
     rw [z2] at e;injection e with e
     exact viaA e.symm z1 (clA x hx (.inr ⟨z1,hz⟩))
  ·rcases g2 with ⟨j',ρ',w1,w2⟩|⟨w0,w1⟩
   ·rw [w1] at e;cases e
   ·rw [w1] at e;injection e with e
    exact viaA e.symm w0 (clA x hx (.inl ⟨ρ0,g1⟩))
 ·rcases hio y hy with gy|⟨gy,gy2⟩
  ·have hyt:=h.tm y gy
   rcases hio x hx with gx|⟨gx,gx2⟩
   ·have hb:=h.ci.be x gx y gy e1 e2
    obtain ⟨z,hz⟩:∃z,s9.cks[y.time.toNat]?=some z:=⟨_,List.getElem?_eq_getElem (by rw [h.ck.1];omega)⟩
    have hzp:=hw9.cks z (List.mem_of_getElem? hz)
    have hl:s9.pool[z]?=some s9.pool[z]:=List.getElem?_eq_getElem hzp
    rw [befF_iff hz hl] at hb
    rw [befF_iff (s:=r) (by rw [b3];exact hz) (by rw [hSt.po z hzp];exact hl),b2]
    exact hb
   ·omega
  ·rcases hio x hx with gx|⟨gx,gx2⟩
   ·have hxt:=h.tm x gx
    have hown:=(hN y gy).2.2
    rw [← e1] at hown
    have hcv:=clA x hx hown
    have hKp:=hw9.cks K (List.mem_of_getElem? h.ck.2)
    have hl:s9.pool[K]?=some s9.pool[K]:=List.getElem?_eq_getElem hKp
    have hyT:y.time.toNat=T:=by omega
    rw [hyT,befF_iff (s:=r) (by rw [b3];exact h.ck.2) (by rw [hSt.po K hKp];exact hl),b2]
    simp only [Bool.and_eq_true,decide_eq_true_eq]
    refine ⟨by omega,?_⟩
    have hv:=Int.le_trans hcv (h.hK (tAt s9 x.time))
    unfold cel tAt at hv
    rw [getD_at hl] at hv
    have hxl:x.time.toNat<s9.turns.length:=by rw [h.tn];omega
    obtain ⟨w,hxs⟩:∃w,s9.turns[x.time.toNat]?=some w:=⟨_,List.getElem?_eq_getElem hxl⟩
    have hx32:=h.tr _ (List.mem_of_getElem? hxs)
    have hl32:=hw9.pl _ (List.mem_of_getElem? hl)
    have d1:∀(l:List Int) (m:Nat),m<l.length→l.getD m 0=l.getD m (-1):=fun l m hm=>by
     rw [getD_at (List.getElem?_eq_getElem hm),getD_at (List.getElem?_eq_getElem hm)]
    rw [getD_at hxs] at hv ⊢
    rw [d1 s9.pool[K] _ (by omega)]
    omega
   ·omega
 ·rw [b2,h.tn]
  rcases hio x hx with g|⟨_,g⟩
  ·have:=h.tm x g;omega
  ·omega
end Go.Ab
set_option maxHeartbeats 4000000
namespace Go.Ab
open Go Go.Ab Go.Proofs Go.Ab.Ty
def SI (s:PRun):Prop:=∃own,FI own s∧CI own s∧TT1 s
theorem turn_si {s:PRun} {n j:Nat} {t:PTask} {c:PCall} {st:Stp} {l:Lk} {k i:Nat} (hH:TH s n j t c st l k i) (ha:Acc1 s.p) (h:SI s):SI (turnX s n j c st):=by
 obtain ⟨own,hfi,hci,htt⟩:=h
 have hT:=hH.top
 obtain ⟨hi,hg,hz⟩:=hH.gg
 obtain ⟨hK,hac⟩:=hT.tok hi hg hz hH.st1
 have hMM:=MM_eq
 have hck:=hz.ck
 have htn:=hH.tn
 have hnT:=hi.wf.nT
 have hn32:n<32:=by have:=(List.getElem?_eq_some_iff.1 hT.ht).1;omega
 have htr:∀x∈s.turns,0≤x∧x<32:=fun x hx=>by have:=hH.tr x hx;omega
 obtain ⟨t9,hA9,hb9⟩:=turnB_cs hK hac (by omega) (by omega)
 obtain ⟨t9',K,f1,f2,f3,f4,f5,f6,f7⟩:=turnB_gr hK hac (by omega) (by omega) hn32 hci.lt
 have hZ:=zs_turnB s n c st
 obtain ⟨hTn,hCk⟩:=turnB_turns s n c st
 have hcan9:canF (turnB s n c st) c st=canF s c st:=canF_cs hA9 c st
 unfold turnX
 obtain ⟨s9,hs9⟩:∃s9,s9=turnB s n c st:=⟨_,rfl⟩
 rw [← hs9] at hA9 hZ hTn hCk hcan9 f1 f2 f3 f4 f5 f6 f7 ⊢
 have hI9:=hA9.iv
 have hG9:=hZ.gi hg
 have ht9:=hA9.tk
 rw [ht9] at f1;injection f1 with f1;subst f1
 have hT9:TopC s9 n t9 j c st l k i:=hT.zs hZ.p hZ.calls ht9 hA9.tsa.1 hA9.tsa.2.1
 have hK9:Tok 80000 s9 n j t9 c st:=hK.cs hA9 (by omega)
 have ho9:s9.objs.length≤200:=by rw [hZ.objs];exact hz.ob
 have hao9:s9.p.actors.toNat≤s9.objs.length:=by rw [hZ.objs,hZ.p];exact hz.ao
 have hst9:=hK9.st1
 have hwt9:=hK9.wt
 have hP9:=hK9.hP
 have hB9:=hK9.hB
 have e9t:tkAt s9 n=t9:=tkAt_eq ht9
 rw [e9t]
 have hF9:FI own s9:=hfi.zs hZ
 have hTb:TbH s s9 n t9 K s.turns.length:=⟨f2,ht9,hTn,f3,rfl,hZ.accs,hZ.objs,hZ.acl,fun q t' e=>by
  obtain ⟨t0,a1,a2⟩:=hZ.tk q t' e
  exact ⟨t0,a1,by rw [a2],by rw [a2]⟩⟩
 have hC9:CI own s9:=hci.tb hTb hi.wf hI9.wf htt htr
 have hl9:s9.turns.length=s.turns.length+1:=by rw [hTn];simp
 have hT19:TT1 s9:=⟨by rw [hCk,hl9,htt.ck],fun x hx=>by
  rw [hZ.accs] at hx;have:=htt.ac x hx;omega⟩
 have hstop:SI (stopF s9 n):=by
  have hm:=stopF_sm hI9 hG9 ht9 hwt9 (by omega) (by omega)
  exact ⟨own,hF9.sm hm,hC9.sm hm hI9.wf hT19,hT19.sm hm⟩
 cases hcn:canF s c st with
 | false =>
   rw [if_pos rfl]
   exact hstop
 | true =>
   rw [if_neg (by simp)]
   have hS:Sok s9 n j t9 c st:={ hK9.cs (Cs.refl hI9 ht9) (k':=40000) (by omega) with can:=by rw [hcan9];exact hcn,bh:=hb9 }
   by_cases h11:st.op=11∧t9.canc=true
   ·have hE:stepF s9 n j t9 c st s.turns.length=(false,stopF s9 n):=by
     unfold stepF
     rw [if_neg (by omega),if_neg (by omega),if_neg (by omega),if_neg (by omega),if_neg (by omega),if_neg (by omega),if_neg (by omega),if_neg (by omega),if_neg (by omega),if_neg (by omega),if_pos h11.1,if_pos h11.2]
    rw [hE,if_pos rfl]
    exact hstop
   have h11':st.op=11→t9.canc=false:=fun e=>by
    cases hq:t9.canc with
    | false=>rfl
    | true=>exact absurd ⟨e,hq⟩ h11
   have hR:=stepF_iv hS (time:=s.turns.length)
   have hSg:=stepF_gi hG9 ho9 hao9 hS hT9 (time:=s.turns.length)
   have ha9:Acc1 s9.p:=by rw [hZ.p];exact ha
   obtain ⟨hfiT,hfiF⟩:=step_fi (time:=s.turns.length) hS hT9 hG9 hao9 ha9 hF9
   have hO:OpH own s9 j c st:=⟨hF9,hI9,hG9,hao9,hS.hc,hF9.fr n t9 i j c ht9 (by rw [hT9.hs];omega) hT9.hj hS.hc,hT9.pc.1,hT9.es,acc_step hG9 ha9 (List.mem_of_getElem? hS.hc) hT9.pc.1 hT9.es⟩
   have hck9:s9.cks.length=s.turns.length+1:=by rw [hCk,htt.ck]
   have hckK:s9.cks[s.turns.length]?=some K:=by
    rw [f3,← htt.ck,List.getElem?_append_right (Nat.le_refl _),Nat.sub_self];rfl
   have h9:S9H own s9 n j t9 c st l k i K s.turns.length:=by
    refine ⟨hC9,hS,hT9,hO,fun x hx=>by rw [hZ.accs] at hx;exact htt.ac x hx,hl9,⟨hck9,hckK⟩,hTb.now,f6,f5,fun q x hx e=>?_,fun q=>?_,fun x hx=>?_⟩
    ·have hal:=hac q
     obtain ⟨p1,_⟩:=f7 hcn q
     rw [hZ.accs] at hx
     obtain ⟨g1,g2⟩:=htt.ac x hx
     have hkk:s.acts[(actF c st).toNat]?=some s.acts[(actF c st).toNat]:=List.getElem?_eq_getElem hal
     exact (hci.ac x hx _ e _ hkk).mono (hTb.old g1 g2) (p1 _ hkk)
    ·exact (f7 hcn q).2
    ·rw [hTn] at hx
     rcases List.mem_append.1 hx with hx|hx
     ·exact htr x hx
     ·rw [List.mem_singleton] at hx;omega
   have hCI:=fun (own':Nat→Ow) (hM:Mv own own' s9 j (actF c st))=>CI.step h9 h11' hM
   obtain ⟨r,hr⟩:∃r,r=stepF s9 n j t9 c st s.turns.length:=⟨_,rfl⟩
   rw [← hr] at hR hSg hfiT hfiF hCI ⊢
   obtain ⟨rb,s10⟩:=r
   have d1:=hR.pl
   have d2:=hR.bl
   simp only at d1 d2
   cases rb with
   | false =>
     rw [if_pos rfl]
     obtain ⟨own',g1,g2⟩:=hfiF rfl
     obtain ⟨g3,g4⟩:=hCI own' g2
     exact ⟨own',g1,g3,g4⟩
   | true =>
     rw [if_neg (by simp)]
     obtain ⟨own',c8,q1,q2,q3⟩:=hfiT rfl
     obtain ⟨q4,q5⟩:=hCI own' q3
     obtain ⟨t10,c10,r1,r2,r3,r4,r5,r6,r7,r8,r9,r10⟩:=hR.go rfl
     simp only at r1 r7 q1 q2 q4 q5
     rw [q1] at r7;injection r7 with r7;subst r7
     have hI10:Iv s10:=hR.iv
     have hG10:Gi s10:=hSg.gi
     unfold turnG
     simp only
     obtain ⟨s11,hs11⟩:∃s11,s11=if 0≤c.actor∧st.op≠12∧st.op≠9∧c.pc≠(c.code.steps.length:Int)-1 then hasS s10 n c.actor else s10:=⟨_,rfl⟩
     rw [← hs11]
     have hC11:∃t11,Cs s10 n t10 0 s11 t11:=by
      rw [hs11]
      split
      ·refine ⟨{ t10 with has:=c.actor },?_⟩
       unfold hasS;rw [tkAt_eq r1]
       exact Cs.tset hI10 r1 ⟨rfl,rfl,rfl,rfl⟩ ⟨rfl,rfl,rfl,rfl,rfl⟩ (hI10.wf.tsk t10 (List.mem_of_getElem? r1)).2.2.1 (.inl rfl)
      ·exact ⟨t10,Cs.refl hI10 r1⟩
     have hZ11:Zs s10 s11 n:=by
      rw [hs11]
      split
      ·exact zs_hasS s10 n c.actor
      ·exact .refl s10 n
     -- the call goes on
     obtain ⟨cn,hcn'⟩:∃cn:PCall,cn={ c8 with pc:=c8.pc+1 }:=⟨_,rfl⟩
     rw [← hcn'] at q2
     have hm11:Sm (s10.cset j cn) (s11.cset j cn):=by
      rw [hs11]
      split
      ·have e:(hasS s10 n c.actor).cset j cn=(s10.cset j cn).tset n { t10 with has:=c.actor }:=by
        unfold hasS;rw [tkAt_eq r1];rfl
       rw [e]
       exact Sm.tset (s:=s10.cset j cn) r1 rfl (Nat.le_refl _) (fun g=>⟨g,fun _=>Int.le_refl _⟩)
      ·exact .refl _
     obtain ⟨t11,hC11⟩:=hC11
     have ht11:=hC11.tk
     have hI11:=hC11.iv
     have hG11:=hZ11.gi hG10
     obtain ⟨a1,a2,a3,a4⟩:=hC11.tsa
     obtain ⟨b1,b2,b3,b4,b5⟩:=hC11.tst
     obtain ⟨f,hf⟩:∃f,f=n+1:=⟨_,rfl⟩
     have hf32:f≤32:=by omega
     have hp11:s11.pool.length≤s10.pool.length:=by have:=hC11.pl;omega
     have hb11:s11.behs=s10.behs:=hC11.behs
     have hb1':s11.pool.length+1001*f≤MM:=by omega
     have hb2':s11.behs.length+f≤MM:=by rw [hb11];omega
     have hj11:t11.sarr[t11.slen-1]?=some j:=by rw [a1,a2,r2,r3];exact hK9.tp
     have hc11:s11.calls[j]?=some c8:=by rw [hC11.calls];exact q1
     have hpc11:c8.pc<c8.code.steps.length:=by rw [r8,r9];exact hK9.pcl
     have hw11:t11.waits<0:=by rw [b3,r6];exact hwt9
     have hN:t11.slen=1→∀st',c8.code.steps[c8.pc.toNat]?=some st'→st'.op=6→∃kc:Nat,getM t11.spn c8.pc=some (kc:Int)∧kc<s11.tasks.length:=fun g1 st' g2 g3=>by
      rw [r8,r9] at g2
      rw [hT9.es] at g2;injection g2 with g2;subst g2
      obtain ⟨kc,k1,k2⟩:=hSg.nn rfl g3 t10 r1 (by rw [← a2];exact g1)
      refine ⟨kc,by rw [a4,r8];exact k1,by rw [hC11.tl];exact k2⟩
     rw [← hf]
     have hm:=goOnF_sm (settleF_sm f) hI11 hG11 ht11 (by rw [b1,r4];decide) hw11 hj11 hc11 hpc11 hN hb1' hb2'
     rw [← hcn'] at hm
     have hmm:=hm11.trans hm
     -- what does not look at calls
     have hCc:CI own' (s10.cset j cn):=⟨q4.lt,q4.fr,q4.ac,q4.be,q4.ob⟩
     have hTc:TT1 (s10.cset j cn):=⟨q5.ck,q5.ac⟩
     have hcz:=hI10.wf.csz c8 (List.mem_of_getElem? q1)
     have hWc:WF (s10.cset j cn):=hI10.wf.cset (by rw [hcn'];exact hcz.1) (by rw [hcn'];exact hcz.2)
     exact ⟨own',q2.sm hmm,hCc.sm hmm hWc hTc,hTc.sm hmm⟩
end Go.Ab
set_option maxHeartbeats 4000000
namespace Go.Ab
open Go Go.Ab Go.Proofs Go.Ab.Ty
theorem newF_si {p:Tk} {sched:List Int} {cd:Cd} (hcd:p.codes[0]?=some cd) (hok:Rg.okValid p) (hG:GG (newF p sched cd)):SI (newF p sched cd):=by
 obtain ⟨⟨o1,o2,o3,o4,o5⟩,oc,om⟩:=hok
 obtain ⟨⟨r1,r2,r3,r4,r5⟩,_⟩:=oc 0 (by omega)
 have hce:Rg.cod p.codes ((0:Nat):Int)=cd:=nth_at hcd
 have r1':0≤cd.params:=by rw [← hce];exact r1
 have r2':cd.params≤4:=by rw [← hce];exact r2
 unfold newF at hG ⊢
 obtain ⟨na,hna⟩:∃na,na=p.actors.toNat:=⟨_,rfl⟩
 obtain ⟨np,hnp⟩:∃np,np=cd.params.toNat:=⟨_,rfl⟩
 rw [← hna,← hnp] at hG ⊢
 obtain ⟨s,hs⟩:∃s,s=nwS p sched (na+np) na (List.replicate (na+1) m32):=⟨_,rfl⟩
 rw [← hs] at hG ⊢
 obtain ⟨a1,tn,a2,a3,a4,a5⟩:=startF_pl (s:=s) (c:=cd) (vs:=varsN na np) (a:=m32) (prio:=0) (par:=-1) (canc:=false) (.inl (by omega))
 obtain ⟨tn',o,b1,b2,b3,_⟩:=startF_get (s:=s) (c:=cd) (vs:=varsN na np) (a:=m32) (prio:=0) (par:=-1) (canc:=false) (by rw [hs];rfl) (.inl (by omega))
 have hF:=startF_fx s cd (varsN na np) m32 0 (-1) false
 obtain ⟨R,hR⟩:∃R,R=startF s cd (varsN na np) m32 0 (-1) false:=⟨_,rfl⟩
 rw [← hR] at a1 a2 b1 b2 b3 hF hG ⊢
 have hst:s.tasks=[]:=by rw [hs];rfl
 have hsc:s.calls=[]:=by rw [hs];rfl
 have hso:s.objs=List.replicate (na+np) (0,-1):=by rw [hs];rfl
 rw [hst,List.nil_append] at a2
 rw [hsc,List.nil_append] at b3
 rw [hsc] at a4
 refine ⟨fun o=>if o<na then .ac o else .fr 0 ((o:Int)-na+1),⟨fun n t i j c e1 e2 e3 e4=>?_,fun a q=>?_,fun o x e1 e2=>?_,fun o hlt j ρ e=>?_⟩,⟨?_,fun x hx=>?_,fun x hx=>?_,fun x hx=>?_,fun x hx=>?_⟩,⟨by rw [hF.cks,hF.turns,hs];rfl,fun x hx=>?_⟩⟩
 ·rw [a2] at e1
  have hn:n=0:=by
   have:=(List.getElem?_eq_some_iff.1 e1).1
   simp at this;exact this
  subst hn
  simp at e1;subst e1
  rw [a4] at e3
  have hi:i=0:=by omega
  subst hi
  simp at e3;subst e3
  rw [b3] at e4
  simp at e4;subst e4
  obtain ⟨f1,f2,_⟩:=startF_eq cd (decide ((0:Int) ≤ -1)) (by omega)
  have hr:rgc (newC cd (varsN na np) (-1))=Rg.startF cd (decide ((0:Int) ≤ -1)):=by
   unfold rgc newC
   simp only [Int.toNat_zero,List.take_zero]
   rfl
  intro v x g1 g2 g3
  unfold owc
  rw [hr] at g3 ⊢
  unfold newC at g1
  simp only at g1
  have hvl:(varsN na np).length=np:=by simp [varsN]
  rcases Nat.lt_or_ge v np with q|q
  ·rw [List.getElem?_append_left (by omega)] at g1
   have hx:x=((na+v:Nat):Int):=by
    unfold varsN at g1
    rw [List.getElem?_map,List.getElem?_range q] at g1
    injection g1 with g1;exact g1.symm
   subst hx
   have hof:(Rg.startF cd (decide ((0:Int) ≤ -1))).of (v:Int)=(v:Int)+1:=by rw [f1,if_pos (by omega)]
   rw [hof,f2,Int.toNat_natCast]
   show (if na+v<na then Ow.ac ((na+v:Nat):Int) else Ow.fr 0 (((na+v:Nat):Int)-na+1))=_
   rw [if_neg (by omega),if_neg (by rw [if_neg (by decide)];omega)]
   congr 1
   omega
  ·rw [List.getElem?_append_right (by omega),List.getElem?_replicate] at g1
   split at g1
   ·injection g1 with g1;omega
   ·cases g1
 ·rw [hF.p] at q
  have hp:s.p=p:=by rw [hs];rfl
  rw [hp] at q
  exact if_pos (by omega)
 ·rw [hF.objs,hso] at e1
  rw [List.getElem?_replicate] at e1
  split at e1
  ·injection e1 with e1;subst e1
   exact absurd e2 (by decide)
  ·cases e1
 ·rw [b3]
  split at e
  ·cases e
  ·injection e with e _;subst e;simp
 ·rw [a1,hF.turns]
  have ht0:s.turns=[]:=by rw [hs];rfl
  have hp0:s.pool=List.replicate (na+1) m32:=by rw [hs];rfl
  rw [ht0,hp0]
  intro l hl v hv
  have hlm:l=m32:=by
   rcases List.mem_append.1 hl with hl|hl
   ·exact List.eq_of_mem_replicate hl
   ·exact List.mem_singleton.1 hl
  subst hlm
  have:=List.eq_of_mem_replicate hv
  simp;omega
 all_goals
  rw [hF.accs,hs] at hx
  cases hx
theorem stepF_p (s:PRun) (n j:Nat) (t:PTask) (c:PCall) (st:Stp) (time:Int):(stepF s n j t c st time).2.p=s.p:=by
 have hs6:=startF_fx s (cdAt s.p.codes st.task) (givL c st.vars) (s.pool.getD t.clk []) st.n n t.canc
 have hs11:=stopF_fx s n
 unfold stepF
 by_cases h1:st.op=1
 ·rw [if_pos h1]
  rfl
 rw [if_neg h1]
 by_cases h2:st.op=2
 ·rw [if_pos h2]
  by_cases hl:0≤(objAt s (varN c st.w)).2
  ·rw [if_pos hl];rfl
  ·rw [if_neg hl];rfl
 rw [if_neg h2]
 by_cases h3:st.op=3
 ·rw [if_pos h3]
  rfl
 rw [if_neg h3]
 by_cases h4:st.op=4
 ·rw [if_pos h4]
  rfl
 rw [if_neg h4]
 by_cases h5:st.op=5
 ·rw [if_pos h5]
  rfl
 rw [if_neg h5]
 by_cases h6:st.op=6
 ·rw [if_pos h6]
  exact hs6.p
 rw [if_neg h6]
 by_cases h7:st.op=7
 ·rw [if_pos h7]
  by_cases hl:ovr s (kidN t st.n)=true
  ·rw [if_pos hl]
  ·rw [if_neg hl];rfl
 rw [if_neg h7]
 by_cases h8:st.op=8
 ·rw [if_pos h8]
  rfl
 rw [if_neg h8]
 by_cases h9:st.op=9
 ·rw [if_pos h9]
  by_cases hl:(cdAt s.p.methods st.task).steps.length=0
  ·rw [if_pos hl];rfl
  ·rw [if_neg hl];rfl
 rw [if_neg h9]
 by_cases h10:st.op=10
 ·rw [if_pos h10]
  rfl
 rw [if_neg h10]
 by_cases h11:st.op=11
 ·rw [if_pos h11]
  by_cases hl:t.canc=true
  ·rw [if_pos hl];exact hs11.p
  ·rw [if_neg hl]
 rw [if_neg h11]
theorem turnX_p {s:PRun} {n j:Nat} {c:PCall} {st:Stp}:(turnX s n j c st).p=s.p:=by
 have hZ:=zs_turnB s n c st
 unfold turnX
 obtain ⟨s9,hs9⟩:∃s9,s9=turnB s n c st:=⟨_,rfl⟩
 rw [← hs9] at hZ ⊢
 split
 ·rw [(stopF_fx s9 n).p,hZ.p]
 have a1:=stepF_p s9 n j (tkAt s9 n) c st s.turns.length
 obtain ⟨r,hr⟩:∃r,r=stepF s9 n j (tkAt s9 n) c st s.turns.length:=⟨_,rfl⟩
 rw [← hr] at a1 ⊢
 split
 ·rw [a1,hZ.p]
 unfold turnG
 obtain ⟨s11,hs11⟩:∃s11,s11=if 0≤c.actor∧st.op≠12∧st.op≠9∧c.pc≠(c.code.steps.length:Int)-1 then hasS r.2 n c.actor else r.2:=⟨_,rfl⟩
 rw [← hs11]
 have e1:s11.p=r.2.p:=by rw [hs11];split<;>rfl
 rw [(goOnF_fx (S:=settleF (n+1)) (fun s m=>settleF_fx (n+1) s m) s11 n j).p,e1,a1,hZ.p]
theorem endF_si {p:Tk} {sched:List Int} (h:okRun p sched) (ha:Acc1 p):SI (endF p sched):=by
 have key:Acc1 (endF p sched).p∧SI (endF p sched):=by
  refine endF_ind (P:=fun s=>Acc1 s.p∧SI s) (fun s u g=>by
   obtain ⟨g1,own,a,b,c⟩:=g
   exact ⟨g1,own,⟨a.fr,a.ao,a.ln,a.cl⟩,⟨b.lt,b.fr,b.ac,b.be,b.ob⟩,⟨c.ck,c.ac⟩⟩) (fun {s n j t c st l k i} hT g=>?_) h fun cd hcd hG=>?_
  ·refine ⟨?_,turn_si hT g.1 g.2⟩
   rw [turnX_p];exact g.1
  ·refine ⟨?_,newF_si hcd h.1 hG⟩
   have hF:=startF_fx (nwS p sched (p.actors.toNat+cd.params.toNat) p.actors.toNat (List.replicate (p.actors.toNat+1) m32)) cd (varsN p.actors.toNat cd.params.toNat) m32 0 (-1) false
   unfold newF
   rw [hF.p];exact ha
 exact key.2
end Go.Ab
set_option maxHeartbeats 4000000
namespace Go.Ab
open Go Go.Ab Go.Proofs Go.Ab.Ty
theorem endF_sorted {p:Tk} {sched:List Int} (h:okRun p sched):(endF p sched).accs.Pairwise (fun x y=>x.time≤y.time):=by
 have h1:(endF p sched).accs.Pairwise (fun x y=>x.time≤y.time)∧∀x∈(endF p sched).accs,x.time<(endF p sched).turns.length:=by
  refine endF_ind (P:=fun s=>s.accs.Pairwise (fun x y=>x.time≤y.time)∧∀x∈s.accs,x.time<(s.turns.length:Int)) (fun s u g=>g) (fun {s n j t c st l k i} hT g=>?_) h fun cd hcd hG=>?_
  ·obtain ⟨⟨l,a1,a2⟩,a3,a4⟩:=turnX_accs (s:=s) (n:=n) (j:=j) (c:=c) (st:=st)
   obtain ⟨g1,g2⟩:=g
   have e:(turnX s n j c st).turns.length=s.turns.length+1:=by rw [a3];simp
   refine ⟨?_,fun x hx=>?_⟩
   ·rw [a1,List.pairwise_append]
    refine ⟨g1,?_,fun x hx y hy=>?_⟩
    ·rw [List.pairwise_iff_getElem]
     intro q r hq hr _
     have e1:=a2 _ (List.getElem_mem hq)
     have e2:=a2 _ (List.getElem_mem hr)
     omega
    ·have:=g2 x hx
     have:=a2 y hy
     omega
   ·rw [e]
    rw [a1] at hx
    rcases List.mem_append.1 hx with hx|hx
    ·have:=g2 x hx;omega
    ·have:=a2 x hx;omega
  ·have hF:=startF_fx (nwS p sched (p.actors.toNat+cd.params.toNat) p.actors.toNat (List.replicate (p.actors.toNat+1) m32)) cd (varsN p.actors.toNat cd.params.toNat) m32 0 (-1) false
   unfold newF
   have e0:(nwS p sched (p.actors.toNat+cd.params.toNat) p.actors.toNat (List.replicate (p.actors.toNat+1) m32)).accs=[]:=rfl
   rw [hF.accs,e0]
   exact ⟨List.Pairwise.nil,fun x hx=>by cases hx⟩
 exact h1.1
theorem sound {p:Tk} {sched:List Int} (h:okRun p sched) (ha:Acc1 p) {i j:Nat} {x y:Acc} (hij:i<j) (hx:(endF p sched).accs[i]?=some x) (hy:(endF p sched).accs[j]?=some y) (ho:x.object=y.object) (ht:x.time≠y.time):befF (endF p sched) x.time.toNat y.time.toNat=true∧x.time<y.time:=by
 obtain ⟨own,_,hC,_⟩:=endF_si h ha
 have hs:=endF_sorted h
 obtain ⟨hi,ei⟩:=List.getElem?_eq_some_iff.1 hx
 obtain ⟨hj,ej⟩:=List.getElem?_eq_some_iff.1 hy
 have hle:=List.pairwise_iff_getElem.1 hs i j hi hj hij
 rw [ei,ej] at hle
 have hlt:x.time<y.time:=by omega
 exact ⟨hC.be x (List.mem_of_getElem? hx) y (List.mem_of_getElem? hy) ho hlt,hlt⟩
theorem races_none {p:Tk} {sched:List Int} (h:okRun p sched) (ha:Acc1 p):racesF (endF p sched)=[]:=by
 have hrow:∀i m,i+1+m≤(endF p sched).accs.length→rcRow (endF p sched) i m=[]:=by
  intro i m hm
  unfold rcRow
  rw [List.map_eq_nil_iff,List.filter_eq_nil_iff]
  intro j hj
  rw [List.mem_range'_1] at hj
  have hi:(endF p sched).accs[i]?=some (endF p sched).accs[i]:=List.getElem?_eq_getElem (by omega)
  have hjj:(endF p sched).accs[j]?=some (endF p sched).accs[j]:=List.getElem?_eq_getElem (by omega)
  rw [getD_at hi,getD_at hjj]
  generalize (endF p sched).accs[i]=x at hi
  generalize (endF p sched).accs[j]=y at hjj
  have hb:(rcP x y||befF (endF p sched) x.time.toNat y.time.toNat)=true:=by
   by_cases ho:x.object=y.object
   ·by_cases ht:x.time=y.time
    ·simp [rcP,ht]
    ·rw [(sound h ha (by omega) hi hjj ho ht).1,Bool.or_true]
   ·have:(x.object != y.object)=true:=by simp [ho]
    simp [rcP,this]
  unfold rcB
  rw [hb]
  simp
 unfold racesF rcUp
 rw [List.flatMap_eq_nil_iff.2 fun i hi=>hrow i _ (by rw [List.mem_range] at hi;omega)]
 rfl
end Go.Ab
set_option maxHeartbeats 4000000
namespace Go.Ab
open Go Go.Ab Go.Proofs Go.Ab.Ty
open Classical in
theorem accT_ok (p:Tk):Fn Tryd.prog 36 [encT p] (.bool (decide (Rg.okValid p∧Acc1 p))):=by
 by_cases h:Rg.okValid p
 ·have:=Rg.accepted_ok p h
  rw [show decide (Rg.okValid p∧Acc1 p)=decide ((Rg.numsF p (Rg.nums p)).2.2=0) by simp [h,Acc1]]
  exact this
 ·rw [show decide (Rg.okValid p∧Acc1 p)=false by simp [h]]
  refine Fn.intro' [(0,encT p)] 1 14 Tryd.func36 (by kernel_rfl) rfl rfl rfl rfl rfl ?_
  refine goB ?_
  refine ARun.q1 rfl rfl (ql_callC (Rg.check_bad p h) rfl (by simp +decide only [go_sem]<;>rfl) (by simp (decide:=true) only [go_sem,List.map]) (by simp)) ?_
  simp only [Rg.encRes]
  refine goB ?_
  exact Ret.bool rfl (by simp)
end Go.Ab
set_option maxHeartbeats 4000000
namespace Go.Ab.Rg
open Go Go.Ab Go.Proofs Go.Ab.Ty
instance:Inhabited Cd:=⟨cd0⟩
instance:Inhabited Stp:=⟨stp0⟩
theorem defC:(default:Cd)=cd0:=rfl
theorem defS:(default:Stp)=stp0:=rfl
attribute [go_sem] defC defS
def needF (l:List Int) (v:Int):Int:=if nth 0 l v = -1 then 100 else if nth 0 l v = -2 then 220 else 0
theorem need_ok (l:List Int) (v:Int) (h0:0≤v) (h1:v<l.length):Fn Tryd.prog 119 [.lst (l.map .int),.int v] (.int (needF l v)):=by
 refine Fn.intro' [(0,.lst (l.map .int)),(1,.int v)] 2 13 Tryd.func119 (by kernel_rfl) rfl rfl rfl rfl rfl ?_
 refine goB ?_
 refine ifA (fun h=>?_) (fun h=>?_)
 ·simp at h
  refine goB ?_
  exact Ret.data rfl (by simp [needF,h,packA,lk,show (default:Int)=0 from rfl] at *) (.base _)
 simp at h
 refine goB ?_
 refine ifA (fun h2=>?_) (fun h2=>?_)
 ·simp at h2
  refine goB ?_
  exact Ret.data rfl (by simp [needF,h,h2,packA,lk]) (.base _)
 simp at h2
 refine goB ?_
 exact Ret.data rfl (by simp [needF,h,h2,packA,lk]) (.base _)
end Go.Ab.Rg
