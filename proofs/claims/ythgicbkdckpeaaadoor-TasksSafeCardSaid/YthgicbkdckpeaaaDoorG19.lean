/- Part of the proof. -/
import Derived.Test.YthgicbkdckpeaaaDoorG18
set_option linter.unusedSimpArgs false
set_option linter.unusedVariables false
set_option maxHeartbeats 4000000
namespace Go.Ab
open Go Go.Ab Go.Proofs Go.Ab.Ty
theorem getD_some {α:Type} {l:List α} {i:Nat} {x d:α} (h:l[i]?=some x):l.getD i d=x:=by rw [List.getD_eq_getElem?_getD,h];rfl
theorem kidsJ_ok:∀(ks:List Int) (s:PRun) (e:Nat),Iv s→e<s.pool.length→s.pool.length+ks.length≤MM→Iv (kidsJ s e ks).1∧(kidsJ s e ks).2.1<(kidsJ s e ks).1.pool.length∧(kidsJ s e ks).1={ s with pool:=(kidsJ s e ks).1.pool }∧s.pool.length≤(kidsJ s e ks).1.pool.length∧(kidsJ s e ks).1.pool.length≤s.pool.length+ks.length:=by
 intro ks
 induction ks with
 | nil=>intro s e h he hb;exact ⟨h,he,rfl,Nat.le_refl _,Nat.le_refl _⟩
 | cons k ks ih =>
   intro s e h he hb
   have hdone:Iv s∧e<s.pool.length∧s={ s with pool:=s.pool }∧s.pool.length≤s.pool.length∧s.pool.length≤s.pool.length+(k::ks).length:=⟨h,he,rfl,Nat.le_refl _,by omega⟩
   simp only [List.length_cons] at hb
   simp only [kidsJ]
   split
   ·rename_i tk x h1 h2
    split
    ·have hx:x<s.pool.length:=h.wf.ends _ (List.mem_of_getElem? h2) x rfl
     have hl:∀i,i<s.pool.length→(s.pool.getD i []).length=32:=fun i hi=>by
      rw [getD_some (List.getElem?_eq_getElem hi)];exact h.wf.pl _ (List.getElem_mem hi)
     have hpl:(s.addP (joinL (s.pool.getD e []) (s.pool.getD x []))).pool.length=s.pool.length+1:=by simp [PRun.addP]
     obtain ⟨a1,a2,a3,a4,a5⟩:=ih (s.addP (joinL (s.pool.getD e []) (s.pool.getD x []))) s.pool.length (h.addP (by omega) (by rw [joinL_len (by rw [hl e he,hl x hx]),hl e he])) (by omega) (by omega)
     exact ⟨a1,a2,a3,by omega,by simp only [List.length_cons];omega⟩
    ·exact hdone
   ·exact hdone
theorem Iv.cset {s:PRun} (h:Iv s) {j:Nat} {c c':PCall} (hc:s.calls[j]?=some c) (h1:c'.vars.length≤1000) (h2:c'.code=c.code) (h3:0≤c'.pc∧c'.pc≤c'.code.steps.length) (h4:∀(k:Nat) (t:PTask),s.tasks[k]?=some t→(t.state=1∨0≤t.waits)→t.sarr[t.slen-1]?=some j→c'.pc<c'.code.steps.length):Iv (s.cset j c'):=by
 refine ⟨h.wf.cset h1 (by rw [h2];exact (h.wf.csz c (List.mem_of_getElem? hc)).2),⟨h.kd.kd⟩,h.par,h.stk,h.en,h.wt,h.ed,h.dis,fun x hx=>?_,fun k t i x ht hs hi hx=>?_⟩
 ·rcases List.mem_or_eq_of_mem_set hx with hx|rfl
  ·exact h.pcB x hx
  ·exact h3
 ·by_cases e:j=i
  ·subst e;rw [cset_at hc] at hx;injection hx with hx;subst hx;exact h4 k t ht hs hi
  ·rw [cset_ne e] at hx;exact h.pcI k t i x ht hs hi hx
theorem popS_top {cs:List PCall} {sa:List Nat}:∀ {m j m':Nat},popS cs sa m j=some m'→sa[m]?=some j→m'≤m∧∀(i:Nat) (c:PCall),sa[m']?=some i→cs[i]?=some c→c.pc<c.code.steps.length:=by
 intro m
 induction m with
 | zero =>
   intro j m' h hj
   simp only [popS] at h
   split at h
   ·rename_i c hc
    split at h
    ·cases h
    ·injection h with h;subst h
     exact ⟨Nat.le_refl _,fun i c' h1 h2=>by rw [hj] at h1;injection h1 with h1;subst h1;rw [hc] at h2;injection h2 with h2;subst h2;omega⟩
   ·rename_i hc
    injection h with h;subst h
    exact ⟨Nat.le_refl _,fun i c' h1 h2=>by rw [hj] at h1;injection h1 with h1;subst h1;rw [hc] at h2;cases h2⟩
 | succ m ih =>
   intro j m' h hj
   simp only [popS] at h
   split at h
   ·rename_i c hc
    split at h
    ·split at h
     ·rename_i j' hj'
      obtain ⟨a1,a2⟩:=ih h hj'
      exact ⟨by omega,a2⟩
     ·cases h
    ·injection h with h;subst h
     exact ⟨Nat.le_refl _,fun i c' h1 h2=>by rw [hj] at h1;injection h1 with h1;subst h1;rw [hc] at h2;injection h2 with h2;subst h2;omega⟩
   ·rename_i hc
    injection h with h;subst h
    exact ⟨Nat.le_refl _,fun i c' h1 h2=>by rw [hj] at h1;injection h1 with h1;subst h1;rw [hc] at h2;cases h2⟩
theorem Iv.go {s:PRun} (h:Iv s) {n j:Nat} {t t':PTask} {c:PCall} (ht:s.tasks[n]?=some t) (hj:t.sarr[t.slen-1]?=some j) (hc:s.calls[j]?=some c) (hp:c.pc<c.code.steps.length) (h1:t'.sarr=t.sarr) (h2:t'.slen≤t.slen) (h20:0<t'.slen) (h3:t'.kids=t.kids) (h4:t'.par=t.par) (h5:t'.clk=t.clk) (h6:t'.beh=t.beh)
 (h7:t'.state<3) (h8:t'.waits<0) (h9:t'.ending=0∨3≤t'.ending) (h10:t'.state=1→∀(i:Nat) (x:PCall),t.sarr[t'.slen-1]?=some i→(s.cset j { c with pc:=c.pc+1 }).calls[i]?=some x→x.pc<x.code.steps.length):Iv ((s.cset j { c with pc:=c.pc+1 }).tset n t'):=by
 obtain ⟨a1,a2,a3,a4⟩:=h.wf.tsk t (List.mem_of_getElem? ht)
 have hs0:=h.stk n t ht
 obtain ⟨t0,ht0⟩:∃t0:PTask,t0={ t with state:=2,waits:=-1 }:=⟨_,rfl⟩
 have i1:Iv (s.tset n t0):=h.tset ht (by rw [ht0]) (by rw [ht0];exact Nat.le_refl _) (by rw [ht0];exact hs0) (by rw [ht0]) (by rw [ht0]) (by rw [ht0];exact a3) (by rw [ht0];exact a4) (by rw [ht0];intro e;simp at e) (by rw [ht0];intro e;simp at e) (by rw [ht0];exact h.ed n t ht) (by rw [ht0];intro e;simp at e)
 have i2:Iv ((s.tset n t0).cset j { c with pc:=c.pc+1 }):=i1.cset hc (h.wf.csz c (List.mem_of_getElem? hc)).1 rfl (by have:=h.pcB c (List.mem_of_getElem? hc);simp only;omega) fun k u hu hs hi=>by
  by_cases e:n=k
  ·subst e;rw [tset_at ht] at hu;injection hu with hu;subst hu;rw [ht0] at hs;simp at hs
  ·rw [tset_ne e] at hu
   have:=(h.dis n t k u (t.slen-1) (u.slen-1) j ht hu (by omega) (by have:=h.stk k u hu;omega) hj hi).1
   exact absurd this e
 have ht0':((s.tset n t0).cset j { c with pc:=c.pc+1 }).tasks[n]?=some t0:=tset_at ht
 have i3:=i2.tset (t':=t') ht0' (by rw [ht0];exact h1) (by rw [ht0];exact h2) h20 (by rw [ht0];exact h3) (by rw [ht0];exact h4) (by rw [h5];exact a3) (by rw [h6];exact a4) (fun e=>by omega) (fun e=>by omega) h9 (fun e i x hi hx=>by
  rcases e with e|e
  ·exact h10 e i x (by rw [ht0] at hi;exact hi) hx
  ·omega)
 have he:((s.tset n t0).cset j { c with pc:=c.pc+1 }).tset n t'=(s.cset j { c with pc:=c.pc+1 }).tset n t':=by simp [PRun.tset,PRun.cset]
 rw [← he];exact i3
structure Sb (s s':PRun) (f:Nat):Prop where
 tl:s'.tasks.length=s.tasks.length
 cl:s'.calls.length=s.calls.length
 pl:s'.pool.length≤s.pool.length+1001*f
 bl:s'.behs.length≤s.behs.length+f
def Okf (S:PRun→Nat→PRun) (f:Nat):Prop:=∀(s:PRun) (n:Nat),Iv s→s.pool.length+1001*f≤MM→s.behs.length+f≤MM→Iv (S s n)∧Sb s (S s n) f
theorem goOnF_iv {S:PRun→Nat→PRun} {f:Nat} (hS:Okf S f) {s:PRun} (h:Iv s) {n j:Nat} {t:PTask} {c:PCall} (ht:s.tasks[n]?=some t) (hst:t.state<3) (hwt:t.waits<0) (hj:t.sarr[t.slen-1]?=some j) (hc:s.calls[j]?=some c) (hp:c.pc<c.code.steps.length)
 (hb1:s.pool.length+1001*f≤MM) (hb2:s.behs.length+f≤MM):Iv (goOnF S s n j)∧Sb s (goOnF S s n j) f:=by
 have hs0:=h.stk n t ht
 have hcl:(s.cset j { c with pc:=c.pc+1 }).calls.length=s.calls.length:=by simp [PRun.cset]
 unfold goOnF
 rw [ht,hc]
 simp only
 cases hpop:popS (s.cset j { c with pc:=c.pc+1 }).calls t.sarr (t.slen-1) j with
 | none =>
   have i1:=h.go (t':=clo { t with slen:=1 } 3) ht hj hc hp rfl (by show 1≤_;omega) (by show 0<1;omega) rfl rfl rfl rfl (by show (2:Int)<3;omega) hwt (.inr (by show (3:Int)≤3;omega)) (fun e=>by have:(2:Int)=1:=e;omega)
   obtain ⟨b1,b2⟩:=hS _ n i1 hb1 hb2
   exact ⟨b1,⟨by rw [b2.tl,tset_len];rfl,by rw [b2.cl];exact hcl,b2.pl,b2.bl⟩⟩
 | some m =>
   obtain ⟨p1,p2⟩:=popS_top hpop hj
   have i1:=h.go (t':={ t with slen:=m+1 }) ht hj hc hp rfl (by show m+1≤_;omega) (by show 0<m+1;omega) rfl rfl rfl rfl hst hwt (h.ed n t ht) (fun _ i x hi hx=>p2 i x hi hx)
   exact ⟨i1,⟨by rw [tset_len];rfl,hcl,by show s.pool.length≤_;omega,by show s.behs.length≤_;omega⟩⟩
end Go.Ab
set_option maxHeartbeats 4000000
namespace Go.Ab
open Go Go.Ab Go.Proofs Go.Ab.Ty
theorem enS_at {s:PRun} {n e:Nat} (h:n<s.ends.length):(s.enS n e).ends[n]?=some (some e):=by
 unfold PRun.enS;simp only;rw [List.getElem?_set_self h]
theorem Iv.end {s:PRun} (h:Iv s) {n e:Nat} {t:PTask} (ht:s.tasks[n]?=some t) (he:e<s.pool.length) (hE:t.ending≠0):Iv ((s.enS n e).tset n { t with state:=t.ending }):=by
 obtain ⟨a1,a2,a3,a4⟩:=h.wf.tsk t (List.mem_of_getElem? ht)
 have hed:=h.ed n t ht
 have hn:n<s.ends.length:=by rw [h.wf.endl];exact (List.getElem?_eq_some_iff.1 ht).1
 exact (h.enS he).tset (s:=s.enS n e) (t:=t) ht rfl (Nat.le_refl _) (h.stk n t ht) rfl rfl a3 a4 (fun _=>⟨e,enS_at hn⟩) (h.wt n t ht) hed (fun g j c=>h.pcI n t j c ht (by
  rcases g with g|g
  ·have:t.ending=1:=g
   omega
  ·exact .inr g))
theorem topJ_at {s:PRun} (h:Iv s) {p:Nat} {tp:PTask} (ht:s.tasks[p]?=some tp):∃c,tp.sarr[tp.slen-1]?=some (topJ tp)∧s.calls[topJ tp]?=some c:=by
 obtain ⟨a1,a2,a3,a4⟩:=h.wf.tsk tp (List.mem_of_getElem? ht)
 have:=h.stk p tp ht
 have hl:tp.slen-1<tp.sarr.length:=by omega
 have h1:tp.sarr[tp.slen-1]?=some (topJ tp):=by unfold topJ;rw [List.getElem?_eq_getElem hl,getD_some (List.getElem?_eq_getElem hl)]
 exact ⟨_,h1,List.getElem?_eq_getElem (a1 _ (List.mem_of_getElem? h1))⟩
structure Wk1 (s s':PRun) (p:Nat):Prop where
 iv:Iv s'
 tl:s'.tasks.length=s.tasks.length
 cl:s'.calls=s.calls
 pl:s'.pool.length≤s.pool.length+1
 bl:s'.behs.length=s.behs.length+1
theorem wakeT_iv {s:PRun} (h:Iv s) {p e:Nat} {tp:PTask} (ht:s.tasks[p]?=some tp) (hw:0≤tp.waits) (he:e<s.pool.length) (hb:s.behs.length<MM):Wk1 s (wakeT s p tp e) p:=by
 obtain ⟨a1,a2,a3,a4⟩:=h.wf.tsk tp (List.mem_of_getElem? ht)
 refine ⟨(h.addB hb he).tset (s:=s.addB [e]) (t:=tp) ht rfl (Nat.le_refl _) (h.stk p tp ht) rfl rfl a3 (fun b hb=>?_) (fun g=>absurd g (by show ¬(3:Int)≤1;omega)) (fun g=>absurd g (by show ¬(0:Int) ≤ -1;omega)) (h.ed p tp ht) (fun _ j c hj hc=>h.pcI p tp j c ht (.inr hw) hj hc),by unfold wakeT;rw [tset_len];rfl,rfl,Nat.le_succ _,by simp [wakeT,PRun.tset,PRun.addB]⟩
 ·injection hb with hb
  simp [PRun.addB];omega
theorem wakeP_iv {s:PRun} (h:Iv s) {p e:Nat} {tp:PTask} (ht:s.tasks[p]?=some tp) (hw:0≤tp.waits) (he:e<s.pool.length) (hb:s.behs.length<MM) (hp:s.pool.length<MM):Wk1 s (wakeP s p tp e) p:=by
 obtain ⟨a1,a2,a3,a4⟩:=h.wf.tsk tp (List.mem_of_getElem? ht)
 have h1:=wakeT_iv h ht hw he hb
 unfold wakeP
 split
 ·rename_i c hc
  split
  ·have hl:∀i,i<s.pool.length→(s.pool.getD i []).length=32:=fun i hi=>by
    rw [getD_some (List.getElem?_eq_getElem hi)];exact h.wf.pl _ (List.getElem_mem hi)
   have ht2:((wakeT s p tp e).addP (joinL (s.pool.getD tp.clk []) (s.pool.getD e []))).tasks[p]?=some { tp with waits:=-1,state:=1,beh:=some s.behs.length }:=tset_at ht
   have i2:=(h1.iv.addP (l:=joinL (s.pool.getD tp.clk []) (s.pool.getD e [])) hp (by rw [joinL_len (by rw [hl _ a3,hl e he]),hl _ a3])).tset (t':={ tp with waits:=-1,state:=1,beh:=some s.behs.length,clk:=s.pool.length }) ht2 rfl (Nat.le_refl _) (h.stk p tp ht) rfl rfl (by simp [PRun.addP,wakeT,PRun.tset,PRun.addB]) (fun b hb=>by injection hb with hb;simp [PRun.addP,wakeT,PRun.tset,PRun.addB];omega) (fun g=>absurd g (by show ¬(3:Int)≤1;omega)) (fun g=>absurd g (by show ¬(0:Int) ≤ -1;omega)) (h.ed p tp ht) (fun _ j c hj hc=>h.pcI p tp j c ht (.inr hw) hj hc)
   exact ⟨i2,by simp [PRun.addP,wakeT,PRun.tset,PRun.addB],rfl,by simp [PRun.addP,wakeT,PRun.tset,PRun.addB],by simp [PRun.addP,wakeT,PRun.tset,PRun.addB]⟩
  ·exact h1
 ·exact h1
theorem wakeP_at {s:PRun} {p e:Nat} {tp:PTask} (ht:s.tasks[p]?=some tp):∃t,(wakeP s p tp e).tasks[p]?=some t∧t.state=1∧t.waits = -1∧t.sarr=tp.sarr∧t.slen=tp.slen:=by
 have h1:(wakeT s p tp e).tasks[p]?=some { tp with waits:=-1,state:=1,beh:=some s.behs.length }:=tset_at ht
 unfold wakeP
 split
 ·split
  ·exact ⟨_,tset_at (s:=(wakeT s p tp e).addP _) h1,rfl,rfl,rfl,rfl⟩
  ·exact ⟨_,h1,rfl,rfl,rfl,rfl⟩
 ·exact ⟨_,h1,rfl,rfl,rfl,rfl⟩
theorem settleF_iv:∀f:Nat,Okf (settleF f) f:=by
 intro f
 induction f with
 | zero=>intro s n h _ _;exact ⟨h,⟨rfl,rfl,Nat.le_refl _,Nat.le_refl _⟩⟩
 | succ f ih =>
   intro s n h hb1 hb2
   have hdone:Iv s∧Sb s s (f+1):=⟨h,⟨rfl,rfl,by omega,by omega⟩⟩
   simp only [settleF]
   split
   ·exact hdone
   ·rename_i t ht
    split
    ·exact hdone
    ·rename_i hcl
     obtain ⟨a1,a2,a3,a4⟩:=h.wf.tsk t (List.mem_of_getElem? ht)
     have hkl:=(h.wf.tsz t (List.mem_of_getElem? ht)).2
     obtain ⟨k1,k2,k3,k4,k5⟩:=kidsJ_ok t.kids s t.clk h a3 (by omega)
     split
     ·rename_i s1 e hk
      rw [hk] at k1 k2 k3 k4 k5
      simp only at k1 k2 k3 k4 k5
      exact ⟨k1,⟨by rw [k3],by rw [k3],by omega,by rw [k3];simp only;omega⟩⟩
     ·rename_i s1 e hk
      rw [hk] at k1 k2 k3 k4 k5
      simp only at k1 k2 k3 k4 k5
      have htl:s1.tasks=s.tasks:=by rw [k3]
      have hcll:s1.calls=s.calls:=by rw [k3]
      have hbl:s1.behs=s.behs:=by rw [k3]
      have ht1:s1.tasks[n]?=some t:=by rw [htl];exact ht
      have i2:=k1.end ht1 k2 (fun g=>hcl (.inl g))
      have l2:((s1.enS n e).tset n { t with state:=t.ending }).tasks.length=s.tasks.length:=by rw [tset_len];show s1.tasks.length=_;rw [htl]
      split
      ·exact ⟨i2,⟨l2,by show s1.calls.length=_;rw [hcll],by show s1.pool.length≤_;omega,by show s1.behs.length≤_;rw [hbl];omega⟩⟩
      ·rename_i hpar
       have hs1:Iv s1∧Sb s s1 (f+1):=⟨k1,⟨by rw [htl],by rw [hcll],by omega,by rw [hbl];omega⟩⟩
       split
       ·exact hs1
       ·rename_i tp htp
        have hpn:t.par.toNat≠n:=by
         rcases h.par n t ht with e1|⟨p,e1,e2⟩
         ·omega
         ·rw [e1];simp;omega
        have htp2:((s1.enS n e).tset n { t with state:=t.ending }).tasks[t.par.toNat]?=some tp:=by rw [tset_ne (fun g=>hpn g.symm)];exact htp
        have hb1':s1.pool.length+1+1001*f≤MM:=by omega
        split
        ·rename_i hwt
         have hw:=wakeP_iv (e:=e) i2 htp2 (by omega) k2 (by show s1.behs.length<_;rw [hbl];omega) (by show s1.pool.length<_;omega)
         obtain ⟨tq,q1,q2,q3,q4,q5⟩:=wakeP_at (e:=e) htp2
         obtain ⟨c,c1,c2⟩:=topJ_at i2 htp2
         have hc3:c.pc<c.code.steps.length:=i2.pcI _ tp _ c htp2 (.inr (by omega)) c1 c2
         have hpb:(wakeP ((s1.enS n e).tset n { t with state:=t.ending }) t.par.toNat tp e).pool.length≤s1.pool.length+1:=hw.pl
         have hbb:(wakeP ((s1.enS n e).tset n { t with state:=t.ending }) t.par.toNat tp e).behs.length=s.behs.length+1:=by rw [hw.bl];show s1.behs.length+1=_;rw [hbl]
         obtain ⟨g1,g2⟩:=goOnF_iv ih hw.iv q1 (by omega) (by omega) (by rw [q4,q5];exact c1) (by rw [hw.cl];exact c2) hc3 (by omega) (by omega)
         exact ⟨g1,⟨by rw [g2.tl,hw.tl,l2],by rw [g2.cl,hw.cl];show s1.calls.length=_;rw [hcll],by have:=g2.pl;omega,by have:=g2.bl;omega⟩⟩
        ·obtain ⟨g1,g2⟩:=ih _ t.par.toNat i2 (by show s1.pool.length+_≤_;omega) (by show s1.behs.length+_≤_;rw [hbl];omega)
         exact ⟨g1,⟨by rw [g2.tl,l2],by rw [g2.cl];show s1.calls.length=_;rw [hcll],by have:=g2.pl;have e2:((s1.enS n e).tset n { t with state:=t.ending }).pool.length=s1.pool.length:=rfl;omega,by have:=g2.bl;have e2:((s1.enS n e).tset n { t with state:=t.ending }).behs.length=s.behs.length:=(by show s1.behs.length=_;rw [hbl]);omega⟩⟩
end Go.Ab
set_option maxHeartbeats 4000000
namespace Go.Ab
open Go Go.Ab Go.Proofs Go.Ab.Ty
def Okw (S:PRun→Nat→PRun) (f:Nat):Prop:=∀(s:PRun) (n:Nat),Iv s→n<s.tasks.length→n<f→s.pool.length+1001*f≤MM→s.behs.length+f≤MM→FnH Tryd.prog 122 [ptR,.int n] (HH s) (.tup []) (HH (S s n))
theorem pl_join0 {s:PRun} (hw:WF s) {ρ:Operand→AV} {c:Call} {fx:Operand} {x y:Nat} {a b:List Int} (hM:s.pool.length<MM) (hx:s.pool[x]?=some a) (hy:s.pool[y]?=some b)
 (hc:c.callee=.value fx) (hfx:ρ fx=.clo 87 []) (ha:c.args.toList.map ρ++[]=[ownC x,ownC y]):PL Tryd.prog (HH s) ρ (.call c) (ownC s.pool.length) (HH (s.addP (joinL a b))):=by
 have:=pl_join hw (T:=[]) hM hx hy (by simp) hc hfx ha
 simpa using this
theorem addP_with {s z:PRun} (h:z={ s with pool:=z.pool }) (l:List Int):z.addP l={ s with pool:=(z.addP l).pool }:=by rw [h];rfl
theorem goOnF_walk {S:PRun→Nat→PRun} {f:Nat} (hS:Okf S f) (hSw:Okw S f) {s:PRun} (h:Iv s) {n j:Nat} {t:PTask} {c:PCall} (ht:s.tasks[n]?=some t) (hnf:n<f) (hst:t.state<3) (hwt:t.waits<0) (hj:t.sarr[t.slen-1]?=some j) (hc:s.calls[j]?=some c) (hp:c.pc<c.code.steps.length)
 (hb1:s.pool.length+1001*f≤MM) (hb2:s.behs.length+f≤MM):FnH Tryd.prog 92 [ptR,.int n,ptC j] (HH s) (.tup []) (HH (goOnF S s n j)):=by
 have hs0:=h.stk n t ht
 obtain ⟨m,hm⟩:∃m,t.slen=m+1:=⟨t.slen-1,by omega⟩
 have hj':t.sarr[m]?=some j:=by rw [hm] at hj;exact hj
 have hG:=goOnF_iv hS h ht hst hwt hj hc hp hb1 hb2
 refine goOn_ok h.wf ht hm hj' hc (fun c hc=>by have:=h.pcB c hc;have:=(h.wf.csz c hc).2;omega) hG.1.wf (fun hn=>?_) (fun m' hm'=>?_)
 ·have i1:=h.go (t':=clo { t with slen:=1 } 3) ht hj hc hp rfl (by show 1≤_;omega) (by show 0<1;omega) rfl rfl rfl rfl (by show (2:Int)<3;omega) hwt (.inr (by show (3:Int)≤3;omega)) (fun e=>by have:(2:Int)=1:=e;omega)
  have h2:=hSw _ n i1 (by rw [tset_len];exact (List.getElem?_eq_some_iff.1 ht).1) hnf hb1 hb2
  have he:goOnF S s n j=S ((s.cset j { c with pc:=c.pc+1 }).tset n (clo { t with slen:=1 } 3)) n:=by
   unfold goOnF;rw [ht,hc];simp only;rw [hm,Nat.add_sub_cancel,hn]
  rw [he];exact h2
 ·unfold goOnF;rw [ht,hc];simp only;rw [hm,Nat.add_sub_cancel,hm']
theorem settleF_walk:∀f:Nat,Okw (settleF f) f:=by
 intro f
 induction f with
 | zero=>intro s n _ _ h;omega
 | succ f ih =>
   intro s n h hn hnf hb1 hb2
   have hw:=h.wf
   obtain ⟨t,ht⟩:∃t,s.tasks[n]?=some t:=⟨_,List.getElem?_eq_getElem hn⟩
   obtain ⟨g1,g2,g3,g4,_,g6⟩:=hw.k ht
   obtain ⟨a1,a2,a3,a4⟩:=hw.tsk t (List.mem_of_getElem? ht)
   have hkl:=(hw.tsz t (List.mem_of_getElem? ht)).2
   have io:=over_ok ht g1
   have hwf:=(settleF_iv (f+1) s n h hb1 hb2).1.wf
   have hF:=Hid.mk (show settleF (f+1) s n=_ from rfl)
   obtain ⟨R,hR⟩:∃R,R=settleF (f+1) s n:=⟨_,rfl⟩
   rw [← hR] at hwf ⊢
   have hRs:=Hid.mk hR
   clear hR hF
   have hlk:=lenFk (H:=HH s) (k:=n) (l:=t.kids) (by simp +decide only [go_sem, *])
   simp +decide only [go_sem] at hlk
   have h':=Hid.mk h
   have ih':=Hid.mk ih
   clear h ih
   refine FnH.intro' [(0,ptR),(1,.int n)] 2 155 NN Tryd.func122 (by kernel_rfl) rfl rfl rfl rfl rfl (HH_len s) ?_
   refine goF ?_
   refine ARun.q1 rfl rfl (ql_ixo (n:=n) (b:=ix .tk) (by simp +decide only [go_sem, *]<;>rfl) (by simp +decide only [go_sem, *]<;>rfl) Tryd.underlying80 (by simp +decide only [go_sem, *]<;>rfl) (by simp) hn (by simp +decide only [go_sem, *]<;>rfl)) ?_
   refine goF ?_
   by_cases hE0:t.ending=0
   ·have hd1:(t.ending==0)=true:=by simp [hE0]
    refine gxA (.bool false) ?_ (hx:=by simp [allL,gc,hE0])
    refine goF ?_
    refine ift_ ?_ rfl rfl
    refine goF ?_
    have hRe:R=s:=by rw [hRs.out];simp only [settleF,ht];rw [if_pos (.inl hE0)]
    rw [hRe]
    exact .runV [] hw (vs:=[]) (by show resVals _ _ []=_;simp +decide only [resVals,resVal,ldPtr,ldE,go_sem, *]<;>rfl) (by simp) rfl (.pu (Pu.tup (by simp)))
   have hd1:(t.ending==0)=false:=by simp [hE0]
   refine ARun.gpl rfl rfl (by simp +decide only [go_sem, *]<;>rfl) rfl (pl_callW io (by simp) rfl (by simp +decide only [go_sem, *]<;>rfl) (by simp +decide only [go_sem, *]<;>rfl)) ?_
   refine goF ?_
   by_cases hE3:3≤t.state
   ·have hd3:decide (3≤t.state)=true:=by simp [hE3]
    refine ift_ ?_ rfl (by simp +decide only [go_sem, *]<;>rfl)
    refine goF ?_
    have hRe:R=s:=by rw [hRs.out];simp only [settleF,ht];rw [if_pos (.inr hE3)]
    rw [hRe]
    exact .runV [] hw (vs:=[]) (by show resVals _ _ []=_;simp +decide only [resVals,resVal,ldPtr,ldE,go_sem, *]<;>rfl) (by simp) rfl (.pu (Pu.tup (by simp)))
   have hd3:decide (3≤t.state)=false:=by simp [hE3]
   refine iff_ ?_ rfl (by simp +decide only [go_sem, *]<;>rfl)
   refine goF ?_
   have hkd:=h'.out.kd.kd n t ht
   refine AWp.loop (J:=fun x:Nat × PRun × Nat=>x.1≤t.kids.length∧x.2.1={ s with pool:=x.2.1.pool }∧Iv x.2.1∧x.2.2<x.2.1.pool.length∧x.2.1.pool.length≤s.pool.length+x.1∧kidsJ s t.clk t.kids=kidsJ x.2.1 x.2.2 (t.kids.drop x.1)) (fun x=>⟨[(0,ptR),(1,.int n),(4,ptK n),(5,ownC x.2.2),(33,kidV n t.kids),(34,.int t.kids.length),(35,.int x.1)],HH x.2.1⟩) (fun x=>t.kids.length-x.1) (0,s,t.clk) ⟨Nat.zero_le _,rfl,h'.out,a3,Nat.le_refl _,rfl⟩ .wf ?_
   rintro ⟨i,si,e⟩ ⟨x1,x2,x3,x4,x5,x6⟩
   simp only at x1 x2 x3 x4 x5 x6
   have x2':=Hid.mk x2
   have x3':=Hid.mk x3
   have x6':=Hid.mk x6
   have hwi:=x3.wf
   have hti:si.tasks[n]?=some t:=by rw [x2];exact ht
   have hli:Hid (si.tasks.length=s.tasks.length):=⟨by rw [x2]⟩
   have ht':=Hid.mk ht
   clear x2 x3 x6 io hlk ht g6
   obtain ⟨f1,f2,f3,f4,fn,f6⟩:=hwi.k hti
   refine goF ?_
   refine ifA (fun hd=>?_) (fun hd=>?_)
   ·simp at hd
    obtain ⟨k,hkk⟩:∃k,t.kids[i]?=some k:=⟨_,List.getElem?_eq_getElem hd⟩
    obtain ⟨j,rfl,hj1,hj2⟩:=hkd k (List.mem_of_getElem? hkk)
    have hkm:(t.kids.map AV.int)[i]?=some (.int j):=by rw [List.getElem?_map,hkk];rfl
    have hkv:=kidV_own (k:=n) hkk
    obtain ⟨tj,htj⟩:∃tj,si.tasks[j]?=some tj:=⟨_,List.getElem?_eq_getElem (by rw [hli.out];exact hj2)⟩
    obtain ⟨y1,y2,y3,y4,yn,y6⟩:=hwi.k htj
    have io:=over_ok htj y1
    have hdr:Hid (t.kids.drop i=(j:Int)::t.kids.drop (i+1)):=⟨by rw [List.drop_eq_getElem_cons hd];congr 1;rw [List.getElem?_eq_getElem hd] at hkk;injection hkk⟩
    clear hkk hkd
    refine goF ?_
    refine ARun.q1 rfl rfl (ql_ixo (n:=i) (b:=ix (.kid n)) (by simp +decide only [go_sem, *]<;>rfl) (by simp +decide only [go_sem, *]<;>rfl) Tryd.underlying25 (by simp +decide only [go_sem, *]<;>rfl) (by simp) hd (by simp +decide only [go_sem, *]<;>rfl)) ?_
    refine goF ?_
    refine ARun.q1 rfl rfl (ql_ixo (n:=j) (b:=ix .tk) (by simp +decide only [go_sem, *]<;>rfl) (by simp +decide only [go_sem, *]<;>rfl) Tryd.underlying80 (by simp +decide only [go_sem, *]<;>rfl) (by simp) yn (by simp +decide only [go_sem, *]<;>rfl)) ?_
    refine goF ?_
    refine ARun.p1 rfl rfl (pl_callW io (by simp) rfl (by simp +decide only [go_sem, *]<;>rfl) (by simp +decide only [go_sem, *]<;>rfl)) ?_
    refine goF ?_
    by_cases hE3:3≤tj.state
    ·have hd4:decide (3≤tj.state)=true:=by simp [hE3]
     obtain ⟨x,hx⟩:=x3'.out.en j tj htj hE3
     have hxm:(si.ends.map endV)[j]?=some (ownC x):=by rw [List.getElem?_map,hx];rfl
     have hxl:j<si.ends.length:=(List.getElem?_eq_some_iff.1 hx).1
     have hxp:x<si.pool.length:=hwi.ends _ (List.mem_of_getElem? hx) x rfl
     obtain ⟨a,ha⟩:∃a,si.pool[e]?=some a:=⟨_,List.getElem?_eq_getElem x4⟩
     obtain ⟨b,hb⟩:∃b,si.pool[x]?=some b:=⟨_,List.getElem?_eq_getElem hxp⟩
     have hM:si.pool.length<MM:=by omega
     have hJ:Hid (kidsJ si e (t.kids.drop i)=kidsJ (si.addP (joinL a b)) si.pool.length (t.kids.drop (i+1))):=⟨by
      rw [hdr.out];simp only [kidsJ,Int.toNat_natCast,htj,hx];rw [if_pos hE3,getD_some ha,getD_some hb]⟩
     have hIv:Iv (si.addP (joinL a b)):=x3'.out.addP hM (by rw [joinL_len (by rw [(hwi.p ha).2,(hwi.p hb).2])];exact (hwi.p ha).2)
     have hIv':=Hid.mk hIv
     clear hIv
     refine iff_ ?_ rfl (by simp +decide only [go_sem, *]<;>rfl)
     refine goF ?_
     refine ARun.q1 rfl rfl (ql_ixo (n:=j) (b:=ix .en) (by simp +decide only [go_sem, *]<;>rfl) (by simp +decide only [go_sem, *]<;>rfl) Tryd.underlying81 (by simp +decide only [go_sem, *]<;>rfl) (by simp) hxl (by simp +decide only [go_sem, *]<;>rfl)) ?_
     refine goF ?_
     refine ARun.p1 rfl rfl (pl_join0 hwi hM ha hb rfl (by simp +decide only [go_sem, *]<;>rfl) (by simp +decide only [go_sem, *]<;>rfl)) ?_
     refine goF ?_
     rw [wrap_succ (by omega),← hkv]
     exact ⟨(i+1,si.addP (joinL a b),si.pool.length),⟨hd,addP_with x2'.out _,hIv'.out,by simp [PRun.addP],by simp [PRun.addP];omega,x6'.out.trans hJ.out⟩,by show t.kids.length-(i+1)<_;omega,.wf⟩
    ·have hd4:decide (3≤tj.state)=false:=by simp [hE3]
     have hk:kidsJ s t.clk t.kids=(si,e,false):=by
      rw [x6'.out,hdr.out];simp only [kidsJ,Int.toNat_natCast,htj]
      split
      ·rename_i tk x q1 q2
       cases q1
       rw [if_neg hE3]
      ·rfl
     have hRe:R=si:=by rw [hRs.out];simp only [settleF,ht'.out];rw [if_neg (by omega),hk]
     clear hk
     refine ift_ ?_ rfl (by simp +decide only [go_sem, *]<;>rfl)
     refine goF ?_
     rw [hRe]
     exact RetH.runV [] hwi (vs:=[]) (by show resVals _ _ []=_;simp +decide only [resVals,resVal,ldPtr,ldE,go_sem, *]<;>rfl) (by simp) rfl (.pu (Pu.tup (by simp)))
   simp at hd
   obtain rfl:i=t.kids.length:=by omega
   have hk:Hid (kidsJ s t.clk t.kids=(si,e,true)):=⟨by rw [x6'.out,List.drop_length];rfl⟩
   obtain ⟨sA,hz1⟩:=NxS.mk' hti { t with state:=t.ending }
   have ez1:=hz1.hset hti f1 rfl rfl rfl
   have hnl:n<si.ends.length:=by rw [hwi.endl];omega
   have hzl:sA.ends.length=si.ends.length:=by rw [hz1.eq];rfl
   have hz1e:sA.ends=si.ends:=by rw [hz1.eq];rfl
   obtain ⟨sB,hz2⟩:∃sB,sB=(si.enS n e).tset n { t with state:=t.ending }:=⟨_,rfl⟩
   have hz2':Hid (sB=(si.enS n e).tset n { t with state:=t.ending }):=⟨hz2⟩
   have ez2:=HH_enS (s:=sA) (n:=n) (j:=e)
   have hz12:sA.enS n e=sB:=by rw [hz2,hz1.eq];rfl
   rw [hz12,hz1e] at ez2
   have q1:=hz1.tk
   simp only [tskB,behV] at ez1
   have hz1':=Hid.mk hz1
   clear hz2 hz1 hz12 hzl
   refine goF ?_
   refine ARun.q1 rfl rfl (ql_ixo (n:=n) (b:=ix .en) (by simp +decide only [go_sem, *]<;>rfl) (by simp +decide only [go_sem, *]<;>rfl) Tryd.underlying81 (by simp +decide only [go_sem, *]<;>rfl) (by simp) hnl (by simp +decide only [go_sem, *]<;>rfl)) ?_
   refine ARun.p1 rfl rfl (pl_store_own (f:=endV) (l:=si.ends) (b:=ix .en) (tot:=si.ends.length) (i:=n) (ty:=25) (sz:=1) (some e) (by simp +decide only [go_sem, *]<;>rfl) (by simp +decide only [go_sem, *]<;>rfl) (by simp +decide only [go_sem, *]<;>rfl) rfl hnl sz25 rfl (by cases si.ends[n]<;>rfl)) ?_
   have hwB:WF sB:=by rw [hz2'.out];exact (x3'.out.end hti x4 hE0).wf
   have hIB:Hid (Iv sB):=⟨by rw [hz2'.out];exact x3'.out.end hti x4 hE0⟩
   have hpB:Hid (sB.pool=si.pool):=⟨by rw [hz2'.out];rfl⟩
   have hbB:Hid (sB.behs.length=s.behs.length):=⟨by rw [hz2'.out];show si.behs.length=_;rw [x2'.out]⟩
   have htB:sB.tasks[n]?=some { t with state:=t.ending }:=by rw [hz2'.out];exact tset_at (s:=si.enS n e) hti
   have hoB:Hid (∀k,k≠n→sB.tasks[k]?=si.tasks[k]?):=⟨fun k hk=>by rw [hz2'.out,tset_ne (fun e=>hk e.symm)];rfl⟩
   have hlB:Hid (sB.tasks.length=s.tasks.length):=⟨by rw [hz2'.out,tset_len];exact hli.out⟩
   have hparI:=h'.out.par n t ht'.out
   refine goF ?_
   rcases hparI with hpm|⟨p,hpp,hpn⟩
   ·have hd5:decide (t.par<0)=true:=by rw [hpm];rfl
    have hRe:R=sB:=by rw [hRs.out];simp only [settleF,ht'.out];rw [if_neg (by omega),hk.out];simp only;rw [if_pos (by omega),hz2'.out]
    refine ift_ ?_ rfl (by simp +decide only [go_sem, *]<;>rfl)
    refine goF ?_
    rw [hRe]
    exact RetH.runV [] hwB (vs:=[]) (by show resVals _ _ []=_;simp +decide only [resVals,resVal,ldPtr,ldE,go_sem, *]<;>rfl) (by simp) rfl (.pu (Pu.tup (by simp)))
   have hd5:decide (t.par<0)=false:=by rw [hpp];simp
   obtain ⟨tp,htp⟩:∃tp,sB.tasks[p]?=some tp:=⟨_,List.getElem?_eq_getElem (by rw [hlB.out];omega)⟩
   have htpi:Hid (si.tasks[p]?=some tp):=⟨by rw [← hoB.out p (by omega)];exact htp⟩
   obtain ⟨y1,y2,y3,y4,yn,y6⟩:=hwB.k htp
   refine iff_ ?_ rfl (by simp +decide only [go_sem, *]<;>rfl)
   refine goF ?_
   refine drA (k:=8) follows (hr:=?_)
   refine goF ?_
   refine ARun.q1 rfl rfl (ql_ixo (n:=p) (b:=ix .tk) (by simp +decide only [go_sem, *]<;>rfl) (by simp +decide only [go_sem, *]<;>rfl) Tryd.underlying80 (by simp +decide only [go_sem, *]<;>rfl) (by simp) yn (by simp +decide only [go_sem, *]<;>rfl)) ?_
   refine goF ?_
   have hR2:Hid (R=if tp.waits=n then goOnF (settleF f) (wakeP sB p tp e) p (topJ tp) else settleF f sB p):=⟨by
    rw [hRs.out];simp only [settleF,ht'.out];rw [if_neg (by omega),hk.out];simp only
    rw [if_neg (by omega),show t.par.toNat=p by rw [hpp];rfl,htpi.out]
    simp only
    rw [← hz2'.out]⟩
   by_cases hwt:tp.waits=n
   ·have hd6:decide (tp.waits=(n:Int))=true:=by simp [hwt]
    rw [if_pos hwt] at hR2
    have hw0:0≤tp.waits:=by omega
    have hbn:tp.beh=none:=hIB.out.wt p tp htp hw0
    obtain ⟨u1,w1⟩:=NxS.mk' htp { tp with waits:=-1 }
    have ew1:=w1.hset htp y1 rfl rfl rfl
    obtain ⟨u2,w2⟩:=NxS.mk' w1.tk { tp with waits:=-1,state:=1 }
    have ew2:=w2.hset w1.tk y1 rfl rfl rfl
    have v1:=w1.tk
    have v2:=w2.tk
    have hu2:u2=sB.tset p { tp with waits:=-1,state:=1 }:=by rw [w2.eq,w1.eq,tset_tset]
    obtain ⟨r1,r2,r3,r4⟩:=hwB.tsk tp (List.mem_of_getElem? htp)
    have hwu2:WF u2:=by rw [hu2];exact hwB.tset' htp rfl (Nat.le_refl _) rfl rfl rfl
    obtain ⟨nb,hnb⟩:∃nb,nb=sB.behs.length:=⟨_,rfl⟩
    have hu2b:u2.behs.length=nb:=by rw [hu2,hnb];rfl
    have hu2p:u2.pool=sB.pool:=by rw [hu2];rfl
    obtain ⟨u3,hu3⟩:∃u3,u3=u2.addB [e]:=⟨_,rfl⟩
    have v3:u3.tasks[p]?=some { tp with waits:=-1,state:=1 }:=by rw [hu3];exact v2
    obtain ⟨u4,w4⟩:=NxS.mk' v3 { tp with waits:=-1,state:=1,beh:=some nb }
    have ew4:=w4.hset v3 y1 rfl rfl rfl
    have v4:=w4.tk
    have hu4:u4=wakeT sB p tp e:=by rw [w4.eq,hu3,hu2,hnb];simp [wakeT,PRun.tset,PRun.addB]
    have hsl:=hIB.out.stk p tp htp
    obtain ⟨m,hm⟩:∃m,tp.slen=m+1:=⟨tp.slen-1,by omega⟩
    simp only [tskB,behV,hbn,hm] at ew1 ew2 ew4
    have hwt':=Hid.mk hwt
    have hM2:u2.behs.length<MM:=by rw [hu2b,hnb,hbB.out];omega
    have he2:e<u2.pool.length:=by rw [hu2p,hpB.out];exact x4
    have hu2b':=Hid.mk hu2b
    have hu3':=Hid.mk hu3
    have hu4':=Hid.mk hu4
    have w1':=Hid.mk w1
    have w2':=Hid.mk w2
    have w4':=Hid.mk w4
    have hnb':=Hid.mk hnb
    have hu2p':=Hid.mk hu2p
    have hu2':=Hid.mk hu2
    clear hu2b hu3 hu4 w1 w2 w4 hnb hu2p hu2
    refine ift_ ?_ rfl (by simp +decide only [go_sem, *]<;>rfl)
    refine goF ?_
    refine ARun.p1 rfl rfl (pl_beh hwu2 (j:=e) hM2 he2 (by simp +decide only [go_sem, *]<;>rfl) (by simp +decide only [go_sem, *]<;>rfl)) ?_
    rw [hu2b'.out,← hu3'.out]
    refine goF ?_
    obtain ⟨c,c1,c2⟩:=topJ_at hIB.out htp
    have hIW:=wakeP_iv (e:=e) hIB.out htp hw0 (by rw [hpB.out];exact x4) (by rw [hbB.out];omega) (by rw [hpB.out];omega)
    obtain ⟨tq,tq1,tq2,tq3,tq4,tq5⟩:=wakeP_at (e:=e) htp
    have iG:=goOnF_walk (settleF_iv f) ih'.out hIW.iv tq1 (by omega) (by omega) (by omega) (by rw [tq4,tq5];exact c1) (by rw [hIW.cl];exact c2) (hIB.out.pcI p tp _ c htp (.inr hw0) c1 c2) (by have:=hIW.pl;rw [hpB.out] at this;omega) (by have:=hIW.bl;rw [hbB.out] at this;omega)
    have hwW:=hIW.iv.wf
    have hnW:∀k,k≠p→(wakeP sB p tp e).tasks[k]?=sB.tasks[k]?:=fun k hk=>by
     unfold wakeP wakeT
     split
     ·split
      ·rw [tset_ne (fun e=>hk e.symm)];exact tset_ne (fun e=>hk e.symm)
      ·exact tset_ne (fun e=>hk e.symm)
     ·exact tset_ne (fun e=>hk e.symm)
    have htW:(wakeP sB p tp e).tasks[n]?=some { t with state:=t.ending }:=by rw [hnW n (by omega)];exact htB
    obtain ⟨j,hj⟩:∃j,j=topJ tp:=⟨_,rfl⟩
    rw [← hj] at c1 c2 iG hR2
    rw [hm,Nat.add_sub_cancel] at c1
    have hu4c:u4.calls[j]?=some c:=by rw [hu4'.out];exact c2
    have hwu4:WF u4:=by rw [hu4'.out];exact (wakeT_iv hIB.out htp hw0 (by rw [hpB.out];exact x4) (by rw [hbB.out];omega)).iv.wf
    have hup:u4.pool=sB.pool:=by rw [hu4'.out];rfl
    have hWe:Hid (wakeP sB p tp e=if c.pc=(c.code.steps.length:Int)-1 then (u4.addP (joinL (sB.pool.getD tp.clk []) (sB.pool.getD e []))).tset p { tp with waits:=-1,state:=1,beh:=some nb,clk:=u4.pool.length } else u4):=⟨by
     unfold wakeP;rw [← hj,c2,hu4'.out,hnb'.out];rfl⟩
    obtain ⟨W,hW⟩:∃W,W=wakeP sB p tp e:=⟨_,rfl⟩
    rw [← hW] at iG hwW htW hWe hR2
    have hcs:=(hwu4.csz c (List.mem_of_getElem? hu4c)).2
    have hts:=(hwB.tsz tp (List.mem_of_getElem? htp)).1
    obtain ⟨i1,i2⟩:=hwu4.c hu4c
    have hjm:(tp.sarr.map ptC)[m]?=some (ptC j):=by rw [List.getElem?_map,c1];rfl
    have hml:m<tp.sarr.length:=(List.getElem?_eq_some_iff.1 c1).1
    have hwr:IntKind.i64.wrap (((m+1:Nat):Int)-1)=(m:Int):=by rw [wrap_id (by omega) (by omega)];omega
    have hwr2:IntKind.i64.wrap ((c.code.steps.length:Int)-1)=(c.code.steps.length:Int)-1:=wrap_id (by omega) (by omega)
    have c1':=Hid.mk c1
    have hup':=Hid.mk hup
    clear hW hnW hIW tq1 tq2 tq3 tq4 tq5 c1 c2 hj hup
    refine drA (k:=10) follows (hr:=?_)
    refine goF ?_
    refine ARun.q1 rfl rfl (ql_ixo (n:=m) (b:=ix (.stk p)) (by simp +decide only [go_sem, *]<;>rfl) (by simp +decide only [go_sem, *]<;>rfl) Tryd.underlying85 (by simp +decide only [go_sem, *]<;>rfl) (by simp) (by omega) (by simp +decide only [go_sem, *]<;>rfl)) ?_
    refine goF ?_
    refine drA (k:=11) follows (hr:=?_)
    refine goF ?_
    refine AWp.join ⟨[(0,ptR),(4,ptK n),(9,ptC j)],HH W⟩ ?_ ?_
    ·by_cases hce:c.pc=(c.code.steps.length:Int)-1
     ·have hd7:decide (c.pc=(c.code.steps.length:Int)-1)=true:=by simp [hce]
      rw [if_pos hce] at hWe
      obtain ⟨a,ha⟩:∃a,u4.pool[tp.clk]?=some a:=⟨_,List.getElem?_eq_getElem (by rw [hup'.out];exact r3)⟩
      obtain ⟨b,hb⟩:∃b,u4.pool[e]?=some b:=⟨_,List.getElem?_eq_getElem (by rw [hup'.out,hpB.out];exact x4)⟩
      have hM4:u4.pool.length<MM:=by rw [hup'.out,hpB.out];omega
      rw [getD_some (by rw [← hup'.out];exact ha),getD_some (by rw [← hup'.out];exact hb)] at hWe
      obtain ⟨u5,hu5⟩:∃u5,u5=u4.addP (joinL a b):=⟨_,rfl⟩
      have v5:u5.tasks[p]?=some { tp with waits:=-1,state:=1,beh:=some nb }:=by rw [hu5];exact v4
      obtain ⟨u6,w6⟩:=NxS.mk' v5 { tp with waits:=-1,state:=1,beh:=some nb,clk:=u4.pool.length }
      have ew6:=w6.hset v5 y1 rfl rfl rfl
      have hW6:W=u6:=by rw [hWe.out,w6.eq,hu5]
      have hu5':=Hid.mk hu5
      have hce':=Hid.mk hce
      simp only [tskB,behV,hbn,hm] at ew6
      rw [hW6]
      clear hu5 w6 hce
      refine ift_ ?_ rfl (by simp +decide only [go_sem, *]<;>rfl)
      refine goF ?_
      refine ARun.p1 rfl rfl (pl_join0 hwu4 hM4 ha hb rfl (by simp +decide only [go_sem, *]<;>rfl) (by simp +decide only [go_sem, *]<;>rfl)) ?_
      rw [← hu5'.out]
      refine goF ?_
      exact .wf (hH:=ew6)
     ·have hd7:decide (c.pc=(c.code.steps.length:Int)-1)=false:=by simp [hce]
      rw [if_neg hce] at hWe
      refine iff_ ?_ rfl (by simp +decide only [go_sem, *]<;>rfl)
      refine goF ?_
      rw [hWe.out]
      exact .wf
    have hpi:(t.par:Int)=p:=hpp
    obtain ⟨n1,n2,n3,n4,nn,n6⟩:=hwW.k htW
    clear ew1 ew2 ew4 v1 v2 v3 v4
    refine goF ?_
    refine ARun.p1 rfl rfl (pl_callW iG (by simp [HH_len]) rfl (by simp +decide only [go_sem, *]<;>rfl) (by simp +decide only [go_sem, *]<;>rfl)) ?_
    refine goF ?_
    rw [hR2.out]
    rw [hR2.out] at hwf
    exact RetH.runV [] hwf (vs:=[]) (by show resVals _ _ []=_;simp +decide only [resVals,resVal,ldPtr,ldE,go_sem, *]<;>rfl) (by simp) rfl (.pu (Pu.tup (by simp)))
   ·have hd6:decide (tp.waits=(n:Int))=false:=by simp [hwt]
    rw [if_neg hwt] at hR2
    have iS:=ih'.out sB p hIB.out yn (by omega) (by rw [hpB.out];omega) (by rw [hbB.out];omega)
    refine iff_ ?_ rfl (by simp +decide only [go_sem, *]<;>rfl)
    refine goF ?_
    refine ARun.p1 rfl rfl (pl_callW iS (by simp [HH_len]) rfl (by simp +decide only [go_sem, *]<;>rfl) (by simp +decide only [go_sem, *]<;>rfl)) ?_
    refine goF ?_
    rw [hR2.out]
    rw [hR2.out] at hwf
    exact RetH.runV [] hwf (vs:=[]) (by show resVals _ _ []=_;simp +decide only [resVals,resVal,ldPtr,ldE,go_sem, *]<;>rfl) (by simp) rfl (.pu (Pu.tup (by simp)))
end Go.Ab
