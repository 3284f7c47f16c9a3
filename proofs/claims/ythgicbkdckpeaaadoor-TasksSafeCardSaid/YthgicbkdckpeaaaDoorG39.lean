/- Part of the proof. -/
import Derived.Test.YthgicbkdckpeaaaDoorG38
import Derived.Test.YthgicbkdckpeaaaDoorG37
set_option linter.unusedSimpArgs false
set_option linter.unusedVariables false
set_option maxHeartbeats 4000000
namespace Go.Ab
open Go Go.Ab Go.Proofs Go.Ab.Ty
noncomputable def rgc (c:PCall):Rg.Rg:=Rg.regAt (Rg.startF c.code (decide (0≤c.actor))) (c.code.steps.take c.pc.toNat)
theorem rgc_succ {c:PCall} {st:Stp} (h0:0≤c.pc) (h:c.code.steps[c.pc.toNat]?=some st):rgc { c with pc:=c.pc+1 }=Rg.afterR (rgc c) st:=by
 unfold rgc
 simp only
 rw [show (c.pc+1).toNat=c.pc.toNat+1 by omega,List.take_add_one,h]
 exact Rg.regAt_app _ _ _
theorem after_7 {r:Rg.Rg} {st:Stp} (h:st.op=7):Rg.afterR r st=r:=by
 unfold Rg.afterR
 rw [if_neg (by omega),if_neg (by omega),if_neg (by omega),if_neg (by omega),if_neg (by omega),if_neg (by omega)]
def cel (s:PRun) (k i:Nat):Int:=(s.pool.getD k []).getD i (-1)
theorem cel_of {s s':PRun} {k:Nat} (h:s'.pool[k]?=s.pool[k]?) (i:Nat):cel s' k i=cel s k i:=by
 unfold cel;simp only [List.getD_eq_getElem?_getD,h]
theorem joinL_ge {a b:List Int} (h:a.length=b.length) (i:Nat):a.getD i (-1)≤(joinL a b).getD i (-1)∧b.getD i (-1)≤(joinL a b).getD i (-1):=by
 unfold joinL
 simp only [List.getD_eq_getElem?_getD,List.getElem?_zipWith]
 rcases Nat.lt_or_ge i a.length with h1|h1
 ·rw [List.getElem?_eq_getElem h1,List.getElem?_eq_getElem (by omega:i<b.length)]
  simp only [Option.getD_some]
  omega
 ·rw [List.getElem?_eq_none h1,List.getElem?_eq_none (by omega:b.length≤i)]
  exact ⟨Int.le_refl _,Int.le_refl _⟩
structure Sm (s s':PRun):Prop where
 fx:Fx s s'
 pl:s.pool.length≤s'.pool.length
 po:∀k,k<s.pool.length→s'.pool[k]?=s.pool[k]?
 tl:s'.tasks.length=s.tasks.length
 tk:∀(n:Nat) (t':PTask),s'.tasks[n]?=some t'→∃t:PTask,s.tasks[n]?=some t∧t'.sarr=t.sarr∧t'.slen≤t.slen∧(t.clk<s.pool.length→t'.clk<s'.pool.length∧∀i,cel s t.clk i≤cel s' t'.clk i)
 cl:s'.calls.length=s.calls.length
 ca:∀(j:Nat) (c':PCall),s'.calls[j]?=some c'→∃c:PCall,s.calls[j]?=some c∧c'.vars=c.vars∧c'.actor=c.actor∧c'.code=c.code∧rgc c'=rgc c
 up:∀(b:Int),(∀l∈s.pool,∀v∈l,v<b)→∀l∈s'.pool,∀v∈l,v<b
theorem Sm.refl (s:PRun):Sm s s:=⟨.refl s,Nat.le_refl _,fun _ _=>rfl,rfl,fun n t h=>⟨t,h,rfl,Nat.le_refl _,fun g=>⟨g,fun _=>Int.le_refl _⟩⟩,rfl,fun j c h=>⟨c,h,rfl,rfl,rfl,rfl⟩,fun b h=>h⟩
theorem Sm.trans {s s1 s2:PRun} (h:Sm s s1) (g:Sm s1 s2):Sm s s2:=by
 refine ⟨h.fx.trans g.fx,Nat.le_trans h.pl g.pl,fun k hk=>(g.po k (Nat.lt_of_lt_of_le hk h.pl)).trans (h.po k hk),g.tl.trans h.tl,fun n t2 e=>?_,g.cl.trans h.cl,fun j c2 e=>?_,fun b e=>g.up b (h.up b e)⟩
 ·obtain ⟨t1,a1,a2,a3,a4⟩:=g.tk n t2 e
  obtain ⟨t,b1,b2,b3,b4⟩:=h.tk n t1 a1
  refine ⟨t,b1,a2.trans b2,Nat.le_trans a3 b3,fun q=>?_⟩
  obtain ⟨q1,q2⟩:=b4 q
  obtain ⟨q3,q4⟩:=a4 q1
  exact ⟨q3,fun i=>Int.le_trans (q2 i) (q4 i)⟩
 ·obtain ⟨c1,a1,a2,a3,a4,a5⟩:=g.ca j c2 e
  obtain ⟨c,b1,b2,b3,b4,b5⟩:=h.ca j c1 a1
  exact ⟨c,b1,a2.trans b2,a3.trans b3,a4.trans b4,a5.trans b5⟩
theorem Sm.tset {s:PRun} {n:Nat} {t t':PTask} (ht:s.tasks[n]?=some t) (h1:t'.sarr=t.sarr) (h2:t'.slen≤t.slen) (h3:t.clk<s.pool.length→t'.clk<s.pool.length∧∀i,cel s t.clk i≤cel s t'.clk i):Sm s (s.tset n t'):=by
 refine ⟨⟨rfl,rfl,rfl,rfl,rfl,rfl,rfl,rfl,rfl⟩,Nat.le_refl _,fun _ _=>rfl,tset_len,fun k u e=>?_,rfl,fun j c h=>⟨c,h,rfl,rfl,rfl,rfl⟩,fun b h=>h⟩
 by_cases ek:n=k
 ·subst ek;rw [tset_at ht] at e;injection e with e;subst e;exact ⟨t,ht,h1,h2,h3⟩
 ·rw [tset_ne ek] at e;exact ⟨u,e,rfl,Nat.le_refl _,fun g=>⟨g,fun _=>Int.le_refl _⟩⟩
theorem Sm.enS (s:PRun) (n e:Nat):Sm s (s.enS n e):=⟨⟨rfl,rfl,rfl,rfl,rfl,rfl,rfl,rfl,rfl⟩,Nat.le_refl _,fun _ _=>rfl,rfl,fun n t h=>⟨t,h,rfl,Nat.le_refl _,fun g=>⟨g,fun _=>Int.le_refl _⟩⟩,rfl,fun j c h=>⟨c,h,rfl,rfl,rfl,rfl⟩,fun b h=>h⟩
theorem Sm.addB (s:PRun) (l:List Nat):Sm s (s.addB l):=⟨⟨rfl,rfl,rfl,rfl,rfl,rfl,rfl,rfl,rfl⟩,Nat.le_refl _,fun _ _=>rfl,rfl,fun n t h=>⟨t,h,rfl,Nat.le_refl _,fun g=>⟨g,fun _=>Int.le_refl _⟩⟩,rfl,fun j c h=>⟨c,h,rfl,rfl,rfl,rfl⟩,fun b h=>h⟩
theorem Sm.addP (s:PRun) (l:List Int) (hl:∀b,(∀l∈s.pool,∀v∈l,v<b)→∀v∈l,v<b):Sm s (s.addP l):=by
 refine ⟨⟨rfl,rfl,rfl,rfl,rfl,rfl,rfl,rfl,rfl⟩,by simp [PRun.addP],fun k hk=>addP_ne (by omega),rfl,fun n t h=>⟨t,h,rfl,Nat.le_refl _,fun g=>⟨by simp [PRun.addP];omega,fun i=>?_⟩⟩,rfl,fun j c h=>⟨c,h,rfl,rfl,rfl,rfl⟩,fun b h l' hl'=>?_⟩
 ·rw [cel_of (s:=s) (s':=s.addP l) (addP_ne (by omega))];exact Int.le_refl _
 ·rcases List.mem_append.1 (show l'∈s.pool++[l] from hl') with g|g
  ·exact h l' g
  ·rw [List.mem_singleton] at g;subst g;exact hl b h
theorem join_bd {s:PRun} {x y:Nat} (b:Int) (h:∀l∈s.pool,∀v∈l,v<b):∀v∈joinL (s.pool.getD x []) (s.pool.getD y []),v<b:=by
 intro v hv
 unfold joinL at hv
 obtain ⟨i,hi,e⟩:=List.mem_iff_getElem.1 hv
 rw [List.length_zipWith] at hi
 rw [List.getElem_zipWith] at e
 have key:∀(z i:Nat) (hi:i<(s.pool.getD z []).length),(s.pool.getD z [])[i]<b:=fun z i hi=>by
  have hm:(s.pool.getD z [])[i]∈s.pool.getD z []:=List.getElem_mem _
  generalize (s.pool.getD z [])[i]=w at hm
  cases hz:s.pool[z]? with
  | none=>simp [List.getD_eq_getElem?_getD,hz] at hm
  | some l =>
    rw [show s.pool.getD z []=l by simp [List.getD_eq_getElem?_getD,hz]] at hm
    exact h l (List.mem_of_getElem? hz) _ hm
 have k1:=key x i (by omega)
 have k2:=key y i (by omega)
 omega
theorem Sm.addJ (s:PRun) (x y:Nat):Sm s (s.addP (joinL (s.pool.getD x []) (s.pool.getD y []))):=.addP s _ fun b h=>join_bd b h
theorem kidsJ_sm:∀(ks:List Int) (s:PRun) (e:Nat),Sm s (kidsJ s e ks).1:=by
 intro ks
 induction ks with
 | nil=>intro s e;exact .refl s
 | cons k ks ih =>
   intro s e
   simp only [kidsJ]
   split
   ·split
    ·exact (Sm.addJ s _ _).trans (ih _ _)
    ·exact .refl s
   ·exact .refl s
theorem Sm.cset {s:PRun} {j:Nat} {c c':PCall} (hc:s.calls[j]?=some c) (h1:c'.vars=c.vars) (h2:c'.actor=c.actor) (h3:c'.code=c.code) (h4:rgc c'=rgc c):Sm s (s.cset j c'):=by
 refine ⟨⟨rfl,rfl,rfl,rfl,rfl,rfl,rfl,rfl,rfl⟩,Nat.le_refl _,fun _ _=>rfl,rfl,fun n t h=>⟨t,h,rfl,Nat.le_refl _,fun g=>⟨g,fun _=>Int.le_refl _⟩⟩,by simp [PRun.cset],fun k x e=>?_,fun b h=>h⟩
 by_cases ek:j=k
 ·subst ek;rw [cset_at hc] at e;injection e with e;subst e;exact ⟨c,hc,h1,h2,h3,h4⟩
 ·rw [cset_ne ek] at e;exact ⟨x,e,rfl,rfl,rfl,rfl⟩
def Oks (S:PRun→Nat→PRun) (f:Nat):Prop:=∀(s:PRun) (n:Nat),Iv s→Gi s→s.pool.length+1001*f≤MM→s.behs.length+f≤MM→Sm s (S s n)
theorem goOnF_sm {S:PRun→Nat→PRun} {f:Nat} (hS:Oks S f) {s:PRun} (hi:Iv s) (h:Gi s) {n j:Nat} {t:PTask} {c:PCall} (ht:s.tasks[n]?=some t) (hst:t.state<3) (hwt:t.waits<0) (hj:t.sarr[t.slen-1]?=some j) (hc:s.calls[j]?=some c) (hp:c.pc<c.code.steps.length)
 (hN:t.slen=1→∀st,c.code.steps[c.pc.toNat]?=some st→st.op=6→∃kc:Nat,getM t.spn c.pc=some (kc:Int)∧kc<s.tasks.length)
 (hb1:s.pool.length+1001*f≤MM) (hb2:s.behs.length+f≤MM):Sm (s.cset j { c with pc:=c.pc+1 }) (goOnF S s n j):=by
 have hs0:=hi.stk n t ht
 have ht':(s.cset j { c with pc:=c.pc+1 }).tasks[n]?=some t:=ht
 unfold goOnF
 rw [ht,hc]
 simp only
 cases hpop:popS (s.cset j { c with pc:=c.pc+1 }).calls t.sarr (t.slen-1) j with
 | none =>
   have i1:=hi.go (t':=clo { t with slen:=1 } 3) ht hj hc hp rfl (by show 1≤_;omega) (by show 0<1;omega) rfl rfl rfl rfl (by show (2:Int)<3;omega) hwt (.inr (by show (3:Int)≤3;omega)) (fun e=>by have:(2:Int)=1:=e;omega)
   exact (Sm.tset (t':=clo { t with slen:=1 } 3) ht' rfl (by show 1≤_;omega) (fun g=>⟨g,fun _=>Int.le_refl _⟩)).trans (hS _ n i1 (h.go hi ht hj hc rfl (by show 1≤_;omega) rfl rfl rfl hwt (fun e=>by have:(2:Int)=1:=e;omega) hN) hb1 hb2)
 | some m =>
   obtain ⟨p1,p2⟩:=popS_top hpop hj
   exact Sm.tset ht' rfl (by show m+1≤_;omega) (fun g=>⟨g,fun _=>Int.le_refl _⟩)
theorem wakeP_sm {s:PRun} (h:Iv s) {p e:Nat} {tp:PTask} (ht:s.tasks[p]?=some tp) (he:e<s.pool.length):Sm s (wakeP s p tp e):=by
 obtain ⟨a1,a2,a3,a4⟩:=h.wf.tsk tp (List.mem_of_getElem? ht)
 have h0:=Sm.addB s [e]
 have h1:Sm s (wakeT s p tp e):=h0.trans (Sm.tset (s:=s.addB [e]) ht rfl (Nat.le_refl _) (fun g=>⟨g,fun _=>Int.le_refl _⟩))
 unfold wakeP
 split
 ·split
  ·have e2:((wakeT s p tp e).addP (joinL (s.pool.getD tp.clk []) (s.pool.getD e []))).tset p { tp with waits:=-1,state:=1,beh:=some s.behs.length,clk:=s.pool.length }=((s.addB [e]).addP (joinL (s.pool.getD tp.clk []) (s.pool.getD e []))).tset p { tp with waits:=-1,state:=1,beh:=some s.behs.length,clk:=s.pool.length }:=by
    simp [wakeT,PRun.tset,PRun.addP,PRun.addB]
   rw [e2]
   have h2:Sm s ((s.addB [e]).addP (joinL (s.pool.getD tp.clk []) (s.pool.getD e []))):=h0.trans (Sm.addJ (s.addB [e]) tp.clk e)
   refine h2.trans (Sm.tset (t:=tp) ht rfl (Nat.le_refl _) fun g=>⟨by simp [PRun.addP,PRun.addB],fun i=>?_⟩)
   have hp1:s.pool[tp.clk]?=some s.pool[tp.clk]:=List.getElem?_eq_getElem a3
   have hp2:s.pool[e]?=some s.pool[e]:=List.getElem?_eq_getElem he
   have l1:=h.wf.pl _ (List.mem_of_getElem? hp1)
   have l2:=h.wf.pl _ (List.mem_of_getElem? hp2)
   have e3:((s.addB [e]).addP (joinL (s.pool.getD tp.clk []) (s.pool.getD e []))).pool[s.pool.length]?=some (joinL (s.pool.getD tp.clk []) (s.pool.getD e [])):=addP_at (s:=s.addB [e])
   have e4:((s.addB [e]).addP (joinL (s.pool.getD tp.clk []) (s.pool.getD e []))).pool[tp.clk]?=s.pool[tp.clk]?:=addP_ne (s:=s.addB [e]) (by show tp.clk≠s.pool.length;omega)
   rw [cel_of (s:=s) e4]
   unfold cel
   rw [getD_at e3]
   exact (joinL_ge (by simp only [List.getD_eq_getElem?_getD,hp1,hp2,Option.getD_some];omega) i).1
  ·exact h1
 ·exact h1
theorem settleF_sm:∀f:Nat,Oks (settleF f) f:=by
 intro f
 induction f with
 | zero=>intro s n _ h _ _;exact .refl s
 | succ f ih =>
   intro s n h hg hb1 hb2
   simp only [settleF]
   split
   ·exact .refl s
   ·rename_i t ht
    split
    ·exact .refl s
    ·rename_i hcl
     obtain ⟨a1,a2,a3,a4⟩:=h.wf.tsk t (List.mem_of_getElem? ht)
     have hkl:=(h.wf.tsz t (List.mem_of_getElem? ht)).2
     obtain ⟨k1,k2,k3,k4,k5⟩:=kidsJ_ok t.kids s t.clk h a3 (by omega)
     have hks:=kidsJ_sm t.kids s t.clk
     split
     ·rename_i s1 e hk
      rw [hk] at hks
      exact hks
     ·rename_i s1 e hk
      rw [hk] at k1 k2 k3 k4 k5 hks
      simp only at k1 k2 k3 k4 k5 hks
      have htl:s1.tasks=s.tasks:=by rw [k3]
      have hcll:s1.calls=s.calls:=by rw [k3]
      have hbl:s1.behs=s.behs:=by rw [k3]
      have ht1:s1.tasks[n]?=some t:=by rw [htl];exact ht
      have hg1:Gi s1:=by rw [k3];exact hg.eqs rfl rfl rfl rfl
      have i2:=k1.end ht1 k2 (fun g=>hcl (.inl g))
      have hed:=h.ed n t ht
      have g2:Gi ((s1.enS n e).tset n { t with state:=t.ending }):=by
       have:Gi (s1.enS n e):=hg1.eqs rfl rfl rfl rfl
       refine this.tset (t:=t) ht1 ⟨rfl,rfl,rfl,rfl,rfl,.inl rfl,fun g=>?_,fun g=>((hg1.ta n t ht1).w7 g).1⟩
       have:t.ending=1:=g
       omega
      have m2:Sm s ((s1.enS n e).tset n { t with state:=t.ending }):=(hks.trans (Sm.enS s1 n e)).trans (Sm.tset (t:=t) ht1 rfl (Nat.le_refl _) (fun g=>⟨g,fun _=>Int.le_refl _⟩))
      split
      ·exact m2
      ·rename_i hpar
       split
       ·exact hks
       ·rename_i tp htp
        have hpn:t.par.toNat≠n:=by
         rcases h.par n t ht with e1|⟨p,e1,e2⟩
         ·omega
         ·rw [e1];simp;omega
        have htp2:((s1.enS n e).tset n { t with state:=t.ending }).tasks[t.par.toNat]?=some tp:=by rw [tset_ne (fun g=>hpn g.symm)];exact htp
        split
        ·rename_i hwt
         have hw:=wakeP_iv (e:=e) i2 htp2 (by omega) k2 (by show s1.behs.length<_;rw [hbl];omega) (by show s1.pool.length<_;omega)
         obtain ⟨tq,q1,q2,q3,q4,q5,q6⟩:=wakeP_spn (e:=e) htp2
         obtain ⟨c,c1,c2⟩:=topJ_at i2 htp2
         have hc3:c.pc<c.code.steps.length:=i2.pcI _ tp _ c htp2 (.inr (by omega)) c1 c2
         have hc0:=(i2.pcB c (List.mem_of_getElem? c2)).1
         have hpb:(wakeP ((s1.enS n e).tset n { t with state:=t.ending }) t.par.toNat tp e).pool.length≤s1.pool.length+1:=hw.pl
         have hbb:(wakeP ((s1.enS n e).tset n { t with state:=t.ending }) t.par.toNat tp e).behs.length=s.behs.length+1:=by rw [hw.bl];show s1.behs.length+1=_;rw [hbl]
         have h7:=((g2.ta _ tp htp2).w7 (by omega)).2
         have m3:=wakeP_sm (e:=e) i2 htp2 k2
         have hcw:(wakeP ((s1.enS n e).tset n { t with state:=t.ending }) t.par.toNat tp e).calls[topJ tp]?=some c:=by rw [hw.cl];exact c2
         have hst:c.code.steps[c.pc.toNat]?=some c.code.steps[c.pc.toNat]:=List.getElem?_eq_getElem (by omega)
         have m4:Sm (wakeP ((s1.enS n e).tset n { t with state:=t.ending }) t.par.toNat tp e) ((wakeP ((s1.enS n e).tset n { t with state:=t.ending }) t.par.toNat tp e).cset (topJ tp) { c with pc:=c.pc+1 }):=
          Sm.cset hcw rfl rfl rfl (by rw [rgc_succ hc0 hst,after_7 (h7 _ c _ c1 c2 hst)])
         exact ((m2.trans m3).trans m4).trans (goOnF_sm ih hw.iv (wakeP_gi g2 htp2 (by omega)) q1 (by omega) (by omega) (by rw [q4,q5];exact c1) hcw hc3 (fun _ st g1 g3=>by have:=h7 _ c st c1 c2 g1;omega) (by omega) (by omega))
        ·exact m2.trans (ih _ t.par.toNat i2 g2 (by show s1.pool.length+_≤_;omega) (by show s1.behs.length+_≤_;rw [hbl];omega))
end Go.Ab
set_option maxHeartbeats 4000000
namespace Go.Ab
open Go Go.Ab Go.Proofs Go.Ab.Ty
structure Gr (s s':PRun) (n:Nat) (b:Int):Prop where
 pl:s.pool.length≤s'.pool.length
 po:∀k:Nat,k<s.pool.length→∀i,cel s k i≤cel s' k i
 tk:∀t:PTask,s.tasks[n]?=some t→∃t':PTask,s'.tasks[n]?=some t'∧∀i,cel s t.clk i≤cel s' t'.clk i
 ac:∀(a k:Nat),s.acts[a]?=some k→∃k':Nat,s'.acts[a]?=some k'∧∀i,cel s k i≤cel s' k' i
 ot:∀k:Nat,k≠n→s'.tasks[k]?=s.tasks[k]?
 up:(∀l∈s.pool,∀v∈l,v<b)→∀l∈s'.pool,∀v∈l,v<b
theorem Gr.refl (s:PRun) (n:Nat) (b:Int):Gr s s n b:=⟨Nat.le_refl _,fun _ _ _=>Int.le_refl _,fun t h=>⟨t,h,fun _=>Int.le_refl _⟩,fun a k h=>⟨k,h,fun _=>Int.le_refl _⟩,fun _ _=>rfl,fun h=>h⟩
theorem Gr.trans {s s1 s2:PRun} {n:Nat} {b:Int} (h:Gr s s1 n b) (g:Gr s1 s2 n b):Gr s s2 n b:=by
 refine ⟨Nat.le_trans h.pl g.pl,fun k hk i=>Int.le_trans (h.po k hk i) (g.po k (Nat.lt_of_lt_of_le hk h.pl) i),fun t ht=>?_,fun a k hk=>?_,fun k hk=>(g.ot k hk).trans (h.ot k hk),fun e=>g.up (h.up e)⟩
 ·obtain ⟨t1,a1,a2⟩:=h.tk t ht
  obtain ⟨t2,b1,b2⟩:=g.tk t1 a1
  exact ⟨t2,b1,fun i=>Int.le_trans (a2 i) (b2 i)⟩
 ·obtain ⟨k1,a1,a2⟩:=h.ac a k hk
  obtain ⟨k2,b1,b2⟩:=g.ac a k1 a1
  exact ⟨k2,b1,fun i=>Int.le_trans (a2 i) (b2 i)⟩
theorem Gr.same {s s':PRun} {n:Nat} {b:Int} (h1:s'.pool=s.pool) (h2:s'.tasks=s.tasks) (h3:s'.acts=s.acts):Gr s s' n b:=by
 have hc:∀k i,cel s' k i=cel s k i:=fun k i=>cel_of (by rw [h1]) i
 exact ⟨by rw [h1];exact Nat.le_refl _,fun k _ i=>by rw [hc];exact Int.le_refl _,fun t h=>⟨t,by rw [h2];exact h,fun i=>by rw [hc];exact Int.le_refl _⟩,fun a k h=>⟨k,by rw [h3];exact h,fun i=>by rw [hc];exact Int.le_refl _⟩,fun _ _=>by rw [h2],by rw [h1];exact fun h=>h⟩
theorem Gr.tset {s:PRun} {n:Nat} {b:Int} {t t':PTask} (ht:s.tasks[n]?=some t) (h:t'.clk=t.clk):Gr s (s.tset n t') n b:=
 ⟨Nat.le_refl _,fun _ _ _=>Int.le_refl _,fun u hu=>⟨t',tset_at ht,fun i=>by rw [ht] at hu;injection hu with hu;subst hu;rw [h];exact Int.le_refl _⟩,fun a k h=>⟨k,h,fun _=>Int.le_refl _⟩,fun k hk=>tset_ne (fun e=>hk e.symm),fun h=>h⟩
theorem cel_addP {s:PRun} {l:List Int} {k:Nat} (h:k<s.pool.length) (i:Nat):cel (s.addP l) k i=cel s k i:=cel_of (addP_ne (by omega)) i
theorem cel_new {s:PRun} {l:List Int} (i:Nat):cel (s.addP l) s.pool.length i=l.getD i (-1):=by
 unfold cel;rw [getD_at addP_at]
theorem Gr.addP {s:PRun} {n:Nat} {b:Int} {l:List Int} (h:Iv s) (hl:(∀l∈s.pool,∀v∈l,v<b)→∀v∈l,v<b):Gr s (s.addP l) n b:=by
 refine ⟨by simp [PRun.addP],fun k hk i=>by rw [cel_addP hk];exact Int.le_refl _,fun t ht=>⟨t,ht,fun i=>?_⟩,fun a k ha=>⟨k,ha,fun i=>?_⟩,fun _ _=>rfl,fun g l' hl'=>?_⟩
 ·rw [cel_addP (h.wf.tsk t (List.mem_of_getElem? ht)).2.2.1];exact Int.le_refl _
 ·rw [cel_addP (h.wf.acts k (List.mem_of_getElem? ha))];exact Int.le_refl _
 ·rcases List.mem_append.1 (show l'∈s.pool++[l] from hl') with g2|g2
  ·exact g l' g2
  ·rw [List.mem_singleton] at g2;subst g2;exact hl g
theorem pl_bd {s:PRun} {b:Int} {x:Nat} (h:∀l∈s.pool,∀v∈l,v<b):∀v∈plA s x,v<b:=by
 intro v hv
 unfold plA at hv
 cases hz:s.pool[x]? with
 | none=>simp [List.getD_eq_getElem?_getD,hz] at hv
 | some l =>
   rw [getD_at hz] at hv
   exact h l (List.mem_of_getElem? hz) v hv
theorem Gr.clkJ {s:PRun} {n x:Nat} {b:Int} {t:PTask} (h:Iv s) (ht:s.tasks[n]?=some t) (hx:x<s.pool.length):Gr s (clkJ s n x) n b∧∀i,cel s x i≤cel (clkJ s n x) (tkAt (clkJ s n x) n).clk i:=by
 obtain ⟨a1,a2,a3,a4⟩:=h.wf.tsk t (List.mem_of_getElem? ht)
 have l1:=(h.wf.p (plA_at a3)).2
 have l2:=(h.wf.p (plA_at hx)).2
 have hat:(Go.Ab.clkJ s n x).tasks[n]?=some { t with clk:=s.pool.length }:=by
  unfold Go.Ab.clkJ;rw [tkAt_eq ht];exact tset_at (s:=s.addP _) ht
 have hce:∀k i,cel (Go.Ab.clkJ s n x) k i=cel (s.addP (joinL (plA s t.clk) (plA s x))) k i:=fun k i=>by
  unfold Go.Ab.clkJ;rw [tkAt_eq ht];rfl
 have hge:=fun i=>joinL_ge (a:=plA s t.clk) (b:=plA s x) (by omega) i
 have hnw:∀i,cel (Go.Ab.clkJ s n x) s.pool.length i=(joinL (plA s t.clk) (plA s x)).getD i (-1):=fun i=>by rw [hce,cel_new]
 have hg:Gr s (s.addP (joinL (plA s t.clk) (plA s x))) n b:=.addP h fun g=>join_bd b g
 have hpl:(Go.Ab.clkJ s n x).pool=(s.addP (joinL (plA s t.clk) (plA s x))).pool:=by
  unfold Go.Ab.clkJ;rw [tkAt_eq ht];rfl
 refine ⟨⟨by rw [hpl];exact hg.pl,fun k hk i=>by rw [hce];exact hg.po k hk i,fun u hu=>⟨_,hat,fun i=>?_⟩,fun a k ha=>?_,fun k hk=>?_,by rw [hpl];exact hg.up⟩,fun i=>?_⟩
 ·rw [ht] at hu;injection hu with hu;subst hu
  show _≤cel _ s.pool.length i
  rw [hnw];exact (hge i).1
 ·obtain ⟨k',e1,e2⟩:=hg.ac a k ha
  exact ⟨k',e1,fun i=>by rw [hce];exact e2 i⟩
 ·unfold Go.Ab.clkJ
  exact tset_ne (s:=s.addP _) (fun e=>hk e.symm)
 ·rw [tkAt_eq hat]
  show _≤cel _ s.pool.length i
  rw [hnw];exact (hge i).2
theorem Gr.timeS {s:PRun} {n:Nat} {T:Nat} {t:PTask} (h:Iv s) (ht:s.tasks[n]?=some t) (hn:n<32) (hb:∀l∈s.pool,∀v∈l,v<(T:Int)+1) :
 Gr s (timeS s n T) n (T+1)∧(T:Int)≤cel (timeS s n T) t.clk n∧(∀k,(∀i,cel s k i≤cel s t.clk i)→∀i,cel (timeS s n T) k i≤cel (timeS s n T) t.clk i):=by
 obtain ⟨a1,a2,a3,a4⟩:=h.wf.tsk t (List.mem_of_getElem? ht)
 have l1:=(h.wf.p (plA_at a3)).2
 have hp:(Go.Ab.timeS s n T).pool=s.pool.set t.clk ((plA s t.clk).set n T):=by unfold Go.Ab.timeS;rw [tkAt_eq ht]
 have hne:∀k,k≠t.clk→∀i,cel (Go.Ab.timeS s n T) k i=cel s k i:=fun k hk i=>cel_of (by rw [hp,List.getElem?_set_ne (fun e=>hk e.symm)]) i
 have hat:∀i,cel (Go.Ab.timeS s n T) t.clk i=((plA s t.clk).set n T).getD i (-1):=fun i=>by
  unfold cel
  rw [hp,getD_at (List.getElem?_set_self a3)]
 have hold:∀i,cel s t.clk i=(plA s t.clk).getD i (-1):=fun i=>rfl
 have hle:∀i,cel s t.clk i≤cel (Go.Ab.timeS s n T) t.clk i:=fun i=>by
  rw [hat,hold]
  by_cases e:i=n
  ·subst e
   have e1:(plA s t.clk)[i]?=some (plA s t.clk)[i]:=List.getElem?_eq_getElem (by omega)
   have e2:((plA s t.clk).set i (T:Int))[i]?=some (T:Int):=List.getElem?_set_self (by omega)
   rw [getD_at e1,getD_at e2]
   have:=pl_bd hb _ (List.mem_of_getElem? e1)
   omega
  ·rw [List.getD_eq_getElem?_getD,List.getD_eq_getElem?_getD,List.getElem?_set_ne (fun e2=>e e2.symm)]
   exact Int.le_refl _
 have hall:∀k i,cel s k i≤cel (Go.Ab.timeS s n T) k i:=fun k i=>by
  by_cases e:k=t.clk
  ·subst e;exact hle i
  ·rw [hne k e];exact Int.le_refl _
 refine ⟨⟨by rw [hp,List.length_set];exact Nat.le_refl _,fun k _ i=>hall k i,fun u hu=>⟨u,hu,hall _⟩,fun a k ha=>⟨k,ha,hall k⟩,fun _ _=>rfl,fun g l hl=>?_⟩,?_,fun k hk i=>?_⟩
 ·rw [hp] at hl
  rcases List.mem_or_eq_of_mem_set hl with hl|rfl
  ·exact g l hl
  ·intro v hv
   rcases List.mem_or_eq_of_mem_set hv with hv|rfl
   ·exact pl_bd g v hv
   ·omega
 ·rw [hat,getD_at (List.getElem?_set_self (by omega))]
  exact Int.le_refl _
 ·by_cases e:k=t.clk
  ·subst e;exact Int.le_refl _
  ·rw [hne k e];exact Int.le_trans (hk i) (hle i)
theorem Gr.actS {s:PRun} {n:Nat} {t:PTask} {b:Bool} {a B:Int} (h:Iv s) (ht:s.tasks[n]?=some t) (hk:b=true→0≤a→∀k,s.acts[a.toNat]?=some k→∀i,cel s k i≤cel s t.clk i) :
 Gr s (actS s n b a) n B∧(actS s n b a).tasks=s.tasks∧(∀i,cel (actS s n b a) t.clk i=cel s t.clk i)∧(b=true→0≤a→a.toNat<s.acts.length→∃k,(actS s n b a).acts[a.toNat]?=some k∧∀i,cel (actS s n b a) t.clk i≤cel (actS s n b a) k i):=by
 obtain ⟨a1,a2,a3,a4⟩:=h.wf.tsk t (List.mem_of_getElem? ht)
 unfold Go.Ab.actS
 rw [tkAt_eq ht]
 split
 ·rename_i hh
  have hg:Gr s (s.addP (plA s t.clk)) n B:=.addP h fun g=>pl_bd g
  have hc:∀k i,cel ({ s.addP (plA s t.clk) with acts:=s.acts.set a.toNat s.pool.length }:PRun) k i=cel (s.addP (plA s t.clk)) k i:=fun k i=>rfl
  refine ⟨⟨hg.pl,hg.po,hg.tk,fun a' k ha'=>?_,fun _ _=>rfl,hg.up⟩,rfl,fun i=>by rw [hc,cel_addP a3],fun _ _ hl=>⟨s.pool.length,List.getElem?_set_self hl,fun i=>by rw [hc,hc,cel_addP a3,cel_new];exact Int.le_refl _⟩⟩
  by_cases e:a'=a.toNat
  ·subst e
   refine ⟨s.pool.length,List.getElem?_set_self (List.getElem?_eq_some_iff.1 ha').1,fun i=>?_⟩
   rw [hc,cel_new]
   exact hk hh.1 hh.2 k ha' i
  ·exact ⟨k,by show (s.acts.set _ _)[a']?=_;rw [List.getElem?_set_ne (fun e2=>e e2.symm)];exact ha',fun i=>by rw [hc,cel_addP (h.wf.acts k (List.mem_of_getElem? ha'))];exact Int.le_refl _⟩
 ·rename_i hh
  exact ⟨.refl s n B,rfl,fun _=>rfl,fun e1 e2=>absurd ⟨e1,e2⟩ hh⟩
theorem Gr.ckS {s:PRun} {n:Nat} {t:PTask} {B:Int} (h:Iv s) (ht:s.tasks[n]?=some t) :
 Gr s (ckS s n) n B∧(ckS s n).tasks=s.tasks∧(ckS s n).cks=s.cks++[s.pool.length]∧(ckS s n).acts=s.acts∧s.pool.length<(ckS s n).pool.length∧(∀k,k<s.pool.length→∀i,cel (ckS s n) k i=cel s k i)∧∀i,cel (ckS s n) s.pool.length i=cel s t.clk i:=by
 obtain ⟨a1,a2,a3,a4⟩:=h.wf.tsk t (List.mem_of_getElem? ht)
 unfold Go.Ab.ckS
 rw [tkAt_eq ht]
 have hg:Gr s (s.addP (plA s t.clk)) n B:=.addP h fun g=>pl_bd g
 exact ⟨⟨hg.pl,hg.po,hg.tk,hg.ac,hg.ot,hg.up⟩,rfl,rfl,rfl,by show _<(s.pool++[_]).length;simp,fun k hk i=>cel_addP hk i,fun i=>cel_new i⟩
end Go.Ab
set_option maxHeartbeats 4000000
namespace Go.Ab
open Go Go.Ab Go.Proofs Go.Ab.Ty
theorem cel_clkJ {s:PRun} {n x k:Nat} (h:k<s.pool.length) (i:Nat):cel (clkJ s n x) k i=cel s k i:=by
 have:cel (clkJ s n x) k i=cel (s.addP (joinL (plA s (tkAt s n).clk) (plA s x))) k i:=rfl
 rw [this,cel_addP h]
theorem cel_acK {s:PRun} {n k:Nat} {b:Bool} {a:Int} (h:k<s.pool.length) (i:Nat):cel (acK s n b a) k i=cel s k i:=by
 unfold acK;split
 ·exact cel_clkJ h i
 ·rfl
theorem turnB_gr {s:PRun} {n j:Nat} {t:PTask} {c:PCall} {st:Stp} (h:Tok 80010 s n j t c st) (hac:0≤actF c st→(actF c st).toNat<s.acts.length) (hz1:s.turns.length≤900000) (hz2:s.cks.length≤900000) (hn:n<32) (hup:∀l∈s.pool,∀v∈l,v<(s.turns.length:Int)) :
 ∃(t9:PTask) (K:Nat),(turnB s n c st).tasks[n]?=some t9∧Gr s (turnB s n c st) n (s.turns.length+1)∧(turnB s n c st).cks=s.cks++[K]∧K<(turnB s n c st).pool.length∧(∀i,cel (turnB s n c st) t9.clk i≤cel (turnB s n c st) K i)∧(s.turns.length:Int)≤cel (turnB s n c st) t9.clk n ∧
  (canF s c st=true→0≤actF c st→(∀k:Nat,s.acts[(actF c st).toNat]?=some k→∀i,cel s k i≤cel (turnB s n c st) t9.clk i)∧∃k':Nat,(turnB s n c st).acts[(actF c st).toNat]?=some k'∧∀i,cel (turnB s n c st) t9.clk i≤cel (turnB s n c st) k' i):=by
 have hiv:=h.iv
 have ht:=h.ht
 have hP:=h.hP
 have hA:=Cs.turnA hiv ht (by omega)
 have hck1:(turnA s n).cks=s.cks:=rfl
 unfold turnB
 obtain ⟨s1,hs1⟩:∃s1,s1=turnA s n:=⟨_,rfl⟩
 rw [← hs1] at hA hck1 ⊢
 have ht1:=hA.tk
 have hw1:=hA.iv.wf
 have hp1:s1.pool.length+80010≤MM:=by have:=hA.pl;omega
 have hG1:Gr s s1 n (s.turns.length+1):=by rw [hs1];exact .same rfl rfl rfl
 -- behind
 have hb2:Cs s1 n t 1 (behK s1 n) (tkAt (behK s1 n) n):=by
  unfold behK
  rw [tkAt_eq ht1]
  cases hbh:t.beh with
  | none=>simp only;rw [tkAt_eq ht1];exact (Cs.refl hA.iv ht1).mono (by omega)
  | some b =>
    have hbl:=(hw1.tsk t (List.mem_of_getElem? ht1)).2.2.2 b hbh
    have hbm:s1.behs[b]?=some s1.behs[b]:=List.getElem?_eq_getElem hbl
    obtain ⟨e1,e2⟩:=hw1.behs _ (List.mem_of_getElem? hbm)
    obtain ⟨x,hx⟩:∃x,s1.behs[b]=[x]:=List.length_eq_one_iff.1 e1
    rw [hx] at hbm e2
    have e3:behX s1 b=x:=by unfold behX;rw [getD_at hbm];rfl
    simp only
    rw [e3]
    have:=Cs.clkJ hA.iv ht1 (e2 x (by simp)) (by omega)
    rw [tkAt_eq this.tk]
    exact this
 have hG2:Gr s1 (behK s1 n) n (s.turns.length+1):=by
  unfold behK
  rw [tkAt_eq ht1]
  cases hbh:t.beh with
  | none=>exact .refl ..
  | some b =>
    have hbl:=(hw1.tsk t (List.mem_of_getElem? ht1)).2.2.2 b hbh
    have hbm:s1.behs[b]?=some s1.behs[b]:=List.getElem?_eq_getElem hbl
    obtain ⟨e1,e2⟩:=hw1.behs _ (List.mem_of_getElem? hbm)
    obtain ⟨x,hx⟩:∃x,s1.behs[b]=[x]:=List.length_eq_one_iff.1 e1
    rw [hx] at hbm e2
    have e3:behX s1 b=x:=by unfold behX;rw [getD_at hbm];rfl
    simp only
    rw [e3]
    exact (Gr.clkJ hA.iv ht1 (e2 x (by simp))).1
 have hck2:(behK s1 n).cks=s1.cks:=by unfold behK;split<;>rfl
 obtain ⟨s2,hs2⟩:∃s2,s2=behK s1 n:=⟨_,rfl⟩
 rw [← hs2] at hb2 hck2 hG2 ⊢
 obtain ⟨t2,ht2e⟩:∃t2,t2=tkAt s2 n:=⟨_,rfl⟩
 rw [← ht2e] at hb2
 have ht2:=hb2.tk
 have hC3:Cs s2 n t2 0 (nobS s2 n) { t2 with beh:=none }:=by
  unfold nobS
  rw [tkAt_eq ht2]
  exact Cs.tset (t':={ t2 with beh:=none }) hb2.iv ht2 ⟨rfl,rfl,rfl,rfl⟩ ⟨rfl,rfl,rfl,rfl,rfl⟩ ((hb2.iv.wf.tsk t2 (List.mem_of_getElem? ht2)).2.2.1) (.inr rfl)
 have hG3:Gr s2 (nobS s2 n) n (s.turns.length+1):=by
  unfold nobS
  rw [tkAt_eq ht2]
  exact .tset ht2 rfl
 have hA3':Cs s n t 1 (nobS s2 n) { t2 with beh:=none }:=((hA.trans hb2).trans hC3).mono (by omega)
 have hck3:(nobS s2 n).cks=s2.cks:=rfl
 obtain ⟨t3,ht3e⟩:∃t3,t3={ t2 with beh:=none }:=⟨_,rfl⟩
 obtain ⟨s3,hs3⟩:∃s3,s3=nobS s2 n:=⟨_,rfl⟩
 have hb3:t3.beh=none:=by rw [ht3e]
 rw [← hs3,← ht3e] at hA3'
 rw [← hs3] at hck3 hG3 ⊢
 have hA3:=hA3'
 have ht3:=hA3.tk
 have hI3:=hA3.iv
 have hw3:=hI3.wf
 have hp3:s3.pool.length+80009≤MM:=by have:=hA3.pl;omega
 have hC4:∃t4,Cs s3 n t3 1 (awK s3 n st) t4∧t4.beh=none:=by
  unfold awK
  rw [tkAt_eq ht3]
  split
  ·rename_i hh
   obtain ⟨kc,q1,q2⟩:=h.r7 (.inl hh.1)
   rw [← hA3.tsa.2.2.2] at q1
   rw [← hA3.tl] at q2
   have htc:s3.tasks[kc]?=some s3.tasks[kc]:=List.getElem?_eq_getElem q2
   have q4:kidN t3 st.n=kc:=by unfold kidN;rw [q1];rfl
   have q5:ovr s3 kc=decide (3≤s3.tasks[kc].state):=by unfold ovr;rw [htc]
   rw [q4,q5] at hh
   obtain ⟨x,hx⟩:=hI3.en kc _ htc (of_decide_eq_true hh.2)
   have x3:endX s3 kc=x:=by unfold endX;rw [getD_at hx];rfl
   rw [q4,x3]
   exact ⟨_,Cs.clkJ hI3 ht3 (hw3.ends _ (List.mem_of_getElem? hx) x rfl) (by omega),hb3⟩
  ·exact ⟨t3,(Cs.refl hI3 ht3).mono (by omega),hb3⟩
 have hG4:Gr s3 (awK s3 n st) n (s.turns.length+1):=by
  unfold awK
  rw [tkAt_eq ht3]
  split
  ·rename_i hh
   obtain ⟨kc,q1,q2⟩:=h.r7 (.inl hh.1)
   rw [← hA3.tsa.2.2.2] at q1
   rw [← hA3.tl] at q2
   have htc:s3.tasks[kc]?=some s3.tasks[kc]:=List.getElem?_eq_getElem q2
   have q4:kidN t3 st.n=kc:=by unfold kidN;rw [q1];rfl
   have q5:ovr s3 kc=decide (3≤s3.tasks[kc].state):=by unfold ovr;rw [htc]
   rw [q4,q5] at hh
   obtain ⟨x,hx⟩:=hI3.en kc _ htc (of_decide_eq_true hh.2)
   have x3:endX s3 kc=x:=by unfold endX;rw [getD_at hx];rfl
   rw [q4,x3]
   exact (Gr.clkJ hI3 ht3 (hw3.ends _ (List.mem_of_getElem? hx) x rfl)).1
  ·exact .refl ..
 have hck4:(awK s3 n st).cks=s3.cks:=by unfold awK;split<;>rfl
 obtain ⟨s4,hs4⟩:∃s4,s4=awK s3 n st:=⟨_,rfl⟩
 rw [← hs4] at hC4 hck4 hG4 ⊢
 obtain ⟨t4,hC4',hb4⟩:=hC4
 have hA4:Cs s n t 2 s4 t4:=(hA3.trans hC4').mono (by omega)
 have hI4:=hA4.iv
 have hw4:=hI4.wf
 have ht4:=hA4.tk
 have hp4:s4.pool.length+80008≤MM:=by have:=hA4.pl;omega
 obtain ⟨cn,hcn⟩:∃cn,cn=canF s c st:=⟨_,rfl⟩
 obtain ⟨a,haF⟩:∃a,a=actF c st:=⟨_,rfl⟩
 rw [← haF] at hac
 rw [← hcn,← haF]
 have hC5:∃t5,Cs s4 n t4 1 (acK s4 n cn a) t5∧t5.beh=none:=by
  unfold acK
  split
  ·rename_i hh
   have h1:=hac hh.2
   rw [← hA4.acl] at h1
   have h2:s4.acts[a.toNat]?=some s4.acts[a.toNat]:=List.getElem?_eq_getElem h1
   rw [getD_at h2]
   exact ⟨_,Cs.clkJ hI4 ht4 (hw4.acts _ (List.mem_of_getElem? h2)) (by omega),hb4⟩
  ·exact ⟨t4,(Cs.refl hI4 ht4).mono (by omega),hb4⟩
 have hG5:Gr s4 (acK s4 n cn a) n (s.turns.length+1)∧(cn=true→0≤a→∀k:Nat,s4.acts[a.toNat]?=some k→∀i,cel s4 k i≤cel (acK s4 n cn a) (tkAt (acK s4 n cn a) n).clk i)∧(acK s4 n cn a).acts=s4.acts:=by
  unfold acK
  split
  ·rename_i hh
   have h1:=hac hh.2
   rw [← hA4.acl] at h1
   have h2:s4.acts[a.toNat]?=some s4.acts[a.toNat]:=List.getElem?_eq_getElem h1
   rw [getD_at h2]
   obtain ⟨g1,g2⟩:=Gr.clkJ (b:=s.turns.length+1) hI4 ht4 (hw4.acts _ (List.mem_of_getElem? h2))
   exact ⟨g1,fun _ _ k hk i=>by rw [h2] at hk;injection hk with hk;subst hk;exact g2 i,rfl⟩
  ·rename_i hh
   exact ⟨.refl ..,fun e1 e2=>absurd ⟨e1,e2⟩ hh,rfl⟩
 have hE5:∀k,k<s4.pool.length→∀i,cel (acK s4 n cn a) k i=cel s4 k i:=fun k hk i=>cel_acK hk i
 have hck5:(acK s4 n cn a).cks=s4.cks:=by unfold acK;split<;>rfl
 obtain ⟨s5,hs5⟩:∃s5,s5=acK s4 n cn a:=⟨_,rfl⟩
 rw [← hs5] at hC5 hck5 hG5 hE5 ⊢
 obtain ⟨hG5,hG5a,hG5b⟩:=hG5
 obtain ⟨t5,hC5',hb5⟩:=hC5
 have hA5:Cs s n t 3 s5 t5:=(hA4.trans hC5').mono (by omega)
 have hC6:Cs s5 n t5 0 (timeS s5 n s.turns.length) t5:=Cs.timeS hA5.iv hA5.tk
 rw [tkAt_eq hA5.tk] at hG5a
 have hU5:∀l∈s5.pool,∀v∈l,v<(s.turns.length:Int)+1:=((((hG1.trans hG2).trans hG3).trans hG4).trans hG5).up fun l hl v hv=>by have:=hup l hl v hv;omega
 obtain ⟨hG6,hG6t,hG6k⟩:=Gr.timeS hA5.iv hA5.tk hn hU5
 have hck6:(timeS s5 n s.turns.length).cks=s5.cks:=rfl
 obtain ⟨s6,hs6⟩:∃s6,s6=timeS s5 n s.turns.length:=⟨_,rfl⟩
 rw [← hs6] at hC6 hck6 hG6 hG6t hG6k ⊢
 have hac6:s6.acts=s4.acts:=by rw [hs6];exact hG5b
 have hA6:Cs s n t 3 s6 t5:=(hA5.trans hC6).mono (by omega)
 have hC7:Cs s6 n t5 1 (actS s6 n cn a) t5:=Cs.actS hA6.iv hA6.tk (by have:=hA6.pl;omega)
 obtain ⟨hG7,hT7,hc7,hG7k⟩:=Gr.actS (b:=cn) (a:=a) (B:=s.turns.length+1) hA6.iv hA6.tk (fun e1 e2 k hk i=>by
  rw [hac6] at hk
  have hk4:=hI4.wf.acts k (List.mem_of_getElem? hk)
  exact hG6k k (fun i=>by rw [hE5 k hk4];exact hG5a e1 e2 k hk i) i)
 have hck7:(actS s6 n cn a).cks=s6.cks:=by unfold actS;split<;>rfl
 obtain ⟨s7,hs7⟩:∃s7,s7=actS s6 n cn a:=⟨_,rfl⟩
 rw [← hs7] at hC7 hck7 hG7 hT7 hc7 hG7k ⊢
 have hA7:Cs s n t 4 s7 t5:=(hA6.trans hC7).mono (by omega)
 have hz7:s7.cks.length≤900000:=by rw [hck7,hck6,hck5,hck4,hck3,hck2,hck1];exact hz2
 have hC8:Cs s7 n t5 1 (ckS s7 n) t5:=Cs.ckS hA7.iv hA7.tk (by have:=hA7.pl;omega) (by omega)
 have hA8:Cs s n t 5 (ckS s7 n) t5:=(hA7.trans hC8).mono (by omega)
 obtain ⟨hG8,hT8,hK8,hac8,hl8,hc8,hn8⟩:=Gr.ckS (B:=s.turns.length+1) hA7.iv hA7.tk
 obtain ⟨s8,hs8⟩:∃s8,s8=ckS s7 n:=⟨_,rfl⟩
 rw [← hs8] at hA8 hG8 hT8 hK8 hac8 hl8 hc8 hn8 ⊢
 have ht8:=hA8.tk
 have hC9:Cs s8 n t5 0 (hasS s8 n (-1)) { t5 with has:=-1 }:=by
  unfold hasS;rw [tkAt_eq ht8]
  exact Cs.tset hA8.iv ht8 ⟨rfl,rfl,rfl,rfl⟩ ⟨rfl,rfl,rfl,rfl,rfl⟩ (hA8.iv.wf.tsk t5 (List.mem_of_getElem? ht8)).2.2.1 (.inl rfl)
 have hG9:Gr s8 (hasS s8 n (-1)) n (s.turns.length+1):=by
  unfold hasS;rw [tkAt_eq ht8]
  exact .tset ht8 rfl
 have hG04:=((hG1.trans hG2).trans hG3).trans hG4
 have hcl6:t5.clk<s6.pool.length:=(hA6.iv.wf.tsk t5 (List.mem_of_getElem? hA6.tk)).2.2.1
 have hcl5:t5.clk<s5.pool.length:=(hA5.iv.wf.tsk t5 (List.mem_of_getElem? hA5.tk)).2.2.1
 have hcl7:t5.clk<s7.pool.length:=(hA7.iv.wf.tsk t5 (List.mem_of_getElem? hA7.tk)).2.2.1
 have hc9:∀k i,cel (hasS s8 n (-1)) k i=cel s8 k i:=fun _ _=>rfl
 have hx9:∀i,cel (hasS s8 n (-1)) t5.clk i=cel s6 t5.clk i:=fun i=>by rw [hc9,hc8 _ hcl7,hc7]
 refine ⟨_,s7.pool.length,hC9.tk,(((((hG04.trans hG5).trans hG6).trans hG7).trans hG8).trans hG9),?_,hl8,fun i=>?_,?_,fun e1 e2=>⟨fun k hk i=>?_,?_⟩⟩
 ·show s8.cks=_
  rw [hK8,hck7,hck6,hck5,hck4,hck3,hck2,hck1]
 ·show cel _ t5.clk i≤_
  rw [hx9,hc9,hn8,hc7];exact Int.le_refl _
 ·show _≤cel _ t5.clk n
  rw [hx9];exact hG6t
 ·show _≤cel _ t5.clk i
  rw [hx9]
  obtain ⟨k4,q1,q2⟩:=hG04.ac _ k hk
  have q3:=hG5a e1 e2 k4 q1 i
  have q4:=hG6.po t5.clk hcl5 i
  have q5:=q2 i
  omega
 ·obtain ⟨k7,q1,q2⟩:=hG7k e1 e2 (by rw [hac6,hA4.acl];exact hac e2)
  refine ⟨k7,by show s8.acts[_]?=_;rw [hac8];exact q1,fun i=>?_⟩
  show cel _ t5.clk i≤_
  rw [hc9,hc9,hc8 _ hcl7,hc8 _ (hA7.iv.wf.acts k7 (List.mem_of_getElem? q1))]
  exact q2 i
end Go.Ab
