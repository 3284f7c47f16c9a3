/- Part of the proof. -/
import Derived.Test.YthgicbkdckpeaaaDoorG15
import Derived.Test.YthgicbkdckpeaaaDoorG37
import Derived.Test.YthgicbkdckpeaaaDoorG35
import Derived.Test.YthgicbkdckpeaaaDoorG13
set_option linter.unusedSimpArgs false
set_option linter.unusedVariables false
set_option maxHeartbeats 4000000
namespace Go.Ab.Rg
open Go Go.Ab Go.Proofs Go.Ab.Ty
theorem okVars1 {n v:Int}:okVars n [v]↔0≤v∧v<n:=by simp [okVars]
theorem okVars2 {n v w:Int}:okVars n [v,w]↔(0≤v∧v<n)∧(0≤w∧w<n)∧v≠w:=by
 simp [okVars,and_assoc]
theorem take_all {l:List Stp} {i:Nat} (hi:i≤l.length) (q:Stp→Prop):(∀x∈l.take i,q x)↔∀k:Nat,(k:Int)<i→q (stp l k):=by
 constructor
 ·intro h k hk
  have:k<l.length:=by omega
  rw [show stp l k=l[k] from nth_eq this]
  exact h _ (List.mem_iff_getElem.2 ⟨k,by rw [List.length_take];omega,by rw [List.getElem_take]⟩)
 ·intro h x hx
  obtain ⟨k,hk,rfl⟩:=List.mem_iff_getElem.1 hx
  rw [List.length_take] at hk
  have:=h k (by omega)
  rw [show stp l k=l[k]'(by omega) from nth_eq (by omega)] at this
  rw [List.getElem_take];exact this
theorem fits_step {l:Lk} {i:Nat} (hi:i≤l.c.steps.length) {s:Stp} (h:okFits l.p l.c i l.own l.method s):okStep l i s:=by
 obtain ⟨⟨ho,⟨z1,z2,z3,z4,z5⟩,⟨r1,r2⟩,hl,hv⟩,f1,f6,f7,f8,f9⟩:=h
 have hta:=fun q=>take_all (q:=q) hi
 unfold okStep
 rw [Int.toNat_natCast]
 rcases (by omega:s.op=1∨s.op=2∨s.op=3∨s.op=4∨s.op=5∨s.op=6∨s.op=7∨s.op=8∨s.op=9∨s.op=10∨s.op=11∨s.op=12) with e|e|e|e|e|e|e|e|e|e|e|e
 ·simp [e,u1,u2,u3,u4,u5] at *;exact ⟨okVars1.2 r1,z2,f1.1,f1.2,z4,by simp [z5]⟩
 ·simp [e,u1,u2,u3,u4,u5] at *;exact ⟨okVars2.2 ⟨r1,⟨r2.1,r2.2.1⟩,r2.2.2⟩,z3,z4,by simp [z5]⟩
 ·simp [e,u1,u2,u3,u4,u5] at *;exact ⟨okVars2.2 ⟨r1,⟨r2.1,r2.2.1⟩,r2.2.2⟩,z3,z4,by simp [z5]⟩
 ·simp [e,u1,u2,u3,u4,u5] at *;exact ⟨okVars1.2 r1,z2,z3,z4,by simp [z5]⟩
 ·simp [e,u1,u2,u3,u4,u5] at *;exact ⟨okVars1.2 r1,z2,f1.1,f1.2,z4,by simp [z5]⟩
 ·simp [e,u1,u2,u3,u4,u5] at *;exact ⟨⟨z1,z2⟩,by omega,by omega,by omega,by omega,f6.2.1,f6.2.2,hv⟩
 ·simp only [e,hta] at *;simp [u1,u2,u3,u4,u5] at *;exact ⟨⟨z1,z2⟩,f7.1,⟨z4,by simp [z5]⟩,⟨f7.2.1,f7.2.2.1⟩,f7.2.2.2⟩
 ·simp [e,u1,u2,u3,u4,u5] at *;exact ⟨⟨z1,z2⟩,f8.1,f8.2.1,f8.2.2.1,z4,f8.2.2.2,by omega,hv⟩
 ·simp [e,u1,u2,u3,u4,u5] at *;exact ⟨⟨z1,z2⟩,by omega,by omega,by omega,by omega,f9.2.1,f9.2.2,hv⟩
 ·simp [e,u1,u2,u3,u4,u5] at *;exact ⟨⟨z1,z2⟩,f7.1,⟨z4,by simp [z5]⟩,⟨f7.2.1,f7.2.2⟩⟩
 ·simp [e,u1,u2,u3,u4,u5] at *;exact ⟨⟨z1,z2⟩,z3,z4,by simp [z5]⟩
 ·simp [e,u1,u2,u3,u4,u5] at *;exact ⟨⟨z1,z2⟩,z3,z4,by simp [z5]⟩
theorem step_fits {l:Lk} {i:Nat} (hi:i≤l.c.steps.length) {s:Stp} (hp:∀n:Int,0≤n→n<l.p.codes.length→(cod l.p.codes n).params≤4) (hm:∀n:Int,0≤n→n<l.p.methods.length→(cod l.p.methods n).params≤4) (h:okStep l i s):okFits l.p l.c i l.own l.method s:=by
 have hta:=fun q=>take_all (q:=q) hi
 unfold okStep at h
 rw [Int.toNat_natCast] at h
 have hnil:∀ {n:Int},s.vars.length=0→s.vars=[]∧s.vars.length≤4∧okVars n s.vars:=fun h=>by
  have:=List.eq_nil_of_length_eq_zero h
  rw [this];simp [okVars]
 rcases h with ⟨ho,h1,h2,h3,h4,h5,h6⟩|⟨ho,h1,h2,h3,h4⟩|⟨ho,h1,h2,h3,h4,h5⟩|⟨ho,⟨h1,h1'⟩,h2,h3,h4,h5,h6,h7,h8⟩|⟨ho,⟨h1,h1'⟩,h2,⟨h3,h3'⟩,h4,h5⟩|⟨ho,⟨h1,h1'⟩,h2,h3,h4,h5,h6,h7,h8⟩|⟨ho,⟨h1,h1'⟩,h2,h3,h4,h5,h6,h7,h8⟩|⟨ho,⟨h1,h1'⟩,h2,h3,h4⟩
 ·obtain ⟨g1,g2,g3⟩:=hnil (n:=l.c.vars) h6
  rw [okVars1] at h1
  rcases ho with e|e<;>simp [okFits,okFormed,u1,u2,u3,u4,u5,e,h1,h2,h3,h4,h5,g1,okVars]
 ·obtain ⟨g1,g2,g3⟩:=hnil (n:=l.c.vars) h4
  rw [okVars2] at h1
  rcases ho with e|e<;>simp [okFits,okFormed,u1,u2,u3,u4,u5,e,h1,h2,h3,g1,okVars]
 ·obtain ⟨g1,g2,g3⟩:=hnil (n:=l.c.vars) h5
  rw [okVars1] at h1
  simp [okFits,okFormed,u1,u2,u3,u4,u5,ho,h1,h2,h3,h4,g1,okVars]
 ·have:=hp s.task (by omega) h5
  have g:s.vars.length≤4:=by omega
  simp [okFits,okFormed,u1,u2,u3,u4,u5,ho,h1,h1',h2,h3,g,h8]
  exact ⟨by omega,h6,h7⟩
 ·obtain ⟨g1,g2,g3⟩:=hnil (n:=l.c.vars) h3'
  obtain ⟨h4,h4'⟩:=h4
  rcases ho with e|e
  ·simp only [e,hta] at h5
   simp at h5
   simp [okFits,okFormed,u1,u2,u3,u4,u5,e,h1,h1',h2,h3,h4,h4',g1,okVars]
   exact h5
  ·simp [okFits,okFormed,u1,u2,u3,u4,u5,e,h1,h1',h2,h3,h4,h4',g1,okVars]
 ·have g:s.vars.length≤4:=by omega
  simp [okFits,okFormed,u1,u2,u3,u4,u5,ho,h1,h1',h2,h3,h4,h5,g,h8]
  omega
 ·have:=hm s.task h4 h5
  have g:s.vars.length≤4:=by omega
  simp [okFits,okFormed,u1,u2,u3,u4,u5,ho,h1,h1',h2,h3,h4,h5,g,h8]
  exact ⟨h6,h7⟩
 ·obtain ⟨g1,g2,g3⟩:=hnil (n:=l.c.vars) h4
  rcases ho with e|e<;>simp [okFits,okFormed,u1,u2,u3,u4,u5,e,h1,h1',h2,h3,g1,okVars]
theorem valid_iff (p:Tk):okValid p↔okRef p:=by
 constructor
 ·rintro ⟨h,hc,hm⟩
  have hp:∀n:Int,0≤n→n<(p.codes.length:Int)→(cod p.codes n).params≤4:=fun n h0 h1=>by
   have:=(hc n.toNat (by omega)).1.2.1
   rwa [Int.toNat_of_nonneg h0] at this
  have hq:∀n:Int,0≤n→n<(p.methods.length:Int)→(cod p.methods n).params≤4:=fun n h0 h1=>by
   have:=(hm n.toNat (by omega)).1.2.1
   rwa [Int.toNat_of_nonneg h0] at this
  refine ⟨h,fun i hi=>⟨(hc i hi).1,fun j hj=>?_⟩,fun i hi=>⟨(hm i hi).1,fun j hj=>?_⟩⟩
  ·exact step_fits (l:=⟨p,cod p.codes i,i,false⟩) (Nat.le_of_lt hj) hp hq ((hc i hi).2 j hj)
  ·exact step_fits (l:=⟨p,cod p.methods i,i,true⟩) (Nat.le_of_lt hj) hp hq ((hm i hi).2 j hj)
 ·rintro ⟨h,hc,hm⟩
  refine ⟨h,fun i hi=>⟨(hc i hi).1,fun j hj=>?_⟩,fun i hi=>⟨(hm i hi).1,fun j hj=>?_⟩⟩
  ·exact fits_step (l:=⟨p,cod p.codes i,i,false⟩) (Nat.le_of_lt hj) ((hc i hi).2 j hj)
  ·exact fits_step (l:=⟨p,cod p.methods i,i,true⟩) (Nat.le_of_lt hj) ((hm i hi).2 j hj)
end Go.Ab.Rg
set_option maxHeartbeats 4000000
namespace Go.Ab
open Go Go.Ab Go.Proofs Go.Ab.Ty
def m0:Tk:=⟨[⟨0,1,[⟨6,0,0,0,1,[]⟩,⟨7,0,0,0,0,[]⟩,⟨1,0,0,3,0,[]⟩,⟨4,0,0,0,0,[]⟩]⟩,⟨0,1,[⟨1,0,0,4,0,[]⟩,⟨4,0,0,0,0,[]⟩]⟩],[],0⟩
instance (s:Stp):Decidable (Rg.noneT s):=by unfold Rg.noneT;infer_instance
instance (l:Lk) (i:Int) (s:Stp):Decidable (Rg.spawn l i s):=by unfold Rg.spawn;infer_instance
set_option synthInstance.maxSize 4000 in
set_option synthInstance.maxHeartbeats 400000 in
instance (l:Lk) (i:Int) (s:Stp):Decidable (Rg.okStep l i s):=by unfold Rg.okStep Rg.okVars;infer_instance
instance (l:Lk):Decidable (Rg.okCode l):=by unfold Rg.okCode;infer_instance
instance (p:Tk):Decidable (Rg.okValid p):=by unfold Rg.okValid;infer_instance
end Go.Ab
set_option maxHeartbeats 4000000
namespace Go.Ab
open Go Go.Ab Go.Proofs Go.Ab.Ty
end Go.Ab
set_option maxHeartbeats 4000000
namespace Go.Ab
open Go Go.Ab Go.Proofs Go.Ab.Ty
def befF (s:PRun) (a b:Nat):Bool:=decide (a<b)&&decide ((a:Int)≤(s.pool.getD (s.cks.getD b 0) []).getD (s.turns.getD a 0).toNat 0)
theorem before_ok {s:PRun} (hw:WF s) {a b:Nat} (ha:a<s.turns.length) (hb:b<s.cks.length) (ht:∀n∈s.turns,0≤n∧n<32):FnH Tryd.prog 45 [ptR,.int a,.int b] (HH s) (.bool (befF s a b)) (HH s):=by
 have hsz:=hw.sz
 obtain ⟨n,hn⟩:∃n,s.turns[a]?=some n:=⟨_,List.getElem?_eq_getElem ha⟩
 obtain ⟨x,hx⟩:∃x,s.cks[b]?=some x:=⟨_,List.getElem?_eq_getElem hb⟩
 obtain ⟨hn0,hn1⟩:=ht n (List.mem_of_getElem? hn)
 have hxp:=hw.cks x (List.mem_of_getElem? hx)
 obtain ⟨l,hl⟩:∃l,s.pool[x]?=some l:=⟨_,List.getElem?_eq_getElem hxp⟩
 obtain ⟨i1,l1⟩:=hw.p hl
 obtain ⟨n',rfl⟩:∃n':Nat,n=n':=⟨_,(Int.toNat_of_nonneg hn0).symm⟩
 obtain ⟨v,hv⟩:∃v,l[n']?=some v:=⟨_,List.getElem?_eq_getElem (by omega)⟩
 have hR:befF s a b=(bif decide ((a:Int)<b) then decide ((a:Int)≤v) else false):=by
  unfold befF
  simp only [List.getD_eq_getElem?_getD,hn,hx,hl,hv,Option.getD_some,Int.toNat_natCast]
  by_cases g:a<b<;>simp [g]
 rw [hR]
 have hnv:(s.turns.map AV.int)[a]?=some (.int n'):=by rw [List.getElem?_map,hn];rfl
 have hxv:(s.cks.map ownC)[b]?=some (ownC x):=by rw [List.getElem?_map,hx];rfl
 have hvv:(l.map AV.int)[n']?=some (.int v):=by rw [List.getElem?_map,hv];rfl
 have hR:=Hid.mk hR
 refine FnH.intro' [(0,ptR),(1,.int a),(2,.int b)] 3 30 NN Tryd.func45 (by kernel_rfl) rfl rfl rfl rfl rfl (HH_len s) ?_
 refine goF ?_
 by_cases h1:a<b
 ·have hd:decide ((a:Int)<(b:Int))=true:=decide_eq_true (by omega)
  refine drA (k:=23) follows (hr:=?_)
  refine goF ?_
  refine gqA (h:=fun hg=>ql_ixo (n:=b) (b:=ix .ck) (by simp +decide only [go_sem, *]<;>rfl) (by simp +decide only [go_sem, *]<;>rfl) Tryd.underlying81 (by simp +decide only [go_sem, *]<;>rfl) (by simp) hb (by simp +decide only [go_sem, *]<;>rfl)) (hr:=?_)
  refine goF ?_
  refine gqA (h:=fun hg=>ql_ixo (n:=a) (b:=ix .tn) (by simp +decide only [go_sem, *]<;>rfl) (by simp +decide only [go_sem, *]<;>rfl) Tryd.underlying25 (by simp +decide only [go_sem, *]<;>rfl) (by simp) ha (by simp +decide only [go_sem, *]<;>rfl)) (hr:=?_)
  refine goF ?_
  refine gqA (h:=fun hg=>ql_ixo (n:=n') (b:=ix (.clk x)) (by simp +decide only [go_sem, *]<;>rfl) (by simp +decide only [go_sem, *]<;>rfl) Tryd.underlying25 (by simp +decide only [go_sem, *]<;>rfl) (by simp [l1]) (by omega) (by simp +decide only [go_sem, *]<;>rfl)) (hr:=?_)
  refine goF ?_
  exact .runV [] hw (vs:=[.bool (decide (v≥a))]) (by show resVals _ _ [.tmp 6]=_;simp +decide only [resVals,resVal,ldPtr,ldE,go_sem, *]<;>rfl) (List.append_nil _).symm (by rw [hd];rfl) (.pu (.base _))
 ·have hd:decide ((a:Int)<(b:Int))=false:=decide_eq_false (by omega)
  refine drA (k:=23) follows (hr:=?_)
  refine goF ?_
  refine gxA ((AV.int 0).iptr 0) ?_
  refine goF ?_
  refine gxA ((AV.int 0).iptr 0) ?_
  refine goF ?_
  refine gxA ((AV.int 0).iptr 0) ?_
  refine goF ?_
  exact .runV [] hw (vs:=[.bool false]) (by show resVals _ _ [.tmp 6]=_;simp +decide only [resVals,resVal,ldPtr,ldE,go_sem, *]<;>rfl) (List.append_nil _).symm (by rw [hd];rfl) (.pu (.base _))
end Go.Ab
set_option maxHeartbeats 4000000
namespace Go.Ab
open Go Go.Ab Go.Proofs Go.Ab.Ty
structure TH (s:PRun) (n j:Nat) (t:PTask) (c:PCall) (st:Stp) (l:Lk) (k i:Nat):Prop where
 gg:GG s
 tn:s.turns.length<2000
 top:TopC s n t j c st l k i
 st1:t.state=1
 tr:∀x∈s.turns,0≤x∧x<(s.tasks.length:Int)
theorem pikF_eq (s:PRun):∃u,pikF s={ s with used:=u }:=by
 unfold pikF
 split
 ·exact ⟨s.used,rfl⟩
 ·split
  ·exact ⟨_,rfl⟩
  ·exact ⟨s.used,rfl⟩
structure RJ (s:PRun):Prop where
 gg:GG s
 tn:∀x∈s.turns,0≤x∧x<(s.tasks.length:Int)
 t0:0<s.tasks.length
theorem pick_topJ {s:PRun} (h:GG s) (hr:readyF s≠[]):∃(n j:Nat) (t:PTask) (c:PCall) (st:Stp) (l:Lk) (k i:Nat),chF s=(n:Int)∧TopC (pikF s) n t j c st l k i∧t.state=1∧turnF (pikF s) (chF s).toNat=turnX (pikF s) n j c st:=by
 obtain ⟨n,hn,_,t,ht,h1,h2⟩:=rdF_free _ _ (chF_mem hr)
 have hG:=pikF_gg h
 obtain ⟨e1,e2⟩:=pikF_same s
 have ht':(pikF s).tasks[n]?=some t:=by rw [e1];exact ht
 obtain ⟨j,c,st,l,k,i,hT⟩:=topC_of hG.iv hG.gi ht' h1
 exact ⟨n,j,t,c,st,l,k,i,hn,hT,h1,by rw [hn,Int.toNat_natCast];exact hT.turnF⟩
theorem RJ.rjTurn {s:PRun} (h:RJ s) (htn:s.turns.length<2000) (hr:readyF s≠[]):∃(n j:Nat) (t:PTask) (c:PCall) (st:Stp) (l:Lk) (k i:Nat),TH (pikF s) n j t c st l k i∧turnF (pikF s) (chF s).toNat=turnX (pikF s) n j c st∧RJ (turnX (pikF s) n j c st):=by
 obtain ⟨n,j,t,c,st,l,k,i,hn,hT,h1,hE⟩:=pick_topJ h.gg hr
 obtain ⟨e1,e2⟩:=pikF_same s
 have hG:=pikF_gg h.gg
 have htn':(pikF s).turns.length<2000:=by rw [e2];exact htn
 obtain ⟨g1,g2⟩:=turnX_gg hG htn' hT h1
 obtain ⟨g3,g4⟩:=turnX_tt hG htn' hT h1
 rw [e1] at g4
 have hnl:n<s.tasks.length:=by rw [← e1];exact (List.getElem?_eq_some_iff.1 hT.ht).1
 refine ⟨n,j,t,c,st,l,k,i,⟨hG,htn',hT,h1,by rw [e2,e1];exact h.tn⟩,hE,⟨g1,fun x hx=>?_,by have:=h.t0;omega⟩⟩
 rw [g3,e2] at hx
 rcases List.mem_append.1 hx with hx|hx
 ·have:=h.tn x hx;omega
 ·rw [List.mem_singleton] at hx;omega
theorem runF_ind {P:PRun→Prop} (hu:∀s u,P s→P { s with used:=u }) (ht:∀ {s:PRun} {n j:Nat} {t:PTask} {c:PCall} {st:Stp} {l:Lk} {k i:Nat},TH s n j t c st l k i→P s→P (turnX s n j c st)) :
 ∀(f:Nat) (s:PRun),RJ s→P s→RJ (runF f s)∧P (runF f s):=by
 intro f
 induction f with
 | zero=>intro s hR h;exact ⟨hR,h⟩
 | succ f ih =>
   intro s hR h
   obtain ⟨u,e⟩:=pikF_eq s
   have hpk:P (pikF s):=by rw [e];exact hu s u h
   unfold runF
   split
   ·rename_i htn
    split
    ·rename_i hr
     have:pikF s=s:=by unfold pikF;rw [if_pos hr]
     rw [this];exact ⟨hR,h⟩
    ·rename_i hr
     obtain ⟨n,j,t,c,st,l,k,i,hT,hE,hR2⟩:=hR.rjTurn htn hr
     rw [hE]
     exact ih _ hR2 (ht hT hpk)
   ·exact ⟨hR,h⟩
theorem newF_rj {p:Tk} {sched:List Int} {cd:Cd} (hG:GG (newF p sched cd)) (hT:(newF p sched cd).turns=[]):RJ (newF p sched cd):=by
 refine ⟨hG,(by rw [hT];intro x hx;cases hx),?_⟩
 unfold newF
 obtain ⟨tn,o,a1,_⟩:=startF_get (s:=nwS p sched (p.actors.toNat+cd.params.toNat) p.actors.toNat (List.replicate (p.actors.toNat+1) m32)) (c:=cd) (vs:=varsN p.actors.toNat cd.params.toNat) (a:=m32) (prio:=0) (par:=-1) (canc:=false) rfl (.inl (by omega))
 rw [a1];simp
theorem endF_indR {P:PRun→Prop} (hu:∀s u,P s→P { s with used:=u }) (ht:∀ {s:PRun} {n j:Nat} {t:PTask} {c:PCall} {st:Stp} {l:Lk} {k i:Nat},TH s n j t c st l k i→P s→P (turnX s n j c st))
 {p:Tk} {sched:List Int} (h:okRun p sched) (h0:∀cd,p.codes[0]?=some cd→GG (newF p sched cd)→P (newF p sched cd)):RJ (endF p sched)∧P (endF p sched):=by
 obtain ⟨cd,hcd,hG,hT,_⟩:=new_gg h
 have hgd:p.codes.getD 0 ⟨0,0,[]⟩=cd:=getD_at hcd
 unfold endF
 rw [hgd]
 exact runF_ind hu ht 2001 _ (newF_rj hG hT) (h0 cd hcd hG)
theorem endF_ind {P:PRun→Prop} (hu:∀s u,P s→P { s with used:=u }) (ht:∀ {s:PRun} {n j:Nat} {t:PTask} {c:PCall} {st:Stp} {l:Lk} {k i:Nat},TH s n j t c st l k i→P s→P (turnX s n j c st))
 {p:Tk} {sched:List Int} (h:okRun p sched) (h0:∀cd,p.codes[0]?=some cd→GG (newF p sched cd)→P (newF p sched cd)):P (endF p sched):=(endF_indR hu ht h h0).2
def accN (s:PRun) (n:Nat) (c:PCall) (st:Stp) (time:Int):List Acc:=
 if st.op=2 then (if 0≤(objAt s (varN c st.w)).2 then [⟨whoF c n,varN c st.w,false,time⟩] else [⟨whoF c n,varN c st.w,false,time⟩,⟨whoF c n,varN c st.w,true,time⟩])
 else if st.op=3 then [⟨whoF c n,varN c st.v,true,time⟩]
 else if st.op=4 then [⟨whoF c n,varN c st.v,false,time⟩]
 else if st.op=5 then [⟨whoF c n,varN c st.v,true,time⟩]
 else if st.op=8 then [⟨-1-(st.n.toNat:Int),st.n.toNat,true,time⟩]
 else []
theorem accN_time {s:PRun} {n:Nat} {c:PCall} {st:Stp} {time:Int}:∀x∈accN s n c st time,x.time=time:=by
 intro x hx
 unfold accN at hx
 (repeat' split at hx)<;>simp only [List.mem_cons,List.not_mem_nil,or_false] at hx
 ·rw [hx]
 ·rcases hx with rfl|rfl<;>rfl
 all_goals rw [hx]
theorem stepF_accs (s:PRun) (n j:Nat) (t:PTask) (c:PCall) (st:Stp) (time:Int):(stepF s n j t c st time).2.accs=s.accs++accN s n c st time∧(stepF s n j t c st time).2.turns=s.turns∧(stepF s n j t c st time).2.cks=s.cks:=by
 have h6:=startF_fx s (cdAt s.p.codes st.task) (givL c st.vars) (s.pool.getD t.clk []) st.n n t.canc
 have h11:=stopF_fx s n
 unfold stepF accN
 by_cases h1:st.op=1
 ·rw [if_pos h1,if_neg (by omega),if_neg (by omega),if_neg (by omega),if_neg (by omega),if_neg (by omega)]
  exact ⟨(List.append_nil _).symm,rfl,rfl⟩
 rw [if_neg h1]
 by_cases h2:st.op=2
 ·rw [if_pos h2,if_pos h2]
  split
  ·exact ⟨rfl,rfl,rfl⟩
  ·exact ⟨List.append_assoc _ [_] [_],rfl,rfl⟩
 rw [if_neg h2,if_neg h2]
 by_cases h3:st.op=3
 ·rw [if_pos h3,if_pos h3];exact ⟨rfl,rfl,rfl⟩
 rw [if_neg h3,if_neg h3]
 by_cases h4:st.op=4
 ·rw [if_pos h4,if_pos h4];exact ⟨rfl,rfl,rfl⟩
 rw [if_neg h4,if_neg h4]
 by_cases h5:st.op=5
 ·rw [if_pos h5,if_pos h5];exact ⟨rfl,rfl,rfl⟩
 rw [if_neg h5,if_neg h5]
 by_cases h8:st.op=8
 ·rw [if_neg (by omega),if_neg (by omega),if_pos h8,if_pos h8];exact ⟨rfl,rfl,rfl⟩
 rw [if_neg h8,if_neg h8,List.append_nil]
 by_cases h6':st.op=6
 ·rw [if_pos h6'];exact ⟨h6.accs,h6.turns,h6.cks⟩
 rw [if_neg h6']
 split
 ·split<;>exact ⟨rfl,rfl,rfl⟩
 split
 ·split<;>exact ⟨rfl,rfl,rfl⟩
 split
 ·exact ⟨rfl,rfl,rfl⟩
 split
 ·split
  ·exact ⟨h11.accs,h11.turns,h11.cks⟩
  ·exact ⟨rfl,rfl,rfl⟩
 ·exact ⟨rfl,rfl,rfl⟩
theorem turnX_accs {s:PRun} {n j:Nat} {c:PCall} {st:Stp}:(∃l,(turnX s n j c st).accs=s.accs++l∧∀x∈l,x.time=s.turns.length)∧(turnX s n j c st).turns=s.turns++[(n:Int)]∧(turnX s n j c st).cks.length=s.cks.length+1:=by
 have hZ:=zs_turnB s n c st
 obtain ⟨hTn,hCk⟩:=turnB_turns s n c st
 unfold turnX
 obtain ⟨s9,hs9⟩:∃s9,s9=turnB s n c st:=⟨_,rfl⟩
 rw [← hs9] at hZ hTn hCk ⊢
 split
 ·have hF:=stopF_fx s9 n
  exact ⟨⟨[],by rw [hF.accs,hZ.accs,List.append_nil],fun x hx=>by cases hx⟩,by rw [hF.turns,hTn],by rw [hF.cks,hCk]⟩
 obtain ⟨a1,a2,a3⟩:=stepF_accs s9 n j (tkAt s9 n) c st s.turns.length
 obtain ⟨r,hr⟩:∃r,r=stepF s9 n j (tkAt s9 n) c st s.turns.length:=⟨_,rfl⟩
 rw [← hr] at a1 a2 a3 ⊢
 have b1:∃l,r.2.accs=s.accs++l∧∀x∈l,x.time=s.turns.length:=⟨_,by rw [a1,hZ.accs],accN_time⟩
 split
 ·exact ⟨b1,by rw [a2,hTn],by rw [a3,hCk]⟩
 unfold turnG
 obtain ⟨s11,hs11⟩:∃s11,s11=if 0≤c.actor∧st.op≠12∧st.op≠9∧c.pc≠(c.code.steps.length:Int)-1 then hasS r.2 n c.actor else r.2:=⟨_,rfl⟩
 rw [← hs11]
 have e1:s11.turns=r.2.turns∧s11.cks=r.2.cks∧s11.accs=r.2.accs:=by rw [hs11];split<;>exact ⟨rfl,rfl,rfl⟩
 have hF:=goOnF_fx (fun s n=>settleF_fx (n+1) s n) s11 n j
 have hF:=goOnF_fx (S:=settleF (n+1)) (fun s m=>settleF_fx (n+1) s m) s11 n j
 obtain ⟨l,b2,b3⟩:=b1
 exact ⟨⟨l,by rw [hF.accs,e1.2.2,b2],b3⟩,by rw [hF.turns,e1.1,a2,hTn],by rw [hF.cks,e1.2.1,a3,hCk]⟩
structure AT (s:PRun):Prop where
 ck:s.cks.length=s.turns.length
 ac:∀x∈s.accs,0≤x.time∧x.time<s.turns.length
 tn:∀n∈s.turns,0≤n∧n<32
theorem endF_at {p:Tk} {sched:List Int} (h:okRun p sched):AT (endF p sched):=by
 have hR:=(endF_indR (P:=fun _=>True) (fun _ _ _=>trivial) (fun _ _=>trivial) h (fun _ _ _=>trivial)).1
 have h1:(endF p sched).cks.length=(endF p sched).turns.length∧∀x∈(endF p sched).accs,0≤x.time∧x.time<(endF p sched).turns.length:=by
  refine endF_ind (P:=fun s=>s.cks.length=s.turns.length∧∀x∈s.accs,0≤x.time∧x.time<s.turns.length) (fun s u g=>g) (fun {s n j t c st l k i} hT g=>?_) h fun cd hcd hG=>?_
  ·obtain ⟨⟨l,a1,a2⟩,a3,a4⟩:=turnX_accs (s:=s) (n:=n) (j:=j) (c:=c) (st:=st)
   obtain ⟨g1,g2⟩:=g
   have e:(turnX s n j c st).turns.length=s.turns.length+1:=by rw [a3];simp
   refine ⟨by omega,fun x hx=>?_⟩
   rw [e]
   rw [a1] at hx
   rcases List.mem_append.1 hx with hx|hx
   ·have:=g2 x hx;omega
   ·have:=a2 x hx;omega
  ·have hF:=startF_fx (nwS p sched (p.actors.toNat+cd.params.toNat) p.actors.toNat (List.replicate (p.actors.toNat+1) m32)) cd (varsN p.actors.toNat cd.params.toNat) m32 0 (-1) false
   unfold newF
   refine ⟨by rw [hF.cks,hF.turns];rfl,fun x hx=>?_⟩
   rw [hF.accs] at hx
   cases hx
 refine ⟨h1.1,h1.2,fun n hn=>?_⟩
 have:=hR.tn n hn
 have:=hR.gg.iv.wf.nT
 omega
end Go.Ab
set_option maxHeartbeats 4000000
namespace Go.Ab
open Go Go.Ab Go.Proofs Go.Ab.Ty
end Go.Ab
set_option maxHeartbeats 4000000
namespace Go.Ab
open Go Go.Ab Go.Proofs Go.Ab.Ty
def a0:Acc:=⟨0,0,false,0⟩
abbrev rcP (x y:Acc):Bool:=bif bif x.object != y.object then true else decide (x.time=y.time) then true else bif !x.write then !y.write else false
def rcB (s:PRun) (x y:Acc):Bool:=!(rcP x y||befF s x.time.toNat y.time.toNat)
def rcRow (s:PRun) (i m:Nat):List (Int × Int):=((List.range' (i+1) m).filter fun j=>rcB s (s.accs.getD i a0) (s.accs.getD j a0)).map fun j:Nat=>((i:Int),(j:Int))
def rcUp (s:PRun) (i:Nat):List (Int × Int):=(List.range i).flatMap fun i=>rcRow s i (s.accs.length-(i+1))
def racesF (s:PRun):List (Int × Int):=(rcUp s s.accs.length).take 50
abbrev encP (x:Int × Int):AV:=.agg [.int x.1,.int x.2]
theorem rcRow_zero (s:PRun) (i:Nat):rcRow s i 0=[]:=rfl
theorem rcRow_succ (s:PRun) (i m:Nat):rcRow s i (m+1)=rcRow s i m++if rcB s (s.accs.getD i a0) (s.accs.getD (i+1+m) a0) then [((i:Int),((i+1+m:Nat):Int))] else []:=by
 unfold rcRow
 rw [List.range'_1_concat,List.filter_append,List.map_append]
 congr 1
 rw [List.filter_cons,List.filter_nil]
 split<;>rfl
theorem rcUp_succ (s:PRun) (i:Nat):rcUp s (i+1)=rcUp s i++rcRow s i (s.accs.length-(i+1)):=by
 unfold rcUp
 rw [List.range_succ,List.flatMap_append]
 simp
theorem rcRow_pre (s:PRun) (i m k:Nat):rcRow s i m <+: rcRow s i (m+k):=by
 induction k with
 | zero=>exact List.prefix_rfl
 | succ k ih=>rw [← Nat.add_assoc,rcRow_succ];exact ih.trans (List.prefix_append _ _)
theorem rcUp_pre (s:PRun) (i k:Nat):rcUp s i <+: rcUp s (i+k):=by
 induction k with
 | zero=>exact List.prefix_rfl
 | succ k ih=>rw [← Nat.add_assoc,rcUp_succ];exact ih.trans (List.prefix_append _ _)
theorem rcPart {s:PRun} {i m:Nat} (h:i+1+m≤s.accs.length) (hl:(rcUp s i++rcRow s i m).length=50):racesF s=rcUp s i++rcRow s i m:=by
 have h1:rcUp s i++rcRow s i m <+: rcUp s s.accs.length:=by
  obtain ⟨k,hk⟩:∃k,s.accs.length=(i+1)+k:=⟨s.accs.length-(i+1),by omega⟩
  have e1:=rcUp_pre s (i+1) k
  rw [← hk,rcUp_succ] at e1
  obtain ⟨q,hq⟩:∃q,s.accs.length-(i+1)=m+q:=⟨s.accs.length-(i+1)-m,by omega⟩
  rw [hq] at e1
  exact ((List.prefix_append_right_inj _).2 (rcRow_pre s i m q)).trans e1
 unfold racesF
 rw [List.prefix_iff_eq_take.1 h1,hl]
theorem rcFull {s:PRun} (hl:(rcUp s s.accs.length).length<50):racesF s=rcUp s s.accs.length:=List.take_of_length_le (by omega)
theorem Wk.trimT {n:Fr} {R:PRun} (hw:WF R) {T T2:List ABlk} {E E2:Env} (hm:n.m=0) (hT:∀b∈T,RfB (·<NN) b) (h:WkP (HH R++(T++T2)) (NN+T.length) E E2):Wk n ⟨E,HH R++(T++T2)⟩ ⟨E2,HH R++T⟩:=
 .trimM (NN+T.length) (by omega) (by rw [← List.append_assoc];exact List.take_left' (by simp [HH_len])) h fun blk hb e he c hc=>by
  have h1:RfB (·<NN) blk:=(List.mem_append.1 hb).elim (HH_rn hw blk) (hT blk)
  exact (h1 e he c hc).pub fun b hb=>pre_lt (by omega)
theorem prB_rf {l:List (Int × Int)}:RfB (·<NN) ⟨63,2,l.map encP⟩:=.map fun x _ c hc=>by
 simp only [AV.cells,List.mem_cons,List.not_mem_nil,or_false] at hc
 rcases hc with rfl|rfl<;>exact .pu (.base _)
theorem acB_rf {x:Acc}:RfB (·<NN) ⟨73,4,[.agg [.int x.task,.int x.object,.base (.bool x.write),.int x.time]]⟩:=.one fun c hc=>by
 simp only [List.mem_cons,List.not_mem_nil,or_false] at hc
 rcases hc with rfl|rfl|rfl|rfl<;>exact .pu (.base _)
theorem races_ok {mm:List (Nat × Obj)} (hmm:TabM mm) {p:Tk} {sched:List Int} (h:okRun p sched):FnM Tryd.prog mm 32 [encT p,.lst (sched.map .int)] (.tup [.lst ((racesF (endF p sched)).map encP),.int 0]):=by
 obtain ⟨iran,hGE⟩:=ran_good hmm h
 have hAT:=endF_at h
 obtain ⟨R,hR⟩:∃R,R=endF p sched:=⟨_,rfl⟩
 rw [← hR] at iran hGE hAT ⊢
 have hwR:=hGE.iv.wf
 have hlR:=HH_len R
 have hn1:=hwR.sz.2.2.1
 obtain ⟨co,me,ac⟩:=p
 clear hR
 have hAT:=Hid.mk hAT
 refine FnM.intro' [(0,encT ⟨co,me,ac⟩),(1,.lst (sched.map .int))] 2 92 Tryd.func32 (by kernel_rfl) rfl rfl rfl rfl rfl ?_
 refine AWp.seq ?_
 refine AWp.join ⟨[(1,.lst (sched.map .int)),(2,.iptr (encT ⟨co,me,ac⟩) 0),(memSlot,.mem mm)],[]⟩ ?_ ?_
 ·refine goF ?_
  exact Wk.selB [] List.nodup_nil (fun b hb=>absurd hb (Nat.not_lt_zero _)) trivial (WkR.all ⟨.pu (Pu_mapInt _),.iptr rfl rfl rfl rfl ⟨.pu (Pu_mapC _),.pu (Pu_mapC _),.pu (.base _),trivial⟩,.pu (.mem _),trivial⟩)
 refine AWp.seq ?_
 refine AWp.join ⟨[(6,ptR),(7,.int 0),(memSlot,.mem mm)],HH R⟩ ?_ ?_
 ·refine reS ?_
  refine ARun.p1 rfl rfl (pl_callHM iran (.inr (by simp +decide only [go_sem, *]<;>rfl)) .run0 rfl (by simp +decide only [go_sem, *]<;>rfl) (args:=[encT ⟨co,me,ac⟩,.lst (sched.map .int)]) ?_ mvRan) ?_
  ·exact ⟨.pu (Pu_encT ⟨co,me,ac⟩),.pu (Pu_mapInt _),trivial⟩
  refine goF ?_
  exact .wf
 clear iran
 refine goF ?_
 refine iff_ ?_ rfl (by simp +decide only [go_sem, *]<;>rfl)
 refine AWp.skip ?_
 refine goF ?_
 refine AWp.weaken (Wk.nilC (E2:=[(6,ptR),(8,.own NN 0 0 0),(25,.own (ix .ac) R.accs.length 0 R.accs.length),(26,.int R.accs.length),(27,.int 0)]) (H2:=HH R) 63 2 (NilB.rf (S:=(·<NN)) (HH_rn hwR)) ⟨.ptr,.nil hlR,.own,.pu (.base _),.pu (.base _),trivial⟩) ?_
 refine AWp.loop (J:=fun i:Nat=>i≤R.accs.length∧(rcUp R i).length<50) (fun i=>⟨[(6,ptR),(8,.own NN (rcUp R i).length 0 (rcUp R i).length),(25,.own (ix .ac) R.accs.length 0 R.accs.length),(26,.int R.accs.length),(27,.int i)],HH R++[⟨63,2,(rcUp R i).map encP⟩]⟩) (fun i=>R.accs.length-i) 0 ⟨Nat.zero_le _,by show 0<50;decide⟩ (.wf (hH:=by simp [rcUp])) ?_
 rintro i ⟨hi,hil⟩
 by_cases hlt:i<R.accs.length
 ·have hd:decide ((i:Int)<(R.accs.length:Int))=true:=decide_eq_true (by omega)
  obtain ⟨x,hx⟩:∃x,R.accs[i]?=some x:=⟨_,List.getElem?_eq_getElem hlt⟩
  have hxv:(R.accs.map encA)[i]?=some (encA x):=by rw [List.getElem?_map,hx];rfl
  obtain ⟨u,hu⟩:∃u,Hid (u=rcUp R i):=⟨_,⟨rfl⟩⟩
  rw [← hu.out] at hil ⊢
  refine goF ?_
  refine ift_ ?_ rfl (by simp +decide only [go_sem, *]<;>rfl)
  refine goF ?_
  refine ARun.q1 rfl rfl (ql_ixo (n:=i) (b:=ix .ac) (by simp +decide only [go_sem, *]<;>rfl) (by simp +decide only [go_sem, *]<;>rfl) Tryd.underlying30 (by simp +decide only [go_sem, *]<;>rfl) (by simp) hlt (by simp +decide only [go_sem, *]<;>rfl)) ?_
  refine goF ?_
  rw [wrap_succ (by omega)]
  have hrow:Hid (∀m,m<R.accs.length-(i+1)→rcRow R i (m+1)=rcRow R i m++if rcB R x (R.accs.getD (i+1+m) a0) then [((i:Int),((i+1+m:Nat):Int))] else []):=⟨fun m _=>by rw [rcRow_succ,getD_at hx]⟩
  refine AWp.loop (J:=fun m:Nat=>i+1+m≤R.accs.length∧(u++rcRow R i m).length<50) (fun m=>⟨[(6,ptR),(8,.own NN (u++rcRow R i m).length 0 (u++rcRow R i m).length),(9,.int i),(10,.ptr (NN+1) 1 0 0),(11,.int (i+1+m:Nat)),(25,.own (ix .ac) R.accs.length 0 R.accs.length),(26,.int R.accs.length),(27,.int i)],HH R++[⟨63,2,(u++rcRow R i m).map encP⟩,⟨73,4,[.agg [.int x.task,.int x.object,.base (.bool x.write),.int x.time]]⟩]⟩) (fun m=>R.accs.length-m) 0 ⟨by omega,by simp only [rcRow_zero,List.append_nil];exact hil⟩ ?_ ?_
  ·simp only [rcRow_zero,List.append_nil]
   exact .wf
  rintro m ⟨hm,hml⟩
  obtain ⟨v,hv⟩:∃v,Hid (v=u++rcRow R i m):=⟨_,⟨rfl⟩⟩
  rw [← hv.out] at hml ⊢
  by_cases hj:i+1+m<R.accs.length
  ·have hd2:decide (((i+1+m:Nat):Int)<(R.accs.length:Int))=true:=decide_eq_true (by omega)
   obtain ⟨y,hy⟩:∃y,R.accs[i+1+m]?=some y:=⟨_,List.getElem?_eq_getElem hj⟩
   obtain ⟨j,hje⟩:∃j,Hid (j=i+1+m):=⟨_,⟨rfl⟩⟩
   rw [← hje.out] at hy hd2 hj ⊢
   have hyv:(R.accs.map encA)[j]?=some (encA y):=by rw [List.getElem?_map,hy];rfl
   refine goF ?_
   refine ift_ ?_ rfl (by simp +decide only [go_sem, *]<;>rfl)
   refine goF ?_
   refine ARun.q1 rfl rfl (ql_ixo (n:=j) (b:=ix .ac) (by simp +decide only [go_sem, *]<;>rfl) (by simp +decide only [go_sem, *]<;>rfl) Tryd.underlying30 (by simp +decide only [go_sem, *]<;>rfl) (by simp) hj (by simp +decide only [go_sem, *]<;>rfl)) ?_
   refine goF ?_
   obtain ⟨ax0,ax1⟩:=hAT.out.ac x (List.mem_of_getElem? hx)
   obtain ⟨ay0,ay1⟩:=hAT.out.ac y (List.mem_of_getElem? hy)
   have ib:=before_ok hwR (a:=x.time.toNat) (b:=y.time.toNat) (by omega) (by rw [hAT.out.ck];omega) hAT.out.tn
   rw [Int.toNat_of_nonneg ax0,Int.toNat_of_nonneg ay0] at ib
   have hr1:=hrow.out m (by have:=hje.out;omega)
   rw [← hje.out,getD_at hy] at hr1
   have hr1:=Hid.mk hr1
   have iq1:ix .rn<NN+2:=by have:=ix_lt (a:=.rn) trivial;omega
   have iq2:ix .ac<NN+2:=by have:=ix_lt (a:=.ac) trivial;omega
   have iq3:ix .rn<NN:=ix_lt (a:=.rn) trivial
   by_cases hq:rcP x y=true
   ·have hv2:u++rcRow R i (m+1)=v:=by
     rw [hr1.out,hv.out,show rcB R x y=false by unfold rcB;rw [hq];rfl]
     simp
    have hv2:=Hid.mk hv2
    unfold rcP at hq
    refine gxA (.bool false) ?_ (hb:=(by simp +decide only [go_sem, *]<;>rfl)) (hx:=by simp [allL])
    refine goF ?_
    refine ift_ ?_ rfl (by simp +decide only [go_sem, *]<;>rfl)
    refine goF ?_
    rw [wrap_succ (by omega)]
    refine ⟨m+1,⟨by have:=hje.out;omega,by rw [hv2.out];exact hml⟩,by have:=hje.out;omega,?_⟩
    rw [hv2.out,show (((i+1+(m+1):Nat)):Int)=((j+1:Nat):Int) by rw [hje.out];rfl]
    exact Wk.trimT (T:=[⟨63,2,v.map encP⟩,⟨73,4,[.agg [.int x.task,.int x.object,.base (.bool x.write),.int x.time]]⟩]) (T2:=[_]) hwR rfl (by simp [prB_rf,acB_rf]) ⟨.ptr iq1,.own (show NN<NN+2 by omega),.pu (.base _),.ptr (show NN+1<NN+2 by omega),.pu (.base _),.own iq2,.pu (.base _),.pu (.base _),trivial⟩
   rw [Bool.not_eq_true] at hq
   unfold rcP at hq
   refine ARun.gpl rfl rfl (by simp +decide only [go_sem, *]<;>rfl) rfl (pl_callR hwR hwR (T:=[⟨63,2,v.map encP⟩,⟨73,4,[.agg [.int x.task,.int x.object,.base (.bool x.write),.int x.time]]⟩,⟨73,4,[.agg [.int y.task,.int y.object,.base (.bool y.write),.int y.time]]⟩]) ib rfl (by simp +decide only [go_sem, *]<;>rfl) (by simp +decide only [go_sem, *]<;>rfl) (by
    intro z hz
    simp only [List.mem_cons,List.not_mem_nil,or_false] at hz
    rcases hz with rfl|rfl|rfl
    ·exact .ptr iq3
    ·exact .pu (.base _)
    ·exact .pu (.base _)) (.pu (.base _))) ?_
   clear ib
   cases hb:befF R x.time.toNat y.time.toNat with
   | true =>
     have hv2:u++rcRow R i (m+1)=v:=by
      rw [hr1.out,hv.out,show rcB R x y=false by unfold rcB rcP;rw [hq,hb];rfl]
      simp
     have hv2:=Hid.mk hv2
     refine goF ?_
     refine ift_ ?_ rfl (by simp +decide only [go_sem, *]<;>rfl)
     refine goF ?_
     rw [wrap_succ (by omega)]
     refine ⟨m+1,⟨by have:=hje.out;omega,by rw [hv2.out];exact hml⟩,by have:=hje.out;omega,?_⟩
     rw [hv2.out,show (((i+1+(m+1):Nat)):Int)=((j+1:Nat):Int) by rw [hje.out];rfl]
     exact Wk.trimT (T:=[⟨63,2,v.map encP⟩,⟨73,4,[.agg [.int x.task,.int x.object,.base (.bool x.write),.int x.time]]⟩]) (T2:=[_]) hwR rfl (by simp [prB_rf,acB_rf]) ⟨.ptr iq1,.own (show NN<NN+2 by omega),.pu (.base _),.ptr (show NN+1<NN+2 by omega),.pu (.base _),.own iq2,.pu (.base _),.pu (.base _),trivial⟩
   | false =>
     have hv2:u++rcRow R i (m+1)=v++[((i:Int),(j:Int))]:=by
      rw [hr1.out,hv.out,show rcB R x y=true by unfold rcB rcP;rw [hq,hb];rfl]
      simp
     have hv2:=Hid.mk hv2
     refine goF ?_
     refine iff_ ?_ rfl (by simp +decide only [go_sem, *]<;>rfl)
     refine goF ?_
     refine ARun.q1 rfl rfl (ql_buildA (cs:=[.int i,.int j]) Tryd.underlying63 sz3 zero63 (by simp only [placesA_2];rfl)) ?_
     refine goF ?_
     refine ARun.p1 rfl rfl (pl_append (b:=NN) (tot:=v.length) (es:=[encP (i,j)]) (blk:=⟨63,2,v.map encP⟩) (by simp +decide only [go_sem, *]<;>rfl) (by simp +decide only [go_sem, *]<;>rfl) (by simp +decide only [go_sem, *]<;>rfl) (by simp) Tryd.underlying49 el63 rfl rfl (by simp) (fun e he=>by rw [List.mem_singleton] at he;subst he;exact ⟨rfl,rfl⟩) (by simp;omega) (by simp;omega)) ?_
     refine goF ?_
     by_cases h50:v.length+1=50
     ·have hrf:racesF R=v++[((i:Int),(j:Int))]:=by
       rw [← hv2.out,hu.out]
       exact rcPart (by have:=hje.out;omega) (by rw [← hu.out,hv2.out,List.length_append];exact h50)
      rw [hrf]
      clear hrf
      refine ift_ ?_ ?_ rfl
      rotate_left
      ·exact decide_eq_true (by omega)
      refine goF ?_
      refine Ret.pub (vs:=[.own NN (v.length+1) 0 (v.length+1),.int 0]) (by show resVals _ _ [.tmp 4,.tmp 5]=_;simp +decide only [resVals,resVal,ldPtr,ldE,go_sem, *]<;>rfl) ?_
      exact .tup' ⟨.ownM (ty:=63) (sz:=2) (f:=encP) (Nat.zero_le _) (by rw [List.map_append];exact app_get0 hlR) (by simp) (fun x _ c hc=>by
       simp only [AV.cells,List.mem_cons,List.not_mem_nil,or_false] at hc
       rcases hc with rfl|rfl<;>exact .base _),.pu (.base _),trivial⟩
     ·refine iff_ ?_ ?_ rfl
      rotate_left
      ·exact decide_eq_false (by omega)
      refine goF ?_
      rw [wrap_succ (by omega)]
      refine ⟨m+1,⟨by have:=hje.out;omega,by rw [hv2.out,List.length_append];show v.length+1<50;omega⟩,by have:=hje.out;omega,?_⟩
      rw [hv2.out,show (((i+1+(m+1):Nat)):Int)=((j+1:Nat):Int) by rw [hje.out];rfl,List.map_append,List.length_append,List.length_singleton]
      exact Wk.trimT (T:=[⟨63,2,v.map encP++[encP (i,j)]⟩,⟨73,4,[.agg [.int x.task,.int x.object,.base (.bool x.write),.int x.time]]⟩]) (T2:=[_]) hwR rfl (by
       intro b hb
       simp only [List.mem_cons,List.not_mem_nil,or_false] at hb
       rcases hb with rfl|rfl
       ·have:=prB_rf (l:=v++[((i:Int),(j:Int))])
        rw [List.map_append] at this
        exact this
       ·exact acB_rf) ⟨.ptr iq1,.own (show NN<NN+2 by omega),.pu (.base _),.ptr (show NN+1<NN+2 by omega),.pu (.base _),.own iq2,.pu (.base _),.pu (.base _),trivial⟩
  ·have hd2:decide (((i+1+m:Nat):Int)<(R.accs.length:Int))=false:=decide_eq_false (by omega)
   refine goF ?_
   refine iff_ ?_ rfl (by simp +decide only [go_sem, *]<;>rfl)
   refine goF ?_
   have hmn:m=R.accs.length-(i+1):=by omega
   have hv2:rcUp R (i+1)=v:=by rw [rcUp_succ,hv.out,← hu.out,← hmn]
   have hv2:=Hid.mk hv2
   rw [wrap_succ (by omega)]
   have iq1:ix .rn<NN+1:=by have:=ix_lt (a:=.rn) trivial;omega
   have iq2:ix .ac<NN+1:=by have:=ix_lt (a:=.ac) trivial;omega
   refine ⟨i+1,⟨by omega,by rw [hv2.out];exact hml⟩,by omega,?_⟩
   rw [hv2.out]
   exact Wk.trimT (T:=[⟨63,2,v.map encP⟩]) (T2:=[_]) hwR rfl (by simp [prB_rf]) ⟨.ptr iq1,.own (show NN<NN+1 by omega),.own iq2,.pu (.base _),.pu (.base _),trivial⟩
 ·have hd:decide ((i:Int)<(R.accs.length:Int))=false:=decide_eq_false (by omega)
  have hin:i=R.accs.length:=by omega
  have hrf:racesF R=rcUp R i:=by rw [hin];exact rcFull (by rw [← hin];exact hil)
  rw [hrf]
  obtain ⟨l1,hl1⟩:∃l1,l1=rcUp R i:=⟨_,rfl⟩
  rw [← hl1]
  clear hl1 hin hrf
  refine goF ?_
  refine iff_ ?_ rfl (by simp +decide only [go_sem, *]<;>rfl)
  refine goF ?_
  refine Ret.pub (vs:=[.own NN l1.length 0 l1.length,.int 0]) (by show resVals _ _ [.tmp 4,.tmp 5]=_;simp +decide only [resVals,resVal,ldPtr,ldE,go_sem, *]<;>rfl) ?_
  exact .tup' ⟨.ownM (ty:=63) (sz:=2) (f:=encP) (Nat.zero_le _) (app_get0 hlR) rfl (fun x _ c hc=>by
   simp only [AV.cells,List.mem_cons,List.not_mem_nil,or_false] at hc
   rcases hc with rfl|rfl<;>exact .base _),.pu (.base _),trivial⟩
end Go.Ab
