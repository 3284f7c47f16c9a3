/- Part of the proof. -/
import Derived.Test.YthgicbkdckpeaaaDoorG20
set_option linter.unusedSimpArgs false
set_option linter.unusedVariables false
set_option maxHeartbeats 4000000
namespace Go.Ab
open Go Go.Ab Go.Proofs Go.Ab.Ty
structure Stb (s s':PRun):Prop where
 iv:Iv s'
 tl:s'.tasks.length=s.tasks.length+1
 cl:s'.calls.length=s.calls.length+1
 pl:s'.pool.length≤s.pool.length+40000
 bl:s'.behs.length≤s.behs.length+40
theorem startF_iv {s:PRun} (h:Iv s) {c:Cd} {vs a:List Int} {prio par:Int} {canc:Bool} (h0:s.tasks.length<32) (hC:s.calls.length<MM) (hP:s.pool.length+40000≤MM) (hB:s.behs.length+40≤MM) (ha:a.length=32) (hv1:c.vars≤1000) (hvs:vs.length≤c.vars) (hcs:c.steps.length≤1000)
 (hpar:par = -1∨∃p:Nat,par=(p:Int)∧p<s.tasks.length):Stb s (startF s c vs a prio par canc):=by
 have hiv:∀t':PTask,t'.sarr=[s.calls.length]→t'.slen=1→t'.kids=[]→t'.clk=s.pool.length→t'.beh=none→t'.state<3→(t'.ending=0∨3≤t'.ending)→t'.waits = -1→t'.par=par→(t'.state=1→0<c.steps.length)→Iv (((s.addC (newC c vs (-1))).addP a).addT t'):=fun t' b1 b2 b3 b4 b5 b6 b7 b8 b9 b10 =>
  startIv (prio:=prio) (par:=par) (canc:=canc) h h0 hC (by omega) ha hv1 (by omega) hcs b1 b2 b3 b4 b5 b6 b7 b8 (by rw [b9];exact hpar) b10
 have hl:∀t':PTask,(((s.addC (newC c vs (-1))).addP a).addT t').tasks.length=s.tasks.length+1:=fun t'=>by simp [PRun.addT,PRun.addP,PRun.addC]
 have hc:∀t':PTask,(((s.addC (newC c vs (-1))).addP a).addT t').calls.length=s.calls.length+1:=fun t'=>by simp [PRun.addT,PRun.addP,PRun.addC]
 have hp:∀t':PTask,(((s.addC (newC c vs (-1))).addP a).addT t').pool.length=s.pool.length+1:=fun t'=>by simp [PRun.addT,PRun.addP,PRun.addC]
 have hb:∀t':PTask,(((s.addC (newC c vs (-1))).addP a).addT t').behs.length=s.behs.length:=fun t'=>rfl
 unfold startF
 split
 ·rename_i hc0
  obtain ⟨t,ht⟩:∃t,t=newT s.calls.length prio canc par s.pool.length:=⟨_,rfl⟩
  have he:(startS s c vs a prio par canc).tset s.tasks.length (clo t 3)=((s.addC (newC c vs (-1))).addP a).addT (clo t 3):=addT_tset (s:=(s.addC (newC c vs (-1))).addP a)
  rw [← ht,he]
  have hI:=hiv (clo t 3) (by rw [ht];rfl) (by rw [ht];rfl) (by rw [ht];rfl) (by rw [ht];rfl) (by rw [ht];rfl) (by show (2:Int)<3;omega) (.inr (by show (3:Int)≤3;omega)) (by rw [ht];rfl) (by rw [ht];rfl) (fun e=>by have:(2:Int)=1:=e;omega)
  obtain ⟨f,hf⟩:∃f,f=s.tasks.length+1:=⟨_,rfl⟩
  rw [← hf]
  have hf32:f≤32:=by omega
  have hfp:s.pool.length+1+1001*f≤MM:=by omega
  have hfb:s.behs.length+f≤MM:=by omega
  obtain ⟨g1,g2⟩:=settleF_iv f _ s.tasks.length hI (by rw [hp];exact hfp) (by rw [hb];exact hfb)
  exact ⟨g1,by rw [g2.tl,hl],by rw [g2.cl,hc],by have:=g2.pl;rw [hp] at this;omega,by have:=g2.bl;rw [hb] at this;omega⟩
 ·rename_i hc0
  exact ⟨hiv _ rfl rfl rfl rfl rfl (by show (1:Int)<3;omega) (.inl rfl) rfl rfl (fun _=>by omega),hl _,hc _,by have:=hp (newT s.calls.length prio canc par s.pool.length);show (((s.addC (newC c vs (-1))).addP a).addT (newT s.calls.length prio canc par s.pool.length)).pool.length≤_;omega,by show s.behs.length≤_;omega⟩
end Go.Ab
set_option maxHeartbeats 4000000
namespace Go.Ab
open Go Go.Ab Go.Proofs Go.Ab.Ty
def whoF (c:PCall) (n:Nat):Int:=if 0≤c.actor then -1-c.actor else n
theorem WF.mkO {s:PRun} (h:WF s) (n:Int) (hb:s.objs.length<1000000):WF (s.mkO n):=
 ⟨h.1,h.2,h.3,h.4,h.5,h.6,h.7,h.8,h.9,h.10,h.11,by
  obtain ⟨a1,a2⟩:=h.12
  exact ⟨by simp [PRun.mkO];omega,a2⟩,h.13,h.14⟩
theorem step_a {s:PRun} (h:Iv s) {n j:Nat} {t:PTask} {c:PCall} {v w nn tk:Int} {vs:List Int} {time:Int} (ht:s.tasks[n]?=some t) (hc:s.calls[j]?=some c) (hac:-1≤c.actor∧c.actor≤1000) (hv:0≤v∧v<c.vars.length) (hob:s.objs.length≤900000) :
 FnH Tryd.prog 91 [ptR,.int n,encS ⟨1,v,w,nn,tk,vs⟩,ptC j,.int time] (HH s) (.bool true) (HH ((s.mkO nn).cset j { c with vars:=c.vars.set v.toNat s.objs.length })):=by
 have hw:=h.wf
 obtain ⟨g1,g2,g3,g4,hn,g6⟩:=hw.k ht
 obtain ⟨k1,k2⟩:=hw.c hc
 have hlen:=HH_len s
 refine FnH.intro' [(0,ptR),(1,.int n),(2,encS ⟨1,v,w,nn,tk,vs⟩),(3,ptC j),(4,.int time)] 5 372 NN Tryd.func91 (by kernel_rfl) rfl rfl rfl rfl rfl (HH_len s) ?_
 refine goF ?_
 refine ARun.q1 rfl rfl (ql_ixo (n:=n) (b:=ix .tk) (by simp +decide only [go_sem, *]<;>rfl) (by simp +decide only [go_sem, *]<;>rfl) Tryd.underlying80 (by simp +decide only [go_sem, *]<;>rfl) (by simp) hn (by simp +decide only [go_sem, *]<;>rfl)) ?_
 refine goF ?_
 refine AWp.join ⟨[(1,.int n),(3,ptC j),(5,.ptr NN 1 0 0),(7,.ptr (NN+1) 1 0 0),(9,.ptr (NN+2) 1 0 0),(12,.ptr (NN+3) 1 0 0),(11,ptK n),(10,.bool false)],HH s++stT ⟨1,v,w,nn,tk,vs⟩ time (whoF c n)⟩ ?_ ?_
 ·by_cases ha:0≤c.actor
  ·have hd:decide (c.actor≥0)=true:=by simp [ha]
   have hwr:IntKind.i64.wrap (-1-c.actor) = -1-c.actor:=wrap_id (by omega) (by omega)
   have hwf:whoF c n = -1-c.actor:=if_pos ha
   refine ift_ ?_ rfl (by simp +decide only [go_sem, *]<;>rfl)
   refine goF ?_
   rw [hwf]
   exact .wf (hH:=by show (HH s++_).set (NN+3) _=_;rw [app_setT (HH_len s)];rfl)
  ·have hd:decide (c.actor≥0)=false:=by simp;omega
   have hwf:whoF c n=n:=if_neg ha
   refine iff_ ?_ rfl (by simp +decide only [go_sem, *]<;>rfl)
   refine goF ?_
   rw [hwf]
   exact .wf
 obtain ⟨vn,rfl⟩:∃vn:Nat,v=vn:=⟨_,(Int.toNat_of_nonneg hv.1).symm⟩
 have hvl:vn<c.vars.length:=by omega
 obtain ⟨x,hx⟩:∃x,c.vars[vn]?=some x:=⟨_,List.getElem?_eq_getElem hvl⟩
 have hvv:=vrsV_own (j:=j) hx
 have hxm:(c.vars.map AV.int)[vn]?=some (.int x):=by rw [List.getElem?_map,hx];rfl
 have hwO:WF (s.mkO nn):=hw.mkO nn (by omega)
 have hset:=Hid.mk (HH_vset (s:=s.mkO nn) (c':={ c with vars:=c.vars.set vn s.objs.length }) hc k2 (by simp) rfl)
 have hwZ:=hwO.cset (j:=j) (c:={ c with vars:=c.vars.set vn s.objs.length }) (by simp;exact (hw.csz c (List.mem_of_getElem? hc)).1) (hw.csz c (List.mem_of_getElem? hc)).2
 rw [Int.toNat_natCast]
 obtain ⟨who,hwho⟩:∃who,who=whoF c n:=⟨_,rfl⟩
 rw [← hwho]
 clear hwho
 refine goF ?_
 refine ift_ ?_ rfl (by simp +decide only [go_sem, *]<;>rfl)
 refine goF ?_
 have hcO:(s.mkO nn).calls[j]?=some c:=hc
 refine drS (k:=10) [none,none,none,none,none,none,none,none,none,some 0] (fun k=>match k with
  | 0=>HH s++stT ⟨1,vn,w,nn,tk,vs⟩ time who
  | _=>HH (s.mkO nn)++stT ⟨1,vn,w,nn,tk,vs⟩ time who) 1 follows ?_
 refine gS ?_
 refine gS ?_
 refine gS ?_
 refine gS ?_
 refine gS ?_
 refine gS ?_
 refine gS ?_
 refine gS ?_
 refine gS ?_
 refine GRun.p1 (v:=.int s.objs.length) rfl rfl (fun ρ' h=>?_) ?_
 ·have hwO:WF (s.mkO nn):=hw.mkO nn (by omega)
  exact pl_callR hw hwO (T:=stT ⟨1,vn,w,nn,tk,vs⟩ time who) (object_ok hw nn hob) rfl ((h (.func 82) (by simp [Op.operands,Call.operands])).trans (by simp +decide only [go_sem, *]<;>rfl)) (by
   simp only [List.map]
   rw [h (.tmp 51) (by simp [Op.operands,Call.operands]),h (.tmp 53) (by simp [Op.operands,Call.operands])]
   simp +decide only [go_sem]<;>rfl) (rfRi _) (.pu (.base _))
 refine GRun.nil ?_
 refine goF ?_
 refine ARun.q1 rfl rfl (ql_ixo (n:=vn) (b:=ix (.vrs j)) (by simp +decide only [go_sem, *]<;>rfl) (by simp +decide only [go_sem, *]<;>rfl) Tryd.underlying25 (by simp +decide only [go_sem, *]<;>rfl) (by simp) hvl (by simp +decide only [go_sem, *]<;>rfl)) ?_
 refine ARun.p1 rfl rfl (pl_store_own (f:=AV.int) (l:=c.vars) (b:=ix (.vrs j)) (tot:=c.vars.length) (i:=vn) (ty:=3) (sz:=1) (s.objs.length:Int) (by simp +decide only [go_sem, *]<;>rfl) (by simp +decide only [go_sem, *]<;>rfl) (by simp +decide only [go_sem, *]<;>rfl) rfl hvl sz3 rfl rfl) ?_
 have hset2:=hset.out
 clear hset
 refine goF ?_
 exact .runV (stT ⟨1,vn,w,nn,tk,vs⟩ time who) hwZ (vs:=[.bool true]) (by show resVals _ _ [.tmp 10]=_;simp +decide only [resVals,resVal,ldPtr,ldE,go_sem, *]<;>rfl) rfl rfl (.pu (.base _))
end Go.Ab
set_option maxHeartbeats 4000000
namespace Go.Ab
open Go Go.Ab Go.Proofs Go.Ab.Ty
theorem step_k {s:PRun} (h:Iv s) {n j:Nat} {t:PTask} {c:PCall} {v w nn tk:Int} {vs:List Int} {time:Int} (ht:s.tasks[n]?=some t) (hc:s.calls[j]?=some c) (hac:-1≤c.actor∧c.actor≤1000) (hst:t.state<3) (hwt:t.waits<0) (hb1:s.pool.length+40000≤MM) (hb2:s.behs.length+40≤MM) :
 FnH Tryd.prog 91 [ptR,.int n,encS ⟨11,v,w,nn,tk,vs⟩,ptC j,.int time] (HH s) (.bool (!t.canc)) (HH (if t.canc then stopF s n else s)):=by
 have hw:=h.wf
 obtain ⟨g1,g2,g3,g4,hn,g6⟩:=hw.k ht
 obtain ⟨k1,k2⟩:=hw.c hc
 have hlen:=HH_len s
 refine FnH.intro' [(0,ptR),(1,.int n),(2,encS ⟨11,v,w,nn,tk,vs⟩),(3,ptC j),(4,.int time)] 5 372 NN Tryd.func91 (by kernel_rfl) rfl rfl rfl rfl rfl (HH_len s) ?_
 refine goF ?_
 refine ARun.q1 rfl rfl (ql_ixo (n:=n) (b:=ix .tk) (by simp +decide only [go_sem, *]<;>rfl) (by simp +decide only [go_sem, *]<;>rfl) Tryd.underlying80 (by simp +decide only [go_sem, *]<;>rfl) (by simp) hn (by simp +decide only [go_sem, *]<;>rfl)) ?_
 refine goF ?_
 refine AWp.join ⟨[(1,.int n),(3,ptC j),(5,.ptr NN 1 0 0),(7,.ptr (NN+1) 1 0 0),(9,.ptr (NN+2) 1 0 0),(12,.ptr (NN+3) 1 0 0),(11,ptK n),(10,.bool false)],HH s++stT ⟨11,v,w,nn,tk,vs⟩ time (whoF c n)⟩ ?_ ?_
 ·by_cases ha:0≤c.actor
  ·have hd:decide (c.actor≥0)=true:=by simp [ha]
   have hwr:IntKind.i64.wrap (-1-c.actor) = -1-c.actor:=wrap_id (by omega) (by omega)
   have hwf:whoF c n = -1-c.actor:=if_pos ha
   refine ift_ ?_ rfl (by simp +decide only [go_sem, *]<;>rfl)
   refine goF ?_
   rw [hwf]
   exact .wf (hH:=by show (HH s++_).set (NN+3) _=_;rw [app_setT (HH_len s)];rfl)
  ·have hd:decide (c.actor≥0)=false:=by simp;omega
   have hwf:whoF c n=n:=if_neg ha
   refine iff_ ?_ rfl (by simp +decide only [go_sem, *]<;>rfl)
   refine goF ?_
   rw [hwf]
   exact .wf
 obtain ⟨who,hwho⟩:∃who,who=whoF c n:=⟨_,rfl⟩
 rw [← hwho]
 clear hwho
 obtain ⟨is,hIs,_⟩:=stop_ok h ht hst hwt hb1 hb2
 have hwS:=hIs.wf
 clear hIs
 refine goF ?_
 refine iff_ ?_ rfl (by simp +decide only [go_sem, *]<;>rfl)
 refine goF ?_
 refine iff_ ?_ rfl (by simp +decide only [go_sem, *]<;>rfl)
 refine goF ?_
 refine iff_ ?_ rfl (by simp +decide only [go_sem, *]<;>rfl)
 refine goF ?_
 refine iff_ ?_ rfl (by simp +decide only [go_sem, *]<;>rfl)
 refine goF ?_
 refine iff_ ?_ rfl (by simp +decide only [go_sem, *]<;>rfl)
 refine goF ?_
 refine iff_ ?_ rfl (by simp +decide only [go_sem, *]<;>rfl)
 refine goF ?_
 refine iff_ ?_ rfl (by simp +decide only [go_sem, *]<;>rfl)
 refine goF ?_
 refine iff_ ?_ rfl (by simp +decide only [go_sem, *]<;>rfl)
 refine goF ?_
 refine iff_ ?_ rfl (by simp +decide only [go_sem, *]<;>rfl)
 refine goF ?_
 refine iff_ ?_ rfl (by simp +decide only [go_sem, *]<;>rfl)
 refine goF ?_
 refine ift_ ?_ rfl (by simp +decide only [go_sem, *]<;>rfl)
 refine goF ?_
 cases hcn:t.canc with
 | true =>
   refine ift_ ?_ rfl (by simp +decide only [go_sem, *]<;>rfl)
   refine goF ?_
   refine ARun.p1 rfl rfl (pl_callR hw hwS (T:=stT ⟨11,v,w,nn,tk,vs⟩ time who) is rfl (by simp +decide only [go_sem, *]<;>rfl) (by simp +decide only [go_sem, *]<;>rfl) (rfRi _) (.pu (Pu.tup (by simp)))) ?_
   refine goF ?_
   exact .runV (stT ⟨11,v,w,nn,tk,vs⟩ time who) hwS (vs:=[.bool false]) (by show resVals _ _ [.tmp 10]=_;simp +decide only [resVals,resVal,ldPtr,ldE,go_sem, *]<;>rfl) rfl rfl (.pu (.base _))
 | false =>
   refine iff_ ?_ rfl (by simp +decide only [go_sem, *]<;>rfl)
   refine goF ?_
   exact .runV (stT ⟨11,v,w,nn,tk,vs⟩ time who) hw (vs:=[.bool true]) (by show resVals _ _ [.tmp 10]=_;simp +decide only [resVals,resVal,ldPtr,ldE,go_sem, *]<;>rfl) rfl rfl (.pu (.base _))
end Go.Ab
set_option maxHeartbeats 4000000
namespace Go.Ab
open Go Go.Ab Go.Proofs Go.Ab.Ty
theorem step_j {s:PRun} (h:Iv s) {n j:Nat} {t:PTask} {c:PCall} {v w nn tk:Int} {vs:List Int} {time:Int} (ht:s.tasks[n]?=some t) (hc:s.calls[j]?=some c) (hac:-1≤c.actor∧c.actor≤1000) {kc:Nat} (hsp:getM t.spn nn=some (kc:Int)) (hkc:kc<s.tasks.length) :
 FnH Tryd.prog 91 [ptR,.int n,encS ⟨10,v,w,nn,tk,vs⟩,ptC j,.int time] (HH s) (.bool true) (HH (canL s (dsc s s.tasks.length kc))):=by
 have hw:=h.wf
 obtain ⟨g1,g2,g3,g4,hn,g6⟩:=hw.k ht
 obtain ⟨k1,k2⟩:=hw.c hc
 have hlen:=HH_len s
 refine FnH.intro' [(0,ptR),(1,.int n),(2,encS ⟨10,v,w,nn,tk,vs⟩),(3,ptC j),(4,.int time)] 5 372 NN Tryd.func91 (by kernel_rfl) rfl rfl rfl rfl rfl (HH_len s) ?_
 refine goF ?_
 refine ARun.q1 rfl rfl (ql_ixo (n:=n) (b:=ix .tk) (by simp +decide only [go_sem, *]<;>rfl) (by simp +decide only [go_sem, *]<;>rfl) Tryd.underlying80 (by simp +decide only [go_sem, *]<;>rfl) (by simp) hn (by simp +decide only [go_sem, *]<;>rfl)) ?_
 refine goF ?_
 refine AWp.join ⟨[(1,.int n),(3,ptC j),(5,.ptr NN 1 0 0),(7,.ptr (NN+1) 1 0 0),(9,.ptr (NN+2) 1 0 0),(12,.ptr (NN+3) 1 0 0),(11,ptK n),(10,.bool false)],HH s++stT ⟨10,v,w,nn,tk,vs⟩ time (whoF c n)⟩ ?_ ?_
 ·by_cases ha:0≤c.actor
  ·have hd:decide (c.actor≥0)=true:=by simp [ha]
   have hwr:IntKind.i64.wrap (-1-c.actor) = -1-c.actor:=wrap_id (by omega) (by omega)
   have hwf:whoF c n = -1-c.actor:=if_pos ha
   refine ift_ ?_ rfl (by simp +decide only [go_sem, *]<;>rfl)
   refine goF ?_
   rw [hwf]
   exact .wf (hH:=by show (HH s++_).set (NN+3) _=_;rw [app_setT (HH_len s)];rfl)
  ·have hd:decide (c.actor≥0)=false:=by simp;omega
   have hwf:whoF c n=n:=if_neg ha
   refine iff_ ?_ rfl (by simp +decide only [go_sem, *]<;>rfl)
   refine goF ?_
   rw [hwf]
   exact .wf
 obtain ⟨who,hwho⟩:∃who,who=whoF c n:=⟨_,rfl⟩
 rw [← hwho]
 clear hwho
 have ic:=cancel_ok s.tasks.length (s:=s) kc hw h.kd (by omega) hkc
 have hwS:=hw.can (dsc s s.tasks.length kc)
 have hsp':=Hid.mk hsp
 clear hsp
 refine goF ?_
 refine iff_ ?_ rfl (by simp +decide only [go_sem, *]<;>rfl)
 refine goF ?_
 refine iff_ ?_ rfl (by simp +decide only [go_sem, *]<;>rfl)
 refine goF ?_
 refine iff_ ?_ rfl (by simp +decide only [go_sem, *]<;>rfl)
 refine goF ?_
 refine iff_ ?_ rfl (by simp +decide only [go_sem, *]<;>rfl)
 refine goF ?_
 refine iff_ ?_ rfl (by simp +decide only [go_sem, *]<;>rfl)
 refine goF ?_
 refine iff_ ?_ rfl (by simp +decide only [go_sem, *]<;>rfl)
 refine goF ?_
 refine iff_ ?_ rfl (by simp +decide only [go_sem, *]<;>rfl)
 refine goF ?_
 refine iff_ ?_ rfl (by simp +decide only [go_sem, *]<;>rfl)
 refine goF ?_
 refine iff_ ?_ rfl (by simp +decide only [go_sem, *]<;>rfl)
 refine goF ?_
 refine ift_ ?_ rfl (by simp +decide only [go_sem, *]<;>rfl)
 refine goF ?_
 refine drA (k:=8) follows (hr:=?_)
 refine goF ?_
 refine ARun.q1 rfl rfl (ql_lookup (a:=nn) (m:=t.spn) (enc:=encI1) (f:=AV.int) (b:=ix (.spn n)) (by simp +decide only [go_sem, *]<;>rfl) (by simp +decide only [go_sem, *]<;>rfl) (by simp +decide only [go_sem, *]<;>rfl) Tryd.underlying86 Tryd.underlying3 (KeyEnc.int _) zero3) ?_
 rw [hsp'.out]
 refine goF ?_
 refine ARun.p1 rfl rfl (pl_callR hw hwS (T:=stT ⟨10,v,w,nn,tk,vs⟩ time who) ic rfl (by simp +decide only [go_sem, *]<;>rfl) (by simp +decide only [go_sem, *]<;>rfl) (rfRi _) (.pu (Pu.tup (by simp)))) ?_
 refine goF ?_
 exact .runV (stT ⟨10,v,w,nn,tk,vs⟩ time who) hwS (vs:=[.bool true]) (by show resVals _ _ [.tmp 10]=_;simp +decide only [resVals,resVal,ldPtr,ldE,go_sem, *]<;>rfl) rfl rfl (.pu (.base _))
end Go.Ab
set_option maxHeartbeats 4000000
namespace Go.Ab
open Go Go.Ab Go.Proofs Go.Ab.Ty
theorem step_g {s:PRun} (h:Iv s) {n j:Nat} {t:PTask} {c:PCall} {v w nn tk:Int} {vs:List Int} {time:Int} (ht:s.tasks[n]?=some t) (hc:s.calls[j]?=some c) (hac:-1≤c.actor∧c.actor≤1000) {kc:Nat} (hsp:getM t.spn nn=some (kc:Int)) {tc:PTask} (htc:s.tasks[kc]?=some tc) :
 FnH Tryd.prog 91 [ptR,.int n,encS ⟨7,v,w,nn,tk,vs⟩,ptC j,.int time] (HH s) (.bool (decide (3≤tc.state))) (HH (if 3≤tc.state then s else s.tset n { t with waits:=kc,state:=2 })):=by
 have hw:=h.wf
 obtain ⟨g1,g2,g3,g4,hn,g6⟩:=hw.k ht
 obtain ⟨k1,k2⟩:=hw.c hc
 have hlen:=HH_len s
 refine FnH.intro' [(0,ptR),(1,.int n),(2,encS ⟨7,v,w,nn,tk,vs⟩),(3,ptC j),(4,.int time)] 5 372 NN Tryd.func91 (by kernel_rfl) rfl rfl rfl rfl rfl (HH_len s) ?_
 refine goF ?_
 refine ARun.q1 rfl rfl (ql_ixo (n:=n) (b:=ix .tk) (by simp +decide only [go_sem, *]<;>rfl) (by simp +decide only [go_sem, *]<;>rfl) Tryd.underlying80 (by simp +decide only [go_sem, *]<;>rfl) (by simp) hn (by simp +decide only [go_sem, *]<;>rfl)) ?_
 refine goF ?_
 refine AWp.join ⟨[(1,.int n),(3,ptC j),(5,.ptr NN 1 0 0),(7,.ptr (NN+1) 1 0 0),(9,.ptr (NN+2) 1 0 0),(12,.ptr (NN+3) 1 0 0),(11,ptK n),(10,.bool false)],HH s++stT ⟨7,v,w,nn,tk,vs⟩ time (whoF c n)⟩ ?_ ?_
 ·by_cases ha:0≤c.actor
  ·have hd:decide (c.actor≥0)=true:=by simp [ha]
   have hwr:IntKind.i64.wrap (-1-c.actor) = -1-c.actor:=wrap_id (by omega) (by omega)
   have hwf:whoF c n = -1-c.actor:=if_pos ha
   refine ift_ ?_ rfl (by simp +decide only [go_sem, *]<;>rfl)
   refine goF ?_
   rw [hwf]
   exact .wf (hH:=by show (HH s++_).set (NN+3) _=_;rw [app_setT (HH_len s)];rfl)
  ·have hd:decide (c.actor≥0)=false:=by simp;omega
   have hwf:whoF c n=n:=if_neg ha
   refine iff_ ?_ rfl (by simp +decide only [go_sem, *]<;>rfl)
   refine goF ?_
   rw [hwf]
   exact .wf
 obtain ⟨who,hwho⟩:∃who,who=whoF c n:=⟨_,rfl⟩
 rw [← hwho]
 clear hwho
 obtain ⟨y1,y2,y3,y4,yn,y6⟩:=hw.k htc
 have io:=over_ok htc y1
 obtain ⟨s1,w1⟩:=NxS.mk' ht { t with waits:=kc }
 have e1:=w1.hset ht g1 rfl rfl rfl
 obtain ⟨s2,w2⟩:=NxS.mk' w1.tk { t with waits:=kc,state:=2 }
 have e2:=w2.hset w1.tk g1 rfl rfl rfl
 have q1:=w1.tk
 have hs2:Hid (s.tset n { t with waits:=kc,state:=2 }=s2):=⟨by rw [w2.eq,w1.eq,tset_tset]⟩
 have hw2:WF s2:=by rw [← hs2.out];exact hw.tset' ht rfl (Nat.le_refl _) rfl rfl rfl
 simp only [tskB,behV] at e1 e2
 have hsp':=Hid.mk hsp
 rw [hs2.out]
 clear hsp w1 w2
 refine goF ?_
 refine iff_ ?_ rfl (by simp +decide only [go_sem, *]<;>rfl)
 refine goF ?_
 refine iff_ ?_ rfl (by simp +decide only [go_sem, *]<;>rfl)
 refine goF ?_
 refine iff_ ?_ rfl (by simp +decide only [go_sem, *]<;>rfl)
 refine goF ?_
 refine iff_ ?_ rfl (by simp +decide only [go_sem, *]<;>rfl)
 refine goF ?_
 refine iff_ ?_ rfl (by simp +decide only [go_sem, *]<;>rfl)
 refine goF ?_
 refine iff_ ?_ rfl (by simp +decide only [go_sem, *]<;>rfl)
 refine goF ?_
 refine ift_ ?_ rfl (by simp +decide only [go_sem, *]<;>rfl)
 refine goF ?_
 refine drA (k:=6) follows (hr:=?_)
 refine goF ?_
 refine ARun.q1 rfl rfl (ql_lookup (a:=nn) (m:=t.spn) (enc:=encI1) (f:=AV.int) (b:=ix (.spn n)) (by simp +decide only [go_sem, *]<;>rfl) (by simp +decide only [go_sem, *]<;>rfl) (by simp +decide only [go_sem, *]<;>rfl) Tryd.underlying86 Tryd.underlying3 (KeyEnc.int _) zero3) ?_
 rw [hsp'.out,Option.map_some,Option.getD_some]
 refine goF ?_
 refine ARun.q1 rfl rfl (ql_ixo (n:=kc) (b:=ix .tk) (by simp +decide only [go_sem, *]<;>rfl) (by simp +decide only [go_sem, *]<;>rfl) Tryd.underlying80 (by simp +decide only [go_sem, *]<;>rfl) (by simp) yn (by simp +decide only [go_sem, *]<;>rfl)) ?_
 refine goF ?_
 refine ARun.p1 rfl rfl (pl_callR hw hw (T:=stT ⟨7,v,w,nn,tk,vs⟩ time who) io rfl (by simp +decide only [go_sem, *]<;>rfl) (by simp +decide only [go_sem, *]<;>rfl) ?_ (.pu (.base _))) ?_
 ·intro a ha
  rw [List.mem_singleton] at ha;subst ha
  exact .ptr y1
 refine goF ?_
 by_cases h3:3≤tc.state
 ·have hd:decide (3≤tc.state)=true:=by simp [h3]
  rw [if_pos h3,hd]
  refine iff_ ?_ rfl (by simp +decide only [go_sem, *]<;>rfl)
  refine goF ?_
  exact .runV (stT ⟨7,v,w,nn,tk,vs⟩ time who) hw (vs:=[.bool true]) (by show resVals _ _ [.tmp 10]=_;simp +decide only [resVals,resVal,ldPtr,ldE,go_sem, *]<;>rfl) rfl rfl (.pu (.base _))
 ·have hd:decide (3≤tc.state)=false:=by simp [h3]
  rw [if_neg h3,hd]
  refine ift_ ?_ rfl (by simp +decide only [go_sem, *]<;>rfl)
  refine goF ?_
  exact .runV (stT ⟨7,v,w,nn,tk,vs⟩ time who) hw2 (vs:=[.bool false]) (by show resVals _ _ [.tmp 10]=_;simp +decide only [resVals,resVal,ldPtr,ldE,go_sem, *]<;>rfl) rfl rfl (.pu (.base _))
end Go.Ab
set_option maxHeartbeats 4000000
namespace Go.Ab
open Go Go.Ab Go.Proofs Go.Ab.Ty
def PRun.setO (s:PRun) (o:Nat) (x:Int × Int):PRun:={ s with objs:=s.objs.set o x }
theorem HH_setO {s:PRun} {o:Nat} {x:Int × Int}:(HH s).set (ix .ob) ⟨157,2,(s.objs.set o x).map encO⟩=HH (s.setO o x):=
 HH_upd (s:=s) (s':=s.setO o x) [(.ob,_)] (upd1 ⟨ixl_ob,rfl⟩) fun a ha=>by
  cases a with
  | ob=>simp at ha
  | rn=>simp only [blk,rnB,PRun.setO,List.length_set]
  | _=>rfl
theorem step_c {s:PRun} (h:Iv s) {n j:Nat} {t:PTask} {c:PCall} {vn wn o:Nat} {x:Int × Int} {y nn tk:Int} {vs:List Int} {time:Int} (ht:s.tasks[n]?=some t) (hc:s.calls[j]?=some c) (hac:-1≤c.actor∧c.actor≤1000) (hv:c.vars[vn]?=some (o:Int)) (hwv:c.vars[wn]?=some y) (ho:s.objs[o]?=some x) (hac2:s.accs.length≤900000) :
 FnH Tryd.prog 91 [ptR,.int n,encS ⟨3,vn,wn,nn,tk,vs⟩,ptC j,.int time] (HH s) (.bool true) (HH ((s.addA ⟨whoF c n,o,true,time⟩).setO o (x.1,y))):=by
 have hw:=h.wf
 obtain ⟨g1,g2,g3,g4,hn,g6⟩:=hw.k ht
 obtain ⟨k1,k2⟩:=hw.c hc
 have hlen:=HH_len s
 refine FnH.intro' [(0,ptR),(1,.int n),(2,encS ⟨3,vn,wn,nn,tk,vs⟩),(3,ptC j),(4,.int time)] 5 372 NN Tryd.func91 (by kernel_rfl) rfl rfl rfl rfl rfl (HH_len s) ?_
 refine goF ?_
 refine ARun.q1 rfl rfl (ql_ixo (n:=n) (b:=ix .tk) (by simp +decide only [go_sem, *]<;>rfl) (by simp +decide only [go_sem, *]<;>rfl) Tryd.underlying80 (by simp +decide only [go_sem, *]<;>rfl) (by simp) hn (by simp +decide only [go_sem, *]<;>rfl)) ?_
 refine goF ?_
 refine AWp.join ⟨[(1,.int n),(3,ptC j),(5,.ptr NN 1 0 0),(7,.ptr (NN+1) 1 0 0),(9,.ptr (NN+2) 1 0 0),(12,.ptr (NN+3) 1 0 0),(11,ptK n),(10,.bool false)],HH s++stT ⟨3,vn,wn,nn,tk,vs⟩ time (whoF c n)⟩ ?_ ?_
 ·by_cases ha:0≤c.actor
  ·have hd:decide (c.actor≥0)=true:=by simp [ha]
   have hwr:IntKind.i64.wrap (-1-c.actor) = -1-c.actor:=wrap_id (by omega) (by omega)
   have hwf:whoF c n = -1-c.actor:=if_pos ha
   refine ift_ ?_ rfl (by simp +decide only [go_sem, *]<;>rfl)
   refine goF ?_
   rw [hwf]
   exact .wf (hH:=by show (HH s++_).set (NN+3) _=_;rw [app_setT (HH_len s)];rfl)
  ·have hd:decide (c.actor≥0)=false:=by simp;omega
   have hwf:whoF c n=n:=if_neg ha
   refine iff_ ?_ rfl (by simp +decide only [go_sem, *]<;>rfl)
   refine goF ?_
   rw [hwf]
   exact .wf
 obtain ⟨who,hwho⟩:∃who,who=whoF c n:=⟨_,rfl⟩
 rw [← hwho]
 clear hwho
 have hvv:=vrsV_own (j:=j) hv
 have hvm:(c.vars.map AV.int)[vn]?=some (.int o):=by rw [List.getElem?_map,hv];rfl
 have hwm:(c.vars.map AV.int)[wn]?=some (.int y):=by rw [List.getElem?_map,hwv];rfl
 have hvl:vn<c.vars.length:=(List.getElem?_eq_some_iff.1 hv).1
 have hwl:wn<c.vars.length:=(List.getElem?_eq_some_iff.1 hwv).1
 have is:=step1_ok (s:=s) (st:=⟨3,vn,wn,nn,tk,vs⟩) (time:=time) (who:=who) (o:=o) (w:=true) hac2
 refine goF ?_
 refine iff_ ?_ rfl (by simp +decide only [go_sem, *]<;>rfl)
 refine goF ?_
 refine iff_ ?_ rfl (by simp +decide only [go_sem, *]<;>rfl)
 refine goF ?_
 refine ift_ ?_ rfl (by simp +decide only [go_sem, *]<;>rfl)
 refine goF ?_
 refine drA (k:=9) follows (hr:=?_)
 refine goF ?_
 refine ARun.q1 rfl rfl (ql_ixo (n:=vn) (b:=ix (.vrs j)) (by simp +decide only [go_sem, *]<;>rfl) (by simp +decide only [go_sem, *]<;>rfl) Tryd.underlying25 (by simp +decide only [go_sem, *]<;>rfl) (by simp) hvl (by simp +decide only [go_sem, *]<;>rfl)) ?_
 refine goF ?_
 refine ARun.p1 rfl rfl (pl_callW (caps:=[.ptr NN 1 0 0,.ptr (NN+3) 1 0 0,.ptr (NN+2) 1 0 0]) is (by simp [HH_len]) rfl (by simp +decide only [go_sem,List.map]) (by simp +decide only [go_sem, *]<;>rfl)) ?_
 obtain ⟨s1,hs1⟩:∃s1,s1=s.addA ⟨who,o,true,time⟩:=⟨_,rfl⟩
 have hs1':Hid (s.addA ⟨who,o,true,time⟩=s1):=⟨hs1.symm⟩
 have hc1:s1.calls[j]?=some c:=by rw [hs1];exact hc
 have ho1:s1.objs[o]?=some x:=by rw [hs1];exact ho
 have hw1:WF s1:=by rw [hs1];exact (h.addA _ (by omega)).wf
 clear hs1 is
 rw [hs1'.out]
 refine goF ?_
 refine drA (k:=20) follows (hr:=?_)
 refine goF ?_
 refine ARun.q1 rfl rfl (ql_ixo (n:=vn) (b:=ix (.vrs j)) (by simp +decide only [go_sem, *]<;>rfl) (by simp +decide only [go_sem, *]<;>rfl) Tryd.underlying25 (by simp +decide only [go_sem, *]<;>rfl) (by simp) hvl (by simp +decide only [go_sem, *]<;>rfl)) ?_
 refine goF ?_
 refine ARun.q1 rfl rfl (ql_ixo (n:=wn) (b:=ix (.vrs j)) (by simp +decide only [go_sem, *]<;>rfl) (by simp +decide only [go_sem, *]<;>rfl) Tryd.underlying25 (by simp +decide only [go_sem, *]<;>rfl) (by simp) hwl (by simp +decide only [go_sem, *]<;>rfl)) ?_
 refine goF ?_
 have hol:o<s1.objs.length:=(List.getElem?_eq_some_iff.1 ho1).1
 have hom:(s1.objs.map encO)[o]?=some (encO x):=by rw [List.getElem?_map,ho1];rfl
 have e1:=HH_setO (s:=s1) (o:=o) (x:=(x.1,y))
 rw [List.map_set] at e1
 have hw2:WF (s1.setO o (x.1,y)):=⟨hw1.1,hw1.2,hw1.3,hw1.4,hw1.5,hw1.6,hw1.7,hw1.8,hw1.9,hw1.10,hw1.11,by
  obtain ⟨a1,a2⟩:=hw1.12
  exact ⟨by simp only [PRun.setO,List.length_set];exact a1,a2⟩,hw1.13,hw1.14⟩
 refine ARun.q1 rfl rfl (ql_ixo (n:=o) (b:=ix .ob) (by simp +decide only [go_sem, *]<;>rfl) (by simp +decide only [go_sem, *]<;>rfl) Tryd.underlying79 (by simp +decide only [go_sem, *]<;>rfl) (by simp) hol (by simp +decide only [go_sem, *]<;>rfl)) ?_
 refine goF ?_
 refine ARun.p1 rfl rfl (pl_store (b:=ix .ob) (tot:=s1.objs.length) (i:=o) (off:=1) (blk:=⟨157,2,s1.objs.map encO⟩) (v:=.int y) (by simp +decide only [go_sem, *]<;>rfl) (by simp +decide only [go_sem, *]<;>rfl) (by simp +decide only [go_sem, *]<;>rfl) (by simp) hom sz3 rfl rfl) ?_
 refine goF ?_
 exact .runV (stT ⟨3,vn,wn,nn,tk,vs⟩ time who) hw2 (vs:=[.bool true]) (by show resVals _ _ [.tmp 10]=_;simp +decide only [resVals,resVal,ldPtr,ldE,go_sem, *]<;>rfl) rfl rfl (.pu (.base _))
end Go.Ab
set_option maxHeartbeats 4000000
namespace Go.Ab
open Go Go.Ab Go.Proofs Go.Ab.Ty
theorem step_e {s:PRun} (h:Iv s) {n j:Nat} {t:PTask} {c:PCall} {vn o:Nat} {x:Int × Int} {w nn tk:Int} {vs:List Int} {time:Int} (ht:s.tasks[n]?=some t) (hc:s.calls[j]?=some c) (hac:-1≤c.actor∧c.actor≤1000) (hv:c.vars[vn]?=some (o:Int)) (ho:s.objs[o]?=some x) (hac2:s.accs.length≤900000) :
 FnH Tryd.prog 91 [ptR,.int n,encS ⟨5,vn,w,nn,tk,vs⟩,ptC j,.int time] (HH s) (.bool true) (HH ((s.addA ⟨whoF c n,o,true,time⟩).setO o (nn,x.2))):=by
 have hw:=h.wf
 obtain ⟨g1,g2,g3,g4,hn,g6⟩:=hw.k ht
 obtain ⟨k1,k2⟩:=hw.c hc
 have hlen:=HH_len s
 refine FnH.intro' [(0,ptR),(1,.int n),(2,encS ⟨5,vn,w,nn,tk,vs⟩),(3,ptC j),(4,.int time)] 5 372 NN Tryd.func91 (by kernel_rfl) rfl rfl rfl rfl rfl (HH_len s) ?_
 refine goF ?_
 refine ARun.q1 rfl rfl (ql_ixo (n:=n) (b:=ix .tk) (by simp +decide only [go_sem, *]<;>rfl) (by simp +decide only [go_sem, *]<;>rfl) Tryd.underlying80 (by simp +decide only [go_sem, *]<;>rfl) (by simp) hn (by simp +decide only [go_sem, *]<;>rfl)) ?_
 refine goF ?_
 refine AWp.join ⟨[(1,.int n),(3,ptC j),(5,.ptr NN 1 0 0),(7,.ptr (NN+1) 1 0 0),(9,.ptr (NN+2) 1 0 0),(12,.ptr (NN+3) 1 0 0),(11,ptK n),(10,.bool false)],HH s++stT ⟨5,vn,w,nn,tk,vs⟩ time (whoF c n)⟩ ?_ ?_
 ·by_cases ha:0≤c.actor
  ·have hd:decide (c.actor≥0)=true:=by simp [ha]
   have hwr:IntKind.i64.wrap (-1-c.actor) = -1-c.actor:=wrap_id (by omega) (by omega)
   have hwf:whoF c n = -1-c.actor:=if_pos ha
   refine ift_ ?_ rfl (by simp +decide only [go_sem, *]<;>rfl)
   refine goF ?_
   rw [hwf]
   exact .wf (hH:=by show (HH s++_).set (NN+3) _=_;rw [app_setT (HH_len s)];rfl)
  ·have hd:decide (c.actor≥0)=false:=by simp;omega
   have hwf:whoF c n=n:=if_neg ha
   refine iff_ ?_ rfl (by simp +decide only [go_sem, *]<;>rfl)
   refine goF ?_
   rw [hwf]
   exact .wf
 obtain ⟨who,hwho⟩:∃who,who=whoF c n:=⟨_,rfl⟩
 rw [← hwho]
 clear hwho
 have hvv:=vrsV_own (j:=j) hv
 have hvm:(c.vars.map AV.int)[vn]?=some (.int o):=by rw [List.getElem?_map,hv];rfl
 have hvl:vn<c.vars.length:=(List.getElem?_eq_some_iff.1 hv).1
 have is:=step1_ok (s:=s) (st:=⟨5,vn,w,nn,tk,vs⟩) (time:=time) (who:=who) (o:=o) (w:=true) hac2
 refine goF ?_
 refine iff_ ?_ rfl (by simp +decide only [go_sem, *]<;>rfl)
 refine goF ?_
 refine iff_ ?_ rfl (by simp +decide only [go_sem, *]<;>rfl)
 refine goF ?_
 refine iff_ ?_ rfl (by simp +decide only [go_sem, *]<;>rfl)
 refine goF ?_
 refine iff_ ?_ rfl (by simp +decide only [go_sem, *]<;>rfl)
 refine goF ?_
 refine ift_ ?_ rfl (by simp +decide only [go_sem, *]<;>rfl)
 refine goF ?_
 refine drA (k:=6) follows (hr:=?_)
 refine goF ?_
 refine ARun.q1 rfl rfl (ql_ixo (n:=vn) (b:=ix (.vrs j)) (by simp +decide only [go_sem, *]<;>rfl) (by simp +decide only [go_sem, *]<;>rfl) Tryd.underlying25 (by simp +decide only [go_sem, *]<;>rfl) (by simp) hvl (by simp +decide only [go_sem, *]<;>rfl)) ?_
 refine goF ?_
 refine ARun.p1 rfl rfl (pl_callW (caps:=[.ptr NN 1 0 0,.ptr (NN+3) 1 0 0,.ptr (NN+2) 1 0 0]) is (by simp [HH_len]) rfl (by simp +decide only [go_sem,List.map]) (by simp +decide only [go_sem, *]<;>rfl)) ?_
 obtain ⟨s1,hs1⟩:∃s1,s1=s.addA ⟨who,o,true,time⟩:=⟨_,rfl⟩
 have hs1':Hid (s.addA ⟨who,o,true,time⟩=s1):=⟨hs1.symm⟩
 have hc1:s1.calls[j]?=some c:=by rw [hs1];exact hc
 have ho1:s1.objs[o]?=some x:=by rw [hs1];exact ho
 have hw1:WF s1:=by rw [hs1];exact (h.addA _ (by omega)).wf
 clear hs1 is
 rw [hs1'.out]
 have hol:o<s1.objs.length:=(List.getElem?_eq_some_iff.1 ho1).1
 have hom:(s1.objs.map encO)[o]?=some (encO x):=by rw [List.getElem?_map,ho1];rfl
 have e1:=HH_setO (s:=s1) (o:=o) (x:=(nn,x.2))
 rw [List.map_set] at e1
 have hw2:WF (s1.setO o (nn,x.2)):=⟨hw1.1,hw1.2,hw1.3,hw1.4,hw1.5,hw1.6,hw1.7,hw1.8,hw1.9,hw1.10,hw1.11,by
  obtain ⟨a1,a2⟩:=hw1.12
  exact ⟨by simp only [PRun.setO,List.length_set];exact a1,a2⟩,hw1.13,hw1.14⟩
 refine goF ?_
 refine drA (k:=7) follows (hr:=?_)
 refine goF ?_
 refine ARun.q1 rfl rfl (ql_ixo (n:=o) (b:=ix .ob) (by simp +decide only [go_sem, *]<;>rfl) (by simp +decide only [go_sem, *]<;>rfl) Tryd.underlying79 (by simp +decide only [go_sem, *]<;>rfl) (by simp) hol (by simp +decide only [go_sem, *]<;>rfl)) ?_
 refine goF ?_
 refine ARun.p1 rfl rfl (pl_store (b:=ix .ob) (tot:=s1.objs.length) (i:=o) (off:=0) (blk:=⟨157,2,s1.objs.map encO⟩) (v:=.int nn) (by simp +decide only [go_sem, *]<;>rfl) (by simp +decide only [go_sem, *]<;>rfl) (by simp +decide only [go_sem, *]<;>rfl) (by simp) hom sz3 rfl rfl) ?_
 refine goF ?_
 exact .runV (stT ⟨5,vn,w,nn,tk,vs⟩ time who) hw2 (vs:=[.bool true]) (by show resVals _ _ [.tmp 10]=_;simp +decide only [resVals,resVal,ldPtr,ldE,go_sem, *]<;>rfl) rfl rfl (.pu (.base _))
end Go.Ab
set_option maxHeartbeats 4000000
namespace Go.Ab
open Go Go.Ab Go.Proofs Go.Ab.Ty
theorem step_h {s:PRun} (h:Iv s) {n j:Nat} {t:PTask} {c:PCall} {wn o:Nat} {x:Int × Int} {v w y tk:Int} {vs:List Int} {time:Int} (ht:s.tasks[n]?=some t) (hc:s.calls[j]?=some c) (hac:-1≤c.actor∧c.actor≤1000) (hv:c.vars[wn]?=some y) (ho32:o≤1000000) (ho:s.objs[o]?=some x) (hac2:s.accs.length≤900000) :
 FnH Tryd.prog 91 [ptR,.int n,encS ⟨8,v,w,o,tk,(wn:Int)::vs⟩,ptC j,.int time] (HH s) (.bool true) (HH ((s.addA ⟨-1-(o:Int),o,true,time⟩).setO o (x.1,y))):=by
 have hw:=h.wf
 obtain ⟨g1,g2,g3,g4,hn,g6⟩:=hw.k ht
 obtain ⟨k1,k2⟩:=hw.c hc
 have hlen:=HH_len s
 refine FnH.intro' [(0,ptR),(1,.int n),(2,encS ⟨8,v,w,o,tk,(wn:Int)::vs⟩),(3,ptC j),(4,.int time)] 5 372 NN Tryd.func91 (by kernel_rfl) rfl rfl rfl rfl rfl (HH_len s) ?_
 refine goF ?_
 refine ARun.q1 rfl rfl (ql_ixo (n:=n) (b:=ix .tk) (by simp +decide only [go_sem, *]<;>rfl) (by simp +decide only [go_sem, *]<;>rfl) Tryd.underlying80 (by simp +decide only [go_sem, *]<;>rfl) (by simp) hn (by simp +decide only [go_sem, *]<;>rfl)) ?_
 refine goF ?_
 refine AWp.join ⟨[(1,.int n),(3,ptC j),(5,.ptr NN 1 0 0),(7,.ptr (NN+1) 1 0 0),(9,.ptr (NN+2) 1 0 0),(12,.ptr (NN+3) 1 0 0),(11,ptK n),(10,.bool false)],HH s++stT ⟨8,v,w,o,tk,(wn:Int)::vs⟩ time (whoF c n)⟩ ?_ ?_
 ·by_cases ha:0≤c.actor
  ·have hd:decide (c.actor≥0)=true:=by simp [ha]
   have hwr:IntKind.i64.wrap (-1-c.actor) = -1-c.actor:=wrap_id (by omega) (by omega)
   have hwf:whoF c n = -1-c.actor:=if_pos ha
   refine ift_ ?_ rfl (by simp +decide only [go_sem, *]<;>rfl)
   refine goF ?_
   rw [hwf]
   exact .wf (hH:=by show (HH s++_).set (NN+3) _=_;rw [app_setT (HH_len s)];rfl)
  ·have hd:decide (c.actor≥0)=false:=by simp;omega
   have hwf:whoF c n=n:=if_neg ha
   refine iff_ ?_ rfl (by simp +decide only [go_sem, *]<;>rfl)
   refine goF ?_
   rw [hwf]
   exact .wf
 obtain ⟨who,hwho⟩:∃who,who=whoF c n:=⟨_,rfl⟩
 rw [← hwho]
 clear hwho
 have hvv:=vrsV_own (j:=j) hv
 have hvm:(c.vars.map AV.int)[wn]?=some (.int y):=by rw [List.getElem?_map,hv];rfl
 have hvl:wn<c.vars.length:=(List.getElem?_eq_some_iff.1 hv).1
 have is:=step1_ok (s:=s) (st:=⟨8,v,w,o,tk,(wn:Int)::vs⟩) (time:=time) (who:=-1-(o:Int)) (o:=o) (w:=true) hac2
 have hwo:IntKind.i64.wrap (-1-(o:Int)) = -1-(o:Int):=wrap_id (by omega) (by omega)
 refine goF ?_
 refine iff_ ?_ rfl (by simp +decide only [go_sem, *]<;>rfl)
 refine goF ?_
 refine iff_ ?_ rfl (by simp +decide only [go_sem, *]<;>rfl)
 refine goF ?_
 refine iff_ ?_ rfl (by simp +decide only [go_sem, *]<;>rfl)
 refine goF ?_
 refine iff_ ?_ rfl (by simp +decide only [go_sem, *]<;>rfl)
 refine goF ?_
 refine iff_ ?_ rfl (by simp +decide only [go_sem, *]<;>rfl)
 refine goF ?_
 refine iff_ ?_ rfl (by simp +decide only [go_sem, *]<;>rfl)
 refine goF ?_
 refine iff_ ?_ rfl (by simp +decide only [go_sem, *]<;>rfl)
 refine goF ?_
 refine ift_ ?_ rfl (by simp +decide only [go_sem, *]<;>rfl)
 refine goF ?_
 have hT:∀a b c d e:ABlk,(HH s++[a,b,c,d]).set (NN+3) e=HH s++[a,b,c,e]:=fun a b c d e=>app_setT (HH_len s)
 refine ARun.p1 rfl rfl (pl_callW (caps:=[.ptr NN 1 0 0,.ptr (NN+3) 1 0 0,.ptr (NN+2) 1 0 0]) is (by simp [HH_len]) rfl (by simp +decide only [go_sem,List.map]) (by simp +decide only [go_sem, *]<;>rfl)) ?_
 obtain ⟨s1,hs1⟩:∃s1,s1=s.addA ⟨-1-(o:Int),o,true,time⟩:=⟨_,rfl⟩
 have hs1':Hid (s.addA ⟨-1-(o:Int),o,true,time⟩=s1):=⟨hs1.symm⟩
 have hc1:s1.calls[j]?=some c:=by rw [hs1];exact hc
 have ho1:s1.objs[o]?=some x:=by rw [hs1];exact ho
 have hw1:WF s1:=by rw [hs1];exact (h.addA _ (by omega)).wf
 clear hs1 is
 rw [hs1'.out]
 have hol:o<s1.objs.length:=(List.getElem?_eq_some_iff.1 ho1).1
 have hom:(s1.objs.map encO)[o]?=some (encO x):=by rw [List.getElem?_map,ho1];rfl
 have e1:=HH_setO (s:=s1) (o:=o) (x:=(x.1,y))
 rw [List.map_set] at e1
 have hw2:WF (s1.setO o (x.1,y)):=⟨hw1.1,hw1.2,hw1.3,hw1.4,hw1.5,hw1.6,hw1.7,hw1.8,hw1.9,hw1.10,hw1.11,by
  obtain ⟨a1,a2⟩:=hw1.12
  exact ⟨by simp only [PRun.setO,List.length_set];exact a1,a2⟩,hw1.13,hw1.14⟩
 refine goF ?_
 refine drA (k:=16) follows (hr:=?_)
 refine goF ?_
 refine ARun.q1 rfl rfl (ql_indexAddr_lst (by simp +decide only [go_sem, *]<;>rfl) (by simp +decide only [go_sem, *]<;>rfl) Tryd.underlying25 (by omega) (e:=.int wn) rfl (by kernel_rfl)) ?_
 refine goF ?_
 refine ARun.q1 rfl rfl (ql_ixo (n:=wn) (b:=ix (.vrs j)) (by simp +decide only [go_sem, *]<;>rfl) (by simp +decide only [go_sem, *]<;>rfl) Tryd.underlying25 (by simp +decide only [go_sem, *]<;>rfl) (by simp) hvl (by simp +decide only [go_sem, *]<;>rfl)) ?_
 refine goF ?_
 refine ARun.q1 rfl rfl (ql_ixo (n:=o) (b:=ix .ob) (by simp +decide only [go_sem, *]<;>rfl) (by simp +decide only [go_sem, *]<;>rfl) Tryd.underlying79 (by simp +decide only [go_sem, *]<;>rfl) (by simp) hol (by simp +decide only [go_sem, *]<;>rfl)) ?_
 refine goF ?_
 refine ARun.p1 rfl rfl (pl_store (b:=ix .ob) (tot:=s1.objs.length) (i:=o) (off:=1) (blk:=⟨157,2,s1.objs.map encO⟩) (v:=.int y) (by simp +decide only [go_sem, *]<;>rfl) (by simp +decide only [go_sem, *]<;>rfl) (by simp +decide only [go_sem, *]<;>rfl) (by simp) hom sz3 rfl rfl) ?_
 refine goF ?_
 exact .runV (stT ⟨8,v,w,o,tk,(wn:Int)::vs⟩ time (-1-(o:Int))) hw2 (vs:=[.bool true]) (by show resVals _ _ [.tmp 10]=_;simp +decide only [resVals,resVal,ldPtr,ldE,go_sem, *]<;>rfl) rfl rfl (.pu (.base _))
end Go.Ab
