/- Part of the proof. -/
import Derived.Test.YthgicbkdckpeaaaDoorG23
set_option linter.unusedSimpArgs false
set_option linter.unusedVariables false
set_option maxHeartbeats 4000000
namespace Go.Ab
open Go Go.Ab Go.Proofs Go.Ab.Ty
theorem ro_r1 {N q b:Nat} (h:b<N):ro (List.range N++[q]) b=some b:=by
 have:=ro_range2 (n:=N) (b:=b)
 rw [if_pos h] at this
 unfold ro at *
 rw [List.findIdx?_append,this];rfl
theorem ro_rq {N q:Nat} (h:N≤q):ro (List.range N++[q]) q=some N:=by
 have:=ro_range2 (n:=N) (b:=q)
 rw [if_neg (by omega)] at this
 unfold ro at *
 rw [List.findIdx?_append,this]
 simp
theorem rb_r1 {N q m j:Nat} (h:j<N):rb (List.range N++[q]) m j=some j:=by
 unfold rb
 rw [if_pos (by simp;omega),List.getElem?_append_left (by simpa using h),List.getElem?_range h]
theorem rb_rq {N q m:Nat}:rb (List.range N++[q]) m N=some q:=by
 unfold rb
 rw [if_pos (by simp),List.getElem?_append_right (by simp)]
 simp
theorem CallE.pre1 {N:Nat} {H H' T:List ABlk} {l:List Int} (hl:H.length=N) (hl':H'.length=N) (hi:∀b∈H,RfB (·<N) b) (ho:∀b∈H',RfB (·<N) b):CallE (List.range N++[N+T.length]) (H++T++[intB l]) (H++[intB l]) (H'++[intB l]) (H'++T++[intB l]):=
 ⟨by
  rw [List.nodup_append]
  exact ⟨List.nodup_range,by simp,fun a ha b hb e=>by rw [List.mem_range] at ha;rw [List.mem_singleton] at hb;omega⟩,by simp [hl],fun j b hj=>by
  by_cases e:j<N
  ·rw [List.getElem?_append_left (by simpa using e),List.getElem?_range e] at hj
   injection hj with hj;subst hj
   have hjl:j<H.length:=by omega
   exact ⟨H[j],H[j],by rw [List.getElem?_append_left (by simp;omega),List.getElem?_append_left hjl,List.getElem?_eq_getElem hjl],by rw [List.getElem?_append_left hjl,List.getElem?_eq_getElem hjl],(hi _ (List.getElem_mem _)).mv fun b hb=>ro_r1 hb⟩
  ·have hjl:=(List.getElem?_eq_some_iff.1 hj).1
   simp at hjl
   obtain rfl:j=N:=by omega
   rw [List.getElem?_append_right (by simp)] at hj
   simp at hj;subst hj
   exact ⟨intB l,intB l,by rw [List.getElem?_append_right (by simp [hl])];simp [hl],by rw [List.getElem?_append_right (by omega)];simp [hl],intB_rf.mv (S:=(·<j)) fun b hb=>ro_r1 hb⟩,
 by simp;omega,by simp;omega,fun b hb hn=>by
  have hb1:¬b<N:=fun h=>hn (List.mem_append_left _ (List.mem_range.2 h))
  have hb2:b≠N+T.length:=fun h=>hn (List.mem_append_right _ (by simp [h]))
  simp at hb
  have e1:b<(H'++T).length:=by simp;omega
  have e2:b<(H++T).length:=by simp;omega
  rw [List.getElem?_append_left e1,List.getElem?_append_left e2,List.getElem?_append_right (by omega),List.getElem?_append_right (by omega),hl,hl'],fun j c bk hr hb=>by
  have hj:=(List.getElem?_eq_some_iff.1 hb).1
  simp at hj
  by_cases e:j<N
  ·rw [rb_r1 e] at hr;injection hr with hr;subst hr
   rw [List.getElem?_append_left (by omega)] at hb
   exact ⟨bk,by rw [List.getElem?_append_left (by simp;omega),List.getElem?_append_left (by omega)];exact hb,(ho _ (List.mem_of_getElem? hb)).mv fun b hb=>rb_r1 hb⟩
  ·obtain rfl:j=N:=by omega
   rw [rb_rq] at hr;injection hr with hr;subst hr
   rw [List.getElem?_append_right (by omega)] at hb
   rw [show j-H'.length=0 by omega] at hb
   injection hb with hb;subst hb
   exact ⟨intB l,by rw [List.getElem?_append_right (by simp [hl'])];simp [hl'],intB_rf.mv (S:=(·<j)) fun b hb=>rb_r1 hb⟩⟩
theorem ent_pl {s:PRun} (hw:WF s) {cd:Cd} {vs:List Int} {a:Int} (hv0:0≤cd.vars) (hv1:cd.vars≤1000) (hvs:vs.length≤cd.vars) (hne:0<vs.length) (hM:s.calls.length<MM) (hcs:cd.steps.length≤1000) {T:List ABlk} {q:Nat} (hq:q=NN+T.length) {ρ:Operand→AV} {cl:Call} {fx:Operand} (h1:cl.callee=.value fx) (h2:ρ fx=.clo 107 []) (h3:cl.args.toList.map ρ++[]=[encC cd,.own q vs.length 0 vs.length,.int a]) :
 PL Tryd.prog (HH s++T++[intB vs]) ρ (.call cl) (ptC s.calls.length) (HH (s.addC (newC cd vs a))++T++[intB vs]):=by
 have hw':WF (s.addC (newC cd vs a)):=hw.addC hM (by simp only [newC,List.length_append,List.length_replicate];omega) hcs
 refine pl_callH (entered2_ok hw hv0 hv1 hvs hne hM hcs) (.pre1 (HH_len s) (HH_len _) (HH_rn hw) (HH_rn hw')) h1 h2 (by
  rw [h3]
  exact ⟨(RfA.pu (S:=(·<NN)) (Pu_encC _)).mv fun b hb=>ro_r1 hb,.own (by subst hq;exact ro_rq (by omega)),(RfA.pu (S:=(·<NN)) (.base _)).mv fun b hb=>ro_r1 hb,trivial⟩) ((RfA.ptr (S:=(·<NN)) (ix_lt (a:=.cal s.calls.length) hM)).mv fun b hb=>rb_r1 hb)
def pshF (l:List Nat) (k j:Nat):List Nat:=if k<l.length then l.set k j else l++[j]
theorem pshF_map {l:List Nat} {k j:Nat}:(pshF l k j).map ptC=if k<l.length then (l.map ptC).set k (ptC j) else l.map ptC++[ptC j]:=by
 unfold pshF
 split
 ·rw [List.map_set]
 ·simp
theorem pshF_len {l:List Nat} {k j:Nat} (h:k≤l.length):(pshF l k j).length=if k<l.length then l.length else k+1:=by
 unfold pshF
 split
 ·simp
 ·simp;omega
theorem pl_psh {s:PRun} (hw:WF s) {n:Nat} {t:PTask} (ht:s.tasks[n]?=some t) {J:Nat} (hsl:t.sarr.length≤900) {T:List ABlk} {ρ:Operand→AV} {x y:Operand} (hx:ρ x=.own (ix (.stk n)) t.sarr.length 0 t.slen) (hy:ρ y=.lst [ptC J]) :
 PL Tryd.prog (HH s++T) ρ (.call { callee:=.builtin .append,args:=#[x,y],argTypes:=#[85,85] }) (.own (ix (.stk n)) (pshF t.sarr t.slen J).length 0 (t.slen+1)) ((HH s).set (ix (.stk n)) ⟨135,1,(pshF t.sarr t.slen J).map ptC⟩++T):=by
 obtain ⟨g1,g2,g3,g4,hn,g6⟩:=hw.k ht
 obtain ⟨a1,a2,a3,a4⟩:=hw.tsk t (List.mem_of_getElem? ht)
 have hd:(HH s)[ix (.stk n)]?=some ⟨135,1,t.sarr.map ptC⟩:=by rw [HH_get s _ g2];simp only [blk];rw [ht]
 rw [pshF_map,pshF_len a2]
 by_cases hlt:t.slen<t.sarr.length
 ·rw [if_pos hlt,if_pos hlt]
  have h1:=pl_appendIn (P:=Tryd.prog) (H:=HH s++T) (b:=ix (.stk n)) (tot:=t.sarr.length) (len:=t.slen) (v:=ptC J) (blk:=⟨135,1,t.sarr.map ptC⟩) hx hy rfl rfl (by rw [app_get (HH_len s) g2];exact hd) (by simp) hlt rfl Tryd.underlying85 el135 (hmt:=by show 135<mapTy;decide)
  rw [app_set (HH_len s) g2] at h1
  exact h1
 ·have he:t.slen=t.sarr.length:=by omega
  rw [if_neg hlt,if_neg hlt]
  rw [he] at hx ⊢
  have h1:=pl_append (P:=Tryd.prog) (H:=HH s++T) (b:=ix (.stk n)) (tot:=t.sarr.length) (es:=[ptC J]) (blk:=⟨135,1,t.sarr.map ptC⟩) hx hy (by rw [app_get (HH_len s) g2];exact hd) (by simp) Tryd.underlying85 el135 rfl rfl (by simp) (fun e he=>by rw [List.mem_singleton] at he;subst he;exact ⟨rfl,rfl⟩) (by simp;omega) (by simp;omega)
  rw [app_set (HH_len s) g2] at h1
  exact h1
theorem HH_psh {s:PRun} {n:Nat} {t:PTask} {l:List Nat} {k:Nat} (ht:s.tasks[n]?=some t) (h1:ix (.tsk n)<NN) (h2:ix (.stk n)<NN):((HH s).set (ix (.stk n)) ⟨135,1,l.map ptC⟩).set (ix (.tsk n)) (tskB n { t with sarr:=l,slen:=k })=HH (s.tset n { t with sarr:=l,slen:=k }):=by
 refine HH_upd (s:=s) (s':=s.tset n { t with sarr:=l,slen:=k }) [(.stk n,_),(.tsk n,_)] (upd2 ⟨h2,by simp only [blk];rw [tset_at ht]⟩ ⟨h1,by simp only [blk];rw [tset_at ht]⟩) fun a ha=>?_
 simp only [List.map_cons,List.map_nil,List.mem_cons,List.not_mem_nil,or_false,not_or] at ha
 cases a with
 | tsk i=>simp only [blk];rw [tset_ne fun e=>ha.2 (by rw [e])]
 | stk i=>simp only [blk];rw [tset_ne fun e=>ha.1 (by rw [e])]
 | kid i =>
   simp only [blk]
   by_cases e:n=i
   ·subst e;rw [tset_at ht,ht]
   ·rw [tset_ne e]
 | spn i =>
   simp only [blk]
   by_cases e:n=i
   ·subst e;rw [tset_at ht,ht]
   ·rw [tset_ne e]
 | rn=>simp only [blk,rnB,tset_len];rfl
 | tk=>simp only [blk,tset_len]
 | _=>rfl
section
variable {P:Program} {n:Fr} {HS:Nat→List ABlk} {o:LOp} {l:List LOp} {sl:List (Option Nat)} {E:Env} {v:AV} {K:Env→Prop}
theorem gS2 (hr:GRun P n HS 2 l sl K (putE E o.dst v)) (hg:o.g=none:=by rfl) (hd:dstOk n o.dst=true:=by rfl) (h0:qfun P (HS 0) (ev E) o.op=some v:=by (simp +decide only [go_sem, *]<;>rfl)) (h1:qfun P (HS 1) (ev E) o.op=some v:=by (simp +decide only [go_sem, *]<;>rfl)) (h2:qfun P (HS 2) (ev E) o.op=some v:=by (simp +decide only [go_sem, *]<;>rfl)):GRun P n HS 2 (o::l) (none::sl) K E:=.qf2 hg hd h0 h1 h2 hr
end
theorem step_i {s:PRun} (h:Iv s) {n j:Nat} {t:PTask} {c:PCall} {v w N:Int} {tk:Nat} {cd:Cd} {vs:List Int} {time:Int} (ht:s.tasks[n]?=some t) (hc:s.calls[j]?=some c) (hac:-1≤c.actor∧c.actor≤1000) (hcd:s.p.methods[tk]?=some cd) (hvs:∀v∈vs,inV c v) (hvl:vs.length≤900) (hC:s.calls.length<MM) (hv0:0≤cd.vars) (hv1:cd.vars≤1000) (hvv:vs.length+1≤cd.vars) (hcs:cd.steps.length≤1000) (hsl:t.sarr.length≤900) (hpc:0≤c.pc∧c.pc≤1000000) :
 FnH Tryd.prog 91 [ptR,.int n,encS ⟨9,v,w,N,tk,vs⟩,ptC j,.int time] (HH s) (.bool (decide (cd.steps.length=0))) (HH (if cd.steps.length=0 then s.addC (newC cd (givL c vs++[N]) N) else ((s.addC (newC cd (givL c vs++[N]) N)).cset j { c with pc:=c.pc+1 }).tset n { t with sarr:=pshF t.sarr t.slen s.calls.length,slen:=t.slen+1 })):=by
 have hw:=h.wf
 obtain ⟨g1,g2,g3,g4,hn,g6⟩:=hw.k ht
 obtain ⟨k1,k2⟩:=hw.c hc
 have hlen:=HH_len s
 refine FnH.intro' [(0,ptR),(1,.int n),(2,encS ⟨9,v,w,N,tk,vs⟩),(3,ptC j),(4,.int time)] 5 372 NN Tryd.func91 (by kernel_rfl) rfl rfl rfl rfl rfl (HH_len s) ?_
 refine goF ?_
 refine ARun.q1 rfl rfl (ql_ixo (n:=n) (b:=ix .tk) (by simp +decide only [go_sem, *]<;>rfl) (by simp +decide only [go_sem, *]<;>rfl) Tryd.underlying80 (by simp +decide only [go_sem, *]<;>rfl) (by simp) hn (by simp +decide only [go_sem, *]<;>rfl)) ?_
 refine goF ?_
 refine AWp.join ⟨[(1,.int n),(3,ptC j),(5,.ptr NN 1 0 0),(7,.ptr (NN+1) 1 0 0),(9,.ptr (NN+2) 1 0 0),(12,.ptr (NN+3) 1 0 0),(11,ptK n),(10,.bool false)],HH s++stT ⟨9,v,w,N,tk,vs⟩ time (whoF c n)⟩ ?_ ?_
 ·by_cases ha:0≤c.actor
  ·have hd:decide (c.actor≥0)=true:=by simp [ha]
   have hwr:IntKind.i64.wrap (-1-c.actor) = -1-c.actor:=wrap_id (by omega) (by omega)
   have hwf:whoF c n = -1-c.actor:=if_pos ha
   refine ift_ ?_ rfl (by simp +decide only [go_sem, *]<;>rfl)
   refine goF ?_
   rw [hwf]
   exact .wf (hH:=by show (HH s++_).set (NN+3) _=_;rw [app_setT (HH_len s)];rfl)
  ·have hd:decide (c.actor≥0)=false:=by simp;omega
   have hwf:whoF c n=n:=if_neg ha
   refine iff_ ?_ rfl (by simp +decide only [go_sem, *]<;>rfl)
   refine goF ?_
   rw [hwf]
   exact .wf
 obtain ⟨who,hwho⟩:∃who,who=whoF c n:=⟨_,rfl⟩
 rw [← hwho]
 clear hwho
 have hcdm:(s.p.methods.map encC)[tk]?=some (encC cd):=by rw [List.getElem?_map,hcd];rfl
 refine goF ?_
 refine iff_ ?_ rfl (by simp +decide only [go_sem, *]<;>rfl)
 refine goF ?_
 refine iff_ ?_ rfl (by simp +decide only [go_sem, *]<;>rfl)
 refine goF ?_
 refine iff_ ?_ rfl (by simp +decide only [go_sem, *]<;>rfl)
 refine goF ?_
 refine iff_ ?_ rfl (by simp +decide only [go_sem, *]<;>rfl)
 refine goF ?_
 refine iff_ ?_ rfl (by simp +decide only [go_sem, *]<;>rfl)
 refine goF ?_
 refine iff_ ?_ rfl (by simp +decide only [go_sem, *]<;>rfl)
 refine goF ?_
 refine iff_ ?_ rfl (by simp +decide only [go_sem, *]<;>rfl)
 refine goF ?_
 refine iff_ ?_ rfl (by simp +decide only [go_sem, *]<;>rfl)
 refine goF ?_
 refine ift_ ?_ rfl (by simp +decide only [go_sem, *]<;>rfl)
 refine goF ?_
 refine drS (k:=10) [none,none,none,none,none,none,none,none,none,some 0] (fun k=>match k with
  | 0=>HH s++stT ⟨9,v,w,N,tk,vs⟩ time who
  | _=>HH s++stT ⟨9,v,w,N,tk,vs⟩ time who++[⟨68,3,[(.agg [.base (.int .i64 (0)),.base (.int .i64 (0)),.base (.slice none 0 0)])]⟩]) 1 follows ?_
 refine gS ?_
 refine gS ?_
 refine gS ?_
 refine gS ?_
 refine gS ?_
 refine gS ?_
 refine gS ?_
 refine GRun.q1 rfl rfl (fun _ _=>ql_indexAddr_lst (by simp +decide only [go_sem, *]<;>rfl) (by simp +decide only [go_sem, *]<;>rfl) Tryd.underlying22 (by omega) (e:=encC cd) (by rw [Int.toNat_natCast];exact hcdm) (by kernel_rfl)) ?_
 refine gS ?_
 refine GRun.p1 (v:=.ptr (HH s++stT ⟨9,v,w,N,tk,vs⟩ time who).length 1 0 0) rfl rfl (fun ρ' h=>pl_alloc (H:=HH s++stT ⟨9,v,w,N,tk,vs⟩ time who) zero68 rfl (by decide)) ?_
 refine GRun.nil ?_
 refine goF ?_
 have hT5:∀X:ABlk,HH s++stT ⟨9,v,w,N,tk,vs⟩ time who++[X]=HH s++[rpB,stB ⟨9,v,w,N,tk,vs⟩,intB [time],intB [who],X]:=fun X=>by simp
 obtain ⟨g,hg⟩:∃g,g=givL c vs:=⟨_,rfl⟩
 have hgl:g.length=vs.length:=by rw [hg,givL_len]
 have hgiv:∀(ρ:Operand→AV) (cl:Call) (fx:Operand),cl.callee=.value fx→ρ fx=.clo 115 []→cl.args.toList.map ρ++[]=[ptC j,.lst (vs.map .int)] →
  PL Tryd.prog (HH s++[rpB,stB ⟨9,v,w,N,tk,vs⟩,intB [time],intB [who],cdB cd]) ρ (.call cl) (.own (NN+5) g.length 0 g.length) (HH s++[rpB,stB ⟨9,v,w,N,tk,vs⟩,intB [time],intB [who],cdB cd,intB g]):=fun ρ cl fx h1 h2 h3=>by
  have h:=giv_plO hw hvs (by omega) hc (T:=[rpB,stB ⟨9,v,w,N,tk,vs⟩,intB [time],intB [who],cdB cd]) (ρ:=ρ) h1 h2 h3
  rw [← hg] at h
  have e1:(HH s++[rpB,stB ⟨9,v,w,N,tk,vs⟩,intB [time],intB [who],cdB cd]).length=NN+5:=by simp [HH_len]
  have e2:HH s++[rpB,stB ⟨9,v,w,N,tk,vs⟩,intB [time],intB [who],cdB cd]++[intB g]=HH s++[rpB,stB ⟨9,v,w,N,tk,vs⟩,intB [time],intB [who],cdB cd,intB g]:=by simp
  rw [e1,e2] at h
  exact h
 have hgl':=Hid.mk hgl
 have hg':=Hid.mk hg
 clear hgl hg
 refine drS (k:=11) [none,none,none,none,some 0,none,none,none,some 1,none,none] (fun k=>match k with
  | 0=>HH s++[rpB,stB ⟨9,v,w,N,tk,vs⟩,intB [time],intB [who],cdB cd]
  | 1=>HH s++[rpB,stB ⟨9,v,w,N,tk,vs⟩,intB [time],intB [who],cdB cd,intB g]
  | _=>HH s++[rpB,stB ⟨9,v,w,N,tk,vs⟩,intB [time],intB [who],cdB cd,intB (g++[N])]) 2 follows ?_ (h0:=by
  show HH s++[rpB,stB ⟨9,v,w,N,tk,vs⟩,intB [time],intB [who],cdB cd]=(HH s++stT ⟨9,v,w,N,tk,vs⟩ time who++[(⟨68,3,[(.agg [.base (.int .i64 (0)),.base (.int .i64 (0)),.base (.slice none 0 0)])]⟩:ABlk)]).set (NN+4) _
  rw [hT5,app_setT (HH_len s)]
  rfl)
 refine gS2 ?_
 refine gS2 ?_
 refine gS2 ?_
 refine gS2 ?_
 refine GRun.p1 (v:=.own (NN+5) g.length 0 g.length) rfl rfl (fun ρ' h=>hgiv ρ' _ _ rfl ((h (.func 115) (by simp [Op.operands,Call.operands])).trans (by simp +decide only [go_sem, *]<;>rfl)) (by
  simp only [List.map]
  rw [h (.tmp 313) (by simp [Op.operands,Call.operands]),h (.tmp 315) (by simp [Op.operands,Call.operands])]
  simp +decide only [go_sem]<;>rfl)) ?_
 refine gS2 ?_
 refine gS2 ?_
 refine GRun.q1 (v:=.lst [.int N]) rfl rfl (fun c _=>ql_bsl Tryd.underlying25 sz3 (by decide) (by kernel_rfl) (by decide) (by (simp +decide only [List.map,go_sem]<;>rfl)) (by (simp +decide only [List.map,go_sem]<;>rfl)) rfl) ?_
 refine GRun.p1 (v:=.own (NN+5) (g.length+1) 0 (g.length+1)) rfl rfl (fun ρ' h=>?_) ?_
 ·have h1:=pl_append (P:=Tryd.prog) (ρ:=ρ') (H:=HH s++[rpB,stB ⟨9,v,w,N,tk,vs⟩,intB [time],intB [who],cdB cd,intB g]) (b:=NN+5) (tot:=g.length) (es:=[.int N]) (blk:=intB g) ((h (.tmp 316) (by simp [Op.operands,Call.operands])).trans (by simp +decide only [go_sem, *]<;>rfl)) ((h (.tmp 319) (by simp [Op.operands,Call.operands])).trans (by simp +decide only [go_sem, *]<;>rfl)) (by rw [app_getT (HH_len s)];rfl) (by simp) Tryd.underlying25 el3 rfl rfl (by simp) (fun e he=>by rw [List.mem_singleton] at he;subst he;exact ⟨rfl,rfl⟩) (by rw [hgl'.out];simp;omega) (by rw [hgl'.out];simp;omega)
  rw [app_setT (HH_len s)] at h1
  have he:(intB (g++[N]))=⟨(intB g).ty,(intB g).sz,(intB g).es++[.int N]⟩:=by simp
  rw [he]
  exact h1
 refine gS2 ?_
 refine gS2 ?_
 refine GRun.nil ?_
 have hgN:(g++[N]).length=g.length+1:=by simp
 have hent:∀(ρ:Operand→AV) (cl:Call) (fx:Operand),cl.callee=.value fx→ρ fx=.clo 107 []→cl.args.toList.map ρ++[]=[encC cd,.own (NN+5) (g.length+1) 0 (g.length+1),.int N] →
  PL Tryd.prog (HH s++[rpB,stB ⟨9,v,w,N,tk,vs⟩,intB [time],intB [who],cdB cd,intB (g++[N])]) ρ (.call cl) (ptC s.calls.length) (HH (s.addC (newC cd (g++[N]) N))++[rpB,stB ⟨9,v,w,N,tk,vs⟩,intB [time],intB [who],cdB cd,intB (g++[N])]):=fun ρ cl fx h1 h2 h3=>by
  have h:=ent_pl hw (cd:=cd) (vs:=g++[N]) (a:=N) hv0 hv1 (by rw [hgN,hgl'.out];exact_mod_cast hvv) (by rw [hgN];omega) hC hcs (T:=[rpB,stB ⟨9,v,w,N,tk,vs⟩,intB [time],intB [who],cdB cd]) (q:=NN+5) rfl (ρ:=ρ) h1 h2 (by rw [hgN];exact h3)
  have e2:∀L:List ABlk,L++[rpB,stB ⟨9,v,w,N,tk,vs⟩,intB [time],intB [who],cdB cd]++[intB (g++[N])]=L++[rpB,stB ⟨9,v,w,N,tk,vs⟩,intB [time],intB [who],cdB cd,intB (g++[N])]:=fun L=>by simp
  rw [e2,e2] at h
  exact h
 clear hgN
 refine ARun.p1 rfl rfl (hent _ _ _ rfl (by simp +decide only [go_sem, *]<;>rfl) (by simp +decide only [go_sem, *]<;>rfl)) ?_
 rw [← hg'.out]
 have hw1:WF (s.addC (newC cd (g++[N]) N)):=hw.addC hC (by simp only [newC,List.length_append,List.length_replicate,List.length_singleton,hgl'.out];omega) hcs
 obtain ⟨J,hJ⟩:∃J,J=s.calls.length:=⟨_,rfl⟩
 obtain ⟨s1,hs1⟩:∃s1,s1=s.addC (newC cd (g++[N]) N):=⟨_,rfl⟩
 have hc1:s1.calls[j]?=some c:=by rw [hs1];show (s.calls++[_])[j]?=_;rw [List.getElem?_append_left (List.getElem?_eq_some_iff.1 hc).1];exact hc
 have ht1:s1.tasks[n]?=some t:=by rw [hs1];exact ht
 have hJ1:Hid (J<s1.calls.length):=⟨by rw [hs1,hJ];simp [PRun.addC]⟩
 rw [← hs1] at hw1
 rw [← hJ,← hs1]
 have hs1':=Hid.mk hs1
 have hJ':=Hid.mk hJ
 clear hs1 hJ hent hgiv hcdm hcd ht hc
 have hwr:IntKind.i64.wrap (c.pc+1)=c.pc+1:=wrap_id (by omega) (by omega)
 have hwr2:IntKind.i64.wrap (c.pc+1-1)=c.pc:=by rw [wrap_id (by omega) (by omega)];omega
 have e1:=HH_cset (s:=s1) (c':={ c with pc:=c.pc+1 }) hc1 k1 rfl
 obtain ⟨s2,hs2⟩:∃s2,s2=s1.cset j { c with pc:=c.pc+1 }:=⟨_,rfl⟩
 have hc2:s2.calls[j]?=some { c with pc:=c.pc+1 }:=by rw [hs2];exact cset_at hc1
 have ht2:s2.tasks[n]?=some t:=by rw [hs2];exact ht1
 have hw2:WF s2:=by rw [hs2];exact hw1.cset (hw1.csz c (List.mem_of_getElem? hc1)).1 (hw1.csz c (List.mem_of_getElem? hc1)).2
 have hJ2:Hid (J<s2.calls.length):=⟨by rw [hs2];show J<(s1.calls.set _ _).length;rw [List.length_set];exact hJ1.out⟩
 rw [← hs2] at e1 ⊢
 have hs2':=Hid.mk hs2
 clear hs2
 refine goF ?_
 by_cases hz:cd.steps.length=0
 ·have hd:decide ((cd.steps.length:Int)>0)=false:=decide_eq_false (by omega)
  have hd2:decide (cd.steps.length=0)=true:=by simp [hz]
  have e3:=HH_cset (s:=s2) (c':=c) hc2 k1 rfl
  have hs3:s2.cset j c=s1:=by
   rw [hs2'.out]
   have:=(List.getElem?_eq_some_iff.1 hc1).2
   unfold PRun.cset
   simp only [List.set_set]
   rw [← this,List.set_getElem_self]
  rw [hs3] at e3
  rw [if_pos hz,hd2]
  refine iff_ ?_ rfl (by simp +decide only [go_sem, *]<;>rfl)
  refine goF ?_
  exact .runV [rpB,stB ⟨9,v,w,N,tk,vs⟩,intB [time],intB [who],cdB cd,intB (g++[N])] hw1 (vs:=[.bool true]) (by show resVals _ _ [.tmp 10]=_;simp +decide only [resVals,resVal,ldPtr,ldE,go_sem, *]<;>rfl) rfl rfl (.pu (.base _))
 ·have hd:decide ((cd.steps.length:Int)>0)=true:=decide_eq_true (by omega)
  have hd2:decide (cd.steps.length=0)=false:=by simp [hz]
  rw [if_neg hz,hd2]
  obtain ⟨L,hL⟩:∃L,L=(HH s2).set (ix (.stk n)) ⟨135,1,(pshF t.sarr t.slen J).map ptC⟩:=⟨_,rfl⟩
  obtain ⟨s3,hs3⟩:∃s3,s3=s2.tset n { t with sarr:=pshF t.sarr t.slen J,slen:=t.slen+1 }:=⟨_,rfl⟩
  have hpsh:∀(ρ:Operand→AV) (x y:Operand),ρ x=.own (ix (.stk n)) t.sarr.length 0 t.slen→ρ y=.lst [ptC J]→PL Tryd.prog (HH s2++[rpB,stB ⟨9,v,w,N,tk,vs⟩,intB [time],intB [who],cdB cd,intB (g++[N])]) ρ (.call { callee:=.builtin .append,args:=#[x,y],argTypes:=#[85,85] }) (.own (ix (.stk n)) (pshF t.sarr t.slen J).length 0 (t.slen+1)) (L++[rpB,stB ⟨9,v,w,N,tk,vs⟩,intB [time],intB [who],cdB cd,intB (g++[N])]):=fun ρ x y hx hy=>by
   rw [hL];exact pl_psh hw2 ht2 hsl hx hy
  have hLt:L[ix (.tsk n)]?=some (tskB n t):=by rw [hL,set_get (HH_len s2) g2,if_neg (by simp),HH_get s2 _ g1];simp only [blk];rw [ht2]
  have hLl:L.length=NN:=by rw [hL,set_len,HH_len]
  have hset:=HH_psh (l:=pshF t.sarr t.slen J) (k:=t.slen+1) ht2 g1 g2
  rw [← hL,← hs3] at hset
  have hw3:WF s3:=by
   rw [hs3]
   obtain ⟨a1,a2,a3,a4⟩:=hw2.tsk t (List.mem_of_getElem? ht2)
   refine hw2.tset ⟨fun i hi=>?_,?_,a3,a4⟩ ⟨?_,(hw2.tsz t (List.mem_of_getElem? ht2)).2⟩
   ·simp only [pshF] at hi
    split at hi
    ·rcases List.mem_or_eq_of_mem_set hi with hi|rfl
     ·exact a1 i hi
     ·exact hJ2.out
    ·rcases List.mem_append.1 hi with hi|hi
     ·exact a1 i hi
     ·rw [List.mem_singleton] at hi;subst hi;exact hJ2.out
   ·show t.slen+1≤(pshF t.sarr t.slen J).length
    rw [pshF_len a2];split<;>omega
   ·show (pshF t.sarr t.slen J).length≤1000
    rw [pshF_len a2];split<;>omega
  rw [← hs3]
  have hL':=Hid.mk hL
  have hs3':=Hid.mk hs3
  clear hL hs3
  simp only [tskB,behV] at hset hLt
  refine ift_ ?_ rfl (by simp +decide only [go_sem, *]<;>rfl)
  refine goF ?_
  refine ARun.p1 rfl rfl (hpsh _ _ _ (by simp +decide only [go_sem, *]<;>rfl) (by simp +decide only [go_sem, *]<;>rfl)) ?_
  refine goF ?_
  exact .runV [rpB,stB ⟨9,v,w,N,tk,vs⟩,intB [time],intB [who],cdB cd,intB (g++[N])] hw3 (vs:=[.bool false]) (by show resVals _ _ [.tmp 10]=_;simp +decide only [resVals,resVal,ldPtr,ldE,go_sem, *]<;>rfl) rfl rfl (.pu (.base _))
end Go.Ab
set_option maxHeartbeats 4000000
namespace Go.Ab
open Go Go.Ab Go.Proofs Go.Ab.Ty
theorem step_l {s:PRun} (h:Iv s) {n j:Nat} {t:PTask} {c:PCall} {v w nn tk:Int} {vs:List Int} {time:Int} (ht:s.tasks[n]?=some t) (hc:s.calls[j]?=some c) (hac:-1≤c.actor∧c.actor≤1000) :
 FnH Tryd.prog 91 [ptR,.int n,encS ⟨12,v,w,nn,tk,vs⟩,ptC j,.int time] (HH s) (.bool true) (HH s):=by
 have hw:=h.wf
 obtain ⟨g1,g2,g3,g4,hn,g6⟩:=hw.k ht
 obtain ⟨k1,k2⟩:=hw.c hc
 have hlen:=HH_len s
 refine FnH.intro' [(0,ptR),(1,.int n),(2,encS ⟨12,v,w,nn,tk,vs⟩),(3,ptC j),(4,.int time)] 5 372 NN Tryd.func91 (by kernel_rfl) rfl rfl rfl rfl rfl (HH_len s) ?_
 refine goF ?_
 refine ARun.q1 rfl rfl (ql_ixo (n:=n) (b:=ix .tk) (by simp +decide only [go_sem, *]<;>rfl) (by simp +decide only [go_sem, *]<;>rfl) Tryd.underlying80 (by simp +decide only [go_sem, *]<;>rfl) (by simp) hn (by simp +decide only [go_sem, *]<;>rfl)) ?_
 refine goF ?_
 refine AWp.join ⟨[(1,.int n),(3,ptC j),(5,.ptr NN 1 0 0),(7,.ptr (NN+1) 1 0 0),(9,.ptr (NN+2) 1 0 0),(12,.ptr (NN+3) 1 0 0),(11,ptK n),(10,.bool false)],HH s++stT ⟨12,v,w,nn,tk,vs⟩ time (whoF c n)⟩ ?_ ?_
 ·by_cases ha:0≤c.actor
  ·have hd:decide (c.actor≥0)=true:=by simp [ha]
   have hwr:IntKind.i64.wrap (-1-c.actor) = -1-c.actor:=wrap_id (by omega) (by omega)
   have hwf:whoF c n = -1-c.actor:=if_pos ha
   refine ift_ ?_ rfl (by simp +decide only [go_sem, *]<;>rfl)
   refine goF ?_
   rw [hwf]
   exact .wf (hH:=by show (HH s++_).set (NN+3) _=_;rw [app_setT (HH_len s)];rfl)
  ·have hd:decide (c.actor≥0)=false:=by simp;omega
   have hwf:whoF c n=n:=if_neg ha
   refine iff_ ?_ rfl (by simp +decide only [go_sem, *]<;>rfl)
   refine goF ?_
   rw [hwf]
   exact .wf
 obtain ⟨who,hwho⟩:∃who,who=whoF c n:=⟨_,rfl⟩
 rw [← hwho]
 clear hwho
 refine goF ?_
 refine iff_ ?_ rfl (by simp +decide only [go_sem, *]<;>rfl)
 refine goF ?_
 refine iff_ ?_ rfl (by simp +decide only [go_sem, *]<;>rfl)
 refine goF ?_
 refine iff_ ?_ rfl (by simp +decide only [go_sem, *]<;>rfl)
 refine goF ?_
 refine iff_ ?_ rfl (by simp +decide only [go_sem, *]<;>rfl)
 refine goF ?_
 refine iff_ ?_ rfl (by simp +decide only [go_sem, *]<;>rfl)
 refine goF ?_
 refine iff_ ?_ rfl (by simp +decide only [go_sem, *]<;>rfl)
 refine goF ?_
 refine iff_ ?_ rfl (by simp +decide only [go_sem, *]<;>rfl)
 refine goF ?_
 refine iff_ ?_ rfl (by simp +decide only [go_sem, *]<;>rfl)
 refine goF ?_
 refine iff_ ?_ rfl (by simp +decide only [go_sem, *]<;>rfl)
 refine goF ?_
 refine iff_ ?_ rfl (by simp +decide only [go_sem, *]<;>rfl)
 refine goF ?_
 refine iff_ ?_ rfl (by simp +decide only [go_sem, *]<;>rfl)
 refine goF ?_
 exact .runV (stT ⟨12,v,w,nn,tk,vs⟩ time who) hw (vs:=[.bool true]) (by show resVals _ _ [.tmp 10]=_;simp +decide only [resVals,resVal,ldPtr,ldE,go_sem, *]<;>rfl) rfl rfl (.pu (.base _))
end Go.Ab
set_option maxHeartbeats 4000000
namespace Go.Ab
open Go Go.Ab Go.Proofs Go.Ab.Ty
def varN (c:PCall) (v:Int):Nat:=(c.vars.getD v.toNat 0).toNat
def objAt (s:PRun) (o:Nat):Int × Int:=s.objs.getD o (0,-1)
def kidN (t:PTask) (i:Int):Nat:=((getM t.spn i).getD 0).toNat
def cdAt (l:List Cd) (i:Int):Cd:=l.getD i.toNat ⟨0,0,[]⟩
def ovr (s:PRun) (k:Nat):Bool:=match s.tasks[k]? with
 | some t=>decide (3≤t.state)
 | none=>false
def stepF (s:PRun) (n j:Nat) (t:PTask) (c:PCall) (st:Stp) (time:Int):Bool × PRun:=
 if st.op=1 then (true,(s.mkO st.n).cset j { c with vars:=c.vars.set st.v.toNat s.objs.length })
 else if st.op=2 then (true,if 0≤(objAt s (varN c st.w)).2 then (s.addA ⟨whoF c n,varN c st.w,false,time⟩).cset j { c with vars:=c.vars.set st.v.toNat (objAt s (varN c st.w)).2 }
  else ((((s.addA ⟨whoF c n,varN c st.w,false,time⟩).mkO 0).setO (varN c st.w) ((objAt s (varN c st.w)).1,s.objs.length)).addA ⟨whoF c n,varN c st.w,true,time⟩).cset j { c with vars:=c.vars.set st.v.toNat s.objs.length })
 else if st.op=3 then (true,(s.addA ⟨whoF c n,varN c st.v,true,time⟩).setO (varN c st.v) ((objAt s (varN c st.v)).1,c.vars.getD st.w.toNat 0))
 else if st.op=4 then (true,(s.addA ⟨whoF c n,varN c st.v,false,time⟩).addL (lineF n (objAt s (varN c st.v)).1))
 else if st.op=5 then (true,(s.addA ⟨whoF c n,varN c st.v,true,time⟩).setO (varN c st.v) (st.n,(objAt s (varN c st.v)).2))
 else if st.op=6 then (true,(startF s (cdAt s.p.codes st.task) (givL c st.vars) (s.pool.getD t.clk []) st.n n t.canc).tset n { t with kids:=t.kids++[(s.tasks.length:Int)],spn:=if c.actor<0 then setM t.spn c.pc s.tasks.length else t.spn })
 else if st.op=7 then (if ovr s (kidN t st.n) then (true,s) else (false,s.tset n { t with waits:=kidN t st.n,state:=2 }))
 else if st.op=8 then (true,(s.addA ⟨-1-(st.n.toNat:Int),st.n.toNat,true,time⟩).setO st.n.toNat ((objAt s st.n.toNat).1,c.vars.getD (st.vars.getD 0 0).toNat 0))
 else if st.op=9 then (if (cdAt s.p.methods st.task).steps.length=0 then (true,s.addC (newC (cdAt s.p.methods st.task) (givL c st.vars++[st.n]) st.n)) else (false,((s.addC (newC (cdAt s.p.methods st.task) (givL c st.vars++[st.n]) st.n)).cset j { c with pc:=c.pc+1 }).tset n { t with sarr:=pshF t.sarr t.slen s.calls.length,slen:=t.slen+1 }))
 else if st.op=10 then (true,canL s (dsc s s.tasks.length (kidN t st.n)))
 else if st.op=11 then (if t.canc then (false,stopF s n) else (true,s))
 else (true,s)
structure Tok (k:Nat) (s:PRun) (n j:Nat) (t:PTask) (c:PCall) (st:Stp):Prop where
 iv:Iv s
 ht:s.tasks[n]?=some t
 hc:s.calls[j]?=some c
 hac:-1≤c.actor∧c.actor≤1000
 vok:Vok s c st
 ob:∀x∈s.objs,-1000000≤x.1∧x.1≤1000000
 szo:s.objs.length≤900000
 sza:s.accs.length≤800000
 szl:s.lines.length≤900000
 tp:t.sarr[t.slen-1]?=some j
 pcl:c.pc<c.code.steps.length
 st1:t.state=1
 en:t.ending=0
 wt:t.waits<0
 pc:0≤c.pc∧c.pc≤1000000
 hC:s.calls.length<MM
 hP:s.pool.length+k≤MM
 hB:s.behs.length+100≤MM
 kl:t.kids.length≤900
 sl:t.sarr.length≤900
 vl:st.vars.length≤900
 op:1≤st.op∧st.op≤12
 r6:st.op=6→0≤st.task∧∃cd,s.p.codes[st.task.toNat]?=some cd∧0≤cd.vars∧cd.vars≤1000∧(st.vars.length:Int)≤cd.vars∧cd.steps.length≤1000
 r7:st.op=7∨st.op=10→∃kc:Nat,getM t.spn st.n=some (kc:Int)∧kc<s.tasks.length
 r8:st.op=8→0≤st.n∧st.n.toNat<s.objs.length∧0<st.vars.length
 r9:st.op=9→0≤st.task∧∃cd,s.p.methods[st.task.toNat]?=some cd∧0≤cd.vars∧cd.vars≤1000∧(st.vars.length:Int)+1≤cd.vars∧cd.steps.length≤1000
structure Sok (s:PRun) (n j:Nat) (t:PTask) (c:PCall) (st:Stp):Prop extends Tok 40000 s n j t c st where
 can:canF s c st=true
 bh:t.beh=none
theorem inV_at {c:PCall} {v:Int} (h:inV c v):∃vn:Nat,v=vn∧vn<c.vars.length∧c.vars[vn]?=some (c.vars.getD v.toNat 0):=by
 obtain ⟨h1,h2⟩:=h
 refine ⟨v.toNat,(Int.toNat_of_nonneg h1).symm,h2,?_⟩
 rw [List.getD_eq_getElem?_getD,List.getElem?_eq_getElem h2];rfl
theorem set_at {s:PRun} {c:PCall} {vs:List Int} {v:Int} (h:setB c vs=true) (hv:v∈vs) (hi:inV c v) (hob:∀x∈c.vars,x<s.objs.length):∃vn:Nat,v=vn∧c.vars[vn]?=some ((varN c v:Nat):Int)∧varN c v<s.objs.length∧s.objs[varN c v]?=some (objAt s (varN c v)):=by
 obtain ⟨vn,rfl,h1,h2⟩:=inV_at hi
 rw [Int.toNat_natCast] at h2
 have h3:0≤c.vars.getD vn 0:=by
  unfold setB at h
  simp only [Bool.not_eq_true',List.any_eq_false,decide_eq_true_eq] at h
  have:=h _ hv
  rw [Int.toNat_natCast] at this
  omega
 have h4:=hob _ (List.mem_of_getElem? h2)
 have h5:((varN c vn:Nat):Int)=c.vars.getD vn 0:=by unfold varN;rw [Int.toNat_natCast];exact Int.toNat_of_nonneg h3
 have h6:varN c vn<s.objs.length:=by omega
 refine ⟨vn,rfl,by rw [h2,h5],h6,?_⟩
 unfold objAt
 rw [List.getD_eq_getElem?_getD,List.getElem?_eq_getElem h6];rfl
theorem getD_at {α:Type} {l:List α} {i:Nat} {x d:α} (h:l[i]?=some x):l.getD i d=x:=by
 rw [List.getD_eq_getElem?_getD,h];rfl
theorem step_ok {mm:List (Nat × Obj)} (hmm:TabM mm) {s:PRun} {n j:Nat} {t:PTask} {c:PCall} {st:Stp} {time:Int} (h:Sok s n j t c st) :
 FnHM Tryd.prog mm 91 [ptR,.int n,encS st,ptC j,.int time] (HH s) (.bool (stepF s n j t c st time).1) (HH (stepF s n j t c st time).2):=by
 have hiv:=h.iv
 have hob:=h.vok.ob
 obtain ⟨op,v,w,nn,tk,vs⟩:=st
 have hcan:=h.can
 have hop:=h.op
 obtain ⟨v1,v2,v3,v4,v5⟩:=h.vok
 have r6:=h.r6
 have r7:=h.r7
 have r8:=h.r8
 have r9:=h.r9
 have hvl:=h.vl
 simp only at hop v1 v2 v3 v4 v5 r6 r7 r8 r9 hvl
 have hc12:op=1∨op=2∨op=3∨op=4∨op=5∨op=6∨op=7∨op=8∨op=9∨op=10∨op=11∨op=12:=by omega
 have hS:∀ {w:Int} {o:Nat},(∃vn:Nat,w=vn∧c.vars[vn]?=some (o:Int))→True:=fun _=>trivial
 rcases hc12 with rfl|rfl|rfl|rfl|rfl|rfl|rfl|rfl|rfl|rfl|rfl|rfl
 ·have:=v1 (.inl rfl)
  exact (step_a hiv h.ht h.hc h.hac ⟨this.1,by have:=this.2;have:=this;omega⟩ h.szo).m
 ·have hcan2:(setB c [w]&&(room s||decide (0≤objL s (c.vars.getD w.toNat 0))))=true:=hcan
  rw [Bool.and_eq_true] at hcan2
  obtain ⟨wn,hw1,hw2,hw3,hw4⟩:=set_at hcan2.1 (by simp) (v2 (.inl rfl)) hob
  obtain ⟨vn,hv1,hv2,hv3⟩:=inV_at (v1 (.inr (.inl rfl)))
  have hvt:v.toNat=vn:=by rw [hv1];rfl
  by_cases hx:0≤(objAt s (varN c w)).2
  ·have:=(step_b hiv (nn:=nn) (tk:=tk) (vs:=vs) (time:=time) (vn:=vn) h.ht h.hc h.hac hw2 hv2 hx hw4 (by have:=h.sza;omega)).m (m:=mm)
   simp +decide only [stepF,if_true,if_false,if_pos hx]
   rw [hvt,hv1,hw1]
   rw [hw1] at this
   exact this
  ·have:=(step_b2 hiv (nn:=nn) (tk:=tk) (vs:=vs) (time:=time) (vn:=vn) h.ht h.hc h.hac hw2 hv2 (by omega) h.szo hw4 h.sza).m (m:=mm)
   simp +decide only [stepF,if_true,if_false,if_neg hx]
   rw [hvt,hv1,hw1]
   rw [hw1] at this
   exact this
 ·have hcan2:setB c [v,w]=true:=hcan
  obtain ⟨vn,hv1,hv2,hv3,hv4⟩:=set_at hcan2 (v:=v) (by simp) (v1 (.inr (.inr (.inl rfl)))) hob
  obtain ⟨wn,hw1,hw2,hw3⟩:=inV_at (v2 (.inr rfl))
  have:=(step_c hiv (nn:=nn) (tk:=tk) (vs:=vs) (time:=time) h.ht h.hc h.hac hv2 hw3 hv4 (by have:=h.sza;omega)).m (m:=mm)
  simp +decide only [stepF,if_true,if_false]
  rw [← hv1,← hw1] at this
  exact this
 ·have hcan2:setB c [v]=true:=hcan
  obtain ⟨vn,hv1,hv2,hv3,hv4⟩:=set_at hcan2 (v:=v) (by simp) (v1 (.inr (.inr (.inr (.inl rfl))))) hob
  have:=step_d hmm hiv (w:=w) (nn:=nn) (tk:=tk) (vs:=vs) (time:=time) h.ht h.hc h.hac hv2 hv4 (h.ob _ (List.mem_of_getElem? hv4)) (by have:=h.sza;omega) h.szl
  simp +decide only [stepF,if_true,if_false]
  rw [← hv1] at this
  exact this
 ·have hcan2:setB c [v]=true:=hcan
  obtain ⟨vn,hv1,hv2,hv3,hv4⟩:=set_at hcan2 (v:=v) (by simp) (v1 (.inr (.inr (.inr (.inr rfl))))) hob
  have:=(step_e hiv (w:=w) (nn:=nn) (tk:=tk) (vs:=vs) (time:=time) h.ht h.hc h.hac hv2 hv4 (by have:=h.sza;omega)).m (m:=mm)
  simp +decide only [stepF,if_true,if_false]
  rw [← hv1] at this
  exact this
 ·have hcan2:(bif setB c vs then decide ((s.tasks.length:Int)<32) else false)=true:=hcan
  obtain ⟨h1,cd,h2,h3,h4,h5,h6⟩:=r6 rfl
  obtain ⟨tn,rfl⟩:∃tn:Nat,tk=tn:=⟨_,(Int.toNat_of_nonneg h1).symm⟩
  rw [Int.toNat_natCast] at h2
  have h32:s.tasks.length<32:=by
   cases hb:setB c vs with
   | true=>rw [hb] at hcan2;have:=of_decide_eq_true hcan2;omega
   | false=>rw [hb] at hcan2;cases hcan2
  obtain ⟨a1,a2,a3,a4⟩:=hiv.wf.tsk t (List.mem_of_getElem? h.ht)
  have hcl:s.pool[t.clk]?=some (s.pool.getD t.clk []):=by rw [List.getD_eq_getElem?_getD,List.getElem?_eq_getElem a3];rfl
  have:=(step_f hiv (v:=v) (w:=w) (pr:=nn) (time:=time) h.ht h.hc h.hac h2 (v3 (.inl rfl)) (by omega) hcl h.en h.wt h32 h.hC h.hP (by have:=h.hB;omega) h3 h4 h5 h6 h.kl).m (m:=mm)
  simp +decide only [stepF,if_true,if_false]
  rw [show cdAt s.p.codes (tn:Int)=cd from getD_at h2]
  exact this
 ·obtain ⟨kc,h1,h2⟩:=r7 (.inl rfl)
  have hk:kidN t nn=kc:=by unfold kidN;rw [h1];rfl
  have htc:s.tasks[kc]?=some s.tasks[kc]:=List.getElem?_eq_getElem h2
  have:=(step_g hiv (v:=v) (w:=w) (tk:=tk) (vs:=vs) (time:=time) h.ht h.hc h.hac h1 htc).m (m:=mm)
  have ho:ovr s kc=decide (3≤s.tasks[kc].state):=by unfold ovr;rw [htc]
  simp +decide only [stepF,if_true,if_false]
  rw [hk,ho]
  by_cases h3:3≤s.tasks[kc].state
  ·simp only [decide_eq_true h3,if_true]
   rw [decide_eq_true h3,if_pos h3] at this
   exact this
  ·simp only [decide_eq_false h3,Bool.false_eq_true,if_false]
   rw [decide_eq_false h3,if_neg h3] at this
   exact this
 ·have hcan2:setB c vs=true:=hcan
  obtain ⟨h1,h2,h3⟩:=r8 rfl
  obtain ⟨o,rfl⟩:∃o:Nat,nn=o:=⟨_,(Int.toNat_of_nonneg h1).symm⟩
  rw [Int.toNat_natCast] at h2
  cases vs with
  | nil=>simp at h3
  | cons w0 vs =>
    obtain ⟨wn,rfl,h4,h5⟩:=inV_at (v3 (.inr (.inl rfl)) w0 (by simp))
    rw [Int.toNat_natCast] at h5
    have ho:s.objs[o]?=some (objAt s o):=by unfold objAt;rw [List.getD_eq_getElem?_getD,List.getElem?_eq_getElem h2];rfl
    have:=(step_h hiv (v:=v) (w:=w) (tk:=tk) (vs:=vs) (time:=time) h.ht h.hc h.hac h5 (by have:=h.szo;omega) ho (by have:=h.sza;omega)).m (m:=mm)
    simp +decide only [stepF,if_true,if_false]
    exact this
 ·obtain ⟨h1,cd,h2,h3,h4,h5,h6⟩:=r9 rfl
  obtain ⟨tn,rfl⟩:∃tn:Nat,tk=tn:=⟨_,(Int.toNat_of_nonneg h1).symm⟩
  rw [Int.toNat_natCast] at h2
  have:=(step_i hiv (v:=v) (w:=w) (N:=nn) (time:=time) h.ht h.hc h.hac h2 (v3 (.inr (.inr rfl))) hvl h.hC h3 h4 h5 h6 h.sl h.pc).m (m:=mm)
  simp +decide only [stepF,if_true,if_false]
  rw [show cdAt s.p.methods (tn:Int)=cd from getD_at h2]
  by_cases hz:cd.steps.length=0
  ·rw [if_pos hz];rw [if_pos hz,decide_eq_true hz] at this;exact this
  ·rw [if_neg hz];rw [if_neg hz,decide_eq_false hz] at this;exact this
 ·obtain ⟨kc,h1,h2⟩:=r7 (.inr rfl)
  have hk:kidN t nn=kc:=by unfold kidN;rw [h1];rfl
  have:=(step_j hiv (v:=v) (w:=w) (tk:=tk) (vs:=vs) (time:=time) h.ht h.hc h.hac h1 h2).m (m:=mm)
  simp +decide only [stepF,if_true,if_false]
  rw [hk]
  exact this
 ·have:=(step_k hiv (v:=v) (w:=w) (nn:=nn) (tk:=tk) (vs:=vs) (time:=time) h.ht h.hc h.hac (by rw [h.st1];decide) h.wt h.hP (by have:=h.hB;omega)).m (m:=mm)
  simp +decide only [stepF,if_true,if_false]
  cases hcn:t.canc with
  | true=>rw [hcn] at this;exact this
  | false=>rw [hcn] at this;exact this
 ·exact (step_l hiv (v:=v) (w:=w) (nn:=nn) (tk:=tk) (vs:=vs) (time:=time) h.ht h.hc h.hac).m (m:=mm)
end Go.Ab
