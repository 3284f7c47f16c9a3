/- Part of the proof. -/
import Derived.Test.YthgicbkdckpeaaaDoorG22
set_option linter.unusedSimpArgs false
set_option linter.unusedVariables false
set_option maxHeartbeats 4000000
namespace Go.Ab
open Go Go.Ab Go.Proofs Go.Ab.Ty
theorem givL_len {c:PCall} {vs:List Int}:(givL c vs).length=vs.length:=by simp [givL]
theorem CallE.preN {N:Nat} {H T:List ABlk} {B:ABlk} (hl:H.length=N) (hi:∀b∈H,RfB (·<N) b) (hB:RfB (·<N) B):CallE (List.range N) (H++T) H (H++[B]) (H++T++[B]):=
 ⟨List.nodup_range,by rw [List.length_range,hl],fun j b hj=>by
  obtain ⟨h1,h2⟩:=List.getElem?_eq_some_iff.1 hj
  rw [List.length_range] at h1
  rw [List.getElem_range] at h2
  subst h2
  have hjl:j<H.length:=by omega
  exact ⟨H[j],H[j],by rw [List.getElem?_append_left hjl,List.getElem?_eq_getElem hjl],List.getElem?_eq_getElem hjl,(hi _ (List.getElem_mem _)).mv fun b hb=>by rw [ro_range2,if_pos hb]⟩,
 by simp,by simp;omega,fun b hb hn=>by rw [List.getElem?_append_left hb],fun j c bk hr hb=>by
  have hj:=(List.getElem?_eq_some_iff.1 hb).1
  simp only [List.length_append,List.length_singleton] at hj
  by_cases e:j<N
  ·rw [rb_range2 e] at hr;injection hr with hr;subst hr
   rw [List.getElem?_append_left (by omega)] at hb
   refine ⟨bk,?_,(hi _ (List.mem_of_getElem? hb)).mv fun b hb=>rb_range2 hb⟩
   rw [List.getElem?_append_left (by simp;omega),List.getElem?_append_left (by omega)];exact hb
  ·have ej:j=N:=by omega
   subst ej
   have:rb (List.range j) (H++T).length j=some (H++T).length:=by unfold rb;rw [List.length_range,if_neg e];simp
   rw [this] at hr;injection hr with hr;subst hr
   rw [List.getElem?_append_right (by omega)] at hb
   rw [show j-H.length=0 by omega] at hb
   injection hb with hb;subst hb
   exact ⟨B,by rw [List.getElem?_append_right (Nat.le_refl _)];simp,hB.mv fun b hb=>rb_range2 hb⟩⟩
theorem giv_plO {s:PRun} (hw:WF s) {j:Nat} {c:PCall} {vs:List Int} (hvs:∀v∈vs,inV c v) (hl:vs.length≤1000000) (hc:s.calls[j]?=some c) {T:List ABlk} {ρ:Operand→AV} {cl:Call} {fx:Operand} (h1:cl.callee=.value fx) (h2:ρ fx=.clo 115 []) (h3:cl.args.toList.map ρ++[]=[ptC j,.lst (vs.map .int)]) :
 PL Tryd.prog (HH s++T) ρ (.call cl) (.own (HH s++T).length (givL c vs).length 0 (givL c vs).length) (HH s++T++[intB (givL c vs)]):=by
 obtain ⟨k1,k2⟩:=hw.c hc
 have hlr:∀b,b<NN→ro (List.range NN) b=some b:=fun b hb=>by rw [ro_range2,if_pos hb]
 refine pl_callH (given_ok hw hvs hl hc k1 k2) (.preN (HH_len s) (HH_rn hw) intB_rf) h1 h2 (by
  rw [h3]
  exact ⟨(RfA.ptr (S:=(·<NN)) k1).mv hlr,(RfA.pu (S:=(·<NN)) (Pu_mapInt _)).mv hlr,trivial⟩) (.own ?_)
 unfold rb
 rw [List.length_range,if_neg (Nat.lt_irrefl _)]
 simp
theorem giv_pl {s:PRun} (hw:WF s) {j:Nat} {c:PCall} {vs:List Int} (hvs:∀v∈vs,inV c v) (hl:vs.length≤1000000) (hc:s.calls[j]?=some c) {T:List ABlk} (hT:∀b∈T,RfB (·<NN) b) {ρ:Operand→AV} {cl:Call} {fx:Operand} (h1:cl.callee=.value fx) (h2:ρ fx=.clo 115 []) (h3:cl.args.toList.map ρ++[]=[ptC j,.lst (vs.map .int)]) :
 PL Tryd.prog (HH s++T) ρ (.call cl) (.lst ((givL c vs).map .int)) (HH s++T):=by
 refine PL.dropP (giv_plO hw hvs hl hc h1 h2 h3) rfl (fun b blk hb=>?_) (Pub.ownM (ty:=3) (sz:=1) (Nat.le_refl _) (by simp) rfl (fun x _ c hc=>by simp only [AV.cells,List.mem_singleton] at hc;subst hc;exact .base _))
 refine RfB.mv (S:=(·<NN)) ?_ fun i hi=>drp_ne (by simp [HH_len];omega)
 rcases List.mem_append.1 (List.mem_of_getElem? hb) with h|h
 ·exact HH_rn hw _ h
 ·exact hT _ h
theorem stT_rf0 {st:Stp} {time who:Int}:∀b∈stT st time who,RfB (·=ix .rn) b:=by
 intro b hb
 simp only [List.mem_cons,List.not_mem_nil,or_false] at hb
 rcases hb with rfl|rfl|rfl|rfl
 ·intro e he c hc
  rw [List.mem_singleton] at he;subst he
  simp only [AV.cells,List.mem_singleton] at hc;subst hc
  exact .ptr rfl
 ·refine .one fun c hc=>?_
  simp only [List.mem_cons,List.not_mem_nil,or_false] at hc
  rcases hc with rfl|rfl|rfl|rfl|rfl|rfl<;>first|exact .pu (.base _)|exact .pu (Pu_mapInt _)
 ·exact intB_rf
 ·exact intB_rf
theorem stT_rf {st:Stp} {time who:Int}:∀b∈stT st time who,RfB (·<NN) b:=fun b hb=>(stT_rf0 b hb).mono fun i h=>by subst h;exact ixl_rn
theorem kidV_add {k:Nat} {l:List Int} {x:Int}:kidV k (l++[x])=.own (ix (.kid k)) (l.length+1) 0 (l.length+1):=by
 cases l with
 | nil=>rfl
 | cons a l=>simp [kidV]
theorem pl_kid {s:PRun} (hw:WF s) {n:Nat} {t:PTask} (ht:s.tasks[n]?=some t) {k:Int} (hkl:t.kids.length≤900) {T:List ABlk} (hT:∀b∈T,RfB (·=ix .rn) b) {ρ:Operand→AV} {x y:Operand} (hx:ρ x=kidV n t.kids) (hy:ρ y=.lst [.int k]) :
 PL Tryd.prog (HH s++T) ρ (.call { callee:=.builtin .append,args:=#[x,y],argTypes:=#[25,25] }) (.own (ix (.kid n)) (t.kids.length+1) 0 (t.kids.length+1)) ((HH s).set (ix (.kid n)) (intB (t.kids++[k]))++T):=by
 obtain ⟨g1,g2,g3,g4,hn,g6⟩:=hw.k ht
 have hd:(HH s)[ix (.kid n)]?=some (intB t.kids):=by rw [HH_get s _ g3];simp only [blk];rw [ht]
 cases hk:t.kids with
 | nil =>
   rw [hk] at hx hd
   have h1:=pl_append_nil (P:=Tryd.prog) (H:=HH s++T) (es:=[.int k]) hx hy Tryd.underlying25 el3 (fun e he=>by rw [List.mem_singleton] at he;subst he;exact ⟨rfl,rfl⟩) (by simp) (by simp)
   have h2:=PL.placeS h1 (p:=ix (.kid n)) (blk0:=intB []) (by rw [app_get (HH_len s) g3];exact hd) rfl (by simp) (fun e he c hc=>by
    rw [List.mem_singleton] at he;subst he
    simp only [AV.cells,List.mem_singleton] at hc;subst hc;exact .pu (.base _)) (app_rf (HH_nbK hw ht hk (by simp [HH_len])) fun b hb=>(hT b hb).mono fun i hi=>by
     subst hi
     exact ⟨fun e=>(by have:=ix_inj e;cases this),by have:=ixl_rn;simp [HH_len];omega⟩) MvR.ownL
   rw [app_set (HH_len s) g3] at h2
   exact h2
 | cons a l =>
   have hx2:ρ x=.own (ix (.kid n)) t.kids.length 0 t.kids.length:=by rw [hx,hk];rfl
   have h1:=pl_append (P:=Tryd.prog) (H:=HH s++T) (b:=ix (.kid n)) (tot:=t.kids.length) (es:=[.int k]) (blk:=intB t.kids) hx2 hy (by rw [app_get (HH_len s) g3];exact hd) (by simp) Tryd.underlying25 el3 rfl rfl (by simp) (fun e he=>by rw [List.mem_singleton] at he;subst he;exact ⟨rfl,rfl⟩) (by simp;omega) (by simp;omega)
   rw [app_set (HH_len s) g3] at h1
   rw [← hk]
   have he:(intB (t.kids++[k]))=⟨(intB t.kids).ty,(intB t.kids).sz,(intB t.kids).es++[.int k]⟩:=by simp
   rw [he]
   exact h1
theorem step_f {s:PRun} (h:Iv s) {n j:Nat} {t:PTask} {c:PCall} {v w pr:Int} {tk:Nat} {cd:Cd} {a:List Int} {vs:List Int} {time:Int} (ht:s.tasks[n]?=some t) (hc:s.calls[j]?=some c) (hac:-1≤c.actor∧c.actor≤1000) (hcd:s.p.codes[tk]?=some cd) (hvs:∀v∈vs,inV c v) (hvl:vs.length≤1000) (hcl:s.pool[t.clk]?=some a) (hen:t.ending=0) (hwt:t.waits<0) (h0:s.tasks.length<32) (hC:s.calls.length<MM) (hP:s.pool.length+40000≤MM) (hB:s.behs.length+40≤MM) (hv0:0≤cd.vars) (hv1:cd.vars≤1000) (hvv:vs.length≤cd.vars) (hcs:cd.steps.length≤1000) (hkl:t.kids.length≤900) :
 FnH Tryd.prog 91 [ptR,.int n,encS ⟨6,v,w,pr,tk,vs⟩,ptC j,.int time] (HH s) (.bool true) (HH ((startF s cd (givL c vs) a pr n t.canc).tset n { t with kids:=t.kids++[(s.tasks.length:Int)],spn:=if c.actor<0 then setM t.spn c.pc s.tasks.length else t.spn })):=by
 have hw:=h.wf
 obtain ⟨g1,g2,g3,g4,hn,g6⟩:=hw.k ht
 obtain ⟨k1,k2⟩:=hw.c hc
 have hlen:=HH_len s
 refine FnH.intro' [(0,ptR),(1,.int n),(2,encS ⟨6,v,w,pr,tk,vs⟩),(3,ptC j),(4,.int time)] 5 372 NN Tryd.func91 (by kernel_rfl) rfl rfl rfl rfl rfl (HH_len s) ?_
 refine goF ?_
 refine ARun.q1 rfl rfl (ql_ixo (n:=n) (b:=ix .tk) (by simp +decide only [go_sem, *]<;>rfl) (by simp +decide only [go_sem, *]<;>rfl) Tryd.underlying80 (by simp +decide only [go_sem, *]<;>rfl) (by simp) hn (by simp +decide only [go_sem, *]<;>rfl)) ?_
 refine goF ?_
 refine AWp.join ⟨[(1,.int n),(3,ptC j),(5,.ptr NN 1 0 0),(7,.ptr (NN+1) 1 0 0),(9,.ptr (NN+2) 1 0 0),(12,.ptr (NN+3) 1 0 0),(11,ptK n),(10,.bool false)],HH s++stT ⟨6,v,w,pr,tk,vs⟩ time (whoF c n)⟩ ?_ ?_
 ·by_cases ha:0≤c.actor
  ·have hd:decide (c.actor≥0)=true:=by simp [ha]
   have hwr:IntKind.i64.wrap (-1-c.actor) = -1-c.actor:=wrap_id (by omega) (by omega)
   have hwf:whoF c n = -1-c.actor:=if_pos ha
   refine ift_ ?_ rfl (by simp +decide only [go_sem, *]<;>rfl)
   refine goF ?_
   rw [hwf]
   exact .wf (hH:=by show (HH s++_).set (NN+3) _=_;rw [app_setT (HH_len s)];rfl)
  ·have hd:decide (c.actor≥0)=false:=by simp;omega
   have hwf:whoF c n=n:=if_neg ha
   refine iff_ ?_ rfl (by simp +decide only [go_sem, *]<;>rfl)
   refine goF ?_
   rw [hwf]
   exact .wf
 obtain ⟨who,hwho⟩:∃who,who=whoF c n:=⟨_,rfl⟩
 rw [← hwho]
 clear hwho
 have hn32:=hw.nT
 have hTr:=stT_rf (st:=⟨6,v,w,pr,tk,vs⟩) (time:=time) (who:=who)
 have is:=start_ok h (c:=cd) (vs:=givL c vs) (a:=a) (prio:=pr) (par:=n) (canc:=t.canc) (x:=t.clk) h0 hC hP hB hcl hv0 hv1 (by rw [givL_len];exact hvv) hcs (.inr ⟨n,rfl,hn⟩)
 have hcdm:(s.p.codes.map encC)[tk]?=some (encC cd):=by rw [List.getElem?_map,hcd];rfl
 refine goF ?_
 refine iff_ ?_ rfl (by simp +decide only [go_sem, *]<;>rfl)
 refine goF ?_
 refine iff_ ?_ rfl (by simp +decide only [go_sem, *]<;>rfl)
 refine goF ?_
 refine iff_ ?_ rfl (by simp +decide only [go_sem, *]<;>rfl)
 refine goF ?_
 refine iff_ ?_ rfl (by simp +decide only [go_sem, *]<;>rfl)
 refine goF ?_
 refine iff_ ?_ rfl (by simp +decide only [go_sem, *]<;>rfl)
 refine goF ?_
 refine ift_ ?_ rfl (by simp +decide only [go_sem, *]<;>rfl)
 refine goF ?_
 refine drS (k:=25) [none,none,none,none,none,none,none,none,none,none,none,none,none,some 0,none,none,none,none,none,none,none,none,none,none,none] (fun _=>HH s++stT ⟨6,v,w,pr,tk,vs⟩ time who) 1 follows ?_
 refine gS ?_
 refine gS ?_
 refine gS ?_
 refine gS ?_
 refine gS ?_
 refine gS ?_
 refine gS ?_
 refine gS ?_
 refine GRun.q1 rfl rfl (fun _ _=>ql_indexAddr_lst (by simp +decide only [go_sem, *]<;>rfl) (by simp +decide only [go_sem, *]<;>rfl) Tryd.underlying22 (by omega) (e:=encC cd) (by rw [Int.toNat_natCast];exact hcdm) (by kernel_rfl)) ?_
 refine gS ?_
 refine gS ?_
 refine gS ?_
 refine gS ?_
 refine GRun.p1 (v:=.lst ((givL c vs).map .int)) rfl rfl (fun ρ' h=>giv_pl hw hvs (by omega) hc hTr rfl ((h (.func 115) (by simp [Op.operands,Call.operands])).trans (by simp +decide only [go_sem, *]<;>rfl)) (by
  simp only [List.map]
  rw [h (.tmp 209) (by simp [Op.operands,Call.operands]),h (.tmp 211) (by simp [Op.operands,Call.operands])]
  simp +decide only [go_sem]<;>rfl)) ?_
 refine gS ?_
 refine gS ?_
 refine gS ?_
 refine gS ?_
 refine gS ?_
 refine gS ?_
 refine gS ?_
 refine gS ?_
 refine gS ?_
 refine gS ?_
 refine gS ?_
 refine GRun.nil ?_
 obtain ⟨e1,e2,e3⟩:=startF_at (cd:=cd) (vs:=givL c vs) (a:=a) (pr:=pr) (canc:=t.canc) ht hen hwt
 have hSt:=startF_iv h (c:=cd) (vs:=givL c vs) (a:=a) (prio:=pr) (par:=n) (canc:=t.canc) h0 hC hP hB ((hw.p hcl).2) hv1 (by rw [givL_len];exact hvv) hcs (.inr ⟨n,rfl,hn⟩)
 obtain ⟨s1,hs1⟩:∃s1,s1=startF s cd (givL c vs) a pr n t.canc:=⟨_,rfl⟩
 rw [← hs1] at e1 e2 e3 hSt is ⊢
 have hw1:=hSt.iv.wf
 have hc1:s1.calls[j]?=some c:=by rw [e2,List.getElem?_append_left (List.getElem?_eq_some_iff.1 hc).1];exact hc
 have hlk:Hid (s1.tasks.length=s.tasks.length+1):=⟨e3⟩
 have e2':=Hid.mk e2
 have hs1':=Hid.mk hs1
 clear e2 e3 hs1 hSt hen hwt
 refine ARun.p1 rfl rfl (pl_callR hw hw1 (T:=stT ⟨6,v,w,pr,tk,vs⟩ time who) is rfl (by simp +decide only [go_sem, *]<;>rfl) (by simp +decide only [go_sem, *]<;>rfl) (by
  intro a ha
  simp only [List.mem_cons,List.not_mem_nil,or_false] at ha
  rcases ha with rfl|rfl|rfl|rfl|rfl|rfl|rfl
  ·exact .ptr ixl_rn
  ·exact .pu (Pu_encC _)
  ·exact .pu (Pu_mapInt _)
  ·exact .pu (.base _)
  ·exact .pu (.base _)
  ·exact .pu (.base _)
  ·exact .own ((hw.p hcl).1)) (.pu (.base _))) ?_
 clear is hcdm hcd
 have ht1:=e1
 obtain ⟨k,hk⟩:∃k,k=s.tasks.length:=⟨_,rfl⟩
 rw [← hk]
 have hk':=Hid.mk hk
 clear hk
 obtain ⟨L,hL⟩:∃L,L=(HH s1).set (ix (.kid n)) (intB (t.kids++[(k:Int)])):=⟨_,rfl⟩
 obtain ⟨s2,hs2⟩:∃s2,s2=s1.tset n { t with kids:=t.kids++[(k:Int)] }:=⟨_,rfl⟩
 have hkid:∀(ρ:Operand→AV) (x y:Operand),ρ x=kidV n t.kids→ρ y=.lst [.int k]→PL Tryd.prog (HH s1++stT ⟨6,v,w,pr,tk,vs⟩ time who) ρ (.call { callee:=.builtin .append,args:=#[x,y],argTypes:=#[25,25] }) (.own (ix (.kid n)) (t.kids.length+1) 0 (t.kids.length+1)) (L++stT ⟨6,v,w,pr,tk,vs⟩ time who):=fun ρ x y hx hy=>by
  rw [hL];exact pl_kid hw1 ht1 (k:=(k:Int)) hkl stT_rf0 hx hy
 have hLt:L[ix (.tsk n)]?=some (tskB n t):=by rw [hL,set_get (HH_len s1) g3,if_neg (by simp),HH_get s1 _ g1];simp only [blk];rw [ht1]
 have hLl:L.length=NN:=by rw [hL,set_len,HH_len]
 have hset:=HH_kid (l:=t.kids++[(k:Int)]) ht1 g1 g3
 rw [← hL,← hs2] at hset
 have ht2:s2.tasks[n]?=some { t with kids:=t.kids++[(k:Int)] }:=by rw [hs2];exact tset_at ht1
 have hc2:s2.calls[j]?=some c:=by rw [hs2];exact hc1
 have hw2:WF s2:=by
  rw [hs2]
  obtain ⟨a1,a2⟩:=hw1.tsz t (List.mem_of_getElem? ht1)
  exact hw1.tset (hw1.tsk t (List.mem_of_getElem? ht1)) ⟨a1,by simp;omega⟩
 have hL':=Hid.mk hL
 have hs2':=Hid.mk hs2
 have hfin:s1.tset n { t with kids:=t.kids++[(k:Int)],spn:=if c.actor<0 then setM t.spn c.pc k else t.spn }=s2.tset n { t with kids:=t.kids++[(k:Int)],spn:=if c.actor<0 then setM t.spn c.pc k else t.spn }:=by rw [hs2,tset_tset]
 rw [hfin]
 clear hL hs2 hfin
 simp only [tskB,behV,kidV_add] at hset hLt
 refine goF ?_
 refine ARun.p1 rfl rfl (hkid _ _ _ (by simp +decide only [go_sem, *]<;>rfl) (by simp +decide only [go_sem, *]<;>rfl)) ?_
 refine goF ?_
 by_cases ha:c.actor<0
 ·have hd:decide (c.actor<0)=true:=by simp [ha]
  rw [if_pos ha]
  refine ift_ ?_ rfl (by simp +decide only [go_sem, *]<;>rfl)
  refine goF ?_
  refine drA (k:=9) follows (hr:=?_)
  refine goF ?_
  refine ARun.p1 rfl rfl (pl_mapUpdate encI1 AV.int (m:=t.spn) (b:=ix (.spn n)) c.pc (k:Int) (by simp +decide only [go_sem, *]<;>rfl) (by simp +decide only [go_sem, *]<;>rfl) (by simp +decide only [go_sem, *]<;>rfl) (by simp +decide only [go_sem, *]<;>rfl) Tryd.underlying86 Tryd.underlying3 (KeyEnc.int _)) ?_
  have hsp:=HH_spn (l:=setM t.spn c.pc (k:Int)) ht2 g4
  have hw3:WF (s2.tset n { t with kids:=t.kids++[(k:Int)],spn:=setM t.spn c.pc (k:Int) }):=hw2.tset' ht2 rfl (Nat.le_refl _) rfl rfl rfl
  refine goF ?_
  exact .runV (stT ⟨6,v,w,pr,tk,vs⟩ time who) hw3 (vs:=[.bool true]) (by show resVals _ _ [.tmp 10]=_;simp +decide only [resVals,resVal,ldPtr,ldE,go_sem, *]<;>rfl) rfl rfl (.pu (.base _))
 ·have hd:decide (c.actor<0)=false:=by simp;omega
  rw [if_neg ha,tset_self ht2]
  refine iff_ ?_ rfl (by simp +decide only [go_sem, *]<;>rfl)
  refine goF ?_
  exact .runV (stT ⟨6,v,w,pr,tk,vs⟩ time who) hw2 (vs:=[.bool true]) (by show resVals _ _ [.tmp 10]=_;simp +decide only [resVals,resVal,ldPtr,ldE,go_sem, *]<;>rfl) rfl rfl (.pu (.base _))
end Go.Ab
set_option maxHeartbeats 4000000
namespace Go.Ab
open Go Go.Ab Go.Proofs Go.Ab.Ty
theorem RetH.runT {rs:List ResultVar} {n:Nat} {d:AV} {s':PRun} {E:Env} {H:List ABlk} {vs:List AV} {l:List Int} (T:List ABlk) (hw:WF s') (hv:resVals Tryd.prog ⟨E,H⟩ rs=some vs) (hH:H=HH s'++(intB l::T)) (he:packA vs=d) (hd:RfA (·<NN) d):RetH Tryd.prog rs ⟨n,NN+1⟩ d (HH s'++[intB l]) ⟨E,H⟩:=by
 have hl:(HH s'++[intB l]).length=NN+1:=by simp [HH_len]
 have hH2:H=(HH s'++[intB l])++T:=by rw [hH];simp
 refine ⟨_,vs,pre (NN+1),id,.refl _,hv,.pre (by rw [hH2,List.length_append,hl];omega) (Nat.le_refl _) hl fun j b1 b2 h1 h2=>?_,by rw [he];exact hd.pub fun b hb=>pre_lt (by omega)⟩
 have hj:=(List.getElem?_eq_some_iff.1 h2).1
 simp only at h1
 rw [hH2,List.getElem?_append_left hj,h2] at h1
 injection h1 with h1;subst h1
 have hr:RfB (·<NN) b2:=by
  rcases List.mem_append.1 (List.mem_of_getElem? h2) with h|h
  ·exact HH_rn hw _ h
  ·rw [List.mem_singleton] at h;subst h;exact intB_rf
 refine ⟨rfl,rfl,rfl,fun i e e2 h3 h4=>?_⟩
 rw [h3] at h4;injection h4 with h4;subst h4
 refine ⟨rfl,fun k c c2 h5 h6=>?_⟩
 rw [h5] at h6;injection h6 with h6;subst h6
 exact (hr e (List.mem_of_getElem? h3) c (List.mem_of_getElem? h5)).pub fun b hb=>pre_lt (by omega)
theorem entered2_ok {s:PRun} (hw:WF s) {c:Cd} {vs:List Int} {a:Int} (hv0:0≤c.vars) (hv1:c.vars≤1000) (hvs:vs.length≤c.vars) (hne:0<vs.length) (hM:s.calls.length<MM) (hcs:c.steps.length≤1000) :
 FnH Tryd.prog 107 [encC c,.own NN vs.length 0 vs.length,.int a] (HH s++[intB vs]) (ptC s.calls.length) (HH (s.addC (newC c vs a))++[intB vs]):=by
 obtain ⟨cp,cv,cs⟩:=c
 simp only at hv0 hv1 hvs hcs
 obtain ⟨nv,rfl⟩:∃nv:Nat,cv=nv:=⟨_,(Int.toNat_of_nonneg hv0).symm⟩
 obtain ⟨j,hj⟩:∃j,j=s.calls.length:=⟨_,rfl⟩
 have hjM:j<MM:=by omega
 have hjc:ix (.cal j)<NN:=ix_lt hjM
 have hjv:ix (.vrs j)<NN:=ix_lt hjM
 refine FnH.intro' [(0,encC ⟨cp,nv,cs⟩),(1,.own NN vs.length 0 vs.length),(2,.int a)] 3 38 (NN+1) Tryd.func107 (by kernel_rfl) rfl rfl rfl rfl rfl (by simp [HH_len]) ?_
 refine goF ?_
 refine drS (k:=5) [none,none,none,some 0,none] (fun k=>match k with
  | 0=>HH s++[intB vs,cdB ⟨cp,nv,cs⟩]
  | _=>(HH s).set (ix (.vrs j)) (intB (List.replicate nv 0))++[intB vs,cdB ⟨cp,nv,cs⟩]) 1 follows ?_
 refine gS ?_
 refine gS ?_
 refine gS ?_
 refine GRun.p1 (v:=vrsV j (List.replicate nv 0)) rfl rfl (fun ρ' h=>?_) ?_
 ·show PL Tryd.prog (HH s++[intB vs,cdB ⟨cp,nv,cs⟩]) ρ' _ (vrsV j (List.replicate nv 0)) ((HH s).set (ix (.vrs j)) (intB (List.replicate nv 0))++[intB vs,cdB ⟨cp,nv,cs⟩])
  have hl:ρ' (.tmp 11)=.int nv:=(h (.tmp 11) (by simp [Op.operands])).trans (by simp +decide only [go_sem, *]<;>rfl)
  have h1:=pl_make (P:=Tryd.prog) (H:=HH s++[intB vs,cdB ⟨cp,nv,cs⟩]) (ρ:=ρ') (n:=nv) (m:=nv) hl hl Tryd.underlying25 el3 zero3 (by kernel_rfl) (by omega) (Int.le_refl _) (by omega) (by omega)
  rw [Int.toNat_natCast] at h1
  have hz:List.replicate nv (AV.int 0)=(List.replicate nv (0:Int)).map AV.int:=by simp
  rw [hz] at h1
  have hrf:∀q,NN≤q→∀b∈HH s++[intB vs,cdB ⟨cp,nv,cs⟩],RfB (Nb q (ix (.vrs j))) b:=fun q hq b hb=>by
   rcases List.mem_append.1 hb with hb|hb
   ·exact HH_nb hw (a:=.vrs j) (by show ¬j<_;omega) hq b hb
   ·simp only [List.mem_cons,List.not_mem_nil,or_false] at hb;rcases hb with rfl|rfl;exact intB_rf;exact cdB_rf
  have hdm:(HH s)[ix (.vrs j)]?=some (intB []):=by
   rw [HH_get s _ hjv];simp only [blk];rw [List.getElem?_eq_none (by omega)]
  cases nv with
  | zero =>
    have h2:=PL.own0 h1 rfl fun b hb=>by
     rcases List.mem_append.1 hb with hb|hb
     ·exact (HH_rf hw b hb).mono fun i hi=>by have:=hi.lt hw;simp [HH_len];omega
     ·simp only [List.mem_cons,List.not_mem_nil,or_false] at hb;rcases hb with rfl|rfl;exact intB_rf;exact cdB_rf
    show PL _ _ _ _ _ ((HH s).set (ix (.vrs j)) (intB [])++_)
    rw [set_same hdm]
    exact h2
  | succ m =>
    have h2:=PL.placeS h1 (p:=ix (.vrs j)) (blk0:=intB []) (by rw [app_get (HH_len s) hjv];exact hdm) rfl (by simp) intB_rf (hrf _ (by simp [HH_len])) MvR.ownL
    rw [app_set (HH_len s) hjv] at h2
    have hv:vrsV j (List.replicate (m+1) 0)=.own (ix (.vrs j)) (m+1) 0 (m+1):=by simp [vrsV,List.replicate_succ]
    rw [hv]
    exact h2
 refine gS ?_
 refine GRun.nil ?_
 refine goF ?_
 refine bldA (cs:=[.int cp,.int nv,.lst (cs.map encS),vrsV j (List.replicate nv 0),.int 0,.int a]) pl140 zero140 ?_ (h:=by cases nv<;>(simp +decide only [List.map,go_sem,vrsV,List.replicate];try rfl))
 obtain ⟨c0,hc0⟩:∃c0,c0=PCall.mk ⟨cp,nv,cs⟩ (List.replicate nv 0) 0 a:=⟨_,rfl⟩
 have hbx:∀(ρ:Operand→AV) (x:Operand),ρ x=.agg [.int cp,.int nv,.lst (cs.map encS),vrsV j (List.replicate nv 0),.int 0,.int a]→PL Tryd.prog ((HH s).set (ix (.vrs j)) (intB (List.replicate nv 0))++[intB vs,cdB ⟨cp,nv,cs⟩]) ρ (.box 140 x) (ptC j) (HH (s.addC c0)++[intB vs,cdB ⟨cp,nv,cs⟩]):=by
  obtain ⟨L,hL⟩:∃L,L=(HH s).set (ix (.vrs j)) (intB (List.replicate nv 0)):=⟨_,rfl⟩
  have hLl:L.length=NN:=by rw [hL,set_len,HH_len]
  have hLr:∀q,NN≤q→∀b∈L++[intB vs,cdB ⟨cp,nv,cs⟩],RfB (Nb q (ix (.cal j))) b:=fun q hq=>by
   rw [hL];exact app_rf (set_rf (HH_nb hw (a:=.cal j) (by show ¬j<_;omega) hq) intB_rf) (fun b hb=>by simp only [List.mem_cons,List.not_mem_nil,or_false] at hb;rcases hb with rfl|rfl;exact intB_rf;exact cdB_rf)
  have hLd:L[ix (.cal j)]?=some ⟨140,6,[]⟩:=by
   rw [hL,set_get (HH_len s) hjv,if_neg (by simp),HH_get s _ hjc];simp only [blk];rw [List.getElem?_eq_none (by omega)]
  intro ρ x hx
  have h1:=PL.placeS (p:=ix (.cal j)) (pl_box (P:=Tryd.prog) (H:=L++[intB vs,cdB ⟨cp,nv,cs⟩]) (el:=140) hx (by cases nv<;>rfl)) (by rw [app_get hLl hjc];exact hLd) rfl (by simp) (fun e he d hd=>by
   rw [List.mem_singleton] at he;subst he
   simp only [AV.cells,List.mem_cons,List.not_mem_nil,or_false] at hd
   rcases hd with rfl|rfl|rfl|rfl|rfl|rfl
   ·exact .pu (.base _)
   ·exact .pu (.base _)
   ·exact .pu (Pu_mapS _)
   ·cases nv with
    | zero=>exact .pu (.lst fun e he=>by cases he)
    | succ m=>exact .own ⟨fun e=>(by have:=ix_inj e;cases this),by simp only [List.length_append,hLl];omega⟩
   ·exact .pu (.base _)
   ·exact .pu (.base _)) (hLr _ (by simp [hLl])) MvR.ptrL
  rw [app_set hLl hjc,hL] at h1
  rw [← HH_addC hj hjc hjv,hc0]
  exact h1
 refine ARun.p1 rfl rfl (hbx _ _ (by simp +decide only [go_sem]<;>rfl)) ?_
 obtain ⟨cI,hcI⟩:∃cI:Nat→PCall,∀i,cI i=PCall.mk ⟨cp,nv,cs⟩ (List.replicate i (-1)++List.replicate (nv-i) 0) 0 a:=⟨_,fun _=>rfl⟩
 have hc00:Hid (c0=cI 0):=⟨by rw [hcI,hc0];simp⟩
 have hwI:∀c:PCall,c.vars.length≤1000→c.code=⟨cp,nv,cs⟩→WF (s.addC c):=fun c h1 h2=>hw.addC hM h1 (by rw [h2];exact hcs)
 have h1w:WF (s.addC c0):=hwI c0 (by rw [hc0];simp;omega) (by rw [hc0])
 have hc1:(s.addC c0).calls[j]?=some ⟨⟨cp,nv,cs⟩,List.replicate nv 0,0,a⟩:=by rw [← hc0,hj];exact addC_at
 have hcI':Hid (∀i,cI i=PCall.mk ⟨cp,nv,cs⟩ (List.replicate i (-1)++List.replicate (nv-i) 0) 0 a):=⟨hcI⟩
 have hj':Hid (j=s.calls.length):=⟨hj⟩
 clear hcI hc0 hj hbx
 have hlv:=lenFv (H:=HH (s.addC c0)++[intB vs,cdB ⟨cp,nv,cs⟩]) (k:=j) (l:=List.replicate nv 0) (by simp +decide only [go_sem, *])
 simp +decide only [go_sem] at hlv
 refine goF ?_
 have hrl:(List.replicate nv (0:Int)).length=nv:=List.length_replicate
 rw [hrl,hc00.out]
 refine AWp.loop (J:=fun i:Nat=>i≤nv) (fun i=>⟨[(7,ptC j),(1,.own NN vs.length 0 vs.length),(20,.int nv),(21,.int i)],HH (s.addC (cI i))++[intB vs,cdB ⟨cp,nv,cs⟩]⟩) (fun i=>nv-i) 0 (Nat.zero_le _) .wf ?_
 intro i hi
 have hIl:(List.replicate i (-1:Int)++List.replicate (nv-i) 0).length=nv:=by simp;omega
 have hiw:WF (s.addC (cI i)):=hwI _ (by rw [hcI'.out];simp;omega) (by rw [hcI'.out])
 obtain ⟨ci,hci⟩:∃ci,ci=cI i:=⟨_,rfl⟩
 obtain ⟨l,hl⟩:∃l,l=List.replicate i (-1:Int)++List.replicate (nv-i) 0:=⟨_,rfl⟩
 have hci1:(s.addC ci).calls[j]?=some ⟨⟨cp,nv,cs⟩,l,0,a⟩:=by rw [hci,hcI'.out,hj'.out,hl];exact addC_at
 rw [← hl] at hIl
 rw [← hci]
 rw [← hci] at hiw
 have hl':Hid (l=List.replicate i (-1:Int)++List.replicate (nv-i) 0):=⟨hl⟩
 have hci':Hid (ci=cI i):=⟨hci⟩
 clear hl hci hlv hrl hc1 h1w
 refine goF ?_
 refine ifA (fun hd=>?_) (fun hd=>?_)
 ·simp at hd
  obtain ⟨x,hx⟩:∃x,l[i]?=some x:=⟨_,List.getElem?_eq_getElem (by omega)⟩
  have hvv:=vrsV_own (j:=j) hx
  have hxm:(l.map AV.int)[i]?=some (.int x):=by rw [List.getElem?_map,hx];rfl
  refine goF ?_
  refine ARun.q1 rfl rfl (ql_ixo (n:=i) (b:=ix (.vrs j)) (by simp +decide only [go_sem, *]<;>rfl) (by simp +decide only [go_sem, *]<;>rfl) Tryd.underlying25 (by simp +decide only [go_sem, *]<;>rfl) (by simp [hIl]) (by omega) (by simp +decide only [go_sem, *]<;>rfl)) ?_
  refine goF ?_
  refine ARun.p1 rfl rfl (pl_store_own (f:=AV.int) (l:=l) (b:=ix (.vrs j)) (tot:=nv) (i:=i) (ty:=3) (sz:=1) (-1) (by simp +decide only [go_sem, *]<;>rfl) (by simp +decide only [go_sem, *]<;>rfl) (by simp +decide only [go_sem, *]<;>rfl) hIl (by omega) sz3 rfl rfl) ?_
  have hst:(HH (s.addC ci)).set (ix (.vrs j)) (intB (l.set i (-1)))=HH (s.addC (cI (i+1))):=by
   have h1:=HH_vset (s:=s.addC ci) (j:=j) (c':=⟨⟨cp,nv,cs⟩,l.set i (-1),0,a⟩) hci1 hjv (by simp) rfl
   rw [addC_cset hj'.out] at h1
   rw [h1,hcI'.out]
   congr 3
   rw [hl'.out,List.set_append_right _ _ (by simp)]
   obtain ⟨m,hm⟩:∃m,nv-i=m+1:=⟨nv-i-1,by omega⟩
   rw [hm,show nv-(i+1)=m by omega,List.length_replicate,Nat.sub_self,List.replicate_succ,List.set_cons_zero,List.replicate_succ',List.append_assoc]
   rfl
  refine goF ?_
  rw [wrap_succ (by omega)]
  exact ⟨i+1,hd,by omega,.wf⟩
 simp at hd
 obtain rfl:i=nv:=by omega
 refine goF ?_
 have hle:l=List.replicate i (-1):=by rw [hl'.out];simp
 have hfin:(HH (s.addC ci)).set (ix (.vrs j)) (intB (vs++l.drop vs.length))=HH (s.addC (newC ⟨cp,i,cs⟩ vs a)):=by
  have h1:=HH_vset (s:=s.addC ci) (j:=j) (c':=⟨⟨cp,i,cs⟩,vs++l.drop vs.length,0,a⟩) hci1 hjv (by simp;omega) rfl
  rw [addC_cset hj'.out] at h1
  rw [h1,hle,List.drop_replicate]
  rfl
 have hwe:WF (s.addC (newC ⟨cp,i,cs⟩ vs a)):=hwI _ (by simp [newC];omega) rfl
 have hRe:RfA (·<NN) (ptC j):=.ptr hjc
 rw [← hj'.out]
 clear hle hl' hci' hc00 hcI' hj'
 cases l with
 | nil =>
   simp at hIl;omega
 | cons x l' =>
   refine ARun.p1 rfl rfl (pl_copyI (k:=.i64) (b:=ix (.vrs j)) (n:=l'.length+1) (d:=x::l') (l:=vs) (av:=.own NN vs.length 0 vs.length) (ty:=3) (by simp +decide only [go_sem, *]<;>rfl) (by simp +decide only [go_sem, *]<;>rfl) rfl (by simp +decide only [go_sem, *]<;>rfl) (.ownM (ty:=3) (sz:=1) (f:=AV.int) (by simp +decide only [go_sem, *]<;>rfl) rfl (fun x _ c hc=>by simp only [AV.cells,List.mem_singleton] at hc;subst hc;exact .base _)) (by omega) Tryd.underlying25 el3) ?_
   refine goF ?_
   exact .runT [_] hwe (vs:=[ptC j]) (by show resVals _ _ [.tmp 6]=_;simp +decide only [resVals,resVal,ldPtr,ldE,go_sem, *]<;>rfl) rfl rfl hRe
end Go.Ab
