/- Part of the proof. -/
import Derived.Test.YthgicbkdckpeaaaDoorG12
import Derived.Test.YthgicbkdckpeaaaDoorG17
set_option linter.unusedSimpArgs false
set_option linter.unusedVariables false
set_option maxHeartbeats 4000000
namespace Go.Ab
open Go Go.Ab Go.Proofs Go.Ab.Ty
def newC (c:Cd) (vs:List Int) (a:Int):PCall:=⟨c,vs++List.replicate (c.vars.toNat-vs.length) (-1),0,a⟩
def PRun.addC (s:PRun) (c:PCall):PRun:={ s with calls:=s.calls++[c] }
theorem addC_at {s:PRun} {c:PCall}:(s.addC c).calls[s.calls.length]?=some c:=by simp [PRun.addC]
theorem addC_ne {s:PRun} {c:PCall} {j:Nat} (h:j≠s.calls.length):(s.addC c).calls[j]?=s.calls[j]?:=by
 unfold PRun.addC
 simp only
 rcases Nat.lt_or_ge j s.calls.length with h1|h1
 ·exact List.getElem?_append_left h1
 ·rw [List.getElem?_eq_none (by simp;omega),List.getElem?_eq_none h1]
theorem HH_addC {s:PRun} {c:PCall} {j:Nat} (hj:j=s.calls.length) (h1:ix (.cal j)<NN) (h2:ix (.vrs j)<NN):((HH s).set (ix (.vrs j)) (intB c.vars)).set (ix (.cal j)) (calB j c)=HH (s.addC c):=by
 subst hj
 refine HH_upd (s:=s) (s':=s.addC c) [(.vrs s.calls.length,intB c.vars),(.cal s.calls.length,calB s.calls.length c)] (upd2 ⟨h2,by simp only [blk];rw [addC_at]⟩ ⟨h1,by simp only [blk];rw [addC_at]⟩) fun a ha=>?_
 simp only [List.map_cons,List.map_nil,List.mem_cons,List.not_mem_nil,or_false,not_or] at ha
 cases a with
 | cal j=>simp only [blk];rw [addC_ne fun e=>ha.2 (by rw [e])]
 | vrs j=>simp only [blk];rw [addC_ne fun e=>ha.1 (by rw [e])]
 | _=>rfl
theorem WF.addC {s:PRun} (hw:WF s) {c:PCall} (h1:s.calls.length<MM) (h2:c.vars.length≤1000) (h3:c.code.steps.length≤1000):WF (s.addC c):=by
 refine ⟨hw.nT,by simp [PRun.addC];omega,hw.nK,hw.nB,hw.pl,hw.cks,hw.acts,hw.ends,fun t ht=>?_,hw.behs,hw.endl,hw.sz,hw.tsz,fun x hx=>?_⟩
 ·obtain ⟨a1,a2⟩:=hw.tsk t ht
  exact ⟨fun j hj=>by have:=a1 j hj;simp [PRun.addC];omega,a2⟩
 ·simp only [PRun.addC,List.mem_append,List.mem_singleton] at hx
  rcases hx with hx|rfl
  ·exact hw.csz x hx
  ·exact ⟨h2,h3⟩
theorem HH_nb {s:PRun} (hw:WF s) {a:Nm} (ha:¬dom s a) {q:Nat} (hq:NN≤q):∀b∈HH s,RfB (Nb q (ix a)) b:=fun b hb =>
 (HH_rf hw b hb).mono fun i hi=>⟨fun e=>by obtain ⟨a',h1,h2⟩:=hi;rw [e] at h2;rw [ix_inj h2] at ha;exact ha h1,by have:=hi.lt hw;omega⟩
abbrev cdB (c:Cd):ABlk:=⟨68,3,[encC c]⟩
theorem cdB_rf {c:Cd} {S:Nat→Prop}:RfB S (cdB c):=fun e he d hd=>by
 rw [List.mem_singleton] at he;subst he
 simp only [encC,AV.cells,List.mem_cons,List.not_mem_nil,or_false] at hd
 rcases hd with rfl|rfl|rfl
 ·exact .pu (.base _)
 ·exact .pu (.base _)
 ·exact .pu (Pu_mapS _)
theorem set_same {L:List ABlk} {i:Nat} {X:ABlk} (h:L[i]?=some X):L.set i X=L:=by
 obtain ⟨h1,h2⟩:=List.getElem?_eq_some_iff.1 h
 rw [← h2];exact List.set_getElem_self h1
theorem intB_rf {l:List Int} {S:Nat→Prop}:RfB S (intB l):=fun e he c hc=>by
 obtain ⟨x,_,rfl⟩:=List.mem_map.1 he
 simp only [AV.cells,List.mem_singleton] at hc;subst hc
 exact .pu (.base _)
theorem set_rf {L:List ABlk} {i:Nat} {X:ABlk} {S:Nat→Prop} (h:∀b∈L,RfB S b) (hX:RfB S X):∀b∈L.set i X,RfB S b:=fun b hb=>by
 rcases List.mem_or_eq_of_mem_set hb with hb|rfl
 ·exact h b hb
 ·exact hX
theorem app_rf {L T:List ABlk} {S:Nat→Prop} (h:∀b∈L,RfB S b) (hX:∀b∈T,RfB S b):∀b∈L++T,RfB S b:=fun b hb=>by
 rcases List.mem_append.1 hb with hb|hb
 ·exact h b hb
 ·exact hX b hb
theorem one_rf {X:ABlk} {S:Nat→Prop} (h:RfB S X):∀b∈[X],RfB S b:=fun b hb=>by
 rw [List.mem_singleton] at hb;subst hb;exact h
theorem addC_cset {s:PRun} {c c':PCall} {j:Nat} (hj:j=s.calls.length):(s.addC c).cset j c'=s.addC c':=by
 subst hj;simp [PRun.addC,PRun.cset]
theorem entered_ok {s:PRun} (hw:WF s) {c:Cd} {vs:List Int} {a:Int} (hv0:0≤c.vars) (hv1:c.vars≤1000) (hvs:vs.length≤c.vars) (hM:s.calls.length<MM) (hcs:c.steps.length≤1000) :
 FnH Tryd.prog 107 [encC c,.lst (vs.map .int),.int a] (HH s) (ptC s.calls.length) (HH (s.addC (newC c vs a))):=by
 obtain ⟨cp,cv,cs⟩:=c
 simp only at hv0 hv1 hvs hcs
 obtain ⟨nv,rfl⟩:∃nv:Nat,cv=nv:=⟨_,(Int.toNat_of_nonneg hv0).symm⟩
 obtain ⟨j,hj⟩:∃j,j=s.calls.length:=⟨_,rfl⟩
 have hjM:j<MM:=by omega
 have hjc:ix (.cal j)<NN:=ix_lt hjM
 have hjv:ix (.vrs j)<NN:=ix_lt hjM
 refine FnH.intro' [(0,encC ⟨cp,nv,cs⟩),(1,.lst (vs.map .int)),(2,.int a)] 3 38 NN Tryd.func107 (by kernel_rfl) rfl rfl rfl rfl rfl (HH_len s) ?_
 refine goF ?_
 refine drS (k:=5) [none,none,none,some 0,none] (fun k=>match k with
  | 0=>HH s++[cdB ⟨cp,nv,cs⟩]
  | _=>(HH s).set (ix (.vrs j)) (intB (List.replicate nv 0))++[cdB ⟨cp,nv,cs⟩]) 1 follows ?_
 refine gS ?_
 refine gS ?_
 refine gS ?_
 refine GRun.p1 (v:=vrsV j (List.replicate nv 0)) rfl rfl (fun ρ' h=>?_) ?_
 ·show PL Tryd.prog (HH s++[cdB ⟨cp,nv,cs⟩]) ρ' _ (vrsV j (List.replicate nv 0)) ((HH s).set (ix (.vrs j)) (intB (List.replicate nv 0))++[cdB ⟨cp,nv,cs⟩])
  have hl:ρ' (.tmp 11)=.int nv:=(h (.tmp 11) (by simp [Op.operands])).trans (by simp +decide only [go_sem, *]<;>rfl)
  have h1:=pl_make (P:=Tryd.prog) (H:=HH s++[cdB ⟨cp,nv,cs⟩]) (ρ:=ρ') (n:=nv) (m:=nv) hl hl Tryd.underlying25 el3 zero3 (by kernel_rfl) (by omega) (Int.le_refl _) (by omega) (by omega)
  rw [Int.toNat_natCast] at h1
  have hz:List.replicate nv (AV.int 0)=(List.replicate nv (0:Int)).map AV.int:=by simp
  rw [hz] at h1
  have hrf:∀q,NN≤q→∀b∈HH s++[cdB ⟨cp,nv,cs⟩],RfB (Nb q (ix (.vrs j))) b:=fun q hq b hb=>by
   rcases List.mem_append.1 hb with hb|hb
   ·exact HH_nb hw (a:=.vrs j) (by show ¬j<_;omega) hq b hb
   ·rw [List.mem_singleton] at hb;subst hb;exact cdB_rf
  have hdm:(HH s)[ix (.vrs j)]?=some (intB []):=by
   rw [HH_get s _ hjv];simp only [blk];rw [List.getElem?_eq_none (by omega)]
  cases nv with
  | zero =>
    have h2:=PL.own0 h1 rfl fun b hb=>by
     rcases List.mem_append.1 hb with hb|hb
     ·exact (HH_rf hw b hb).mono fun i hi=>by have:=hi.lt hw;simp [HH_len];omega
     ·rw [List.mem_singleton] at hb;subst hb;exact cdB_rf
    show PL _ _ _ _ _ ((HH s).set (ix (.vrs j)) (intB [])++_)
    rw [set_same hdm]
    exact h2
  | succ m =>
    have h2:=PL.placeS h1 (p:=ix (.vrs j)) (blk0:=intB []) (by rw [app_get (HH_len s) hjv];exact hdm) rfl (by simp) intB_rf (hrf _ (by simp [HH_len])) MvR.ownL
    rw [app_set (HH_len s) hjv] at h2
    have hv:vrsV j (List.replicate (m+1) 0)=.own (ix (.vrs j)) (m+1) 0 (m+1):=by simp [vrsV,List.replicate_succ]
    rw [hv]
    exact h2
 refine gS ?_
 refine GRun.nil ?_
 refine goF ?_
 refine bldA (cs:=[.int cp,.int nv,.lst (cs.map encS),vrsV j (List.replicate nv 0),.int 0,.int a]) pl140 zero140 ?_ (h:=by cases nv<;>(simp +decide only [List.map,go_sem,vrsV,List.replicate];try rfl))
 obtain ⟨c0,hc0⟩:∃c0,c0=PCall.mk ⟨cp,nv,cs⟩ (List.replicate nv 0) 0 a:=⟨_,rfl⟩
 have hbx:∀(ρ:Operand→AV) (x:Operand),ρ x=.agg [.int cp,.int nv,.lst (cs.map encS),vrsV j (List.replicate nv 0),.int 0,.int a]→PL Tryd.prog ((HH s).set (ix (.vrs j)) (intB (List.replicate nv 0))++[cdB ⟨cp,nv,cs⟩]) ρ (.box 140 x) (ptC j) (HH (s.addC c0)++[cdB ⟨cp,nv,cs⟩]):=by
  obtain ⟨L,hL⟩:∃L,L=(HH s).set (ix (.vrs j)) (intB (List.replicate nv 0)):=⟨_,rfl⟩
  have hLl:L.length=NN:=by rw [hL,set_len,HH_len]
  have hLr:∀q,NN≤q→∀b∈L++[cdB ⟨cp,nv,cs⟩],RfB (Nb q (ix (.cal j))) b:=fun q hq=>by
   rw [hL];exact app_rf (set_rf (HH_nb hw (a:=.cal j) (by show ¬j<_;omega) hq) intB_rf) (one_rf cdB_rf)
  have hLd:L[ix (.cal j)]?=some ⟨140,6,[]⟩:=by
   rw [hL,set_get (HH_len s) hjv,if_neg (by simp),HH_get s _ hjc];simp only [blk];rw [List.getElem?_eq_none (by omega)]
  intro ρ x hx
  have h1:=PL.placeS (p:=ix (.cal j)) (pl_box (P:=Tryd.prog) (H:=L++[cdB ⟨cp,nv,cs⟩]) (el:=140) hx (by cases nv<;>rfl)) (by rw [app_get hLl hjc];exact hLd) rfl (by simp) (fun e he d hd=>by
   rw [List.mem_singleton] at he;subst he
   simp only [AV.cells,List.mem_cons,List.not_mem_nil,or_false] at hd
   rcases hd with rfl|rfl|rfl|rfl|rfl|rfl
   ·exact .pu (.base _)
   ·exact .pu (.base _)
   ·exact .pu (Pu_mapS _)
   ·cases nv with
    | zero=>exact .pu (.lst fun e he=>by cases he)
    | succ m=>exact .own ⟨fun e=>(by have:=ix_inj e;cases this),by simp only [List.length_append,hLl];omega⟩
   ·exact .pu (.base _)
   ·exact .pu (.base _)) (hLr _ (by simp [hLl])) MvR.ptrL
  rw [app_set hLl hjc,hL] at h1
  rw [← HH_addC hj hjc hjv,hc0]
  exact h1
 refine ARun.p1 rfl rfl (hbx _ _ (by simp +decide only [go_sem]<;>rfl)) ?_
 obtain ⟨cI,hcI⟩:∃cI:Nat→PCall,∀i,cI i=PCall.mk ⟨cp,nv,cs⟩ (List.replicate i (-1)++List.replicate (nv-i) 0) 0 a:=⟨_,fun _=>rfl⟩
 have hc00:Hid (c0=cI 0):=⟨by rw [hcI,hc0];simp⟩
 have hwI:∀c:PCall,c.vars.length≤1000→c.code=⟨cp,nv,cs⟩→WF (s.addC c):=fun c h1 h2=>hw.addC hM h1 (by rw [h2];exact hcs)
 have h1w:WF (s.addC c0):=hwI c0 (by rw [hc0];simp;omega) (by rw [hc0])
 have hc1:(s.addC c0).calls[j]?=some ⟨⟨cp,nv,cs⟩,List.replicate nv 0,0,a⟩:=by rw [← hc0,hj];exact addC_at
 have hcI':Hid (∀i,cI i=PCall.mk ⟨cp,nv,cs⟩ (List.replicate i (-1)++List.replicate (nv-i) 0) 0 a):=⟨hcI⟩
 have hj':Hid (j=s.calls.length):=⟨hj⟩
 clear hcI hc0 hj hbx
 have hlv:=lenFv (H:=HH (s.addC c0)++[cdB ⟨cp,nv,cs⟩]) (k:=j) (l:=List.replicate nv 0) (by simp +decide only [go_sem, *])
 simp +decide only [go_sem] at hlv
 refine goF ?_
 have hrl:(List.replicate nv (0:Int)).length=nv:=List.length_replicate
 rw [hrl,hc00.out]
 refine AWp.loop (J:=fun i:Nat=>i≤nv) (fun i=>⟨[(7,ptC j),(1,.lst (vs.map .int)),(20,.int nv),(21,.int i)],HH (s.addC (cI i))++[cdB ⟨cp,nv,cs⟩]⟩) (fun i=>nv-i) 0 (Nat.zero_le _) .wf ?_
 intro i hi
 have hIl:(List.replicate i (-1:Int)++List.replicate (nv-i) 0).length=nv:=by simp;omega
 have hiw:WF (s.addC (cI i)):=hwI _ (by rw [hcI'.out];simp;omega) (by rw [hcI'.out])
 obtain ⟨ci,hci⟩:∃ci,ci=cI i:=⟨_,rfl⟩
 obtain ⟨l,hl⟩:∃l,l=List.replicate i (-1:Int)++List.replicate (nv-i) 0:=⟨_,rfl⟩
 have hci1:(s.addC ci).calls[j]?=some ⟨⟨cp,nv,cs⟩,l,0,a⟩:=by rw [hci,hcI'.out,hj'.out,hl];exact addC_at
 rw [← hl] at hIl
 rw [← hci]
 rw [← hci] at hiw
 have hl':Hid (l=List.replicate i (-1:Int)++List.replicate (nv-i) 0):=⟨hl⟩
 have hci':Hid (ci=cI i):=⟨hci⟩
 clear hl hci hlv hrl hc1 h1w
 refine goF ?_
 refine ifA (fun hd=>?_) (fun hd=>?_)
 ·simp at hd
  obtain ⟨x,hx⟩:∃x,l[i]?=some x:=⟨_,List.getElem?_eq_getElem (by omega)⟩
  have hvv:=vrsV_own (j:=j) hx
  have hxm:(l.map AV.int)[i]?=some (.int x):=by rw [List.getElem?_map,hx];rfl
  refine goF ?_
  refine ARun.q1 rfl rfl (ql_ixo (n:=i) (b:=ix (.vrs j)) (by simp +decide only [go_sem, *]<;>rfl) (by simp +decide only [go_sem, *]<;>rfl) Tryd.underlying25 (by simp +decide only [go_sem, *]<;>rfl) (by simp [hIl]) (by omega) (by simp +decide only [go_sem, *]<;>rfl)) ?_
  refine goF ?_
  refine ARun.p1 rfl rfl (pl_store_own (f:=AV.int) (l:=l) (b:=ix (.vrs j)) (tot:=nv) (i:=i) (ty:=3) (sz:=1) (-1) (by simp +decide only [go_sem, *]<;>rfl) (by simp +decide only [go_sem, *]<;>rfl) (by simp +decide only [go_sem, *]<;>rfl) hIl (by omega) sz3 rfl rfl) ?_
  have hst:(HH (s.addC ci)).set (ix (.vrs j)) (intB (l.set i (-1)))=HH (s.addC (cI (i+1))):=by
   have h1:=HH_vset (s:=s.addC ci) (j:=j) (c':=⟨⟨cp,nv,cs⟩,l.set i (-1),0,a⟩) hci1 hjv (by simp) rfl
   rw [addC_cset hj'.out] at h1
   rw [h1,hcI'.out]
   congr 3
   rw [hl'.out,List.set_append_right _ _ (by simp)]
   obtain ⟨m,hm⟩:∃m,nv-i=m+1:=⟨nv-i-1,by omega⟩
   rw [hm,show nv-(i+1)=m by omega,List.length_replicate,Nat.sub_self,List.replicate_succ,List.set_cons_zero,List.replicate_succ',List.append_assoc]
   rfl
  refine goF ?_
  rw [wrap_succ (by omega)]
  exact ⟨i+1,hd,by omega,.wf⟩
 simp at hd
 obtain rfl:i=nv:=by omega
 refine goF ?_
 have hle:l=List.replicate i (-1):=by rw [hl'.out];simp
 have hfin:(HH (s.addC ci)).set (ix (.vrs j)) (intB (vs++l.drop vs.length))=HH (s.addC (newC ⟨cp,i,cs⟩ vs a)):=by
  have h1:=HH_vset (s:=s.addC ci) (j:=j) (c':=⟨⟨cp,i,cs⟩,vs++l.drop vs.length,0,a⟩) hci1 hjv (by simp;omega) rfl
  rw [addC_cset hj'.out] at h1
  rw [h1,hle,List.drop_replicate]
  rfl
 have hwe:WF (s.addC (newC ⟨cp,i,cs⟩ vs a)):=hwI _ (by simp [newC];omega) rfl
 have hRe:RfA (·<NN) (ptC j):=.ptr hjc
 rw [← hj'.out]
 clear hle hl' hci' hc00 hcI' hj'
 cases l with
 | nil =>
   have hvs0:vs=[]:=List.eq_nil_of_length_eq_zero (by simp at hIl;omega)
   have hs0:(HH (s.addC ci)).set (ix (.vrs j)) (intB [])=HH (s.addC ci):=set_same (by rw [HH_get _ _ hjv];simp only [blk];rw [hci1])
   rw [hvs0,List.drop_nil,List.append_nil,hs0] at hfin
   rw [hvs0] at hwe
   rw [hvs0]
   refine ARun.p1 rfl rfl (pl_copy0 (es:=([]:List Int).map .int) (by simp +decide only [go_sem, *]<;>rfl) (by simp +decide only [go_sem, *]<;>rfl) Tryd.underlying25 el3) ?_
   refine goF ?_
   exact .runV [_] hwe (vs:=[ptC j]) (by show resVals _ _ [.tmp 6]=_;simp +decide only [resVals,resVal,ldPtr,ldE,go_sem, *]<;>rfl) rfl rfl hRe
 | cons x l' =>
   refine ARun.p1 rfl rfl (pl_copyI (k:=.i64) (b:=ix (.vrs j)) (n:=l'.length+1) (d:=x::l') (l:=vs) (av:=.lst (vs.map .int)) (ty:=3) (by simp +decide only [go_sem, *]<;>rfl) (by simp +decide only [go_sem, *]<;>rfl) rfl (by simp +decide only [go_sem, *]<;>rfl) (.pu (by simp)) (by omega) Tryd.underlying25 el3) ?_
   refine goF ?_
   exact .runV [_] hwe (vs:=[ptC j]) (by show resVals _ _ [.tmp 6]=_;simp +decide only [resVals,resVal,ldPtr,ldE,go_sem, *]<;>rfl) rfl rfl hRe
end Go.Ab
set_option maxHeartbeats 4000000
namespace Go.Ab
open Go Go.Ab Go.Proofs Go.Ab.Ty
theorem tset_tset {s:PRun} {k:Nat} {a b:PTask}:(s.tset k a).tset k b=s.tset k b:=by simp [PRun.tset]
theorem tset_len {s:PRun} {k:Nat} {a:PTask}:(s.tset k a).tasks.length=s.tasks.length:=by simp [PRun.tset]
structure NxS (s:PRun) (k:Nat) (t':PTask) (s1:PRun):Prop where
 eq:s1=s.tset k t'
 tk:s1.tasks[k]?=some t'
 len:s1.tasks.length=s.tasks.length
theorem NxS.mk' {s:PRun} {k:Nat} {t:PTask} (ht:s.tasks[k]?=some t) (t':PTask):∃s1,NxS s k t' s1:=⟨_,rfl,tset_at ht,tset_len⟩
theorem NxS.hset {s s1:PRun} {k:Nat} {t t':PTask} (h:NxS s k t' s1) (ht:s.tasks[k]?=some t) (hk:ix (.tsk k)<NN) (h1:t'.sarr=t.sarr) (h2:t'.kids=t.kids) (h3:t'.spn=t.spn):(HH s).set (ix (.tsk k)) (tskB k t')=HH s1:=by
 rw [h.eq];exact HH_tset ht hk h1 h2 h3
def clo (t:PTask) (st:Int):PTask:={ t with ending:=st,state:=2,has:=-1 }
theorem close_ok {s s2:PRun} (hw:WF s) {n:Nat} {t:PTask} {st:Int} (ht:s.tasks[n]?=some t) (hw2:WF s2) (hS:FnH Tryd.prog 122 [ptR,.int n] (HH (s.tset n (clo t st))) (.tup []) (HH s2)) :
 FnH Tryd.prog 108 [ptR,.int n,.int st] (HH s) (.tup []) (HH s2):=by
 obtain ⟨g1,g2,g3,g4,hn,g6⟩:=hw.k ht
 obtain ⟨s1,h1⟩:=NxS.mk' ht { t with ending:=st }
 obtain ⟨s3,h3⟩:=NxS.mk' h1.tk { t with ending:=st,state:=2 }
 have e1:=h1.hset ht g1 rfl rfl rfl
 have e3:=h3.hset h1.tk g1 rfl rfl rfl
 obtain ⟨s4,h4⟩:=NxS.mk' h3.tk (clo t st)
 have e4:=h4.hset h3.tk g1 rfl rfl rfl
 have hs4:s.tset n (clo t st)=s4:=by rw [h4.eq,h3.eq,h1.eq,tset_tset,tset_tset]
 rw [hs4] at hS
 have q1:=h1.tk
 have q3:=h3.tk
 clear hs4 h1 h3 h4
 simp only [tskB,behV,clo] at e1 e3 e4
 refine FnH.intro' [(0,ptR),(1,.int n),(2,.int st)] 3 27 NN Tryd.func108 (by kernel_rfl) rfl rfl rfl rfl rfl (HH_len s) ?_
 refine goF ?_
 refine ARun.q1 rfl rfl (ql_ixo (n:=n) (b:=ix .tk) (by simp +decide only [go_sem, *]<;>rfl) (by simp +decide only [go_sem, *]<;>rfl) Tryd.underlying80 (by simp +decide only [go_sem, *]<;>rfl) (by simp) hn (by simp +decide only [go_sem, *]<;>rfl)) ?_
 refine goF ?_
 refine ARun.p1 rfl rfl (pl_callW hS (by simp [HH_len]) rfl (by simp +decide only [go_sem, *]<;>rfl) (by simp +decide only [go_sem, *]<;>rfl)) ?_
 refine goF ?_
 exact .runV [] hw2 (vs:=[]) (by show resVals _ _ []=_;simp +decide only [resVals,resVal,ldPtr,ldE,go_sem, *]<;>rfl) (by simp) rfl (.pu (Pu.tup (by simp)))
def popS (cs:List PCall) (sa:List Nat):Nat→Nat→Option Nat
 | 0,j=>match cs[j]? with
   | some c=>if (c.code.steps.length:Int)≤c.pc then none else some 0
   | none=>some 0
 | m+1,j=>match cs[j]? with
   | some c=>if (c.code.steps.length:Int)≤c.pc then (match sa[m]? with
     | some j'=>popS cs sa m j'
     | none=>none) else some (m+1)
   | none=>some (m+1)
theorem popS_stay {cs:List PCall} {sa:List Nat} {m j:Nat} {c:PCall} (hc:cs[j]?=some c) (h:c.pc<c.code.steps.length):popS cs sa m j=some m:=by
 cases m<;>simp only [popS,hc]<;>rw [if_neg (by omega)]
theorem popS_end {cs:List PCall} {sa:List Nat} {j:Nat} {c:PCall} (hc:cs[j]?=some c) (h:(c.code.steps.length:Int)≤c.pc):popS cs sa 0 j=none:=by
 simp only [popS,hc];rw [if_pos h]
theorem popS_pop {cs:List PCall} {sa:List Nat} {m j j':Nat} {c:PCall} (hc:cs[j]?=some c) (h:(c.code.steps.length:Int)≤c.pc) (hj:sa[m]?=some j'):popS cs sa (m+1) j=popS cs sa m j':=by
 simp only [popS,hc,hj];rw [if_pos h]
theorem WF.cset {s:PRun} (hw:WF s) {j:Nat} {c:PCall} (h1:c.vars.length≤1000) (h2:c.code.steps.length≤1000):WF (s.cset j c):=by
 have hl:(s.calls.set j c).length=s.calls.length:=List.length_set
 refine ⟨hw.nT,by show (s.calls.set j c).length≤_;rw [hl];exact hw.nC,hw.nK,hw.nB,hw.pl,hw.cks,hw.acts,hw.ends,fun t ht=>?_,hw.behs,hw.endl,hw.sz,hw.tsz,fun x hx=>?_⟩
 ·obtain ⟨a1,a2⟩:=hw.tsk t ht
  exact ⟨fun j hj=>by show _<(s.calls.set _ _).length;rw [hl];exact a1 j hj,a2⟩
 ·rcases List.mem_or_eq_of_mem_set hx with hx|rfl
  ·exact hw.csz x hx
  ·exact ⟨h1,h2⟩
theorem WF.tset {s:PRun} (hw:WF s) {k:Nat} {t:PTask} (h1:(∀j∈t.sarr,j<s.calls.length)∧t.slen≤t.sarr.length∧t.clk<s.pool.length∧∀b,t.beh=some b→b<s.behs.length) (h2:t.sarr.length≤1000∧t.kids.length≤1000):WF (s.tset k t):=by
 have hl:(s.tasks.set k t).length=s.tasks.length:=List.length_set
 refine ⟨by show (s.tasks.set k t).length≤_;rw [hl];exact hw.nT,hw.nC,hw.nK,hw.nB,hw.pl,hw.cks,hw.acts,hw.ends,fun x hx=>?_,hw.behs,by show _=(s.tasks.set k t).length;rw [hl];exact hw.endl,hw.sz,fun x hx=>?_,hw.csz⟩
 ·rcases List.mem_or_eq_of_mem_set hx with hx|rfl
  ·exact hw.tsk x hx
  ·exact h1
 ·rcases List.mem_or_eq_of_mem_set hx with hx|rfl
  ·exact hw.tsz x hx
  ·exact h2
theorem WF.tset' {s:PRun} (hw:WF s) {k:Nat} {t t':PTask} (ht:s.tasks[k]?=some t) (h1:t'.sarr=t.sarr) (h2:t'.slen≤t.slen) (h3:t'.clk=t.clk) (h4:t'.beh=t.beh) (h5:t'.kids=t.kids):WF (s.tset k t'):=by
 obtain ⟨a1,a2,a3,a4⟩:=hw.tsk t (List.mem_of_getElem? ht)
 exact hw.tset ⟨by rw [h1];exact a1,by rw [h1];omega,by rw [h3];exact a3,by rw [h4];exact a4⟩ (by rw [h1,h5];exact hw.tsz t (List.mem_of_getElem? ht))
theorem tset_self {s:PRun} {k:Nat} {t:PTask} (ht:s.tasks[k]?=some t):s.tset k t=s:=by
 unfold PRun.tset
 have:s.tasks.set k t=s.tasks:=by
  obtain ⟨h1,h2⟩:=List.getElem?_eq_some_iff.1 ht
  rw [← h2];exact List.set_getElem_self h1
 rw [this]
theorem goOn_ok {s s2:PRun} (hw:WF s) {n j m:Nat} {t:PTask} {c:PCall} (ht:s.tasks[n]?=some t) (hm:t.slen=m+1) (hj:t.sarr[m]?=some j) (hc:s.calls[j]?=some c) (hpc:∀c∈s.calls,0≤c.pc∧c.pc≤1000) (hw2:WF s2)
 (hS:popS (s.cset j { c with pc:=c.pc+1 }).calls t.sarr m j=none→FnH Tryd.prog 122 [ptR,.int n] (HH ((s.cset j { c with pc:=c.pc+1 }).tset n (clo { t with slen:=1 } 3))) (.tup []) (HH s2))
 (hR:∀m',popS (s.cset j { c with pc:=c.pc+1 }).calls t.sarr m j=some m'→s2=(s.cset j { c with pc:=c.pc+1 }).tset n { t with slen:=m'+1 }) :
 FnH Tryd.prog 92 [ptR,.int n,ptC j] (HH s) (.tup []) (HH s2):=by
 obtain ⟨g1,g2,g3,g4,hn,g6⟩:=hw.k ht
 obtain ⟨k1,k2⟩:=hw.c hc
 obtain ⟨p1,p2⟩:=hpc c (List.mem_of_getElem? hc)
 obtain ⟨v1,v2⟩:=hw.csz c (List.mem_of_getElem? hc)
 have e1:=HH_cset (c':={ c with pc:=c.pc+1 }) hc k1 rfl
 obtain ⟨s1,hs1⟩:∃s1,s1=s.cset j { c with pc:=c.pc+1 }:=⟨_,rfl⟩
 rw [← hs1] at e1 hS hR
 have hw1:WF s1:=by rw [hs1];exact hw.cset v1 v2
 have hpc1:∀c∈s1.calls,0≤c.pc∧c.pc≤1001:=fun x hx=>by
  rw [hs1] at hx
  rcases List.mem_or_eq_of_mem_set hx with hx|rfl
  ·have:=hpc x hx;omega
  ·simp only;omega
 have ht1:s1.tasks[n]?=some t:=by rw [hs1];exact ht
 simp only [calB] at e1
 refine FnH.intro' [(0,ptR),(1,.int n),(2,ptC j)] 3 67 NN Tryd.func92 (by kernel_rfl) rfl rfl rfl rfl rfl (HH_len s) ?_
 have hpw:IntKind.i64.wrap (c.pc+1)=c.pc+1:=wrap_id (by omega) (by omega)
 have hS':=Hid.mk hS
 have hR':=Hid.mk hR
 have hs1':=Hid.mk hs1
 clear hS hR hs1
 refine goF ?_
 refine ARun.q1 rfl rfl (ql_ixo (n:=n) (b:=ix .tk) (by simp +decide only [go_sem, *]<;>rfl) (by simp +decide only [go_sem, *]<;>rfl) Tryd.underlying80 (by simp +decide only [go_sem, *]<;>rfl) (by simp) hn (by simp +decide only [go_sem, *]<;>rfl)) ?_
 refine goF ?_
 refine AWp.loop (J:=fun x:Nat × Nat × PRun=>x.1≤m∧t.sarr[x.1]?=some x.2.1∧x.2.2=s1.tset n { t with slen:=x.1+1 }∧popS s1.calls t.sarr x.1 x.2.1=popS s1.calls t.sarr m j) (fun x=>⟨[(0,ptR),(1,.int n),(2,ptC x.2.1),(6,ptK n)],HH x.2.2⟩) (fun x=>x.1) (m,j,s1) ⟨Nat.le_refl _,hj,by show s1=_;rw [← hm,tset_self ht1],rfl⟩ (.wf (hH:=e1)) ?_
 rintro ⟨m',j',si⟩ ⟨x1,x2,x3,x4⟩
 simp only at x1 x2 x3 x4
 have hti:si.tasks[n]?=some { t with slen:=m'+1 }:=by rw [x3];exact tset_at ht1
 have hli:si.tasks.length=s1.tasks.length:=by rw [x3,tset_len]
 have hwi:WF si:=by rw [x3];exact hw1.tset' ht1 rfl (by show m'+1≤t.slen;omega) rfl rfl rfl
 obtain ⟨c',hc'⟩:∃c',s1.calls[j']?=some c':=⟨_,List.getElem?_eq_getElem ((hw1.tsk t (List.mem_of_getElem? ht1)).1 j' (List.mem_of_getElem? x2))⟩
 have hci:si.calls[j']?=some c':=by rw [x3];exact hc'
 obtain ⟨f1,f2,f3,f4,fn,f6⟩:=hwi.k hti
 obtain ⟨u1,u2⟩:=hwi.c hci
 have hlc:m'<t.sarr.length:=(List.getElem?_eq_some_iff.1 x2).1
 have ht1000:=(hw1.tsz t (List.mem_of_getElem? ht1)).1
 have x3':=Hid.mk x3
 have x4':=Hid.mk x4
 clear x3 x4 e1 ht1
 refine goF ?_
 refine drA (k:=10) follows (hr:=?_)
 refine goF ?_
 refine ifA (fun hd=>?_) (fun hd=>?_)
 ·simp at hd
  cases m' with
  | zero =>
    have hn0:=x4'.out.symm.trans (popS_end hc' hd)
    have hcl:=close_ok hwi (st:=3) hti hw2 (by rw [x3'.out,tset_tset];exact hS'.out hn0)
    have hd1:decide ((↑(0+1:Nat):Int)=1)=true:=by decide
    clear hn0
    refine goF ?_
    refine ift_ ?_ rfl rfl
    refine goF ?_
    refine ARun.p1 rfl rfl (pl_callW hcl (by simp [HH_len]) rfl (by simp +decide only [go_sem, *]<;>rfl) (by simp +decide only [go_sem, *]<;>rfl)) ?_
    refine goF ?_
    exact .runV [] hw2 (vs:=[]) (by show resVals _ _ []=_;simp +decide only [resVals,resVal,ldPtr,ldE,go_sem, *]<;>rfl) (by simp) rfl (.pu (Pu.tup (by simp)))
  | succ m' =>
    have hd1:decide ((↑(m'+1+1:Nat):Int)=1)=false:=by simp;omega
    obtain ⟨j2,hj2⟩:∃j2,t.sarr[m']?=some j2:=⟨_,List.getElem?_eq_getElem (by omega)⟩
    obtain ⟨s3,h3⟩:=NxS.mk' hti { t with slen:=m'+1 }
    have e3:=h3.hset hti g1 rfl rfl rfl
    have hp3:=Hid.mk ((popS_pop hc' hd hj2).symm.trans x4'.out)
    have hs3:Hid (s3=s1.tset n { t with slen:=m'+1 }):=⟨by rw [h3.eq,x3'.out,tset_tset]⟩
    have q3:=h3.tk
    clear h3
    have hjm:(t.sarr.map ptC)[m']?=some (ptC j2):=by rw [List.getElem?_map,hj2];rfl
    simp only [tskB,behV] at e3
    refine goF ?_
    refine iff_ ?_ rfl rfl
    refine goF ?_
    have hsz0:m'+1-0=m'+1:=rfl
    have hwr2:IntKind.i64.wrap ((↑(m'+1:Nat):Int)-1)=(m':Int):=by rw [wrap_id (by omega) (by omega)];omega
    have hwr:IntKind.i64.wrap ((↑(m'+1+1:Nat):Int)-1)=((m'+1:Nat):Int):=by rw [wrap_id (by omega) (by omega)];omega
    refine drA (k:=12) follows (hr:=?_)
    refine goF ?_
    refine ARun.q1 rfl rfl (ql_slice_own (b:=ix (.stk n)) (l:=0) (h:=m'+1) (blk:=⟨135,1,t.sarr.map ptC⟩) (by simp +decide only [go_sem, *]<;>rfl) Tryd.underlying85 (by simp +decide only [go_sem, *]<;>rfl) (by simp) (by simp [bnd,lk,go_sem]) (by simp +decide only [bnd,go_sem, *]<;>rfl) (Nat.zero_le _) (by omega) (by kernel_rfl)) ?_
    refine goF ?_
    refine drA (k:=10) follows (hr:=?_)
    refine goF ?_
    refine ARun.q1 rfl rfl (ql_ixo (n:=m') (b:=ix (.stk n)) (by simp +decide only [go_sem, *]<;>rfl) (by simp +decide only [go_sem, *]<;>rfl) Tryd.underlying85 (by simp +decide only [go_sem, *]<;>rfl) (by simp) (by omega) (by simp +decide only [go_sem, *]<;>rfl)) ?_
    refine goF ?_
    exact ⟨(m',j2,s3),⟨by show m'≤m;omega,hj2,hs3.out,hp3.out⟩,by show m'<m'+1;omega,.wf⟩
 simp at hd
 have hs2:=hR'.out m' (x4'.out.symm.trans (popS_stay hc' hd))
 rw [← x3'.out] at hs2
 subst hs2
 refine goF ?_
 exact .runV [] hw2 (vs:=[]) (by show resVals _ _ []=_;simp +decide only [resVals,resVal,ldPtr,ldE,go_sem, *]<;>rfl) (by simp) rfl (.pu (Pu.tup (by simp)))
end Go.Ab
set_option maxHeartbeats 4000000
namespace Go.Ab
open Go Go.Ab Go.Proofs Go.Ab.Ty
def PRun.addP (s:PRun) (l:List Int):PRun:={ s with pool:=s.pool++[l] }
theorem addP_at {s:PRun} {l:List Int}:(s.addP l).pool[s.pool.length]?=some l:=by simp [PRun.addP]
theorem addP_ne {s:PRun} {l:List Int} {j:Nat} (h:j≠s.pool.length):(s.addP l).pool[j]?=s.pool[j]?:=by
 unfold PRun.addP
 simp only
 rcases Nat.lt_or_ge j s.pool.length with h1|h1
 ·exact List.getElem?_append_left h1
 ·rw [List.getElem?_eq_none (by simp;omega),List.getElem?_eq_none h1]
theorem HH_addP {s:PRun} {l:List Int} {j:Nat} (hj:j=s.pool.length) (h1:ix (.clk j)<NN):(HH s).set (ix (.clk j)) (intB l)=HH (s.addP l):=by
 subst hj
 refine HH_upd (s:=s) (s':=s.addP l) [(.clk s.pool.length,intB l)] (upd1 ⟨h1,by simp only [blk];rw [addP_at]⟩) fun a ha=>?_
 simp only [List.map_cons,List.map_nil,List.mem_singleton] at ha
 cases a with
 | clk j=>simp only [blk];rw [addP_ne fun e=>ha (by rw [e])]
 | _=>rfl
theorem WF.addP {s:PRun} (hw:WF s) {l:List Int} (h1:s.pool.length<MM) (h2:l.length=32):WF (s.addP l):=by
 have hl:(s.addP l).pool.length=s.pool.length+1:=by simp [PRun.addP]
 refine ⟨hw.nT,hw.nC,by rw [hl];omega,hw.nB,fun x hx=>?_,fun j hj=>by rw [hl];have:=hw.cks j hj;omega,fun j hj=>by rw [hl];have:=hw.acts j hj;omega,fun o ho j e=>by rw [hl];have:=hw.ends o ho j e;omega,fun t ht=>?_,fun x hx=>?_,hw.endl,hw.sz,hw.tsz,hw.csz⟩
 ·simp only [PRun.addP,List.mem_append,List.mem_singleton] at hx
  rcases hx with hx|rfl
  ·exact hw.pl x hx
  ·exact h2
 ·obtain ⟨a1,a2,a3,a4⟩:=hw.tsk t ht
  exact ⟨a1,a2,by rw [hl];omega,a4⟩
 ·obtain ⟨a1,a2⟩:=hw.behs x hx
  exact ⟨a1,fun j hj=>by rw [hl];have:=a2 j hj;omega⟩
theorem PL.clk {s:PRun} (hw:WF s) {T:List ABlk} {ρ:Operand→AV} {op:Op} {l:List Int} (hM:s.pool.length<MM) (hl:l.length=32) (h:PL Tryd.prog (HH s++T) ρ op (.own (HH s++T).length 32 0 32) ((HH s++T)++[intB l])) (hT:∀b∈T,RfB (Nb (HH s++T).length (ix (.clk s.pool.length))) b) :
 PL Tryd.prog (HH s++T) ρ op (ownC s.pool.length) (HH (s.addP l)++T):=by
 have hi:ix (.clk s.pool.length)<NN:=ix_lt hM
 have h1:=PL.placeS h (p:=ix (.clk s.pool.length)) (blk0:=intB []) (by rw [app_get (HH_len s) hi,HH_get s _ hi];simp only [blk];rw [List.getElem?_eq_none (Nat.le_refl _)]) rfl (by simp;intro e;rw [e] at hl;cases hl) intB_rf (app_rf (HH_nb hw (a:=.clk s.pool.length) (by show ¬ _<_;omega) (by simp [HH_len])) hT) MvR.ownL
 rw [app_set (HH_len s) hi,HH_addP rfl hi] at h1
 exact h1
theorem pl_join {s:PRun} (hw:WF s) {T:List ABlk} {ρ:Operand→AV} {c:Call} {fx:Operand} {x y:Nat} {a b:List Int} (hM:s.pool.length<MM) (hx:s.pool[x]?=some a) (hy:s.pool[y]?=some b) (hT:∀b∈T,RfB (Nb (HH s++T).length (ix (.clk s.pool.length))) b)
 (hc:c.callee=.value fx) (hfx:ρ fx=.clo 87 []) (ha:c.args.toList.map ρ++[]=[ownC x,ownC y]):PL Tryd.prog (HH s++T) ρ (.call c) (ownC s.pool.length) (HH (s.addP (joinL a b))++T):=by
 obtain ⟨i1,l1⟩:=hw.p hx
 obtain ⟨i2,l2⟩:=hw.p hy
 refine .clk hw hM (by rw [joinL_len (by omega)];exact l1) (pl_callW (join_ok (by rw [app_get (HH_len s) i1,HH_get s _ i1];simp only [blk];rw [hx]) (by rw [app_get (HH_len s) i2,HH_get s _ i2];simp only [blk];rw [hy]) l1 l2 (by decide) (by decide)) (by simp) hc hfx ha) hT
theorem pl_clone {s:PRun} (hw:WF s) {T:List ABlk} {ρ:Operand→AV} {c:Call} {fx:Operand} {x:Nat} {a:List Int} (hM:s.pool.length<MM) (hx:s.pool[x]?=some a) (hT:∀b∈T,RfB (Nb (HH s++T).length (ix (.clk s.pool.length))) b)
 (hc:c.callee=.value fx) (hfx:ρ fx=.clo 89 []) (ha:c.args.toList.map ρ++[]=[ownC x]):PL Tryd.prog (HH s++T) ρ (.call c) (ownC s.pool.length) (HH (s.addP a)++T):=by
 obtain ⟨i1,l1⟩:=hw.p hx
 refine .clk hw hM l1 (pl_callW (clone_ok (by rw [app_get (HH_len s) i1,HH_get s _ i1];simp only [blk];rw [hx]) l1 (by decide) (by decide)) (by simp) hc hfx ha) hT
end Go.Ab
set_option maxHeartbeats 4000000
namespace Go.Ab
open Go Go.Ab Go.Proofs Go.Ab.Ty
def PRun.enS (s:PRun) (n j:Nat):PRun:={ s with ends:=s.ends.set n (some j) }
theorem HH_enS {s:PRun} {n j:Nat}:(HH s).set (ix .en) ⟨25,1,(s.ends.set n (some j)).map endV⟩=HH (s.enS n j):=
 HH_upd (s:=s) (s':=s.enS n j) [(.en,_)] (upd1 ⟨ixl_en,rfl⟩) fun a ha=>by
  cases a with
  | en=>simp at ha
  | rn=>simp only [blk,rnB,PRun.enS,List.length_set]
  | _=>rfl
theorem WF.enS {s:PRun} (hw:WF s) {n j:Nat} (hj:j<s.pool.length):WF (s.enS n j):=by
 refine ⟨hw.nT,hw.nC,hw.nK,hw.nB,hw.pl,hw.cks,hw.acts,fun o ho i e=>?_,hw.tsk,hw.behs,by simp [PRun.enS];exact hw.endl,hw.sz,hw.tsz,hw.csz⟩
 rcases List.mem_or_eq_of_mem_set ho with ho|rfl
 ·exact hw.ends o ho i e
 ·injection e with e;subst e;exact hj
def PRun.addB (s:PRun) (l:List Nat):PRun:={ s with behs:=s.behs++[l] }
theorem addB_at {s:PRun} {l:List Nat}:(s.addB l).behs[s.behs.length]?=some l:=by simp [PRun.addB]
theorem addB_ne {s:PRun} {l:List Nat} {j:Nat} (h:j≠s.behs.length):(s.addB l).behs[j]?=s.behs[j]?:=by
 unfold PRun.addB
 simp only
 rcases Nat.lt_or_ge j s.behs.length with h1|h1
 ·exact List.getElem?_append_left h1
 ·rw [List.getElem?_eq_none (by simp;omega),List.getElem?_eq_none h1]
theorem HH_addB {s:PRun} {l:List Nat} {j:Nat} (hj:j=s.behs.length) (h1:ix (.beh j)<NN):(HH s).set (ix (.beh j)) ⟨25,1,l.map ownC⟩=HH (s.addB l):=by
 subst hj
 refine HH_upd (s:=s) (s':=s.addB l) [(.beh s.behs.length,⟨25,1,l.map ownC⟩)] (upd1 ⟨h1,by simp only [blk];rw [addB_at]⟩) fun a ha=>?_
 simp only [List.map_cons,List.map_nil,List.mem_singleton] at ha
 cases a with
 | beh j=>simp only [blk];rw [addB_ne fun e=>ha (by rw [e])]
 | _=>rfl
theorem WF.addB {s:PRun} (hw:WF s) {j:Nat} (h1:s.behs.length<MM) (h2:j<s.pool.length):WF (s.addB [j]):=by
 have hl:(s.addB [j]).behs.length=s.behs.length+1:=by simp [PRun.addB]
 refine ⟨hw.nT,hw.nC,hw.nK,by rw [hl];omega,hw.pl,hw.cks,hw.acts,hw.ends,fun t ht=>?_,fun x hx=>?_,hw.endl,hw.sz,hw.tsz,hw.csz⟩
 ·obtain ⟨a1,a2,a3,a4⟩:=hw.tsk t ht
  exact ⟨a1,a2,a3,fun b hb=>by rw [hl];have:=a4 b hb;omega⟩
 ·simp only [PRun.addB,List.mem_append,List.mem_singleton] at hx
  rcases hx with hx|rfl
  ·exact hw.behs x hx
  ·exact ⟨rfl,fun i hi=>by rw [List.mem_singleton] at hi;subst hi;exact h2⟩
theorem pl_beh {s:PRun} (hw:WF s) {ρ:Operand→AV} {x y:Operand} {j:Nat} (hM:s.behs.length<MM) (hj:j<s.pool.length) (hx:ρ x=nilS) (hy:ρ y=.lst [ownC j]) :
 PL Tryd.prog (HH s) ρ (.call { callee:=.builtin .append,args:=#[x,y],argTypes:=#[81,81] }) (.own (ix (.beh s.behs.length)) 1 0 1) (HH (s.addB [j])):=by
 have hi:ix (.beh s.behs.length)<NN:=ix_lt hM
 have h0:=pl_append_nil (P:=Tryd.prog) (H:=HH s) (ρ:=ρ) (s:=x) (x:=y) hx hy Tryd.underlying81 el25 (fun e he=>by rw [List.mem_singleton] at he;subst he;exact ⟨rfl,rfl⟩) (by simp) (by simp)
 have h1:=PL.placeS h0 (p:=ix (.beh s.behs.length)) (blk0:=⟨25,1,[]⟩) (by rw [HH_get s _ hi];simp only [blk];rw [List.getElem?_eq_none (Nat.le_refl _)]) rfl (by simp) (fun e he d hd=>by
  rw [List.mem_singleton] at he;subst he
  simp only [AV.cells,List.mem_singleton] at hd;subst hd
  exact .own ⟨fun e=>(by have:=ix_inj e;cases this),by
   have:ix (.clk j)<NN:=ix_lt (by show j<MM;have:=hw.nK;omega)
   simp only [HH_len];omega⟩) (HH_nb hw (a:=.beh s.behs.length) (by show ¬ _<_;omega) (by simp [HH_len])) MvR.ownL
 rw [← HH_addB rfl hi]
 exact h1
end Go.Ab
set_option maxHeartbeats 4000000
namespace Go.Ab
open Go Go.Ab Go.Proofs Go.Ab.Ty
def kidsJ:PRun→Nat→List Int→PRun × Nat × Bool
 | s,e,[]=>(s,e,true)
 | s,e,k::ks=>match s.tasks[k.toNat]?,s.ends[k.toNat]? with
   | some tk,some (some x)=>if 3≤tk.state then kidsJ (s.addP (joinL (s.pool.getD e []) (s.pool.getD x []))) s.pool.length ks else (s,e,false)
   | _,_=>(s,e,false)
def topJ (t:PTask):Nat:=t.sarr.getD (t.slen-1) 0
def goOnF (S:PRun→Nat→PRun) (s:PRun) (n j:Nat):PRun:=match s.tasks[n]?,s.calls[j]? with
 | some t,some c=>match popS (s.cset j { c with pc:=c.pc+1 }).calls t.sarr (t.slen-1) j with
   | none=>S ((s.cset j { c with pc:=c.pc+1 }).tset n (clo { t with slen:=1 } 3)) n
   | some m=>(s.cset j { c with pc:=c.pc+1 }).tset n { t with slen:=m+1 }
 | _,_=>s
def wakeT (s:PRun) (p:Nat) (tp:PTask) (e:Nat):PRun:=(s.addB [e]).tset p { tp with waits:=-1,state:=1,beh:=some s.behs.length }
def wakeP (s:PRun) (p:Nat) (tp:PTask) (e:Nat):PRun:=match s.calls[topJ tp]? with
 | some c=>if c.pc=(c.code.steps.length:Int)-1 then (((wakeT s p tp e).addP (joinL (s.pool.getD tp.clk []) (s.pool.getD e []))).tset p { tp with waits:=-1,state:=1,beh:=some s.behs.length,clk:=s.pool.length }) else wakeT s p tp e
 | none=>wakeT s p tp e
def settleF:Nat→PRun→Nat→PRun
 | 0,s,_=>s
 | f+1,s,n=>match s.tasks[n]? with
   | none=>s
   | some t=>if t.ending=0∨3≤t.state then s else match kidsJ s t.clk t.kids with
     | (s1,_,false)=>s1
     | (s1,e,true)=>if t.par<0 then (s1.enS n e).tset n { t with state:=t.ending } else match s1.tasks[t.par.toNat]? with
       | none=>s1
       | some tp=>if tp.waits=n then goOnF (settleF f) (wakeP ((s1.enS n e).tset n { t with state:=t.ending }) t.par.toNat tp e) t.par.toNat (topJ tp)
         else settleF f ((s1.enS n e).tset n { t with state:=t.ending }) t.par.toNat
structure Iv (s:PRun):Prop where
 wf:WF s
 kd:Kok s
 par:∀(k:Nat) (t:PTask),s.tasks[k]?=some t→t.par = -1∨∃p:Nat,t.par=(p:Int)∧p<k
 stk:∀(k:Nat) (t:PTask),s.tasks[k]?=some t→0<t.slen
 en:∀(k:Nat) (t:PTask),s.tasks[k]?=some t→3≤t.state→∃j,s.ends[k]?=some (some j)
 wt:∀(k:Nat) (t:PTask),s.tasks[k]?=some t→0≤t.waits→t.beh=none
 ed:∀(k:Nat) (t:PTask),s.tasks[k]?=some t→t.ending=0∨3≤t.ending
 dis:∀(k:Nat) (t:PTask) (k':Nat) (t':PTask) (i i' j:Nat),s.tasks[k]?=some t→s.tasks[k']?=some t'→i<t.slen→i'<t'.slen→t.sarr[i]?=some j→t'.sarr[i']?=some j→k=k'∧i=i'
 pcB:∀c∈s.calls,0≤c.pc∧c.pc≤c.code.steps.length
 pcI:∀(k:Nat) (t:PTask) (j:Nat) (c:PCall),s.tasks[k]?=some t→(t.state=1∨0≤t.waits)→t.sarr[t.slen-1]?=some j→s.calls[j]?=some c→c.pc<c.code.steps.length
theorem Iv.addP {s:PRun} (h:Iv s) {l:List Int} (h1:s.pool.length<MM) (h2:l.length=32):Iv (s.addP l):=
 ⟨h.wf.addP h1 h2,⟨h.kd.kd⟩,h.par,h.stk,h.en,h.wt,h.ed,h.dis,h.pcB,h.pcI⟩
theorem Iv.addB {s:PRun} (h:Iv s) {j:Nat} (h1:s.behs.length<MM) (h2:j<s.pool.length):Iv (s.addB [j]):=
 ⟨h.wf.addB h1 h2,⟨h.kd.kd⟩,h.par,h.stk,h.en,h.wt,h.ed,h.dis,h.pcB,h.pcI⟩
theorem Iv.enS {s:PRun} (h:Iv s) {n j:Nat} (hj:j<s.pool.length):Iv (s.enS n j):=
 ⟨h.wf.enS hj,⟨h.kd.kd⟩,h.par,h.stk,fun k t h1 h2=>by
  obtain ⟨i,hi⟩:=h.en k t h1 h2
  show ∃j',(s.ends.set n (some j))[k]?=_
  rw [List.getElem?_set]
  split
  ·rename_i e
   subst e
   exact ⟨j,by rw [if_pos (List.getElem?_eq_some_iff.1 hi).1]⟩
  ·exact ⟨i,hi⟩,h.wt,h.ed,h.dis,h.pcB,h.pcI⟩
theorem Iv.tset {s:PRun} (h:Iv s) {k:Nat} {t t':PTask} (ht:s.tasks[k]?=some t) (h1:t'.sarr=t.sarr) (h2:t'.slen≤t.slen) (h20:0<t'.slen) (h3:t'.kids=t.kids) (h4:t'.par=t.par) (h5:t'.clk<s.pool.length) (h6:∀b,t'.beh=some b→b<s.behs.length)
 (h7:3≤t'.state→∃j,s.ends[k]?=some (some j)) (h8:0≤t'.waits→t'.beh=none) (h9:t'.ending=0∨3≤t'.ending)
 (h10:(t'.state=1∨0≤t'.waits)→∀(j:Nat) (c:PCall),t.sarr[t'.slen-1]?=some j→s.calls[j]?=some c→c.pc<c.code.steps.length):Iv (s.tset k t'):=by
 have key:∀ {p:Nat→PTask→Prop},(∀i u,s.tasks[i]?=some u→p i u)→p k t'→∀i u,(s.tset k t').tasks[i]?=some u→p i u:=fun {p} g1 g2 i u hu=>by
  by_cases e:k=i
  ·subst e;rw [tset_at ht] at hu;injection hu with hu;subst hu;exact g2
  ·rw [tset_ne e] at hu;exact g1 i u hu
 obtain ⟨a1,a2,a3,a4⟩:=h.wf.tsk t (List.mem_of_getElem? ht)
 refine ⟨h.wf.tset ⟨by rw [h1];exact a1,by rw [h1];omega,h5,h6⟩ (by rw [h1,h3];exact h.wf.tsz t (List.mem_of_getElem? ht)),⟨key (p:=fun i u=>∀c:Int,c∈u.kids→∃j:Nat,c=j∧i<j∧j<(s.tset k t').tasks.length) (by rw [tset_len];exact h.kd.kd) (by rw [tset_len,h3];exact h.kd.kd k t ht)⟩,
  key h.par (by rw [h4];exact h.par k t ht),key h.stk h20,key h.en h7,key h.wt h8,key h.ed h9,?_,h.pcB,fun i u j c hu=>key (p:=fun i u=>(u.state=1∨0≤u.waits)→u.sarr[u.slen-1]?=some j→s.calls[j]?=some c→c.pc<c.code.steps.length) (fun i u hu=>h.pcI i u j c hu) (fun g1 g2=>h10 g1 j c (by rw [← h1];exact g2)) i u hu⟩
 intro i u i' u' x x' j hu hu' hx hx' hj hj'
 have cv:∀ {i:Nat} {u:PTask} {x:Nat},(s.tset k t').tasks[i]?=some u→x<u.slen→u.sarr[x]?=some j→∃v:PTask,s.tasks[i]?=some v∧x<v.slen∧v.sarr[x]?=some j:=fun {i u x} hu hx hj=>by
  by_cases e:k=i
  ·subst e;rw [tset_at ht] at hu;injection hu with hu;subst hu;exact ⟨t,ht,by omega,by rw [← h1];exact hj⟩
  ·rw [tset_ne e] at hu;exact ⟨u,hu,hx,hj⟩
 obtain ⟨v,b1,b2,b3⟩:=cv hu hx hj
 obtain ⟨v',b1',b2',b3'⟩:=cv hu' hx' hj'
 exact h.dis i v i' v' x x' j b1 b1' b2 b2' b3 b3'
end Go.Ab
