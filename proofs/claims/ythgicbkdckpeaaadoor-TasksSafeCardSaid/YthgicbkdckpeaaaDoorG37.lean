/- Part of the proof. -/
import Derived.Test.YthgicbkdckpeaaaDoorG36
import Derived.Test.YthgicbkdckpeaaaDoorG15
set_option linter.unusedSimpArgs false
set_option linter.unusedVariables false
set_option maxHeartbeats 4000000
namespace Go.Ab.Rg
open Go Go.Ab Go.Proofs Go.Ab.Ty
def inR (s:Stp):Prop:=(u1 s.op→0≤s.v∧s.v<8)∧(u2 s.op→0≤s.w∧s.w<8)∧(u5 s.op→s.vars.length≤1000∧∀v∈s.vars,0≤v∧v<8)
noncomputable def afterE (r:Rg) (s:Stp):Int:=
 if s.op=1 then 0 else if s.op=2 then mustF r [s.w] else if s.op=3 then mustF r [s.v,s.w] else if s.op=4∨s.op=5 then mustF r [s.v] else
 if s.op=6∨s.op=9 then sendE r s.vars true else if s.op=8 then sendE r s.vars false else 0
noncomputable def afterR (r:Rg) (s:Stp):Rg:=
 if s.op=1 then freshR r s.v else if s.op=2 then (if mustF r [s.w]=0 then ⟨updI r.of s.v (r.of s.w),r.count,r.actor⟩ else r) else if s.op=3 then (if mustF r [s.v,s.w]=0 then joinF r s.v s.w else r) else if s.op=4∨s.op=5 then r else
 if s.op=6∨s.op=9 then sendR r s.vars true else if s.op=8 then sendR r s.vars false else r
theorem after_ok (r:Rg) (s:Stp) (h:inR s):Fn Tryd.prog 77 [encR r,encS s] (.tup [encR (afterR r s),.int (afterE r s)]):=by
 refine Fn.intro' [(0,encR r),(1,encS s)] 2 83 Tryd.func77 (by kernel_rfl) rfl rfl rfl rfl rfl ?_
 obtain ⟨hv,hw,hvs⟩:=h
 let S:=fun (t:Nat) (b:Bool)=>(⟨[(t,.bool b),(2,.ptr 0 1 0 0),(3,.ptr 1 1 0 0),(4,.ptr 2 1 0 0),(9,.int s.op)],[⟨124,10,[encR r]⟩,⟨70,6,[encS s]⟩,⟨124,10,[encR ⟨fun _=>0,0,0⟩]⟩]⟩:ASt)
 refine goA ?_
 refine ifA (fun h1=>?_) (fun h1=>?_)
 ·simp at h1
  have hv:=hv (by unfold u1;omega)
  refine goA ?_
  refine callA (fresh_ok r s.v hv.1 hv.2) ?_
  refine goA ?_
  exact Ret.data (by show resVals _ _ [.cell 4 124,.tmp 5]=_;simp +decide only [resVals,resVal,ldPtr,ldE,go_sem, *]<;>rfl) (by simp only [afterR,afterE,h1,if_true];rfl) (Pu_tupR _ _)
 simp at h1
 refine goA ?_
 refine ifA (fun h2=>?_) (fun h2=>?_)
 ·simp at h2
  have hv:=hv (by unfold u1;omega)
  have hw:=hw (by unfold u2;omega)
  refine goA ?_
  refine bslA Tryd.underlying25 sz3 ?_
  refine goA ?_
  refine callA (must_ok r [s.w] (by simpa using hw)) ?_
  refine goA ?_
  refine ifA (fun hm=>?_) (fun hm=>?_)
  ·simp at hm
   refine goA ?_
   exact Ret.data (by show resVals _ _ [.cell 4 124,.tmp 5]=_;simp +decide only [resVals,resVal,ldPtr,ldE,go_sem, *]<;>rfl) (by simp only [afterR,afterE,h2,hm,if_true,if_false];rfl) (Pu_tupR _ _)
  simp at hm
  have g:=getR (f:=r.of) (a:=.int r.count) (b:=.int r.actor) hw.1 hw.2
  refine goA ?_
  refine drA (k:=9) follows (hr:=?_)
  refine goA ?_
  refine ARun.q1 rfl rfl (ql_indexAddr_ptr rfl rfl rfl Tryd.underlying122 hw.1 hw.2 sz3) ?_
  repeat (first|(with_reducible first|apply zs|apply zN|apply z1|apply z2|apply z3|apply z4|apply z5|apply z6|refine z7 rfl ?_|apply zb|apply zk|apply zr|apply ze|apply y1|apply y2)|((with_reducible apply zR);(refine ⟨rfl,rfl,?_⟩;simp +decide only [go_sem,List.map];rfl))|((with_reducible apply zG);(simp +decide only [go_sem,g];rfl);(simp +decide only [go_sem,g];(repeat simp +decide only [go_sem,g]);rfl))|(refine zp rfl rfl (pl_box (by simp +decide only [go_sem,g];rfl) rfl) ?_)|(refine zp rfl rfl (pl_alloc (by simp only [go_sem];rfl) rfl) ?_)|(refine zp rfl rfl (pl_store (by simp +decide only [go_sem,g];rfl) (by simp +decide only [go_sem,g];rfl) (by simp +decide only [go_sem];rfl) (by rfl) (by rfl) (by kernel_rfl) (by rfl) (by rfl)) ?_)|fail)
  refine ARun.q1 rfl rfl (ql_indexAddr_ptr rfl rfl rfl Tryd.underlying122 hv.1 hv.2 sz3) ?_
  refine goA ?_
  refine ARun.p1 rfl rfl (pl_storeR (f:=r.of) (n:=s.v) (by simp +decide only [go_sem]<;>rfl) (by simp +decide only [go_sem]<;>rfl) (by simp +decide only [go_sem]<;>rfl) hv.1 hv.2 sz3) ?_
  refine goA ?_
  exact Ret.data (by show resVals _ _ [.cell 4 124,.tmp 5]=_;simp +decide only [resVals,resVal,ldPtr,ldE,go_sem, *]<;>rfl) (by simp only [afterR,afterE,h2,hm,if_true];rfl) (Pu_tupR _ _)
 simp at h2
 refine goA ?_
 refine ifA (fun h3=>?_) (fun h3=>?_)
 ·simp at h3
  have hv:=hv (by unfold u1;omega)
  have hw:=hw (by unfold u2;omega)
  refine goA ?_
  refine bslA Tryd.underlying25 sz3 ?_
  refine goA ?_
  refine callA (must_ok r [s.v,s.w] (by simpa using ⟨hv,hw⟩)) ?_
  refine goA ?_
  refine ifA (fun hm=>?_) (fun hm=>?_)
  ·simp at hm
   refine goA ?_
   exact Ret.data (by show resVals _ _ [.cell 4 124,.tmp 5]=_;simp +decide only [resVals,resVal,ldPtr,ldE,go_sem, *]<;>rfl) (by simp only [afterR,afterE,h3,hm,if_true,if_false];rfl) (Pu_tupR _ _)
  simp at hm
  refine goA ?_
  refine callA (join_ok r s.v s.w hv hw) ?_
  refine goA ?_
  exact Ret.data (by show resVals _ _ [.cell 4 124,.tmp 5]=_;simp +decide only [resVals,resVal,ldPtr,ldE,go_sem, *]<;>rfl) (by simp only [afterR,afterE,h3,hm,if_true];rfl) (Pu_tupR _ _)
 simp at h3
 refine goA ?_
 refine AWp.join (S 56 (decide (s.op=4∨s.op=5))) ?_ ?_
 ·refine ifA (fun ho=>?_) (fun ho=>?_)
  ·refine goA ?_
   exact .env' (by simp (decide:=true) only [go_sem];simp at ho;simp [ho,Le.refl])
  ·refine goA ?_
   exact .env' (by simp (decide:=true) only [go_sem];simp at ho;simp [ho,Le.refl])
 simp only [S]
 refine ifA (fun h4=>?_) (fun h4=>?_)
 ·simp at h4
  have hv:=hv (by unfold u1;omega)
  refine goA ?_
  with_reducible apply AWp.drawK (k:=8) [none,none,none,none,none,none,some 0,none] (fun c=>match c with|0=>[⟨124,10,[encR r]⟩,⟨70,6,[encS s]⟩,⟨124,10,[encR ⟨fun _=>0,0,0⟩]⟩]|_=>[⟨124,10,[encR r]⟩,⟨70,6,[encS s]⟩,⟨124,10,[encR r]⟩]) 1 follows
  ·refine ⟨rfl,rfl,by kernel_rfl,by decide,?_,?_⟩
   ·simp (decide:=true) only [go_sem,List.map,List.take];rfl
   ·simp (decide:=true) only [go_sem,List.map,List.drop];rfl
  ·kernel_rfl
  ·rfl
  ·refine GRun.qf1 rfl rfl (by simp +decide only [go_sem]<;>rfl) (by simp +decide only [go_sem]<;>rfl) ?_
   refine GRun.qf1 rfl rfl (by simp +decide only [go_sem]<;>rfl) (by simp +decide only [go_sem]<;>rfl) ?_
   refine GRun.qf1 rfl rfl (by simp +decide only [go_sem]<;>rfl) (by simp +decide only [go_sem]<;>rfl) ?_
   refine GRun.qf1 rfl rfl (by simp +decide only [go_sem]<;>rfl) (by simp +decide only [go_sem]<;>rfl) ?_
   refine GRun.q1 rfl rfl (fun c hc=>ql_buildSlice (by decide) Tryd.underlying25 sz3 (by kernel_rfl) (by decide) (by simp (decide:=true) only [List.map,go_sem]<;>rfl) (by simp (decide:=true) only [List.map,go_sem]<;>rfl) (by rfl)) ?_
   refine GRun.q1 rfl rfl (fun c hc=>ql_callC (must_ok r [s.v] (by simpa using hv)) rfl (by simp +decide only [go_sem]<;>rfl) (by simp (decide:=true) only [go_sem,List.map]) (by simp [-List.map_take,-List.map_drop])) ?_
   have hst:∀ρ':Operand→AV,ρ' (.tmp 4)=.ptr 2 1 0 0→ρ' (.tmp 59)=encR r→PL Tryd.prog [⟨124,10,[encR r]⟩,⟨70,6,[encS s]⟩,⟨124,10,[encR ⟨fun _=>0,0,0⟩]⟩] ρ' (.store 124 (.tmp 4) (.tmp 59)) .bad [⟨124,10,[encR r]⟩,⟨70,6,[encS s]⟩,⟨124,10,[encR r]⟩]:=fun ρ' e1 e2 =>
    pl_store (H:=[⟨124,10,[encR r]⟩,⟨70,6,[encS s]⟩,⟨124,10,[encR ⟨fun _=>0,0,0⟩]⟩]) e1 e2 rfl rfl rfl (by kernel_rfl) rfl rfl
   refine GRun.p1 rfl rfl (fun ρ' h=>hst ρ' ((h (.tmp 4) (by simp [Op.operands])).trans (by simp +decide only [go_sem]<;>rfl)) ((h (.tmp 59) (by simp [Op.operands])).trans (by simp +decide only [go_sem]<;>rfl))) ?_
   refine GRun.qf1 rfl rfl (by simp +decide only [go_sem]<;>rfl) (by simp +decide only [go_sem]<;>rfl) ?_
   refine GRun.nil ?_
   refine goA ?_
   exact Ret.data (by show resVals _ _ [.cell 4 124,.tmp 5]=_;simp +decide only [resVals,resVal,ldPtr,ldE,go_sem, *]<;>rfl) (by rcases h4 with h|h<;>simp [afterR,afterE,h]<;>rfl) (Pu_tupR _ _)
 simp at h4
 refine goA ?_
 refine AWp.join (S 65 (decide (s.op=6∨s.op=9))) ?_ ?_
 ·refine ifA (fun ho=>?_) (fun ho=>?_)
  ·refine goA ?_
   exact .env' (by simp (decide:=true) only [go_sem];simp at ho;simp [ho,Le.refl])
  ·refine goA ?_
   exact .env' (by simp (decide:=true) only [go_sem];simp at ho;simp [ho,Le.refl])
 simp only [S]
 refine ifA (fun h6=>?_) (fun h6=>?_)
 ·simp at h6
  have hvs:=hvs (by unfold u5;omega)
  refine goA ?_
  refine callA (send_ok r s.vars true hvs.2 hvs.1) ?_
  refine goA ?_
  exact Ret.data (by show resVals _ _ [.cell 4 124,.tmp 5]=_;simp +decide only [resVals,resVal,ldPtr,ldE,go_sem, *]<;>rfl) (by rcases h6 with h|h<;>simp [afterR,afterE,h]<;>rfl) (Pu_tupR _ _)
 simp at h6
 refine goA ?_
 refine ifA (fun h8=>?_) (fun h8=>?_)
 ·simp at h8
  have hvs:=hvs (by unfold u5;omega)
  refine goA ?_
  refine callA (send_ok r s.vars false hvs.2 hvs.1) ?_
  refine goA ?_
  exact Ret.data (by show resVals _ _ [.cell 4 124,.tmp 5]=_;simp +decide only [resVals,resVal,ldPtr,ldE,go_sem, *]<;>rfl) (by simp [afterR,afterE,h8]<;>rfl) (Pu_tupR _ _)
 simp at h8
 refine goA ?_
 exact Ret.data (by show resVals _ _ [.cell 4 124,.tmp 5]=_;simp +decide only [resVals,resVal,ldPtr,ldE,go_sem, *]<;>rfl) (by simp [afterR,afterE,h1,h2,h3,h4,h6,h8]<;>rfl) (Pu_tupR _ _)
end Go.Ab.Rg
set_option maxHeartbeats 4000000
namespace Go.Ab.Rg
open Go Go.Ab Go.Proofs Go.Ab.Ty
attribute [go_sem] beq_self_eq_true
def codeOf (p:Tk) (n:Int):Cd:=if n<0 then cod p.methods (-1-n) else cod p.codes n
def numOk (p:Tk) (n:Int):Prop:=(0≤n∧n<p.codes.length)∨(n<0 ∧ -n≤p.methods.length)
theorem coded_ok (p:Tk) (n:Int) (h:numOk p n):Fn Tryd.prog 75 [encT p,.int n] (.tup [encC (codeOf p n),.bool (decide (n<0)),.bool true]):=by
 rcases h with h|h
 ·have:=coded_code p n h
  have e:¬n<0:=by omega
  simpa [codeOf,e] using this
 ·have:=coded_method p n h
  simpa [codeOf,h.1] using this
def numC (k:Nat):List Int:=(List.range k).map fun i:Nat=>(i:Int)
def numM (k:Nat):List Int:=(List.range k).map fun i:Nat=>-1-(i:Int)
theorem numC_succ (k:Nat):numC (k+1)=numC k++[(k:Int)]:=by simp [numC,List.range_succ]
theorem numM_succ (k:Nat):numM (k+1)=numM k++[-1-(k:Int)]:=by simp [numM,List.range_succ]
theorem numC_len (k:Nat):(numC k).length=k:=by simp [numC]
theorem numM_len (k:Nat):(numM k).length=k:=by simp [numM]
def nums (p:Tk):List Int:=numC p.codes.length++numM p.methods.length
theorem nums_ok {p:Tk} {n:Int} (h:n∈nums p):numOk p n:=by
 simp only [nums,numC,numM,List.mem_append,List.mem_map,List.mem_range] at h
 rcases h with ⟨i,h,rfl⟩|⟨i,h,rfl⟩
 ·exact .inl (by omega)
 ·exact .inr (by omega)
noncomputable def stepsF:Rg→List Stp→Int→Option (Int × Int)
 | _,[],_=>none
 | r,s::l,k=>if afterE r s=0 then stepsF (afterR r s) l (k+1) else some (k,afterE r s)
noncomputable def regAt (r:Rg):List Stp→Rg
 | []=>r
 | s::l=>regAt (afterR r s) l
theorem regAt_app (r:Rg) (l:List Stp) (s:Stp):regAt r (l++[s])=afterR (regAt r l) s:=by
 induction l generalizing r with
 | nil=>rfl
 | cons x l ih=>exact ih _
noncomputable def codeF (p:Tk) (n:Int):Option (Int × Int):=stepsF (startF (codeOf p n) (decide (n<0))) (codeOf p n).steps 0
noncomputable def numsF (p:Tk):List Int→Int × Int × Int
 | []=>(0,0,0)
 | n::l=>match codeF p n with
   | none=>numsF p l
   | some (k,e)=>(n,k,e)
theorem inR_of {l:Lk} {i:Int} {s:Stp} (h:okStep l i s) (hv:l.c.vars≤8) (hp:∀c∈l.p.codes,c.params≤4) (hm:∀c∈l.p.methods,c.params≤4):inR s:=by
 have hmem:∀(L:List Cd) (n:Int),0≤n→n<L.length→cod L n∈L:=fun L n h0 h1=>by
  rw [show cod L n=L[n.toNat]'(by omega) from nth_eqI (by omega)];exact List.getElem_mem _
 have hin:∀vs:List Int,okVars l.c.vars vs→∀v∈vs,0≤v∧v<8:=fun vs hk v hm=>by
  have:=hk.1 v hm;omega
 rcases h with ⟨ho,h1,_⟩|⟨ho,h1,_⟩|⟨ho,h1,_⟩|⟨ho,_,_,_,h4,h5,_,h7,h8⟩|⟨ho,_⟩|⟨ho,_,_,_,_,_,h6,h7,h8⟩|⟨ho,_,_,_,h4,h5,_,h7,h8⟩|⟨ho,_⟩
 ·exact ⟨fun _=>hin _ h1 _ (by simp),fun h=>by unfold u2 at h;omega,fun h=>by unfold u5 at h;omega⟩
 ·exact ⟨fun _=>hin _ h1 _ (by simp),fun _=>hin _ h1 _ (by simp),fun h=>by unfold u5 at h;omega⟩
 ·exact ⟨fun _=>hin _ h1 _ (by simp),fun h=>by unfold u2 at h;omega,fun h=>by unfold u5 at h;omega⟩
 ·exact ⟨fun h=>by unfold u1 at h;omega,fun h=>by unfold u2 at h;omega,fun _=>⟨by have:=hp _ (hmem _ _ (by omega) h5);omega,hin _ h8⟩⟩
 ·exact ⟨fun h=>by unfold u1 at h;omega,fun h=>by unfold u2 at h;omega,fun h=>by unfold u5 at h;omega⟩
 ·exact ⟨fun h=>by unfold u1 at h;omega,fun h=>by unfold u2 at h;omega,fun _=>⟨by omega,hin _ h8⟩⟩
 ·exact ⟨fun h=>by unfold u1 at h;omega,fun h=>by unfold u2 at h;omega,fun _=>⟨by have:=hm _ (hmem _ _ h4 h5);omega,hin _ h8⟩⟩
 ·exact ⟨fun h=>by unfold u1 at h;omega,fun h=>by unfold u2 at h;omega,fun h=>by unfold u5 at h;omega⟩
def PuB (blk:ABlk):Prop:=∀e∈blk.es,∀c∈e.cells,Pu c
theorem PuBs {H H2:List ABlk} {k:Nat} (h:∀blk∈H2,PuB blk):∀blk∈H2,∀e∈blk.es,∀c∈e.cells,Pub H k c c:=fun blk hb e he c hc=>.pu (h blk hb e he c hc)
theorem PuB_T (p:Tk):PuB ⟨24,3,[encT p]⟩:=fun e he c hc=>by
 rw [List.mem_singleton] at he;subst he;exact Pu_cellsT p c hc
theorem PuB_R (r:Rg):PuB ⟨124,10,[encR r]⟩:=fun e he c hc=>by
 rw [List.mem_singleton] at he;subst he;exact Pu_cellsR r c hc
theorem PuB_C (c:Cd):PuB ⟨68,3,[encC c]⟩:=fun e he c hc=>by
 rw [List.mem_singleton] at he;subst he
 simp only [encC,AV.cells,List.mem_cons,List.not_mem_nil,or_false] at hc
 rcases hc with rfl|rfl|rfl<;>first|exact .base _|exact Pu_mapS _
theorem PuB_N (l:List Int):PuB ⟨3,1,l.map .int⟩:=fun e he c hc=>by
 obtain ⟨x,_,rfl⟩:=List.mem_map.1 he
 simp [AV.cells] at hc;subst hc;exact .base _
def encRes (x:Int × Int × Int):AV:=.tup [.int x.1,.int x.2.1,.int x.2.2]
theorem Pu_res (x:Int × Int × Int):Pu (encRes x):=.tup fun c hc=>by
 simp only [List.mem_cons,List.not_mem_nil,or_false] at hc
 rcases hc with rfl|rfl|rfl<;>exact .base _
open Classical in
theorem check_bad (p:Tk) (h:¬okValid p):Fn Tryd.prog 57 [encT p] (encRes (0,0,230)):=by
 refine Fn.intro' [(0,encT p)] 1 80 Tryd.func57 (by kernel_rfl) rfl rfl rfl rfl rfl ?_
 refine goA ?_
 refine callA (valid_ok p false (by simp [h])) ?_
 refine goA ?_
 refine ifA (fun hc=>?_) (fun hc=>?_)
 ·refine goA ?_
  exact Ret.data rfl rfl (Pu_res _)
 ·simp at hc
open Classical in
theorem check_ok (p:Tk) (h:okValid p) (hin:∀n∈nums p,(0≤(codeOf p n).params∧(codeOf p n).params<8)∧(codeOf p n).steps.length≤20∧∀s∈(codeOf p n).steps,inR s):Fn Tryd.prog 57 [encT p] (encRes (numsF p (nums p))):=by
 refine Fn.intro' [(0,encT p)] 1 80 Tryd.func57 (by kernel_rfl) rfl rfl rfl rfl rfl ?_
 have hc8:=h.1.2.1
 have hm6:=h.1.2.2.1
 refine goA ?_
 refine callA (valid_ok p true (by simp [h])) ?_
 refine goA ?_
 refine ifA (fun hc=>?_) (fun hc=>?_)
 ·simp at hc
 refine goA ?_
 refine AWp.loop (J:=fun k:Nat=>k≤p.codes.length)
  (I:=fun k=>⟨[(23,.int k),(22,.int p.codes.length),(5,.own 1 k 0 k),(1,.ptr 0 1 0 0)],[⟨24,3,[encT p]⟩,⟨3,1,(numC k).map .int⟩]⟩) (μ:=fun k=>p.codes.length-k) 0 (Nat.zero_le _)
  (.nil (E2:=[(23,.int (0:Nat)),(22,.int p.codes.length),(5,.own 1 0 0 0),(1,.ptr 0 1 0 0)]) 3 1 (by simp [List.forall_mem_cons,lk,Le.refl])) ?_
 intro k hk
 refine goA ?_
 refine ifA (fun hd=>?_) (fun hd=>?_)
 ·simp at hd
  refine goA ?_
  refine bslA Tryd.underlying25 sz3 ?_
  refine goA ?_
  refine ARun.p1 rfl rfl (pl_append (b:=1) (tot:=k) (es:=[.int k]) (by simp +decide only [go_sem]<;>rfl) (by simp +decide only [go_sem]<;>rfl) (by simp +decide only [go_sem]<;>rfl) (by simp [numC_len]) Tryd.underlying25 el3 rfl rfl (by simp) (fun e he=>by rw [List.mem_singleton] at he;subst he;exact ⟨rfl,rfl⟩) (by simp;omega) (by simp;omega)) ?_
  refine goA ?_
  rw [wrap_succ (by omega)]
  refine ⟨k+1,by omega,by omega,.env2 (by rw [numC_succ,List.map_append];rfl) (by simp (decide:=true) only [go_sem]<;>simp [Le.refl])⟩
 simp at hd
 have hkl:k=p.codes.length:=by omega
 subst hkl
 clear hk hd
 refine goA ?_
 refine AWp.loop (J:=fun k:Nat=>k≤p.methods.length)
  (I:=fun k=>⟨[(34,.int k),(33,.int p.methods.length),(5,.own 1 (p.codes.length+k) 0 (p.codes.length+k)),(1,.ptr 0 1 0 0)],[⟨24,3,[encT p]⟩,⟨3,1,(numC p.codes.length++numM k).map .int⟩]⟩) (μ:=fun k=>p.methods.length-k) 0 (Nat.zero_le _)
  (.env2 (by simp [numM];rfl) (by simp (decide:=true) only [go_sem]<;>simp [Le.refl])) ?_
 intro k hk
 refine goA ?_
 refine ifA (fun hd=>?_) (fun hd=>?_)
 ·simp at hd
  refine goA ?_
  rw [wrap_id (x:=-1-(k:Int)) (by omega) (by omega)]
  refine bslA Tryd.underlying25 sz3 ?_
  refine goA ?_
  refine ARun.p1 rfl rfl (pl_append (b:=1) (tot:=p.codes.length+k) (es:=[.int (-1-(k:Int))]) (by simp +decide only [go_sem]<;>rfl) (by simp +decide only [go_sem]<;>rfl) (by simp +decide only [go_sem]<;>rfl) (by simp [numC_len,numM_len]) Tryd.underlying25 el3 rfl rfl (by simp) (fun e he=>by rw [List.mem_singleton] at he;subst he;exact ⟨rfl,rfl⟩) (by simp;omega) (by simp;omega)) ?_
  refine goA ?_
  rw [wrap_succ (by omega)]
  refine ⟨k+1,by omega,by omega,.env2 (by simp only [numM_succ,List.map_append,List.append_assoc,List.map_cons,List.map_nil];rfl) (by simp (decide:=true) only [go_sem]<;>simp [Le.refl,Nat.add_assoc])⟩
 simp at hd
 have hkl:k=p.methods.length:=by omega
 subst hkl
 clear hk hd
 have hnl:(nums p).length=p.codes.length+p.methods.length:=by simp [nums,numC_len,numM_len]
 rw [show numC p.codes.length++numM p.methods.length=nums p from rfl,← hnl]
 refine goA ?_
 have hlen:(nums p).length≤14:=by omega
 generalize hns:nums p=ns at hin hlen
 have hnum:∀n∈ns,numOk p n:=fun n h=>nums_ok (hns ▸ h)
 clear hns hnl
 refine AWp.loop (J:=fun k:Nat=>k≤ns.length∧numsF p ns=numsF p (ns.drop k))
  (I:=fun k=>⟨[(45,.int k),(44,.int ns.length),(43,.own 1 ns.length 0 ns.length),(1,.ptr 0 1 0 0)],[⟨24,3,[encT p]⟩,⟨3,1,ns.map .int⟩]⟩) (μ:=fun k=>ns.length-k) 0 ⟨Nat.zero_le _,rfl⟩ .wk ?_
 rintro k ⟨hk,hrest⟩
 refine goA ?_
 refine ifA (fun hd=>?_) (fun hd=>?_)
 ·simp at hd
  have hget:(ns.map AV.int)[k]?=some (.int ns[k]):=by rw [List.getElem?_map,List.getElem?_eq_getElem hd];rfl
  rw [List.drop_eq_getElem_cons hd] at hrest
  have hmem:=List.getElem_mem hd
  obtain ⟨hp8,hst,hinr⟩:=hin _ hmem
  have hnk:=hnum _ hmem
  generalize ns[k]=n at *
  refine goA ?_
  refine ARun.q1 rfl rfl (ql_indexAddr_own rfl rfl Tryd.underlying25 rfl (by simp) (by omega) (by omega) sz3) ?_
  repeat (first|(with_reducible first|apply zs|apply zN|apply z1|apply z2|apply z3|apply z4|apply z5|apply z6|refine z7 rfl ?_|apply zb|apply zk|apply zr|apply ze|apply y1|apply y2)|((with_reducible apply zR);(refine ⟨rfl,rfl,?_⟩;simp +decide only [go_sem,List.map];rfl))|((with_reducible apply zG);(simp +decide only [go_sem,hget];rfl);(simp +decide only [go_sem,hget];(repeat simp +decide only [go_sem,hget]);rfl))|(refine zp rfl rfl (pl_box (by simp +decide only [go_sem,hget];rfl) rfl) ?_)|(refine zp rfl rfl (pl_alloc (by simp only [go_sem];rfl) rfl) ?_)|(refine zp rfl rfl (pl_store (by simp +decide only [go_sem,hget];rfl) (by simp +decide only [go_sem,hget];rfl) (by simp +decide only [go_sem];rfl) (by rfl) (by rfl) (by kernel_rfl) (by rfl) (by rfl)) ?_)|fail)
  refine callA (coded_ok p n hnk) ?_
  generalize hC:codeOf p n=C at *
  generalize hB:decide (n<0)=B at *
  refine goA ?_
  refine callA (start_ok C B hp8) ?_
  refine goA ?_
  refine AWp.loop (J:=fun j:Nat=>j≤C.steps.length∧stepsF (startF C B) C.steps 0=stepsF (regAt (startF C B) (C.steps.take j)) (C.steps.drop j) j)
   (I:=fun j=>⟨[(62,.int j),(61,.int C.steps.length),(60,.lst (C.steps.map encS)),(9,.int n),(45,.int k),(44,.int ns.length),(43,.own 1 ns.length 0 ns.length),(1,.ptr 0 1 0 0),(13,.ptr 3 1 0 0)],[⟨24,3,[encT p]⟩,⟨3,1,ns.map .int⟩,⟨68,3,[encC C]⟩,⟨124,10,[encR (regAt (startF C B) (C.steps.take j))]⟩]⟩) (μ:=fun j=>C.steps.length-j) 0 ⟨Nat.zero_le _,rfl⟩ .wk ?_
  rintro j ⟨hj,hsr⟩
  refine goA ?_
  refine ifA (fun hf=>?_) (fun hf=>?_)
  ·simp at hf
   rw [List.drop_eq_getElem_cons hf] at hsr
   have hir:=hinr _ (List.getElem_mem hf)
   have htk:=List.take_succ_eq_append_getElem hf
   refine goA ?_
   refine ARun.q1 rfl rfl (ql_idx rfl rfl Tryd.underlying66 (by omega) (by omega) (by kernel_rfl)) ?_
   generalize hR:regAt (startF C B) (C.steps.take j)=R at *
   refine goA ?_
   refine callA (after_ok R C.steps[j] hir) ?_
   refine goA ?_
   refine ifA (fun he=>?_) (fun he=>?_)
   ·simp at he
    refine goA ?_
    have e2:codeF p n=some ((j:Int),afterE R C.steps[j]):=by
     simp only [codeF,hC,hB];rw [hsr];simp [stepsF,he]
    refine Ret.data rfl ?_ (Pu_res _)
    rw [hrest]
    simp only [numsF,e2]
    rfl
   ·simp at he
    refine goA ?_
    rw [wrap_succ (by omega)]
    refine ⟨j+1,⟨by omega,?_⟩,by omega,.trim' 4 (by rw [htk,regAt_app,hR];rfl) ?_ ?_⟩
    ·rw [hsr,htk,regAt_app,hR];simp [stepsF,he]
    ·simp (decide:=true) only [go_sem,WkP]
     exact ⟨.pu (.base _),.pu (.base _),.pu (Pu_mapS _),.pu (.base _),.pu (.base _),.pu (.base _),.own (by decide),.ptr (by decide),.ptr (by decide)⟩
    ·exact PuBs (by simp only [List.forall_mem_cons,List.forall_mem_nil,and_true];exact ⟨PuB_T p,PuB_N ns,PuB_C C,PuB_R _,fun _ h=>by cases h⟩)
  ·simp at hf
   have hjl:j=C.steps.length:=by omega
   have e2:codeF p n=none:=by
    simp only [codeF,hC,hB];rw [hsr,hjl,List.drop_length];rfl
   refine goA ?_
   rw [wrap_succ (by omega)]
   refine ⟨k+1,⟨by omega,by rw [hrest];simp only [numsF,e2]⟩,by omega,.trim' 2 rfl ?_ ?_⟩
   ·simp (decide:=true) only [go_sem,WkP]
    exact ⟨.pu (.base _),.pu (.base _),.own (by decide),.ptr (by decide)⟩
   ·exact PuBs (by simp only [List.forall_mem_cons,List.forall_mem_nil,and_true];exact ⟨PuB_T p,PuB_N ns,fun _ h=>by cases h⟩)
 ·simp at hd
  have hkl:k=ns.length:=by omega
  refine goA ?_
  exact Ret.data rfl (by rw [hrest,hkl,List.drop_length];rfl) (Pu_res _)
theorem hin_of {p:Tk} (h:okValid p):∀n∈nums p,(0≤(codeOf p n).params∧(codeOf p n).params<8)∧(codeOf p n).steps.length≤20∧∀s∈(codeOf p n).steps,inR s:=by
 obtain ⟨_,hc,hm⟩:=h
 have hp:∀c∈p.codes,c.params≤4:=fun c h=>by
  obtain ⟨i,hi,rfl⟩:=List.mem_iff_getElem.1 h
  have:=(hc i hi).1.2.1
  simp only [cod,nth_eq hi] at this;exact this
 have hq:∀c∈p.methods,c.params≤4:=fun c h=>by
  obtain ⟨i,hi,rfl⟩:=List.mem_iff_getElem.1 h
  have:=(hm i hi).1.2.1
  simp only [cod,nth_eq hi] at this;exact this
 have key:∀l:Lk,l.p=p→okCode l→(0≤l.c.params∧l.c.params<8)∧l.c.steps.length≤20∧∀s∈l.c.steps,inR s:=by
  rintro l rfl ⟨⟨e1,e2,e3,e4,e5⟩,e6⟩
  refine ⟨by omega,e5,fun s hs=>?_⟩
  obtain ⟨i,hi,rfl⟩:=List.mem_iff_getElem.1 hs
  have:=e6 i hi
  rw [show stp l.c.steps i=l.c.steps[i] from nth_eq hi] at this
  exact inR_of this e4 hp hq
 intro n hn
 rcases nums_ok hn with h|h
 ·have e:¬n<0:=by omega
  have:=key _ rfl (hc n.toNat (by omega))
  rw [Int.toNat_of_nonneg h.1] at this
  simpa [codeOf,e] using this
 ·have:=key _ rfl (hm (-1-n).toNat (by omega))
  rw [Int.toNat_of_nonneg (by omega)] at this
  simpa [codeOf,h.1] using this
theorem check_all (p:Tk) (h:okValid p):Fn Tryd.prog 57 [encT p] (encRes (numsF p (nums p))):=check_ok p h (hin_of h)
theorem accepted_ok (p:Tk) (h:okValid p):Fn Tryd.prog 36 [encT p] (.bool (decide ((numsF p (nums p)).2.2=0))):=by
 refine Fn.intro' [(0,encT p)] 1 14 Tryd.func36 (by kernel_rfl) rfl rfl rfl rfl rfl ?_
 refine goA ?_
 refine ARun.q1 rfl rfl (ql_callC (check_all p h) rfl (by simp +decide only [go_sem]<;>rfl) (by simp (decide:=true) only [go_sem,List.map]) (by simp)) ?_
 simp only [encRes]
 refine goA ?_
 exact Ret.bool rfl (by simp)
end Go.Ab.Rg
set_option maxHeartbeats 4000000
namespace Go.Ab.Rg
open Go Go.Ab Go.Proofs Go.Ab.Ty
def okFormed (s:Stp) (n:Int):Prop:=(1≤s.op∧s.op≤12)∧((¬u1 s.op→s.v=0)∧(¬u2 s.op→s.w=0)∧(¬u3 s.op→s.n=0)∧(¬u4 s.op→s.task=0)∧(¬u5 s.op→s.vars=[])) ∧
 ((u1 s.op→0≤s.v∧s.v<n)∧(u2 s.op→0≤s.w∧s.w<n∧s.v≠s.w))∧s.vars.length≤4∧okVars n s.vars
theorem formed_ok (s:Stp) (n:Int) (b:Bool) (hb:b=true↔okFormed s n):Fn Tryd.prog 98 [encS s,.int n] (.bool b):=by
 refine Fn.intro' [(0,encS s),(1,.int n)] 2 114 Tryd.func98 (by kernel_rfl) rfl rfl rfl rfl rfl ?_
 refine goA ?_
 refine ifA (fun hc=>?_) (fun hc=>?_)
 ·simp at hc
  refine goA ?_
  refine Ret.bool rfl ?_
  rw [hb]
  simp only [Bool.false_eq_true,false_iff]
  rintro ⟨h,-⟩
  omega
 simp at hc
 refine goA ?_
 refine callA (uses_ok s.op) ?_
 generalize ha1:decide (u1 s.op)=a1
 generalize ha2:decide (u2 s.op)=a2
 generalize ha3:decide (u3 s.op)=a3
 generalize ha4:decide (u4 s.op)=a4
 generalize ha5:decide (u5 s.op)=a5
 refine goA ?_
 have e1:u1 s.op↔a1=true:=by rw [← ha1];simp only [decide_eq_true_eq]
 have e2:u2 s.op↔a2=true:=by rw [← ha2];simp only [decide_eq_true_eq]
 have e3:u3 s.op↔a3=true:=by rw [← ha3];simp only [decide_eq_true_eq]
 have e4:u4 s.op↔a4=true:=by rw [← ha4];simp only [decide_eq_true_eq]
 have e5:u5 s.op↔a5=true:=by rw [← ha5];simp only [decide_eq_true_eq]
 unfold okFormed at hb
 simp only [e1,e2,e3,e4,e5,Bool.not_eq_true] at hb
 clear ha1 ha2 ha3 ha4 ha5 e1 e2 e3 e4 e5
 refine ifA (fun hd=>?_) (fun hd=>?_)
 ·simp at hd
  refine goA ?_
  refine Ret.bool rfl ?_
  rw [hb]
  simp only [Bool.false_eq_true,false_iff]
  rintro ⟨-,⟨f1,f2,f3,f4,f5⟩,-⟩
  rcases hd with (((⟨h,h'⟩|⟨h,h'⟩)|⟨h,h'⟩)|⟨h,h'⟩)|⟨h,h'⟩
  ·exact h' (f1 h)
  ·exact h' (f2 h)
  ·exact h' (f3 h)
  ·exact h' (f4 h)
  ·rw [f5 h] at h';simp at h'
 have hd1:(a1=false→s.v=0)∧(a2=false→s.w=0)∧(a3=false→s.n=0)∧(a4=false→s.task=0)∧(a5=false→s.vars=[]):=by
  simp at hd
  obtain ⟨⟨⟨⟨f1,f2⟩,f3⟩,f4⟩,f5⟩:=hd
  exact ⟨f1,f2,f3,f4,f5⟩
 clear hd
 refine goA ?_
 refine ifA (fun hd=>?_) (fun hd=>?_)
 ·simp at hd
  refine goA ?_
  refine Ret.bool rfl ?_
  rw [hb]
  simp only [Bool.false_eq_true,false_iff]
  rintro ⟨-,-,⟨f1,f2⟩,-⟩
  rcases hd with ⟨h,h'⟩|⟨h,h'⟩
  ·have:=f1 h;omega
  ·have:=f2 h;omega
 have hd2:(a1=true→0≤s.v∧s.v<n)∧(a2=true→0≤s.w∧s.w<n∧s.v≠s.w):=by
  simp at hd
  exact ⟨fun h=>by have:=hd.1 h;omega,fun h=>by have:=hd.2 h;omega⟩
 clear hd
 refine goA ?_
 refine gcallA (i:=fun hg=>apart_ok s.vars n) (hr:=?_)
 refine goA ?_
 refine Ret.bool rfl ?_
 rw [hb]
 constructor
 ·intro h
  simp at h
  exact ⟨hc,hd1,hd2,by omega,h.2⟩
 ·rintro ⟨-,-,-,h,h'⟩
  simp [h'];omega
end Go.Ab.Rg
set_option maxHeartbeats 4000000
namespace Go.Ab.Rg
open Go Go.Ab Go.Proofs Go.Ab.Ty
def okFits (p:Tk) (c:Cd) (i own:Int) (method:Bool) (s:Stp):Prop:=okFormed s c.vars ∧
 ((s.op=1∨s.op=5)→-1000≤s.n∧s.n≤1000) ∧
 (s.op=6→(0≤s.n∧s.n≤3∧1≤s.task∧s.task<p.codes.length)∧(method=false→own<s.task)∧s.vars.length=(cod p.codes s.task).params) ∧
 ((s.op=7∨s.op=10)→method=false∧(0≤s.n∧s.n<i)∧(stp c.steps s.n).op=6∧(s.op=7→∀k:Nat,(k:Int)<i→¬((stp c.steps k).op=7∧(stp c.steps k).n=s.n))) ∧
 (s.op=8→method=false∧0≤s.n∧s.n<p.actors∧(1:Int)≤s.vars.length) ∧
 (s.op=9→(0≤s.n∧s.n<p.actors∧0≤s.task∧s.task<p.methods.length)∧(method=true→s.task<own)∧s.vars.length=(cod p.methods s.task).params)
open Classical in
theorem fits_ok (p:Tk) (c:Cd) (i own:Int) (method:Bool) (h0:0≤i) (h1:i<c.steps.length) (b:Bool) (hb:b=true↔okFits p c i own method (stp c.steps i)) :
 Fn Tryd.prog 73 [encT p,encC c,.int i,.int own,.bool method] (.bool b):=by
 refine Fn.intro' [(0,encT p),(1,encC c),(2,.int i),(3,.int own),(4,.bool method)] 5 200 Tryd.func73 (by kernel_rfl) rfl rfl rfl rfl rfl ?_
 refine AWp.learnV 1 rfl (fun _ _ _ _ _ h=>VR.bdC h) fun hbd=>?_
 have hbl:=hbd.1
 refine goA ?_
 refine ARun.q1 rfl rfl (ql_idxD (l:=c.steps) (f:=encS) stp0 rfl rfl Tryd.underlying66 h0 h1 (by kernel_rfl)) ?_
 generalize hs:nth stp0 c.steps i=s
 rw [stp,hs] at hb
 refine goA ?_
 let S:=fun (t:Nat) (b:Bool)=>(⟨[(t,.bool b),(2,.int i),(3,.int own),(4,.bool method),(5,.ptr 0 1 0 0),(6,.ptr 1 1 0 0),(11,.ptr 2 1 0 0),(24,.int s.op)],[⟨24,3,[encT p]⟩,⟨68,3,[encC c]⟩,⟨70,6,[encS s]⟩]⟩:ASt)
 refine callA (formed_ok s c.vars (decide (okFormed s c.vars)) (by simp)) ?_
 refine goA ?_
 refine ifA (fun hf=>?_) (fun hf=>?_)
 ·simp at hf
  refine goA ?_
  exact Ret.bool rfl (by rw [hb];simp [okFits,hf])
 simp at hf
 refine goA ?_
 refine AWp.join (S 25 (decide (s.op=1∨s.op=5))) ?_ ?_
 ·refine ifA (fun ho=>?_) (fun ho=>?_)
  ·refine goA ?_
   exact .env' (by simp (decide:=true) only [go_sem];simp at ho;simp [ho,Le.refl])
  ·refine goA ?_
   exact .env' (by simp (decide:=true) only [go_sem];simp at ho;simp [ho,Le.refl])
 simp only [S]
 refine ifA (fun hx=>?_) (fun hx=>?_)
 ·simp at hx
  refine goA ?_
  exact Ret.bool rfl (by rw [hb];rcases hx with h|h<;>simp [okFits,hf,h])
 simp at hx
 refine goA ?_
 refine ifA (fun h6=>?_) (fun h6=>?_)
 ·simp at h6
  refine goA ?_
  refine ifA (fun hc=>?_) (fun hc=>?_)
  ·refine goA ?_
   refine Ret.bool rfl ?_
   rw [hb]
   simp [okFits,hf,h6]
   simp at hc
   intro e1 e2 e3 e4 e5
   rcases hc with ((((h|h)|h)|h)|⟨h,h'⟩)<;>first|omega|(have:=e5 h;omega)
  simp at hc
  refine goA ?_
  refine drA (k:=11) follows (hr:=?_)
  refine goA ?_
  refine ARun.q1 rfl rfl (ql_idxD (l:=p.codes) (f:=encC) cd0 rfl rfl Tryd.underlying22 (by omega) (by omega) (by kernel_rfl)) ?_
  refine goA ?_
  refine Ret.bool rfl ?_
  rw [hb]
  simp [okFits,hf,h6]
  exact ⟨fun h=>⟨by omega,hc.2,h⟩,fun h=>h.2.2⟩
 simp at h6
 refine goA ?_
 refine AWp.join (S 80 (decide (s.op=7∨s.op=10))) ?_ ?_
 ·refine ifA (fun ho=>?_) (fun ho=>?_)
  ·refine goA ?_
   exact .env' (by simp (decide:=true) only [go_sem];simp at ho;simp [ho,Le.refl])
  ·refine goA ?_
   exact .env' (by simp (decide:=true) only [go_sem];simp at ho;simp [ho,Le.refl])
 simp only [S]
 refine ifA (fun h7=>?_) (fun h7=>?_)
 ·simp at h7
  refine goA ?_
  refine gqA (h:=fun hg=>ql_idxD (l:=c.steps) (f:=encS) stp0 (by simp +decide only [go_sem]<;>rfl) (by simp +decide only [go_sem]<;>rfl) Tryd.underlying66 (by simp [gc,allL] at hg;omega) (by simp [gc,allL] at hg;omega) (by kernel_rfl)) (hr:=?_)
  refine goA ?_
  refine ifA (fun hc=>?_) (fun hc=>?_)
  ·refine goA ?_
   refine Ret.bool rfl ?_
   rw [hb]
   simp at hc
   simp only [Bool.false_eq_true,false_iff]
   rintro ⟨-,-,-,g,-⟩
   obtain ⟨g1,g2,g3,-⟩:=g h7
   rcases hc with ((h|h)|h)|h
   ·rw [g1] at h;cases h
   ·omega
   ·omega
   ·exact h g3
  simp at hc
  refine goA ?_
  refine AWp.loop (J:=fun k:Nat=>(k:Int)≤i∧∀j:Nat,j<k→¬(s.op=7∧(stp c.steps j).op=7∧(stp c.steps j).n=s.n))
   (I:=fun k=>⟨[(12,.int k),(2,.int i),(6,.ptr 1 1 0 0),(11,.ptr 2 1 0 0)],[⟨24,3,[encT p]⟩,⟨68,3,[encC c]⟩,⟨70,6,[encS s]⟩]⟩) (μ:=fun k=>i.toNat-k) 0 ⟨by omega,by omega⟩ .wk ?_
  rintro k ⟨hk,hno⟩
  refine goA ?_
  refine ifA (fun hd=>?_) (fun hd=>?_)
  ·simp at hd
   refine goA ?_
   refine drA (k:=23) follows (hr:=?_)
   refine goA ?_
   refine gqA (h:=fun hg=>ql_idxD (l:=c.steps) (f:=encS) stp0 (by simp +decide only [go_sem]<;>rfl) (by simp +decide only [go_sem]<;>rfl) Tryd.underlying66 (by omega) (by omega) (by kernel_rfl)) (hr:=?_)
   refine goA ?_
   refine gqA (h:=fun hg=>ql_idxD (l:=c.steps) (f:=encS) stp0 (by simp +decide only [go_sem]<;>rfl) (by simp +decide only [go_sem]<;>rfl) Tryd.underlying66 (by omega) (by omega) (by kernel_rfl)) (hr:=?_)
   refine goA ?_
   refine ifA (fun he=>?_) (fun he=>?_)
   ·simp at he
    refine goA ?_
    refine Ret.bool rfl ?_
    rw [hb]
    simp only [Bool.false_eq_true,false_iff]
    rintro ⟨-,-,-,g,-⟩
    exact (g h7).2.2.2 he.1.1 k (by omega) ⟨he.1.2,he.2⟩
   ·simp at he
    refine goA ?_
    rw [wrap_succ (by omega)]
    refine ⟨k+1,⟨by omega,fun j h=>?_⟩,by omega,.wk⟩
    by_cases e:j=k
    ·subst e;rintro ⟨g1,g2,g3⟩;exact he g1 g2 g3
    ·exact hno j (by omega)
  ·simp at hd
   refine goA ?_
   refine Ret.bool rfl ?_
   rw [hb]
   simp only [true_iff]
   refine ⟨hf,fun h=>by omega,fun h=>by omega,fun _=>⟨hc.1.1.1,⟨hc.1.1.2,hc.1.2⟩,hc.2,fun e j hj g=>hno j (by omega) ⟨e,g.1,g.2⟩⟩,fun h=>by omega,fun h=>by omega⟩
 simp at h7
 refine goA ?_
 refine ifA (fun h8=>?_) (fun h8=>?_)
 ·simp at h8
  refine goA ?_
  refine Ret.bool rfl ?_
  rw [hb]
  simp [okFits,hf,h8,and_assoc]
 simp at h8
 refine goA ?_
 refine ifA (fun h9=>?_) (fun h9=>?_)
 ·simp at h9
  refine goA ?_
  refine ifA (fun hc=>?_) (fun hc=>?_)
  ·refine goA ?_
   refine Ret.bool rfl ?_
   rw [hb]
   simp [okFits,hf,h9]
   simp at hc
   intro e1 e2 e3 e4 e5
   rcases hc with ((((h|h)|h)|h)|⟨h,h'⟩)<;>first|omega|(have:=e5 h;omega)
  simp at hc
  refine goA ?_
  refine drA (k:=11) follows (hr:=?_)
  refine goA ?_
  refine ARun.q1 rfl rfl (ql_idxD (l:=p.methods) (f:=encC) cd0 rfl rfl Tryd.underlying22 (by omega) (by omega) (by kernel_rfl)) ?_
  refine goA ?_
  refine Ret.bool rfl ?_
  rw [hb]
  simp [okFits,hf,h9]
  exact ⟨fun h=>⟨by omega,hc.2,h⟩,fun h=>h.2.2⟩
 simp at h9
 refine goA ?_
 exact Ret.bool rfl (by rw [hb];simp [okFits,hf,hx,h6,h7,h8,h9])
end Go.Ab.Rg
set_option maxHeartbeats 4000000
namespace Go.Ab.Rg
open Go Go.Ab Go.Proofs Go.Ab.Ty
def okWhole (p:Tk) (c:Cd) (own:Int) (method:Bool):Prop:=(0≤c.params∧c.params≤4∧(if method then c.params+1 else c.params)≤c.vars∧c.vars≤8∧c.steps.length≤20) ∧
 ∀i:Nat,i<c.steps.length→okFits p c i own method (stp c.steps i)
open Classical in
theorem whole_ok (p:Tk) (c:Cd) (own:Int) (method:Bool) (b:Bool) (hb:b=true↔okWhole p c own method):Fn Tryd.prog 55 [encT p,encC c,.int own,.bool method] (.bool b):=by
 refine Fn.intro' [(0,encT p),(1,encC c),(2,.int own),(3,.bool method)] 4 55 Tryd.func55 (by kernel_rfl) rfl rfl rfl rfl rfl ?_
 refine goA ?_
 refine AWp.join ⟨[(9,.int (if method then IntKind.i64.wrap (c.params+1) else c.params)),(2,.int own),(3,.bool method),(4,.ptr 0 1 0 0),(5,.ptr 1 1 0 0)],[⟨24,3,[encT p]⟩,⟨68,3,[encC c]⟩]⟩ ?_ ?_
 ·refine ifA (fun hm=>?_) (fun hm=>?_)
  ·refine goA ?_
   exact .env' (by simp (decide:=true) only [go_sem,hm,if_true]<;>simp [Le.refl])
  ·refine goA ?_
   exact .env' (by simp (decide:=true) only [go_sem,hm]<;>simp [Le.refl])
 refine goA ?_
 refine ifA (fun hc=>?_) (fun hc=>?_)
 ·simp at hc
  refine goA ?_
  refine Ret.bool rfl ?_
  rw [hb]
  simp only [Bool.false_eq_true,false_iff]
  rintro ⟨⟨e1,e2,e3,e4,e5⟩,-⟩
  rw [wrap_id (by omega) (by omega)] at hc
  omega
 simp at hc
 have hp:0≤c.params∧c.params≤4:=by omega
 rw [wrap_id (by omega) (by omega)] at hc
 refine goA ?_
 refine AWp.loop (J:=fun k:Nat=>k≤c.steps.length∧∀i:Nat,i<k→okFits p c i own method (stp c.steps i))
  (I:=fun k=>⟨[(10,.int k),(2,.int own),(3,.bool method),(4,.ptr 0 1 0 0),(5,.ptr 1 1 0 0)],[⟨24,3,[encT p]⟩,⟨68,3,[encC c]⟩]⟩) (μ:=fun k=>c.steps.length-k) 0 ⟨Nat.zero_le _,by omega⟩ .wk ?_
 rintro k ⟨hk,hno⟩
 refine goA ?_
 refine ifA (fun hd=>?_) (fun hd=>?_)
 ·simp at hd
  refine goA ?_
  refine callA (fits_ok p c k own method (by omega) (by omega) (decide (okFits p c k own method (stp c.steps k))) (by simp)) ?_
  refine goA ?_
  refine ifA (fun he=>?_) (fun he=>?_)
  ·simp at he
   refine goA ?_
   refine Ret.bool rfl ?_
   rw [hb]
   simp only [Bool.false_eq_true,false_iff]
   exact fun h=>he (h.2 k hd)
  ·simp at he
   refine goA ?_
   rw [wrap_succ (by omega)]
   refine ⟨k+1,⟨by omega,fun i h=>?_⟩,by omega,.wk⟩
   by_cases e:i=k
   ·subst e;exact he
   ·exact hno i (by omega)
 ·simp at hd
  refine goA ?_
  refine Ret.bool rfl ?_
  rw [hb]
  simp only [true_iff]
  exact ⟨by omega,fun i hi=>hno i (by omega)⟩
def okRef (p:Tk):Prop:=(1≤p.codes.length∧p.codes.length≤8∧p.methods.length≤6∧0≤p.actors∧p.actors≤4) ∧
 (∀i:Nat,i<p.codes.length→okWhole p (cod p.codes i) i false)∧∀i:Nat,i<p.methods.length→okWhole p (cod p.methods i) i true
open Classical in
theorem refValid_ok (p:Tk) (b:Bool) (hb:b=true↔okRef p):Fn Tryd.prog 28 [encT p] (.bool b):=by
 refine Fn.intro' [(0,encT p)] 1 63 Tryd.func28 (by kernel_rfl) rfl rfl rfl rfl rfl ?_
 refine goA ?_
 refine ifA (fun hc=>?_) (fun hc=>?_)
 ·simp at hc
  refine goA ?_
  refine Ret.bool rfl ?_
  rw [hb]
  simp only [Bool.false_eq_true,false_iff]
  rintro ⟨⟨e1,e2,e3,e4,e5⟩,-⟩
  omega
 simp at hc
 refine goA ?_
 refine AWp.loop (J:=fun k:Nat=>k≤p.codes.length∧∀i:Nat,i<k→okWhole p (cod p.codes i) i false)
  (I:=fun k=>⟨[(3,.int k),(1,.ptr 0 1 0 0)],[⟨24,3,[encT p]⟩]⟩) (μ:=fun k=>p.codes.length-k) 0 ⟨Nat.zero_le _,by omega⟩ .wk ?_
 rintro k ⟨hk,hno⟩
 refine goA ?_
 refine ifA (fun hd=>?_) (fun hd=>?_)
 ·simp at hd
  refine goA ?_
  refine drA (k:=9) follows (hr:=?_)
  refine goA ?_
  refine ARun.q1 rfl rfl (ql_idxD (l:=p.codes) (f:=encC) cd0 rfl rfl Tryd.underlying22 (by omega) (by omega) (by kernel_rfl)) ?_
  refine goA ?_
  refine callA (whole_ok p (cod p.codes k) k false (decide (okWhole p (cod p.codes k) k false)) (by simp)) ?_
  refine goA ?_
  refine ifA (fun he=>?_) (fun he=>?_)
  ·simp at he
   refine goA ?_
   refine Ret.bool rfl ?_
   rw [hb]
   simp only [Bool.false_eq_true,false_iff]
   exact fun h=>he (h.2.1 k hd)
  ·simp at he
   refine goA ?_
   rw [wrap_succ (by omega)]
   refine ⟨k+1,⟨by omega,fun i h=>?_⟩,by omega,.wk⟩
   by_cases e:i=k
   ·subst e;exact he
   ·exact hno i (by omega)
 simp at hd
 refine goA ?_
 refine AWp.loop (J:=fun k:Nat=>k≤p.methods.length∧∀i:Nat,i<k→okWhole p (cod p.methods i) i true)
  (I:=fun k=>⟨[(4,.int k),(1,.ptr 0 1 0 0)],[⟨24,3,[encT p]⟩]⟩) (μ:=fun k=>p.methods.length-k) 0 ⟨Nat.zero_le _,by omega⟩ .wk ?_
 rintro k2 ⟨hk2,hno2⟩
 refine goA ?_
 refine ifA (fun hd2=>?_) (fun hd2=>?_)
 ·simp at hd2
  refine goA ?_
  refine drA (k:=9) follows (hr:=?_)
  refine goA ?_
  refine ARun.q1 rfl rfl (ql_idxD (l:=p.methods) (f:=encC) cd0 rfl rfl Tryd.underlying22 (by omega) (by omega) (by kernel_rfl)) ?_
  refine goA ?_
  refine callA (whole_ok p (cod p.methods k2) k2 true (decide (okWhole p (cod p.methods k2) k2 true)) (by simp)) ?_
  refine goA ?_
  refine ifA (fun he=>?_) (fun he=>?_)
  ·simp at he
   refine goA ?_
   refine Ret.bool rfl ?_
   rw [hb]
   simp only [Bool.false_eq_true,false_iff]
   exact fun h=>he (h.2.2 k2 hd2)
  ·simp at he
   refine goA ?_
   rw [wrap_succ (by omega)]
   refine ⟨k2+1,⟨by omega,fun i h=>?_⟩,by omega,.wk⟩
   by_cases e:i=k2
   ·subst e;exact he
   ·exact hno2 i (by omega)
 ·simp at hd2
  refine goA ?_
  refine Ret.bool rfl ?_
  rw [hb]
  simp only [true_iff]
  exact ⟨by omega,fun i hi=>hno i (by omega),fun i hi=>hno2 i (by omega)⟩
end Go.Ab.Rg
