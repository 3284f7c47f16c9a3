/- Part of the proof. -/
import Derived.Test.YthgicbkdckpeaaaDoorG35
import Derived.Test.YthgicbkdckpeaaaDoorG14
set_option linter.unusedSimpArgs false
set_option linter.unusedVariables false
set_option maxHeartbeats 4000000
namespace Go.Ab.Rg
open Go Go.Ab Go.Proofs Go.Ab.Ty
def joinO (r:Rg) (v w:Int):Int:=if r.of v=r.actor then r.of w else r.of v
def joinN (r:Rg) (v w:Int):Int:=if r.of v=r.actor then r.of v else r.of w
def repl (f:Int→Int) (o n:Int) (k:Int):Int→Int:=fun i=>if i<k∧f i=o then n else f i
def joinF (r:Rg) (v w:Int):Rg:=⟨repl r.of (joinO r v w) (joinN r v w) 8,r.count,r.actor⟩
theorem repl_0 (f:Int→Int) (o n:Int) (i:Int) (h:0≤i):repl f o n 0 i=f i:=by
 unfold repl;rw [if_neg (by omega)]
theorem repl_hit {f:Int→Int} {o n k:Int} (h:f k=o):updI (repl f o n k) k n=repl f o n (k+1):=by
 funext i
 unfold updI repl
 by_cases e:i=k
 ·subst e;rw [if_pos rfl,if_pos ⟨by omega,h⟩]
 ·rw [if_neg e]
  by_cases e2:i<k
  ·simp [e2,show i<k+1 by omega]
  ·simp [e2,show ¬i<k+1 by omega]
theorem repl_miss {f:Int→Int} {o n k:Int} (h:f k≠o):repl f o n k=repl f o n (k+1):=by
 funext i
 unfold repl
 by_cases e:i=k
 ·subst e;simp [h]
 ·by_cases e2:i<k
  ·simp [e2,show i<k+1 by omega]
  ·simp [e2,show ¬i<k+1 by omega]
theorem join_ok (r:Rg) (v w:Int) (hv:0≤v∧v<8) (hw:0≤w∧w<8):Fn Tryd.prog 103 [encR r,.int v,.int w] (encR (joinF r v w)):=by
 refine Fn.intro' [(0,encR r),(1,.int v),(2,.int w)] 3 40 Tryd.func103 (by kernel_rfl) rfl rfl rfl rfl rfl ?_
 have gv:=getR (f:=r.of) (a:=.int r.count) (b:=.int r.actor) hv.1 hv.2
 have gw:=getR (f:=r.of) (a:=.int r.count) (b:=.int r.actor) hw.1 hw.2
 refine goA ?_
 refine drA (k:=10) follows (hr:=?_)
 refine goA ?_
 refine ARun.q1 rfl rfl (ql_indexAddr_ptr rfl rfl rfl Tryd.underlying122 hv.1 hv.2 sz3) ?_
 repeat (first|(with_reducible first|apply zs|apply zN|apply z1|apply z2|apply z3|apply z4|apply z5|apply z6|refine z7 rfl ?_|apply zb|apply zk|apply zr|apply ze|apply y1|apply y2)|((with_reducible apply zR);(refine ⟨rfl,rfl,?_⟩;simp +decide only [go_sem,List.map];rfl))|((with_reducible apply zG);(simp +decide only [go_sem,gv,Nat.mul_one];rfl);(simp +decide only [go_sem,gv,Nat.mul_one];(repeat simp +decide only [go_sem,gv,Nat.mul_one]);rfl))|(refine zp rfl rfl (pl_box (by simp +decide only [go_sem,gv,Nat.mul_one];rfl) rfl) ?_)|(refine zp rfl rfl (pl_alloc (by simp only [go_sem];rfl) rfl) ?_)|(refine zp rfl rfl (pl_store (by simp +decide only [go_sem,gv,Nat.mul_one];rfl) (by simp +decide only [go_sem,gv,Nat.mul_one];rfl) (by simp +decide only [go_sem];rfl) (by rfl) (by rfl) (by kernel_rfl) (by rfl) (by rfl)) ?_)|fail)
 refine ARun.q1 rfl rfl (ql_indexAddr_ptr rfl rfl rfl Tryd.underlying122 hw.1 hw.2 sz3) ?_
 repeat (first|(with_reducible first|apply zs|apply zN|apply z1|apply z2|apply z3|apply z4|apply z5|apply z6|refine z7 rfl ?_|apply zb|apply zk|apply zr|apply ze|apply y1|apply y2)|((with_reducible apply zR);(refine ⟨rfl,rfl,?_⟩;simp +decide only [go_sem,List.map];rfl))|((with_reducible apply zG);(simp +decide only [go_sem,gw,Nat.mul_one];rfl);(simp +decide only [go_sem,gw,Nat.mul_one];(repeat simp +decide only [go_sem,gw,Nat.mul_one]);rfl))|(refine zp rfl rfl (pl_box (by simp +decide only [go_sem,gw,Nat.mul_one];rfl) rfl) ?_)|(refine zp rfl rfl (pl_alloc (by simp only [go_sem];rfl) rfl) ?_)|(refine zp rfl rfl (pl_store (by simp +decide only [go_sem,gw,Nat.mul_one];rfl) (by simp +decide only [go_sem,gw,Nat.mul_one];rfl) (by simp +decide only [go_sem];rfl) (by rfl) (by rfl) (by kernel_rfl) (by rfl) (by rfl)) ?_)|fail)
 refine AWp.join ⟨[(7,.int (joinO r v w)),(8,.int (joinN r v w)),(3,.ptr 0 1 0 0),(6,.ptr 1 1 0 0)],[⟨124,10,[encR r]⟩,⟨124,10,[encR ⟨fun _=>0,0,0⟩]⟩]⟩ ?_ ?_
 ·refine ifA (fun ho=>?_) (fun ho=>?_)
  ·simp at ho
   refine goA ?_
   exact .env' (by simp (decide:=true) only [go_sem]<;>simp [Le.refl,joinO,joinN,ho])
  ·simp at ho
   refine goA ?_
   exact .env' (by simp (decide:=true) only [go_sem]<;>simp [Le.refl,joinO,joinN,ho])
 generalize hoo:joinO r v w=o
 generalize hnn:joinN r v w=n
 refine goA ?_
 refine AWp.loop (J:=fun k:Nat=>k≤8)
  (I:=fun k=>⟨[(27,.int k),(26,.agg [.int (r.of 0),.int (r.of 1),.int (r.of 2),.int (r.of 3),.int (r.of 4),.int (r.of 5),.int (r.of 6),.int (r.of 7)]),(7,.int o),(8,.int n),(3,.ptr 0 1 0 0),(6,.ptr 1 1 0 0)],[⟨124,10,[encR ⟨repl r.of o n k,r.count,r.actor⟩]⟩,⟨124,10,[encR ⟨fun _=>0,0,0⟩]⟩]⟩) (μ:=fun k=>8-k) 0 (Nat.zero_le _) (.env2 (by simp [encR,repl_0]) (by simp (decide:=true) only [go_sem]<;>simp [Le.refl])) ?_
 intro k hk
 refine goA ?_
 refine ifA (fun hd=>?_) (fun hd=>?_)
 ·simp at hd
  refine goA ?_
  have g8:=getR8 (f:=r.of) (n:=k) (by omega) (by omega)
  rw [Int.toNat_natCast] at g8
  refine ARun.q1 rfl rfl (ql_index_arr (sz:=1) rfl rfl Tryd.underlying122 (by omega) (by omega) sz3 (by simp only [go_sem,g8]<;>rfl)) ?_
  refine goA ?_
  refine ifA (fun he=>?_) (fun he=>?_)
  ·simp at he
   refine goA ?_
   refine ARun.q1 rfl rfl (ql_indexAddr_ptr rfl rfl rfl Tryd.underlying122 (by omega) (by omega) sz3) ?_
   refine ARun.p1 rfl rfl (pl_storeR (f:=repl r.of o n k) (n:=k) (by simp +decide only [go_sem]<;>rfl) (by simp +decide only [go_sem]<;>rfl) (by simp +decide only [go_sem]<;>rfl) (by omega) (by omega) sz3) ?_
   refine goA ?_
   rw [wrap_succ (by omega)]
   refine ⟨k+1,by omega,by omega,.env2 (by simp only [repl_hit he];rfl) (by simp (decide:=true) only [go_sem]<;>simp [Le.refl])⟩
  ·simp at he
   refine goA ?_
   rw [wrap_succ (by omega)]
   refine ⟨k+1,by omega,by omega,.env2 (by simp only [repl_miss he];rfl) (by simp (decide:=true) only [go_sem]<;>simp [Le.refl])⟩
 ·simp at hd
  have:k=8:=by omega
  subst this
  refine goA ?_
  exact Ret.data (by show resVals _ _ [.cell 6 124]=_;simp +decide only [resVals,resVal,ldPtr,ldE,go_sem, *]<;>rfl) (by subst hoo;subst hnn;rfl) (Pu_encR _)
end Go.Ab.Rg
set_option maxHeartbeats 4000000
namespace Go.Ab.Rg
open Go Go.Ab Go.Proofs Go.Ab.Ty
theorem Lend.ownI {H:List ABlk} {b k ty sz:Nat} {l:List Int} (h:H[b]?=some ⟨ty,sz,l.map .int⟩) (hk:l.length=k):Lend H (.own b k 0 k) (.lst (l.map .int)):=
 .own h (by simpa using hk) (by omega) (by simpa using hk) fun i e d hi he hd=>by
  simp only [Nat.zero_add] at he
  rw [he] at hd;injection hd with hd;subst hd
  refine ⟨rfl,fun j c c' hc hc'=>?_⟩
  rw [hc] at hc';injection hc' with hc';subst hc'
  rw [List.getElem?_map,Option.map_eq_some_iff] at he
  obtain ⟨x,_,rfl⟩:=he
  have:c=.int x:=by
   simp only [AV.cells] at hc
   cases j with
   | zero=>simpa using hc.symm
   | succ j=>simp at hc
  subst this
  exact .pu (.base _)
def dupl (r:Rg) (vs:List Int):Prop:=∃i j,∃(hi:i<vs.length) (hj:j<i),r.of vs[i]=r.of (vs[j]'(by omega))
def goneF (f:Int→Int) (g:List Int) (k:Int):Int→Int:=fun i=>if i<k∧f i∈g then -1 else f i
theorem goneF_0 (f:Int→Int) (g:List Int) (i:Int) (h:0≤i):goneF f g 0 i=f i:=by
 unfold goneF;rw [if_neg (by omega)]
theorem goneF_hit {f:Int→Int} {g:List Int} {k:Int} (h:f k∈g):updI (goneF f g k) k (-1)=goneF f g (k+1):=by
 funext i
 unfold updI goneF
 by_cases e:i=k
 ·subst e;rw [if_pos rfl,if_pos ⟨by omega,h⟩]
 ·rw [if_neg e]
  by_cases e2:i<k
  ·simp [e2,show i<k+1 by omega]
  ·simp [e2,show ¬i<k+1 by omega]
theorem goneF_miss {f:Int→Int} {g:List Int} {k:Int} (h:f k∉g):goneF f g k=goneF f g (k+1):=by
 funext i
 unfold goneF
 by_cases e:i=k
 ·subst e;simp [h]
 ·by_cases e2:i<k
  ·simp [e2,show i<k+1 by omega]
  ·simp [e2,show ¬i<k+1 by omega]
open Classical in
noncomputable def sendE (r:Rg) (vs:List Int) (diff:Bool):Int:=
 if mustF r vs≠0 then mustF r vs else if diff=true∧dupl r vs then 220 else if r.actor∈vs.map r.of then 220 else 0
open Classical in
noncomputable def sendR (r:Rg) (vs:List Int) (diff:Bool):Rg:=
 if sendE r vs diff=0 then ⟨goneF r.of (vs.map r.of) 8,r.count,r.actor⟩ else r
theorem Pu_tupR (r:Rg) (x:Int):Pu (.tup [encR r,.int x]):=.tup fun c hc=>by
 simp only [List.mem_cons,List.not_mem_nil,or_false] at hc
 rcases hc with rfl|rfl
 ·exact Pu_encR r
 ·exact .base _
theorem send_ok (r:Rg) (vs:List Int) (diff:Bool) (hl:∀v∈vs,0≤v∧v<8) (hs:vs.length≤1000):Fn Tryd.prog 104 [encR r,.lst (vs.map .int),.bool diff] (.tup [encR (sendR r vs diff),.int (sendE r vs diff)]):=by
 refine Fn.intro' [(0,encR r),(1,.lst (vs.map .int)),(2,.bool diff)] 3 91 Tryd.func104 (by kernel_rfl) rfl rfl rfl rfl rfl ?_
 refine goA ?_
 refine callA (must_ok r vs hl) ?_
 refine goA ?_
 refine ifA (fun hm=>?_) (fun hm=>?_)
 ·simp at hm
  refine goA ?_
  have e1:sendE r vs diff=mustF r vs:=by simp [sendE,hm]
  have e2:sendR r vs diff=r:=by simp [sendR,e1,hm]
  exact Ret.data (by show resVals _ _ [.cell 6 124,.tmp 7]=_;simp +decide only [resVals,resVal,ldPtr,ldE,go_sem, *]<;>rfl) (by rw [e1,e2];rfl) (Pu_tupR _ _)
 simp at hm
 refine goA ?_
 refine AWp.loop (J:=fun k:Nat=>k≤vs.length∧(diff=true→∀i j (hi:i<vs.length) (hj:j<i),i<k→r.of vs[i]≠r.of (vs[j]'(by omega))))
  (I:=fun k=>⟨[(27,.int k),(26,.int vs.length),(25,.lst (vs.map .int)),(1,.lst (vs.map .int)),(2,.bool diff),(3,.ptr 0 1 0 0),(6,.ptr 1 1 0 0)],[⟨124,10,[encR r]⟩,⟨124,10,[encR ⟨fun _=>0,0,0⟩]⟩]⟩) (μ:=fun k=>vs.length-k) 0 ⟨Nat.zero_le _,fun _ i j _ _ h=>by omega⟩ .wk ?_
 rintro k ⟨hk,hno⟩
 refine goA ?_
 refine ifA (fun hd=>?_) (fun hd=>?_)
 ·simp at hd
  have hvk:=hl vs[k] (List.getElem_mem hd)
  have gk:=getR (f:=r.of) (a:=.int r.count) (b:=.int r.actor) hvk.1 hvk.2
  refine goA ?_
  refine ARun.q1 rfl rfl (ql_idx rfl rfl Tryd.underlying25 (by omega) (by omega) (by kernel_rfl)) ?_
  refine goA ?_
  refine ARun.q1 rfl rfl (ql_slice_pre (l:=vs) (f:=.int) rfl rfl Tryd.underlying25 (by omega) (by omega) sz3 (fun _=>rfl)) ?_
  refine goA ?_
  refine AWp.loop (J:=fun m:Nat=>m≤k∧(diff=true→∀j (hj:j<m) (hjk:j<k),r.of vs[k]≠r.of (vs[j]'(by omega))))
   (I:=fun m=>⟨[(36,.int m),(35,.int k),(34,.lst ((vs.take k).map .int)),(10,.int vs[k]),(27,.int k),(26,.int vs.length),(25,.lst (vs.map .int)),(1,.lst (vs.map .int)),(2,.bool diff),(3,.ptr 0 1 0 0),(6,.ptr 1 1 0 0)],[⟨124,10,[encR r]⟩,⟨124,10,[encR ⟨fun _=>0,0,0⟩]⟩]⟩) (μ:=fun m=>k-m) 0 ⟨Nat.zero_le _,fun _ j h=>by omega⟩ (.env' (by simp (decide:=true) only [go_sem,List.length_take,Nat.min_eq_left hk]<;>simp [Le.refl])) ?_
  rintro m ⟨hm',hne⟩
  refine goA ?_
  refine ifA (fun hf=>?_) (fun hf=>?_)
  ·simp at hf
   have hvm:=hl vs[m] (List.getElem_mem (by omega))
   have gm:=getR (f:=r.of) (a:=.int r.count) (b:=.int r.actor) hvm.1 hvm.2
   refine goA ?_
   refine ARun.q1 rfl rfl (ql_idx rfl rfl Tryd.underlying25 (by omega) (by simp;omega) (by kernel_rfl)) ?_
   repeat (first|(with_reducible first|apply zs|apply zN|apply z1|apply z2|apply z3|apply z4|apply z5|apply z6|refine z7 rfl ?_|apply zb|apply zk|apply zr|apply ze|apply y1|apply y2)|((with_reducible apply zR);(refine ⟨rfl,rfl,?_⟩;simp +decide only [go_sem,List.map];rfl))|((with_reducible apply zG);(simp +decide only [go_sem,List.getElem_take];rfl);(simp +decide only [go_sem,List.getElem_take];(repeat simp +decide only [go_sem,List.getElem_take]);rfl))|(refine zp rfl rfl (pl_box (by simp +decide only [go_sem,List.getElem_take];rfl) rfl) ?_)|(refine zp rfl rfl (pl_alloc (by simp only [go_sem];rfl) rfl) ?_)|(refine zp rfl rfl (pl_store (by simp +decide only [go_sem,List.getElem_take];rfl) (by simp +decide only [go_sem,List.getElem_take];rfl) (by simp +decide only [go_sem];rfl) (by rfl) (by rfl) (by kernel_rfl) (by rfl) (by rfl)) ?_)|fail)
   refine drA (k:=12) follows (hr:=?_)
   refine goA ?_
   refine gqA (h:=fun hg=>ql_indexAddr_ptr (by simp +decide only [go_sem]<;>rfl) (by simp +decide only [go_sem]<;>rfl) (by simp +decide only [go_sem]<;>rfl) Tryd.underlying122 hvk.1 hvk.2 sz3) (hr:=?_)
   repeat (first|(with_reducible first|apply zs|apply zN|apply z1|apply z2|apply z3|apply z4|apply z5|apply z6|refine z7 rfl ?_|apply zb|apply zk|apply zr|apply ze|apply y1|apply y2)|((with_reducible apply zR);(refine ⟨rfl,rfl,?_⟩;simp +decide only [go_sem,List.map];rfl))|((with_reducible apply zG);(simp +decide only [go_sem,gk];rfl);(simp +decide only [go_sem,gk];(repeat simp +decide only [go_sem,gk]);rfl))|(refine zp rfl rfl (pl_box (by simp +decide only [go_sem,gk];rfl) rfl) ?_)|(refine zp rfl rfl (pl_alloc (by simp only [go_sem];rfl) rfl) ?_)|(refine zp rfl rfl (pl_store (by simp +decide only [go_sem,gk];rfl) (by simp +decide only [go_sem,gk];rfl) (by simp +decide only [go_sem];rfl) (by rfl) (by rfl) (by kernel_rfl) (by rfl) (by rfl)) ?_)|fail)
   refine gqA (h:=fun hg=>ql_indexAddr_ptr (by simp +decide only [go_sem]<;>rfl) (by simp +decide only [go_sem]<;>rfl) (by simp +decide only [go_sem]<;>rfl) Tryd.underlying122 hvm.1 hvm.2 sz3) (hr:=?_)
   repeat (first|(with_reducible first|apply zs|apply zN|apply z1|apply z2|apply z3|apply z4|apply z5|apply z6|refine z7 rfl ?_|apply zb|apply zk|apply zr|apply ze|apply y1|apply y2)|((with_reducible apply zR);(refine ⟨rfl,rfl,?_⟩;simp +decide only [go_sem,List.map];rfl))|((with_reducible apply zG);(simp +decide only [go_sem,gm];rfl);(simp +decide only [go_sem,gm];(repeat simp +decide only [go_sem,gm]);rfl))|(refine zp rfl rfl (pl_box (by simp +decide only [go_sem,gm];rfl) rfl) ?_)|(refine zp rfl rfl (pl_alloc (by simp only [go_sem];rfl) rfl) ?_)|(refine zp rfl rfl (pl_store (by simp +decide only [go_sem,gm];rfl) (by simp +decide only [go_sem,gm];rfl) (by simp +decide only [go_sem];rfl) (by rfl) (by rfl) (by kernel_rfl) (by rfl) (by rfl)) ?_)|fail)
   refine ifA (fun hq=>?_) (fun hq=>?_)
   ·simp at hq
    refine goA ?_
    have e1:sendE r vs diff=220:=by
     have:dupl r vs:=⟨k,m,hd,hf,hq.2⟩
     simp [sendE,hm,hq.1,this]
    have e2:sendR r vs diff=r:=by simp [sendR,e1]
    exact Ret.data (by show resVals _ _ [.cell 6 124,.tmp 7]=_;simp +decide only [resVals,resVal,ldPtr,ldE,go_sem, *]<;>rfl) (by rw [e1,e2];rfl) (Pu_tupR _ _)
   ·simp at hq
    refine goA ?_
    rw [wrap_succ (by omega)]
    refine ⟨m+1,⟨by omega,fun hdf j h h'=>?_⟩,by omega,.wk⟩
    by_cases e:j=m
    ·subst e;exact hq hdf
    ·exact hne hdf j (by omega) h'
  ·simp at hf
   refine goA ?_
   rw [wrap_succ (by omega)]
   refine ⟨k+1,⟨by omega,fun hdf i j hi hj h=>?_⟩,by omega,.wk⟩
   by_cases e:i=k
   ·subst e;exact hne hdf j (by omega) hj
   ·exact hno hdf i j hi hj (by omega)
 simp at hd
 have hnd:¬(diff=true∧dupl r vs):=by
  rintro ⟨h,i,j,hi,hj,he⟩
  exact hno h i j hi hj (by omega) he
 clear hno hd hk
 refine goA ?_
 refine AWp.loop (J:=fun k:Nat=>k≤vs.length∧∀i (h:i<k) (h':i<vs.length),r.of vs[i]≠r.actor)
  (I:=fun k=>⟨[(57,.int k),(56,.int vs.length),(55,.lst (vs.map .int)),(13,.own 2 k 0 k),(3,.ptr 0 1 0 0),(6,.ptr 1 1 0 0)],[⟨124,10,[encR r]⟩,⟨124,10,[encR ⟨fun _=>0,0,0⟩]⟩,⟨3,1,((vs.take k).map r.of).map .int⟩]⟩) (μ:=fun k=>vs.length-k) 0 ⟨Nat.zero_le _,by omega⟩
  (.nil 3 1 (by simp [List.forall_mem_cons,lk,Le.refl])) ?_
 rintro k ⟨hk,hno⟩
 refine goA ?_
 refine ifA (fun hd=>?_) (fun hd=>?_)
 ·simp at hd
  have hvk:=hl vs[k] (List.getElem_mem hd)
  have gk:=getR (f:=r.of) (a:=.int r.count) (b:=.int r.actor) hvk.1 hvk.2
  refine goA ?_
  refine ARun.q1 rfl rfl (ql_idx rfl rfl Tryd.underlying25 (by omega) (by omega) (by kernel_rfl)) ?_
  refine goA ?_
  refine drA (k:=7) follows (hr:=?_)
  refine goA ?_
  refine ARun.q1 rfl rfl (ql_indexAddr_ptr rfl rfl rfl Tryd.underlying122 hvk.1 hvk.2 sz3) ?_
  repeat (first|(with_reducible first|apply zs|apply zN|apply z1|apply z2|apply z3|apply z4|apply z5|apply z6|refine z7 rfl ?_|apply zb|apply zk|apply zr|apply ze|apply y1|apply y2)|((with_reducible apply zR);(refine ⟨rfl,rfl,?_⟩;simp +decide only [go_sem,List.map];rfl))|((with_reducible apply zG);(simp +decide only [go_sem,gk];rfl);(simp +decide only [go_sem,gk];(repeat simp +decide only [go_sem,gk]);rfl))|(refine zp rfl rfl (pl_box (by simp +decide only [go_sem,gk];rfl) rfl) ?_)|(refine zp rfl rfl (pl_alloc (by simp only [go_sem];rfl) rfl) ?_)|(refine zp rfl rfl (pl_store (by simp +decide only [go_sem,gk];rfl) (by simp +decide only [go_sem,gk];rfl) (by simp +decide only [go_sem];rfl) (by rfl) (by rfl) (by kernel_rfl) (by rfl) (by rfl)) ?_)|fail)
  refine ifA (fun he=>?_) (fun he=>?_)
  ·simp at he
   refine goA ?_
   have e1:sendE r vs diff=220:=by
    have:r.actor∈vs.map r.of:=List.mem_map.2 ⟨vs[k],List.getElem_mem hd,he⟩
    simp only [sendE,hm,ne_eq,not_true_eq_false,if_false,hnd,this,if_true]
   have e2:sendR r vs diff=r:=by simp [sendR,e1]
   exact Ret.data (by show resVals _ _ [.cell 6 124,.tmp 7]=_;simp +decide only [resVals,resVal,ldPtr,ldE,go_sem, *]<;>rfl) (by rw [e1,e2];rfl) (Pu_tupR _ _)
  ·simp at he
   refine goA ?_
   refine ARun.q1 rfl rfl (ql_indexAddr_ptr rfl rfl rfl Tryd.underlying122 hvk.1 hvk.2 sz3) ?_
   repeat (first|(with_reducible first|apply zs|apply zN|apply z1|apply z2|apply z3|apply z4|apply z5|apply z6|refine z7 rfl ?_|apply zb|apply zk|apply zr|apply ze|apply y1|apply y2)|((with_reducible apply zR);(refine ⟨rfl,rfl,?_⟩;simp +decide only [go_sem,List.map];rfl))|((with_reducible apply zG);(simp +decide only [go_sem,gk];rfl);(simp +decide only [go_sem,gk];(repeat simp +decide only [go_sem,gk]);rfl))|(refine zp rfl rfl (pl_box (by simp +decide only [go_sem,gk];rfl) rfl) ?_)|(refine zp rfl rfl (pl_alloc (by simp only [go_sem];rfl) rfl) ?_)|(refine zp rfl rfl (pl_store (by simp +decide only [go_sem,gk];rfl) (by simp +decide only [go_sem,gk];rfl) (by simp +decide only [go_sem];rfl) (by rfl) (by rfl) (by kernel_rfl) (by rfl) (by rfl)) ?_)|fail)
   refine bslA Tryd.underlying25 sz3 ?_
   refine goA ?_
   refine ARun.p1 rfl rfl (pl_append (b:=2) (tot:=k) (es:=[.int (r.of vs[k])]) (by simp +decide only [go_sem]<;>rfl) (by simp +decide only [go_sem]<;>rfl) (by simp +decide only [go_sem]<;>rfl) (by simp;omega) Tryd.underlying25 el3 rfl rfl (by simp) (fun e he=>by rw [List.mem_singleton] at he;subst he;exact ⟨rfl,rfl⟩) (by simp;omega) (by simp;omega)) ?_
   refine goA ?_
   rw [wrap_succ (by omega)]
   refine ⟨k+1,⟨by omega,fun i h h'=>?_⟩,by omega,.env2 (by rw [show ((vs.take (k+1)).map r.of).map AV.int=((vs.take k).map r.of).map AV.int++[.int (r.of vs[k])] by rw [List.take_succ_eq_append_getElem hd,List.map_append,List.map_append];rfl];rfl) (by simp (decide:=true) only [go_sem]<;>simp [Le.refl])⟩
   by_cases e:i=k
   ·subst e;exact he
   ·exact hno i (by omega) h'
 simp at hd
 have hna:r.actor∉vs.map r.of:=by
  intro h
  obtain ⟨v,hv,e⟩:=List.mem_map.1 h
  obtain ⟨i,hi,rfl⟩:=List.mem_iff_getElem.1 hv
  exact hno i (by omega) hi e
 have e1:sendE r vs diff=0:=by simp only [sendE,hm,ne_eq,not_true_eq_false,if_false,hnd,hna]
 have e2:sendR r vs diff=⟨goneF r.of (vs.map r.of) 8,r.count,r.actor⟩:=by simp only [sendR,e1,if_true]
 rw [e1,e2]
 have hkl:k=vs.length:=by omega
 subst hkl
 rw [List.take_length]
 generalize hg:vs.map r.of=gone
 have hgl:gone.length=vs.length:=by rw [← hg];simp
 clear hno hd hk hna hnd e1 e2
 refine goA ?_
 refine AWp.loop (J:=fun k:Nat=>k≤8)
  (I:=fun k=>⟨[(79,.int k),(78,.agg [.int (r.of 0),.int (r.of 1),.int (r.of 2),.int (r.of 3),.int (r.of 4),.int (r.of 5),.int (r.of 6),.int (r.of 7)]),(13,.own 2 vs.length 0 vs.length),(3,.ptr 0 1 0 0),(6,.ptr 1 1 0 0)],[⟨124,10,[encR ⟨goneF r.of gone k,r.count,r.actor⟩]⟩,⟨124,10,[encR ⟨fun _=>0,0,0⟩]⟩,⟨3,1,gone.map .int⟩]⟩) (μ:=fun k=>8-k) 0 (Nat.zero_le _) (.env2 (by simp [encR,goneF_0]) (by simp (decide:=true) only [go_sem]<;>simp [Le.refl])) ?_
 intro k hk
 refine goA ?_
 refine ifA (fun hd=>?_) (fun hd=>?_)
 ·simp at hd
  refine goA ?_
  have g8:=getR8 (f:=r.of) (n:=k) (by omega) (by omega)
  rw [Int.toNat_natCast] at g8
  refine ARun.q1 rfl rfl (ql_index_arr (sz:=1) rfl rfl Tryd.underlying122 (by omega) (by omega) sz3 (by simp only [go_sem,g8]<;>rfl)) ?_
  refine goA ?_
  refine ARun.q1 rfl rfl (ql_callM (args:=[.lst (gone.map .int),.int (r.of k)]) rfl (by simp +decide only [go_sem]<;>rfl) (by simp (decide:=true) only [go_sem,List.map,LendL];exact ⟨Lend.ownI rfl hgl,.pu (.base _)⟩) (.base _) (contains_ok gone (r.of k))) ?_
  refine goA ?_
  refine ifA (fun he=>?_) (fun he=>?_)
  ·simp at he
   refine goA ?_
   refine ARun.q1 rfl rfl (ql_indexAddr_ptr rfl rfl rfl Tryd.underlying122 (by omega) (by omega) sz3) ?_
   refine ARun.p1 rfl rfl (pl_storeR (f:=goneF r.of gone k) (n:=k) (by simp +decide only [go_sem]<;>rfl) (by simp +decide only [go_sem]<;>rfl) (by simp +decide only [go_sem]<;>rfl) (by omega) (by omega) sz3) ?_
   refine goA ?_
   rw [wrap_succ (by omega)]
   refine ⟨k+1,by omega,by omega,.env2 (by simp only [goneF_hit he];rfl) (by simp (decide:=true) only [go_sem]<;>simp [Le.refl])⟩
  ·simp at he
   refine goA ?_
   rw [wrap_succ (by omega)]
   refine ⟨k+1,by omega,by omega,.env2 (by simp only [goneF_miss he];rfl) (by simp (decide:=true) only [go_sem]<;>simp [Le.refl])⟩
 ·simp at hd
  have:k=8:=by omega
  subst this
  refine goA ?_
  exact Ret.data (by show resVals _ _ [.cell 6 124,.tmp 7]=_;simp +decide only [resVals,resVal,ldPtr,ldE,go_sem, *]<;>rfl) (by rfl) (Pu_tupR _ _)
end Go.Ab.Rg
set_option maxHeartbeats 4000000
namespace Go.Ab.Rg
open Go Go.Ab Go.Proofs Go.Ab.Ty
theorem Pu_tupC (c:Cd) (x y:Bool):Pu (.tup [encC c,.bool x,.bool y]):=.tup fun a ha=>by
 simp only [List.mem_cons,List.not_mem_nil,or_false] at ha
 rcases ha with rfl|rfl|rfl
 ·exact Pu_encC c
 ·exact .base _
 ·exact .base _
theorem coded_code (p:Tk) (n:Int) (h:0≤n∧n<p.codes.length):Fn Tryd.prog 75 [encT p,.int n] (.tup [encC (cod p.codes n),.bool false,.bool true]):=by
 refine Fn.intro' [(0,encT p),(1,.int n)] 2 40 Tryd.func75 (by kernel_rfl) rfl rfl rfl rfl rfl ?_
 refine goA ?_
 refine ifA (fun hc=>?_) (fun hc=>?_)
 ·refine goA ?_
  refine ARun.q1 rfl rfl (ql_idxD (l:=p.codes) (f:=encC) cd0 rfl rfl Tryd.underlying22 (by omega) (by omega) (by kernel_rfl)) ?_
  refine goA ?_
  exact Ret.data (by show resVals _ _ [.cell 4 68,.tmp 5,.tmp 6]=_;simp +decide only [resVals,resVal,ldPtr,ldE,go_sem, *]<;>rfl) (by rfl) (Pu_tupC _ _ _)
 ·simp at hc;omega
theorem coded_method (p:Tk) (n:Int) (h:n<0 ∧ -n≤p.methods.length):Fn Tryd.prog 75 [encT p,.int n] (.tup [encC (cod p.methods (-1-n)),.bool true,.bool true]):=by
 refine Fn.intro' [(0,encT p),(1,.int n)] 2 40 Tryd.func75 (by kernel_rfl) rfl rfl rfl rfl rfl ?_
 refine AWp.learnV 0 rfl (fun _ _ _ _ _ h=>VR.bdT h) fun hbd=>?_
 have hb1:=hbd.2.1
 refine goA ?_
 refine ifA (fun hc=>?_) (fun hc=>?_)
 ·simp at hc;omega
 refine goA ?_
 refine ifA (fun hd=>?_) (fun hd=>?_)
 ·refine goA ?_
  rw [wrap_id (x:=-1-n) (by omega) (by omega)]
  refine ARun.q1 rfl rfl (ql_idxD (l:=p.methods) (f:=encC) cd0 rfl rfl Tryd.underlying22 (by omega) (by omega) (by kernel_rfl)) ?_
  refine goA ?_
  exact Ret.data (by show resVals _ _ [.cell 4 68,.tmp 5,.tmp 6]=_;simp +decide only [resVals,resVal,ldPtr,ldE,go_sem, *]<;>rfl) (by rfl) (Pu_tupC _ _ _)
 ·simp at hd
  have:=hd h.1
  rw [wrap_id (by omega) (by omega)] at this
  omega
def start0:Rg:=⟨fun _=>0,0,-1⟩
def startN (r:Rg):Nat→Rg
 | 0=>r
 | k+1=>freshR (startN r k) k
def startF (c:Cd) (method:Bool):Rg:=if method then ⟨(freshR (startN start0 c.params.toNat) c.params).of,(freshR (startN start0 c.params.toNat) c.params).count,(freshR (startN start0 c.params.toNat) c.params).of c.params⟩ else startN start0 c.params.toNat
theorem start_ok (c:Cd) (method:Bool) (h:0≤c.params∧c.params<8):Fn Tryd.prog 76 [encC c,.bool method] (encR (startF c method)):=by
 refine Fn.intro' [(0,encC c),(1,.bool method)] 2 29 Tryd.func76 (by kernel_rfl) rfl rfl rfl rfl rfl ?_
 refine goA ?_
 refine bldA pl124 zero124 ?_
 refine goA ?_
 refine AWp.loop (J:=fun k:Nat=>k≤c.params.toNat)
  (I:=fun k=>⟨[(10,.int k),(9,.int c.params),(1,.bool method),(2,.ptr 0 1 0 0),(4,.ptr 1 1 0 0),(5,.ptr 2 1 0 0)],[⟨68,3,[encC c]⟩,⟨124,10,[encR ⟨fun _=>0,0,0⟩]⟩,⟨124,10,[encR (startN start0 k)]⟩]⟩) (μ:=fun k=>c.params.toNat-k) 0 (Nat.zero_le _) .wk ?_
 intro k hk
 refine goA ?_
 refine ifA (fun hd=>?_) (fun hd=>?_)
 ·simp at hd
  refine goA ?_
  refine callA (fresh_ok (startN start0 k) k (by omega) (by omega)) ?_
  refine goA ?_
  rw [wrap_succ (by omega)]
  refine ⟨k+1,by omega,by omega,.wk⟩
 simp at hd
 have hkp:k=c.params.toNat:=by omega
 subst hkp
 refine goA ?_
 refine ifA (fun hm=>?_) (fun hm=>?_)
 ·refine goA ?_
  refine callA (fresh_ok (startN start0 c.params.toNat) c.params h.1 h.2) ?_
  generalize hR:freshR (startN start0 c.params.toNat) c.params=R
  have g:=getR (f:=R.of) (a:=.int R.count) (b:=.int R.actor) h.1 h.2
  refine goA ?_
  refine ARun.q1 rfl rfl (ql_indexAddr_ptr rfl rfl rfl Tryd.underlying122 h.1 h.2 sz3) ?_
  repeat (first|(with_reducible first|apply zs|apply zN|apply z1|apply z2|apply z3|apply z4|apply z5|apply z6|refine z7 rfl ?_|apply zb|apply zk|apply zr|apply ze|apply y1|apply y2)|((with_reducible apply zR);(refine ⟨rfl,rfl,?_⟩;simp +decide only [go_sem,List.map];rfl))|((with_reducible apply zG);(simp +decide only [go_sem,g];rfl);(simp +decide only [go_sem,g];(repeat simp +decide only [go_sem,g]);rfl))|(refine zp rfl rfl (pl_box (by simp +decide only [go_sem,g];rfl) rfl) ?_)|(refine zp rfl rfl (pl_alloc (by simp only [go_sem];rfl) rfl) ?_)|(refine zp rfl rfl (pl_store (by simp +decide only [go_sem,g];rfl) (by simp +decide only [go_sem,g];rfl) (by simp +decide only [go_sem];rfl) (by rfl) (by rfl) (by kernel_rfl) (by rfl) (by rfl)) ?_)|fail)
  exact Ret.data (by show resVals _ _ [.cell 4 124]=_;simp +decide only [resVals,resVal,ldPtr,ldE,go_sem, *]<;>rfl) (by simp only [startF,hm,if_true,hR];rfl) (Pu_encR _)
 ·refine goA ?_
  exact Ret.data (by show resVals _ _ [.cell 4 124]=_;simp +decide only [resVals,resVal,ldPtr,ldE,go_sem, *]<;>rfl) (by simp only [startF,hm];rfl) (Pu_encR _)
end Go.Ab.Rg
set_option maxHeartbeats 4000000
namespace Go.Ab.Rg
open Go Go.Ab Go.Proofs Go.Ab.Ty
abbrev u1 (op:Int):Prop:=(op=1∨op=5)∨(op=2∨op=3)∨op=4
abbrev u2 (op:Int):Prop:=op=2∨op=3
abbrev u3 (op:Int):Prop:=(op=1∨op=5)∨(op=6∨op=9)∨(op=7∨op=10)∨op=8
abbrev u4 (op:Int):Prop:=op=6∨op=9
abbrev u5 (op:Int):Prop:=(op=6∨op=9)∨op=8
theorem Pu_tup5 (a b c d e:Bool):Pu (.tup [.bool a,.bool b,.bool c,.bool d,.bool e]):=.tup fun x hx=>by
 simp only [List.mem_cons,List.not_mem_nil,or_false] at hx
 rcases hx with rfl|rfl|rfl|rfl|rfl<;>exact .base _
theorem uses_ok (op:Int):Fn Tryd.prog 117 [.int op] (.tup [.bool (decide (u1 op)),.bool (decide (u2 op)),.bool (decide (u3 op)),.bool (decide (u4 op)),.bool (decide (u5 op))]):=by
 refine Fn.intro' [(0,.int op)] 1 24 Tryd.func117 (by kernel_rfl) rfl rfl rfl rfl rfl ?_
 let S:=fun (t:Nat) (b:Bool)=>(⟨[(t,.bool b),(7,.int op)],[]⟩:ASt)
 refine goA ?_
 refine AWp.join (S 8 (decide (op=1∨op=5))) ?_ ?_
 ·refine ifA (fun ho=>?_) (fun ho=>?_)
  ·refine goA ?_
   exact .env' (by simp (decide:=true) only [go_sem];simp at ho;simp [ho,Le.refl])
  ·refine goA ?_
   exact .env' (by simp (decide:=true) only [go_sem];simp at ho;simp [ho,Le.refl])
 simp only [S]
 refine ifA (fun h1=>?_) (fun h1=>?_)
 ·simp at h1
  refine goA ?_
  exact Ret.data rfl (by rcases h1 with h|h<;>simp [packA,lk,h]) (Pu_tup5 _ _ _ _ _)
 simp at h1
 refine goA ?_
 refine AWp.join (S 11 (decide (op=2∨op=3))) ?_ ?_
 ·refine ifA (fun ho=>?_) (fun ho=>?_)
  ·refine goA ?_
   exact .env' (by simp (decide:=true) only [go_sem];simp at ho;simp [ho,Le.refl])
  ·refine goA ?_
   exact .env' (by simp (decide:=true) only [go_sem];simp at ho;simp [ho,Le.refl])
 simp only [S]
 refine ifA (fun h2=>?_) (fun h2=>?_)
 ·simp at h2
  refine goA ?_
  exact Ret.data rfl (by rcases h2 with h|h<;>simp [packA,lk,h]) (Pu_tup5 _ _ _ _ _)
 simp at h2
 refine goA ?_
 refine ifA (fun h4=>?_) (fun h4=>?_)
 ·simp at h4
  refine goA ?_
  exact Ret.data rfl (by simp [packA,lk,h4]) (Pu_tup5 _ _ _ _ _)
 simp at h4
 refine goA ?_
 refine AWp.join (S 16 (decide (op=6∨op=9))) ?_ ?_
 ·refine ifA (fun ho=>?_) (fun ho=>?_)
  ·refine goA ?_
   exact .env' (by simp (decide:=true) only [go_sem];simp at ho;simp [ho,Le.refl])
  ·refine goA ?_
   exact .env' (by simp (decide:=true) only [go_sem];simp at ho;simp [ho,Le.refl])
 simp only [S]
 refine ifA (fun h6=>?_) (fun h6=>?_)
 ·simp at h6
  refine goA ?_
  exact Ret.data rfl (by rcases h6 with h|h<;>simp [packA,lk,h]) (Pu_tup5 _ _ _ _ _)
 simp at h6
 refine goA ?_
 refine AWp.join (S 19 (decide (op=7∨op=10))) ?_ ?_
 ·refine ifA (fun ho=>?_) (fun ho=>?_)
  ·refine goA ?_
   exact .env' (by simp (decide:=true) only [go_sem];simp at ho;simp [ho,Le.refl])
  ·refine goA ?_
   exact .env' (by simp (decide:=true) only [go_sem];simp at ho;simp [ho,Le.refl])
 simp only [S]
 refine ifA (fun h7=>?_) (fun h7=>?_)
 ·simp at h7
  refine goA ?_
  exact Ret.data rfl (by rcases h7 with h|h<;>simp [packA,lk,h]) (Pu_tup5 _ _ _ _ _)
 simp at h7
 refine goA ?_
 refine ifA (fun h8=>?_) (fun h8=>?_)
 ·simp at h8
  refine goA ?_
  exact Ret.data rfl (by simp [packA,lk,h8]) (Pu_tup5 _ _ _ _ _)
 simp at h8
 refine goA ?_
 exact Ret.data rfl (by simp [packA,lk,h1,h2,h4,h6,h7,h8]) (Pu_tup5 _ _ _ _ _)
theorem apart_ok (vs:List Int) (n:Int):Fn Tryd.prog 118 [.lst (vs.map .int),.int n] (.bool (decide (okVars n vs))):=by
 refine Fn.intro' [(0,.lst (vs.map .int)),(1,.int n)] 2 40 Tryd.func118 (by kernel_rfl) rfl rfl rfl rfl rfl ?_
 refine AWp.learn 0 rfl fun hlen=>?_
 rw [List.length_map] at hlen
 refine goA ?_
 refine AWp.loop (J:=fun k:Nat=>k≤vs.length∧∀i (h:i<k) (h':i<vs.length),0≤vs[i]∧vs[i]<n∧vs[i]∉vs.take i)
  (I:=fun k=>⟨[(5,.int k),(0,.lst (vs.map .int)),(1,.int n)],[]⟩) (μ:=fun k=>vs.length-k) 0 ⟨Nat.zero_le _,by omega⟩ .wk ?_
 rintro k ⟨hk,hno⟩
 refine goA ?_
 refine ifA (fun hd=>?_) (fun hd=>?_)
 ·simp at hd
  refine goA ?_
  refine ARun.q1 rfl rfl (ql_idx rfl rfl Tryd.underlying25 (by omega) (by omega) (by kernel_rfl)) ?_
  refine goA ?_
  refine gqA (h:=fun hg=>ql_idxD (l:=vs) (f:=.int) 0 (by simp +decide only [go_sem]<;>rfl) (by simp +decide only [go_sem]<;>rfl) Tryd.underlying25 (by omega) (by omega) (by kernel_rfl)) (hr:=?_)
  refine goA ?_
  rw [nth_eq hd]
  refine ifA (fun he=>?_) (fun he=>?_)
  ·simp at he
   refine goA ?_
   have:=okVars_bad (cv:=n) hd (by omega)
   exact Ret.bool rfl (by simp [this])
  simp at he
  refine goA ?_
  refine AWp.loop (J:=fun j:Nat=>j≤k∧∀i (h:i<j) (h':i<vs.length),vs[i]≠vs[k])
   (I:=fun j=>⟨[(6,.int j),(5,.int k),(0,.lst (vs.map .int)),(1,.int n)],[]⟩) (μ:=fun j=>k-j) 0 ⟨Nat.zero_le _,by omega⟩ .wk ?_
  rintro j ⟨hj,hne⟩
  refine goA ?_
  refine ifA (fun hf=>?_) (fun hf=>?_)
  ·simp at hf
   refine goA ?_
   refine drA (k:=9) follows (hr:=?_)
   refine goA ?_
   refine ARun.q1 rfl rfl (ql_idx rfl rfl Tryd.underlying25 (by omega) (by omega) (by kernel_rfl)) ?_
   refine goA ?_
   refine ARun.q1 rfl rfl (ql_idx rfl rfl Tryd.underlying25 (by omega) (by omega) (by kernel_rfl)) ?_
   refine goA ?_
   refine ifA (fun hg=>?_) (fun hg=>?_)
   ·simp at hg
    refine goA ?_
    have:=okVars_bad (cv:=n) hd (.inr (.inr (List.mem_iff_getElem.2 ⟨j,by rw [List.length_take];omega,by rw [List.getElem_take];exact hg⟩)))
    exact Ret.bool rfl (by simp [this])
   ·simp at hg
    refine goA ?_
    rw [wrap_succ (by omega)]
    refine ⟨j+1,⟨by omega,fun i h h'=>?_⟩,by omega,.wk⟩
    by_cases e:i=j
    ·subst e;exact hg
    ·exact hne i (by omega) h'
  ·simp at hf
   refine goA ?_
   rw [wrap_succ (by omega)]
   refine ⟨k+1,⟨by omega,fun i h h'=>?_⟩,by omega,.wk⟩
   by_cases e:i=k
   ·subst e
    refine ⟨by omega,by omega,fun hm=>?_⟩
    obtain ⟨j',hj',he'⟩:=List.mem_iff_getElem.1 hm
    rw [List.length_take] at hj'
    rw [List.getElem_take] at he'
    exact hne j' (by omega) (by omega) he'
   ·exact hno i (by omega) h'
 ·simp at hd
  refine goA ?_
  have:=okVars_good (cv:=n) (vs:=vs) fun i hi=>hno i (by omega) hi
  exact Ret.bool rfl (by simp [this])
end Go.Ab.Rg
