/- Part of the proof. -/
import Derived.Test.YthgicbkdckpeaaaDoorG42
set_option linter.unusedSimpArgs false
set_option linter.unusedVariables false
set_option maxHeartbeats 4000000
namespace Go.Ab.Rg
open Go Go.Ab Go.Proofs Go.Ab.Ty
def begunE (c:Cd) (m:Bool) (i:Nat):Int:=if (i:Int)<c.params then i+1 else if m=true∧(i:Int)=c.params then 0 else -1
def begunF (c:Cd) (m:Bool) (k n:Nat):List Int:=(List.range n).map fun i=>if i<k then begunE c m i else 0
theorem begunF_len (c:Cd) (m:Bool) (k n:Nat):(begunF c m k n).length=n:=by simp [begunF]
theorem begunF_0 (c:Cd) (m:Bool) (n:Nat):begunF c m 0 n=List.replicate n 0:=by
 apply List.ext_getElem<;>simp [begunF]
theorem begunF_set (c:Cd) (m:Bool) (k n:Nat) (v:Int) (hv:v=begunE c m k):(begunF c m k n).set k v=begunF c m (k+1) n:=by
 apply List.ext_getElem
 ·simp [begunF]
 ·intro i h1 h2
  simp [begunF,List.getElem_set]
  by_cases e:k=i
  ·subst e;simp [hv]
  ·by_cases e2:i<k
   ·simp [e,e2,show i<k+1 by omega]
   ·simp [e,e2,show ¬i<k+1 by omega]
theorem begun_ok (c:Cd) (m:Bool) (h0:0≤c.vars) (h8:c.vars≤8) (hp:c.params≤100):Fn Tryd.prog 99 [encC c,.bool m] (.lst ((begunF c m c.vars.toNat c.vars.toNat).map .int)):=by
 refine Fn.intro' [(0,encC c),(1,.bool m)] 2 41 Tryd.func99 (by kernel_rfl) rfl rfl rfl rfl rfl ?_
 refine goB ?_
 refine ARun.p1 rfl rfl (pl_make (by simp +decide only [go_sem]<;>rfl) (by simp +decide only [go_sem]<;>rfl) Tryd.underlying25 el3 zero3 rfl h0 (Int.le_refl _) (by omega) (by omega)) ?_
 refine goB ?_
 refine AWp.loopH (J:=fun k:Nat=>k≤c.vars.toNat) (fun k=>[(6,.int k)]) (fun k=>[⟨68,3,[encC c]⟩,⟨3,1,(begunF c m k c.vars.toNat).map .int⟩]) (fun k=>c.vars.toNat-k) 0 (Nat.zero_le _) (.env2 (by rw [begunF_0,List.map_replicate];rfl) (by simp (decide:=true) only [go_sem])) ?_
 intro k hk
 have hl:=begunF_len c m k c.vars.toNat
 repeat (first|(with_reducible first|apply zs|apply zN|apply z1|apply z2|apply z3|apply z4|apply z5|apply z6|refine z7 rfl ?_|apply zb|apply zk|apply zr|apply ze|apply y1|apply y2)|((with_reducible apply zR);(refine ⟨rfl,rfl,?_⟩;simp +decide only [go_sem,List.map];rfl))|((with_reducible apply zG);(simp +decide only [go_sem,hl];rfl);(simp +decide only [go_sem,hl];(repeat simp +decide only [go_sem,hl]);rfl))|(refine zp rfl rfl (pl_box (by simp +decide only [go_sem,hl];rfl) rfl) ?_)|(refine zp rfl rfl (pl_alloc (by simp only [go_sem];rfl) rfl) ?_)|(refine zp rfl rfl (pl_store (by simp +decide only [go_sem,hl];rfl) (by simp +decide only [go_sem,hl];rfl) (by simp +decide only [go_sem];rfl) (by rfl) (by rfl) (by kernel_rfl) (by rfl) (by rfl)) ?_)|(refine zq rfl rfl (qi rfl rfl (by simp only [go_sem];rfl) (by first|omega|(simp;omega)) (by kernel_rfl)) ?_)|(refine zq rfl rfl (qo rfl rfl (by simp only [go_sem];rfl) rfl (by first|omega|(simp;omega)) (by simp only [go_sem]<;>rfl)) ?_)|(refine zq rfl rfl (qw 0 _ rfl rfl (by first|rfl|(simp only [Nat.zero_add]<;>rfl)) (by first|omega|(simp;omega)) (by simp only [go_sem]<;>rfl)) ?_)|(refine zq rfl rfl (qb (by simp only [go_sem];rfl) (by simp only [go_sem];rfl) (by decide) (by kernel_rfl) (by simp +decide only [List.map,go_sem]<;>rfl) (by simp +decide only [List.map,go_sem]<;>rfl) (by rfl)) ?_)|(refine zq rfl rfl (qn rfl rfl) ?_)|(refine zq rfl rfl (qx rfl rfl) ?_)|fail)
 refine ifA (fun hd=>?_) (fun hd=>?_)
 ·simp at hd
  have hst:∀v,v=begunE c m k→((begunF c m k c.vars.toNat).set k v)=begunF c m (k+1) c.vars.toNat:=fun v hv=>begunF_set c m k _ v hv
  repeat (first|(with_reducible first|apply zs|apply zN|apply z1|apply z2|apply z3|apply z4|apply z5|apply z6|refine z7 rfl ?_|apply zb|apply zk|apply zr|apply ze|apply y1|apply y2)|((with_reducible apply zR);(refine ⟨rfl,rfl,?_⟩;simp +decide only [go_sem,List.map];rfl))|((with_reducible apply zG);(simp +decide only [go_sem,hl];rfl);(simp +decide only [go_sem,hl];(repeat simp +decide only [go_sem,hl]);rfl))|(refine zp rfl rfl (pl_box (by simp +decide only [go_sem,hl];rfl) rfl) ?_)|(refine zp rfl rfl (pl_alloc (by simp only [go_sem];rfl) rfl) ?_)|(refine zp rfl rfl (pl_store (by simp +decide only [go_sem,hl];rfl) (by simp +decide only [go_sem,hl];rfl) (by simp +decide only [go_sem];rfl) (by rfl) (by rfl) (by kernel_rfl) (by rfl) (by rfl)) ?_)|(refine zq rfl rfl (qi rfl rfl (by simp only [go_sem];rfl) (by first|omega|(simp;omega)) (by kernel_rfl)) ?_)|(refine zq rfl rfl (qo rfl rfl (by simp only [go_sem];rfl) rfl (by first|omega|(simp;omega)) (by simp only [go_sem]<;>rfl)) ?_)|(refine zq rfl rfl (qw 0 _ rfl rfl (by first|rfl|(simp only [Nat.zero_add]<;>rfl)) (by first|omega|(simp;omega)) (by simp only [go_sem]<;>rfl)) ?_)|(refine zq rfl rfl (qb (by simp only [go_sem];rfl) (by simp only [go_sem];rfl) (by decide) (by kernel_rfl) (by simp +decide only [List.map,go_sem]<;>rfl) (by simp +decide only [List.map,go_sem]<;>rfl) (by rfl)) ?_)|(refine zq rfl rfl (qn rfl rfl) ?_)|(refine zq rfl rfl (qx rfl rfl) ?_)|fail)
  have done:∀(v:Int),v=begunE c m k→∀H:List ABlk,H=[⟨68,3,[encC c]⟩,⟨3,1,((begunF c m k c.vars.toNat).set k v).map .int⟩]→H=[⟨68,3,[encC c]⟩,⟨3,1,(begunF c m (k+1) c.vars.toNat).map .int⟩]:=fun v hv H hH=>by rw [hH,hst v hv]
  refine ifA (fun h1=>?_) (fun h1=>?_)
  ·simp at h1
   repeat (first|(with_reducible first|apply zs|apply zN|apply z1|apply z2|apply z3|apply z4|apply z5|apply z6|refine z7 rfl ?_|apply zb|apply zk|apply zr|apply ze|apply y1|apply y2)|((with_reducible apply zR);(refine ⟨rfl,rfl,?_⟩;simp +decide only [go_sem,List.map];rfl))|((with_reducible apply zG);(simp +decide only [go_sem,hl];rfl);(simp +decide only [go_sem,hl];(repeat simp +decide only [go_sem,hl]);rfl))|(refine zp rfl rfl (pl_box (by simp +decide only [go_sem,hl];rfl) rfl) ?_)|(refine zp rfl rfl (pl_alloc (by simp only [go_sem];rfl) rfl) ?_)|(refine zp rfl rfl (pl_store (by simp +decide only [go_sem,hl];rfl) (by simp +decide only [go_sem,hl];rfl) (by simp +decide only [go_sem];rfl) (by rfl) (by rfl) (by kernel_rfl) (by rfl) (by rfl)) ?_)|(refine zq rfl rfl (qi rfl rfl (by simp only [go_sem];rfl) (by first|omega|(simp;omega)) (by kernel_rfl)) ?_)|(refine zq rfl rfl (qo rfl rfl (by simp only [go_sem];rfl) rfl (by first|omega|(simp;omega)) (by simp only [go_sem]<;>rfl)) ?_)|(refine zq rfl rfl (qw 0 _ rfl rfl (by first|rfl|(simp only [Nat.zero_add]<;>rfl)) (by first|omega|(simp;omega)) (by simp only [go_sem]<;>rfl)) ?_)|(refine zq rfl rfl (qb (by simp only [go_sem];rfl) (by simp only [go_sem];rfl) (by decide) (by kernel_rfl) (by simp +decide only [List.map,go_sem]<;>rfl) (by simp +decide only [List.map,go_sem]<;>rfl) (by rfl)) ?_)|(refine zq rfl rfl (qn rfl rfl) ?_)|(refine zq rfl rfl (qx rfl rfl) ?_)|fail)
   rw [wrap_succ (by omega)]
   refine ARun.p1 rfl rfl (pl_store_own (l:=begunF c m k c.vars.toNat) (f:=AV.int) ((k+1:Nat):Int) (by simp +decide only [go_sem]<;>rfl) (by simp +decide only [go_sem]<;>rfl) rfl hl (by omega) (by kernel_rfl) rfl rfl) ?_
   refine goB ?_
   rw [wrap_succ (by omega)]
   refine ⟨k+1,by omega,by omega,.env2 (done _ (by simp [begunE,h1]) _ rfl) (by simp (decide:=true) only [go_sem])⟩
  simp at h1
  refine goB ?_
  refine ifA (fun h2=>?_) (fun h2=>?_)
  ·simp at h2
   repeat (first|(with_reducible first|apply zs|apply zN|apply z1|apply z2|apply z3|apply z4|apply z5|apply z6|refine z7 rfl ?_|apply zb|apply zk|apply zr|apply ze|apply y1|apply y2)|((with_reducible apply zR);(refine ⟨rfl,rfl,?_⟩;simp +decide only [go_sem,List.map];rfl))|((with_reducible apply zG);(simp +decide only [go_sem,hl];rfl);(simp +decide only [go_sem,hl];(repeat simp +decide only [go_sem,hl]);rfl))|(refine zp rfl rfl (pl_box (by simp +decide only [go_sem,hl];rfl) rfl) ?_)|(refine zp rfl rfl (pl_alloc (by simp only [go_sem];rfl) rfl) ?_)|(refine zp rfl rfl (pl_store (by simp +decide only [go_sem,hl];rfl) (by simp +decide only [go_sem,hl];rfl) (by simp +decide only [go_sem];rfl) (by rfl) (by rfl) (by kernel_rfl) (by rfl) (by rfl)) ?_)|(refine zq rfl rfl (qi rfl rfl (by simp only [go_sem];rfl) (by first|omega|(simp;omega)) (by kernel_rfl)) ?_)|(refine zq rfl rfl (qo rfl rfl (by simp only [go_sem];rfl) rfl (by first|omega|(simp;omega)) (by simp only [go_sem]<;>rfl)) ?_)|(refine zq rfl rfl (qw 0 _ rfl rfl (by first|rfl|(simp only [Nat.zero_add]<;>rfl)) (by first|omega|(simp;omega)) (by simp only [go_sem]<;>rfl)) ?_)|(refine zq rfl rfl (qb (by simp only [go_sem];rfl) (by simp only [go_sem];rfl) (by decide) (by kernel_rfl) (by simp +decide only [List.map,go_sem]<;>rfl) (by simp +decide only [List.map,go_sem]<;>rfl) (by rfl)) ?_)|(refine zq rfl rfl (qn rfl rfl) ?_)|(refine zq rfl rfl (qx rfl rfl) ?_)|fail)
   refine ARun.p1 rfl rfl (pl_store_own (l:=begunF c m k c.vars.toNat) (f:=AV.int) 0 (by simp +decide only [go_sem]<;>rfl) (by simp +decide only [go_sem]<;>rfl) rfl hl (by omega) (by kernel_rfl) rfl rfl) ?_
   refine goB ?_
   rw [wrap_succ (by omega)]
   refine ⟨k+1,by omega,by omega,.env2 (done 0 (by simp [begunE,h2]) _ rfl) (by simp (decide:=true) only [go_sem])⟩
  simp at h2
  repeat (first|(with_reducible first|apply zs|apply zN|apply z1|apply z2|apply z3|apply z4|apply z5|apply z6|refine z7 rfl ?_|apply zb|apply zk|apply zr|apply ze|apply y1|apply y2)|((with_reducible apply zR);(refine ⟨rfl,rfl,?_⟩;simp +decide only [go_sem,List.map];rfl))|((with_reducible apply zG);(simp +decide only [go_sem,hl];rfl);(simp +decide only [go_sem,hl];(repeat simp +decide only [go_sem,hl]);rfl))|(refine zp rfl rfl (pl_box (by simp +decide only [go_sem,hl];rfl) rfl) ?_)|(refine zp rfl rfl (pl_alloc (by simp only [go_sem];rfl) rfl) ?_)|(refine zp rfl rfl (pl_store (by simp +decide only [go_sem,hl];rfl) (by simp +decide only [go_sem,hl];rfl) (by simp +decide only [go_sem];rfl) (by rfl) (by rfl) (by kernel_rfl) (by rfl) (by rfl)) ?_)|(refine zq rfl rfl (qi rfl rfl (by simp only [go_sem];rfl) (by first|omega|(simp;omega)) (by kernel_rfl)) ?_)|(refine zq rfl rfl (qo rfl rfl (by simp only [go_sem];rfl) rfl (by first|omega|(simp;omega)) (by simp only [go_sem]<;>rfl)) ?_)|(refine zq rfl rfl (qw 0 _ rfl rfl (by first|rfl|(simp only [Nat.zero_add]<;>rfl)) (by first|omega|(simp;omega)) (by simp only [go_sem]<;>rfl)) ?_)|(refine zq rfl rfl (qb (by simp only [go_sem];rfl) (by simp only [go_sem];rfl) (by decide) (by kernel_rfl) (by simp +decide only [List.map,go_sem]<;>rfl) (by simp +decide only [List.map,go_sem]<;>rfl) (by rfl)) ?_)|(refine zq rfl rfl (qn rfl rfl) ?_)|(refine zq rfl rfl (qx rfl rfl) ?_)|fail)
  refine ARun.p1 rfl rfl (pl_store_own (l:=begunF c m k c.vars.toNat) (f:=AV.int) (-1) (by simp +decide only [go_sem]<;>rfl) (by simp +decide only [go_sem]<;>rfl) rfl hl (by omega) (by kernel_rfl) rfl rfl) ?_
  refine goB ?_
  rw [wrap_succ (by omega)]
  refine ⟨k+1,by omega,by omega,.env2 (done (-1) (by unfold begunE;rw [if_neg (by omega),if_neg (by simpa using h2)]) _ rfl) (by simp (decide:=true) only [go_sem])⟩
 simp at hd
 have hkl:k=c.vars.toNat:=by omega
 subst hkl
 refine goB ?_
 exact Ret.pub rfl (.ownM (Nat.zero_le _) rfl (begunF_len ..) (Pu_cellI _))
end Go.Ab.Rg
namespace Go.Ab.Rg
open Go Go.Ab Go.Proofs Go.Ab.Ty
set_option maxHeartbeats 2000000
def needAll (l:List Int):List Int→Int
 | []=>0
 | v::vs=>if needF l v=0 then needAll l vs else needF l v
def goneJ (l g:List Int) (r:Int) (j:Nat):List Int:=(List.range l.length).map fun i:Nat=>if nth 0 l i∈g∨(i<j∧nth 0 l i=r) then -2 else nth 0 l i
theorem goneJ_len (l g:List Int) (r:Int) (j:Nat):(goneJ l g r j).length=l.length:=by simp [goneJ]
theorem goneJ_nil (l:List Int) (r:Int):goneJ l [] r 0=l:=by
 apply List.ext_getElem
 ·simp [goneJ]
 ·intro i h1 h2;simp [goneJ,nth_eq h2]
theorem goneJ_r (l g:List Int) (r r':Int):goneJ l g r 0=goneJ l g r' 0:=by simp [goneJ]
theorem goneJ_end (l g:List Int) (r r':Int):goneJ l g r l.length=goneJ l (g++[r]) r' 0:=by
 unfold goneJ
 apply List.map_congr_left
 intro i hi
 simp at hi
 simp [hi]
theorem goneJ_hit {l g:List Int} {r:Int} {j:Nat} (h:nth 0 l j=r) (hj:j<l.length):(goneJ l g r j).set j (-2)=goneJ l g r (j+1):=by
 apply List.ext_getElem
 ·simp [goneJ]
 ·intro i h1 h2
  simp only [List.length_set,goneJ_len] at h1
  simp only [goneJ,List.getElem_set,List.getElem_map,List.getElem_range]
  by_cases e:j=i
  ·subst e;simp [h]
  ·simp only [e,if_false]
   by_cases e2:i<j
   ·simp [e2,show i<j+1 by omega]
   ·simp [e2,show ¬i<j+1 by omega]
theorem goneJ_miss {l g:List Int} {r:Int} {j:Nat} (h:nth 0 l j≠r):goneJ l g r j=goneJ l g r (j+1):=by
 unfold goneJ
 apply List.map_congr_left
 intro i hi
 by_cases e:i=j
 ·subst e;simp [h]
 ·by_cases e2:i<j
  ·simp [e2,show i<j+1 by omega]
  ·simp [e2,show ¬i<j+1 by omega]
def dupL (l vs:List Int) (k:Nat):Prop:=∃i j:Nat,j<i∧i<k∧nth 0 l (nth 0 vs i)=nth 0 l (nth 0 vs j)
open Classical in
noncomputable def sentE (l:List Int) (s:Stp) (m:Bool):Int:=
 if needAll l s.vars≠0 then needAll l s.vars else if s.op≠8∧dupL l s.vars s.vars.length then 220 else if m=true∧∃k:Nat,k<s.vars.length∧nth 0 l (nth 0 s.vars k)=0 then 220 else 0
noncomputable def sentL (l:List Int) (s:Stp) (m:Bool):List Int:=if sentE l s m=0 then goneJ l (s.vars.map (nth 0 l)) 0 0 else []
def encLE (l:List Int) (e:Int):AV:=.tup [.lst (l.map .int),.int e]
theorem ret_err {P:Program} {s:ASt} {rs:List ResultVar} {e e':Int} {l:List Int} (h:resVals P s rs=some [.base (.slice none 0 0),.int e]) (hl:l=[]) (he:e=e'):Ret P rs (encLE l e') s:=
 Ret.pub h (by subst hl he;exact .tup' ⟨.nilS,.pu (.base _),trivial⟩)
theorem sent_ok (l:List Int) (s:Stp) (m:Bool) (hvs:∀v∈s.vars,0≤v∧v<l.length) (hl8:l.length≤8) (hv4:s.vars.length≤1000):Fn Tryd.prog 120 [.lst (l.map .int),encS s,.bool m] (encLE (sentL l s m) (sentE l s m)):=by
 refine Fn.intro' [(0,.lst (l.map .int)),(1,encS s),(2,.bool m)] 3 105 Tryd.func120 (by kernel_rfl) rfl rfl rfl rfl rfl ?_
 have hvn:∀k:Nat,k<s.vars.length→0≤nth 0 s.vars k∧nth 0 s.vars k<l.length:=fun k hk=>by
  rw [nth_eq hk];exact hvs _ (List.getElem_mem hk)
 refine goB ?_
 refine keA [0,2,4,8,6,7] ?_
 refine AWp.loopP (J:=fun k:Nat=>k≤s.vars.length∧needAll l s.vars=needAll l (s.vars.drop k)) (fun k=>[(8,.int k)]) (fun k=>s.vars.length-k) 0 ⟨Nat.zero_le _,rfl⟩ .wk ?_
 rintro k ⟨hk,hn⟩
 refine goB ?_
 refine ifA (fun hd=>?_) (fun hd=>?_)
 ·simp at hd
  obtain ⟨v0,v1⟩:=hvn k hd
  rw [List.drop_eq_getElem_cons hd,← nth_eq (d:=0) hd] at hn
  refine goB ?_
  refine callA (need_ok l (nth 0 s.vars k) v0 v1) ?_
  refine goB ?_
  refine ifA (fun he=>?_) (fun he=>?_)
  ·simp at he
   refine goB ?_
   have e1:sentE l s m=needF l (nth 0 s.vars k):=by simp [sentE,hn,needAll,he]
   exact ret_err rfl (by simp [sentL,e1,he]) e1.symm
  ·simp at he
   refine goB ?_
   rw [wrap_succ (by omega)]
   refine ⟨k+1,⟨by omega,by rw [hn,needAll,if_pos he]⟩,by omega,.wk⟩
 simp at hd
 have hna:needAll l s.vars=0:=by rw [hn,List.drop_of_length_le hd];rfl
 clear hn hd hk
 refine goB ?_
 refine keA [0,2,4,10,6,7] ?_
 refine AWp.loopP (J:=fun k:Nat=>k≤s.vars.length∧(s.op≠8→¬dupL l s.vars k)) (fun k=>[(10,.int k)]) (fun k=>s.vars.length-k) 0 ⟨Nat.zero_le _,fun _ ⟨i,j,_,h,_⟩=>by omega⟩ .wk ?_
 rintro k ⟨hk,hn⟩
 refine goB ?_
 refine ifA (fun hd=>?_) (fun hd=>?_)
 ·simp at hd
  obtain ⟨v0,v1⟩:=hvn k hd
  refine goB ?_
  refine keA [0,2,4,10,11,6,7] ?_
  refine AWp.loopP (J:=fun j:Nat=>j≤k∧(s.op≠8→∀i:Nat,i<j→nth 0 l (nth 0 s.vars k)≠nth 0 l (nth 0 s.vars i))) (fun j=>[(11,.int j)]) (fun j=>k-j) 0 ⟨Nat.zero_le _,fun _ i h=>by omega⟩ .wk ?_
  rintro j ⟨hj,hm⟩
  refine goB ?_
  refine ifA (fun hf=>?_) (fun hf=>?_)
  ·simp at hf
   obtain ⟨w0,w1⟩:=hvn j (by omega)
   refine goB ?_
   refine drA (k:=17) follows (hr:=?_)
   refine goB ?_
   refine ifA (fun he=>?_) (fun he=>?_)
   ·simp at he
    refine goB ?_
    have e1:sentE l s m=220:=by
     have:dupL l s.vars s.vars.length:=⟨k,j,hf.1,hd,he⟩
     simp [sentE,hna,hf.2,this]
    exact ret_err rfl (by simp [sentL,e1]) e1.symm
   ·simp at he
    refine goB ?_
    rw [wrap_succ (by omega)]
    refine ⟨j+1,⟨by omega,fun ho i hi=>?_⟩,by omega,.wk⟩
    by_cases e:i=j
    ·subst e;exact he
    ·exact hm ho i (by omega)
  ·simp at hf
   refine goB ?_
   rw [wrap_succ (by omega)]
   refine ⟨k+1,⟨by omega,fun ho ⟨i,j',h1,h2,h3⟩=>?_⟩,by omega,.wk⟩
   by_cases e:i=k
   ·subst e
    rcases Nat.lt_or_ge j i with h|h
    ·exact ho (hf h)
    ·exact hm ho j' (by omega) h3
   ·exact hn ho ⟨i,j',h1,by omega,h3⟩
 simp at hd
 have hkl:k=s.vars.length:=by omega
 subst hkl
 clear hd hk
 refine goB ?_
 refine ARun.p1 rfl rfl (pl_append_nil (es:=l.map .int) (by simp +decide only [go_sem]<;>rfl) (by simp +decide only [go_sem]<;>rfl) Tryd.underlying25 el3 (fun e he=>by obtain ⟨x,_,rfl⟩:=List.mem_map.1 he;exact ⟨rfl,rfl⟩) (by simp;omega) (by simp;omega)) ?_
 refine goB ?_
 have eN:∀k,k<s.vars.length→(s.vars.take (k+1)).map (nth 0 l)=(s.vars.take k).map (nth 0 l)++[nth 0 l (nth 0 s.vars k)]:=fun k hk=>by
  rw [List.take_succ_eq_append_getElem hk,nth_eq hk,List.map_append];rfl
 have hgl0:=fun g r j=>goneJ_len l g r j
 refine keA [0,2,4,12,13,6,7] ?_
 refine AWp.loopH (J:=fun k:Nat=>k≤s.vars.length∧(m=true→∀i:Nat,i<k→nth 0 l (nth 0 s.vars i)≠0)) (fun k=>[(13,.int k)]) (fun k=>[⟨70,6,[encS s]⟩,⟨3,1,(goneJ l ((s.vars.take k).map (nth 0 l)) 0 0).map .int⟩]) (fun k=>s.vars.length-k) 0 ⟨Nat.zero_le _,fun _ i h=>by omega⟩ (.env2 (by simp [goneJ_nil];rfl) (by simp (decide:=true) only [go_sem])) ?_
 rintro k ⟨hk,hz⟩
 repeat (first|(with_reducible first|apply zs|apply zN|apply z1|apply z2|apply z3|apply z4|apply z5|apply z6|refine z7 rfl ?_|apply zb|apply zk|apply zr|apply ze|apply y1|apply y2)|((with_reducible apply zR);(refine ⟨rfl,rfl,?_⟩;simp +decide only [go_sem,List.map];rfl))|((with_reducible apply zG);(simp +decide only [go_sem,hgl0];rfl);(simp +decide only [go_sem,hgl0];(repeat simp +decide only [go_sem,hgl0]);rfl))|(refine zp rfl rfl (pl_box (by simp +decide only [go_sem,hgl0];rfl) rfl) ?_)|(refine zp rfl rfl (pl_alloc (by simp only [go_sem];rfl) rfl) ?_)|(refine zp rfl rfl (pl_store (by simp +decide only [go_sem,hgl0];rfl) (by simp +decide only [go_sem,hgl0];rfl) (by simp +decide only [go_sem];rfl) (by rfl) (by rfl) (by kernel_rfl) (by rfl) (by rfl)) ?_)|(refine zq rfl rfl (qi rfl rfl (by simp only [go_sem];rfl) (by first|omega|(simp;omega)) (by kernel_rfl)) ?_)|(refine zq rfl rfl (qo rfl rfl (by simp only [go_sem];rfl) rfl (by first|omega|(simp;omega)) (by simp only [go_sem]<;>rfl)) ?_)|(refine zq rfl rfl (qw 0 _ rfl rfl (by first|rfl|(simp only [Nat.zero_add]<;>rfl)) (by first|omega|(simp;omega)) (by simp only [go_sem]<;>rfl)) ?_)|(refine zq rfl rfl (qb (by simp only [go_sem];rfl) (by simp only [go_sem];rfl) (by decide) (by kernel_rfl) (by simp +decide only [List.map,go_sem]<;>rfl) (by simp +decide only [List.map,go_sem]<;>rfl) (by rfl)) ?_)|(refine zq rfl rfl (qn rfl rfl) ?_)|(refine zq rfl rfl (qx rfl rfl) ?_)|fail)
 refine ifA (fun hd=>?_) (fun hd=>?_)
 ·simp at hd
  obtain ⟨v0,v1⟩:=hvn k hd
  refine goB ?_
  refine ifA (fun he=>?_) (fun he=>?_)
  ·simp at he
   refine goB ?_
   have e1:sentE l s m=220:=by
    have h1:¬(s.op≠8∧dupL l s.vars s.vars.length):=fun h=>hn h.1 h.2
    have h2:m=true∧∃k:Nat,k<s.vars.length∧nth 0 l (nth 0 s.vars k)=0:=⟨he.1,k,hd,he.2⟩
    rw [sentE,if_neg (by simp [hna]),if_neg h1,if_pos h2]
   exact ret_err rfl (by simp [sentL,e1]) e1.symm
  simp at he
  refine goB ?_
  generalize hr:nth 0 l (nth 0 s.vars k)=r at *
  generalize hg:(s.vars.take k).map (nth 0 l)=g at *
  refine keA [0,2,4,12,13,14,15,6,7] ?_
  refine AWp.loopH (J:=fun j:Nat=>j≤l.length) (fun j=>[(15,.int j)]) (fun j=>[⟨70,6,[encS s]⟩,⟨3,1,(goneJ l g r j).map .int⟩]) (fun j=>l.length-j) 0 (Nat.zero_le _) (.env2 (by rw [goneJ_r l g 0 r];rfl) (by simp (decide:=true) only [go_sem])) ?_
  intro j hj
  have hgl:=goneJ_len l g r j
  repeat (first|(with_reducible first|apply zs|apply zN|apply z1|apply z2|apply z3|apply z4|apply z5|apply z6|refine z7 rfl ?_|apply zb|apply zk|apply zr|apply ze|apply y1|apply y2)|((with_reducible apply zR);(refine ⟨rfl,rfl,?_⟩;simp +decide only [go_sem,List.map];rfl))|((with_reducible apply zG);(simp +decide only [go_sem,hgl];rfl);(simp +decide only [go_sem,hgl];(repeat simp +decide only [go_sem,hgl]);rfl))|(refine zp rfl rfl (pl_box (by simp +decide only [go_sem,hgl];rfl) rfl) ?_)|(refine zp rfl rfl (pl_alloc (by simp only [go_sem];rfl) rfl) ?_)|(refine zp rfl rfl (pl_store (by simp +decide only [go_sem,hgl];rfl) (by simp +decide only [go_sem,hgl];rfl) (by simp +decide only [go_sem];rfl) (by rfl) (by rfl) (by kernel_rfl) (by rfl) (by rfl)) ?_)|(refine zq rfl rfl (qi rfl rfl (by simp only [go_sem];rfl) (by first|omega|(simp;omega)) (by kernel_rfl)) ?_)|(refine zq rfl rfl (qo rfl rfl (by simp only [go_sem];rfl) rfl (by first|omega|(simp;omega)) (by simp only [go_sem]<;>rfl)) ?_)|(refine zq rfl rfl (qw 0 _ rfl rfl (by first|rfl|(simp only [Nat.zero_add]<;>rfl)) (by first|omega|(simp;omega)) (by simp only [go_sem]<;>rfl)) ?_)|(refine zq rfl rfl (qb (by simp only [go_sem];rfl) (by simp only [go_sem];rfl) (by decide) (by kernel_rfl) (by simp +decide only [List.map,go_sem]<;>rfl) (by simp +decide only [List.map,go_sem]<;>rfl) (by rfl)) ?_)|(refine zq rfl rfl (qn rfl rfl) ?_)|(refine zq rfl rfl (qx rfl rfl) ?_)|fail)
  refine ifA (fun hf=>?_) (fun hf=>?_)
  ·simp at hf
   repeat (first|(with_reducible first|apply zs|apply zN|apply z1|apply z2|apply z3|apply z4|apply z5|apply z6|refine z7 rfl ?_|apply zb|apply zk|apply zr|apply ze|apply y1|apply y2)|((with_reducible apply zR);(refine ⟨rfl,rfl,?_⟩;simp +decide only [go_sem,List.map];rfl))|((with_reducible apply zG);(simp +decide only [go_sem,hgl];rfl);(simp +decide only [go_sem,hgl];(repeat simp +decide only [go_sem,hgl]);rfl))|(refine zp rfl rfl (pl_box (by simp +decide only [go_sem,hgl];rfl) rfl) ?_)|(refine zp rfl rfl (pl_alloc (by simp only [go_sem];rfl) rfl) ?_)|(refine zp rfl rfl (pl_store (by simp +decide only [go_sem,hgl];rfl) (by simp +decide only [go_sem,hgl];rfl) (by simp +decide only [go_sem];rfl) (by rfl) (by rfl) (by kernel_rfl) (by rfl) (by rfl)) ?_)|(refine zq rfl rfl (qi rfl rfl (by simp only [go_sem];rfl) (by first|omega|(simp;omega)) (by kernel_rfl)) ?_)|(refine zq rfl rfl (qo rfl rfl (by simp only [go_sem];rfl) rfl (by first|omega|(simp;omega)) (by simp only [go_sem]<;>rfl)) ?_)|(refine zq rfl rfl (qw 0 _ rfl rfl (by first|rfl|(simp only [Nat.zero_add]<;>rfl)) (by first|omega|(simp;omega)) (by simp only [go_sem]<;>rfl)) ?_)|(refine zq rfl rfl (qb (by simp only [go_sem];rfl) (by simp only [go_sem];rfl) (by decide) (by kernel_rfl) (by simp +decide only [List.map,go_sem]<;>rfl) (by simp +decide only [List.map,go_sem]<;>rfl) (by rfl)) ?_)|(refine zq rfl rfl (qn rfl rfl) ?_)|(refine zq rfl rfl (qx rfl rfl) ?_)|fail)
   refine ifA (fun hq=>?_) (fun hq=>?_)
   ·simp at hq
    repeat (first|(with_reducible first|apply zs|apply zN|apply z1|apply z2|apply z3|apply z4|apply z5|apply z6|refine z7 rfl ?_|apply zb|apply zk|apply zr|apply ze|apply y1|apply y2)|((with_reducible apply zR);(refine ⟨rfl,rfl,?_⟩;simp +decide only [go_sem,List.map];rfl))|((with_reducible apply zG);(simp +decide only [go_sem,hgl];rfl);(simp +decide only [go_sem,hgl];(repeat simp +decide only [go_sem,hgl]);rfl))|(refine zp rfl rfl (pl_box (by simp +decide only [go_sem,hgl];rfl) rfl) ?_)|(refine zp rfl rfl (pl_alloc (by simp only [go_sem];rfl) rfl) ?_)|(refine zp rfl rfl (pl_store (by simp +decide only [go_sem,hgl];rfl) (by simp +decide only [go_sem,hgl];rfl) (by simp +decide only [go_sem];rfl) (by rfl) (by rfl) (by kernel_rfl) (by rfl) (by rfl)) ?_)|(refine zq rfl rfl (qi rfl rfl (by simp only [go_sem];rfl) (by first|omega|(simp;omega)) (by kernel_rfl)) ?_)|(refine zq rfl rfl (qo rfl rfl (by simp only [go_sem];rfl) rfl (by first|omega|(simp;omega)) (by simp only [go_sem]<;>rfl)) ?_)|(refine zq rfl rfl (qw 0 _ rfl rfl (by first|rfl|(simp only [Nat.zero_add]<;>rfl)) (by first|omega|(simp;omega)) (by simp only [go_sem]<;>rfl)) ?_)|(refine zq rfl rfl (qb (by simp only [go_sem];rfl) (by simp only [go_sem];rfl) (by decide) (by kernel_rfl) (by simp +decide only [List.map,go_sem]<;>rfl) (by simp +decide only [List.map,go_sem]<;>rfl) (by rfl)) ?_)|(refine zq rfl rfl (qn rfl rfl) ?_)|(refine zq rfl rfl (qx rfl rfl) ?_)|fail)
    refine ARun.p1 rfl rfl (pl_store_own (l:=goneJ l g r j) (f:=AV.int) (-2) (by simp +decide only [go_sem]<;>rfl) (by simp +decide only [go_sem]<;>rfl) rfl hgl (by omega) (by kernel_rfl) rfl rfl) ?_
    repeat (first|(with_reducible first|apply zs|apply zN|apply z1|apply z2|apply z3|apply z4|apply z5|apply z6|refine z7 rfl ?_|apply zb|apply zk|apply zr|apply ze|apply y1|apply y2)|((with_reducible apply zR);(refine ⟨rfl,rfl,?_⟩;simp +decide only [go_sem,List.map];rfl))|((with_reducible apply zG);(simp +decide only [go_sem,hgl];rfl);(simp +decide only [go_sem,hgl];(repeat simp +decide only [go_sem,hgl]);rfl))|(refine zp rfl rfl (pl_box (by simp +decide only [go_sem,hgl];rfl) rfl) ?_)|(refine zp rfl rfl (pl_alloc (by simp only [go_sem];rfl) rfl) ?_)|(refine zp rfl rfl (pl_store (by simp +decide only [go_sem,hgl];rfl) (by simp +decide only [go_sem,hgl];rfl) (by simp +decide only [go_sem];rfl) (by rfl) (by rfl) (by kernel_rfl) (by rfl) (by rfl)) ?_)|(refine zq rfl rfl (qi rfl rfl (by simp only [go_sem];rfl) (by first|omega|(simp;omega)) (by kernel_rfl)) ?_)|(refine zq rfl rfl (qo rfl rfl (by simp only [go_sem];rfl) rfl (by first|omega|(simp;omega)) (by simp only [go_sem]<;>rfl)) ?_)|(refine zq rfl rfl (qw 0 _ rfl rfl (by first|rfl|(simp only [Nat.zero_add]<;>rfl)) (by first|omega|(simp;omega)) (by simp only [go_sem]<;>rfl)) ?_)|(refine zq rfl rfl (qb (by simp only [go_sem];rfl) (by simp only [go_sem];rfl) (by decide) (by kernel_rfl) (by simp +decide only [List.map,go_sem]<;>rfl) (by simp +decide only [List.map,go_sem]<;>rfl) (by rfl)) ?_)|(refine zq rfl rfl (qn rfl rfl) ?_)|(refine zq rfl rfl (qx rfl rfl) ?_)|fail)
    rw [wrap_succ (by omega)]
    refine ⟨j+1,by omega,by omega,.env2 (by simp only [List.set_cons_succ,List.set_cons_zero,goneJ_hit hq hf];rfl) (by simp (decide:=true) only [go_sem])⟩
   ·simp at hq
    repeat (first|(with_reducible first|apply zs|apply zN|apply z1|apply z2|apply z3|apply z4|apply z5|apply z6|refine z7 rfl ?_|apply zb|apply zk|apply zr|apply ze|apply y1|apply y2)|((with_reducible apply zR);(refine ⟨rfl,rfl,?_⟩;simp +decide only [go_sem,List.map];rfl))|((with_reducible apply zG);(simp +decide only [go_sem,hgl];rfl);(simp +decide only [go_sem,hgl];(repeat simp +decide only [go_sem,hgl]);rfl))|(refine zp rfl rfl (pl_box (by simp +decide only [go_sem,hgl];rfl) rfl) ?_)|(refine zp rfl rfl (pl_alloc (by simp only [go_sem];rfl) rfl) ?_)|(refine zp rfl rfl (pl_store (by simp +decide only [go_sem,hgl];rfl) (by simp +decide only [go_sem,hgl];rfl) (by simp +decide only [go_sem];rfl) (by rfl) (by rfl) (by kernel_rfl) (by rfl) (by rfl)) ?_)|(refine zq rfl rfl (qi rfl rfl (by simp only [go_sem];rfl) (by first|omega|(simp;omega)) (by kernel_rfl)) ?_)|(refine zq rfl rfl (qo rfl rfl (by simp only [go_sem];rfl) rfl (by first|omega|(simp;omega)) (by simp only [go_sem]<;>rfl)) ?_)|(refine zq rfl rfl (qw 0 _ rfl rfl (by first|rfl|(simp only [Nat.zero_add]<;>rfl)) (by first|omega|(simp;omega)) (by simp only [go_sem]<;>rfl)) ?_)|(refine zq rfl rfl (qb (by simp only [go_sem];rfl) (by simp only [go_sem];rfl) (by decide) (by kernel_rfl) (by simp +decide only [List.map,go_sem]<;>rfl) (by simp +decide only [List.map,go_sem]<;>rfl) (by rfl)) ?_)|(refine zq rfl rfl (qn rfl rfl) ?_)|(refine zq rfl rfl (qx rfl rfl) ?_)|fail)
    rw [wrap_succ (by omega)]
    refine ⟨j+1,by omega,by omega,.env2 (by rw [goneJ_miss hq];rfl) (by simp (decide:=true) only [go_sem])⟩
  ·simp at hf
   have hjl:j=l.length:=by omega
   subst hjl
   repeat (first|(with_reducible first|apply zs|apply zN|apply z1|apply z2|apply z3|apply z4|apply z5|apply z6|refine z7 rfl ?_|apply zb|apply zk|apply zr|apply ze|apply y1|apply y2)|((with_reducible apply zR);(refine ⟨rfl,rfl,?_⟩;simp +decide only [go_sem,List.map];rfl))|((with_reducible apply zG);(simp +decide only [go_sem,hgl];rfl);(simp +decide only [go_sem,hgl];(repeat simp +decide only [go_sem,hgl]);rfl))|(refine zp rfl rfl (pl_box (by simp +decide only [go_sem,hgl];rfl) rfl) ?_)|(refine zp rfl rfl (pl_alloc (by simp only [go_sem];rfl) rfl) ?_)|(refine zp rfl rfl (pl_store (by simp +decide only [go_sem,hgl];rfl) (by simp +decide only [go_sem,hgl];rfl) (by simp +decide only [go_sem];rfl) (by rfl) (by rfl) (by kernel_rfl) (by rfl) (by rfl)) ?_)|(refine zq rfl rfl (qi rfl rfl (by simp only [go_sem];rfl) (by first|omega|(simp;omega)) (by kernel_rfl)) ?_)|(refine zq rfl rfl (qo rfl rfl (by simp only [go_sem];rfl) rfl (by first|omega|(simp;omega)) (by simp only [go_sem]<;>rfl)) ?_)|(refine zq rfl rfl (qw 0 _ rfl rfl (by first|rfl|(simp only [Nat.zero_add]<;>rfl)) (by first|omega|(simp;omega)) (by simp only [go_sem]<;>rfl)) ?_)|(refine zq rfl rfl (qb (by simp only [go_sem];rfl) (by simp only [go_sem];rfl) (by decide) (by kernel_rfl) (by simp +decide only [List.map,go_sem]<;>rfl) (by simp +decide only [List.map,go_sem]<;>rfl) (by rfl)) ?_)|(refine zq rfl rfl (qn rfl rfl) ?_)|(refine zq rfl rfl (qx rfl rfl) ?_)|fail)
   rw [wrap_succ (by omega)]
   refine ⟨k+1,⟨by omega,fun hm i hi=>?_⟩,by omega,.env2 (by rw [goneJ_end l g r 0,eN k hd,hg,hr];rfl) (by simp (decide:=true) only [go_sem])⟩
   by_cases e:i=k
   ·subst e;rw [hr];exact he hm
   ·exact hz hm i (by omega)
 simp at hd
 have hkl:k=s.vars.length:=by omega
 subst hkl
 have e1:sentE l s m=0:=by
  have h1:¬(s.op≠8∧dupL l s.vars s.vars.length):=fun h=>hn h.1 h.2
  have h2:¬(m=true∧∃k:Nat,k<s.vars.length∧nth 0 l (nth 0 s.vars k)=0):=fun ⟨h,k,h3,h4⟩=>hz h k h3 h4
  rw [sentE,if_neg (by simp [hna]),if_neg h1,if_neg h2]
 rw [show sentL l s m=goneJ l (s.vars.map (nth 0 l)) 0 0 by simp [sentL,e1],e1]
 rw [List.take_length]
 refine goB ?_
 exact Ret.pub rfl (.tup' ⟨.ownM (Nat.zero_le _) rfl (goneJ_len ..) (Pu_cellI _),.pu (.base _),trivial⟩)
end Go.Ab.Rg
