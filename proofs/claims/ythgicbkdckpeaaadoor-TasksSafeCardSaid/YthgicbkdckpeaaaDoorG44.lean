/- Part of the proof. -/
import Derived.Test.YthgicbkdckpeaaaDoorG43
set_option linter.unusedSimpArgs false
set_option linter.unusedVariables false
namespace Go.Ab.Rg
open Go Go.Ab Go.Proofs Go.Ab.Ty
set_option maxHeartbeats 2000000
def linkJ (l:List Int) (a b:Int) (j:Nat):List Int:=(List.range l.length).map fun i:Nat=>if i<j∧nth 0 l i=b then a else nth 0 l i
theorem linkJ_len (l:List Int) (a b:Int) (j:Nat):(linkJ l a b j).length=l.length:=by simp [linkJ]
theorem linkJ_0 (l:List Int) (a b:Int):linkJ l a b 0=l:=by
 apply List.ext_getElem
 ·simp [linkJ]
 ·intro i h1 h2;simp [linkJ,nth_eq h2]
theorem linkJ_get (l:List Int) (a b:Int) (j:Nat) (hj:j<l.length):nth 0 (linkJ l a b j) j=nth 0 l j:=by
 rw [nth_eq (by simpa [linkJ_len] using hj)];simp [linkJ]
theorem linkJ_hit {l:List Int} {a b:Int} {j:Nat} (h:nth 0 l j=b) (hj:j<l.length):(linkJ l a b j).set j a=linkJ l a b (j+1):=by
 apply List.ext_getElem
 ·simp [linkJ]
 ·intro i h1 h2
  simp only [linkJ,List.getElem_set,List.getElem_map,List.getElem_range]
  by_cases e:j=i
  ·subst e;simp [h]
  ·simp only [e,if_false]
   by_cases e2:i<j
   ·simp [e2,show i<j+1 by omega]
   ·simp [e2,show ¬i<j+1 by omega]
theorem linkJ_miss {l:List Int} {a b:Int} {j:Nat} (h:nth 0 l j≠b):linkJ l a b j=linkJ l a b (j+1):=by
 unfold linkJ
 apply List.map_congr_left
 intro i hi
 by_cases e:i=j
 ·subst e;simp [h]
 ·by_cases e2:i<j
  ·simp [e2,show i<j+1 by omega]
  ·simp [e2,show ¬i<j+1 by omega]
noncomputable def stepE (l:List Int) (s:Stp) (m:Bool):Int:=
 if s.op=1 then 0 else if s.op=2 then needF l s.w else if s.op=3 then (if needF l s.v≠0 then needF l s.v else needF l s.w) else if s.op=4∨s.op=5 then needF l s.v else
 if s.op=6∨s.op=8∨s.op=9 then sentE l s m else 0
noncomputable def stepL (l:List Int) (s:Stp) (m:Bool) (fresh:Int):List Int:=
 if stepE l s m≠0 then [] else
 if s.op=1 then l.set s.v.toNat fresh else if s.op=2 then l.set s.v.toNat (nth 0 l s.w) else if s.op=3 then linkJ l (min (nth 0 l s.v) (nth 0 l s.w)) (max (nth 0 l s.v) (nth 0 l s.w)) l.length else if s.op=4∨s.op=5 then l else
 if s.op=6∨s.op=8∨s.op=9 then sentL l s m else l
def inL (n:Nat) (s:Stp):Prop:=(u1 s.op→0≤s.v∧s.v<n)∧(u2 s.op→0≤s.w∧s.w<n)∧(u5 s.op→s.vars.length≤1000∧∀v∈s.vars,0≤v∧v<n)
theorem ret_ok {P:Program} {s:ASt} {rs:List ResultVar} {b n ty sz:Nat} {e e':Int} {l l':List Int} (h:resVals P s rs=some [.own b n 0 n,.int e]) (hb:s.H[b]?=some ⟨ty,sz,l.map .int⟩) (hn:l.length=n) (hl:l=l') (he:e=e'):Ret P rs (encLE l' e') s:=
 Ret.pub h (by subst hl he;exact .tup' ⟨.ownM (Nat.zero_le _) hb hn (Pu_cellI _),.pu (.base _),trivial⟩)
theorem Pu_LE (l:List Int) (e:Int):Pu (encLE l e):=.tup fun c hc=>by
 simp only [List.mem_cons,List.not_mem_nil,or_false] at hc
 rcases hc with rfl|rfl
 ·exact Pu_mapInt _
 ·exact .base _
theorem refStep_ok (l:List Int) (s:Stp) (m:Bool) (fresh:Int) (h:inL l.length s) (hl8:l.length≤8):Fn Tryd.prog 100 [.lst (l.map .int),encS s,.bool m,.int fresh] (encLE (stepL l s m fresh) (stepE l s m)):=by
 refine Fn.intro' [(0,.lst (l.map .int)),(1,encS s),(2,.bool m),(3,.int fresh)] 4 122 Tryd.func100 (by kernel_rfl) rfl rfl rfl rfl rfl ?_
 obtain ⟨hv,hw,hvs⟩:=h
 let S:=fun (t:Nat) (b:Bool)=>(⟨[(t,.bool b),(0,.lst (l.map .int)),(2,.bool m),(5,.ptr 0 1 0 0),(8,.base (.slice none 0 0)),(9,.int 0),(10,.own 1 l.length 0 l.length),(21,.int s.op)],[⟨70,6,[encS s]⟩,⟨3,1,l.map .int⟩]⟩:ASt)
 refine goB ?_
 refine ARun.p1 rfl rfl (pl_append_nil (es:=l.map .int) (by simp +decide only [go_sem]<;>rfl) (by simp +decide only [go_sem]<;>rfl) Tryd.underlying25 el3 (fun e he=>by obtain ⟨x,_,rfl⟩:=List.mem_map.1 he;exact ⟨rfl,rfl⟩) (by simp;omega) (by simp;omega)) ?_
 refine goB ?_
 refine ifA (fun h1=>?_) (fun h1=>?_)
 ·simp at h1
  obtain ⟨v0,v1⟩:=hv (by unfold u1;omega)
  refine goB ?_
  refine ARun.p1 rfl rfl (pl_store_own (l:=l) (f:=AV.int) fresh (by simp +decide only [go_sem]<;>rfl) (by simp +decide only [go_sem]<;>rfl) rfl rfl (by omega) (by kernel_rfl) rfl rfl) ?_
  refine goB ?_
  exact ret_ok rfl rfl (by simp) (by simp [stepL,stepE,h1]) (by simp [stepE,h1])
 simp at h1
 refine goB ?_
 refine ifA (fun h2=>?_) (fun h2=>?_)
 ·simp at h2
  obtain ⟨v0,v1⟩:=hv (by unfold u1;omega)
  obtain ⟨w0,w1⟩:=hw (by unfold u2;omega)
  refine goB ?_
  refine callA (need_ok l s.w w0 w1) ?_
  refine goB ?_
  refine ifA (fun hm=>?_) (fun hm=>?_)
  ·simp at hm
   refine goB ?_
   exact ret_err rfl (by simp [stepL,stepE,h2,hm]) (by simp [stepE,h2])
  simp at hm
  refine goB ?_
  refine drA (k:=8) follows (hr:=?_)
  refine goB ?_
  refine ARun.p1 rfl rfl (pl_store_own (l:=l) (f:=AV.int) (nth 0 l s.w) (by simp +decide only [go_sem]<;>rfl) (by simp +decide only [go_sem]<;>rfl) rfl rfl (by omega) (by kernel_rfl) rfl rfl) ?_
  refine goB ?_
  exact ret_ok rfl rfl (by simp) (by simp [stepL,stepE,h2,hm]) (by simp [stepE,h2,hm])
 simp at h2
 refine goB ?_
 refine ifA (fun h3=>?_) (fun h3=>?_)
 ·simp at h3
  obtain ⟨v0,v1⟩:=hv (by unfold u1;omega)
  obtain ⟨w0,w1⟩:=hw (by unfold u2;omega)
  refine goB ?_
  refine drA (k:=8) follows (hr:=?_)
  refine goB ?_
  refine callA (need_ok l s.v v0 v1) ?_
  refine goB ?_
  refine callA (need_ok l s.w w0 w1) ?_
  refine goB ?_
  refine ifA (fun hm=>?_) (fun hm=>?_)
  ·simp at hm
   refine goB ?_
   exact ret_err rfl (by simp [stepL,stepE,h3,hm]) (by simp [stepE,h3,hm])
  simp at hm
  refine goB ?_
  refine ifA (fun hm2=>?_) (fun hm2=>?_)
  ·simp at hm2
   refine goB ?_
   exact ret_err rfl (by simp [stepL,stepE,h3,hm,hm2]) (by simp [stepE,h3,hm])
  simp at hm2
  refine goB ?_
  refine drA (k:=24) follows (hr:=?_)
  refine goB ?_
  generalize ha:min (nth 0 l s.v) (nth 0 l s.w)=a
  generalize hb:max (nth 0 l s.v) (nth 0 l s.w)=b
  refine keA [10,14,15,16] ?_
  refine AWp.loopH (J:=fun j:Nat=>j≤l.length) (fun j=>[(16,.int j)]) (fun j=>[⟨70,6,[encS s]⟩,⟨3,1,(linkJ l a b j).map .int⟩]) (fun j=>l.length-j) 0 (Nat.zero_le _) (.env2 (by rw [linkJ_0];rfl) (by simp (decide:=true) only [go_sem])) ?_
  intro j hj
  have hgl:=linkJ_len l a b j
  repeat (first|(with_reducible first|apply zs|apply zN|apply z1|apply z2|apply z3|apply z4|apply z5|apply z6|refine z7 rfl ?_|apply zb|apply zk|apply zr|apply ze|apply y1|apply y2)|((with_reducible apply zR);(refine ⟨rfl,rfl,?_⟩;simp +decide only [go_sem,List.map];rfl))|((with_reducible apply zG);(simp +decide only [go_sem,hgl];rfl);(simp +decide only [go_sem,hgl];(repeat simp +decide only [go_sem,hgl]);rfl))|(refine zp rfl rfl (pl_box (by simp +decide only [go_sem,hgl];rfl) rfl) ?_)|(refine zp rfl rfl (pl_alloc (by simp only [go_sem];rfl) rfl) ?_)|(refine zp rfl rfl (pl_store (by simp +decide only [go_sem,hgl];rfl) (by simp +decide only [go_sem,hgl];rfl) (by simp +decide only [go_sem];rfl) (by rfl) (by rfl) (by kernel_rfl) (by rfl) (by rfl)) ?_)|(refine zq rfl rfl (qi rfl rfl (by simp only [go_sem];rfl) (by first|omega|(simp;omega)) (by kernel_rfl)) ?_)|(refine zq rfl rfl (qo rfl rfl (by simp only [go_sem];rfl) rfl (by first|omega|(simp;omega)) (by simp only [go_sem]<;>rfl)) ?_)|(refine zq rfl rfl (qw 0 _ rfl rfl (by first|rfl|(simp only [Nat.zero_add]<;>rfl)) (by first|omega|(simp;omega)) (by simp only [go_sem]<;>rfl)) ?_)|(refine zq rfl rfl (qb (by simp only [go_sem];rfl) (by simp only [go_sem];rfl) (by decide) (by kernel_rfl) (by simp +decide only [List.map,go_sem]<;>rfl) (by simp +decide only [List.map,go_sem]<;>rfl) (by rfl)) ?_)|(refine zq rfl rfl (qn rfl rfl) ?_)|(refine zq rfl rfl (qx rfl rfl) ?_)|fail)
  refine ifA (fun hf=>?_) (fun hf=>?_)
  ·simp at hf
   have hget:=linkJ_get l a b j hf
   repeat (first|(with_reducible first|apply zs|apply zN|apply z1|apply z2|apply z3|apply z4|apply z5|apply z6|refine z7 rfl ?_|apply zb|apply zk|apply zr|apply ze|apply y1|apply y2)|((with_reducible apply zR);(refine ⟨rfl,rfl,?_⟩;simp +decide only [go_sem,List.map];rfl))|((with_reducible apply zG);(simp +decide only [go_sem,hgl,hget];rfl);(simp +decide only [go_sem,hgl,hget];(repeat simp +decide only [go_sem,hgl,hget]);rfl))|(refine zp rfl rfl (pl_box (by simp +decide only [go_sem,hgl,hget];rfl) rfl) ?_)|(refine zp rfl rfl (pl_alloc (by simp only [go_sem];rfl) rfl) ?_)|(refine zp rfl rfl (pl_store (by simp +decide only [go_sem,hgl,hget];rfl) (by simp +decide only [go_sem,hgl,hget];rfl) (by simp +decide only [go_sem];rfl) (by rfl) (by rfl) (by kernel_rfl) (by rfl) (by rfl)) ?_)|(refine zq rfl rfl (qi rfl rfl (by simp only [go_sem];rfl) (by first|omega|(simp;omega)) (by kernel_rfl)) ?_)|(refine zq rfl rfl (qo rfl rfl (by simp only [go_sem];rfl) rfl (by first|omega|(simp;omega)) (by simp only [go_sem]<;>rfl)) ?_)|(refine zq rfl rfl (qw 0 _ rfl rfl (by first|rfl|(simp only [Nat.zero_add]<;>rfl)) (by first|omega|(simp;omega)) (by simp only [go_sem]<;>rfl)) ?_)|(refine zq rfl rfl (qb (by simp only [go_sem];rfl) (by simp only [go_sem];rfl) (by decide) (by kernel_rfl) (by simp +decide only [List.map,go_sem]<;>rfl) (by simp +decide only [List.map,go_sem]<;>rfl) (by rfl)) ?_)|(refine zq rfl rfl (qn rfl rfl) ?_)|(refine zq rfl rfl (qx rfl rfl) ?_)|fail)
   refine ifA (fun hq=>?_) (fun hq=>?_)
   ·simp at hq
    repeat (first|(with_reducible first|apply zs|apply zN|apply z1|apply z2|apply z3|apply z4|apply z5|apply z6|refine z7 rfl ?_|apply zb|apply zk|apply zr|apply ze|apply y1|apply y2)|((with_reducible apply zR);(refine ⟨rfl,rfl,?_⟩;simp +decide only [go_sem,List.map];rfl))|((with_reducible apply zG);(simp +decide only [go_sem,hgl];rfl);(simp +decide only [go_sem,hgl];(repeat simp +decide only [go_sem,hgl]);rfl))|(refine zp rfl rfl (pl_box (by simp +decide only [go_sem,hgl];rfl) rfl) ?_)|(refine zp rfl rfl (pl_alloc (by simp only [go_sem];rfl) rfl) ?_)|(refine zp rfl rfl (pl_store (by simp +decide only [go_sem,hgl];rfl) (by simp +decide only [go_sem,hgl];rfl) (by simp +decide only [go_sem];rfl) (by rfl) (by rfl) (by kernel_rfl) (by rfl) (by rfl)) ?_)|(refine zq rfl rfl (qi rfl rfl (by simp only [go_sem];rfl) (by first|omega|(simp;omega)) (by kernel_rfl)) ?_)|(refine zq rfl rfl (qo rfl rfl (by simp only [go_sem];rfl) rfl (by first|omega|(simp;omega)) (by simp only [go_sem]<;>rfl)) ?_)|(refine zq rfl rfl (qw 0 _ rfl rfl (by first|rfl|(simp only [Nat.zero_add]<;>rfl)) (by first|omega|(simp;omega)) (by simp only [go_sem]<;>rfl)) ?_)|(refine zq rfl rfl (qb (by simp only [go_sem];rfl) (by simp only [go_sem];rfl) (by decide) (by kernel_rfl) (by simp +decide only [List.map,go_sem]<;>rfl) (by simp +decide only [List.map,go_sem]<;>rfl) (by rfl)) ?_)|(refine zq rfl rfl (qn rfl rfl) ?_)|(refine zq rfl rfl (qx rfl rfl) ?_)|fail)
    refine ARun.p1 rfl rfl (pl_store_own (l:=linkJ l a b j) (f:=AV.int) a (by simp +decide only [go_sem]<;>rfl) (by simp +decide only [go_sem]<;>rfl) rfl hgl (by omega) (by kernel_rfl) rfl rfl) ?_
    repeat (first|(with_reducible first|apply zs|apply zN|apply z1|apply z2|apply z3|apply z4|apply z5|apply z6|refine z7 rfl ?_|apply zb|apply zk|apply zr|apply ze|apply y1|apply y2)|((with_reducible apply zR);(refine ⟨rfl,rfl,?_⟩;simp +decide only [go_sem,List.map];rfl))|((with_reducible apply zG);(simp +decide only [go_sem,hgl];rfl);(simp +decide only [go_sem,hgl];(repeat simp +decide only [go_sem,hgl]);rfl))|(refine zp rfl rfl (pl_box (by simp +decide only [go_sem,hgl];rfl) rfl) ?_)|(refine zp rfl rfl (pl_alloc (by simp only [go_sem];rfl) rfl) ?_)|(refine zp rfl rfl (pl_store (by simp +decide only [go_sem,hgl];rfl) (by simp +decide only [go_sem,hgl];rfl) (by simp +decide only [go_sem];rfl) (by rfl) (by rfl) (by kernel_rfl) (by rfl) (by rfl)) ?_)|(refine zq rfl rfl (qi rfl rfl (by simp only [go_sem];rfl) (by first|omega|(simp;omega)) (by kernel_rfl)) ?_)|(refine zq rfl rfl (qo rfl rfl (by simp only [go_sem];rfl) rfl (by first|omega|(simp;omega)) (by simp only [go_sem]<;>rfl)) ?_)|(refine zq rfl rfl (qw 0 _ rfl rfl (by first|rfl|(simp only [Nat.zero_add]<;>rfl)) (by first|omega|(simp;omega)) (by simp only [go_sem]<;>rfl)) ?_)|(refine zq rfl rfl (qb (by simp only [go_sem];rfl) (by simp only [go_sem];rfl) (by decide) (by kernel_rfl) (by simp +decide only [List.map,go_sem]<;>rfl) (by simp +decide only [List.map,go_sem]<;>rfl) (by rfl)) ?_)|(refine zq rfl rfl (qn rfl rfl) ?_)|(refine zq rfl rfl (qx rfl rfl) ?_)|fail)
    rw [wrap_succ (by omega)]
    refine ⟨j+1,by omega,by omega,.env2 (by simp only [List.set_cons_succ,List.set_cons_zero,Int.toNat_natCast,linkJ_hit hq hf];rfl) (by simp (decide:=true) only [go_sem])⟩
   ·simp at hq
    refine goB ?_
    rw [wrap_succ (by omega)]
    refine ⟨j+1,by omega,by omega,.env2 (by rw [linkJ_miss hq];rfl) (by simp (decide:=true) only [go_sem])⟩
  ·simp at hf
   have hjl:j=l.length:=by omega
   subst hjl
   refine goB ?_
   exact ret_ok rfl rfl (linkJ_len ..) (by simp [stepL,stepE,h3,hm,hm2,ha,hb]) (by simp [stepE,h3,hm,hm2])
 simp at h3
 refine goB ?_
 refine AWp.join (S 101 (decide (s.op=4∨s.op=5))) ?_ ?_
 ·refine ifA (fun ho=>?_) (fun ho=>?_)
  ·refine goB ?_
   exact .env' (by simp (decide:=true) only [go_sem];simp at ho;simp [ho,Le.refl])
  ·refine goB ?_
   exact .env' (by simp (decide:=true) only [go_sem];simp at ho;simp [ho,Le.refl])
 simp only [S]
 refine ifA (fun h4=>?_) (fun h4=>?_)
 ·simp at h4
  obtain ⟨v0,v1⟩:=hv (by unfold u1;omega)
  refine goB ?_
  refine callA (need_ok l s.v v0 v1) ?_
  refine goB ?_
  have e0:stepE l s m=needF l s.v:=by rcases h4 with h|h<;>simp [stepE,h]
  refine ifA (fun hm=>?_) (fun hm=>?_)
  ·simp at hm
   refine goB ?_
   exact ret_err rfl (by simp [stepL,e0,hm]) (by simp [e0])
  simp at hm
  refine goB ?_
  exact ret_ok rfl rfl rfl (by rcases h4 with h|h<;>simp [stepL,e0,hm,h]) (by simp [e0,hm])
 simp at h4
 refine goB ?_
 refine AWp.join (S 111 (decide (s.op=6∨s.op=8∨s.op=9))) ?_ ?_
 ·refine ifA (fun ho=>?_) (fun ho=>?_)
  ·refine goB ?_
   exact .env' (by simp (decide:=true) only [go_sem];simp at ho;simp [ho,Le.refl])
  refine goB ?_
  refine ifA (fun ho2=>?_) (fun ho2=>?_)
  ·refine goB ?_
   exact .env' (by simp (decide:=true) only [go_sem];simp at ho ho2;simp [ho,ho2,Le.refl])
  refine goB ?_
  exact .env' (by simp (decide:=true) only [go_sem];simp at ho ho2;simp [ho,ho2,Le.refl])
 simp only [S]
 refine ifA (fun h6=>?_) (fun h6=>?_)
 ·simp at h6
  obtain ⟨n4,hvs⟩:=hvs (by unfold u5;omega)
  refine goB ?_
  refine callA (sent_ok l s m hvs hl8 n4) ?_
  refine goB ?_
  have e0:stepE l s m=sentE l s m:=by rcases h6 with h|h|h<;>simp [stepE,h]
  have e1:stepL l s m fresh=sentL l s m:=by
   unfold stepL;rw [e0]
   by_cases e:sentE l s m=0
   ·rcases h6 with h|h|h<;>simp [e,h]
   ·simp [e,sentL]
  rw [e0,e1]
  exact Ret.data rfl rfl (Pu_LE _ _)
 simp at h6
 refine goB ?_
 exact ret_ok rfl rfl rfl (by simp [stepL,stepE,h1,h2,h3,h4,h6]) (by simp [stepE,h1,h2,h3,h4,h6])
end Go.Ab.Rg
set_option maxHeartbeats 4000000
namespace Go.Ab.Rg
open Go Go.Ab Go.Proofs Go.Ab.Ty
theorem sentL_len {l:List Int} {s:Stp} {m:Bool} (h:sentE l s m=0):(sentL l s m).length=l.length:=by simp [sentL,h,goneJ_len]
theorem stepL_len {l:List Int} {s:Stp} {m:Bool} {f:Int} (h:stepE l s m=0):(stepL l s m f).length=l.length:=by
 unfold stepL
 rw [if_neg (by simp [h])]
 by_cases h6:s.op=6∨s.op=8∨s.op=9
 ·have:stepE l s m=sentE l s m:=by rcases h6 with h|h|h<;>simp [stepE,h]
  have:=sentL_len (this ▸ h)
  rcases h6 with h|h|h<;>simp [h,this]
 ·repeat' split
  all_goals first|(simp;done)|(simp [linkJ_len];done)|rfl
noncomputable def rsteps (m:Bool):List Int→List Stp→Nat→List Int × Int × Int
 | l,[],k=>(l,0,0)
 | l,s::ss,k=>if stepE l s m=0 then rsteps m (stepL l s m (100+k)) ss (k+1) else ([],k,stepE l s m)
def encL3 (x:List Int × Int × Int):AV:=.tup [.lst (x.1.map .int),.int x.2.1,.int x.2.2]
theorem Pu_L3 (x:List Int × Int × Int):Pu (encL3 x):=.tup fun c hc=>by
 simp only [List.mem_cons,List.not_mem_nil,or_false] at hc
 rcases hc with rfl|rfl|rfl
 ·exact Pu_mapInt _
 ·exact .base _
 ·exact .base _
noncomputable def begin0 (c:Cd) (m:Bool):List Int:=begunF c m c.vars.toNat c.vars.toNat
theorem begin0_len (c:Cd) (m:Bool):(begin0 c m).length=c.vars.toNat:=begunF_len ..
theorem refAfter_ok (c:Cd) (m:Bool) (n:Nat) (h0:0≤c.vars) (h8:c.vars≤8) (hp:c.params≤100) (hn:n≤c.steps.length) (h20:c.steps.length≤1000) (hin:∀s∈c.steps,inL c.vars.toNat s) :
 Fn Tryd.prog 74 [encC c,.bool m,.int n] (encL3 (rsteps m (begin0 c m) (c.steps.take n) 0)):=by
 refine Fn.intro' [(0,encC c),(1,.bool m),(2,.int n)] 3 40 Tryd.func74 (by kernel_rfl) rfl rfl rfl rfl rfl ?_
 refine goB ?_
 refine callA (begun_ok c m h0 h8 hp) ?_
 rw [show begunF c m c.vars.toNat c.vars.toNat=begin0 c m from rfl]
 refine goB ?_
 refine AWp.loopP (J:=fun x:Nat × List Int=>x.1≤n∧x.2.length=c.vars.toNat∧rsteps m (begin0 c m) (c.steps.take n) 0=rsteps m x.2 ((c.steps.take n).drop x.1) x.1) (fun x=>[(10,.int x.1),(9,.lst (x.2.map .int))]) (fun x=>n-x.1) (0,begin0 c m) ⟨Nat.zero_le _,begin0_len ..,rfl⟩ .wk ?_
 rintro ⟨k,l⟩ ⟨hk,hl,hr⟩
 simp only at hk hl hr
 refine goB ?_
 refine ifA (fun hd=>?_) (fun hd=>?_)
 ·simp at hd
  have hks:k<c.steps.length:=by omega
  have hsn:nth stp0 c.steps k=c.steps[k]:=nth_eq hks
  rw [List.drop_eq_getElem_cons (by simp;omega),List.getElem_take,← hsn] at hr
  have hi:inL l.length (nth stp0 c.steps k):=by rw [hl,hsn];exact hin _ (List.getElem_mem hks)
  refine goB ?_
  generalize nth stp0 c.steps k=s at *
  refine goB ?_
  rw [wrap_id (x:=100+(k:Int)) (by omega) (by omega)]
  refine callA (refStep_ok l s m (100+k) hi (by omega)) ?_
  simp only [encLE]
  refine goB ?_
  refine ifA (fun he=>?_) (fun he=>?_)
  ·simp at he
   refine goB ?_
   exact Ret.pub rfl (by rw [hr,rsteps,if_neg he];exact .tup' ⟨.nilS,.pu (.base _),.pu (.base _),trivial⟩)
  ·simp at he
   refine goB ?_
   rw [wrap_succ (by omega)]
   refine ⟨(k+1,stepL l s m (100+k)),⟨by simp only;omega,by simp only;rw [stepL_len he,hl],by simp only;rw [hr,rsteps,if_pos he]⟩,by simp only;omega,.wk⟩
 ·simp at hd
  have hkn:k=n:=by omega
  subst hkn
  rw [List.drop_of_length_le (by simp;omega)] at hr
  refine goB ?_
  exact Ret.data rfl (by rw [hr];rfl) (Pu_L3 _)
theorem inL_of {l:Lk} {i:Int} {s:Stp} (h:okStep l i s) (hp:∀c∈l.p.codes,c.params≤4) (hm:∀c∈l.p.methods,c.params≤4):inL l.c.vars.toNat s:=by
 have hmem:∀(L:List Cd) (n:Int),0≤n→n<L.length→cod L n∈L:=fun L n h0 h1=>by
  rw [show cod L n=L[n.toNat]'(by omega) from nth_eqI (by omega)];exact List.getElem_mem _
 have hin:∀vs:List Int,okVars l.c.vars vs→∀v∈vs,0≤v∧v<(l.c.vars.toNat:Int):=fun vs hk v hm=>by
  have:=hk.1 v hm;omega
 rcases h with ⟨ho,h1,_⟩|⟨ho,h1,_⟩|⟨ho,h1,_⟩|⟨ho,_,_,_,h4,h5,_,h7,h8⟩|⟨ho,_⟩|⟨ho,_,_,_,_,_,h6,h7,h8⟩|⟨ho,_,_,_,h4,h5,_,h7,h8⟩|⟨ho,_⟩
 ·exact ⟨fun _=>hin _ h1 _ (by simp),fun h=>by unfold u2 at h;omega,fun h=>by unfold u5 at h;omega⟩
 ·exact ⟨fun _=>hin _ h1 _ (by simp),fun _=>hin _ h1 _ (by simp),fun h=>by unfold u5 at h;omega⟩
 ·exact ⟨fun _=>hin _ h1 _ (by simp),fun h=>by unfold u2 at h;omega,fun h=>by unfold u5 at h;omega⟩
 ·exact ⟨fun h=>by unfold u1 at h;omega,fun h=>by unfold u2 at h;omega,fun _=>⟨by have:=hp _ (hmem _ _ (by omega) h5);omega,hin _ h8⟩⟩
 ·exact ⟨fun h=>by unfold u1 at h;omega,fun h=>by unfold u2 at h;omega,fun h=>by unfold u5 at h;omega⟩
 ·exact ⟨fun h=>by unfold u1 at h;omega,fun h=>by unfold u2 at h;omega,fun _=>⟨by omega,hin _ h8⟩⟩
 ·exact ⟨fun h=>by unfold u1 at h;omega,fun h=>by unfold u2 at h;omega,fun _=>⟨by have:=hm _ (hmem _ _ h4 h5);omega,hin _ h8⟩⟩
 ·exact ⟨fun h=>by unfold u1 at h;omega,fun h=>by unfold u2 at h;omega,fun h=>by unfold u5 at h;omega⟩
structure CodeOk (p:Tk) (n:Int):Prop where
 vars:0≤(codeOf p n).vars∧(codeOf p n).vars≤8
 params:0≤(codeOf p n).params∧(codeOf p n).params≤4
 le:(codeOf p n).params≤(codeOf p n).vars
 less:n<0→(codeOf p n).params+1≤(codeOf p n).vars
 steps:(codeOf p n).steps.length≤20
 inl:∀s∈(codeOf p n).steps,inL (codeOf p n).vars.toNat s
theorem codeOk_of {p:Tk} (h:okValid p) {n:Int} (hn:numOk p n):CodeOk p n:=by
 obtain ⟨_,hc,hm⟩:=h
 have hp:∀c∈p.codes,c.params≤4:=fun c h=>by
  obtain ⟨i,hi,rfl⟩:=List.mem_iff_getElem.1 h
  have:=(hc i hi).1.2.1
  simp only [cod,nth_eq hi] at this;exact this
 have hq:∀c∈p.methods,c.params≤4:=fun c h=>by
  obtain ⟨i,hi,rfl⟩:=List.mem_iff_getElem.1 h
  have:=(hm i hi).1.2.1
  simp only [cod,nth_eq hi] at this;exact this
 have hinl:∀l:Lk,l.p=p→okCode l→∀s∈l.c.steps,inL l.c.vars.toNat s:=by
  rintro l rfl ⟨⟨e1,e2,e3,e4,e5⟩,e6⟩ s hs
  obtain ⟨i,hi,rfl⟩:=List.mem_iff_getElem.1 hs
  have:=e6 i hi
  rw [show stp l.c.steps i=l.c.steps[i] from nth_eq hi] at this
  exact inL_of this hp hq
 rcases hn with h|h
 ·have e:¬n<0:=by omega
  have ec:codeOf p n=cod p.codes n:=by simp [codeOf,e]
  have h1:=hc n.toNat (by omega)
  rw [Int.toNat_of_nonneg h.1,← ec] at h1
  have h2:=hinl _ rfl h1
  obtain ⟨⟨e1,e2,e3,e4,e5⟩,e6⟩:=h1
  simp only [Bool.false_eq_true,if_false] at e1 e2 e3 e4 e5 h2
  exact ⟨⟨by omega,e4⟩,⟨e1,e2⟩,e3,fun h=>absurd h e,e5,h2⟩
 ·have ec:codeOf p n=cod p.methods (-1-n):=by simp [codeOf,h.1]
  have h1:=hm (-1-n).toNat (by omega)
  rw [Int.toNat_of_nonneg (by omega),← ec] at h1
  have h2:=hinl _ rfl h1
  obtain ⟨⟨e1,e2,e3,e4,e5⟩,e6⟩:=h1
  simp only [if_true] at e1 e2 e3 e4 e5 h2
  exact ⟨⟨by omega,e4⟩,⟨e1,e2⟩,by omega,fun _=>e3,e5,h2⟩
noncomputable def codeR (p:Tk) (n:Int):List Int × Int × Int:=rsteps (decide (n<0)) (begin0 (codeOf p n) (decide (n<0))) (codeOf p n).steps 0
noncomputable def numsR (p:Tk):List Int→Int × Int × Int
 | []=>(0,0,0)
 | n::l=>if (codeR p n).2.2=0 then numsR p l else (n,(codeR p n).2.1,(codeR p n).2.2)
theorem nums_get (p:Tk) (i:Nat) (h:i<p.codes.length+p.methods.length):(nums p).drop i=(if i<p.codes.length then (i:Int) else -1-((i-p.codes.length:Nat):Int))::(nums p).drop (i+1):=by
 have hl:(nums p).length=p.codes.length+p.methods.length:=by simp [nums,numC_len,numM_len]
 rw [List.drop_eq_getElem_cons (by omega)]
 congr 1
 simp only [nums,List.getElem_append,numC_len]
 split
 ·simp [numC]
 ·simp [numM]
theorem refCode_ok {p:Tk} (h:okValid p) {n:Int} (hn:numOk p n):Fn Tryd.prog 74 [encC (codeOf p n),.bool (decide (n<0)),.int (codeOf p n).steps.length] (encL3 (codeR p n)):=by
 have hc:=codeOk_of h hn
 have:=refAfter_ok (codeOf p n) (decide (n<0)) (codeOf p n).steps.length hc.vars.1 hc.vars.2 (by have:=hc.params;omega) (Nat.le_refl _) (by have:=hc.steps;omega) hc.inl
 rwa [List.take_length] at this
open Classical in
theorem refCheck_ok (p:Tk) (h:okValid p):Fn Tryd.prog 56 [encT p] (encRes (numsR p (nums p))):=by
 refine Fn.intro' [(0,encT p)] 1 75 Tryd.func56 (by kernel_rfl) rfl rfl rfl rfl rfl ?_
 have hc8:=h.1.2.1
 have hm6:=h.1.2.2.1
 refine goB ?_
 refine callA (refValid_ok p true (by simp [(valid_iff p).1 h])) ?_
 refine goB ?_
 refine ifA (fun hc=>?_) (fun hc=>?_)
 ·simp at hc
 refine goB ?_
 refine keA [1,5] ?_
 refine AWp.loopP (J:=fun k:Nat=>k≤p.codes.length∧numsR p (nums p)=numsR p ((nums p).drop k)) (fun k=>[(5,.int k)]) (fun k=>p.codes.length-k) 0 ⟨Nat.zero_le _,rfl⟩ .wk ?_
 rintro k ⟨hk,hr⟩
 refine goB ?_
 refine ifA (fun hd=>?_) (fun hd=>?_)
 ·simp at hd
  rw [nums_get p k (by omega),if_pos hd] at hr
  have hR:=refCode_ok h (n:=k) (.inl ⟨by omega,by omega⟩)
  rw [show codeOf p k=cod p.codes k by simp [codeOf];omega] at hR
  rw [show decide ((k:Int)<0)=false by simp] at hR
  refine goB ?_
  refine drA (k:=20) follows (hr:=?_)
  refine goB ?_
  refine callA (hR) ?_
  simp only [encL3]
  refine goB ?_
  refine ifA (fun he=>?_) (fun he=>?_)
  ·simp at he
   refine goB ?_
   exact Ret.data (by show resVals _ _ [.tmp 2,.tmp 3,.tmp 4]=_;simp +decide only [resVals,resVal,ldPtr,ldE,go_sem, *]<;>rfl) (by rw [hr,numsR,if_neg he];rfl) (Pu_res _)
  ·simp at he
   refine goB ?_
   rw [wrap_succ (by omega)]
   refine ⟨k+1,⟨by omega,by rw [hr,numsR,if_pos he]⟩,by omega,.wk⟩
 simp at hd
 have hkl:k=p.codes.length:=by omega
 subst hkl
 clear hk hd
 refine goB ?_
 refine keA [1,9] ?_
 refine AWp.loopP (J:=fun k:Nat=>k≤p.methods.length∧numsR p (nums p)=numsR p ((nums p).drop (p.codes.length+k))) (fun k=>[(9,.int k)]) (fun k=>p.methods.length-k) 0 ⟨Nat.zero_le _,hr⟩ .wk ?_
 rintro k ⟨hk,hr2⟩
 refine goB ?_
 refine ifA (fun hd=>?_) (fun hd=>?_)
 ·simp at hd
  rw [nums_get p _ (by omega),if_neg (by omega),Nat.add_sub_cancel_left] at hr2
  have hR:=refCode_ok h (n:=-1-k) (.inr ⟨by omega,by omega⟩)
  rw [show codeOf p (-1-k)=cod p.methods k by simp only [codeOf];rw [if_pos (by omega)];congr 1;omega] at hR
  rw [show decide (-1-(k:Int)<0)=true by simp;omega] at hR
  refine goB ?_
  refine drA (k:=20) follows (hr:=?_)
  refine goB ?_
  refine callA (hR) ?_
  simp only [encL3]
  refine goB ?_
  refine ifA (fun he=>?_) (fun he=>?_)
  ·simp at he
   refine goB ?_
   rw [wrap_id (x:=-1-(k:Int)) (by omega) (by omega)]
   exact Ret.data (by show resVals _ _ [.tmp 2,.tmp 3,.tmp 4]=_;simp +decide only [resVals,resVal,ldPtr,ldE,go_sem, *]<;>rfl) (by rw [hr2,numsR,if_neg he];rfl) (Pu_res _)
  ·simp at he
   refine goB ?_
   rw [wrap_succ (by omega)]
   refine ⟨k+1,⟨by omega,by rw [hr2,numsR,if_pos he];rfl⟩,by omega,.wk⟩
 simp at hd
 have hkl:k=p.methods.length:=by omega
 subst hkl
 refine goB ?_
 exact Ret.data (by show resVals _ _ [.tmp 2,.tmp 3,.tmp 4]=_;simp +decide only [resVals,resVal,ldPtr,ldE,go_sem, *]<;>rfl) (by rw [hr2,List.drop_of_length_le (by simp [nums,numC_len,numM_len])];rfl) (Pu_res _)
end Go.Ab.Rg
