/- Ranges over strings; a list of characters turned into a string. -/
import Derived.Test.YthgicbkdckpeaaaDoorG11
import Derived.Test.YthgicbkdckpeaaaDoorG10
set_option linter.unusedSimpArgs false
set_option linter.unusedVariables false
namespace Go.Ab
open Go
theorem Sit.mv {w0:Base} {O:Nat→Prop} {ι:Nat→Option Nat} {w:World} {H1:List ABlk} {B B2 blk0:ABlk} {p:Nat} (hs:Sit w0 O ι (H1++[B]) w) (hp:H1[p]?=some blk0) (he0:blk0.es=[]) (hm:∀b,b<w0.H.length→b<H1.length) (hne:B.es≠[])
 (hB:BlkMv (mvr H1.length p) (H1++[B]) B B2) (hH:∀b blk,b≠p→H1[b]?=some blk→BlkMv (mvr H1.length p) (H1++[B]) blk blk) :
 ∃ι2,Sit w0 O ι2 (H1.set p B2) w∧Idx (mvr H1.length p) ι ι2 (H1++[B]) (H1.set p B2)∧(∀x,OO O ι2 (H1.set p B2) x→OO O ι (H1++[B]) x)∧(∀b,b≠p→ι2 b=ι b):=by
 have hpl:p<H1.length:=(List.getElem?_eq_some_iff.1 hp).1
 obtain ⟨r,hr⟩:∃r,r=mvr H1.length p:=⟨_,rfl⟩
 rw [← hr] at hB hH ⊢
 have rq:r H1.length=some p:=by rw [hr,mvr,if_pos rfl]
 have rp:r p=none:=by rw [hr,mvr,if_neg (by omega),if_pos rfl]
 have ro':∀b,b≠p→b≠H1.length→r b=some b:=fun b h1 h2=>by rw [hr,mvr,if_neg h2,if_neg h1]
 let ι2:Nat→Option Nat:=fun b=>if b=p then ι H1.length else ι b
 have i2p:ι2 p=ι H1.length:=if_pos rfl
 have i2o:∀b,b≠p→ι2 b=ι b:=fun b h=>if_neg h
 obtain ⟨H,hHd⟩:∃H,H=H1++[B]:=⟨_,rfl⟩
 obtain ⟨H2,hH2⟩:∃H2,H2=H1.set p B2:=⟨_,rfl⟩
 rw [← hHd] at hs hB hH ⊢
 have hlen:H.length=H1.length+1:=by rw [hHd];simp
 have hlen2:H2.length=H1.length:=by rw [hH2];simp
 have hq:H[H1.length]?=some B:=by rw [hHd];simp
 have hl1:∀b,b<H1.length→H[b]?=H1[b]?:=fun b h=>by rw [hHd,List.getElem?_append_left h]
 have h2p:H2[p]?=some B2:=by rw [hH2,List.getElem?_set_self hpl]
 have h2o:∀b,b≠p→H2[b]?=H1[b]?:=fun b h=>by rw [hH2,List.getElem?_set_ne (fun e=>h e.symm)]
 have hidx:Idx r ι ι2 H H2:=fun b j blk hbj hb=>by
  have hbl:=(List.getElem?_eq_some_iff.1 hb).1
  by_cases e1:b=H1.length
  ·subst e1
   rw [rq] at hbj;injection hbj with hbj;subst hbj
   rw [hq] at hb;injection hb with hb;subst hb
   exact ⟨B2,h2p,hB.2.2.1,hB.2.1,i2p⟩
  ·by_cases e2:b=p
   ·subst e2;rw [rp] at hbj;cases hbj
   ·rw [ro' b e2 e1] at hbj;injection hbj with hbj;subst hbj
    exact ⟨blk,by rw [h2o b e2,← hl1 b (by omega)];exact hb,rfl,rfl,i2o b e2⟩
 have hinv:∀b x,b<H2.length→ι2 b=some x→∃b',b'<H.length∧ι b'=some x∧(b=p∧b'=H1.length∨b≠p∧b'=b):=fun b x hb hx=>by
  by_cases e:b=p
  ·subst e;rw [i2p] at hx;exact ⟨_,by omega,hx,.inl ⟨rfl,rfl⟩⟩
  ·rw [i2o b e] at hx;exact ⟨b,by omega,hx,.inr ⟨e,rfl⟩⟩
 have hOO:∀x,OO O ι2 H2 x→OO O ι H x:=by
  rintro x (h|⟨b,hb,hx⟩)
  ·exact .inl h
  ·obtain ⟨b',h1,h2,_⟩:=hinv b x hb hx;exact .inr ⟨b',h1,h2⟩
 have hne2:B2.es≠[]:=fun e=>hne (List.eq_nil_of_length_eq_zero (by rw [← hB.2.2.1,e];rfl))
 rw [← hH2]
 refine ⟨ι2,⟨fun b blk x hb hx=>?_,fun b blk hb hx=>?_,fun b b' x hb hb' hx hx'=>?_,hs.below,hs.old,fun x b hO hb hx=>?_,⟨fun b blk hb=>?_,fun b x blk blk' c ty fz h1 h2 hl hi hc=>?_⟩⟩,hidx,hOO,i2o⟩
 ·by_cases e:b=p
  ·subst e
   rw [h2p] at hb;injection hb with hb;subst hb
   rw [i2p] at hx
   obtain ⟨h3,h4⟩:=hs.heap _ _ x hq hx
   exact ⟨h3,(hB.br (O2:=OO O ι H) (fun _=>Iff.rfl) hidx h4).lessO hOO⟩
  ·rw [h2o b e] at hb;rw [i2o b e] at hx
   have hbl:=(List.getElem?_eq_some_iff.1 hb).1
   obtain ⟨h3,h4⟩:=hs.heap b blk x (by rw [hl1 b hbl];exact hb) hx
   exact ⟨h3,((hH b blk e hb).br (O2:=OO O ι H) (fun _=>Iff.rfl) hidx h4).lessO hOO⟩
 ·by_cases e:b=p
  ·subst e
   rw [i2p] at hx
   exact absurd (hs.empt _ _ hq hx) hne
  ·rw [h2o b e] at hb;rw [i2o b e] at hx
   have hbl:=(List.getElem?_eq_some_iff.1 hb).1
   exact hs.empt b blk (by rw [hl1 b hbl];exact hb) hx
 ·obtain ⟨c,h1,h2,h3⟩:=hinv b x hb hx
  obtain ⟨c',h1',h2',h3'⟩:=hinv b' x hb' hx'
  have:=hs.inj c c' x h1 h1' h2 h2'
  rw [hlen2] at hb hb'
  rcases h3 with ⟨e1,e2⟩|⟨e1,e2⟩<;>rcases h3' with ⟨e3,e4⟩|⟨e3,e4⟩<;>omega
 ·obtain ⟨c,h1,h2,_⟩:=hinv b x hb hx
  exact hs.disj x c hO h1 h2
 ·have hbm:b<H1.length:=hm b (List.getElem?_eq_some_iff.1 hb).1
  obtain ⟨blk',k1,k2,k3⟩:=hs.hist.blk b blk hb
  by_cases e:b=p
  ·subst e
   have hpH:H[b]?=some blk0:=by rw [hl1 b hpl];exact hp
   rw [hpH] at k1;injection k1 with k1;subst k1
   rw [he0] at k2
   simp only [List.length_nil,Nat.le_zero_eq] at k2
   exact ⟨B2,h2p,by omega,fun he=>absurd (List.eq_nil_of_length_eq_zero (by omega)) hne2⟩
  ·have hbl:b<H1.length:=by omega
   rw [hl1 b hbl] at k1
   exact ⟨blk',by rw [h2o b e];exact k1,k2,fun he=>by rw [i2o b e];exact k3 he⟩
 ·by_cases e:b=p
  ·subst e
   obtain ⟨blk2,k1,k2,k3⟩:=hs.hist.blk b blk h1
   have hpH:H[b]?=some blk0:=by rw [hl1 b hpl];exact hp
   rw [hpH] at k1;injection k1 with k1;subst k1
   rw [he0] at k2
   simp only [List.length_nil,Nat.le_zero_eq] at k2
   rw [h2p] at h2;injection h2 with h2;subst h2
   exact absurd (List.eq_nil_of_length_eq_zero (by omega)) hne2
  ·have hbm:b<H1.length:=hm b (List.getElem?_eq_some_iff.1 h1).1
   rw [h2o b e] at h2
   exact hs.hist.size b x blk blk' c ty fz h1 (by rw [hl1 b (by omega)];exact h2) hl hi hc
def drp (q b:Nat):Option Nat:=if b=q then none else some b
theorem Sit.drop {w0:Base} {O:Nat→Prop} {ι:Nat→Option Nat} {w:World} {H1:List ABlk} {B:ABlk} (hs:Sit w0 O ι (H1++[B]) w) (hm:∀b,b<w0.H.length→b<H1.length) (hH:∀(b:Nat) (blk:ABlk),H1[b]?=some blk→BlkMv (drp H1.length) (H1++[B]) blk blk) :
 Sit w0 O ι H1 w∧(∀x,OO O ι H1 x→OO O ι (H1++[B]) x):=by
 obtain ⟨H,hHd⟩:∃H,H=H1++[B]:=⟨_,rfl⟩
 rw [← hHd] at hs hH ⊢
 have hlen:H.length=H1.length+1:=by rw [hHd];simp
 have hl1:∀b,b<H1.length→H[b]?=H1[b]?:=fun b h=>by rw [hHd,List.getElem?_append_left h]
 have hl2:∀b blk,H1[b]?=some blk→H[b]?=some blk:=fun b blk h=>by rw [hl1 b (List.getElem?_eq_some_iff.1 h).1];exact h
 have hidx:Idx (drp H1.length) ι ι H H1:=fun b j blk hbj hb=>by
  have hbl:=(List.getElem?_eq_some_iff.1 hb).1
  by_cases e1:b=H1.length
  ·rw [drp,if_pos e1] at hbj;cases hbj
  ·rw [drp,if_neg e1] at hbj;injection hbj with hbj;subst hbj
   exact ⟨blk,by rw [← hl1 b (by omega)];exact hb,rfl,rfl,rfl⟩
 have hOO:∀x,OO O ι H1 x→OO O ι H x:=by
  rintro x (h|⟨b,hb,hx⟩)
  ·exact .inl h
  ·exact .inr ⟨b,by omega,hx⟩
 refine ⟨⟨fun b blk x hb hx=>?_,fun b blk hb hx=>hs.empt b blk (hl2 b blk hb) hx,fun b b' x hb hb' hx hx'=>hs.inj b b' x (by omega) (by omega) hx hx',hs.below,hs.old,fun x b hO hb hx=>hs.disj x b hO (by omega) hx,⟨fun b blk hb=>?_,fun b x blk blk' c ty fz h1 h2 hl hi hc=>hs.hist.size b x blk blk' c ty fz h1 (hl2 _ _ h2) hl hi hc⟩⟩,hOO⟩
 ·obtain ⟨h3,h4⟩:=hs.heap b blk x (hl2 b blk hb) hx
  exact ⟨h3,((hH b blk hb).br (O2:=OO O ι H) (fun _=>Iff.rfl) hidx h4).lessO hOO⟩
 ·obtain ⟨blk',k1,k2,k3⟩:=hs.hist.blk b blk hb
  rw [hl1 b (hm b (List.getElem?_eq_some_iff.1 hb).1)] at k1
  exact ⟨blk',k1,k2,k3⟩
def Nb (q p:Nat) (b:Nat):Prop:=b≠p∧b≠q
theorem mvr_nb {q p b:Nat} (h:Nb q p b):mvr q p b=some b:=by rw [mvr,if_neg h.2,if_neg h.1]
section
variable {P:Program}
theorem PL.place {H H1:List ABlk} {ρ:Operand→AV} {op:Op} {v v2:AV} {B B2 blk0 blk1:ABlk} {p:Nat} (h:PL P H ρ op v (H1++[B])) (hlen:H.length=H1.length) (hp0:H[p]?=some blk1) (he1:blk1.es=[]) (hp:H1[p]?=some blk0) (he0:blk0.es=[]) (hne:B.es≠[])
 (hB:BlkMv (mvr H1.length p) (H1++[B]) B B2) (hH:∀b blk,b≠p→H1[b]?=some blk→BlkMv (mvr H1.length p) (H1++[B]) blk blk) (hv:MvR (mvr H1.length p) (H1++[B]) v v2):PL P H ρ op v2 (H1.set p B2):=by
 intro o ho w0 O ι a w hs hr K Q hK
 refine h o ho w0 O ι a w hs hr K Q fun u w' ι' h1 h2 h3=>?_
 obtain ⟨ι2,k1,k2,k3,k4⟩:=h1.mv hp he0 (fun b hb=>by
  obtain ⟨blk',q1,_⟩:=hs.hist.blk b _ (List.getElem?_eq_getElem hb)
  rw [← hlen];exact (List.getElem?_eq_some_iff.1 q1).1) hne hB hH
 have hpl:p<H1.length:=(List.getElem?_eq_some_iff.1 hp).1
 have hne2:B2.es.length≠0:=fun e=>hne (List.eq_nil_of_length_eq_zero (by rw [← hB.2.2.1,e]))
 have g2p:(H1.set p B2)[p]?=some B2:=List.getElem?_set_self hpl
 have g2o:∀b,b≠p→(H1.set p B2)[b]?=H1[b]?:=fun b h=>List.getElem?_set_ne (fun e=>h e.symm)
 have gl:∀b,b<H1.length→(H1++[B])[b]?=H1[b]?:=fun b h=>List.getElem?_append_left h
 refine hK u w' ι2 k1 ⟨h2.obj,fun q u hq hc hO=>h2.outo q u hq hc (k3 _ hO),fun b blk hb=>?_,fun b x blk blk' c ty fz e1 e2 e3 e4 e5=>?_⟩ ((hv _ w' (OO O ι' (H1++[B])) ι' ι2 u k2 h3).lessO k3)
 ·by_cases e:b=p
  ·subst e
   rw [hp0] at hb;injection hb with hb;subst hb
   exact ⟨B2,g2p,by rw [he1];exact Nat.zero_le _,fun e=>by rw [he1] at e;exact absurd e hne2⟩
  ·obtain ⟨blk',q1,q2,q3⟩:=h2.blk b blk hb
   have hbl:b<H1.length:=by rw [← hlen];exact (List.getElem?_eq_some_iff.1 hb).1
   rw [gl b hbl] at q1
   exact ⟨blk',by rw [g2o b e];exact q1,q2,fun e'=>by rw [k4 b e];exact q3 e'⟩
 ·by_cases e:b=p
  ·subst e
   rw [hp0] at e1;injection e1 with e1;subst e1
   rw [g2p] at e2;injection e2 with e2;subst e2
   rw [he1] at e3;exact absurd e3 hne2
  ·have hbl:b<H1.length:=by rw [← hlen];exact (List.getElem?_eq_some_iff.1 e1).1
   rw [g2o b e] at e2
   exact h2.size b x blk blk' c ty fz e1 (by rw [gl b hbl];exact e2) e3 e4 e5
theorem PL.drop {H H1:List ABlk} {ρ:Operand→AV} {op:Op} {v v2:AV} {B:ABlk} (h:PL P H ρ op v (H1++[B])) (hlen:H.length=H1.length) (hH:∀(b:Nat) (blk:ABlk),H1[b]?=some blk→BlkMv (drp H1.length) (H1++[B]) blk blk)
 (hv:∀w O ι u,VR w O ι (H1++[B]) v u→VR w O ι H1 v2 u):PL P H ρ op v2 H1:=by
 intro o ho w0 O ι a w hs hr K Q hK
 refine h o ho w0 O ι a w hs hr K Q fun u w' ι' h1 h2 h3=>?_
 obtain ⟨k1,k3⟩:=h1.drop (fun b hb=>by
  obtain ⟨blk',q1,_⟩:=hs.hist.blk b _ (List.getElem?_eq_getElem hb)
  rw [← hlen];exact (List.getElem?_eq_some_iff.1 q1).1) hH
 have gl:∀b,b<H1.length→(H1++[B])[b]?=H1[b]?:=fun b h=>List.getElem?_append_left h
 refine hK u w' ι' k1 ⟨h2.obj,fun q u hq hc hO=>h2.outo q u hq hc (k3 _ hO),fun b blk hb=>?_,fun b x blk blk' c ty fz e1 e2 e3 e4 e5=>?_⟩ ((hv w' _ ι' u h3).lessO k3)
 ·obtain ⟨blk',q1,q2,q3⟩:=h2.blk b blk hb
  have hbl:b<H1.length:=by rw [← hlen];exact (List.getElem?_eq_some_iff.1 hb).1
  rw [gl b hbl] at q1
  exact ⟨blk',q1,q2,q3⟩
 ·have hbl:b<H1.length:=by rw [← hlen];exact (List.getElem?_eq_some_iff.1 e1).1
  exact h2.size b x blk blk' c ty fz e1 (by rw [gl b hbl];exact e2) e3 e4 e5
theorem drp_ne {q b:Nat} (h:b≠q):drp q b=some b:=if_neg h
theorem VR.own0 {H:List ABlk} {B:ABlk} {w:World} {O:Nat→Prop} {ι:Nat→Option Nat} {u:Value} (hB:B.es=[]) (h:VR w O ι (H++[B]) (.own H.length 0 0 0) u):VR w O ι H (.lst []) u:=by
 have hq:(H++[B])[H.length]?=some B:=by simp
 cases h with
 | staleOwn _ _ _ _ blk a n c hb h=>rw [hq] at hb;injection hb with hb;subst hb;rw [hB] at h;simp at h
 | ownNil=>exact .lnil
 | own b tot off len blk x n cap a hb ht hi hn hl hcap ha=>exact .lst [] a n cap 0 (fun _ _=>.bool true) (by simp [hn]) (by omega) (by simp [hn]) (by simp) (by simp) (by simp) (by simp)
theorem PL.own0 {H:List ABlk} {ρ:Operand→AV} {op:Op} {B:ABlk} (h:PL P H ρ op (.own H.length 0 0 0) (H++[B])) (hB:B.es=[]) (hH:∀b∈H,RfB (fun b=>b<H.length) b):PL P H ρ op (.lst []) H:=
 PL.drop h rfl (fun b blk hb=>(hH blk (List.mem_of_getElem? hb)).mv fun _ h=>drp_ne (by omega)) fun w O ι u hu=>hu.own0 hB
theorem PL.placeS {H:List ABlk} {ρ:Operand→AV} {op:Op} {v v2:AV} {B blk0:ABlk} {p:Nat} (h:PL P H ρ op v (H++[B])) (hp:H[p]?=some blk0) (he0:blk0.es=[]) (hne:B.es≠[]) (hB:RfB (Nb H.length p) B) (hH:∀b∈H,RfB (Nb H.length p) b)
 (hv:MvR (mvr H.length p) (H++[B]) v v2):PL P H ρ op v2 (H.set p B):=
 PL.place h rfl hp he0 hp he0 hne (hB.mv fun _ h=>mvr_nb h) (fun b blk _ hb=>(hH blk (List.mem_of_getElem? hb)).mv fun _ h=>mvr_nb h) hv
theorem MvR.ptrL {H:List ABlk} {B:ABlk} {p tot i off:Nat}:MvR (mvr H.length p) (H++[B]) (.ptr H.length tot i off) (.ptr p tot i off):=.ptr (by rw [mvr,if_pos rfl])
theorem MvR.ownL {H:List ABlk} {B:ABlk} {p tot off len:Nat}:MvR (mvr H.length p) (H++[B]) (.own H.length tot off len) (.own p tot off len):=.own (by rw [mvr,if_pos rfl])
theorem MvR.mapL {H:List ABlk} {B:ABlk} {p:Nat}:MvR (mvr H.length p) (H++[B]) (.mapv H.length) (.mapv p):=.mapv (by rw [mvr,if_pos rfl])
theorem pl_copy0 {H:List ABlk} {ρ:Operand→AV} {x y:Operand} {t t2 el:TypeId} {es:List AV} {bytes:Nat} (hx:ρ x=.lst []) (hy:ρ y=.lst es) (ht:P.underlying t=some (.slice el)) (hel:elI P el 1 bytes=true) :
 PL P H ρ (.call { callee:=.builtin .copy,args:=#[x,y],argTypes:=#[t,t2] }) (.int 0) H:=by
 refine PL.of_run fun w0 O ι a w hs hv o ho=>?_
 have h1:=hv x;rw [hx] at h1
 have h2:=hv y;rw [hy] at h2
 obtain ⟨i0,zz,e1,e2,e3,e4,e5,e6,_⟩:=elI_inv hel
 have hsz:(P.info? el).map (·.size)=some 1:=by simp [e1,e3]
 have hexec:∀(v':Value) (w':World),(Builtin.copy_ #[t,t2] o.type #[a.eval x,a.eval y]).run P w=.ok v' w'→(execOp a.eval o).run P w=.ok (.value v') w':=fun v' w' hr=>by
  simp only [execOp,ho,resolve,invoke,builtin,Sem.run_bind,Sem.run_pure,Result.andThen_ok,List.map_toArray,List.map_cons,List.map_nil,hr]
 generalize he1:a.eval x=X1 at h1 hexec
 generalize he2:a.eval y=X2 at h2 hexec
 have key:∀(d' a':Option Addr) (c' m' q':Nat),X1=.slice d' 0 c'→X2=.slice a' m' q'→∃u w' ι' nx,(execOp a.eval o).run P w=.ok nx w'∧(nx=.value u∨(nx=.skip∧u=undef))∧Sit w0 O ι' H w'∧Goes w (OO O ι H) ι H w' (OO O ι' H) ι' H∧VR w' (OO O ι' H) ι' H (.int 0) u:=by
  intro d' a' c' m' q' ex1 ex2
  subst ex1;subst ex2
  have hr:=run_copy_none (P:=P) w t t2 o.type el d' a' 0 c' m' q' ht hsz (by simp)
  exact ⟨_,w,ι,_,hexec _ _ hr,.inl rfl,hs,Goes.quiet hs (.refl _ _),.base _⟩
 cases h1 with
 | lnil =>
   cases h2 with
   | lnil=>exact key _ _ _ _ _ rfl rfl
   | lst=>exact key _ _ _ _ _ rfl rfl
 | lst es' a1 n1 cap1 sz1 val1 hn1 =>
   simp only [List.length_nil] at hn1
   subst hn1
   cases h2 with
   | lnil=>exact key _ _ _ _ _ rfl rfl
   | lst=>exact key _ _ _ _ _ rfl rfl
end
end Go.Ab
namespace Go.Ab
open Go Go.RowKit
section
variable {P:Program} {w w':World} {w0:Base} {O:Nat→Prop} {ι:Nat→Option Nat} {H:List ABlk} {u:Value}
end
end Go.Ab
namespace Go.Ab
open Go Go.RowKit
def FnHM (P:Program) (m:List (Nat × Obj)) (f:FuncId) (args:List AV) (H:List ABlk) (d:AV) (H':List ABlk):Prop:=
 (∃fn,P.funcs[f]?=some fn∧(fn.name == "runtime.NumGoroutine")=false∧fn.body.isNone=false) ∧
 ∀(w:World) (O:Nat→Prop) (ι:Nat→Option Nat) (vs:Array Value),Sit ⟨w,rng ι H,H,ι⟩ O ι H w→(∀p∈m,¬OO O ι H p.1∧w.heap[p.1]?=some p.2)→vs.size=args.length →
  (∀(j:Nat) (a:AV) (u:Value),args[j]?=some a→vs[j]?=some u→VR w (OO O ι H) ι H a u) →
  Calls P f vs w fun e w'=>∃v ι',e=.returned v∧Sit ⟨w,rng ι H,H,ι⟩ O ι' H' w'∧VR w' (OO O ι' H') ι' H' d v
theorem FnH.m {P:Program} {m:List (Nat × Obj)} {f:FuncId} {args:List AV} {d:AV} {H H':List ABlk} (h:FnH P f args H d H'):FnHM P m f args H d H':=⟨h.1,fun w O ι vs hS _=>h.2 w O ι vs hS⟩
section
variable {P:Program}
theorem lk_argsX {X:Env}:∀(l:List AV) (k t:Nat),lk ((l.zipIdx k).map (fun (a,i)=>(i,a))++X) t=if k≤t∧t<k+l.length then (l[t-k]?).getD .bad else lk X t:=by
 intro l
 induction l with
 | nil=>intro k t;simp;intro h1 h2;omega
 | cons x l ih =>
   intro k t
   simp only [List.zipIdx_cons,List.map_cons,List.cons_append,lk,ih,List.length_cons]
   split
   ·rename_i e;subst e;simp
   ·rename_i e
    by_cases hlt:k≤t∧t<k+(l.length+1)
    ·rw [if_pos (by omega),if_pos hlt,show t-k=(t-(k+1))+1 by omega];rfl
    ·rw [if_neg (by omega),if_neg hlt]
theorem FnHM.intro {m:List (Nat × Obj)} {f:FuncId} {fn:Func} {c:Code} {args:List AV} {d:AV} {H H':List ABlk} (hf:P.funcs[f]?=some fn) (hn:(fn.name == "runtime.NumGoroutine")=false) (hb:fn.body=some c) (ha:args.length≤fn.ntmps) (hms:fn.ntmps≤memSlot)
 (h:AWp P ⟨fn.ntmps,H.length⟩ c (retHQ P fn.results.toList ⟨fn.ntmps,H.length⟩ d H') ⟨(args.zipIdx.map fun (a,i)=>(i,a))++[(memSlot,.mem m)],H⟩):FnHM P m f args H d H':=by
 refine ⟨⟨fn,hf,hn,by rw [hb];rfl⟩,fun w O ι vs hS hmem hl hv=>?_⟩
 refine calls_of_wp hf hb ?_
 have hs:SR ⟨fn.ntmps,H.length⟩ ⟨w,rng ι H,H,ι⟩ O ⟨(args.zipIdx.map fun (a,i)=>(i,a))++[(memSlot,.mem m)],H⟩ ι { tmps:=vs++Array.replicate (fn.ntmps-vs.size) undef,defers:=[] } w:=by
  refine ⟨hS,rfl,by simp;omega,rfl,fun t=>?_⟩
  show VR _ _ _ _ (lk (args.zipIdx.map (fun (a,i)=>(i,a))++[(memSlot,.mem m)]) t) _
  rw [lk_argsX args 0 t]
  split
  ·rename_i htt
   simp only [Nat.sub_zero]
   have htl:t<args.length:=by omega
   rw [List.getElem?_eq_getElem htl,Option.getD_some]
   have hu:vs[t]?=some vs[t]:=Array.getElem?_eq_getElem (by omega)
   have h1:=hv t _ _ (List.getElem?_eq_getElem htl) hu
   rw [Array.getD_eq_getD_getElem?,Array.getElem?_append_left (by omega),hu]
   exact h1
  ·show VR _ _ _ _ (if memSlot=t then AV.mem m else .bad) _
   split
   ·exact .mem _ _ hmem
   ·exact .bad _
 refine wp_mono (h _ O ι _ w hs) ?_
 have fin:∀(s':ASt) (ι':Nat→Option Nat) (a:Act) (w':World),RetH P fn.results.toList ⟨fn.ntmps,H.length⟩ d H' s'→SR ⟨fn.ntmps,H.length⟩ ⟨w,rng ι H,H,ι⟩ O s' ι' a w' →
  a.defers=[]∧∃v,(results fn a.tmps).run P w'=.ok v w'∧∃v' ι2,Ending.returned v=.returned v'∧Sit ⟨w,rng ι H,H,ι⟩ O ι2 H' w'∧VR w' (OO O ι2 H') ι2 H' d v':=by
  rintro s0 ι0 a w' ⟨s',rs,r,q,hw,h1,h2,h3⟩ hs0
  obtain ⟨ι',hs'⟩:=hw _ _ _ _ _ hs0
  obtain ⟨u,h4,h5⟩:=results_run hs' h1
  exact ⟨hs'.defers,u,h4,u,_,rfl,hs'.sit.sel hs'.hand h2,h3 H' _ w' O ι' _ u hs'.sit (h2.view ι') h5⟩
 rintro e a w' ⟨s',ι',h1,h2⟩
 cases e with
 | normal=>exact fin s' ι' a w' h1 h2
 | ret=>exact fin s' ι' a w' h1 h2
 | _=>exact h1.elim
theorem FnHM.intro' {m':List (Nat × Obj)} {f:FuncId} {fn:Func} {c:Code} {args:List AV} {d:AV} {H H':List ABlk} (E:Env) (m n k:Nat) (hf:P.funcs[f]?=some fn) (hn:(fn.name == "runtime.NumGoroutine")=false) (hb:fn.body=some c)
 (hm:args.length=m) (hnt:fn.ntmps=n) (ha:Nat.ble m n=true) (hms:Nat.ble n memSlot=true) (hE:args.zipIdx.map (fun (a,i)=>(i,a))=E) (hk:H.length=k)
 (h:AWp P ⟨n,k⟩ c (retHQ P fn.results.toList ⟨n,k⟩ d H') ⟨E++[(memSlot,.mem m')],H⟩):FnHM P m' f args H d H':=by
 refine FnHM.intro hf hn hb (by rw [hm,hnt];exact Nat.le_of_ble_eq_true ha) (by rw [hnt];exact Nat.le_of_ble_eq_true hms) ?_
 rw [hE,hnt,hk];exact h
end
section
variable {P:Program} {HC:List ABlk}
theorem pl_callHM {m:List (Nat × Obj)} {ρ:Operand→AV} {c:Call} {fx:Operand} {f:FuncId} {caps args:List AV} {d d':AV} {e:List Nat} {H H' HC':List ABlk} (hf:FnHM P m f args H d H') (hmm:MemIn m ρ) (hE:CallE e HC H H' HC') (hc:c.callee=.value fx)
 (hfx:ρ fx=.clo f caps) (ha:MvL (ro e) HC (c.args.toList.map ρ++caps) args) (hd:MvR (rb e HC.length) H' d d'):PL P HC ρ (.call c) d' HC':=by
 intro o ho w0 O ι a w hs hv K Q hK
 obtain ⟨⟨fn,g1,g2,g3⟩,g4⟩:=hf
 have h5:=hv fx
 rw [hfx] at h5
 generalize hX:a.eval fx=X at h5
 cases h5 with
 | clo f caps arr hlen hcap =>
 have hargs:∀(j:Nat) (x:AV) (u:Value),(c.args.toList.map ρ++caps)[j]?=some x→(c.args.map a.eval++arr)[j]?=some u→VR w (OO O ι HC) ι HC x u:=by
  intro j x u hx hu
  rw [List.getElem?_append] at hx
  rw [Array.getElem?_append] at hu
  simp only [List.length_map,Array.length_toList,Array.size_map] at hx hu
  split at hx
  ·rename_i hj
   rw [if_pos hj] at hu
   simp only [List.getElem?_map,Array.getElem?_map,Array.getElem?_toList,Option.map_eq_some_iff] at hx hu
   obtain ⟨y,hy,rfl⟩:=hx
   obtain ⟨z,hz,rfl⟩:=hu
   rw [hy] at hz;cases hz
   exact hv y
  ·rename_i hj
   rw [if_neg hj] at hu
   exact hcap _ _ _ hx hu
 have hrun:(execOp a.eval o).run P w=.ok (.enter f (c.args.map a.eval++arr)) w:=by
  unfold execOp
  rw [ho]
  simp only [resolve,hc,Deferred.ofValue,hX,Sem.run_bind,Sem.run_pure,Result.andThen_ok,invoke,Array.empty_append,callFunc_run g1 g2 g3]
 -- the callee's numbers
 let ι1:Nat→Option Nat:=fun j=>(e[j]?).bind ι
 have hι1:∀j b,e[j]?=some b→ι1 j=ι b:=fun j b h=>by simp [ι1,h]
 have hjlt:∀j,j<H.length→∃b,e[j]?=some b:=fun j hj=>⟨_,List.getElem?_eq_getElem (by rw [hE.len];exact hj)⟩
 have hblt:∀j b,e[j]?=some b→b<HC.length:=fun j b h=>by
  obtain ⟨bc,bk,h1,_⟩:=hE.inn j b h
  exact (List.getElem?_eq_some_iff.1 h1).1
 have huniq:∀i j b,e[i]?=some b→e[j]?=some b→i=j:=fun i j b h1 h2=>by
  obtain ⟨h1l,h1e⟩:=List.getElem?_eq_some_iff.1 h1
  obtain ⟨h2l,h2e⟩:=List.getElem?_eq_some_iff.1 h2
  exact (List.getElem_inj hE.one).1 (h1e.trans h2e.symm)
 have hlt:∀b x,b<HC.length→ι b=some x→x<w.heap.size:=fun b x hb hx=>(hs.heap b _ x (List.getElem?_eq_getElem hb) hx).2.lt
 have hrngI:∀x,rng ι1 H x↔∃j b,e[j]?=some b∧ι b=some x:=fun x=>by
  constructor
  ·rintro ⟨j,hj,hx⟩
   obtain ⟨b,hb⟩:=hjlt j hj
   exact ⟨j,b,hb,by rw [← hι1 j b hb];exact hx⟩
  ·rintro ⟨j,b,hb,hx⟩
   exact ⟨j,by rw [← hE.len];exact (List.getElem?_eq_some_iff.1 hb).1,by rw [hι1 j b hb];exact hx⟩
 let O1:Nat→Prop:=fun x=>OO O ι HC x∧¬rng ι1 H x
 have hOO1:∀x,OO O1 ι1 H x↔OO O ι HC x:=fun x=>by
  constructor
  ·rintro (h|h)
   ·exact h.1
   ·obtain ⟨j,b,hb,hx⟩:=(hrngI x).1 h
    exact .inr ⟨b,hblt j b hb,hx⟩
  ·intro h
   by_cases hr:rng ι1 H x
   ·exact .inr hr
   ·exact .inl ⟨h,hr⟩
 have hidx:Idx (ro e) ι ι1 HC H:=fun b j blk hr hb=>by
  have hj:=ro_some hr
  obtain ⟨bc,bk,k1,k2,k3,k4,k5,_⟩:=hE.inn j b hj
  rw [hb] at k1;injection k1 with k1;subst k1
  exact ⟨bk,k2,k5,k4,hι1 j b hj⟩
 have hS1:Sit ⟨w,rng ι1 H,H,ι1⟩ O1 ι1 H w:=by
  refine ⟨fun j bk x h1 h2=>⟨.inr ⟨j,(List.getElem?_eq_some_iff.1 h1).1,h2⟩,?_⟩,fun j bk h1 h2=>?_,fun i j x hi hj h1 h2=>?_,Bel.refl ..,fun x hx=>?_,fun x j hO hj hx=>hO.2 ⟨j,hj,hx⟩,.refl ..⟩
  ·obtain ⟨b,hb⟩:=hjlt j (List.getElem?_eq_some_iff.1 h1).1
   obtain ⟨bc,bk',k1,k2,k3⟩:=hE.inn j b hb
   rw [h1] at k2;injection k2 with k2;subst k2
   exact k3.br hOO1 hidx (hs.heap b bc x k1 (by rw [← hι1 j b hb];exact h2)).2
  ·obtain ⟨b,hb⟩:=hjlt j (List.getElem?_eq_some_iff.1 h1).1
   obtain ⟨bc,bk',k1,k2,k3,k4,k5,_⟩:=hE.inn j b hb
   rw [h1] at k2;injection k2 with k2;subst k2
   have:=hs.empt b bc k1 (by rw [← hι1 j b hb];exact h2)
   rw [this] at k5
   exact List.eq_nil_of_length_eq_zero k5
  ·obtain ⟨b,hb⟩:=hjlt i hi
   obtain ⟨b',hb'⟩:=hjlt j hj
   rw [hι1 i b hb] at h1;rw [hι1 j b' hb'] at h2
   have:=hs.inj b b' x (hblt i b hb) (hblt j b' hb') h1 h2
   subst this
   exact huniq i j b hb hb'
  ·rcases hx.1 with h|⟨b,hb,hx⟩
   ·exact hs.old x h
   ·exact hlt b x hb hx
 unfold Oper.wp
 rw [hrun,Oper.upon_enter]
 refine (g4 w O1 ι1 (c.args.map a.eval++arr) hS1 (fun p hp=>⟨fun h=>(hmm.get (hv (.tmp memSlot)) p hp).1 ((hOO1 p.1).1 h),(hmm.get (hv (.tmp memSlot)) p hp).2⟩) (by have:=ha.len;simp only [List.length_append,List.length_map,Array.length_toList] at this;simp [hlen,← this]) fun j x u hx hu=>?_).mono ?_
 ·have hj:j<(c.args.toList.map ρ++caps).length:=by rw [ha.len];exact (List.getElem?_eq_some_iff.1 hx).1
  have h1:=List.getElem?_eq_getElem hj
  exact (ha.get j _ x h1 hx H w _ ι ι1 u hidx (hargs j _ u h1 hu)).lessO fun y hy=>(hOO1 y).1 hy
 rintro ex w' ⟨v,ι2,rfl,hS2,hv2⟩
 -- back to the caller's numbers
 let ι3:Nat→Option Nat:=fun b=>match ro e b with
  | some j=>ι2 j
  | none=>if b<HC.length then ι b else ι2 (H.length+(b-HC.length))
 have hroE:∀j b,e[j]?=some b→ro e b=some j:=fun j b h=>by
  cases hr:ro e b with
  | none =>
    unfold ro at hr
    rw [List.findIdx?_eq_none_iff] at hr
    have:=hr b (List.mem_of_getElem? h)
    simp at this
  | some j'=>rw [huniq j' j b (ro_some hr) h]
 have hroN:∀b,b∉e→ro e b=none:=fun b h=>by
  cases hr:ro e b with
  | none=>rfl
  | some j=>exact absurd (List.mem_of_getElem? (ro_some hr)) h
 have i3e:∀j b,e[j]?=some b→ι3 b=ι2 j:=fun j b h=>by simp only [ι3,hroE j b h]
 have i3s:∀b,b<HC.length→b∉e→ι3 b=ι b:=fun b hb h=>by simp only [ι3,hroN b h,hb,if_true]
 have hmem:∀b,b∈e→b<HC.length:=fun b h=>by
  obtain ⟨j,hj⟩:=List.getElem?_of_mem h
  exact hblt j b hj
 have i3n:∀k,ι3 (HC.length+k)=ι2 (H.length+k):=fun k=>by
  simp only [ι3,hroN (HC.length+k) fun h=>by have:=hmem _ h;omega]
  rw [if_neg (by omega),Nat.add_sub_cancel_left]
 have hrb:∀j,j<H'.length→∃b,rb e HC.length j=some b∧ι3 b=ι2 j∧b<HC'.length:=fun j hj=>by
  unfold rb
  by_cases h:j<e.length
  ·rw [if_pos h,List.getElem?_eq_getElem h]
   have h1:=List.getElem?_eq_getElem h
   exact ⟨_,rfl,i3e j _ h1,by have:=hblt j _ h1;rw [hE.len2];omega⟩
  ·rw [if_neg h]
   refine ⟨_,rfl,?_,?_⟩
   ·rw [i3n,hE.len];congr 1;have:=hE.len;omega
   ·rw [hE.len2];have:=hE.len;omega
 have hidx3:Idx (rb e HC.length) ι2 ι3 H' HC':=fun j b bk hr hb=>by
  obtain ⟨bc,k1,k2,k3,k4,_⟩:=hE.out j b bk hr hb
  obtain ⟨b',h1,h2,_⟩:=hrb j (List.getElem?_eq_some_iff.1 hb).1
  rw [hr] at h1;injection h1 with h1;subst h1
  exact ⟨bc,k1,k4,k3,h2⟩
 -- every block of the caller is one that stayed, or one of the callee's
 have hwhat:∀b,b<HC'.length→(b<HC.length∧b∉e)∨∃j,j<H'.length∧rb e HC.length j=some b:=fun b hb=>by
  by_cases h:b<HC.length
  ·by_cases hbe:b∈e
   ·obtain ⟨j,hj⟩:=List.getElem?_of_mem hbe
    have hjl:=(List.getElem?_eq_some_iff.1 hj).1
    exact .inr ⟨j,by have:=hE.len;have:=hE.le;omega,by unfold rb;rw [if_pos hjl];exact hj⟩
   ·exact .inl ⟨h,hbe⟩
  ·have:=hE.len;have:=hE.len2;have:=hE.le
   exact .inr ⟨H.length+(b-HC.length),by omega,by unfold rb;rw [if_neg (by omega)];congr 1;omega⟩
 have hsz:w.heap.size≤w'.heap.size:=hS2.below.size
 have hblkW:∀x,x<w.heap.size→¬rng ι1 H x→w'.heap[x]?=w.heap[x]?:=fun x h1 h2=>hS2.below.block x h1 h2
 have hnew:∀j x,j<H'.length→ι2 j=some x→w.heap.size≤x∨rng ι1 H x:=fun j x hj hx=>(hS2.heap j _ x (List.getElem?_eq_getElem hj) hx).1
 have hstay:∀b x,b<HC.length→b∉e→ι b=some x→¬rng ι1 H x:=fun b x hb hbe hx hr=>by
  obtain ⟨j,b',hb',hx'⟩:=(hrngI x).1 hr
  have:=hs.inj b b' x hb (hblt j b' hb') hx hx'
  subst this
  exact hbe (List.mem_of_getElem? hb')
 have hOO3:∀x,OO O ι3 HC' x↔OO O1 ι2 H' x:=fun x=>by
  constructor
  ·rintro (h|⟨b,hb,hx⟩)
   ·refine .inl ⟨.inl h,fun hr=>?_⟩
    obtain ⟨j,b,hb,hx⟩:=(hrngI x).1 hr
    exact hs.disj x b h (hblt j b hb) hx
   ·rcases hwhat b hb with ⟨h1,h2⟩|⟨j,hj,hr⟩
    ·rw [i3s b h1 h2] at hx
     exact .inl ⟨.inr ⟨b,h1,hx⟩,hstay b x h1 h2 hx⟩
    ·obtain ⟨b',k1,k2,_⟩:=hrb j hj
     rw [hr] at k1;injection k1 with k1;subst k1
     exact .inr ⟨j,hj,by rw [← k2];exact hx⟩
  ·rintro (⟨h,hr⟩|⟨j,hj,hx⟩)
   ·rcases h with h|⟨b,hb,hx⟩
    ·exact .inl h
    ·have hbe:b∉e:=fun hbe=>by
      obtain ⟨j,hj⟩:=List.getElem?_of_mem hbe
      exact hr ((hrngI x).2 ⟨j,b,hj,hx⟩)
     exact .inr ⟨b,by rw [hE.len2];omega,by rw [i3s b hb hbe];exact hx⟩
   ·obtain ⟨b,k1,k2,k3⟩:=hrb j hj
    exact .inr ⟨b,k3,by rw [k2];exact hx⟩
 have g:Goes w (OO O ι HC) ι HC w' (OO O ι3 HC') ι3 HC':=by
  refine ⟨fun p u h hcell=>?_,fun p u h hcell h'=>?_,fun b blk h=>?_,fun b x blk blk' c1 ty fz h1 h2 h3 hi h=>?_⟩
  ·have hl:=heap_lt hcell
   rw [hblkW p hl fun hr=>?_]
   ·exact hcell
   ·obtain ⟨j,b,hb,hx⟩:=(hrngI _).1 hr
    exact h (.inr ⟨b,hblt j b hb,hx⟩)
  ·have hl:=heap_lt hcell
   rcases (hOO3 _).1 h' with h'|⟨j,hj,hx⟩
   ·exact h h'.1
   ·rcases hnew j _ hj hx with h1|h1
    ·omega
    ·obtain ⟨j',b,hb,hx'⟩:=(hrngI _).1 h1
     exact h (.inr ⟨b,hblt j' b hb,hx'⟩)
  ·have hb:=(List.getElem?_eq_some_iff.1 h).1
   by_cases hbe:b∈e
   ·obtain ⟨j,hj⟩:=List.getElem?_of_mem hbe
    obtain ⟨bc,bk,k1,k2,k3,k4,k5,_⟩:=hE.inn j b hj
    rw [h] at k1;injection k1 with k1;subst k1
    obtain ⟨bk2,f1,f2,f3⟩:=hS2.hist.blk j bk k2
    have hr:rb e HC.length j=some b:=by unfold rb;rw [if_pos (List.getElem?_eq_some_iff.1 hj).1];exact hj
    obtain ⟨bc2,m1,m2,m3,m4,_⟩:=hE.out j b bk2 hr f1
    refine ⟨bc2,m1,by omega,fun he=>?_⟩
    obtain ⟨n1,n2⟩:=f3 (by omega)
    exact ⟨by rw [m3,n1,k4],by rw [i3e j b hj,n2];exact hι1 j b hj⟩
   ·exact ⟨blk,by rw [hE.stay b hb hbe];exact h,Nat.le_refl _,fun _=>⟨rfl,i3s b hb hbe⟩⟩
  ·have hb:=(List.getElem?_eq_some_iff.1 h1).1
   by_cases hbe:b∈e
   ·obtain ⟨j,hj⟩:=List.getElem?_of_mem hbe
    obtain ⟨bc,bk,k1,k2,k3,k4,k5,_⟩:=hE.inn j b hj
    rw [h1] at k1;injection k1 with k1;subst k1
    obtain ⟨bk2,f1,f2,f3⟩:=hS2.hist.blk j bk k2
    have hr:rb e HC.length j=some b:=by unfold rb;rw [if_pos (List.getElem?_eq_some_iff.1 hj).1];exact hj
    obtain ⟨bc2,m1,m2,m3,m4,_⟩:=hE.out j b bk2 hr f1
    rw [h2] at m1;injection m1 with m1;subst m1
    exact hS2.hist.size j x bk bk2 c1 ty fz k2 f1 (by omega) ((hι1 j b hj).trans hi) h
   ·exact ⟨c1,ty,fz,by rw [hblkW x (hlt b x hb hi) (hstay b x hb hbe hi)];exact h,rfl⟩
 have hS3:Sit w0 O ι3 HC' w':=by
  refine ⟨fun b bk x h1 h2=>?_,fun b bk h1 h2=>?_,fun b b' x hb hb' h1 h2=>?_,?_,fun x hx=>Nat.lt_of_lt_of_le (hs.old x hx) hsz,fun x b hO hb hx=>?_,hs.hist.trans g.grow⟩
  ·have hb:=(List.getElem?_eq_some_iff.1 h1).1
   rcases hwhat b hb with ⟨k1,k2⟩|⟨j,hj,hr⟩
   ·rw [hE.stay b k1 k2] at h1
    rw [i3s b k1 k2] at h2
    obtain ⟨m1,m2⟩:=hs.heap b bk x h1 h2
    exact ⟨m1,m2.mono g (hblkW x m2.lt (hstay b x k1 k2 h2))⟩
   ·obtain ⟨b',k1,k2,_⟩:=hrb j hj
    rw [hr] at k1;injection k1 with k1;subst k1
    obtain ⟨bc,m1,m2⟩:=hE.out j b _ hr (List.getElem?_eq_getElem hj)
    rw [h1] at m1;injection m1 with m1;subst m1
    rw [k2] at h2
    obtain ⟨n1,n2⟩:=hS2.heap j _ x (List.getElem?_eq_getElem hj) h2
    refine ⟨?_,m2.br hOO3 hidx3 n2⟩
    rcases n1 with n1|n1
    ·exact .inl (Nat.le_trans hs.below.size n1)
    ·obtain ⟨j',b',hb',hx'⟩:=(hrngI x).1 n1
     exact (hs.heap b' _ x (List.getElem?_eq_getElem (hblt j' b' hb')) hx').1
  ·have hb:=(List.getElem?_eq_some_iff.1 h1).1
   rcases hwhat b hb with ⟨k1,k2⟩|⟨j,hj,hr⟩
   ·rw [hE.stay b k1 k2] at h1
    rw [i3s b k1 k2] at h2
    exact hs.empt b bk h1 h2
   ·obtain ⟨b',k1,k2,_⟩:=hrb j hj
    rw [hr] at k1;injection k1 with k1;subst k1
    obtain ⟨bc,m1,m2,m3,m4,_⟩:=hE.out j b _ hr (List.getElem?_eq_getElem hj)
    rw [h1] at m1;injection m1 with m1;subst m1
    rw [k2] at h2
    have:=hS2.empt j _ (List.getElem?_eq_getElem hj) h2
    rw [this] at m4
    exact List.eq_nil_of_length_eq_zero m4
  ·rcases hwhat b hb with ⟨k1,k2⟩|⟨j,hj,hr⟩<;>rcases hwhat b' hb' with ⟨k1',k2'⟩|⟨j',hj',hr'⟩
   ·rw [i3s b k1 k2] at h1;rw [i3s b' k1' k2'] at h2
    exact hs.inj b b' x k1 k1' h1 h2
   ·exfalso
    rw [i3s b k1 k2] at h1
    obtain ⟨b2,m1,m2,_⟩:=hrb j' hj'
    rw [hr'] at m1;injection m1 with m1;subst m1
    rw [m2] at h2
    rcases hnew j' x hj' h2 with n|n
    ·have:=hlt b x k1 h1;omega
    ·exact hstay b x k1 k2 h1 n
   ·exfalso
    rw [i3s b' k1' k2'] at h2
    obtain ⟨b2,m1,m2,_⟩:=hrb j hj
    rw [hr] at m1;injection m1 with m1;subst m1
    rw [m2] at h1
    rcases hnew j x hj h1 with n|n
    ·have:=hlt b' x k1' h2;omega
    ·exact hstay b' x k1' k2' h2 n
   ·obtain ⟨b2,m1,m2,_⟩:=hrb j hj
    rw [hr] at m1;injection m1 with m1;subst m1
    obtain ⟨b3,m1',m2',_⟩:=hrb j' hj'
    rw [hr'] at m1';injection m1' with m1';subst m1'
    rw [m2] at h1;rw [m2'] at h2
    have:=hS2.inj j j' x hj hj' h1 h2
    subst this
    rw [hr] at hr';injection hr' with hr'
  ·refine hs.below.change hS2.below.os hS2.below.tape hS2.below.output hsz fun k hk hne=>?_
   by_cases hr:rng ι1 H k
   ·obtain ⟨j,b,hb,hx⟩:=(hrngI k).1 hr
    exact (hs.heap b _ k (List.getElem?_eq_getElem (hblt j b hb)) hx).1
   ·exact absurd (hblkW k hk hr) hne
  ·rcases hwhat b hb with ⟨k1,k2⟩|⟨j,hj,hr⟩
   ·rw [i3s b k1 k2] at hx;exact hs.disj x b hO k1 hx
   ·obtain ⟨b',k1,k2,_⟩:=hrb j hj
    rw [hr] at k1;injection k1 with k1;subst k1
    rw [k2] at hx
    refine hS2.disj x j ⟨.inl hO,fun hr=>?_⟩ hj hx
    obtain ⟨j',b',hb',hx'⟩:=(hrngI x).1 hr
    exact hs.disj x b' hO (hblt j' b' hb') hx'
 exact hK v w' ι3 hS3 g ((hd HC' w' _ ι2 ι3 v hidx3 hv2).lessO fun y hy=>(hOO3 y).1 hy)
theorem PL.dropP {H H1:List ABlk} {ρ:Operand→AV} {op:Op} {v v2:AV} {B:ABlk} (h:PL P H ρ op v (H1++[B])) (hlen:H.length=H1.length) (hH:∀(b:Nat) (blk:ABlk),H1[b]?=some blk→BlkMv (drp H1.length) (H1++[B]) blk blk)
 (hv:PubR (pre H1.length) (H1++[B]) v v2):PL P H ρ op v2 H1:=by
 intro o ho w0 O ι a w hs hr K Q hK
 refine h o ho w0 O ι a w hs hr K Q fun u w' ι' h1 h2 h3=>?_
 obtain ⟨k1,k3⟩:=h1.drop (fun b hb=>by
  obtain ⟨blk',q1,_⟩:=hs.hist.blk b _ (List.getElem?_eq_getElem hb)
  rw [← hlen];exact (List.getElem?_eq_some_iff.1 q1).1) hH
 have gl:∀b,b<H1.length→(H1++[B])[b]?=H1[b]?:=fun b h=>List.getElem?_append_left h
 refine hK u w' ι' k1 ⟨h2.obj,fun q u hq hc hO=>h2.outo q u hq hc (k3 _ hO),fun b blk hb=>?_,fun b x blk blk' c ty fz e1 e2 e3 e4 e5=>?_⟩ (hv H1 _ w' O ι' ι' u h1 ⟨fun b j blk e1 e2=>?_,fun j x hj hx=>⟨j,by simp;omega,pre_lt hj,hx⟩⟩ h3)
 ·obtain ⟨blk',q1,q2,q3⟩:=h2.blk b blk hb
  have hbl:b<H1.length:=by rw [← hlen];exact (List.getElem?_eq_some_iff.1 hb).1
  rw [gl b hbl] at q1
  exact ⟨blk',q1,q2,q3⟩
 ·have hbl:b<H1.length:=by rw [← hlen];exact (List.getElem?_eq_some_iff.1 e1).1
  exact h2.size b x blk blk' c ty fz e1 (by rw [gl b hbl];exact e2) e3 e4 e5
 ·unfold pre at e1
  split at e1
  ·rename_i hlt
   injection e1 with e1;subst e1
   rw [gl b hlt] at e2
   exact ⟨blk,e2,rfl,rfl,rfl⟩
  ·cases e1
end
end Go.Ab
namespace Go.Ab
open Go Go.RowKit
section
variable {p q:Prop}
theorem rcS (h:q) (k:Hid q→p:=by intro hq__;(repeat (first|((with_reducible apply zG);(simp +decide only [go_sem, *];rfl);(simp +decide only [go_sem, *];(repeat simp +decide only [go_sem, *]);rfl))|(refine zp rfl rfl (pl_box (by simp +decide only [go_sem, *];rfl) rfl) ?_)|(refine zp rfl rfl (pl_alloc (by simp only [go_sem, *];rfl) rfl) ?_)|(refine zp rfl rfl (pl_store (by simp +decide only [go_sem, *];rfl) (by simp +decide only [go_sem, *];rfl) (by simp +decide only [go_sem, *];rfl) (by rfl) (by rfl) (by kernel_rfl) (by rfl) (by rfl)) ?_)|(refine zq rfl rfl (qi rfl rfl (by simp only [go_sem, *];rfl) (by first|omega|(simp;omega)) (by kernel_rfl)) ?_)|(refine zq rfl rfl (qo rfl rfl (by simp only [go_sem, *];rfl) rfl (by first|omega|(simp;omega)) (by simp only [go_sem, *]<;>rfl)) ?_)|(refine zq rfl rfl (qw 0 _ rfl rfl (by first|rfl|(simp only [Nat.zero_add]<;>rfl)) (by first|omega|(simp;omega)) (by simp only [go_sem, *]<;>rfl)) ?_)|(refine zq rfl rfl (qb (by simp only [go_sem, *];rfl) (by simp only [go_sem, *];rfl) (by decide) (by kernel_rfl) (by simp +decide only [List.map,go_sem, *]<;>rfl) (by simp +decide only [List.map,go_sem, *]<;>rfl) (by rfl)) ?_)|(refine zq rfl rfl (qn rfl rfl) ?_)|(refine zq rfl rfl (qx rfl rfl) ?_)));exact hq__.out):p:=k ⟨h⟩
theorem reS (h:q) (k:Hid q→p:=by intro hq__;(repeat (with_reducible apply zs));((with_reducible apply zR);(refine ⟨rfl,rfl,?_⟩;simp +decide only [go_sem, *,List.map];rfl));(repeat (first|((with_reducible apply zG);(simp +decide only [go_sem, *];rfl);(simp +decide only [go_sem, *];(repeat simp +decide only [go_sem, *]);rfl))|(refine zp rfl rfl (pl_box (by simp +decide only [go_sem, *];rfl) rfl) ?_)|(refine zp rfl rfl (pl_alloc (by simp only [go_sem, *];rfl) rfl) ?_)|(refine zp rfl rfl (pl_store (by simp +decide only [go_sem, *];rfl) (by simp +decide only [go_sem, *];rfl) (by simp +decide only [go_sem, *];rfl) (by rfl) (by rfl) (by kernel_rfl) (by rfl) (by rfl)) ?_)|(refine zq rfl rfl (qi rfl rfl (by simp only [go_sem, *];rfl) (by first|omega|(simp;omega)) (by kernel_rfl)) ?_)|(refine zq rfl rfl (qo rfl rfl (by simp only [go_sem, *];rfl) rfl (by first|omega|(simp;omega)) (by simp only [go_sem, *]<;>rfl)) ?_)|(refine zq rfl rfl (qw 0 _ rfl rfl (by first|rfl|(simp only [Nat.zero_add]<;>rfl)) (by first|omega|(simp;omega)) (by simp only [go_sem, *]<;>rfl)) ?_)|(refine zq rfl rfl (qb (by simp only [go_sem, *];rfl) (by simp only [go_sem, *];rfl) (by decide) (by kernel_rfl) (by simp +decide only [List.map,go_sem, *]<;>rfl) (by simp +decide only [List.map,go_sem, *]<;>rfl) (by rfl)) ?_)|(refine zq rfl rfl (qn rfl rfl) ?_)|(refine zq rfl rfl (qx rfl rfl) ?_)));exact hq__.out):p:=k ⟨h⟩
end
section
variable {P:Program} {n:Fr} {q:Bool} {K:ASt→Prop} {Q:Exit→ASt→Prop} {s:ASt}
theorem zOut' (h:K s):ARun P n q [] (thenQ K Q .normal) s:=zN (z1 h)
end
end Go.Ab
