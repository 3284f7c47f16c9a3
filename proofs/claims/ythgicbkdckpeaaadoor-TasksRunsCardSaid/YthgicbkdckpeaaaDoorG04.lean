/- Part. -/
import Derived.RangeFuncRecord
import Derived.Test.YthgicbkdckpeaaaDoorG03
set_option linter.unusedSimpArgs false
set_option linter.unusedVariables false
namespace Go.Ab
open Go Go.RowKit
def vh (P:Program) (m:List (Nat×Obj)) (f:FuncId) (args:List AV) (H:List jy) (d:AV) (H':List jy):Prop:=
 (∃fn,P.funcs[f]?=some fn∧(fn.name == "runtime.NumGoroutine")=false∧fn.body.isNone=false) ∧
 ∀(w:World) (O:Nat→Prop) (ι:Nat→Option Nat) (vs:Array Value),lA ⟨w,nR ι H,H,ι⟩ O ι H w→(∀p∈m,¬OO O ι H p.1∧w.heap[p.1]?=some p.2)→vs.size=args.length →
  (∀(j:Nat) (a:AV) (u:Value),args[j]?=some a→vs[j]?=some u→VR w (OO O ι H) ι H a u) →
  Calls P f vs w fun e w'=>∃v jU,e=.returned v∧lA ⟨w,nR ι H,H,ι⟩ O jU H' w'∧VR w' (OO O jU H') jU H' d v
theorem jS.m {P:Program} {m:List (Nat×Obj)} {f:FuncId} {args:List AV} {d:AV} {H H':List jy} (h:jS P f args H d H'):vh P m f args H d H':=⟨h.1,fun w O ι vs hS _=>h.2 w O ι vs hS⟩
section
variable {P:Program}
theorem UY {X:Env}:∀(l:List AV) (k t:Nat),lk ((l.zipIdx k).map (fun (a,i)=>(i,a))++X) t=if k≤t∧t<k+l.length then (l[t-k]?).getD .bad else lk X t:=by
 intro l
 induction l with
 | nil=>intro k t;simp;intro h1 h2;omega
 | cons x l ih =>
   intro k t;simp only [iz,ef,List.cons_append,lk,ih,ff];split
   ·rename_i e;subst e;simp
   ·rename_i e;by_cases kn:k≤t∧t<k+(l.length+1)
    ·rw [ja ae,ja kn,show t-k=(t-(k+1))+1 by omega];rfl
    ·rw [iZ ae,iZ kn]
theorem vh.intro {m:List (Nat×Obj)} {f:FuncId} {fn:Func} {c:Code} {args:List AV} {d:AV} {H H':List jy} (hf:P.funcs[f]?=some fn) (hn:(fn.name == "runtime.NumGoroutine")=false) (hb:fn.body=some c) (ha:args.length≤fn.ntmps) (yJ:fn.ntmps≤mu)
 (h:jG P ⟨fn.ntmps,H.length⟩ c (CF P fn.results.toList ⟨fn.ntmps,H.length⟩ d H') ⟨(args.zipIdx.map fun (a,i)=>(i,a))++[(mu,.mem m)],H⟩):vh P m f args H d H':=by
 refine ⟨⟨fn,hf,hn,by rw [hb];rfl⟩,fun w O ι vs hS rJ hl hv=>?_⟩;refine calls_of_wp hf hb ?_;have hs:SR ⟨fn.ntmps,H.length⟩ ⟨w,nR ι H,H,ι⟩ O ⟨(args.zipIdx.map fun (a,i)=>(i,a))++[(mu,.mem m)],H⟩ ι { tmps:=vs++Array.replicate (fn.ntmps-vs.size) undef,defers:=[] } w:=by
  refine ⟨hS,rfl,aj,rfl,fun t=>?_⟩;show VR _ _ _ _ (lk (args.zipIdx.map (fun (a,i)=>(i,a))++[(mu,.mem m)]) t) _;rw [UY args 0 t];split
  ·rename_i Y6;simp only [iq];have re:t<args.length:=ae;rw [dy re,eR];have hu:vs[t]?=some vs[t]:=dM ae;have h1:=hv t _ _ (dy re) hu;rw [dH,fB ae,hu];exact h1
  ·show VR _ _ _ _ (if mu=t then AV.mem m else .bad) _;split
   ·exact .mem _ _ rJ
   ·exact .bad _
 refine jh (h _ O ι _ w hs) ?_;have fin:∀(s':ku) (jU:Nat→Option Nat) (a:Act) (w':World),kY P fn.results.toList ⟨fn.ntmps,H.length⟩ d H' s'→SR ⟨fn.ntmps,H.length⟩ ⟨w,nR ι H,H,ι⟩ O s' jU a w' →
  a.defers=[]∧∃v,(results fn a.tmps).run P w'=.ok v w'∧∃v' jO,Ending.returned v=.returned v'∧lA ⟨w,nR ι H,H,ι⟩ O jO H' w'∧VR w' (OO O jO H') jO H' d v':=by
  rintro s0 KJ a w' ⟨s',rs,r,q,hw,h1,h2,h3⟩ pB;obtain ⟨jU,ma⟩:=hw _ _ _ _ _ pB;obtain ⟨u,h4,h5⟩:=OG ma h1;exact ⟨ma.defers,u,h4,u,_,rfl,ma.mP.pQ ma.hand h2,h3 H' _ w' O jU _ u ma.mP (h2.view jU) h5⟩
 rintro e a w' ⟨s',jU,h1,h2⟩;cases e with
 | normal=>exact fin s' jU a w' h1 h2
 | ret=>exact fin s' jU a w' h1 h2
 | _=>exact h1.elim
theorem vh.nZ {m':List (Nat×Obj)} {f:FuncId} {fn:Func} {c:Code} {args:List AV} {d:AV} {H H':List jy} (E:Env) (m n k:Nat) (hf:P.funcs[f]?=some fn) (hn:(fn.name == "runtime.NumGoroutine")=false) (hb:fn.body=some c)
 (hm:args.length=m) (yK:fn.ntmps=n) (ha:Nat.ble m n=true) (yJ:Nat.ble n mu=true) (hE:args.zipIdx.map (fun (a,i)=>(i,a))=E) (hk:H.length=k)
 (h:jG P ⟨n,k⟩ c (CF P fn.results.toList ⟨n,k⟩ d H') ⟨E++[(mu,.mem m')],H⟩):vh P m' f args H d H':=by
 refine vh.intro hf hn hb cK (by rw [yK];exact Nat.le_of_ble_eq_true yJ) ?_;rw [hE,yK,hk];exact h
end
section
variable {P:Program} {HC:List jy}
theorem OW {m:List (Nat×Obj)} {ρ:Operand→AV} {c:Call} {fx:Operand} {f:FuncId} {caps args:List AV} {d d':AV} {e:List Nat} {H H' sU:List jy} (hf:vh P m f args H d H') (pD:Ar m ρ) (hE:tf e HC H H' sU) (hc:c.callee=.value fx)
 (qL:ρ fx=.j9 f caps) (ha:yh (ro e) HC (c.args.toList.map ρ++caps) args) (hd:mI (rb e HC.length) H' d d'):PL P HC ρ (.call c) d' sU:=by
 intro o ho w0 O ι a w hs hv K Q hK;obtain ⟨⟨fn,g1,g2,g3⟩,g4⟩:=hf;have h5:=hv fx;rw [qL] at h5;generalize hX:a.eval fx=X at h5;cases h5 with
 | j9 f caps arr hlen nQ =>
 have CB:∀(j:Nat) (x:AV) (u:Value),(c.args.toList.map ρ++caps)[j]?=some x→(c.args.map a.eval++arr)[j]?=some u→VR w (OO O ι HC) ι HC x u:=by
  intro j x u hx hu;rw [fN] at hx;rw [Array.getElem?_append] at hu;simp only [eo,fv,Array.size_map] at hx hu;split at hx
  ·rename_i hj;rw [ja hj] at hu;simp only [dE,fE,dY,eL] at hx hu;obtain ⟨y,hy,rfl⟩:=hx;obtain ⟨z,hz,rfl⟩:=hu;rw [hy] at hz;cases hz;exact hv y
  ·rename_i hj;rw [iZ hj] at hu;exact nQ _ _ _ hx hu
 have ub:(execOp a.eval o).run P w=.ok (.enter f (c.args.map a.eval++arr)) w:=by
  unfold execOp;rw [ho];simp only [resolve,hc,Deferred.ofValue,hX,dR,dV,dN,invoke,gC,Hp g1 g2 g3]
 let ι1:Nat→Option Nat:=fun j=>(e[j]?).bind ι;have vg:∀j b,e[j]?=some b→ι1 j=ι b:=fun j b h=>by simp [ι1,h]
 have AA:∀j,j<H.length→∃b,e[j]?=some b:=fun j hj=>⟨_,dy (by rw [hE.len];exact hj)⟩
 have sN:∀j b,e[j]?=some b→b<HC.length:=fun j b h=>by
  obtain ⟨bc,bk,h1,_⟩:=hE.zS j b h;exact (dt h1).1
 have JY:∀i j b,e[i]?=some b→e[j]?=some b→i=j:=fun i j b h1 h2=>by
  obtain ⟨Ix,KN⟩:=dt h1;obtain ⟨Nn,Iy⟩:=dt h2;exact (List.getElem_inj hE.one).1 (KN.trans Iy.symm)
 have kn:∀b x,b<HC.length→ι b=some x→x<w.heap.size:=fun b x hb hx=>(hs.heap b _ x (dy hb) hx).2.lt;have u9:∀x,nR ι1 H x↔∃j b,e[j]?=some b∧ι b=some x:=fun x=>by
  constructor
  ·rintro ⟨j,hj,hx⟩;obtain ⟨b,hb⟩:=AA j hj;exact ⟨j,b,hb,by rw [← vg j b hb];exact hx⟩
  ·rintro ⟨j,b,hb,hx⟩;exact ⟨j,by rw [← hE.len];exact (dt hb).1,by rw [vg j b hb];exact hx⟩
 let O1:Nat→Prop:=fun x=>OO O ι HC x∧¬nR ι1 H x;have H7:∀x,OO O1 ι1 H x↔OO O ι HC x:=fun x=>by
  constructor
  ·rintro (h|h)
   ·exact h.1
   ·obtain ⟨j,b,hb,hx⟩:=(u9 x).1 h;exact .inr ⟨b,sN j b hb,hx⟩
  ·intro h;by_cases hr:nR ι1 H x
   ·exact .inr hr
   ·exact .inl ⟨h,hr⟩
 have xo:AS (ro e) ι ι1 HC H:=fun b j blk hr hb=>by
  have hj:=DU hr;obtain ⟨bc,bk,k1,k2,k3,k4,k5,_⟩:=hE.zS j b hj;rw [hb] at k1;injection k1 with k1;subst k1;exact ⟨bk,k2,k5,k4,vg j b hj⟩
 have pZ:lA ⟨w,nR ι1 H,H,ι1⟩ O1 ι1 H w:=by
  refine ⟨fun j bk x h1 h2=>⟨.inr ⟨j,(dt h1).1,h2⟩,?_⟩,fun j bk h1 h2=>?_,fun i j x hi hj h1 h2=>?_,yg.refl ..,fun x hx=>?_,fun x j hO hj hx=>hO.2 ⟨j,hj,hx⟩,.refl ..⟩
  ·obtain ⟨b,hb⟩:=AA j (dt h1).1;obtain ⟨bc,C3,k1,k2,k3⟩:=hE.zS j b hb;rw [h1] at k2;injection k2 with k2;subst k2;exact k3.br H7 xo (hs.heap b bc x k1 (by rw [← vg j b hb];exact h2)).2
  ·obtain ⟨b,hb⟩:=AA j (dt h1).1;obtain ⟨bc,C3,k1,k2,k3,k4,k5,_⟩:=hE.zS j b hb;rw [h1] at k2;injection k2 with k2;subst k2;have:=hs.sq b bc k1 (by rw [← vg j b hb];exact h2);rw [this] at k5;exact dQ k5
  ·obtain ⟨b,hb⟩:=AA i hi;obtain ⟨b',ka⟩:=AA j hj;rw [vg i b hb] at h1;rw [vg j b' ka] at h2;have:=hs.inj b b' x (sN i b hb) (sN j b' ka) h1 h2;subst this;exact JY i j b hb ka
  ·rcases hx.1 with h|⟨b,hb,hx⟩
   ·exact hs.rS x h
   ·exact kn b x hb hx
 unfold Oper.wp;rw [ub,Oper.upon_enter];refine (g4 w O1 ι1 (c.args.map a.eval++arr) pZ (fun p hp=>⟨fun h=>(pD.get (hv (.tmp mu)) p hp).1 ((H7 p.1).1 h),(pD.get (hv (.tmp mu)) p hp).2⟩) (by have:=ha.len;simp only [dK,eo,fv] at this;simp [hlen,← this]) fun j x u hx hu=>?_).mono ?_
 ·have hj:j<(c.args.toList.map ρ++caps).length:=by rw [ha.len];exact (dt hx).1
  have h1:=dy hj;exact (ha.get j _ x h1 hx H w _ ι ι1 u xo (CB j _ u h1 hu)).uu fun y hy=>(H7 y).1 hy
 rintro ex w' ⟨v,jO,rfl,my,oM⟩;let pN:Nat→Option Nat:=fun b=>match ro e b with
  | some j=>jO j
  | none=>if b<HC.length then ι b else jO (H.length+(b-HC.length))
 have QB:∀j b,e[j]?=some b→ro e b=some j:=fun j b h=>by
  cases hr:ro e b with
  | none =>
    unfold ro at hr;rw [fc] at hr;have:=hr b (dx h);simp at this
  | some j'=>rw [JY j' j b (DU hr) h]
 have Kd:∀b,b∉e→ro e b=none:=fun b h=>by
  cases hr:ro e b with
  | none=>rfl
  | some j=>exact absurd (dx (DU hr)) h
 have KO:∀j b,e[j]?=some b→pN b=jO j:=fun j b h=>by simp only [pN,QB j b h]
 have uG:∀b,b<HC.length→b∉e→pN b=ι b:=fun b hb h=>by simp only [pN,Kd b h,hb,jb]
 have rJ:∀b,b∈e→b<HC.length:=fun b h=>by
  obtain ⟨j,hj⟩:=eC h;exact sN j b hj
 have RZ:∀k,pN (HC.length+k)=jO (H.length+k):=fun k=>by
  simp only [pN,Kd (HC.length+k) fun h=>by have:=rJ _ h;omega];rw [iZ ae,fM]
 have tR:∀j,j<H'.length→∃b,rb e HC.length j=some b∧pN b=jO j∧b<sU.length:=fun j hj=>by
  unfold rb;by_cases h:j<e.length
  ·rw [ja h,dy h];have h1:=dy h;exact ⟨_,rfl,KO j _ h1,by have:=sN j _ h1;rw [hE.Ed];omega⟩
  ·rw [iZ h];refine ⟨_,rfl,?_,?_⟩
   ·rw [RZ,hE.len];congr 1;have:=hE.len;omega
   ·rw [hE.Ed];have:=hE.len;omega
 have JZ:AS (rb e HC.length) jO pN H' sU:=fun j b bk hr hb=>by
  obtain ⟨bc,k1,k2,k3,k4,_⟩:=hE.out j b bk hr hb;obtain ⟨b',h1,h2,_⟩:=tR j (dt hb).1;rw [hr] at h1;injection h1 with h1;subst h1;exact ⟨bc,k1,k4,k3,h2⟩
 have yA:∀b,b<sU.length→(b<HC.length∧b∉e)∨∃j,j<H'.length∧rb e HC.length j=some b:=fun b hb=>by
  by_cases h:b<HC.length
  ·by_cases pC:b∈e
   ·obtain ⟨j,hj⟩:=eC pC;have pP:=(dt hj).1;exact .inr ⟨j,by have:=hE.len;have:=hE.le;omega,by unfold rb;rw [ja pP];exact hj⟩
   ·exact .inl ⟨h,pC⟩
  ·have:=hE.len;have:=hE.Ed;have:=hE.le;exact .inr ⟨H.length+(b-HC.length),ae,by unfold rb;rw [iZ ae];congr 1;omega⟩
 have kA:w.heap.size≤w'.heap.size:=my.below.size;have CG:∀x,x<w.heap.size→¬nR ι1 H x→w'.heap[x]?=w.heap[x]?:=fun x h1 h2=>my.below.block x h1 h2;have xm:∀j x,j<H'.length→jO j=some x→w.heap.size≤x∨nR ι1 H x:=fun j x hj hx=>(my.heap j _ x (dy hj) hx).1;have Au:∀b x,b<HC.length→b∉e→ι b=some x→¬nR ι1 H x:=fun b x hb pC hx hr=>by
  obtain ⟨j,b',ka,mH⟩:=(u9 x).1 hr;have:=hs.inj b b' x hb (sN j b' ka) hx mH;subst this;exact pC (dx ka)
 have F3:∀x,OO O pN sU x↔OO O1 jO H' x:=fun x=>by
  constructor
  ·rintro (h|⟨b,hb,hx⟩)
   ·refine .inl ⟨.inl h,fun hr=>?_⟩;obtain ⟨j,b,hb,hx⟩:=(u9 x).1 hr;exact hs.qp x b h (sN j b hb) hx
   ·rcases yA b hb with ⟨h1,h2⟩|⟨j,hj,hr⟩
    ·rw [uG b h1 h2] at hx;exact .inl ⟨.inr ⟨b,h1,hx⟩,Au b x h1 h2 hx⟩
    ·obtain ⟨b',k1,k2,_⟩:=tR j hj;rw [hr] at k1;injection k1 with k1;subst k1;exact .inr ⟨j,hj,by rw [← k2];exact hx⟩
  ·rintro (⟨h,hr⟩|⟨j,hj,hx⟩)
   ·rcases h with h|⟨b,hb,hx⟩
    ·exact .inl h
    ·have pC:b∉e:=fun pC=>by
      obtain ⟨j,hj⟩:=eC pC;exact hr ((u9 x).2 ⟨j,b,hj,hx⟩)
     exact .inr ⟨b,by rw [hE.Ed];omega,by rw [uG b hb pC];exact hx⟩
   ·obtain ⟨b,k1,k2,k3⟩:=tR j hj;exact .inr ⟨b,k3,by rw [k2];exact hx⟩
 have g:mj w (OO O ι HC) ι HC w' (OO O pN sU) pN sU:=by
  refine ⟨fun p u h rH=>?_,fun p u h rH h'=>?_,fun b blk h=>?_,fun b x blk kH c1 ty fz h1 h2 h3 hi h=>?_⟩
  ·have hl:=vY rH;rw [CG p hl fun hr=>?_]
   ·exact rH
   ·obtain ⟨j,b,hb,hx⟩:=(u9 _).1 hr;exact h (.inr ⟨b,sN j b hb,hx⟩)
  ·have hl:=vY rH;rcases (F3 _).1 h' with h'|⟨j,hj,hx⟩
   ·exact h h'.1
   ·rcases xm j _ hj hx with h1|h1
    ·omega
    ·obtain ⟨j',b,hb,mH⟩:=(u9 _).1 h1;exact h (.inr ⟨b,sN j' b hb,mH⟩)
  ·have hb:=(dt h).1;by_cases pC:b∈e
   ·obtain ⟨j,hj⟩:=eC pC;obtain ⟨bc,bk,k1,k2,k3,k4,k5,_⟩:=hE.zS j b hj;rw [h] at k1;injection k1 with k1;subst k1;obtain ⟨C7,f1,f2,f3⟩:=my.pn.blk j bk k2;have hr:rb e HC.length j=some b:=bx;obtain ⟨KP,m1,m2,m3,m4,_⟩:=hE.out j b C7 hr f1;refine ⟨KP,m1,ae,fun he=>?_⟩;obtain ⟨n1,n2⟩:=f3 ae;exact ⟨by rw [m3,n1,k4],by rw [KO j b hj,n2];exact vg j b hj⟩
   ·exact ⟨blk,by rw [hE.stay b hb pC];exact h,dD _,fun _=>⟨rfl,uG b hb pC⟩⟩
  ·have hb:=(dt h1).1;by_cases pC:b∈e
   ·obtain ⟨j,hj⟩:=eC pC;obtain ⟨bc,bk,k1,k2,k3,k4,k5,_⟩:=hE.zS j b hj;rw [h1] at k1;injection k1 with k1;subst k1;obtain ⟨C7,f1,f2,f3⟩:=my.pn.blk j bk k2;have hr:rb e HC.length j=some b:=bx;obtain ⟨KP,m1,m2,m3,m4,_⟩:=hE.out j b C7 hr f1;rw [h2] at m1;injection m1 with m1;subst m1;exact my.pn.size j x bk C7 c1 ty fz k2 f1 ae ((vg j b hj).trans hi) h
   ·exact ⟨c1,ty,fz,by rw [CG x (kn b x hb hi) (Au b x hb pC hi)];exact h,rfl⟩
 have R0:lA w0 O pN sU w':=by
  refine ⟨fun b bk x h1 h2=>?_,fun b bk h1 h2=>?_,fun b b' x hb ka h1 h2=>?_,?_,fun x hx=>eZ (hs.rS x hx) kA,fun x b hO hb hx=>?_,hs.pn.trans g.grow⟩
  ·have hb:=(dt h1).1;rcases yA b hb with ⟨k1,k2⟩|⟨j,hj,hr⟩
   ·rw [hE.stay b k1 k2] at h1;rw [uG b k1 k2] at h2;obtain ⟨m1,m2⟩:=hs.heap b bk x h1 h2;exact ⟨m1,m2.mono g (CG x m2.lt (Au b x k1 k2 h2))⟩
   ·obtain ⟨b',k1,k2,_⟩:=tR j hj;rw [hr] at k1;injection k1 with k1;subst k1;obtain ⟨bc,m1,m2⟩:=hE.out j b _ hr (dy hj);rw [h1] at m1;injection m1 with m1;subst m1;rw [k2] at h2;obtain ⟨n1,n2⟩:=my.heap j _ x (dy hj) h2;refine ⟨?_,m2.br F3 JZ n2⟩;rcases n1 with n1|n1
    ·exact .inl (fI hs.below.size n1)
    ·obtain ⟨j',b',ka,mH⟩:=(u9 x).1 n1;exact (hs.heap b' _ x (dy (sN j' b' ka)) mH).1
  ·have hb:=(dt h1).1;rcases yA b hb with ⟨k1,k2⟩|⟨j,hj,hr⟩
   ·rw [hE.stay b k1 k2] at h1;rw [uG b k1 k2] at h2;exact hs.sq b bk h1 h2
   ·obtain ⟨b',k1,k2,_⟩:=tR j hj;rw [hr] at k1;injection k1 with k1;subst k1;obtain ⟨bc,m1,m2,m3,m4,_⟩:=hE.out j b _ hr (dy hj);rw [h1] at m1;injection m1 with m1;subst m1;rw [k2] at h2;have:=my.sq j _ (dy hj) h2;rw [this] at m4;exact dQ m4
  ·rcases yA b hb with ⟨k1,k2⟩|⟨j,hj,hr⟩<;>rcases yA b' ka with ⟨AT,GF⟩|⟨j',mC,zT⟩
   ·rw [uG b k1 k2] at h1;rw [uG b' AT GF] at h2;exact hs.inj b b' x k1 AT h1 h2
   ·exfalso;rw [uG b k1 k2] at h1;obtain ⟨b2,m1,m2,_⟩:=tR j' mC;rw [zT] at m1;injection m1 with m1;subst m1;rw [m2] at h2;rcases xm j' x mC h2 with n|n
    ·have:=kn b x k1 h1;omega
    ·exact Au b x k1 k2 h1 n
   ·exfalso;rw [uG b' AT GF] at h2;obtain ⟨b2,m1,m2,_⟩:=tR j hj;rw [hr] at m1;injection m1 with m1;subst m1;rw [m2] at h1;rcases xm j x hj h1 with n|n
    ·have:=kn b' x AT h2;omega
    ·exact Au b' x AT GF h2 n
   ·obtain ⟨b2,m1,m2,_⟩:=tR j hj;rw [hr] at m1;injection m1 with m1;subst m1;obtain ⟨b3,C8,R1,_⟩:=tR j' mC;rw [zT] at C8;injection C8 with C8;subst C8;rw [m2] at h1;rw [R1] at h2;have:=my.inj j j' x hj mC h1 h2;subst this;rw [hr] at zT;injection zT with zT
  ·refine hs.below.change my.below.os my.below.tape my.below.output kA fun k hk lO=>?_;by_cases hr:nR ι1 H k
   ·obtain ⟨j,b,hb,hx⟩:=(u9 k).1 hr;exact (hs.heap b _ k (dy (sN j b hb)) hx).1
   ·exact absurd (CG k hk hr) lO
  ·rcases yA b hb with ⟨k1,k2⟩|⟨j,hj,hr⟩
   ·rw [uG b k1 k2] at hx;exact hs.qp x b hO k1 hx
   ·obtain ⟨b',k1,k2,_⟩:=tR j hj;rw [hr] at k1;injection k1 with k1;subst k1;rw [k2] at hx;refine my.qp x j ⟨.inl hO,fun hr=>?_⟩ hj hx;obtain ⟨j',b',ka,mH⟩:=(u9 x).1 hr;exact hs.qp x b' hO (sN j' b' ka) mH
 exact hK v w' pN R0 g ((hd sU w' _ jO pN v JZ oM).uu fun y hy=>(F3 y).1 hy)
theorem PL.WW {H H1:List jy} {ρ:Operand→AV} {op:Op} {v v2:AV} {B:jy} (h:PL P H ρ op v (H1++[B])) (hlen:H.length=H1.length) (hH:∀(b:Nat) (blk:jy),H1[b]?=some blk→xZ (GJ H1.length) (H1++[B]) blk blk)
 (hv:mL (pre H1.length) (H1++[B]) v v2):PL P H ρ op v2 H1:=by
 intro o ho w0 O ι a w hs hr K Q hK;refine h o ho w0 O ι a w hs hr K Q fun u w' jU h1 h2 h3=>?_;obtain ⟨k1,k3⟩:=h1.drop (fun b hb=>by
  obtain ⟨kH,q1,_⟩:=hs.pn.blk b _ (dy hb);rw [← hlen];exact (dt q1).1) hH
 have gl:∀b,b<H1.length→(H1++[B])[b]?=H1[b]?:=fun b h=>dA h;refine hK u w' jU k1 ⟨h2.obj,fun q u hq hc hO=>h2.Ec q u hq hc (k3 _ hO),fun b blk hb=>?_,fun b x blk kH c ty fz e1 e2 e3 e4 e5=>?_⟩ (hv H1 _ w' O jU jU u h1 ⟨fun b j blk e1 e2=>?_,fun j x hj hx=>⟨j,aj,rF hj,hx⟩⟩ h3)
 ·obtain ⟨kH,q1,q2,q3⟩:=h2.blk b blk hb;have lR:b<H1.length:=cS;rw [gl b lR] at q1;exact ⟨kH,q1,q2,q3⟩
 ·have lR:b<H1.length:=cT;exact h2.size b x blk kH c ty fz e1 (by rw [gl b lR];exact e2) e3 e4 e5
 ·unfold pre at e1;split at e1
  ·rename_i kn;injection e1 with e1;subst e1;rw [gl b kn] at e2;exact ⟨blk,e2,rfl,rfl,rfl⟩
  ·cases e1
end
section
variable {p q:Prop}
theorem IA (h:q) (k:Hid q→p:=by intro xn;(repeat (first|((with_reducible apply zG);(simp +decide only [go_sem, *];rfl);(simp +decide only [go_sem, *];(repeat simp +decide only [go_sem, *]);rfl))|(refine zp rfl rfl (xW aD rfl) ?_)|(refine zp rfl rfl (wD aI rfl) ?_)|(refine zp rfl rfl (qP aD aD aD bU bU ag bU bU) ?_)|(refine zq rfl rfl (qi rfl rfl aI aN ag) ?_)|(refine zq rfl rfl (qo rfl rfl aI rfl aN bn) ?_)|(refine zq rfl rfl (qw 0 _ rfl rfl bz aN bn) ?_)|(refine zq rfl rfl (qb aI aI az ag aO aO bU) ?_)|(refine zq rfl rfl (qn rfl rfl) ?_)|(refine zq rfl rfl (qx rfl rfl) ?_)));exact xn.out):p:=k ⟨h⟩
theorem yj (h:q) (k:Hid q→p:=by intro xn;(repeat (with_reducible apply zs));((with_reducible apply zR);(refine ⟨rfl,rfl,?_⟩;simp +decide only [go_sem, *,List.map];rfl));(repeat (first|((with_reducible apply zG);(simp +decide only [go_sem, *];rfl);(simp +decide only [go_sem, *];(repeat simp +decide only [go_sem, *]);rfl))|(refine zp rfl rfl (xW aD rfl) ?_)|(refine zp rfl rfl (wD aI rfl) ?_)|(refine zp rfl rfl (qP aD aD aD bU bU ag bU bU) ?_)|(refine zq rfl rfl (qi rfl rfl aI aN ag) ?_)|(refine zq rfl rfl (qo rfl rfl aI rfl aN bn) ?_)|(refine zq rfl rfl (qw 0 _ rfl rfl bz aN bn) ?_)|(refine zq rfl rfl (qb aI aI az ag aO aO bU) ?_)|(refine zq rfl rfl (qn rfl rfl) ?_)|(refine zq rfl rfl (qx rfl rfl) ?_)));exact xn.out):p:=k ⟨h⟩
end
section
variable {P:Program} {n:Fr} {q:Bool} {K:ku→Prop} {Q:Exit→ku→Prop} {s:ku}
theorem Bq (h:K s):jB P n q [] (xY K Q .normal) s:=zN (z1 h)
end
def pL (P:Program) (n:Fr) (w0:nd) (O:Nat→Prop) (c:Code) (Q:Exit→ku→Prop) (s:ku):Prop:=
 ∀(ι:Nat→Option Nat) (a:Act) (w:World),SR n w0 O s ι a w→c.wp P (HT w0 O n Q) a w
section
variable {P:Program} {n:Fr} {w0:nd} {O:Nat→Prop} {Q:Exit→ku→Prop} {s:ku}
theorem pL.of {c:Code} (h:jG P n c Q s):pL P n w0 O c Q s:=fun ι a w hs=>h w0 O ι a w hs
theorem pL.mono {c:Code} {Q':Exit→ku→Prop} (h:pL P n w0 O c Q' s) (hq:∀e s,Q' e s→Q e s):pL P n w0 O c Q s:=
 fun ι a w hs=>jh (h ι a w hs) fun e a w ⟨s',jU,h1,h2⟩=>⟨s',jU,hq _ _ h1,h2⟩
theorem pL.seq {x y:Code} (h:pL P n w0 O x (xY (pL P n w0 O y Q) Q) s):pL P n w0 O (.seq x y) Q s:=by
 intro ι a w hs;refine wp_seq (jh (h ι a w hs) ?_);rintro e a w ⟨s',jU,h1,h2⟩;cases e with
 | normal=>exact h1 jU a w h2
 | _=>exact ⟨s',jU,h1,h2⟩
theorem pL.step {x y:Code} (S2:ku) (h:jG P n x (xY (fun s'=>Wk n s' S2) Q) s) (h2:pL P n w0 O y Q S2):pL P n w0 O (.seq x y) Q s:=by
 refine .seq ?_;intro ι a w hs;refine jh (h w0 O ι a w hs) ?_;rintro e a w ⟨s',jU,h3,h4⟩;cases e with
 | normal =>
   obtain ⟨jO,h5⟩:=h3 _ _ _ _ _ h4;exact ⟨S2,jO,h2,h5⟩
 | _=>exact ⟨s',jU,h3,h4⟩
theorem pL.block {id:Nat} {c:Code} (h:pL P n w0 O c (Bs id Q) s):pL P n w0 O (.block id c) Q s:=by
 intro ι a w hs;refine wp_block (jh (h ι a w hs) ?_);rintro e a w ⟨s',jU,h1,h2⟩;cases e with
 | exit EC =>
   simp only [Bs] at h1;simp only [Exit.inBlock];split
   ·rename_i e;rw [ja e] at h1;exact ⟨s',jU,h1,h2⟩
   ·rename_i e;rw [iZ e] at h1;exact ⟨s',jU,h1,h2⟩
 | _=>exact ⟨s',jU,h1,h2⟩
theorem pL.weaken {c:Code} {s2:ku} (hw:Wk n s s2) (h:pL P n w0 O c Q s2):pL P n w0 O c Q s:=by
 intro ι a w hs;obtain ⟨jO,jW⟩:=hw _ _ _ _ _ hs;exact h jO a w jW
theorem pL.loop {X:Type} (J:X→Prop) (I:X→ku) (μ:X→Nat) {c:Code} (x0:X) (h0:J x0) (hw:Wk n s (I x0))
 (hr:∀x,J x→pL P n w0 O c (xY (fun s'=>∃y,J y∧μ y<μ x∧Wk n s' (I y)) Q) (I x)):pL P n w0 O (.loop c) Q s:=by
 intro ι a w hs;obtain ⟨KJ,pB⟩:=hw _ _ _ _ _ hs;have key:∀(m:Nat) (x:X),μ x=m→J x→∀ι a w,SR n w0 O (I x) ι a w→∀(b:Frame) (k:List Item) (cs:List Frame),
  ∃e a' w',HT w0 O n Q e a' w'∧Arrives P (lone (b.at a (.code c::.inLoop c::k)) cs w) b k cs e a' w':=by
  intro m
  induction m using Nat.strongRecOn with
  | _ m ih =>
    intro x hm hx ι a w hs b k cs;obtain ⟨e,a1,w1,⟨s',jU,hq,ma⟩,qt⟩:=hr x hx ι a w hs b (.inLoop c::k) cs;cases e with
    | normal =>
      obtain ⟨y,hy,kn,sD⟩:=hq;obtain ⟨jO,jW⟩:=sD _ _ _ _ _ ma;obtain ⟨e2,a2,w2,AO,JV⟩:=ih (μ y) (hm▸kn) y rfl hy jO a1 w1 jW b k cs;exact ⟨e2,a2,w2,AO,.of_steps (Steps.trans qt (.one step_inLoop)) JV⟩
    | exit id=>exact ⟨_,a1,w1,⟨s',jU,hq,ma⟩,.pass (x:=.inLoop c) rfl (fun _ _=>.inl ah) qt⟩
    | goto l=>exact ⟨_,a1,w1,⟨s',jU,hq,ma⟩,.pass (x:=.inLoop c) rfl (fun _ _=>.inl ah) qt⟩
    | ret=>exact ⟨_,a1,w1,⟨s',jU,hq,ma⟩,.pass (x:=.inLoop c) rfl (fun _ _=>.inl ah) qt⟩
    | panic ch=>exact ⟨_,a1,w1,⟨s',jU,hq,ma⟩,.pass (x:=.inLoop c) rfl (fun _ _=>.inl ah) qt⟩
    | outgrown=>exact ⟨_,a1,w1,⟨s',jU,hq,ma⟩,.pass (x:=.inLoop c) rfl (fun _ _=>.inl ah) qt⟩
 intro b k cs;obtain ⟨e,a',w',hq,qt⟩:=key _ x0 rfl h0 KJ a w pB b k cs;exact ⟨e,a',w',hq,.of_steps (.one step_loop) qt⟩
end
section
variable {w0:nd} {O:Nat→Prop} {ι jO:Nat→Option Nat} {H H2:List jy} {W W2:World} {l:Nat} {o o2:Obj}
theorem Bf {w:World} {l:Nat} {o:Obj} {k:Nat} (h:k≠l):(w.putObj l o).heap[k]?=w.heap[k]?:=by
 unfold World.putObj;simp only;rw [dZ];rw [iZ fun e=>h e.symm]
theorem UZ {w:World} {l:Nat} {o:Obj} (h:l<w.heap.size):(w.putObj l o).heap[l]?=some o:=by
 unfold World.putObj;simp only;rw [dZ,ja rfl,ja h]
theorem DP {w:World} {l:Nat} {o:Obj}:(w.putObj l o).heap.size=w.heap.size:=by
 unfold World.putObj;simp
theorem mj.put (hO:O l) (zV:∀c ty fz,W.heap[l]?≠some (.cells c ty fz)):mj W (OO O ι H) ι H (W.putObj l o) (OO O ι H) ι H:=by
 refine ⟨fun p u hp hu=>?_,fun p u hp _=>hp,fun b blk hb=>⟨blk,hb,dD _,fun _=>⟨rfl,rfl⟩⟩,fun b x blk kH c ty fz h1 h2 _ hi hc=>?_⟩
 ·rw [Bf (k:=p) (l:=l) fun e=>hp (.inl (by rw [e];exact hO))];exact hu
 ·refine ⟨c,ty,fz,?_,rfl⟩;rw [Bf (k:=x) (l:=l) fun e=>zV c ty fz (by rw [← e];exact hc)];exact hc
theorem lA.amT (hs:lA w0 O ι H W) (hO:O l) (zV:∀c ty fz,W.heap[l]?≠some (.cells c ty fz)):lA ⟨W.putObj l o,nR ι H,H,ι⟩ O ι H (W.putObj l o):=by
 refine ⟨fun b blk x h1 h2=>⟨.inr ⟨b,(dt h1).1,h2⟩,?_⟩,hs.sq,hs.inj,.refl ..,fun x hx=>by rw [DP];exact hs.rS x hx,hs.qp,.refl ..⟩;refine (hs.heap b blk x h1 h2).2.mono (mj.put hO zV) (Bf fun e=>?_);exact hs.qp l b hO (dt h1).1 (e▸h2)
theorem lA.back (hs:lA w0 O ι H W) (hO:O l) (hl:W.heap[l]?=some o) (zV:∀c ty fz,o≠.cells c ty fz) (atH:∀c ty fz,o2≠.cells c ty fz) (h2:lA ⟨W.putObj l o2,nR ι H,H,ι⟩ O jO H2 W2) :
 W2.heap[l]?=some o2∧lA w0 O jO H2 (W2.putObj l o)∧mj W2 (OO O jO H2) jO H2 (W2.putObj l o) (OO O jO H2) jO H2:=by
 have kn:l<W.heap.size:=(eP.1 hl).1;have rW:¬nR ι H l:=fun ⟨b,hb,hx⟩=>hs.qp l b hO hb hx;have nL:W2.heap[l]?=some o2:=by
  have:=h2.below.block l (by show l<(W.putObj l o2).heap.size;rw [DP];exact kn) rW;rw [this];exact UZ kn
 have Kg:l<W2.heap.size:=(eP.1 nL).1;have R4:mj W2 (OO O jO H2) jO H2 (W2.putObj l o) (OO O jO H2) jO H2:=mj.put hO fun c ty fz e=>by rw [nL] at e;injection e with e;exact atH c ty fz e
 have AU:mj W (OO O ι H) ι H (W.putObj l o2) (OO O ι H) ι H:=mj.put hO fun c ty fz e=>by rw [hl] at e;injection e with e;exact zV c ty fz e
 have kA:w0.w.heap.size≤W.heap.size:=hs.below.size;have wz:∀x,nR ι H x→w0.w.heap.size≤x∨w0.S x:=fun x ⟨b,hb,hx⟩=>(hs.heap b _ x (dy hb) hx).1;refine ⟨nL,⟨fun b blk x h3 h4=>?_,h2.sq,h2.inj,⟨?_,?_,?_,?_,fun k hk hS=>?_⟩,fun x hx=>by rw [DP];exact h2.rS x hx,h2.qp,?_⟩,R4⟩
 ·obtain ⟨h5,h6⟩:=h2.heap b blk x h3 h4;refine ⟨?_,h6.mono R4 (Bf fun e=>h2.qp l b hO (dt h3).1 (e▸h4))⟩;rcases h5 with h5|h5
  ·have:(W.putObj l o2).heap.size≤x:=h5;rw [DP] at this;exact .inl ae
  ·exact wz x h5
 ·exact h2.below.os.trans hs.below.os
 ·exact h2.below.tape.trans hs.below.tape
 ·exact h2.below.output.trans hs.below.output
 ·have:(W.putObj l o2).heap.size≤W2.heap.size:=h2.below.size;rw [DP] at this ⊢;omega
 ·by_cases e:k=l
  ·subst e;rw [UZ Kg,← hl];exact hs.below.block k hk hS
  ·rw [Bf e];have R5:¬nR ι H k:=fun hr=>by
    rcases wz k hr with h|h
    ·omega
    ·exact hS h
   rw [h2.below.block k (by show k<(W.putObj l o2).heap.size;rw [DP];omega) R5];show (W.putObj l o2).heap[k]?=_;rw [Bf e];exact hs.below.block k hk hS
 ·exact ((hs.pn.trans AU.grow).trans h2.pn).trans R4.grow
end
section
variable {w0:nd} {O O2:Nat→Prop} {ι jO:Nat→Option Nat} {H H2:List jy} {W W2:World} {l:Nat} {o o1 o2:Obj}
theorem lA.uu (hs:lA w0 O ι H W) (h:∀x,O2 x→O x):lA w0 O2 ι H W:=
 ⟨fun b blk x h1 h2=>⟨(hs.heap b blk x h1 h2).1,(hs.heap b blk x h1 h2).2.uu fun y hy=>hy.elim (fun k=>.inl (h y k)) .inr⟩,hs.sq,hs.inj,hs.below,fun x hx=>hs.rS x (h x hx),fun x b hx=>hs.qp x b (h x hx),hs.pn⟩
theorem lA.XA (hs:lA w0 O ι H W) (hO:O l) (hl:w0.w.heap.size≤l) (zV:∀c ty fz,W.heap[l]?≠some (.cells c ty fz)):lA w0 O ι H (W.putObj l o):=by
 have hg:mj W (OO O ι H) ι H (W.putObj l o) (OO O ι H) ι H:=mj.put hO zV;refine ⟨fun b blk x h1 h2=>⟨(hs.heap b blk x h1 h2).1,(hs.heap b blk x h1 h2).2.mono hg (Bf fun e=>hs.qp l b hO (dt h1).1 (e▸h2))⟩,hs.sq,hs.inj,⟨hs.below.os,hs.below.tape,hs.below.output,by rw [DP];exact hs.below.size,fun k hk hS=>?_⟩,fun x hx=>by rw [DP];exact hs.rS x hx,hs.qp,hs.pn.trans hg.grow⟩;rw [Bf ae];exact hs.below.block k hk hS
abbrev two (W:World) (o1 o2:Obj):World:=(W.alloc o1).alloc o2
abbrev Cy (O:Nat→Prop) (W:World):Nat→Prop:=fun x=>O x∨x=W.heap.size∨x=W.heap.size+1
theorem Me:(two W o1 o2).heap.size=W.heap.size+2:=by
 show ((W.heap.push o1).push o2).size=_;rw [Array.size_push,Array.size_push]
theorem HB {k:Nat} (h:k<W.heap.size):(two W o1 o2).heap[k]?=W.heap[k]?:=by
 show ((W.heap.push o1).push o2)[k]?=_;rw [gO,iZ aj,gO,iZ ae]
theorem apU:(two W o1 o2).heap[W.heap.size]?=some o1:=by
 show ((W.heap.push o1).push o2)[W.heap.size]?=_;rw [gO,iZ ah,gO,ja rfl]
theorem WX:(two W o1 o2).heap[W.heap.size+1]?=some o2:=by
 show ((W.heap.push o1).push o2)[W.heap.size+1]?=_;rw [gO,ja ah]
theorem Pb:Grow W ι H (two W o1 o2) ι H:=
 ⟨fun b blk hb=>⟨blk,hb,dD _,fun _=>⟨rfl,rfl⟩⟩,fun b x blk kH c ty fz h1 h2 _ hi hc=>⟨c,ty,fz,by rw [HB (vY hc)];exact hc,rfl⟩⟩
theorem U0:mj W (OO O ι H) ι H (two W o1 o2) (OO (Cy O W) ι H) ι H:=
 ⟨fun p u hp hu=>by rw [HB (vY hu)];exact hu,fun p u hp hu hO=>by
  have:=vY hu;rcases hO with (h|h|h)|h
  ·exact hp (.inl h)
  ·omega
  ·omega
  ·exact hp (.inr h),(Pb (W:=W) (o1:=o1) (o2:=o2)).blk,(Pb (W:=W) (o1:=o1) (o2:=o2)).size⟩
theorem lA.more (hs:lA w0 O ι H W):lA ⟨two W o1 o2,nR ι H,H,ι⟩ (Cy O W) ι H (two W o1 o2):=by
 have kn:∀b x,b<H.length→ι b=some x→x<W.heap.size:=fun b x hb hx=>(hs.heap b _ x (dy hb) hx).2.lt;refine ⟨fun b blk x h1 h2=>⟨.inr ⟨b,(dt h1).1,h2⟩,(hs.heap b blk x h1 h2).2.mono U0 (HB (kn b x (dt h1).1 h2))⟩,hs.sq,hs.inj,.refl ..,fun x hx=>?_,fun x b hO hb hx=>?_,.refl ..⟩
 ·rw [Me];rcases hx with h|h|h
  ·have:=hs.rS x h;omega
  ·omega
  ·omega
 ·rcases hO with h|h|h
  ·exact hs.qp x b h hb hx
  ·have:=kn b x hb hx;omega
  ·have:=kn b x hb hx;omega
theorem lA.ahD (hs:lA w0 O ι H W) (h2:lA ⟨two W o1 o2,nR ι H,H,ι⟩ (Cy O W) jO H2 W2) :
 lA w0 (Cy O W) jO H2 W2∧W2.heap[W.heap.size]?=some o1∧W2.heap[W.heap.size+1]?=some o2:=by
 have kn:∀x,nR ι H x→x<W.heap.size:=fun x ⟨b,hb,hx⟩=>(hs.heap b _ x (dy hb) hx).2.lt;have wz:∀x,nR ι H x→w0.w.heap.size≤x∨w0.S x:=fun x ⟨b,hb,hx⟩=>(hs.heap b _ x (dy hb) hx).1;have kA:w0.w.heap.size≤W.heap.size:=hs.below.size;have QH:∀k,k<W.heap.size+2→¬nR ι H k→W2.heap[k]?=(two W o1 o2).heap[k]?:=fun k hk hr=>h2.below.block k (by show k<(two W o1 o2).heap.size;rw [Me];exact hk) hr;have aDm:W.heap.size+2≤W2.heap.size:=by
  have:(two W o1 o2).heap.size≤W2.heap.size:=h2.below.size;rw [Me] at this;exact this
 refine ⟨⟨fun b blk x h3 h4=>⟨?_,(h2.heap b blk x h3 h4).2⟩,h2.sq,h2.inj,⟨h2.below.os.trans hs.below.os,h2.below.tape.trans hs.below.tape,h2.below.output.trans hs.below.output,ae,fun k hk hS=>?_⟩,h2.rS,h2.qp,(hs.pn.trans (Pb (o1:=o1) (o2:=o2))).trans h2.pn⟩,?_,?_⟩
 ·rcases (h2.heap b blk x h3 h4).1 with h5|h5
  ·have:(two W o1 o2).heap.size≤x:=h5;rw [Me] at this;exact .inl ae
  ·exact wz x h5
 ·have R5:¬nR ι H k:=fun hr=>by
   rcases wz k hr with h|h
   ·omega
   ·exact hS h
  rw [QH k ae R5,HB ae];exact hs.below.block k hk hS
 ·rw [QH _ ae fun hr=>by have:=kn _ hr;omega];exact apU
 ·rw [QH _ ae fun hr=>by have:=kn _ hr;omega];exact WX
end
section
variable {P:Program} {n:Fr} {w w':World} {w0:nd} {O:Nat→Prop} {ι jU:Nat→Option Nat} {H H':List jy} {u:Value}
structure T9 (st:Nat→Option Nat) (ops:Array Oper) (k m:Nat):Prop where
 one:∀i j c,i<k→j<k→st i=some c→st j=some c→i=j
 lt:∀i c,i<k→st i=some c→c<m
 chain:∀i o c c',i<k→ops[i]?=some o→st i=some c→c'<c→∃j,j<k∧st j=some c'∧reach ops 2 o j=true
 all:∀c,c<m→∃j,j<k∧st j=some c
def Mn (st:List (Option Nat)) (ops:Array Oper) (k m:Nat):Bool:=
 let is:=List.range k
 (is.all fun i=>is.all fun j=>match st.getD i none,st.getD j none with|some c,some c'=>i==j||c !=c'|_,_=>true) &&
 (is.all fun i=>match st.getD i none with|some c=>decide (c<m)&&((List.range c).all fun c'=>is.any fun j=>st.getD j none==some c'&&(match ops[i]? with|some o=>reach ops 2 o j|none=>false))|none=>true) &&
 ((List.range m).all fun c=>is.any fun j=>st.getD j none==some c)
theorem adF {st:List (Option Nat)} {ops:Array Oper} {k m:Nat} (h:Mn st ops k m=true):T9 (fun i=>st.getD i none) ops k m:=by
 unfold Mn at h;simp only [er] at h;obtain ⟨⟨h1,h2⟩,h3⟩:=h;have m1:∀ {i:Nat},i<k→i∈List.range k:=fun h=>cb;refine ⟨fun i j c hi hj e1 e2=>?_,fun i c hi e=>?_,fun i o c c' hi ho e hc=>?_,fun c hc=>?_⟩
 ·have:=du (du h1 i (m1 hi)) j (m1 hj);simp only [e1,e2] at this;simpa using this
 ·have:=du h2 i (m1 hi);simp only [e,er] at this;simpa using this.1
 ·have:=du h2 i (m1 hi);simp only [e,er] at this;obtain ⟨j,hj,hx⟩:=eS.1 (du this.2 c' (by simpa using hc));simp only [er,jk,ho] at hx;exact ⟨j,db,hx.1,hx.2⟩
 ·obtain ⟨j,hj,hx⟩:=eS.1 (du h3 c (by simpa using hc));exact ⟨j,db,by simpa using hx⟩
theorem adW {ops:Array Oper} {D:List (Option Tmp)} {k:Nat} (hD:ops.toList.map (·.dst)=D) (rL:ops.toList.all (wQ D)=true) (hf:Ht D ops k) {st:Nat→Option Nat} {m0:Nat} {HS:Nat→List jy} (wW:T9 st ops k m0) (hk:k≤ops.size) {q:Bool} {s1 s':ku} {O:Nat→Prop}
 {g:Nat→Nat→AV} {vs:Nat→AV} (vf:g k=lk s1.env) (jP:∀i o,ops[i]?=some o→i<k→((st i=none∧∀c,c≤m0→xg P n (HS c) (g i) (pU D o) (vs i))∨∃c,st i=some c∧CE P n (HS c) (g i) (pU D o) (vs i) (HS (c+1)))∧g (i+1)=qq (g i) o.dst (vs i)) (JX:HS m0=s1.H)
 (ht:Tr P n q ((ops.toList.drop k).map (pU D)) s1 s') :
 ∀(fuel:Nat) (L:Array Bool) (U:List Nat) (ι:Nat→Option Nat) (c0:Nat) (a:Act) (w:World),c0≤m0→(∀j c,j<k→st j=some c→(L.getD j false=true↔c<c0))→L.size=ops.size→(∀j,j<k→(L.getD j false=false↔j∈U))→U.length+(ops.size-k)≤fuel→(∀j,k≤j→L.getD j false=false)→Cx ops L→rK n w0 O (mix D k (g 0) (g k) L) (HS c0) ι a w →
  wpAny P .any ops (vA w0 O n s') fuel L a w:=by
 have vk:∀(i:Nat) (o:Oper),ops[i]?=some o→D[i]?=some o.dst:=fun i o ho=>bI;have xh:∀t i j,i≤j→j≤k→(∀m,i≤m→m<j→D[m]?≠some (some t))→g j t=g i t:=by
  intro t i j sC;obtain ⟨d,rfl⟩:=gP sC;clear sC
  induction d with
  | zero=>intro _ _;rfl
  | succ d ih =>
    intro Gv mU;generalize KI:i+d=j at ih;have sC:i≤j:=ae;rw [show i+(d+1)=j+1 by omega] at Gv mU ⊢;have ho:ops[j]?=some ops[j]:=dM ae;rw [(jP j _ ho ae).2];unfold qq;rw [iZ (fun e=>mU j sC ae (by rw [vk j _ ho,e]))];exact ih ae fun m hm RM=>mU m hm ae
 have oh:∀j o d,ops[j]?=some o→j<k→o.dst=some d→g k d=vs j∧∀i,j<i→i≤k→g i d=vs j:=by
  intro j o d ho hj hd;have h1:g (j+1) d=vs j:=cU;have h2:∀i,j<i→i≤k→g i d=vs j:=fun i hi oj=>by
   rw [xh d (j+1) i hi oj fun m hm Nk e=>hf.one j m d hj ae ae (by rw [vk j o ho,hd]) e];exact h1
  exact ⟨h2 k hj (dD _),h2⟩
 intro fuel;have FW:∀(L:Array Bool) (ι:Nat→Option Nat) (a:Act) (w:World),L.size=ops.size→(∀j,k≤j→L.getD j false=false)→rK n w0 O (mix D k (g 0) (g k) L) s1.H ι a w→(∀j,j<k→L.getD j false=true)→SR n w0 O s1 ι a w:=by
  intro L ι a w kA hL hs ou;refine ⟨hs.mP,hs.defers,hs.size,hs.hand,fun t=>?_⟩;have h1:=hs.oV t;have h2:mix D k (g 0) (g k) L t=lk s1.env t:=by
   rw [← vf];by_cases hex:∃j,j<k∧D[j]?=some (some t)
   ·obtain ⟨j,hj,hd⟩:=hex;exact uO hj (ou j hj) hd
   ·rw [uM (fun j hj _ hd=>hex ⟨j,hj,hd⟩)];exact (xh t 0 k (dL _) (dD _) fun m _ hm hd=>hex ⟨m,hm,hd⟩).symm
  rwa [h2] at h1
 have As:∀(L:Array Bool) (ι:Nat→Option Nat) (c0:Nat) (a:Act) (w:World) (fuel:Nat),c0≤m0→(∀j c,j<k→st j=some c→(L.getD j false=true↔c<c0))→L.size=ops.size→(∀j,k≤j→L.getD j false=false)→rK n w0 O (mix D k (g 0) (g k) L) (HS c0) ι a w→(∀j,j<k→L.getD j false=true)→ops.size≤k+fuel →
  wpAny P .any ops (vA w0 O n s') fuel L a w:=by
  intro L ι c0 a w fuel l5 qV kA hL hs ou xz;have xF:c0=m0:=by
   rcases eE c0 m0 with h|h
   ·obtain ⟨j,hj,he⟩:=wW.all c0 h;have:=(qV j c0 hj he).1 (ou j hj);omega
   ·omega
  rw [xF,JX] at hs;refine LY hD rL hf fuel k s1 L ι a w (dD _) hk xz kA (fun j hj=>?_) ht (FW L ι a w kA hL hs ou);rcases eE j k with h|h
  ·rw [ou j h];simp [h]
  ·rw [hL j h];simp;omega
 induction fuel with
 | zero =>
   intro L U ι c0 a w l5 qV kA hU hc hL lK hs;have sM:U=[]:=dQ ae;subst sM;exact As L ι c0 a w 0 l5 qV kA hL hs (fun j hj=>by
    cases h:L.getD j false with
    | true=>rfl
    | false=>exact absurd ((hU j hj).1 h) ah) ae
 | succ fuel ih =>
   intro L U ι c0 a w l5 qV kA hU hc hL lK hs;by_cases ou:∀j,j<k→L.getD j false=true
   ·exact As L ι c0 a w _ l5 qV kA hL hs ou ae
   ·have qU:∀i,i<ops.size→L.getD i true=L.getD i false:=fun i hi=>aQ;refine ⟨fun sM=>?_,fun i hi=>?_⟩
    ·exfalso;have hex:∃j,j<k∧L.getD j false=false:=by
      rcases Classical.em (∃j,j<k∧L.getD j false=false) with h|h
      ·exact h
      ·exact absurd (fun j hj=>by
        cases h':L.getD j false with
        | true=>rfl
        | false=>exact absurd ⟨j,hj,h'⟩ h) ou
     obtain ⟨j,hj,AN⟩:=hex;have FX:∀m,(∃j,j<m∧j<k∧L.getD j false=false)→∃j,j<k∧L.getD j false=false∧∀i,i<j→L.getD i false=true:=by
      intro m
      induction m with
      | zero=>rintro ⟨j,h,_⟩;omega
      | succ m Gw =>
        rintro ⟨j,h1,h2,h3⟩;by_cases h:∃j,j<m∧j<k∧L.getD j false=false
        ·exact Gw h
        ·refine ⟨j,h2,h3,fun i hi=>?_⟩;cases h':L.getD i false with
         | true=>rfl
         | false=>exact absurd ⟨i,ae,ae,h'⟩ h
     obtain ⟨j,hj,AN,qZ⟩:=FX (j+1) ⟨j,ae,hj,AN⟩;have:j∈Region.ready .any ops L:=mem_ready.2 ⟨ops[j],dM ae,dn,fun e he hb=>qZ _ (hf.down j _ (dM ae) e he hb)⟩;rw [sM] at this;cases this
    ·obtain ⟨o,ho,h1,h2⟩:=mem_ready.1 hi;have Gx:i<ops.size:=(eP.1 ho).1;rw [qU i Gx] at h1;have oj:i<k:=by
      rcases eE i k with h|h
      ·exact h
      ·exact absurd (fun j hj=>Fv lK 8 (hf.tail i o ho h j ae) h2) ou
     obtain ⟨h3,h4⟩:=jP i o ho oj;have DW:∀t∈Bh D o,mix D k (g 0) (g k) L t=g i t:=fun t Gy=>by
      by_cases hex:∃j,j<k∧D[j]?=some (some t)
      ·obtain ⟨j,hj,hd⟩:=hex;obtain ⟨h5,h6⟩:=hf.reads i o ho oj t Gy j hj hd;have xA:ops[j]?=some ops[j]:=dM ae;have yI:ops[j].dst=some t:=by have:=vk j _ xA;rw [hd] at this;injection this with this;exact this.symm
       rw [uO hj (Ch h6 h2) hd,(oh j _ t xA hj yI).1,(oh j _ t xA hj yI).2 i h5 ae]
      ·rw [uM (fun j hj _ hd=>hex ⟨j,hj,hd⟩)];exact (xh t 0 i (dL _) ae fun m _ hm hd=>hex ⟨m,ae,hd⟩).symm
     have Gz:i∈U:=(hU i oj).1 h1;have wX:∀(jU:Nat→Option Nat) (c1:Nat) (a':Act) (w':World),c1≤m0→(∀j c,j<k→st j=some c→((L.setIfInBounds i true).getD j false=true↔c<c1))→rK n w0 O (qq (mix D k (g 0) (g k) L) o.dst (vs i)) (HS c1) jU a' w' →
      wpAny P .any ops (vA w0 O n s') fuel (L.setIfInBounds i true) a' w':=by
      intro jU c1 a' w' nU Bu ma;refine ih (L.setIfInBounds i true) (U.filter (· !=i)) jU c1 a' w' nU Bu (by simp [kA]) (fun j hj=>?_) ?_ (fun j hj=>?_) (lK.set ho ae h2) ?_
      ·simp only [dH,dZ,List.mem_filter];by_cases e:i=j
       ·subst e;simp [show i<L.size by omega]
       ·have:=hU j hj;simp only [dH] at this;simp only [e,jc,this,bne_iff_ne,ne_eq];exact ⟨fun h=>⟨h,fun h'=>e h'.symm⟩,fun h=>h.1⟩
      ·have:(U.filter (· !=i)).length<U.length:=by
        have h7:=fO (l:=U) (p:=(· !=i));exact h7.2 ⟨i,Gz,ah⟩
       omega
      ·simp only [dH,dZ];have:=hL j hj;simp only [dH] at this;rw [iZ ae];exact this
      ·have wS:mix D k (g 0) (g k) (L.setIfInBounds i true)=qq (mix D k (g 0) (g k) L) o.dst (vs i):=by
        funext t
        unfold qq;by_cases e:o.dst=some t
        ·rw [ja e,uO oj bR (by rw [vk i o ho,e]),(oh i o t ho oj e).1]
        ·rw [iZ e];have yz:∀j,D[j]?=some (some t)→(L.setIfInBounds i true).getD j false=L.getD j false:=by
          intro j hd;have lO:i≠j:=fun e'=>bF;simp only [dH,dZ,lO,jc]
         by_cases hex:∃j,j<k∧L.getD j false=true∧D[j]?=some (some t)
         ·obtain ⟨j,hj,hl,hd⟩:=hex;rw [uO hj hl hd,uO hj (by rw [yz j hd];exact hl) hd]
         ·rw [uM (fun j hj hl hd=>hex ⟨j,hj,hl,hd⟩),uM (fun j hj hl hd=>hex ⟨j,hj,by rw [← yz j hd];exact hl,hd⟩)]
       rw [wS];exact ma
     have lF:∀j,(L.setIfInBounds i true).getD j false=if i=j then true else L.getD j false:=fun j=>by
      simp only [dH,dZ];by_cases e:i=j
      ·subst e;simp [show i<L.size by omega]
      ·simp [e]
     have Kc:=du rL o bB;rcases h3 with ⟨hn,h3⟩|⟨c,lC,h3⟩
     ·refine (h3 c0 l5).run hD ho Kc DW hs fun a' w' ma=>wX ι c0 a' w' l5 (fun j c hj he=>?_) ma;rw [lF,iZ (fun e=>by subst e;rw [hn] at he;cases he)];exact qV j c hj he
     ·have pO:c=c0:=by
       have h5:¬c<c0:=fun h=>by have:=(qV i c oj lC).2 h;rw [h1] at this;cases this
       rcases eE c0 c with h|h
       ·obtain ⟨j,hj,he,BL⟩:=wW.chain i o c c0 oj ho lC h;have:=(qV j c0 hj he).1 (Fv lK 2 BL h2);omega
       ·omega
      subst pO;refine h3.run ho DW hs fun jU a' w' ma=>wX jU (c+1) a' w' (wW.lt i c oj lC) (fun j d hj he=>?_) ma;rw [lF];by_cases e:i=j
      ·subst e;rw [lC] at he;injection he with he;subst he;simp
      ·rw [iZ e,qV j d hj he];have:d≠c:=fun h=>e (wW.one i j c oj hj lC (h▸he));omega
theorem jG.amU {id:Nat} {ops:Array Oper} {D:List (Option Tmp)} {k:Nat} {l1 l2:List lx} {Q:Exit→ku→Prop} {s:ku} (sl:List (Option Nat)) (HS:Nat→List jy) (m:Nat) (hm:P.follows .mixedOrders=true) (h:Bt ops k D l1 l2)
 (hg:Mn sl ops k m=true) (h0:HS 0=s.H) {E':Env} (h1:ue P n HS m l1 sl s.env E') (hr:jB P n false l2 (Q .normal) ⟨E',HS m⟩):jG P n (.region id ops true) Q s:=by
 intro w0 O ι a w hs;obtain ⟨hD,rL,hf,hk,oA,nL⟩:=h;obtain ⟨s',h2,h3⟩:=hr;have key:(Code.region id ops true).wp P (vA w0 O n s') a w:=by
  refine wp_region_any hm ?_;obtain ⟨g,vs,EB,vf,jP⟩:=h1.all;have hlen:l1.length=k:=by rw [← oA];simp;omega
  rw [hlen] at vf;have hb:Below w.heap.size w { w with drawn:=w.drawn+1 }:=(Below.refl _ _).drew;refine adW (s1:=⟨E',HS m⟩) (st:=fun i=>sl.getD i none) hD rL (LR hf) (adF hg) hk (g:=g) (vs:=vs) vf (fun i o ho hi=>?_) rfl (by rw [nL];exact h2) ops.size _ (List.range k) ι 0 a _ (dL _) (fun j c hj hc=>?_) ah (fun j hj=>?_) aj (fun j hj=>?_) (fun j o' _ hj=>aY) ?_
  ·exact jP i (pU D o) bC
  ·simp only [dH,eK];split<;>simp
  ·simp [dH,hj,eK];split<;>rfl
  ·simp only [dH,eK];split<;>rfl
  ·rw [h0];refine ⟨hs.mP.quiet hb,hs.defers,hs.size,hs.hand,fun t=>?_⟩;have:mix D k (g 0) (g k) (Array.replicate ops.size false) t=lk s.env t:=by
    rw [uM,EB];intro j hj hl;simp only [dH,eK] at hl;split at hl<;>cases hl
   rw [this];exact (hs.oV t).mono (mj.quiet hs.mP hb)
 refine jh key ?_;rintro e a w ⟨rfl,jU,h⟩;exact ⟨s',jU,h3,h⟩
end
section
variable {P:Program} {n:Fr}
theorem atI {id k:Nat} {ops:Array Oper} {D:List (Option Tmp)} {l1 l2:List lx} {Q:Exit→ku→Prop} {s:ku} (sl:List (Option Nat)) (HS:Nat→List jy) (m:Nat) (hm:P.follows .mixedOrders=true) (h1:ko P n HS m l1 sl (fun E'=>jB P n false l2 (Q .normal) ⟨E',HS m⟩) s.env)
 (h:Bt ops k D l1 l2:=by (refine ⟨rfl,rfl,ag,az,?_,?_⟩;(simp +decide only [go_sem,List.map,List.take];rfl);(simp +decide only [go_sem,List.map,List.drop];rfl)))
 (hg:Mn sl ops k m=true:=by kernel_rfl) (h0:HS 0=s.H:=by rfl):jG P n (.region id ops true) Q s:=
 let ⟨E',h3,h4⟩:=h1;.amU sl HS m hm h hg h0 h3 h4
end
section
variable {P:Program} {H:List jy}
def Pt (len sz:Nat):List (Nat×Nat):=(List.range len).map fun i=>(i*sz,sz)
theorem afJ {ρ:Operand→AV} {t el:TypeId} {len sz:Nat} {parts:Array (Nat×Operand)} {zs cs:List AV} (hu:P.underlying t=some (.array len el)) (kA:lW P el=some sz) (hz:qd P t=some (.agg zs))
 (h:D3 (Pt len sz) zs (parts.toList.map fun (i,x)=>(i,ρ x))=some cs):QL P H ρ (.build t parts) (.agg cs):=by
 refine QL.ql fun w0 O ι a w hs hv o ho=>?_;obtain ⟨zv,hr,xC⟩:=Fz (w:=w) hz;have Qx:Ka w (OO O ι H) ι H zs zv.cells:=by
  have nH:=VR.cv w (OO O ι H) ι H zv;rw [← xC] at nH;obtain ⟨arr,rfl,h2,h3⟩:=nH.Co;exact ⟨h2,h3⟩
 obtain ⟨wc,h2,h3⟩:=OQ (place:=fun i=>some (i*sz,sz)) (fun i x hx=>by
  simp only [Pt,dE,eL] at hx;obtain ⟨j,hj,rfl⟩:=hx;have kn:=(dt hj).1;rw [eV (by simpa using kn)] at hj;injection hj with hj;subst hj;rfl) (parts.toList.map fun (i,x)=>(i,ρ x)) (parts.toList.map fun (i,x)=>(i,a.eval x)) zs cs zv.cells ah
  (fun j p q hp hq=>by
    simp only [dE,eL] at hp hq;obtain ⟨⟨i,x⟩,hx,rfl⟩:=hp;obtain ⟨y,hy,rfl⟩:=hq;rw [hx] at hy;injection hy with hy;subst hy;refine ⟨rfl,hv x ?_⟩;have:(i,x)∈parts:=by rw [dY] at hx;exact fw hx
    simp only [Op.operands,iy,eI];exact ⟨(i,x),by simpa using this,rfl⟩) Qx h
 refine ⟨.agg wc,?_,.agg _ _ h3.1 h3.2⟩;have h5:(parts.map fun (i,x)=>(i,a.eval x)).toList=parts.toList.map fun (i,x)=>(i,a.eval x):=ah;simp only [execOp,ho,Instr.build,hr,dR,dN,jg hu,Am kA,h5,h2,dV]
end
theorem afK (sz:Nat):Pt 2 sz=[(0*sz,sz),(1*sz,sz)]:=rfl
section
variable {P:Program} {H:List jy} {ρ:Operand→AV}
theorem afL {w:World} {O:Nat→Prop} {ι:Nat→Option Nat} {H:List jy} {l:List Int} {k:IntKind} {v:Value} (h:VR w O ι H (.jA (l.map fun n=>.base (.int k n))) v) :
 (v=.slice none 0 0∧l=[])∨∃a c,v=.slice (some a) l.length c∧(loadCells a l.length).run P w=.ok (l.map (Value.int k)).toArray w:=by
 generalize hL:l.map (fun n=>AV.base (.int k n))=L at h;cases h with
 | sn=>exact .inl ⟨rfl,List.map_eq_nil_iff.1 hL⟩
 | jA es a n cap s val hn nQ so hlen ry hc hv =>
   subst hL;simp only [eo] at hn;subst hn;refine .inr ⟨a,cap,rfl,?_⟩;have:=run_loadCells_list (P:=P) w a (l.map (Value.int k)) (fun j v hj=>by
    rw [dE,eL] at hj;obtain ⟨x,hx,rfl⟩:=hj;have he:(l.map fun n=>AV.base (.int k n))[j]?=some (.base (.int k x)):=aZ;have hm:=dx he;have h1:=hlen _ hm;simp [AV.cells] at h1;subst h1;obtain ⟨_,h2⟩:=hc j 0 _ (.base (.int k x)) he rfl;have h3:=(hv j 0 _ (.base (.int k x)) he rfl).nO;rw [h3] at h2;rw [add_eq _ _ (ry _ hm)];simpa using h2)
   simpa using this
theorem adP {t d e:TypeId} {x:Operand} {a:AV} {l:List Int} (hx:ρ x=a) (hl:rP H a (.jA (l.map fun n=>.base (.int .u8 n))))
 (hs:P.underlying t=some (.slice e)) (he:P.underlying e=some (.int .u8)) (hd:P.underlying d=some .string):QL P H ρ (.convert t d x) (.base (.string ⟨(l.map fun n=>UInt8.ofNat n.toNat).toArray⟩)):=by
 refine QL.ql fun w0 O ι A w yb hv o ho=>?_;have h1:=hv x au;rw [hx] at h1;have h2:=hl _ _ _ _ _ yb h1;have key:∀(l:List Int) (s:ByteArray),l.foldl (fun r n=>r.push (UInt8.ofNat n.toNat)) s=⟨(s.data.toList++l.map fun n=>UInt8.ofNat n.toNat).toArray⟩:=by
  intro l
  induction l with
  | nil=>intro s;simp
  | cons c l ih=>intro s;rw [fD,ih];simp [ByteArray.push]
 refine ⟨_,?_,.base _⟩;rcases afL (P:=P) h2 with ⟨h3,rfl⟩|⟨ad,c,h3,h4⟩
 ·simp [execOp,ho,h3,run_convert_bytes_string w t d e none 0 0 hs he hd,Conv.bytesToString];rfl
 ·have h5:=run_bytesToString (P:=P) w ad l.length c l h4;rw [key] at h5;simp [execOp,ho,h3,run_convert_bytes_string w t d e (some ad) l.length c hs he hd,h5]
end
section
variable {P:Program} {H:List jy}
theorem adG {w:World} {t ty el:TypeId} {s bytes:Nat} (ht:P.underlying t=some (.slice el)) (mQ:tD P el s bytes=true) {z len cap c2:Nat} {a2:Addr} {us:List Value} (uD:us.length=s)
 (hc:∀j,j<s→(w.cell? ⟨z,len*s+j,none⟩).isSome=true) (hf:∀j,j<s→w.frozen? ⟨z,len*s+j,none⟩=false) (hu:∀u∈us,u.oneCell'=true) (hl:∀j v,us[j]?=some v→w.cell? (a2.add j)=some v) (kn:len+1≤cap) :
 (Builtin.append_ #[t,t] ty #[.slice (some ⟨z,0,none⟩) len cap,.slice (some a2) 1 c2]).run P w=.ok (.slice (some ⟨z,0,none⟩) (len+1) cap) (w.setCells z (len*s) us):=by
 obtain ⟨i0,zz,h1,h2,h3,h4,h5,h6,_⟩:=An mQ;have BM:=run_loadCells_list (P:=P) w a2 us hl;rw [uD] at BM;have jP:=run_storeCells_cells (P:=P) z (len*s) us 0 w (fun j hj=>by rw [fq];exact hc j ae) (fun j hj=>by rw [fq];exact hf j ae) hu;have CL:((⟨z,0,none⟩:Addr).add (len*s))=⟨z,len*s,none⟩:=by unfold Addr.add;split<;>simp_all
 simp only [fq] at jP;simp [Builtin.append_,jg ht,sizeOf,typeInfo,h1,h3,Builtin.lenOf,Builtin.firstCells,BM,kn,CL,jP]
theorem aeN {ρ:Operand→AV} {s x:Operand} {t el:TypeId} {b tot len size bytes:Nat} {blk:jy} {v:AV} (xE:ρ s=.own b tot 0 len) (hx:ρ x=.jA [v]) (lI:v.cells.length=size) (og:ru v=true) (hb:H[b]?=some blk) (zE:blk.es.length=tot)
 (kn:len<tot) (j6:blk.sz=size) (ht:P.underlying t=some (.slice el)) (mQ:tD P el size bytes=true) (hmt:blk.ty<pj:=by decide) :
 PL P H ρ (.call { callee:=.builtin .append,args:=#[s,x],argTypes:=#[t,t] }) (.own b tot 0 (len+1)) (H.set b { blk with es:=blk.es.set len v }):=by
 refine PL.ql fun w0 O ι a w hs hv o ho=>?_;have tN:0<size:=by obtain ⟨_,_,_,_,_,_,_,h6,_⟩:=An mQ;exact h6
 have h1:=hv s;rw [xE] at h1;have h2:=hv x;rw [hx] at h2;generalize wq:a.eval s=X1 at h1;generalize zP:a.eval x=X2 at h2;cases h1 with
 | uq b tot off len kH a n c ka F4=>rw [hb] at ka;cases ka;omega
 | tI b kH ka he hi=>omega
 | own b tot off len kH z n cap ad ka nk hi hn hl nQ ha =>
 rw [hb] at ka;cases ka;subst hn;obtain ⟨rfl,wS,c,ty,fz,rV,rT⟩:=ha (.inr rfl);rw [gj] at *;rw [j6,ft] at rT;obtain ⟨RP,c0,l5,lK,wJ,Aw⟩:=hs.heap b blk z hb hi;have ya:=Jo l5 ⟨c,ty,fz,rV⟩ hmt;rw [rV] at ya;injection ya with ya;injection ya with e1 e2 e3;subst e1;subst e2;subst e3;rw [j6] at lK;cases h2 with
 | jA es a2 m H9 sz val hm Qg so hlen ry pO qy =>
 simp only [dO] at hm;subst hm;have QF:sz=size:=by have:=hlen v ah;rw [lI] at this;exact this.symm
 subst QF;have rB:=ry v ah;have BS:∀j,j<sz→∃d,v.cells[j]?=some d:=fun j hj=>⟨_,dy ae⟩
 obtain ⟨us,uD⟩:∃us,us=(List.range sz).map fun j=>val 0 j:=⟨_,rfl⟩
 have sT:us.length=sz:=by rw [uD];simp
 have oZ:∀j u,us[j]?=some u→j<sz∧u=val 0 j:=fun j u h=>by
  have hj:j<sz:=by rw [← sT];exact (dt h).1
  rw [uD,dE,eV hj] at h;injection h with h;exact ⟨hj,h.symm⟩
 have BM:∀j u,us[j]?=some u→w.cell? (a2.add j)=some u:=fun j u h=>by
  obtain ⟨hj,rfl⟩:=oZ j u h;obtain ⟨d,hd⟩:=BS j hj;have:=(pO 0 j v d rfl hd).2;rw [add_eq _ _ rB];rwa [gj,fq] at this
 have Ax:∀u∈us,u.oneCell'=true:=fun u hu=>by
  obtain ⟨j,hj⟩:=eC hu;obtain ⟨uH,rfl⟩:=oZ j u hj;obtain ⟨d,hd⟩:=BS j uH;have kb:At d=true:=by
   cases v with
   | agg cs=>exact du og d (dx hd)
   | _ =>
     cases j with
     | zero=>simp only [AV.cells,gQ,fA] at hd;subst hd;simpa [ru] using og
     | succ k=>simp [AV.cells] at hd
  exact (VR.one kb (qy 0 j v d rfl hd)).1
 have mh:n*sz+sz≤c.size:=by
  have:(n+1)*sz≤tot*sz:=eW _ kn;rw [fK,Nat.one_mul] at this;rw [← nk] at this;exact fI this lK
 have aCQ:n+1≤cap:=by
  have h7:tot*sz≤cap*sz:=by rw [← nk,rT];exact lK
  have:=Nat.le_of_mul_le_mul_right h7 tN;omega
 have ub:=adG (P:=P) (w:=w) (ty:=o.type) ht mQ (z:=z) (len:=n) (cap:=cap) (c2:=H9) (a2:=a2) sT (fun j hj=>by simp [World.cell?,rV];omega) (fun j hj=>by simp [World.frozen?,rV]) Ax BM ae;obtain ⟨c',lC,CM,mC⟩:=Jm z us (n*sz) w c blk.ty (0,0) rV (by rw [sT];exact mh);obtain ⟨h9,uF⟩:=hs.set (blk2:={ blk with es:=blk.es.set n v }) hb hi rfl rfl ah (Jl z z (dD _) _ _ _) (fun k hk=>Jk z _ _ _ k hk) (Ci rV hmt) (Ci lC hmt) CM (fun c1 AM RQ h=>ba)
  (fun e1 wq=>by
    rcases eu wq with h|h
    ·exact wJ e1 h
    ·rw [h,j6];exact lI)
  (fun i1 j1 e1 d1 oB tQ=>by
    simp only at oB ⊢;rw [j6];rw [eN] at oB;by_cases e:n=i1
    ·subst e;rw [ja rfl,ja ae] at oB;injection oB with oB;subst oB;have BP:j1<sz:=by rw [← lI];exact (dt tQ).1
     rw [mC,ja ⟨ae,by rw [sT];omega⟩,fM];exact ⟨val 0 j1,by rw [uD,dE,eV BP];rfl,qy 0 j1 v d1 rfl tQ⟩
    ·rw [iZ e] at oB;have BP:j1<sz:=by rw [← j6,← wJ e1 (dx oB)];exact (dt tQ).1
     have mU:¬(n*sz≤i1*sz+j1∧i1*sz+j1<n*sz+us.length):=by
      rw [sT];rcases Nat.lt_or_gt_of_ne e with h|h
      ·have:(n+1)*sz≤i1*sz:=eW _ h;rw [fK,Nat.one_mul] at this;omega
      ·have:(i1+1)*sz≤n*sz:=eW _ h;rw [fK,Nat.one_mul] at this;omega
     rw [mC,iZ mU];have:=Aw i1 j1 e1 d1 oB tQ;rwa [j6] at this)
 refine ⟨_,_,ι,_,Hq (ρ:=ρ) ho (by rw [wq,zP];exact ub),.inl rfl,h9,uF,?_⟩;have nV:(H.set b { blk with es:=blk.es.set n v })[b]?=some { blk with es:=blk.es.set n v }:=by
  rw [ee (dt hb).1]
 exact .own b tot 0 (n+1) _ z (n+1) cap ⟨z,0,none⟩ nV (by simpa using nk) hi rfl ae ae fun _=>⟨ah,wS,c',_,_,lC,by simp only [j6];rw [ft,CM,rT]⟩
end
section
variable {P:Program} {w w':World} {w0:nd} {O:Nat→Prop} {ι:Nat→Option Nat} {H:List jy} {u:Value}
end
end Go.Ab
