/- Part. -/
import Derived.Laws.BytesString
import Derived.Laws.Cells
import Derived.Lib.AppendStr
import Derived.Lib.UnsafeStr
import Derived.Lib.Builder
import Derived.Laws.Pointers
import Derived.MapKept
import Derived.Scope
import Derived.Test.YthgicbkdckpeaaaDoorG02
set_option linter.unusedSimpArgs false
set_option linter.unusedVariables false
namespace Go.Ab
open Go Go.RowKit
structure Hid (q:Prop):Prop where
 out:q
section
variable {p q:Prop}
theorem jN (h:q) (k:Hid q→p:=by intro xn;(repeat (first|(with_reducible first|apply zs|apply zN|apply z1|apply z2|apply z3|apply z4|apply z5|apply z6|refine z7 rfl ?_|apply zb|apply zk|apply zr|apply ze|apply y1|apply y2)|((with_reducible apply zR);(refine ⟨rfl,rfl,?_⟩;simp +decide only [go_sem,List.map];rfl))|((with_reducible apply zG);(simp +decide only [go_sem];rfl);(simp +decide only [go_sem];(repeat simp +decide only [go_sem]);rfl))|(refine zp rfl rfl (xW bD rfl) ?_)|(refine zp rfl rfl (wD di rfl) ?_)|(refine zp rfl rfl (qP bD bD bD bU bU ag bU bU) ?_)));exact xn.out):p:=k ⟨h⟩
theorem lD (h:q) (k:Hid q→p:=by intro xn;(repeat (first|(with_reducible first|apply zs|apply zN|apply z1|apply z2|apply z3|apply z4|apply z5|apply z6|refine z7 rfl ?_|apply zb|apply zk|apply zr|apply ze|apply y1|apply y2)|((with_reducible apply zR);(refine ⟨rfl,rfl,?_⟩;simp +decide only [go_sem,List.map];rfl))|((with_reducible apply zG);(simp +decide only [go_sem];rfl);(simp +decide only [go_sem];(repeat simp +decide only [go_sem]);rfl))|(refine zp rfl rfl (xW bD rfl) ?_)|(refine zp rfl rfl (wD di rfl) ?_)|(refine zp rfl rfl (qP bD bD bD bU bU ag bU bU) ?_)|(refine zq rfl rfl (qi rfl rfl di aN ag) ?_)|(refine zq rfl rfl (qo rfl rfl di rfl aN (by simp only [go_sem]<;>rfl)) ?_)|(refine zq rfl rfl (qw 0 _ rfl rfl bz aN (by simp only [go_sem]<;>rfl)) ?_)|(refine zq rfl rfl (qb di di az ag (by simp +decide only [List.map,go_sem]<;>rfl) (by simp +decide only [List.map,go_sem]<;>rfl) bU) ?_)|(refine zq rfl rfl (qn rfl rfl) ?_)|(refine zq rfl rfl (qx rfl rfl) ?_)));exact xn.out):p:=k ⟨h⟩
end
section
variable {P:Program} {n:Fr} {q:Bool} {l:List lx} {o:lx} {K:ku→Prop} {Q:Exit→ku→Prop} {s:ku} {c:Code}
theorem uf {t:Tmp} {want:Bool} {L:List Bool} {v:AV} (hg:o.g=some (t,want):=by rfl) (hd:mB n o.dst=true:=by rfl) (hb:ve want (lk s.env t)=some L:=by (simp +decide only [go_sem]<;>rfl))
 (h:oR L=true→QL P s.H (fun x=>stripL L (ev s.env x)) o.op v) (hr:jB P n q l K ⟨mF s.env o.dst (wa L v),s.H⟩):jB P n q (o::l) K s:=jB.gl hg hd hb h hr
theorem wu {t:Tmp} {want:Bool} {L:List Bool} (v:AV) (hr:jB P n q l K ⟨mF s.env o.dst (wa L v),s.H⟩) (hg:o.g=some (t,want):=by rfl) (hd:mB n o.dst=true:=by rfl) (hb:ve want (lk s.env t)=some L:=by (simp +decide only [go_sem]<;>rfl))
 (hx:oR L=false:=by (simp +decide only [go_sem,oR,Bool.false_and,Bool.and_false])):jB P n q (o::l) K s:=jB.gl hg hd hb (fun h=>by rw [hx] at h;cases h) hr
theorem oQ {cl:Call} {fx:Operand} {f:FuncId} {caps as:List AV} {d:AV} {mm:List (Nat×Obj)} (i:qY P mm f as d) (hr:jB P n q l K ⟨mF s.env o.dst d,s.H⟩) (hg:o.g=none:=by rfl) (hd:mB n o.dst=true:=by rfl) (ho:o.op=.call cl:=by rfl) (hc:cl.callee=.value fx:=by rfl)
 (hf:ev s.env fx=.j9 f caps:=by (simp +decide only [go_sem]<;>rfl)) (ha:cl.args.toList.map (ev s.env)++caps=as:=by (simp +decide only [go_sem,List.map])) (hp:∀a∈as,Pu a:=by first|(simp [-List.map_take,-List.map_drop];done)|simp [-List.map_take,-List.map_drop, *]) (hm:Ar mm (ev s.env):=by first|exact .inl rfl|exact .inr (by (simp +decide only [go_sem]<;>rfl))):jB P n q (o::l) K s:=
 jB.q1 hg hd (by rw [ho];exact DO i hc hf ha hp hm) hr
theorem xe {t:Tmp} {want:Bool} {L:List Bool} {mm:List (Nat×Obj)} {cl:Call} {fx:Operand} {f:FuncId} {caps as:List AV} {d:AV} (hg:o.g=some (t,want):=by rfl) (hd:mB n o.dst=true:=by rfl) (hb:ve want (lk s.env t)=some L:=by (simp +decide only [go_sem]<;>rfl)) (ho:o.op=.call cl:=by rfl) (hc:cl.callee=.value fx:=by rfl)
 (i:oR L=true→qY P mm f as d) (hf:stripL L (ev s.env fx)=.j9 f caps:=by (simp +decide only [go_sem]<;>rfl)) (ha:cl.args.toList.map (fun x=>stripL L (ev s.env x))++caps=as:=by (simp +decide only [go_sem,List.map])) (hp:∀a∈as,Pu a:=by first|(simp [-List.map_take,-List.map_drop];done)|simp [-List.map_take,-List.map_drop, *])
 (hr:jB P n q l K ⟨mF s.env o.dst (wa L d),s.H⟩) (hm:Ar mm (fun x=>stripL L (ev s.env x)):=by first|exact .inl rfl|exact .inr (by (simp +decide only [go_sem]<;>rfl))):jB P n q (o::l) K s:=
 jB.gl hg hd hb (fun h=>by rw [ho];exact DO (i h) hc hf ha hp hm) hr
theorem QA {t el:TypeId} {len size:Nat} {parts:Array (Nat×Operand)} {es:List AV} (ht:P.underlying t=some (.slice el)) (kA:lW P el=some size) (hr:jB P n q l K ⟨mF s.env o.dst (.jA es),s.H⟩) (hg:o.g=none:=by rfl) (hd:mB n o.dst=true:=by rfl) (ho:o.op=.buildSlice t len parts:=by rfl)
 (tN:0<size:=by decide) (hz:(qd P el).map (fun z=>z.cells.length)=some size:=by kernel_rfl) (hlen:len*size≤16777216:=by decide)
 (hp:zy size len (parts.toList.map fun (i,x)=>(i,ev s.env x))=true:=by (simp +decide only [List.map,go_sem]<;>rfl)) (rC:(parts.toList.map fun (i,x)=>ev s.env x)=es:=by (simp +decide only [List.map,go_sem]<;>rfl)) (hle:es.length=len:=by rfl):jB P n q (o::l) K s:=
 jB.q1 hg hd (by rw [ho];exact Al tN ht kA hz hlen hp rC hle) hr
theorem x9 {t:TypeId} {parts:Array (Nat×Operand)} {pl:List (Nat×Nat)} {zs cs:List AV} (hp:placesOf P t=some pl) (hz:qd P t=some (.agg zs)) (hr:jB P n q l K ⟨mF s.env o.dst (.agg cs),s.H⟩) (hg:o.g=none:=by rfl) (hd:mB n o.dst=true:=by rfl) (ho:o.op=.build t parts:=by rfl)
 (h:D3 pl zs (parts.toList.map fun (i,x)=>(i,ev s.env x))=some cs:=by (simp +decide only [List.map,go_sem]<;>rfl)):jB P n q (o::l) K s:=
 jB.q1 hg hd (by rw [ho];exact DN hp hz h) hr
theorem mi {id k:Nat} {ops:Array Oper} {D:List (Option Tmp)} {l1 l2:List lx} (hm:P.follows .mixedOrders=true)
 (h:Bt ops k D l1 l2:=by (refine ⟨rfl,rfl,ag,az,?_,?_⟩;(simp +decide only [go_sem,List.map,List.take];rfl);(simp +decide only [go_sem,List.map,List.drop];rfl)))
 (hr:jB P n true l1 (fun s1=>jB P n false l2 (Q .normal) s1) s):jG P n (.region id ops true) Q s:=jG.apK hm h hr
theorem kL {b:Bool} {cc:Operand} {x y:Code} (ht:b=true→jG P n x Q s) (hf:b=false→jG P n y Q s) (hc:ev s.env cc=.base (.bool b):=by rfl):jG P n (.cond cc x y) Q s:=jG.cond hc ht hf
end
theorem Wk.wk {n:Fr} {E E2:Env} {H:List jy} (h:C1 E E2:=by first|(simp +decide only [go_sem];done)|(simp +decide only [go_sem];(repeat' apply And.intro)<;>exact Le.refl _)):Wk n ⟨E,H⟩ ⟨E2,H⟩:=.sr h
def jS (P:Program) (f:FuncId) (args:List AV) (H:List jy) (d:AV) (H':List jy):Prop:=
 (∃fn,P.funcs[f]?=some fn∧(fn.name == "runtime.NumGoroutine")=false∧fn.body.isNone=false) ∧
 ∀(w:World) (O:Nat→Prop) (ι:Nat→Option Nat) (vs:Array Value),lA ⟨w,nR ι H,H,ι⟩ O ι H w→vs.size=args.length →
  (∀(j:Nat) (a:AV) (u:Value),args[j]?=some a→vs[j]?=some u→VR w (OO O ι H) ι H a u) →
  Calls P f vs w fun e w'=>∃v jU,e=.returned v∧lA ⟨w,nR ι H,H,ι⟩ O jU H' w'∧VR w' (OO O jU H') jU H' d v
def kY (P:Program) (rs:List ResultVar) (n:Fr) (d:AV) (H':List jy) (s:ku):Prop:=
 ∃s2 vs r q,Wk n s s2∧o6 P s2 rs=some vs∧BH n.m r q s2.H H'∧mL r s2.H (rG vs) d
def CF (P:Program) (rs:List ResultVar) (n:Fr) (d:AV) (H':List jy):Exit→ku→Prop
 | .normal,s | .ret,s=>kY P rs n d H' s
 | _,_=>False
section
variable {P:Program}
theorem Vw:∀(l:List AV) (k t:Nat),lk ((l.zipIdx k).map fun (a,i)=>(i,a)) t=if k≤t then (l[t-k]?).getD .bad else .bad
 | [],k,t=>by simp [lk]
 | x::l,k,t=>by
   simp only [iz,ef,lk,Vw l (k+1) t];split
   ·rename_i e;subst e;simp
   ·rename_i e;by_cases kn:k≤t
    ·rw [ja ae,ja kn,show t-k=(t-(k+1))+1 by omega];rfl
    ·rw [iZ ae,iZ kn]
theorem jS.intro {f:FuncId} {fn:Func} {c:Code} {args:List AV} {d:AV} {H H':List jy} (hf:P.funcs[f]?=some fn) (hn:(fn.name == "runtime.NumGoroutine")=false) (hb:fn.body=some c) (ha:args.length≤fn.ntmps)
 (h:jG P ⟨fn.ntmps,H.length⟩ c (CF P fn.results.toList ⟨fn.ntmps,H.length⟩ d H') ⟨args.zipIdx.map fun (a,i)=>(i,a),H⟩):jS P f args H d H':=by
 refine ⟨⟨fn,hf,hn,by rw [hb];rfl⟩,fun w O ι vs hS hl hv=>?_⟩;refine calls_of_wp hf hb ?_;have hs:SR ⟨fn.ntmps,H.length⟩ ⟨w,nR ι H,H,ι⟩ O ⟨args.zipIdx.map fun (a,i)=>(i,a),H⟩ ι { tmps:=vs++Array.replicate (fn.ntmps-vs.size) undef,defers:=[] } w:=by
  refine ⟨hS,rfl,aj,rfl,fun t=>?_⟩;show VR _ _ _ _ (lk (args.zipIdx.map fun (a,i)=>(i,a)) t) _;rw [Vw args 0 t];simp only [dL,jb,iq];cases ht:args[t]? with
  | none=>exact .bad _
  | some x =>
    have re:t<args.length:=(dt ht).1;have hu:vs[t]?=some vs[t]:=dM ae;have h1:=hv t x _ ht hu;rw [dH,fB ae,hu];exact h1
 refine jh (h _ O ι _ w hs) ?_;have fin:∀(s':ku) (jU:Nat→Option Nat) (a:Act) (w':World),kY P fn.results.toList ⟨fn.ntmps,H.length⟩ d H' s'→SR ⟨fn.ntmps,H.length⟩ ⟨w,nR ι H,H,ι⟩ O s' jU a w' →
  a.defers=[]∧∃v,(results fn a.tmps).run P w'=.ok v w'∧∃v' jO,Ending.returned v=.returned v'∧lA ⟨w,nR ι H,H,ι⟩ O jO H' w'∧VR w' (OO O jO H') jO H' d v':=by
  rintro s0 KJ a w' ⟨s',rs,r,q,hw,h1,h2,h3⟩ pB;obtain ⟨jU,ma⟩:=hw _ _ _ _ _ pB;obtain ⟨u,h4,h5⟩:=OG ma h1;exact ⟨ma.defers,u,h4,u,_,rfl,ma.mP.pQ ma.hand h2,h3 H' _ w' O jU _ u ma.mP (h2.view jU) h5⟩
 rintro e a w' ⟨s',jU,h1,h2⟩;cases e with
 | normal=>exact fin s' jU a w' h1 h2
 | ret=>exact fin s' jU a w' h1 h2
 | _=>exact h1.elim
theorem jS.nZ {f:FuncId} {fn:Func} {c:Code} {args:List AV} {d:AV} {H H':List jy} (E:Env) (m n k:Nat) (hf:P.funcs[f]?=some fn) (hn:(fn.name == "runtime.NumGoroutine")=false) (hb:fn.body=some c)
 (hm:args.length=m) (yK:fn.ntmps=n) (ha:Nat.ble m n=true) (hE:args.zipIdx.map (fun (a,i)=>(i,a))=E) (hk:H.length=k)
 (h:jG P ⟨n,k⟩ c (CF P fn.results.toList ⟨n,k⟩ d H') ⟨E,H⟩):jS P f args H d H':=by
 refine jS.intro hf hn hb cK ?_;rw [hE,yK,hk];exact h
theorem jS.i2 {f:FuncId} {fn:Func} {c:Code} {args:List AV} {d:AV} {H H':List jy} (E:Env) (m n k:Nat) (hf:P.funcs[f]?=some fn) (hk:H.length=k) (h:jG P ⟨n,k⟩ c (CF P fn.results.toList ⟨n,k⟩ d H') ⟨E,H⟩) (hn:(fn.name == "runtime.NumGoroutine")=false:=by kernel_rfl) (hb:fn.body=some c:=by rfl) (hm:args.length=m:=by rfl) (yK:fn.ntmps=n:=by rfl) (ha:Nat.ble m n=true:=by rfl) (hE:args.zipIdx.map (fun (a,i)=>(i,a))=E:=by rfl):jS P f args H d H':=jS.nZ E m n k hf hn hb hm yK ha hE hk h
theorem ajS {rs:List ResultVar} {m:Fr} {d:AV} {H':List jy} {s:ku} (h:kY P rs m d H' s):CF P rs m d H' .normal s:=h
theorem ajT {rs:List ResultVar} {m:Fr} {d:AV} {H':List jy} {s:ku} (h:kY P rs m d H' s):CF P rs m d H' .ret s:=h
end
def AS (r:Nat→Option Nat) (ι jO:Nat→Option Nat) (H H2:List jy):Prop:=
 ∀(b j:Nat) (blk:jy),r b=some j→H[b]?=some blk→∃blk2,H2[j]?=some blk2∧blk2.es.length=blk.es.length∧blk2.sz=blk.sz∧jO j=ι b
def mI (r:Nat→Option Nat) (H:List jy) (a b:AV):Prop:=∀(H2:List jy) (w:World) (O:Nat→Prop) (ι jO:Nat→Option Nat) (u:Value),AS r ι jO H H2→VR w O ι H a u→VR w O jO H2 b u
section
variable {r:Nat→Option Nat} {H:List jy}
theorem mI.pu {a:AV} (h:Pu a):mI r H a a:=fun H2 w O ι jO u v hu=>(h _ _ _ _ _ hu).back
theorem mI.agg {cs ds:List AV} (hl:cs.length=ds.length) (h:∀(j:Nat) (c d:AV),cs[j]?=some c→ds[j]?=some d→mI r H c d):mI r H (.agg cs) (.agg ds):=fun H2 w O ι jO u v hu=>by
 obtain ⟨arr,rfl,h1,h2⟩:=hu.Co;refine .agg ds arr (h1.trans hl) fun j d u hd hu=>?_;have hj:j<cs.length:=aR;exact h j _ d (dy hj) hd H2 w O ι jO u v (h2 j _ u (dy hj) hu)
theorem mI.ky {cs ds:List AV} (hl:cs.length=ds.length) (h:∀(j:Nat) (c d:AV),cs[j]?=some c→ds[j]?=some d→mI r H c d):mI r H (.ky cs) (.ky ds):=fun H2 w O ι jO u v hu=>by
 obtain ⟨arr,rfl,h1,h2⟩:=hu.Pn;refine .ky ds arr (h1.trans hl) fun j d u hd hu=>?_;have hj:j<cs.length:=aR;exact h j _ d (dy hj) hd H2 w O ι jO u v (h2 j _ u (dy hj) hu)
theorem mI.j9 {f:FuncId} {cs ds:List AV} (hl:cs.length=ds.length) (h:∀(j:Nat) (c d:AV),cs[j]?=some c→ds[j]?=some d→mI r H c d):mI r H (.j9 f cs) (.j9 f ds):=fun H2 w O ι jO u v hu=>by
 cases hu with
 | j9 f cs arr h1 h2 =>
 refine .j9 f ds arr (h1.trans hl) fun j d u hd hu=>?_;have hj:j<cs.length:=aR;exact h j _ d (dy hj) hd H2 w O ι jO u v (h2 j _ u (dy hj) hu)
theorem mI.ptr {b j tot i off:Nat} (hb:r b=some j):mI r H (.ptr b tot i off) (.ptr j tot i off):=fun H2 w O ι jO u v hu=>by
 cases hu with
 | ys b tot i off blk a h1 h2 =>
   obtain ⟨blk2,e1,e2,e3,e4⟩:=v b j blk hb h1;exact .ys _ _ _ _ blk2 _ e1 ae
 | ptr b tot i off blk x h1 ht hi sS =>
   obtain ⟨blk2,e1,e2,e3,e4⟩:=v b j blk hb h1;have:=VR.ptr (w:=w) (O:=O) j tot i off blk2 x e1 (e2.trans ht) (e4.trans hi) sS;rwa [e3] at this
theorem mI.own {b j tot off len:Nat} (hb:r b=some j):mI r H (.own b tot off len) (.own j tot off len):=fun H2 w O ι jO u v hu=>by
 cases hu with
 | uq b tot off len blk a n c h1 h2 =>
   obtain ⟨blk2,e1,e2,e3,e4⟩:=v b j blk hb h1;exact .uq _ _ _ _ blk2 _ _ _ e1 ae
 | tI b blk h1 he hi =>
   obtain ⟨blk2,e1,e2,e3,e4⟩:=v b j blk hb h1;rw [he] at e2;exact .tI j blk2 e1 (dQ e2) (e4.trans hi)
 | own b tot off len blk x n cap a h1 ht hi hn hl nQ ha =>
   obtain ⟨blk2,e1,e2,e3,e4⟩:=v b j blk hb h1;exact .own _ _ _ _ blk2 x n cap a e1 (e2.trans ht) (e4.trans hi) hn hl nQ (by rw [e3];exact ha)
def yh (r:Nat→Option Nat) (H:List jy):List AV→List AV→Prop
 | [],[]=>True
 | a::l,b::m=>mI r H a b∧yh r H l m
 | _,_=>False
theorem yh.len:∀ {l m:List AV},yh r H l m→l.length=m.length
 | [],[],_=>rfl
 | _::l,_::m,h=>by simp [yh.len h.2]
theorem yh.get:∀ {l m:List AV},yh r H l m→∀(j:Nat) (a b:AV),l[j]?=some a→m[j]?=some b→mI r H a b
 | _::l,_::m,h,0,a,b,h1,h2=>bZ
 | _::l,_::m,h,j+1,a,b,h1,h2=>yh.get h.2 j a b h1 h2
theorem mI.F2 {cs ds:List AV} (h:yh r H cs ds):mI r H (.agg cs) (.agg ds):=.agg h.len h.get
theorem mI.Az {cs ds:List AV} (h:yh r H cs ds):mI r H (.ky cs) (.ky ds):=.ky h.len h.get
end
def xZ (r:Nat→Option Nat) (H:List jy) (b b2:jy):Prop:=b2.ty=b.ty∧b2.sz=b.sz∧b2.es.length=b.es.length ∧
 ∀(i:Nat) (e e2:AV),b.es[i]?=some e→b2.es[i]?=some e2→e.cells.length=e2.cells.length∧∀(k:Nat) (c c2:AV),e.cells[k]?=some c→e2.cells[k]?=some c2→mI r H c c2
theorem xZ.br {r:Nat→Option Nat} {H H2:List jy} {b b2:jy} (h:xZ r H b b2) {w:World} {O O2:Nat→Prop} {ι jO:Nat→Option Nat} {x:Nat} (hO:∀y,O2 y↔O y) (v:AS r ι jO H H2) (hr:BR w O ι H b x):BR w O2 jO H2 b2 x:=by
 obtain ⟨e1,e2,e3,e4⟩:=h;obtain ⟨c,k2,k3,k4,k5⟩:=hr;refine ⟨c,by rw [e1];exact k2,by rw [e2,e3];exact k3,fun e he=>?_,fun i k pW d he hd=>?_⟩
 ·obtain ⟨i,oX,vL⟩:=eF.1 he;have ra:b.es[i]?=some (b.es[i]' ae):=dy ae;obtain ⟨f1,_⟩:=e4 i _ e ra (by rw [dy oX,vL]);rw [← f1,e2];exact k4 _ (ey _)
 ·have nq:i<b.es.length:=cZ;have ra:b.es[i]?=some b.es[i]:=dy nq;obtain ⟨f1,f2⟩:=e4 i _ pW ra he;have pR:k<b.es[i].cells.length:=dd;obtain ⟨u,hu,hv⟩:=k5 i k _ _ ra (dy pR);exact ⟨u,by rw [e2];exact hu,(f2 k _ d (dy pR) hd H2 w O ι jO u v hv).uu fun y hy=>(hO y).1 hy⟩
def ro (e:List Nat) (b:Nat):Option Nat:=e.findIdx? (·==b)
def rb (e:List Nat) (n:Nat) (j:Nat):Option Nat:=if j<e.length then e[j]? else some (n+(j-e.length))
theorem DU {e:List Nat} {b j:Nat} (h:ro e b=some j):e[j]?=some b:=by
 unfold ro at h;rw [fa] at h;obtain ⟨hj,h1,_⟩:=h;rw [dy hj];simp at h1;rw [h1]
structure tf (e:List Nat) (HC H H' sU:List jy):Prop where
 one:e.Nodup
 len:e.length=H.length
 zS:∀(j b:Nat),e[j]?=some b→∃bc bk,HC[b]?=some bc∧H[j]?=some bk∧xZ (ro e) HC bc bk
 le:H.length≤H'.length
 Ed:sU.length=HC.length+(H'.length-H.length)
 stay:∀(b:Nat),b<HC.length→b∉e→sU[b]?=HC[b]?
 out:∀(j c:Nat) (bk:jy),rb e HC.length j=some c→H'[j]?=some bk→∃bc,sU[c]?=some bc∧xZ (rb e HC.length) H' bk bc
section
variable {P:Program} {HC:List jy}
theorem zg {ρ:Operand→AV} {c:Call} {fx:Operand} {f:FuncId} {caps args:List AV} {d d':AV} {e:List Nat} {H H' sU:List jy} (hf:jS P f args H d H') (hE:tf e HC H H' sU) (hc:c.callee=.value fx)
 (qL:ρ fx=.j9 f caps) (ha:yh (ro e) HC (c.args.toList.map ρ++caps) args) (hd:mI (rb e HC.length) H' d d'):PL P HC ρ (.call c) d' sU:=by
 intro o ho w0 O ι a w hs hv K Q hK;obtain ⟨⟨fn,g1,g2,g3⟩,g4⟩:=hf;have h5:=hv fx;rw [qL] at h5;generalize hX:a.eval fx=X at h5;cases h5 with
 | j9 f caps arr hlen nQ =>
 have CB:∀(j:Nat) (x:AV) (u:Value),(c.args.toList.map ρ++caps)[j]?=some x→(c.args.map a.eval++arr)[j]?=some u→VR w (OO O ι HC) ι HC x u:=by
  intro j x u hx hu;rw [fN] at hx;rw [Array.getElem?_append] at hu;simp only [eo,fv,Array.size_map] at hx hu;split at hx
  ·rename_i hj;rw [ja hj] at hu;simp only [dE,fE,dY,eL] at hx hu;obtain ⟨y,hy,rfl⟩:=hx;obtain ⟨z,hz,rfl⟩:=hu;rw [hy] at hz;cases hz;exact hv y
  ·rename_i hj;rw [iZ hj] at hu;exact nQ _ _ _ hx hu
 have ub:(execOp a.eval o).run P w=.ok (.enter f (c.args.map a.eval++arr)) w:=by
  unfold execOp;rw [ho];simp only [resolve,hc,Deferred.ofValue,hX,dR,dV,dN,invoke,gC,Hp g1 g2 g3]
 let ι1:Nat→Option Nat:=fun j=>(e[j]?).bind ι;have vg:∀j b,e[j]?=some b→ι1 j=ι b:=fun j b h=>by simp [ι1,h]
 have AA:∀j,j<H.length→∃b,e[j]?=some b:=fun j hj=>⟨_,dy (by rw [hE.len];exact hj)⟩
 have sN:∀j b,e[j]?=some b→b<HC.length:=fun j b h=>by
  obtain ⟨bc,bk,h1,_⟩:=hE.zS j b h;exact (dt h1).1
 have JY:∀i j b,e[i]?=some b→e[j]?=some b→i=j:=fun i j b h1 h2=>by
  obtain ⟨Ix,KN⟩:=dt h1;obtain ⟨Nn,Iy⟩:=dt h2;exact (List.getElem_inj hE.one).1 (KN.trans Iy.symm)
 have kn:∀b x,b<HC.length→ι b=some x→x<w.heap.size:=fun b x hb hx=>(hs.heap b _ x (dy hb) hx).2.lt;have u9:∀x,nR ι1 H x↔∃j b,e[j]?=some b∧ι b=some x:=fun x=>by
  constructor
  ·rintro ⟨j,hj,hx⟩;obtain ⟨b,hb⟩:=AA j hj;exact ⟨j,b,hb,by rw [← vg j b hb];exact hx⟩
  ·rintro ⟨j,b,hb,hx⟩;exact ⟨j,by rw [← hE.len];exact (dt hb).1,by rw [vg j b hb];exact hx⟩
 let O1:Nat→Prop:=fun x=>OO O ι HC x∧¬nR ι1 H x;have H7:∀x,OO O1 ι1 H x↔OO O ι HC x:=fun x=>by
  constructor
  ·rintro (h|h)
   ·exact h.1
   ·obtain ⟨j,b,hb,hx⟩:=(u9 x).1 h;exact .inr ⟨b,sN j b hb,hx⟩
  ·intro h;by_cases hr:nR ι1 H x
   ·exact .inr hr
   ·exact .inl ⟨h,hr⟩
 have xo:AS (ro e) ι ι1 HC H:=fun b j blk hr hb=>by
  have hj:=DU hr;obtain ⟨bc,bk,k1,k2,k3,k4,k5,_⟩:=hE.zS j b hj;rw [hb] at k1;injection k1 with k1;subst k1;exact ⟨bk,k2,k5,k4,vg j b hj⟩
 have pZ:lA ⟨w,nR ι1 H,H,ι1⟩ O1 ι1 H w:=by
  refine ⟨fun j bk x h1 h2=>⟨.inr ⟨j,(dt h1).1,h2⟩,?_⟩,fun j bk h1 h2=>?_,fun i j x hi hj h1 h2=>?_,yg.refl ..,fun x hx=>?_,fun x j hO hj hx=>hO.2 ⟨j,hj,hx⟩,.refl ..⟩
  ·obtain ⟨b,hb⟩:=AA j (dt h1).1;obtain ⟨bc,C3,k1,k2,k3⟩:=hE.zS j b hb;rw [h1] at k2;injection k2 with k2;subst k2;exact k3.br H7 xo (hs.heap b bc x k1 (by rw [← vg j b hb];exact h2)).2
  ·obtain ⟨b,hb⟩:=AA j (dt h1).1;obtain ⟨bc,C3,k1,k2,k3,k4,k5,_⟩:=hE.zS j b hb;rw [h1] at k2;injection k2 with k2;subst k2;have:=hs.sq b bc k1 (by rw [← vg j b hb];exact h2);rw [this] at k5;exact dQ k5
  ·obtain ⟨b,hb⟩:=AA i hi;obtain ⟨b',ka⟩:=AA j hj;rw [vg i b hb] at h1;rw [vg j b' ka] at h2;have:=hs.inj b b' x (sN i b hb) (sN j b' ka) h1 h2;subst this;exact JY i j b hb ka
  ·rcases hx.1 with h|⟨b,hb,hx⟩
   ·exact hs.rS x h
   ·exact kn b x hb hx
 unfold Oper.wp;rw [ub,Oper.upon_enter];refine (g4 w O1 ι1 (c.args.map a.eval++arr) pZ (by have:=ha.len;simp only [dK,eo,fv] at this;simp [hlen,← this]) fun j x u hx hu=>?_).mono ?_
 ·have hj:j<(c.args.toList.map ρ++caps).length:=by rw [ha.len];exact (dt hx).1
  have h1:=dy hj;exact (ha.get j _ x h1 hx H w _ ι ι1 u xo (CB j _ u h1 hu)).uu fun y hy=>(H7 y).1 hy
 rintro ex w' ⟨v,jO,rfl,my,oM⟩;let pN:Nat→Option Nat:=fun b=>match ro e b with
  | some j=>jO j
  | none=>if b<HC.length then ι b else jO (H.length+(b-HC.length))
 have QB:∀j b,e[j]?=some b→ro e b=some j:=fun j b h=>by
  cases hr:ro e b with
  | none =>
    unfold ro at hr;rw [fc] at hr;have:=hr b (dx h);simp at this
  | some j'=>rw [JY j' j b (DU hr) h]
 have Kd:∀b,b∉e→ro e b=none:=fun b h=>by
  cases hr:ro e b with
  | none=>rfl
  | some j=>exact absurd (dx (DU hr)) h
 have KO:∀j b,e[j]?=some b→pN b=jO j:=fun j b h=>by simp only [pN,QB j b h]
 have uG:∀b,b<HC.length→b∉e→pN b=ι b:=fun b hb h=>by simp only [pN,Kd b h,hb,jb]
 have rJ:∀b,b∈e→b<HC.length:=fun b h=>by
  obtain ⟨j,hj⟩:=eC h;exact sN j b hj
 have RZ:∀k,pN (HC.length+k)=jO (H.length+k):=fun k=>by
  simp only [pN,Kd (HC.length+k) fun h=>by have:=rJ _ h;omega];rw [iZ ae,fM]
 have tR:∀j,j<H'.length→∃b,rb e HC.length j=some b∧pN b=jO j∧b<sU.length:=fun j hj=>by
  unfold rb;by_cases h:j<e.length
  ·rw [ja h,dy h];have h1:=dy h;exact ⟨_,rfl,KO j _ h1,by have:=sN j _ h1;rw [hE.Ed];omega⟩
  ·rw [iZ h];refine ⟨_,rfl,?_,?_⟩
   ·rw [RZ,hE.len];congr 1;have:=hE.len;omega
   ·rw [hE.Ed];have:=hE.len;omega
 have JZ:AS (rb e HC.length) jO pN H' sU:=fun j b bk hr hb=>by
  obtain ⟨bc,k1,k2,k3,k4,_⟩:=hE.out j b bk hr hb;obtain ⟨b',h1,h2,_⟩:=tR j (dt hb).1;rw [hr] at h1;injection h1 with h1;subst h1;exact ⟨bc,k1,k4,k3,h2⟩
 have yA:∀b,b<sU.length→(b<HC.length∧b∉e)∨∃j,j<H'.length∧rb e HC.length j=some b:=fun b hb=>by
  by_cases h:b<HC.length
  ·by_cases pC:b∈e
   ·obtain ⟨j,hj⟩:=eC pC;have pP:=(dt hj).1;exact .inr ⟨j,by have:=hE.len;have:=hE.le;omega,by unfold rb;rw [ja pP];exact hj⟩
   ·exact .inl ⟨h,pC⟩
  ·have:=hE.len;have:=hE.Ed;have:=hE.le;exact .inr ⟨H.length+(b-HC.length),ae,by unfold rb;rw [iZ ae];congr 1;omega⟩
 have kA:w.heap.size≤w'.heap.size:=my.below.size;have CG:∀x,x<w.heap.size→¬nR ι1 H x→w'.heap[x]?=w.heap[x]?:=fun x h1 h2=>my.below.block x h1 h2;have xm:∀j x,j<H'.length→jO j=some x→w.heap.size≤x∨nR ι1 H x:=fun j x hj hx=>(my.heap j _ x (dy hj) hx).1;have Au:∀b x,b<HC.length→b∉e→ι b=some x→¬nR ι1 H x:=fun b x hb pC hx hr=>by
  obtain ⟨j,b',ka,mH⟩:=(u9 x).1 hr;have:=hs.inj b b' x hb (sN j b' ka) hx mH;subst this;exact pC (dx ka)
 have F3:∀x,OO O pN sU x↔OO O1 jO H' x:=fun x=>by
  constructor
  ·rintro (h|⟨b,hb,hx⟩)
   ·refine .inl ⟨.inl h,fun hr=>?_⟩;obtain ⟨j,b,hb,hx⟩:=(u9 x).1 hr;exact hs.qp x b h (sN j b hb) hx
   ·rcases yA b hb with ⟨h1,h2⟩|⟨j,hj,hr⟩
    ·rw [uG b h1 h2] at hx;exact .inl ⟨.inr ⟨b,h1,hx⟩,Au b x h1 h2 hx⟩
    ·obtain ⟨b',k1,k2,_⟩:=tR j hj;rw [hr] at k1;injection k1 with k1;subst k1;exact .inr ⟨j,hj,by rw [← k2];exact hx⟩
  ·rintro (⟨h,hr⟩|⟨j,hj,hx⟩)
   ·rcases h with h|⟨b,hb,hx⟩
    ·exact .inl h
    ·have pC:b∉e:=fun pC=>by
      obtain ⟨j,hj⟩:=eC pC;exact hr ((u9 x).2 ⟨j,b,hj,hx⟩)
     exact .inr ⟨b,by rw [hE.Ed];omega,by rw [uG b hb pC];exact hx⟩
   ·obtain ⟨b,k1,k2,k3⟩:=tR j hj;exact .inr ⟨b,k3,by rw [k2];exact hx⟩
 have g:mj w (OO O ι HC) ι HC w' (OO O pN sU) pN sU:=by
  refine ⟨fun p u h rH=>?_,fun p u h rH h'=>?_,fun b blk h=>?_,fun b x blk kH c1 ty fz h1 h2 h3 hi h=>?_⟩
  ·have hl:=vY rH;rw [CG p hl fun hr=>?_]
   ·exact rH
   ·obtain ⟨j,b,hb,hx⟩:=(u9 _).1 hr;exact h (.inr ⟨b,sN j b hb,hx⟩)
  ·have hl:=vY rH;rcases (F3 _).1 h' with h'|⟨j,hj,hx⟩
   ·exact h h'.1
   ·rcases xm j _ hj hx with h1|h1
    ·omega
    ·obtain ⟨j',b,hb,mH⟩:=(u9 _).1 h1;exact h (.inr ⟨b,sN j' b hb,mH⟩)
  ·have hb:=(dt h).1;by_cases pC:b∈e
   ·obtain ⟨j,hj⟩:=eC pC;obtain ⟨bc,bk,k1,k2,k3,k4,k5,_⟩:=hE.zS j b hj;rw [h] at k1;injection k1 with k1;subst k1;obtain ⟨C7,f1,f2,f3⟩:=my.pn.blk j bk k2;have hr:rb e HC.length j=some b:=bx;obtain ⟨KP,m1,m2,m3,m4,_⟩:=hE.out j b C7 hr f1;refine ⟨KP,m1,ae,fun he=>?_⟩;obtain ⟨n1,n2⟩:=f3 ae;exact ⟨by rw [m3,n1,k4],by rw [KO j b hj,n2];exact vg j b hj⟩
   ·exact ⟨blk,by rw [hE.stay b hb pC];exact h,dD _,fun _=>⟨rfl,uG b hb pC⟩⟩
  ·have hb:=(dt h1).1;by_cases pC:b∈e
   ·obtain ⟨j,hj⟩:=eC pC;obtain ⟨bc,bk,k1,k2,k3,k4,k5,_⟩:=hE.zS j b hj;rw [h1] at k1;injection k1 with k1;subst k1;obtain ⟨C7,f1,f2,f3⟩:=my.pn.blk j bk k2;have hr:rb e HC.length j=some b:=bx;obtain ⟨KP,m1,m2,m3,m4,_⟩:=hE.out j b C7 hr f1;rw [h2] at m1;injection m1 with m1;subst m1;exact my.pn.size j x bk C7 c1 ty fz k2 f1 ae ((vg j b hj).trans hi) h
   ·exact ⟨c1,ty,fz,by rw [CG x (kn b x hb hi) (Au b x hb pC hi)];exact h,rfl⟩
 have R0:lA w0 O pN sU w':=by
  refine ⟨fun b bk x h1 h2=>?_,fun b bk h1 h2=>?_,fun b b' x hb ka h1 h2=>?_,?_,fun x hx=>eZ (hs.rS x hx) kA,fun x b hO hb hx=>?_,hs.pn.trans g.grow⟩
  ·have hb:=(dt h1).1;rcases yA b hb with ⟨k1,k2⟩|⟨j,hj,hr⟩
   ·rw [hE.stay b k1 k2] at h1;rw [uG b k1 k2] at h2;obtain ⟨m1,m2⟩:=hs.heap b bk x h1 h2;exact ⟨m1,m2.mono g (CG x m2.lt (Au b x k1 k2 h2))⟩
   ·obtain ⟨b',k1,k2,_⟩:=tR j hj;rw [hr] at k1;injection k1 with k1;subst k1;obtain ⟨bc,m1,m2⟩:=hE.out j b _ hr (dy hj);rw [h1] at m1;injection m1 with m1;subst m1;rw [k2] at h2;obtain ⟨n1,n2⟩:=my.heap j _ x (dy hj) h2;refine ⟨?_,m2.br F3 JZ n2⟩;rcases n1 with n1|n1
    ·exact .inl (fI hs.below.size n1)
    ·obtain ⟨j',b',ka,mH⟩:=(u9 x).1 n1;exact (hs.heap b' _ x (dy (sN j' b' ka)) mH).1
  ·have hb:=(dt h1).1;rcases yA b hb with ⟨k1,k2⟩|⟨j,hj,hr⟩
   ·rw [hE.stay b k1 k2] at h1;rw [uG b k1 k2] at h2;exact hs.sq b bk h1 h2
   ·obtain ⟨b',k1,k2,_⟩:=tR j hj;rw [hr] at k1;injection k1 with k1;subst k1;obtain ⟨bc,m1,m2,m3,m4,_⟩:=hE.out j b _ hr (dy hj);rw [h1] at m1;injection m1 with m1;subst m1;rw [k2] at h2;have:=my.sq j _ (dy hj) h2;rw [this] at m4;exact dQ m4
  ·rcases yA b hb with ⟨k1,k2⟩|⟨j,hj,hr⟩<;>rcases yA b' ka with ⟨AT,GF⟩|⟨j',mC,zT⟩
   ·rw [uG b k1 k2] at h1;rw [uG b' AT GF] at h2;exact hs.inj b b' x k1 AT h1 h2
   ·exfalso;rw [uG b k1 k2] at h1;obtain ⟨b2,m1,m2,_⟩:=tR j' mC;rw [zT] at m1;injection m1 with m1;subst m1;rw [m2] at h2;rcases xm j' x mC h2 with n|n
    ·have:=kn b x k1 h1;omega
    ·exact Au b x k1 k2 h1 n
   ·exfalso;rw [uG b' AT GF] at h2;obtain ⟨b2,m1,m2,_⟩:=tR j hj;rw [hr] at m1;injection m1 with m1;subst m1;rw [m2] at h1;rcases xm j x hj h1 with n|n
    ·have:=kn b' x AT h2;omega
    ·exact Au b' x AT GF h2 n
   ·obtain ⟨b2,m1,m2,_⟩:=tR j hj;rw [hr] at m1;injection m1 with m1;subst m1;obtain ⟨b3,C8,R1,_⟩:=tR j' mC;rw [zT] at C8;injection C8 with C8;subst C8;rw [m2] at h1;rw [R1] at h2;have:=my.inj j j' x hj mC h1 h2;subst this;rw [hr] at zT;injection zT with zT
  ·refine hs.below.change my.below.os my.below.tape my.below.output kA fun k hk lO=>?_;by_cases hr:nR ι1 H k
   ·obtain ⟨j,b,hb,hx⟩:=(u9 k).1 hr;exact (hs.heap b _ k (dy (sN j b hb)) hx).1
   ·exact absurd (CG k hk hr) lO
  ·rcases yA b hb with ⟨k1,k2⟩|⟨j,hj,hr⟩
   ·rw [uG b k1 k2] at hx;exact hs.qp x b hO k1 hx
   ·obtain ⟨b',k1,k2,_⟩:=tR j hj;rw [hr] at k1;injection k1 with k1;subst k1;rw [k2] at hx;refine my.qp x j ⟨.inl hO,fun hr=>?_⟩ hj hx;obtain ⟨j',b',ka,mH⟩:=(u9 x).1 hr;exact hs.qp x b' hO (sN j' b' ka) mH
 exact hK v w' pN R0 g ((hd sU w' _ jO pN v JZ oM).uu fun y hy=>(F3 y).1 hy)
end
section
variable {P:Program} {n:Fr} {Q:Exit→ku→Prop} {s:ku}
end
section
variable {P:Program} {H:List jy} {ρ:Operand→AV}
theorem adL {t yt:TypeId} {x y:Operand} {o:Oper} {A:Act} {w:World} {a:Option Addr} {l c:Nat} {b:Bool} (ho:o.op=.binOp .eql t x y yt) (hX:A.eval x=.slice a l c) (hY:A.eval y=.slice none 0 0)
 (he:(Op.equal t (.slice a l c) (.slice none 0 0)).run P w=.ok b w):(execOp A.eval o).run P w=.ok (.value (.bool b)) w:=by
 have hg:(eqGuard .eql t x y (.slice a l c) (.slice none 0 0)).run P w=.ok () w:=by
  unfold eqGuard;rfl
 simp only [execOp,ho,hX,hY,dR,hg,dN,binOp,he,dV]
end
def Mw (r:Nat→Option Nat) (H:List jy) (b b2:jy):Prop:=b2.ty=b.ty∧b2.sz=b.sz∧b2.es.length=b.es.length ∧
 ∀(i:Nat) (e e2:AV),b.es[i]?=some e→b2.es[i]?=some e2→e.cells.length=e2.cells.length∧∀(k:Nat) (c c2:AV),e.cells[k]?=some c→e2.cells[k]?=some c2→mL r H c c2
theorem Mw.pu {r:Nat→Option Nat} {H:List jy} {b:jy} (h:∀e∈b.es,∀c∈e.cells,Pu c):Mw r H b b:=
 ⟨rfl,rfl,rfl,fun i e e2 h1 h2=>by
  rw [h1] at h2;injection h2 with h2;subst h2;exact ⟨rfl,fun k c c2 h3 h4=>by
   rw [h3] at h4;injection h4 with h4;subst h4;exact .pu (h e (dx h1) c (dx h3))⟩⟩
def zA (r:Nat→Option Nat) (H:List jy):List AV→List AV→Prop
 | [],[]=>True
 | a::l,b::m=>mL r H a b∧zA r H l m
 | _,_=>False
theorem zA.len {r:Nat→Option Nat} {H:List jy}:∀ {l m:List AV},zA r H l m→l.length=m.length
 | [],[],_=>rfl
 | _::l,_::m,h=>by simp [zA.len h.2]
theorem zA.get {r:Nat→Option Nat} {H:List jy}:∀ {l m:List AV},zA r H l m→∀(j:Nat) (a b:AV),l[j]?=some a→m[j]?=some b→mL r H a b
 | _::l,_::m,h,0,a,b,h1,h2=>bZ
 | _::l,_::m,h,j+1,a,b,h1,h2=>zA.get h.2 j a b h1 h2
theorem mL.Az {r:Nat→Option Nat} {H:List jy} {cs ds:List AV} (h:zA r H cs ds):mL r H (.ky cs) (.ky ds):=.ky h.len h.get
theorem mL.F2 {r:Nat→Option Nat} {H:List jy} {cs ds:List AV} (h:zA r H cs ds):mL r H (.agg cs) (.agg ds):=.agg h.len h.get
def CO (r:Nat→Option Nat) (H:List jy):List Nat→List jy→Prop
 | [],[]=>True
 | b::pQ,b2::H'=>(∃bk,H[b]?=some bk∧Mw r H bk b2)∧CO r H pQ H'
 | _,_=>False
theorem CO.len {r:Nat→Option Nat} {H:List jy}:∀ {pQ:List Nat} {H':List jy},CO r H pQ H'→pQ.length=H'.length
 | [],[],_=>rfl
 | _::l,_::m,h=>by simp [CO.len h.2]
theorem CO.get {r:Nat→Option Nat} {H:List jy}:∀ {pQ:List Nat} {H':List jy},CO r H pQ H'→∀(j b:Nat) (b2:jy),pQ[j]?=some b→H'[j]?=some b2→∃bk,H[b]?=some bk∧Mw r H bk b2
 | _::l,_::m,h,0,b,b2,h1,h2=>bZ
 | _::l,_::m,h,j+1,b,b2,h1,h2=>CO.get h.2 j b b2 h1 h2
theorem Wm {e:List Nat} (hn:e.Nodup) {j b:Nat} (h:e[j]?=some b):ro e b=some j:=by
 cases hr:ro e b with
 | none =>
   unfold ro at hr;rw [fc] at hr;have:=hr b (dx h);simp at this
 | some j' =>
   have h2:=DU hr;obtain ⟨Ix,KN⟩:=dt h;obtain ⟨Nn,Iy⟩:=dt h2;rw [(List.getElem_inj hn).1 (KN.trans Iy.symm)]
theorem BH.of {m:Nat} {H H2:List jy} (pQ:List Nat) (hn:pQ.Nodup) (hm:∀b,b<m→pQ[b]?=some b) (hb:CO (ro pQ) H pQ H2):BH m (ro pQ) (fun j=>pQ.getD j 0) H H2:=by
 have hl:=hb.len;have hg:∀j,j<H2.length→∃b,pQ[j]?=some b∧pQ.getD j 0=b:=fun j hj=>by
  have:j<pQ.length:=ae;exact ⟨pQ[j],dy this,by simp [dI,this]⟩
 refine ⟨fun b h=>Wm hn (hm b h),fun j hj=>?_,fun b j lR h=>?_,fun j bk b2 h1 h2=>?_⟩
 ·obtain ⟨b,h1,h2⟩:=hg j hj;obtain ⟨bk,h3,_⟩:=hb.get j b _ h1 (dy hj);rw [h2];exact ⟨(dt h3).1,Wm hn h1⟩
 ·have h1:=DU h;have hj:=(dt h1).1;exact ⟨by rw [dI,h1];rfl,ae⟩
 ·have hj:=(dt h2).1;obtain ⟨b,h3,h4⟩:=hg j hj;obtain ⟨C3,h5,h6⟩:=hb.get j b b2 h3 h2;simp only [h4] at h1;rw [h1] at h5;injection h5 with h5;subst h5;exact h6
theorem Wk.Ee {n:Fr} {H H2:List jy} {E E2:Env} (pQ:List Nat) (hn:pQ.Nodup) (hm:∀b,b<n.m→pQ[b]?=some b) (hb:CO (ro pQ) H pQ H2) (h:∀p∈E2,mL (ro pQ) H (lk E p.1) p.2):Wk n ⟨E,H⟩ ⟨E2,H2⟩:=Wk.pQ (.of pQ hn hm hb) h
def wv (r:Nat→Option Nat) (H:List jy) (E:Env):Env→Prop
 | []=>True
 | (t,v)::l=>mL r H (lk E t) v∧wv r H E l
theorem wv.all {r:Nat→Option Nat} {H:List jy} {E:Env}:∀ {E2:Env},wv r H E E2→∀p∈E2,mL r H (lk E p.1) p.2
 | [],_,p,h=>dh
 | (t,v)::l,⟨h1,h2⟩,p,h=>by
   rcases dC.1 h with rfl|h
   ·exact h1
   ·exact wv.all h2 p h
theorem mL.vE {r:Nat→Option Nat} {α:Type} {H:List jy} {b n ty sz:Nat} {l:List α} {f:α→AV} (hk:r b=none) (h:H[b]?=some ⟨ty,sz,l.map f⟩) (hn:l.length=n) (hp:∀x∈l,∀c∈(f x).cells,Pu c):mL r H (.own b n 0 n) (.jA (l.map f)):=
 .jA hk h (by simpa using hn) ae (by simpa using hn) fun i e d hi he hd=>by
  simp only [ft] at he;rw [he] at hd;injection hd with hd;subst hd;refine ⟨rfl,fun j c c' hc lC=>?_⟩;rw [hc] at lC;injection lC with lC;subst lC;rw [dE,eL] at he;obtain ⟨x,hx,rfl⟩:=he;exact .pu (hp x (dx hx) c (dx hc))
abbrev y3:=@ajS
abbrev y4:=@ajT
section
variable {P:Program} {H:List jy} {ρ:Operand→AV}
end
section
variable {P:Program} {H:List jy} {ρ:Operand→AV}
end
section
variable {P:Program} {H:List jy} {ρ:Operand→AV}
end
abbrev AV.u8 (c:UInt8):AV:=.base (.int .u8 c.toNat)
section
variable {P:Program} {w w':World} {w0:nd} {O:Nat→Prop} {ι:Nat→Option Nat} {H:List jy} {u:Value}
theorem Hu {ρ:Operand→AV} {t yt:TypeId} {x y:Operand} {a b:ByteArray} (hx:ρ x=.base (.string a)) (hy:ρ y=.base (.string b)) (h:a.size+b.size≤4611686018427387904):QL P H ρ (.binOp .add t x y yt) (.base (.string (a++b))):=by
 refine QL.ql fun w0 O ι A w hs hv o ho=>?_;have h1:=hv x au;rw [hx] at h1;have h1:=h1.nO;have h2:=hv y au;rw [hy] at h2;have h2:=h2.nO;have hg:(eqGuard .add t x y (.string a) (.string b)).run P w=.ok () w:=LS ah ah;have:¬(((a.size+b.size:Nat):Int)>IntKind.i64.max):=by
  simp only [IntKind.max,IntKind.signed,IntKind.bits];simp;omega
 refine ⟨.string (a++b),?_,.base _⟩;simp only [execOp,ho,h1,h2,dR,hg,dN,binOp,Op.stringOp,iZ this,dV]
end
section
variable {P:Program} {H:List jy} {ρ:Operand→AV}
end
def wL (H:List jy) (a b:AV):Prop:=∀(H3:List jy) (w:World) (O:Nat→Prop) (ι jO:Nat→Option Nat) (u:Value),AS some ι jO H H3→(∃blk,H3[H.length]?=some blk∧blk.es=[])→jO H.length=none→VR w O ι H a u→VR w O jO H3 b u
theorem wL.mv {H:List jy} {a b:AV} (h:mI some H a b):wL H a b:=fun H3 w O ι jO u v _ _ hu=>h H3 w O ι jO u v hu
theorem wL.pu {H:List jy} {a:AV} (h:Pu a):wL H a a:=.mv (.pu h)
theorem wL.ptr {H:List jy} {b tot i off:Nat}:wL H (.ptr b tot i off) (.ptr b tot i off):=.mv (.ptr rfl)
theorem wL.own {H:List jy} {b tot off len:Nat}:wL H (.own b tot off len) (.own b tot off len):=.mv (.own rfl)
theorem wL.nil {H:List jy} {m:Nat} (hm:H.length=m):wL H (.base (.slice none 0 0)) (.own m 0 0 0):=fun H3 w O ι jO u v ⟨blk,h1,h2⟩ h3 hu=>by
 subst hm;have:=hu.nO;subst this;exact .tI _ blk h1 h2 h3
def Ef (H:List jy):List AV→List AV→Prop
 | [],[]=>True
 | a::l,b::m=>wL H a b∧Ef H l m
 | _,_=>False
theorem Ef.len {H:List jy}:∀ {l m:List AV},Ef H l m→l.length=m.length
 | [],[],_=>rfl
 | _::l,_::m,h=>by simp [Ef.len h.2]
theorem Ef.get {H:List jy}:∀ {l m:List AV},Ef H l m→∀(j:Nat) (a b:AV),l[j]?=some a→m[j]?=some b→wL H a b
 | _::l,_::m,h,0,a,b,h1,h2=>bZ
 | _::l,_::m,h,j+1,a,b,h1,h2=>Ef.get h.2 j a b h1 h2
def Bo (H:List jy) (b b2:jy):Prop:=b2.ty=b.ty∧b2.sz=b.sz∧b2.es.length=b.es.length ∧
 ∀(i:Nat) (e e2:AV),b.es[i]?=some e→b2.es[i]?=some e2→e.cells.length=e2.cells.length∧∀(k:Nat) (c c2:AV),e.cells[k]?=some c→e2.cells[k]?=some c2→wL H c c2
theorem Bo.pu {H:List jy} {b:jy} (h:∀e∈b.es,∀c∈e.cells,Pu c):Bo H b b:=
 ⟨rfl,rfl,rfl,fun i e e2 h1 h2=>by
  rw [h1] at h2;injection h2 with h2;subst h2;exact ⟨rfl,fun k c c2 h3 h4=>by
   rw [h3] at h4;injection h4 with h4;subst h4;exact .pu (h e (dx h1) c (dx h3))⟩⟩
theorem Bo.one {H:List jy} {ty sz:Nat} {e e2:AV} (h:Ef H e.cells e2.cells):Bo H ⟨ty,sz,[e]⟩ ⟨ty,sz,[e2]⟩:=
 ⟨rfl,rfl,rfl,fun i x x2 h1 h2=>by
  cases i with
  | zero=>simp at h1 h2;subst h1;subst h2;exact ⟨h.len,h.get⟩
  | succ i=>simp at h1⟩
def sO (H:List jy):List jy→List jy→Prop
 | [],[]=>True
 | a::l,b::m=>Bo H a b∧sO H l m
 | _,_=>False
theorem sO.len {H:List jy}:∀ {l m:List jy},sO H l m→l.length=m.length
 | [],[],_=>rfl
 | _::l,_::m,h=>by simp [sO.len h.2]
theorem sO.get {H:List jy}:∀ {l m:List jy},sO H l m→∀(j:Nat) (a b:jy),l[j]?=some a→m[j]?=some b→Bo H a b
 | _::l,_::m,h,0,a,b,h1,h2=>bZ
 | _::l,_::m,h,j+1,a,b,h1,h2=>sO.get h.2 j a b h1 h2
def Ke (H:List jy) (E:Env):Env→Prop
 | []=>True
 | (t,v)::l=>wL H (lk E t) v∧Ke H E l
theorem Ke.all {H:List jy} {E:Env}:∀ {E2:Env},Ke H E E2→∀p∈E2,wL H (lk E p.1) p.2
 | [],_,p,h=>dh
 | (t,v)::l,⟨h1,h2⟩,p,h=>by
   rcases dC.1 h with rfl|h
   ·exact h1
   ·exact Ke.all h2 p h
theorem Wk.rQ {n:Fr} {E E2:Env} {H H2:List jy} (ty sz:Nat) (hB:sO H H H2) (hE:Ke H E E2):Wk n ⟨E,H⟩ ⟨E2,H2++[⟨ty,sz,[]⟩]⟩:=fun w0 O ι a w hs=>by
 have hl:=hB.len;obtain ⟨H3,yR⟩:∃H3,H3=H2++[(⟨ty,sz,[]⟩:jy)]:=⟨_,rfl⟩
 rw [← yR];let jO:Nat→Option Nat:=fun b=>if b=H.length then none else ι b
 have BN:∀b,b<H.length→jO b=ι b:=fun b hb=>iZ ae;have qU:∀b blk,H[b]?=some blk→∃blk2,H3[b]?=some blk2∧Bo H blk blk2:=fun b blk hb=>by
  have lR:=(dt hb).1;have h2:H2[b]?=some (H2[b]' ae):=dy ae;exact ⟨_,by rw [yR,dA ae];exact h2,hB.get b _ _ hb h2⟩
 have hinv:∀b x,b<H3.length→jO b=some x→b<H.length∧ι b=some x:=fun b x hb hx=>by
  rw [yR] at hb;simp only [dK,dO] at hb;by_cases e:b=H.length
  ·simp [jO,e] at hx
  ·exact ⟨ae,by simpa [jO,e] using hx⟩
 have wT:∀x,OO O jO H3 x↔OO O ι H x:=fun x=>by
  constructor
  ·rintro (h|⟨b,hb,hx⟩)
   ·exact .inl h
   ·obtain ⟨h1,h2⟩:=hinv b x hb hx;exact .inr ⟨b,h1,h2⟩
  ·rintro (h|⟨b,hb,hx⟩)
   ·exact .inl h
   ·exact .inr ⟨b,by rw [yR];simp;omega,by rw [BN b hb];exact hx⟩
 have v:AS some ι jO H H3:=fun b j blk hr hb=>by
  injection hr with hr;subst hr;obtain ⟨blk2,h1,h2,h3,h4,_⟩:=qU b blk hb;exact ⟨blk2,h1,h4,h3,BN b (dt hb).1⟩
 have xm:∃blk,H3[H.length]?=some blk∧blk.es=[]:=⟨⟨ty,sz,[]⟩,by rw [yR,hl];simp,rfl⟩
 have HU:jO H.length=none:=ja rfl;have conv:∀ {c c2:AV} {u:Value},wL H c c2→VR w (OO O ι H) ι H c u→VR w (OO O jO H3) jO H3 c2 u:=fun h hu=>(h H3 w _ ι jO _ v xm HU hu).uu fun x hx=>(wT x).1 hx
 have hold:∀b blk2,H3[b]?=some blk2→b<H.length→∃blk,H[b]?=some blk∧Bo H blk blk2:=fun b blk2 h2 hb=>by
  have h1:=dy hb;obtain ⟨b2,h3,h4⟩:=qU b _ h1;rw [h2] at h3;injection h3 with h3;subst h3;exact ⟨_,h1,h4⟩
 refine ⟨jO,⟨fun b blk2 x h2 hx=>?_,fun b blk2 h2 hx=>?_,fun b b' x hb ka hx mH=>?_,hs.mP.below,hs.mP.rS,fun x b hO hb hx=>?_,?_⟩,hs.defers,hs.size,hs.hand,fun t=>?_⟩
 ·obtain ⟨h3,h4⟩:=hinv b x (dt h2).1 hx;obtain ⟨blk,h1,e1,e2,e3,e4⟩:=hold b blk2 h2 h3;obtain ⟨k1,c,k2,k3,k4,k5⟩:=hs.mP.heap b blk x h1 h4;refine ⟨k1,c,by rw [e1];exact k2,by rw [e2,e3];exact k3,fun e he=>?_,fun i k pW d he hd=>?_⟩
  ·obtain ⟨i,oX,vL⟩:=eF.1 he;have ra:blk.es[i]?=some (blk.es[i]' ae):=dy ae;obtain ⟨f1,_⟩:=e4 i _ e ra (by rw [dy oX,vL]);rw [← f1,e2];exact k4 _ (ey _)
  ·have nq:i<blk.es.length:=cZ;have ra:blk.es[i]?=some blk.es[i]:=dy nq;obtain ⟨f1,f2⟩:=e4 i _ pW ra he;have pR:k<blk.es[i].cells.length:=dd;obtain ⟨u,hu,hv⟩:=k5 i k _ _ ra (dy pR);exact ⟨u,by rw [e2];exact hu,conv (f2 k _ d (dy pR) hd) hv⟩
 ·by_cases hb:b<H.length
  ·obtain ⟨blk,h1,e1,e2,e3,_⟩:=hold b blk2 h2 hb;have:=hs.mP.sq b blk h1 (by rw [← BN b hb];exact hx);rw [this] at e3;exact dQ e3
  ·have lR:=(dt h2).1;have pC:b=H2.length:=by rw [yR] at lR;simp at lR;omega
   rw [yR,pC] at h2;simp at h2;subst h2;rfl
 ·obtain ⟨h1,h2⟩:=hinv b x hb hx;obtain ⟨h3,h4⟩:=hinv b' x ka mH;exact hs.mP.inj b b' x h1 h3 h2 h4
 ·obtain ⟨h1,h2⟩:=hinv b x hb hx;exact hs.mP.qp x b hO h1 h2
 ·refine hs.mP.pn.trans ⟨fun b blk h=>?_,fun b x blk kH c wo fz h h2 _ hi hc=>⟨c,wo,fz,hc,rfl⟩⟩;obtain ⟨blk2,h1,h2,h3,h4,_⟩:=qU b blk h;exact ⟨blk2,h1,ae,fun _=>⟨h3,BN b (dt h).1⟩⟩
 ·rcases HK E2 t with h1|⟨p,hp,h1,h2⟩
  ·show VR _ _ _ _ (lk E2 t) _;rw [h1];exact .bad _
  ·show VR _ _ _ _ (lk E2 t) _;rw [h2];subst h1;exact conv (hE.all p hp) (hs.oV p.1)
end Go.Ab
namespace Go.Ab
open Go Go.RowKit Go.MapKept
section
variable {α β:Type} [DecidableEq α]
def getM:List (α×β)→α→Option β
 | [],_=>none
 | (k,v)::r,a=>if k=a then some v else getM r a
def qu:List (α×β)→α→β→List (α×β)
 | [],a,v=>[(a,v)]
 | (k,w)::r,a,v=>if k=a then (k,v)::r else (k,w)::qu r a v
@[simp] theorem aBp (a:α):getM ([]:List (α×β)) a=none:=rfl
theorem Jq:∀(m:List (α×β)) (a b:α) (v:β),getM (qu m a v) b=if a=b then some v else getM m b
 | [],a,b,v=>rfl
 | (k,w)::r,a,b,v=>by
   unfold qu;by_cases h:k=a
   ·rw [ja h];subst h;unfold getM;by_cases h2:k=b<;>simp [h2]
   ·rw [iZ h];unfold getM;rw [Jq r a b v];by_cases h2:k=b
    ·subst h2;simp [Ne.symm h]
    ·simp [h2]
end
def rA {α β:Type} (enc:α→Value) (f:β→AV) (m:List (α×β)):jy:=⟨pj,2,[.agg [.agg (m.map fun p=>.base (enc p.1)),.agg (m.map fun p=>f p.2)]]⟩
structure zn {α:Type} (d:TypeDesc) (enc:α→Value):Prop where
 key:∀a,IsKey d (enc a)
 inj:∀a b,enc a=enc b→a=b
theorem zn.int (k:IntKind):zn (.int k) (fun n:Int=>.int k n):=⟨fun a=>rfl,fun a b h=>by injection h⟩
section
variable {α β:Type} [DecidableEq α] {d:TypeDesc} {enc:α→Value}
theorem OR (hk:zn d enc):∀(m:List (α×β)) (l:List MapEntry) (a:α) (i:Nat),l.map (·.key)=m.map (fun p=>enc p.1)→getM m a=none→Instr.findNow d (enc a) l i=some none
 | [],[],a,i,_,_=>rfl
 | [],e::l,a,i,h,_=>bQ
 | p::m,[],a,i,h,_=>bQ
 | (k,v)::m,e::l,a,i,h,hg=>by
   simp only [ef,List.cons.injEq] at h;obtain ⟨h1,h2⟩:=h;unfold getM at hg;by_cases yS:k=a
   ·rw [ja yS] at hg;cases hg
   ·rw [iZ yS] at hg;obtain ⟨r,hr,MP⟩:=sameNow_of_keys (hk.key a) (show IsKey d e.key by rw [h1];exact hk.key k);cases r with
    | true=>exact absurd (hk.inj _ _ ((MP.1 rfl).trans h1)).symm yS
    | false=>simp only [Instr.findNow,hr];exact OR hk m l a (i+1) h2 hg
theorem OS (hk:zn d enc):∀(m:List (α×β)) (l:List MapEntry) (a:α) (v:β) (i:Nat),l.map (·.key)=m.map (fun p=>enc p.1)→getM m a=some v →
 ∃j e,Instr.findNow d (enc a) l i=some (some (i+j,e.val))∧l[j]?=some e∧m[j]?=some (a,v)∧∀v',qu m a v'=m.set j (a,v')
 | [],_,a,v,i,_,hg=>by cases hg
 | p::m,[],a,v,i,h,_=>bQ
 | (k,w)::m,e::l,a,v,i,h,hg=>by
   simp only [ef,List.cons.injEq] at h;obtain ⟨h1,h2⟩:=h;unfold getM at hg;obtain ⟨r,hr,MP⟩:=sameNow_of_keys (hk.key a) (show IsKey d e.key by rw [h1];exact hk.key k);by_cases yS:k=a
   ·rw [ja yS] at hg;injection hg with hg;subst hg;subst yS;have:r=true:=MP.2 h1.symm;subst this;exact ⟨0,e,by simp [Instr.findNow,hr],rfl,rfl,fun v'=>by simp [qu]⟩
   ·rw [iZ yS] at hg;cases r with
    | true=>exact absurd (hk.inj _ _ ((MP.1 rfl).trans h1)).symm yS
    | false =>
      obtain ⟨j,e',h3,h4,h5,h6⟩:=OS hk m l a v (i+1) h2 hg;refine ⟨j+1,e',?_,h4,h5,fun v'=>by simp [qu,yS,h6]⟩;simp only [Instr.findNow,hr,h3];rw [show i+1+j=i+(j+1) by omega]
theorem OT:∀(m:List (α×β)) (a:α) (v:β),getM m a=none→qu m a v=m++[(a,v)]
 | [],a,v,_=>rfl
 | (k,w)::m,a,v,h=>by
   unfold getM at h;by_cases yS:k=a
   ·rw [ja yS] at h;cases h
   ·rw [iZ yS] at h;simp [qu,yS,OT m a v h]
end
section
variable {P:Program} {w w':World} {w0:nd} {O:Nat→Prop} {ι:Nat→Option Nat} {H:List jy} {u:Value}
theorem Vx {α β:Type} {enc:α→Value} {f:β→AV} {m:List (α×β)} (hs:lA w0 O ι H w) {b:Nat} (hb:H[b]?=some (rA enc f m)) (hv:VR w (OO O ι H) ι H (.n5 b) u) :
 ∃x es k,u=.map (some x)∧ι b=some x∧w.heap[x]?=some (.map es k)∧es.toList.map (·.key)=m.map (fun p=>enc p.1) ∧
  ∀(j:Nat) (p:α×β) (e:MapEntry),m[j]?=some p→es.toList[j]?=some e→VR w (OO O ι H) ι H (f p.2) e.val:=by
 cases hv with
 | Bg b blk a ka h=>rw [hb] at ka;cases ka;simp [rA] at h
 | n5 b blk x ka ht hi =>
   rw [hb] at ka;cases ka;obtain ⟨_,c,hc,_,_,mQ⟩:=hs.heap b _ x hb hi;obtain ⟨es,k,h1,rfl⟩:=afG hc;obtain ⟨u0,h2,h3⟩:=mQ 0 0 _ _ rfl rfl;obtain ⟨u1,h4,h5⟩:=mQ 0 1 _ _ rfl rfl;simp [rA] at h2 h4;subst h2;subst h4;obtain ⟨arr,e1,e2,e3⟩:=h3.Co;injection e1 with e1;subst e1;obtain ⟨arr,f1,f2,f3⟩:=h5.Co;injection f1 with f1;subst f1;simp at e2 f2;refine ⟨x,es,k,rfl,hi,h1,?_,fun j p e hp he=>?_⟩
   ·apply gA (by simp [e2]);intro j g1 g2;simp only [eo] at g1 g2;have:=e3 j (.base (enc m[j].1)) (es[j]'(by simpa using g1)).key (by rw [dE,dy g2];rfl) (by rw [fE,dM (by simpa using g1)];rfl);simpa using this.nO
   ·exact f3 j _ _ (by rw [dE,hp];rfl) (by rw [fE,← dY,he];rfl)
theorem aeK {α β:Type} (enc:α→Value) (f:β→AV) {ρ:Operand→AV} {t:TypeId}:PL P H ρ (.makeMap t none) (.n5 H.length) (H++[rA enc f []]):=by
 refine PL.ql fun w0 O ι a w hs hv o ho=>?_;obtain ⟨h4,h5⟩:=hs.Xv (rA enc f []) #[.agg #[],.agg #[]] (.map #[] 0) (by simp [Bn,rA]) w (Below.refl _ _) rfl (by simp [rA]) (by simp [rA,AV.cells]) (fun i j e c he hc=>by
  cases i with
  | zero =>
    simp [rA] at he;subst he
    match j with
    | 0=>simp [AV.cells] at hc;subst hc;exact ⟨.agg #[],rfl,.agg _ _ rfl ah⟩
    | 1=>simp [AV.cells] at hc;subst hc;exact ⟨.agg #[],rfl,.agg _ _ rfl ah⟩
    | j+2=>simp [AV.cells] at hc
  | succ i=>simp [rA] at he)
 refine ⟨.map (some w.heap.size),_,_,_,?_,.inl rfl,h4,h5,?_⟩
 ·simp only [execOp,ho,Instr.makeMap,fR,dR,jo,gr,dV,dN]
 ·exact .n5 _ (rA enc f []) _ ah rfl (vw _ _ _)
theorem aeL {α β:Type} [DecidableEq α] {enc:α→Value} {f:β→AV} {m:List (α×β)} {kt et:TypeId} {d:TypeDesc} {t:TypeId} {z:AV} (ok:Bool) (hs:lA w0 O ι H w) {b:Nat} (hb:H[b]?=some (rA enc f m)) (hv:VR w (OO O ι H) ι H (.n5 b) u)
 (ht:P.underlying t=some (.map kt et)) (hd:P.underlying kt=some d) (hk:zn d enc) (hz:qd P et=some z) (a:α) :
 ∃r,(Instr.lookup t u (enc a) ok).run P w=.ok r w∧VR w (OO O ι H) ι H (if ok then .ky [((getM m a).map f).getD z,.bool (getM m a).isSome] else ((getM m a).map f).getD z) r:=by
 obtain ⟨x,es,k,rfl,hi,h1,h2,h3⟩:=Vx hs hb hv;obtain ⟨zv,Iu,rfl⟩:=Fz (w:=w) hz;have sQ:∀(c:AV) (v:Value) (q:Bool),VR w (OO O ι H) ι H c v→VR w (OO O ι H) ι H (if ok then .ky [c,.bool q] else c) (if ok then .tuple #[v,.bool q] else v):=by
  intro c v q hc;cases ok with
  | false=>exact hc
  | true =>
    refine .ky _ _ rfl fun j c' u' h4 h5=>?_
    match j with
    | 0=>simp at h4 h5;subst h4;subst h5;exact hc
    | 1=>simp at h4 h5;subst h4;subst h5;exact .base _
    | j+2=>simp at h4
 cases hg:getM m a with
 | none =>
   have hf:=OR hk m es.toList a 0 h2 hg;refine ⟨_,?_,sQ _ zv false (VR.cv _ _ _ _ _)⟩;simp [Instr.lookup,jg ht,MapKept.run_getObj_map h1,run_checkKey hd (hk.key a),run_findKey hd hf,Iu,Result.andThen]
 | some v =>
   obtain ⟨j,e,hf,h4,h5,_⟩:=OS hk m es.toList a v 0 h2 hg;refine ⟨_,?_,sQ _ e.val true (h3 j _ e h5 h4)⟩;simp [Instr.lookup,jg ht,MapKept.run_getObj_map h1,run_checkKey hd (hk.key a),run_findKey hd hf,Result.andThen]
theorem OU {α β:Type} [DecidableEq α] {enc:α→Value} {f:β→AV} {m:List (α×β)} {ρ:Operand→AV} {t kt et:TypeId} {d:TypeDesc} {x i:Operand} {z:AV} {b:Nat} (a:α) (hx:ρ x=.n5 b) (hi:ρ i=.base (enc a)) (hb:H[b]?=some (rA enc f m))
 (ht:P.underlying t=some (.map kt et)) (hd:P.underlying kt=some d) (hk:zn d enc) (hz:qd P et=some z):QL P H ρ (.lookup t x i false) (((getM m a).map f).getD z):=by
 refine QL.ql fun w0 O ι A w hs hv o ho=>?_;have h1:=hv x au;rw [hx] at h1;have h2:=hv i au;rw [hi] at h2;have h2:=h2.nO;obtain ⟨r,h3,h4⟩:=aeL false hs hb h1 ht hd hk hz a;exact ⟨r,by simp only [execOp,ho,h2,h3,dR,dN,dV],h4⟩
theorem map_set {α β:Type} [DecidableEq α] {enc:α→Value} {f:β→AV} {m:List (α×β)} {kt et:TypeId} {d:TypeDesc} {t:TypeId} (hs:lA w0 O ι H w) {b:Nat} (hb:H[b]?=some (rA enc f m)) (hv:VR w (OO O ι H) ι H (.n5 b) u)
 (ht:P.underlying t=some (.map kt et)) (hd:P.underlying kt=some d) (hk:zn d enc) (a:α) (v:β) {val:Value} (Ay:VR w (OO O ι H) ι H (f v) val) :
 ∃w',(Instr.mapUpdate t u (enc a) val).run P w=.ok () w'∧lA w0 O ι (H.set b (rA enc f (qu m a v))) w'∧mj w (OO O ι H) ι H w' (OO O ι (H.set b (rA enc f (qu m a v)))) ι (H.set b (rA enc f (qu m a v))):=by
 obtain ⟨x,es,k,rfl,hi,h1,h2,h3⟩:=Vx hs hb hv;have kA:es.size=m.length:=by have:=jj List.length h2;simpa using this
 have hex:∃yT k',(Instr.mapUpdate t (.map (some x)) (enc a) val).run P w=.ok () { w with heap:=w.heap.setIfInBounds x (.map yT k') } ∧
  yT.toList.map (·.key)=(qu m a v).map (fun p=>enc p.1)∧∀(j:Nat) (p:α×β) (e:MapEntry),(qu m a v)[j]?=some p→yT.toList[j]?=some e→VR w (OO O ι H) ι H (f p.2) e.val:=by
  cases hg:getM m a with
  | none =>
    have hf:=OR hk m es.toList a 0 h2 hg;refine ⟨es.push ⟨enc a,val,k⟩,k+1,?_,?_,fun j p e hp he=>?_⟩
    ·simp [Instr.mapUpdate,jg ht,MapKept.run_getObj_map h1,run_checkKey hd (hk.key a),run_findKey hd hf,run_setObj_map _ h1,Result.andThen]
    ·simp [OT m a v hg,h2]
    ·rw [OT m a v hg] at hp;simp only [Array.toList_push] at he;by_cases hj:j<m.length
     ·rw [dA hj] at hp;rw [dA (by simpa [kA] using hj)] at he;exact h3 j p e hp he
     ·have uH:j=m.length:=by
       have:=(dt hp).1;simp at this;omega
      subst uH;rw [dJ (dD _)] at hp;rw [dJ (by simp [kA])] at he;simp [kA] at hp he;subst hp;subst he;exact Ay
  | some v0 =>
    obtain ⟨j,e,hf,h4,h5,h6⟩:=OS hk m es.toList a v0 0 h2 hg;have hj:es[j]?=some e:=by simpa using h4
    have hje:e.key=enc a:=by
     have:=jj (fun l=>l[j]?) h2;simp only [dE,h4,h5,eJ] at this;injection this
    have pP:j<m.length:=(dt h5).1;refine ⟨es.modify j fun e=>{ e with key:=enc a,val:=val },k,?_,?_,fun i p e' hp he=>?_⟩
    ·simp [Instr.mapUpdate,jg ht,MapKept.run_getObj_map h1,run_checkKey hd (hk.key a),run_findKey hd hf,hj,hje,run_keyThatStays (hk.key a),run_setObj_map _ h1,Result.andThen]
    ·rw [h6];apply fG;intro i;have BN:=jj (fun l=>l[i]?) h2;simp only [dE] at BN;simp only [dE,dY,Array.getElem?_modify,eN];rw [dY] at BN;by_cases sC:j=i
     ·subst sC;simp [hj,pP]
     ·simp [sC,BN]
    ·rw [h6,eN] at hp;rw [dY,Array.getElem?_modify] at he;by_cases sC:j=i
     ·subst sC;simp [pP] at hp;simp [hj] at he;subst hp;subst he;exact Ay
     ·rw [iZ sC] at hp he;exact h3 i p e' hp (by simpa using he)
 obtain ⟨yT,k',hr,k1,k2⟩:=hex;have wV:x<w.heap.size:=(eP.1 h1).1;have xm:({ w with heap:=w.heap.setIfInBounds x (.map yT k') }:World).heap[x]?=some (.map yT k'):=by simp [wV]
 have F1:∀k,k≠x→({ w with heap:=w.heap.setIfInBounds x (.map yT k') }:World).heap[k]?=w.heap[k]?:=fun k hk=>by simp [Ne.symm hk]
 have wJ:yT.size=(qu m a v).length:=by have:=jj List.length k1;simpa using this
 obtain ⟨g1,g2⟩:=hs.set (w':={ w with heap:=w.heap.setIfInBounds x (.map yT k') }) (b:=b) (x:=x) (blk:=rA enc f m) (blk2:=rA enc f (qu m a v)) hb hi rfl rfl rfl
  ⟨rfl,rfl,rfl,ah,fun k hk=>F1 k ae⟩ F1 (c:=#[.agg (es.map (·.key)),.agg (es.map (·.val))]) (c':=#[.agg (yT.map (·.key)),.agg (yT.map (·.val))])
  (by rw [rowAt,h1];rfl) (by rw [rowAt,xm];rfl) rfl (fun c ty fz h=>by rw [h1] at h;cases h) (by simp [rA,AV.cells]) (fun i j e c he hc=>by
    cases i with
    | succ i=>simp [rA] at he
    | zero =>
      simp [rA] at he;subst he
      match j with
      | 0 =>
        simp [AV.cells] at hc;subst hc;refine ⟨_,rfl,.agg _ _ (by simp [wJ]) fun i c u h4 h5=>?_⟩;have:=jj (fun l=>l[i]?) k1;simp only [dE,dY] at this;rw [fE,this] at h5;rw [dE] at h4;cases hq:(qu m a v)[i]? with
        | none=>simp [hq] at h4
        | some p=>simp [hq] at h4 h5;subst h4;subst h5;exact .base _
      | 1 =>
        simp [AV.cells] at hc;subst hc;refine ⟨_,rfl,.agg _ _ (by simp [wJ]) fun i c u h4 h5=>?_⟩;rw [dE] at h4;rw [fE] at h5;cases hq:(qu m a v)[i]? with
        | none=>simp [hq] at h4
        | some p =>
          cases AO:yT[i]? with
          | none=>simp [AO] at h5
          | some e =>
            simp [hq] at h4;simp [AO] at h5;subst h4;subst h5;exact k2 i p e hq (by simpa using AO)
      | j+2=>simp [AV.cells] at hc)
 exact ⟨_,hr,g1,g2⟩
theorem adM {α β:Type} [DecidableEq α] (enc:α→Value) (f:β→AV) {m:List (α×β)} {ρ:Operand→AV} {t kt et:TypeId} {d:TypeDesc} {x i y:Operand} {b:Nat} (a:α) (v:β) (hx:ρ x=.n5 b) (hi:ρ i=.base (enc a)) (hy:ρ y=f v) (hb:H[b]?=some (rA enc f m))
 (ht:P.underlying t=some (.map kt et)) (hd:P.underlying kt=some d) (hk:zn d enc):PL P H ρ (.mapUpdate t x i y) .bad (H.set b (rA enc f (qu m a v))):=by
 refine PL.ql fun w0 O ι A w hs hv o ho=>?_;have h1:=hv x;rw [hx] at h1;have h2:=hv i;rw [hi] at h2;have h2:=h2.nO;have h3:=hv y;rw [hy] at h3;obtain ⟨w',hr,g1,g2⟩:=map_set (P:=P) hs hb h1 ht hd hk a v h3;exact ⟨undef,w',ι,.skip,by simp only [execOp,ho,h2,hr,dR,dN,dV],.inr ⟨rfl,rfl⟩,g1,g2,.bad _⟩
end
theorem mI.n5 {r:Nat→Option Nat} {H:List jy} {b j:Nat} (hb:r b=some j):mI r H (.n5 b) (.n5 j):=fun H2 w O ι jO u v hu=>by
 cases hu with
 | Bg b blk a h1 h2 =>
   obtain ⟨blk2,e1,e2,e3,e4⟩:=v b j blk hb h1;exact .Bg _ blk2 _ e1 ae
 | n5 b blk x h1 ht hi =>
   obtain ⟨blk2,e1,e2,e3,e4⟩:=v b j blk hb h1;exact .n5 _ blk2 x e1 (e2.trans ht) (e4.trans hi)
theorem mL.n5 {r:Nat→Option Nat} {H:List jy} {b j:Nat} (hb:r b=some j):mL r H (.n5 b) (.n5 j):=fun H2 w0 w O ι jO u hs v hu=>by
 cases hu with
 | Bg b blk a h1 h2 =>
   obtain ⟨blk2,e1,e2,e3,e4⟩:=v.idx b j blk hb h1;exact .Bg _ blk2 _ e1 ae
 | n5 b blk x h1 ht hi =>
   obtain ⟨blk2,e1,e2,e3,e4⟩:=v.idx b j blk hb h1;exact .n5 _ blk2 x e1 (e2.trans ht) (e4.trans hi)
end Go.Ab
namespace Go.Ab
open Go Go.RowKit
section
variable {P:Program} {s:ku} {rs:List ResultVar}
end
def pA (u:Bool) (b:Nat):AV:=if u then .ptr b 1 0 0 else .base (.pointer none)
def atD (T:TypeId) (p:AV) (c n:Nat):jy:=⟨T,2,[.agg [p,.own c n 0 n]]⟩
def atE (U:TypeId) (l:List UInt8):jy:=⟨U,1,l.map AV.u8⟩
attribute [go_sem] pA atD atE List.length_map beq_self_eq_true
section
variable {P:Program} {HC:List jy}
end
section
variable {P:Program} {n:Fr} {w w':World} {w0:nd} {O:Nat→Prop} {ι jU:Nat→Option Nat} {H H':List jy} {u:Value}
section
variable {HS:Nat→List jy} {m b:Nat} {o:lx} {l:List lx} {sl:List (Option Nat)} {bl:List Nat} {E:Env} {v:AV} {K:Env→Prop}
end
end
theorem mL.same {H:List jy} (a:AV):mL some H a a:=fun H2 w0 w O ι jO u hs v hu=>hu.mono
 ⟨fun _ _ _ h=>h,fun p c h _ h2=>h (v.OO h2),fun b blk hb=>by
  obtain ⟨blk2,e1,e2,e3,e4⟩:=v.idx b b blk rfl hb;exact ⟨blk2,e1,Nat.le_of_eq e2.symm,fun _=>⟨e3,e4⟩⟩,
  fun b x blk kH c ty fz _ _ _ _ h=>⟨c,ty,fz,h,rfl⟩⟩
theorem kY.same {P:Program} {rs:List ResultVar} {n:Fr} {d:AV} {H':List jy} {s:ku} {vs:List AV} (h:o6 P s rs=some vs) (hd:rG vs=d) (hH:s.H=H'):kY P rs n d H' s:=
 ⟨s,vs,some,fun j=>j,.refl s,h,⟨fun b _=>rfl,fun j hj=>⟨by rw [hH];exact hj,rfl⟩,fun b j hb hr=>by injection hr with hr;subst hr;exact ⟨rfl,by rw [← hH];exact hb⟩,
  fun j blk blk2 h1 h2=>by
   rw [hH,h2] at h1;injection h1 with h1;subst h1;exact ⟨rfl,rfl,rfl,fun i e e2 h3 h4=>by
    rw [h3] at h4;injection h4 with h4;subst h4;exact ⟨rfl,fun k c c2 h5 h6=>by rw [h5] at h6;injection h6 with h6;subst h6;exact .same _⟩⟩⟩,by rw [hd];exact .same _⟩
theorem jK {P:Program} {n:Fr} {Q:Exit→ku→Prop} {s:ku} {b:Bool} {cc:Operand} {x y:Code} (h:jG P n y Q s) (hb:b=false:=by first|rfl|simp) (hc:ev s.env cc=.base (.bool b):=by rfl):jG P n (.cond cc x y) Q s:=jG.cond hc (fun h2=>by rw [hb] at h2;cases h2) (fun _=>h)
theorem j8 {P:Program} {n:Fr} {Q:Exit→ku→Prop} {s:ku} {b:Bool} {cc:Operand} {x y:Code} (h:jG P n x Q s) (hb:b=true:=by first|rfl|simp) (hc:ev s.env cc=.base (.bool b):=by rfl):jG P n (.cond cc x y) Q s:=jG.cond hc (fun _=>h) (fun h2=>by rw [hb] at h2;cases h2)
theorem WU {P:Program} {n:Fr} {Q:Exit→ku→Prop} {s:ku} {p:Prop} [Decidable p] {cc:Operand} {x y:Code} (hc:ev s.env cc=.base (.bool (decide p))) (hp:p) (h:jG P n x Q s):jG P n (.cond cc x y) Q s:=jG.cond hc (fun _=>h) (fun h2=>absurd hp (of_decide_eq_false h2))
theorem mL.kN {r:Nat→Option Nat} {H:List jy} {b tot i off:Nat} {blk:jy} {e d:AV} (hk:r b=none) (h1:H[b]?=some blk) (ht:blk.es.length=tot) (he:blk.es[i]?=some e)
 (hd:zA r H e.cells d.cells):mL r H (.ptr b tot i off) (.kN d off):=fun H2 w0 w O ι jO u hs v hu=>by
 cases hu with
 | ys b tot i off kH a pd h2=>rw [h1] at pd;cases pd;omega
 | ptr b tot i off kH x pd nk hi sS =>
   rw [h1] at pd;cases pd;obtain ⟨ED,c0,hc,mh,kA,mQ⟩:=hs.heap b blk x h1 hi;have J8:¬OO O jO H2 x:=TU hs v h1 hk hi;have pq:∀(j:Nat) (c:AV),d.cells[j]?=some c→∃u,w.cell? ⟨x,i*blk.sz+j,none⟩=some u∧VR w (OO O jO H2) jO H2 c u:=by
    intro j c sE;have hj:j<e.cells.length:=by rw [hd.len];exact (dt sE).1
    have Zf:e.cells[j]?=some e.cells[j]:=dy hj;obtain ⟨u,hu,hv⟩:=mQ i j e _ he Zf;obtain ⟨KF,KG,hc⟩:=Mc hc sS;exact ⟨u,by simpa [World.cell?,hc] using hu,hd.get j _ c Zf sE H2 w0 w O ι jO u hs v hv⟩
   refine .kN d off _ (fun j=>(w.cell? ⟨x,i*blk.sz+j,none⟩).getD undef) rfl (Nat.le_add_left _ _) (fun j c sE=>?_) (fun j c sE=>?_)
   ·obtain ⟨u,hu,_⟩:=pq j c sE;refine ⟨J8,?_⟩;show w.cell? ⟨x,i*blk.sz+off-off+j,none⟩=_;rw [eM,hu];rfl
   ·obtain ⟨u,hu,hv⟩:=pq j c sE;simpa only [hu,eR] using hv
section
variable {P:Program} {H:List jy} {w w':World} {w0:nd} {O:Nat→Prop} {ι:Nat→Option Nat}
end
section
variable {P:Program} {HC:List jy}
end
theorem Wk.wf {n:Fr} {E E2:Env} {H H2:List jy} (hH:H=H2:=by rfl) (h:C1 E E2:=by repeat (first|exact trivial|refine And.intro (Le.of_eq rfl) ?_|refine And.intro (Le.bad _) ?_|refine And.intro (Le.T5 _) ?_)):Wk n ⟨E,H⟩ ⟨E2,H2⟩:=.atA hH h
section
variable {P:Program} {n:Fr} {Q:Exit→ku→Prop} {c:Code}
end
section
variable {p q:Prop}
end
section
variable {P:Program} {n:Fr} {q:Bool} {K:ku→Prop} {Q:Exit→ku→Prop} {s:ku}
end
end Go.Ab
namespace Go.Ab
open Go Go.RowKit Go.MapKept
section
variable {α β:Type} [DecidableEq α] {P:Program} {w:World} {kt:TypeId} {enc:α→Value}
end
section
variable {P:Program} {w w':World} {w0:nd} {O:Nat→Prop} {ι:Nat→Option Nat} {H:List jy} {u:Value}
end
section
variable {P:Program} {w:World} {O:Nat→Prop} {ι:Nat→Option Nat} {H:List jy} {u:Value}
end
end Go.Ab
namespace Go.Ab
open Go Go.RowKit
section
variable {P:Program} {n:Fr} {w w':World} {w0:nd} {O:Nat→Prop} {ι jU:Nat→Option Nat} {H H':List jy} {u:Value}
structure Un (st:Nat→Option Nat) (ms:Nat→List Nat) (ops:Array Oper) (k m:Nat):Prop where
 one:∀i j c,i<k→j<k→st i=some c→st j=some c→i=j
 lt:∀i c,i<k→st i=some c→c<m
 all:∀c,c<m→∃j,j<k∧st j=some c
 run:∀i o S,i<k→ops[i]?=some o→S<2 ^ m→(∀j c,j<k→st j=some c→xU o j=true→S.testBit c=true)→(∀j o' c,j<k→ops[j]?=some o'→st j=some c→S.testBit c=true→xU o' i=false)→(∀c,st i=some c→S.testBit c=false)→S∈ms i
def Qf (st:List (Option Nat)) (ops:Array Oper) (k i S:Nat):Bool:=
 ((List.range k).all fun j=>match st.getD j none with
   | some c=>(match ops[i]? with|some o=>!xU o j||S.testBit c|none=>true)&&(match ops[j]? with|some o'=>!S.testBit c||!xU o' i|none=>true)
   | none=>true)&&(match st.getD i none with|some c=>!S.testBit c|none=>true)
def JO (st:List (Option Nat)) (ms:List (List Nat)) (ops:Array Oper) (k m:Nat):Bool:=
 let is:=List.range k
 (is.all fun i=>is.all fun j=>match st.getD i none,st.getD j none with|some c,some c'=>i==j||c !=c'|_,_=>true) &&
 (is.all fun i=>match st.getD i none with|some c=>decide (c<m)|none=>true) &&
 ((List.range m).all fun c=>is.any fun j=>st.getD j none==some c) &&
 (is.all fun i=>(List.range (2 ^ m)).all fun S=>!Qf st ops k i S||(ms.getD i []).contains S)
theorem adN {st:List (Option Nat)} {ms:List (List Nat)} {ops:Array Oper} {k m:Nat} (h:JO st ms ops k m=true):Un (fun i=>st.getD i none) (fun i=>ms.getD i []) ops k m:=by
 unfold JO at h;simp only [er] at h;obtain ⟨⟨⟨h1,h2⟩,h3⟩,h4⟩:=h;have m1:∀ {i:Nat},i<k→i∈List.range k:=fun h=>cb;refine ⟨fun i j c hi hj e1 e2=>?_,fun i c hi e=>?_,fun c hc=>?_,fun i o S hi ho hS k1 k2 k3=>?_⟩
 ·have:=du (du h1 i (m1 hi)) j (m1 hj);simp only [e1,e2] at this;simpa using this
 ·have:=du h2 i (m1 hi);simp only [e] at this;simpa using this
 ·obtain ⟨j,hj,hx⟩:=eS.1 (du h3 c (by simpa using hc));exact ⟨j,db,by simpa using hx⟩
 ·have:=du (du h4 i (m1 hi)) S (by simpa using hS);have hr:Qf st ops k i S=true:=by
   unfold Qf;rw [er];refine ⟨dU.2 fun j hj=>?_,?_⟩
   ·have hj:j<k:=db;cases e:st.getD j none with
    | none=>rfl
    | some c =>
      simp only [ho,er];refine ⟨?_,?_⟩
      ·cases e2:xU o j with
       | false=>rfl
       | true=>rw [k1 j c hj e e2];rfl
      ·cases e2:ops[j]? with
       | none=>rfl
       | some o' =>
         cases e3:S.testBit c with
         | false=>rfl
         | true=>simp [k2 j o' c hj e2 e e3]
   ·cases e:st.getD i none with
    | none=>rfl
    | some c=>simp only [k3 c e];rfl
  rw [hr] at this;simpa using this
theorem adV {ops:Array Oper} {D:List (Option Tmp)} {k:Nat} (hD:ops.toList.map (·.dst)=D) (rL:ops.toList.all (wQ D)=true) (hf:Ht D ops k) {st:Nat→Option Nat} {m0:Nat} {HS:Nat→List jy} {ms:Nat→List Nat} (wW:Un st ms ops k m0) (hk:k≤ops.size) {q:Bool} {s1 s':ku} {O:Nat→Prop}
 {g:Nat→Nat→AV} {vs:Nat→AV} (vf:g k=lk s1.env) (jP:∀i o,ops[i]?=some o→i<k→((st i=none∧∀S,S∈ms i→xg P n (HS S) (g i) (pU D o) (vs i))∨∃c,st i=some c∧∀S,S∈ms i→CE P n (HS S) (g i) (pU D o) (vs i) (HS (S ||| 2 ^ c)))∧g (i+1)=qq (g i) o.dst (vs i)) (JX:HS (2 ^ m0-1)=s1.H)
 (ht:Tr P n q ((ops.toList.drop k).map (pU D)) s1 s') :
 ∀(fuel:Nat) (L:Array Bool) (U:List Nat) (ι:Nat→Option Nat) (S0:Nat) (a:Act) (w:World),S0<2 ^ m0→(∀j c,j<k→st j=some c→(L.getD j false=true↔S0.testBit c=true))→L.size=ops.size→(∀j,j<k→(L.getD j false=false↔j∈U))→U.length+(ops.size-k)≤fuel→(∀j,k≤j→L.getD j false=false)→Cx ops L→rK n w0 O (mix D k (g 0) (g k) L) (HS S0) ι a w →
  wpAny P .any ops (vA w0 O n s') fuel L a w:=by
 have vk:∀(i:Nat) (o:Oper),ops[i]?=some o→D[i]?=some o.dst:=fun i o ho=>bI;have xh:∀t i j,i≤j→j≤k→(∀m,i≤m→m<j→D[m]?≠some (some t))→g j t=g i t:=by
  intro t i j sC;obtain ⟨d,rfl⟩:=gP sC;clear sC
  induction d with
  | zero=>intro _ _;rfl
  | succ d ih =>
    intro Gv mU;generalize KI:i+d=j at ih;have sC:i≤j:=ae;rw [show i+(d+1)=j+1 by omega] at Gv mU ⊢;have ho:ops[j]?=some ops[j]:=dM ae;rw [(jP j _ ho ae).2];unfold qq;rw [iZ (fun e=>mU j sC ae (by rw [vk j _ ho,e]))];exact ih ae fun m hm RM=>mU m hm ae
 have oh:∀j o d,ops[j]?=some o→j<k→o.dst=some d→g k d=vs j∧∀i,j<i→i≤k→g i d=vs j:=by
  intro j o d ho hj hd;have h1:g (j+1) d=vs j:=cU;have h2:∀i,j<i→i≤k→g i d=vs j:=fun i hi oj=>by
   rw [xh d (j+1) i hi oj fun m hm Nk e=>hf.one j m d hj ae ae (by rw [vk j o ho,hd]) e];exact h1
  exact ⟨h2 k hj (dD _),h2⟩
 intro fuel;have FW:∀(L:Array Bool) (ι:Nat→Option Nat) (a:Act) (w:World),L.size=ops.size→(∀j,k≤j→L.getD j false=false)→rK n w0 O (mix D k (g 0) (g k) L) s1.H ι a w→(∀j,j<k→L.getD j false=true)→SR n w0 O s1 ι a w:=by
  intro L ι a w kA hL hs ou;refine ⟨hs.mP,hs.defers,hs.size,hs.hand,fun t=>?_⟩;have h1:=hs.oV t;have h2:mix D k (g 0) (g k) L t=lk s1.env t:=by
   rw [← vf];by_cases hex:∃j,j<k∧D[j]?=some (some t)
   ·obtain ⟨j,hj,hd⟩:=hex;exact uO hj (ou j hj) hd
   ·rw [uM (fun j hj _ hd=>hex ⟨j,hj,hd⟩)];exact (xh t 0 k (dL _) (dD _) fun m _ hm hd=>hex ⟨m,hm,hd⟩).symm
  rwa [h2] at h1
 have As:∀(L:Array Bool) (ι:Nat→Option Nat) (S0:Nat) (a:Act) (w:World) (fuel:Nat),S0<2 ^ m0→(∀j c,j<k→st j=some c→(L.getD j false=true↔S0.testBit c=true))→L.size=ops.size→(∀j,k≤j→L.getD j false=false)→rK n w0 O (mix D k (g 0) (g k) L) (HS S0) ι a w→(∀j,j<k→L.getD j false=true)→ops.size≤k+fuel →
  wpAny P .any ops (vA w0 O n s') fuel L a w:=by
  intro L ι S0 a w fuel GH qV kA hL hs ou xz;have xF:S0=2 ^ m0-1:=by
   refine Nat.eq_of_testBit_eq fun i=>?_;rw [Nat.testBit_two_pow_sub_one];rcases eE i m0 with h|h
   ·obtain ⟨j,hj,he⟩:=wW.all i h;rw [(qV j i hj he).1 (ou j hj)];simp [h]
   ·rw [Nat.testBit_lt_two_pow (eZ GH (Nat.pow_le_pow_right az h))];simp;omega
  rw [xF,JX] at hs;refine LY hD rL hf fuel k s1 L ι a w (dD _) hk xz kA (fun j hj=>?_) ht (FW L ι a w kA hL hs ou);rcases eE j k with h|h
  ·rw [ou j h];simp [h]
  ·rw [hL j h];simp;omega
 induction fuel with
 | zero =>
   intro L U ι S0 a w l5 qV kA hU hc hL lK hs;have sM:U=[]:=dQ ae;subst sM;exact As L ι S0 a w 0 l5 qV kA hL hs (fun j hj=>by
    cases h:L.getD j false with
    | true=>rfl
    | false=>exact absurd ((hU j hj).1 h) ah) ae
 | succ fuel ih =>
   intro L U ι S0 a w l5 qV kA hU hc hL lK hs;by_cases ou:∀j,j<k→L.getD j false=true
   ·exact As L ι S0 a w _ l5 qV kA hL hs ou ae
   ·have qU:∀i,i<ops.size→L.getD i true=L.getD i false:=fun i hi=>aQ;refine ⟨fun sM=>?_,fun i hi=>?_⟩
    ·exfalso;have hex:∃j,j<k∧L.getD j false=false:=by
      rcases Classical.em (∃j,j<k∧L.getD j false=false) with h|h
      ·exact h
      ·exact absurd (fun j hj=>by
        cases h':L.getD j false with
        | true=>rfl
        | false=>exact absurd ⟨j,hj,h'⟩ h) ou
     obtain ⟨j,hj,AN⟩:=hex;have FX:∀m,(∃j,j<m∧j<k∧L.getD j false=false)→∃j,j<k∧L.getD j false=false∧∀i,i<j→L.getD i false=true:=by
      intro m
      induction m with
      | zero=>rintro ⟨j,h,_⟩;omega
      | succ m Gw =>
        rintro ⟨j,h1,h2,h3⟩;by_cases h:∃j,j<m∧j<k∧L.getD j false=false
        ·exact Gw h
        ·refine ⟨j,h2,h3,fun i hi=>?_⟩;cases h':L.getD i false with
         | true=>rfl
         | false=>exact absurd ⟨i,ae,ae,h'⟩ h
     obtain ⟨j,hj,AN,qZ⟩:=FX (j+1) ⟨j,ae,hj,AN⟩;have:j∈Region.ready .any ops L:=mem_ready.2 ⟨ops[j],dM ae,dn,fun e he hb=>qZ _ (hf.down j _ (dM ae) e he hb)⟩;rw [sM] at this;cases this
    ·obtain ⟨o,ho,h1,h2⟩:=mem_ready.1 hi;have Gx:i<ops.size:=(eP.1 ho).1;rw [qU i Gx] at h1;have oj:i<k:=by
      rcases eE i k with h|h
      ·exact h
      ·exact absurd (fun j hj=>Fv lK 8 (hf.tail i o ho h j ae) h2) ou
     obtain ⟨h3,h4⟩:=jP i o ho oj;have DW:∀t∈Bh D o,mix D k (g 0) (g k) L t=g i t:=fun t Gy=>by
      by_cases hex:∃j,j<k∧D[j]?=some (some t)
      ·obtain ⟨j,hj,hd⟩:=hex;obtain ⟨h5,h6⟩:=hf.reads i o ho oj t Gy j hj hd;have xA:ops[j]?=some ops[j]:=dM ae;have yI:ops[j].dst=some t:=by have:=vk j _ xA;rw [hd] at this;injection this with this;exact this.symm
       rw [uO hj (Ch h6 h2) hd,(oh j _ t xA hj yI).1,(oh j _ t xA hj yI).2 i h5 ae]
      ·rw [uM (fun j hj _ hd=>hex ⟨j,hj,hd⟩)];exact (xh t 0 i (dL _) ae fun m _ hm hd=>hex ⟨m,ae,hd⟩).symm
     have Gz:i∈U:=(hU i oj).1 h1;have wX:∀(jU:Nat→Option Nat) (c1:Nat) (a':Act) (w':World),c1<2 ^ m0→(∀j c,j<k→st j=some c→((L.setIfInBounds i true).getD j false=true↔c1.testBit c=true))→rK n w0 O (qq (mix D k (g 0) (g k) L) o.dst (vs i)) (HS c1) jU a' w' →
      wpAny P .any ops (vA w0 O n s') fuel (L.setIfInBounds i true) a' w':=by
      intro jU c1 a' w' nU Bu ma;refine ih (L.setIfInBounds i true) (U.filter (· !=i)) jU c1 a' w' nU Bu (by simp [kA]) (fun j hj=>?_) ?_ (fun j hj=>?_) (lK.set ho ae h2) ?_
      ·simp only [dH,dZ,List.mem_filter];by_cases e:i=j
       ·subst e;simp [show i<L.size by omega]
       ·have:=hU j hj;simp only [dH] at this;simp only [e,jc,this,bne_iff_ne,ne_eq];exact ⟨fun h=>⟨h,fun h'=>e h'.symm⟩,fun h=>h.1⟩
      ·have:(U.filter (· !=i)).length<U.length:=by
        have h7:=fO (l:=U) (p:=(· !=i));exact h7.2 ⟨i,Gz,ah⟩
       omega
      ·simp only [dH,dZ];have:=hL j hj;simp only [dH] at this;rw [iZ ae];exact this
      ·have wS:mix D k (g 0) (g k) (L.setIfInBounds i true)=qq (mix D k (g 0) (g k) L) o.dst (vs i):=by
        funext t
        unfold qq;by_cases e:o.dst=some t
        ·rw [ja e,uO oj bR (by rw [vk i o ho,e]),(oh i o t ho oj e).1]
        ·rw [iZ e];have yz:∀j,D[j]?=some (some t)→(L.setIfInBounds i true).getD j false=L.getD j false:=by
          intro j hd;have lO:i≠j:=fun e'=>bF;simp only [dH,dZ,lO,jc]
         by_cases hex:∃j,j<k∧L.getD j false=true∧D[j]?=some (some t)
         ·obtain ⟨j,hj,hl,hd⟩:=hex;rw [uO hj hl hd,uO hj (by rw [yz j hd];exact hl) hd]
         ·rw [uM (fun j hj hl hd=>hex ⟨j,hj,hl,hd⟩),uM (fun j hj hl hd=>hex ⟨j,hj,by rw [← yz j hd];exact hl,hd⟩)]
       rw [wS];exact ma
     have lF:∀j,(L.setIfInBounds i true).getD j false=if i=j then true else L.getD j false:=fun j=>by
      simp only [dH,dZ];by_cases e:i=j
      ·subst e;simp [show i<L.size by omega]
      ·simp [e]
     have Kc:=du rL o bB;have ub:S0∈ms i:=wW.run i o S0 oj ho l5 (fun j c hj he BL=>(qV j c hj he).1 (Ch BL h2))
      (fun j o' c hj pV he hb=>by
        have h7:=(qV j c hj he).2 hb;cases BL:xU o' i with
        | false=>rfl
        | true =>
          have:=Ch BL (lK j o' pV h7);rw [h1] at this;cases this)
      (fun c he=>by
        cases hb:S0.testBit c with
        | false=>rfl
        | true=>have:=(qV i c oj he).2 hb;rw [h1] at this;cases this)
     rcases h3 with ⟨hn,h3⟩|⟨c,lC,h3⟩
     ·refine (h3 S0 ub).run hD ho Kc DW hs fun a' w' ma=>wX ι S0 a' w' l5 (fun j c hj he=>?_) ma;rw [lF,iZ (fun e=>by subst e;rw [hn] at he;cases he)];exact qV j c hj he
     ·refine (h3 S0 ub).run ho DW hs fun jU a' w' ma=>wX jU (S0 ||| 2 ^ c) a' w' (Nat.or_lt_two_pow l5 (Nat.pow_lt_pow_right az (wW.lt i c oj lC))) (fun j d hj he=>?_) ma;rw [lF,Nat.testBit_or,Nat.testBit_two_pow];by_cases e:i=j
      ·subst e;rw [lC] at he;injection he with he;subst he;simp
      ·rw [iZ e,qV j d hj he];have:d≠c:=fun h=>e (wW.one i j c oj hj lC (h▸he));simp [Ne.symm this]
inductive C9 (P:Program) (n:Fr) (HS:Nat→List jy):List lx→List (Option Nat)→List (List Nat)→Env→Env→Prop
 | nil (E:Env):C9 P n HS [] [] [] E E
 | q (o:lx) (l:List lx) (sl:List (Option Nat)) (b:List Nat) (bl:List (List Nat)) (E:Env) (v:AV) (E':Env) (h:∀S,S∈b→xg P n (HS S) (lk E) o v) (hr:C9 P n HS l sl bl (mF E o.dst v) E'):C9 P n HS (o::l) (none::sl) (b::bl) E E'
 | p (o:lx) (l:List lx) (sl:List (Option Nat)) (b:List Nat) (bl:List (List Nat)) (E:Env) (v:AV) (E':Env) (c:Nat) (h:∀S,S∈b→CE P n (HS S) (lk E) o v (HS (S ||| 2 ^ c))) (hr:C9 P n HS l sl bl (mF E o.dst v) E'):C9 P n HS (o::l) (some c::sl) (b::bl) E E'
theorem C9.all {HS:Nat→List jy}:∀ {l:List lx} {sl:List (Option Nat)} {bl:List (List Nat)} {E E':Env},C9 P n HS l sl bl E E'→∃(g:Nat→Nat→AV) (vs:Nat→AV),g 0=lk E∧g l.length=lk E' ∧
 ∀i o,l[i]?=some o→((sl.getD i none=none∧∀S,S∈bl.getD i []→xg P n (HS S) (g i) o (vs i))∨∃c,sl.getD i none=some c∧∀S,S∈bl.getD i []→CE P n (HS S) (g i) o (vs i) (HS (S ||| 2 ^ c)))∧g (i+1)=qq (g i) o.dst (vs i)
 | _,_,_,E,_,.nil _=>⟨fun _=>lk E,fun _=>.bad,rfl,rfl,fun i o h=>bQ⟩
 | _,_,_,E,E',.q o l sl b bl _ v _ h hr=>by
   obtain ⟨g,vs,h4,h5,h6⟩:=hr.all;refine ⟨fun i=>match i with|0=>lk E|i+1=>g i,fun i=>match i with|0=>v|i+1=>vs i,rfl,h5,fun i o' pV=>?_⟩;cases i with
   | zero =>
     simp at pV;subst pV;exact ⟨.inl ⟨rfl,h⟩,dk⟩
   | succ i=>exact h6 i o' (by simpa using pV)
 | _,_,_,E,E',.p o l sl b bl _ v _ c h hr=>by
   obtain ⟨g,vs,h4,h5,h6⟩:=hr.all;refine ⟨fun i=>match i with|0=>lk E|i+1=>g i,fun i=>match i with|0=>v|i+1=>vs i,rfl,h5,fun i o' pV=>?_⟩;cases i with
   | zero =>
     simp at pV;subst pV;exact ⟨.inr ⟨c,rfl,h⟩,dk⟩
   | succ i=>exact h6 i o' (by simpa using pV)
theorem jG.apS {id:Nat} {ops:Array Oper} {D:List (Option Tmp)} {k:Nat} {l1 l2:List lx} {Q:Exit→ku→Prop} {s:ku} (sl:List (Option Nat)) (bl:List (List Nat)) (HS:Nat→List jy) (m:Nat) (hm:P.follows .mixedOrders=true) (h:Bt ops k D l1 l2)
 (hg:JO sl bl ops k m=true) (h0:HS 0=s.H) {E':Env} (h1:C9 P n HS l1 sl bl s.env E') (hr:jB P n false l2 (Q .normal) ⟨E',HS (2 ^ m-1)⟩):jG P n (.region id ops true) Q s:=by
 intro w0 O ι a w hs;obtain ⟨hD,rL,hf,hk,oA,nL⟩:=h;obtain ⟨s',h2,h3⟩:=hr;have key:(Code.region id ops true).wp P (vA w0 O n s') a w:=by
  refine wp_region_any hm ?_;obtain ⟨g,vs,EB,vf,jP⟩:=h1.all;have hlen:l1.length=k:=by rw [← oA];simp;omega
  rw [hlen] at vf;have Zg:Below w.heap.size w { w with drawn:=w.drawn+1 }:=(Below.refl _ _).drew;refine adV (s1:=⟨E',HS (2 ^ m-1)⟩) (st:=fun i=>sl.getD i none) (ms:=fun i=>bl.getD i []) hD rL (LR hf) (adN hg) hk (g:=g) (vs:=vs) vf (fun i o ho hi=>?_) rfl (by rw [nL];exact h2) ops.size _ (List.range k) ι 0 a _ (Nat.two_pow_pos _) (fun j c hj hc=>?_) ah (fun j hj=>?_) aj (fun j hj=>?_) (fun j o' _ hj=>aY) ?_
  ·exact jP i (pU D o) bC
  ·simp only [dH,eK];split<;>simp
  ·simp [dH,hj,eK];split<;>rfl
  ·simp only [dH,eK];split<;>rfl
  ·rw [h0];refine ⟨hs.mP.quiet Zg,hs.defers,hs.size,hs.hand,fun t=>?_⟩;have:mix D k (g 0) (g k) (Array.replicate ops.size false) t=lk s.env t:=by
    rw [uM,EB];intro j hj hl;simp only [dH,eK] at hl;split at hl<;>cases hl
   rw [this];exact (hs.oV t).mono (mj.quiet hs.mP Zg)
 refine jh key ?_;rintro e a w ⟨rfl,jU,h⟩;exact ⟨s',jU,h3,h⟩
def nA (P:Program) (n:Fr) (HS:Nat→List jy) (l:List lx) (sl:List (Option Nat)) (bl:List (List Nat)) (K:Env→Prop) (E:Env):Prop:=∃E',C9 P n HS l sl bl E E'∧K E'
section
variable {HS:Nat→List jy} {b:List Nat} {o:lx} {l:List lx} {sl:List (Option Nat)} {bl:List (List Nat)} {E:Env} {v:AV} {K:Env→Prop}
theorem nA.nil (h:K E):nA P n HS [] [] [] K E:=⟨E,.nil E,h⟩
theorem nA.q1 (hg:o.g=none) (hd:mB n o.dst=true) (h:∀S,S∈b→QL P (HS S) (ev E) o.op v) (hr:nA P n HS l sl bl K (mF E o.dst v)):nA P n HS (o::l) (none::sl) (b::bl) K E:=
 let ⟨E',h1,h2⟩:=hr;⟨E',.q o l sl b bl E v E' (fun S hS=>.q1 v hg hd (by rw [show wR (lk E)=ev E from funext fun x=>(HQ E x).symm];exact (h S hS).t)) h1,h2⟩
theorem nA.p1 {c:Nat} (hg:o.g=none) (hd:mB n o.dst=true) (h:∀S,S∈b→Ns P (HS S) (ev E) o.op v (HS (S ||| 2 ^ c))) (hr:nA P n HS l sl bl K (mF E o.dst v)):nA P n HS (o::l) (some c::sl) (b::bl) K E:=
 let ⟨E',h1,h2⟩:=hr;⟨E',.p o l sl b bl E v E' c (fun S hS=>⟨hg,hd,by rw [show wR (lk E)=ev E from funext fun x=>(HQ E x).symm];exact h S hS⟩) h1,h2⟩
theorem jG.amS {id:Nat} {ops:Array Oper} {D:List (Option Tmp)} {k:Nat} {l1 l2:List lx} {Q:Exit→ku→Prop} {s:ku} (sl:List (Option Nat)) (bl:List (List Nat)) (HS:Nat→List jy) (m:Nat) (hm:P.follows .mixedOrders=true) (h:Bt ops k D l1 l2)
 (hg:JO sl bl ops k m=true) (h0:HS 0=s.H) (h1:nA P n HS l1 sl bl (fun E'=>jB P n false l2 (Q .normal) ⟨E',HS (2 ^ m-1)⟩) s.env):jG P n (.region id ops true) Q s:=
 let ⟨E',h3,h4⟩:=h1;.apS sl bl HS m hm h hg h0 h3 h4
end
theorem lA.fill (hs:lA w0 O ι H w) {b:Nat} {blk0:jy} (EJ:H[b]?=some blk0) (wU:blk0.es=[]) (blk:jy) (lO:blk.es≠[]) (c:Array Value) (hmt:blk.ty<pj) (h1:blk.es.length*blk.sz≤c.size) (h2:∀e∈blk.es,e.cells.length=blk.sz)
 (h3:∀(i j:Nat) (e d:AV),blk.es[i]?=some e→e.cells[j]?=some d→∃u,c[i*blk.sz+j]?=some u∧VR w (OO O ι H) ι H d u) :
 lA w0 O (rU ι b w.heap.size) (H.set b blk) (w.alloc (.cells c blk.ty)) ∧
 mj w (OO O ι H) ι H (w.alloc (.cells c blk.ty)) (OO O (rU ι b w.heap.size) (H.set b blk)) (rU ι b w.heap.size) (H.set b blk):=by
 have lR:b<H.length:=(dt EJ).1;have hb:Below w.heap.size w (w.alloc (.cells c blk.ty)):=(Below.refl _ _).alloc ae _;obtain ⟨H2,sG⟩:∃H2,H2=H.set b blk:=⟨_,rfl⟩
 rw [← sG];have FR:H2.length=H.length:=by rw [sG];simp
 have qU:∀b' bk,H2[b']?=some bk→(b'=b∧bk=blk)∨(b'≠b∧H[b']?=some bk):=by
  intro b' bk h;rw [sG,eN] at h;by_cases e:b=b'
  ·subst e;rw [ja rfl,ja lR] at h;injection h with h;exact .inl ⟨rfl,h.symm⟩
  ·rw [iZ e] at h;exact .inr ⟨fun e'=>e e'.symm,h⟩
 have hinv:∀b' x,b'<H2.length→rU ι b w.heap.size b'=some x→(b'=b∧x=w.heap.size)∨(b'≠b∧b'<H.length∧ι b'=some x):=by
  intro b' x ka hx;by_cases e:b'=b
  ·subst e;rw [vw] at hx;injection hx with hx;exact .inl ⟨rfl,hx.symm⟩
  ·rw [xd e] at hx;exact .inr ⟨e,ae,hx⟩
 have Av:∀b x,b<H.length→ι b=some x→x<w.heap.size:=fun b x hb hx=>(hs.heap b _ x (dy hb) hx).2.lt;have g:mj w (OO O ι H) ι H (w.alloc (.cells c blk.ty)) (OO O (rU ι b w.heap.size) H2) (rU ι b w.heap.size) H2:=by
  refine ⟨fun p u _ h=>by rw [hb.block p (vY h)];exact h,fun p u h hc=>?_,fun b' bk h=>?_,fun b' x bk C3 c' ty fz h1 h2 hl hi h=>?_⟩
  ·rintro (ho|⟨b',QC,hx⟩)
   ·exact h (.inl ho)
   ·rcases hinv b' _ QC hx with ⟨_,e⟩|⟨_,h4,h5⟩
    ·have:=vY hc;omega
    ·exact h (.inr ⟨b',h4,h5⟩)
  ·by_cases e:b'=b
   ·subst e;rw [EJ] at h;injection h with h;subst h;refine ⟨blk,by rw [sG];simp [lR],by rw [wU];simp,fun he=>?_⟩;rw [wU] at he;exact absurd (dQ he) lO
   ·exact ⟨bk,by rw [sG,dS (fun e'=>e e'.symm)];exact h,dD _,fun _=>⟨rfl,xd e⟩⟩
  ·have kn:x<w.heap.size:=Av b' x (dt h1).1 hi;exact ⟨c',ty,fz,by rw [hb.block x kn];exact h,rfl⟩
 refine ⟨⟨fun b' bk x h hx=>?_,fun b' bk h hx=>?_,fun b1 b2 x h h' hx mH=>?_,hs.below.step hb,fun x hx=>eZ (hs.rS x hx) hb.size,fun x b' hO QC hx=>?_,hs.pn.trans g.grow⟩,g⟩
 ·rcases qU b' bk h with ⟨rfl,rfl⟩|⟨QD,h'⟩
  ·rw [vw] at hx;injection hx with hx;subst hx;refine ⟨.inl hs.below.size,c,?_,h1,h2,fun i j e d he hd=>?_⟩
   ·rw [rowAt,jr w _];simp [Bn,hmt]
   ·obtain ⟨u,hu,hv⟩:=h3 i j e d he hd;exact ⟨u,hu,hv.mono g⟩
  ·rw [xd QD] at hx;obtain ⟨h6,h7⟩:=hs.heap b' bk x h' hx;exact ⟨h6,h7.mono g (hb.block x h7.lt)⟩
 ·rcases qU b' bk h with ⟨rfl,rfl⟩|⟨QD,h'⟩
  ·rw [vw] at hx;cases hx
  ·rw [xd QD] at hx;exact hs.sq b' bk h' hx
 ·rcases hinv b1 x h hx with ⟨rfl,rfl⟩|⟨n1,h4,h5⟩
  ·rcases hinv b2 _ h' mH with ⟨rfl,_⟩|⟨_,h6,h7⟩
   ·rfl
   ·have:=Av b2 _ h6 h7;omega
  ·rcases hinv b2 x h' mH with ⟨rfl,rfl⟩|⟨_,h6,h7⟩
   ·have:=Av b1 _ h4 h5;omega
   ·exact hs.inj b1 b2 x h4 h6 h5 h7
 ·rcases hinv b' x QC hx with ⟨_,e⟩|⟨_,h4,h5⟩
  ·have:=hs.rS x hO;omega
  ·exact hs.qp x b' hO h4 h5
theorem T8 {ρ:Operand→AV} {el:TypeId} {z:AV} {b:Nat} {blk0:jy} (EJ:H[b]?=some blk0) (wU:blk0.es=[]) (hz:qd P el=some z) (hc:ru z=true) (hmt:el<pj:=by decide):PL P H ρ (.alloc el) (.ptr b 1 0 0) (H.set b ⟨el,z.cells.length,[z]⟩):=by
 refine PL.ql fun w0 O ι a w hs hv o ho=>?_;obtain ⟨zv,hr,rfl⟩:=Fz (w:=w) hz;obtain ⟨h2,h3,_⟩:=(VR.cv w (OO O ι H) ι H zv).cells hc;have rH:∀(i j:Nat) (e d:AV),[cv zv][i]?=some e→e.cells[j]?=some d→∃u,zv.cells[i*(cv zv).cells.length+j]?=some u∧VR w (OO O ι H) ι H d u:=by
  intro i j e d he hd;cases i with
  | zero =>
    simp at he;subst he;have hj:j<zv.cells.size:=de;exact ⟨_,cf,h3 j d _ hd (dM hj)⟩
  | succ i=>simp at he
 obtain ⟨h4,h5⟩:=hs.fill EJ wU ⟨el,(cv zv).cells.length,[cv zv]⟩ ah zv.cells hmt (by simp [h2]) ah rH;have lR:b<H.length:=(dt EJ).1;refine ⟨.pointer (some ⟨w.heap.size,0,none⟩),_,_,_,?_,.inl rfl,h4,h5,?_⟩
 ·simp only [execOp,ho,Instr.alloc,newVar,newRow,hr,dR,jo,gr,dV,dN]
 ·have:=VR.ptr (w:=w.alloc (.cells zv.cells el)) (O:=OO O (rU ι b w.heap.size) (H.set b ⟨el,(cv zv).cells.length,[cv zv]⟩)) (ι:=rU ι b w.heap.size) (H:=H.set b ⟨el,(cv zv).cells.length,[cv zv]⟩)
   b 1 0 0 ⟨el,(cv zv).cells.length,[cv zv]⟩ w.heap.size (by simp [lR]) rfl (vw _ _ _) ⟨_,_,_,jr w _⟩
  simpa using this
end
section
variable {P:Program} {n:Fr} {Q:Exit→ku→Prop} {s:ku}
def H8 (P:Program) (n:Fr) (c:Code) (Q:Exit→ku→Prop) (s:ku):Prop:=
 ∀(w0:nd) (O:Nat→Prop) (ι:Nat→Option Nat) (a:Act) (w:World),SR n w0 O s ι a w→∀(b:Frame) (k:List Item) (cs:List Frame),
  ∃e a' w',HT w0 O n Q e a' w'∧Arrives P (lone (b.at a (.code c::.inLoop c::k)) cs w) b k cs e a' w'
theorem H8.Eg {c:Code} (h:jG P n c (xY (H8 P n c Q) Q) s):H8 P n c Q s:=by
 intro w0 O ι a w hs b k cs;obtain ⟨e,a1,w1,⟨s',jU,hq,ma⟩,qt⟩:=h w0 O ι a w hs b (.inLoop c::k) cs;cases e with
 | normal =>
   obtain ⟨e2,a2,w2,AO,JV⟩:=hq w0 O jU a1 w1 ma b k cs;exact ⟨e2,a2,w2,AO,.of_steps (Steps.trans qt (.one step_inLoop)) JV⟩
 | exit id=>exact ⟨_,a1,w1,⟨s',jU,hq,ma⟩,.pass (x:=.inLoop c) rfl (fun _ _=>.inl ah) qt⟩
 | goto l=>exact ⟨_,a1,w1,⟨s',jU,hq,ma⟩,.pass (x:=.inLoop c) rfl (fun _ _=>.inl ah) qt⟩
 | ret=>exact ⟨_,a1,w1,⟨s',jU,hq,ma⟩,.pass (x:=.inLoop c) rfl (fun _ _=>.inl ah) qt⟩
 | panic ch=>exact ⟨_,a1,w1,⟨s',jU,hq,ma⟩,.pass (x:=.inLoop c) rfl (fun _ _=>.inl ah) qt⟩
 | outgrown=>exact ⟨_,a1,w1,⟨s',jU,hq,ma⟩,.pass (x:=.inLoop c) rfl (fun _ _=>.inl ah) qt⟩
theorem jG.Eg {c:Code} (h:jG P n c (xY (H8 P n c Q) Q) s):jG P n (.loop c) Q s:=by
 intro w0 O ι a w hs b k cs;obtain ⟨e,a',w',hq,qt⟩:=H8.Eg h w0 O ι a w hs b k cs;exact ⟨e,a',w',hq,.of_steps (.one step_loop) qt⟩
end
section
variable {P:Program} {H:List jy} {ρ:Operand→AV}
end
section
variable {P:Program} {H:List jy} {ρ:Operand→AV}
end
def yi:List AV→List AV→Prop
 | [],[]=>True
 | a::l,b::m=>Le a b∧yi l m
 | _,_=>False
theorem yi.len:∀ {l m:List AV},yi l m→l.length=m.length
 | [],[],_=>rfl
 | _::l,_::m,h=>jj (·+1) (yi.len h.2)
theorem yi.get:∀ {l m:List AV},yi l m→∀(j:Nat) (a b:AV),l[j]?=some a→m[j]?=some b→Le a b
 | a::l,b::m,h,0,x,y,hx,hy=>by
   injection hx with hx;injection hy with hy;subst hx;subst hy;exact h.1
 | a::l,b::m,h,j+1,x,y,hx,hy=>yi.get h.2 j x y hx hy
theorem yi.at {l m:List AV} (h:yi l m) {j:Nat} {b:AV} (hb:m[j]?=some b):∃a,l[j]?=some a∧Le a b:=by
 have hj:j<l.length:=by rw [h.len];exact (dt hb).1
 exact ⟨_,dy hj,h.get j _ b (dy hj) hb⟩
theorem Le.nil:Le (.base (.slice none 0 0)) (.jA []):=fun w O ι H u hu=>by cases hu;exact .sn
theorem Le.QE {cs ds:List AV} (h:yi cs ds):Le (.agg cs) (.agg ds):=fun w O ι H u hu=>by
 cases hu with
 | agg cs arr hlen hh =>
   refine .agg ds arr (by rw [hlen,h.len]) fun j c u hc hu=>?_;obtain ⟨a,ha,hl⟩:=h.at hc;exact hl _ _ _ _ _ (hh j a u ha hu)
theorem Le.atF {e d:AV} (h:yi e.cells d.cells):Le (.jA [e]) (.jA [d]):=fun w O ι H u hu=>by
 cases hu with
 | jA es a n cap s val hn nQ so hlen ry hc hv =>
   refine .jA [d] a n cap s val hn nQ so (fun x hx=>?_) (fun x hx=>ry e (dz.2 rfl)) (fun i j x c hx lC=>?_) (fun i j x c hx lC=>?_)
   ·rw [dz] at hx;subst hx;rw [← h.len];exact hlen e (dz.2 rfl)
   ·cases i with
    | zero =>
      injection hx with hx;subst hx;obtain ⟨y,hy,_⟩:=h.at lC;exact hc 0 j e y rfl hy
    | succ i=>cases hx
   ·cases i with
    | zero =>
      injection hx with hx;subst hx;obtain ⟨y,hy,hl⟩:=h.at lC;exact hl _ _ _ _ _ (hv 0 j e y rfl hy)
    | succ i=>cases hx
theorem qY.le {P:Program} {m:List (Nat×Obj)} {f:FuncId} {args WV:List AV} {d:AV} (h:qY P m f args d) (hl:yi WV args):qY P m f WV d:=
 ⟨h.1,fun w O vs h1 h2 h3 h4=>h.2 w O vs h1 h2 (h3.trans hl.len) fun j a u ha hu=>by
  obtain ⟨b,hb,hle⟩:=hl.at ha;exact hle _ _ _ _ _ (h4 j b u hb hu)⟩
section
variable {P:Program} {n:Fr} {s:ku}
def noG (Q:Exit→ku→Prop):Exit→ku→Prop
 | .goto _,_=>False
 | e,s=>Q e s
theorem jG.scope {c:Code} {Q:Exit→ku→Prop} (h:jG P n c (noG Q) s):jG P n (.scope c) Q s:=fun w0 O ι a w hs=>by
 refine wp_scope_straight (jh (h w0 O ι a w hs) ?_);rintro e a w ⟨s',jU,h1,h2⟩;cases e with
 | goto l=>exact h1.elim
 | _=>exact ⟨s',jU,h1,h2⟩
theorem jG.label {l:Nat} {Q:Exit→ku→Prop} (h:Q .normal s):jG P n (.label l) Q s:=fun w0 O ι a w hs=>wp_label ⟨s,ι,h,hs⟩
end
section
variable {P:Program} {n:Fr} {HS:Nat→List jy} {o:lx} {l:List lx} {sl:List (Option Nat)} {bl:List Nat} {E:Env} {v:AV} {K:Env→Prop}
end
section
variable {P:Program} {H:List jy} {ρ:Operand→AV}
theorem OD {t el:TypeId} {x:Operand} {lo hi:Option Operand} {b tot off len l h:Nat} {blk:jy} (hx:ρ x=.own b tot off len) (ht:P.underlying t=some (.slice el)) (hb:H[b]?=some blk) (zE:blk.es.length=tot)
 (qZ:vp ρ 0 lo=some l) (uU:vp ρ len hi=some h) (It:l≤h) (hh:h≤len) (kA:lW P el=some blk.sz):QL P H ρ (.slice t x lo hi none) (.own b tot (off+l) (h-l)):=by
 refine QL.ql fun w0 O ι a w hs hv o ho=>?_;have h1:=hv x au;have oM:∀y,(lo=some y∨hi=some y)→VR w (OO O ι H) ι H (ρ y) (a.eval y):=by
  rintro y (rfl|rfl)<;>exact hv y au
 rw [hx] at h1;generalize hX:a.eval x=X at h1;cases h1 with
 | uq b tot off len kH ad n c ka kn=>rw [hb] at ka;cases ka;omega
 | tI b kH ka he oX =>
   have hr:=LP (P:=P) (cap:=0) (isSl:=true) oM qZ uU It ae;have:l=0:=ae;have:h=0:=ae;subst l;subst h;refine ⟨.slice none 0 0,?_,.tI b kH ka he oX⟩;simp only [execOp,ho,hX,Instr.sliceAt,jg ht,Instr.slice,fR,hr,Am kA,dR,dV,dN,jb,iq]
 | own b tot off len kH y n cap ad ka nk oX hn hl nQ ha =>
   have BO:=ka;rw [hb] at BO;cases BO;subst hn;have hr:=LP (P:=P) (cap:=cap) (isSl:=true) oM qZ uU It ae;by_cases lK:cap=l
   ·refine ⟨.slice (some ad) (h-l) (cap-l),?_,?_⟩
    ·simp only [execOp,ho,hX,Instr.sliceAt,jg ht,Instr.slice,fR,hr,Am kA,dR,dV,dN,ja lK]
    ·refine .own b tot (off+l) (h-l) blk y _ _ _ ka nk oX rfl ae ae fun hc=>?_;obtain ⟨h2,h3,h4⟩:=ha (.inr ae);have e1:l=0:=ae;have e2:off=0:=ae;subst e1;subst e2;exact ⟨by simpa using h2,ae,by simpa using h4⟩
   ·refine ⟨.slice (some (ad.add (l*blk.sz))) (h-l) (cap-l),?_,?_⟩
    ·simp only [execOp,ho,hX,Instr.sliceAt,jg ht,Instr.slice,fR,hr,Am kA,dR,dV,dN,iZ lK,eJ]
    ·refine .own b tot (off+l) (h-l) blk y _ _ _ ka nk oX rfl ae ae fun hc=>?_;obtain ⟨h2,h3,c,ty,fz,h4,h5⟩:=ha (.inl ae);subst h2;refine ⟨?_,ae,c,ty,fz,h4,by rw [← h5];congr 1;omega⟩;rw [add_eq _ _ rfl,fK]
end
def hp (N:Nat) (f:Nat→jy):List jy:=(List.range N).map f
section
variable {N:Nat} {f:Nat→jy}
@[simp] theorem Wn:(hp N f).length=N:=by simp [hp]
theorem PS {i:Nat} (h:i<N):(hp N f)[i]?=some (f i):=by simp [hp,h]
theorem Wo {L:List jy} (hl:L.length=N) (h:∀i,i<N→L[i]?=some (f i)):L=hp N f:=by
 refine fG fun i=>?_;by_cases hi:i<N
 ·rw [h i hi,PS hi]
 ·rw [dT ae,dT aj]
end
def mR (S:Nat→Prop) (a:AV):Prop:=Pu a∨(∃b tot i off,a=.ptr b tot i off∧S b)∨(∃b tot off len,a=.own b tot off len∧S b)∨(∃b,a=.n5 b∧S b)
def kI (S:Nat→Prop) (blk:jy):Prop:=∀e∈blk.es,∀c∈e.cells,mR S c
theorem mR.pu {S:Nat→Prop} {a:AV} (h:Pu a):mR S a:=.inl h
theorem mR.ptr {S:Nat→Prop} {b tot i off:Nat} (h:S b):mR S (.ptr b tot i off):=.inr (.inl ⟨b,tot,i,off,rfl,h⟩)
theorem mR.own {S:Nat→Prop} {b tot off len:Nat} (h:S b):mR S (.own b tot off len):=.inr (.inr (.inl ⟨b,tot,off,len,rfl,h⟩))
theorem mR.n5 {S:Nat→Prop} {b:Nat} (h:S b):mR S (.n5 b):=.inr (.inr (.inr ⟨b,rfl,h⟩))
theorem mR.mono {S S':Nat→Prop} {a:AV} (h:mR S a) (hs:∀b,S b→S' b):mR S' a:=by
 rcases h with h|⟨b,tot,i,off,rfl,h⟩|⟨b,tot,off,len,rfl,h⟩|⟨b,rfl,h⟩
 ·exact .pu h
 ·exact .ptr (hs b h)
 ·exact .own (hs b h)
 ·exact .n5 (hs b h)
theorem kI.mono {S S':Nat→Prop} {b:jy} (h:kI S b) (hs:∀b,S b→S' b):kI S' b:=fun e he c hc=>(h e he c hc).mono hs
theorem mR.mv {S:Nat→Prop} {r:Nat→Option Nat} {H:List jy} {a:AV} (h:mR S a) (hr:∀b,S b→r b=some b):mI r H a a:=by
 rcases h with h|⟨b,tot,i,off,rfl,h⟩|⟨b,tot,off,len,rfl,h⟩|⟨b,rfl,h⟩
 ·exact .pu h
 ·exact .ptr (hr b h)
 ·exact .own (hr b h)
 ·exact .n5 (hr b h)
theorem mR.tB {S:Nat→Prop} {r:Nat→Option Nat} {H:List jy} {a:AV} (h:mR S a) (hr:∀b,S b→r b=some b):mL r H a a:=by
 rcases h with h|⟨b,tot,i,off,rfl,h⟩|⟨b,tot,off,len,rfl,h⟩|⟨b,rfl,h⟩
 ·exact .pu h
 ·exact .ptr (hr b h)
 ·exact .own (hr b h)
 ·exact .n5 (hr b h)
theorem kI.mv {S:Nat→Prop} {r:Nat→Option Nat} {H:List jy} {b:jy} (h:kI S b) (hr:∀b,S b→r b=some b):xZ r H b b:=
 ⟨rfl,rfl,rfl,fun i e e2 h1 h2=>by
  rw [h1] at h2;injection h2 with h2;subst h2;exact ⟨rfl,fun k c c2 h3 h4=>by
   rw [h3] at h4;injection h4 with h4;subst h4;exact (h e (dx h1) c (dx h3)).mv hr⟩⟩
def vr (q p:Nat) (b:Nat):Option Nat:=if b=q then some p else if b=p then none else some b
theorem BR.uu {w:World} {O O':Nat→Prop} {ι:Nat→Option Nat} {H:List jy} {b:jy} {x:Nat} (h:BR w O ι H b x) (hO:∀y,O' y→O y):BR w O' ι H b x:=by
 obtain ⟨c,h1,h2,h3,h4⟩:=h;exact ⟨c,h1,h2,h3,fun i j e d he hd=>by obtain ⟨u,hu,hv⟩:=h4 i j e d he hd;exact ⟨u,hu,hv.uu hO⟩⟩
theorem Wk.pad {n:Fr} {E:Env} (hE:∀p∈E,Le (lk E p.1) p.2) {H:List jy}:∀(T:List jy),(∀b∈T,b.es=[])→Wk n ⟨E,H⟩ ⟨E,H++T⟩
 | [],_=>by rw [fC];exact fun w0 O ι a w hs=>⟨ι,hs⟩
 | ⟨ty,sz,es⟩::T,h=>fun w0 O ι a w hs=>by
   obtain rfl:es=[]:=h ⟨ty,sz,es⟩ ah;obtain ⟨ι1,h1⟩:=Wk.nil (n:=n) (E:=E) (E2:=E) (H:=H) ty sz (fun p hp=>.inl (hE p hp)) w0 O ι a w hs;obtain ⟨jO,h2⟩:=Wk.pad (n:=n) (E:=E) hE (H:=H++[⟨ty,sz,[]⟩]) T (fun b hb=>h b (by simp [hb])) w0 O ι1 a w h1;rw [eA] at h2;exact ⟨jO,h2⟩
theorem OV {n b:Nat}:ro (List.range n) b=if b<n then some b else none:=by
 unfold ro;split
 ·rename_i h;rw [fa];exact ⟨cb,ah,fun j hj=>aj⟩
 ·rename_i h;rw [fc];intro x hx;have:=eU.1 hx;simp;omega
theorem Cj {N m j:Nat} (h:j<N):rb (List.range N) m j=some j:=by
 unfold rb;rw [fm,ja h,eV h]
theorem tf.pre {N:Nat} {H H' T:List jy} (hl:H.length=N) (qz:H'.length=N) (hi:∀b∈H,kI (·<N) b) (ho:∀b∈H',kI (·<N) b):tf (List.range N) (H++T) H H' (H'++T):=
 ⟨List.nodup_range,by rw [fm,hl],fun j b hj=>by
  obtain ⟨h1,h2⟩:=dt hj;rw [fm] at h1;rw [List.getElem_range] at h2;subst h2;have pP:j<H.length:=ae;exact ⟨H[j],H[j],cm,dy pP,(hi _ (ey _)).mv fun b hb=>bo⟩,
 by omega,aj,fun b hb hn=>by
  have nV:¬b<N:=fun h=>hn (eU.2 h);rw [dJ ae,dJ ae,hl,qz],fun j c bk hr hb=>by
  have hj:=(dt hb).1;rw [Cj ae] at hr;injection hr with hr;subst hr;exact ⟨bk,by rw [dA hj];exact hb,(ho _ (dx hb)).mv fun b hb=>Cj hb⟩⟩
section
variable {P:Program} {H:List jy}
theorem adI {w:World} {t ty el:TypeId} {bytes:Nat} (ht:P.underlying t=some (.slice el)) (mQ:tD P el 1 bytes=true) {z len cap c2:Nat} {a2:Addr} {u:Value}
 (hc:(w.cell? ⟨z,len,none⟩).isSome=true) (hf:w.frozen? ⟨z,len,none⟩=false) (hu:u.oneCell'=true) (hl:w.cell? a2=some u) (jW:a2.spot=none) (kn:len+1≤cap) :
 (Builtin.append_ #[t,t] ty #[.slice (some ⟨z,0,none⟩) len cap,.slice (some a2) 1 c2]).run P w=.ok (.slice (some ⟨z,0,none⟩) (len+1) cap) (w.setCells z len [u]):=by
 obtain ⟨i0,zz,h1,h2,h3,h4,h5,h6,_⟩:=An mQ;have BM:(load a2).run P w=.ok u w:=by
  obtain ⟨b,o,s⟩:=a2;simp only at jW;subst jW;simp [hl]
 have jP:=run_storeCells_cells (P:=P) z len [u] 0 w (fun j hj=>by simp at hj;subst hj;exact hc) (fun j hj=>by simp at hj;subst hj;exact hf) (fun v hv=>by simp at hv;subst hv;exact hu);have CL:((⟨z,0,none⟩:Addr).add len)=⟨z,len,none⟩:=by unfold Addr.add;split<;>simp_all
 have apT:(a2.add 0)=a2:=by
  obtain ⟨b,o,s⟩:=a2;simp only at jW;subst jW;unfold Addr.add;split<;>simp_all
 simp only [fq] at jP;simp [Builtin.append_,jg ht,sizeOf,typeInfo,h1,h3,Builtin.lenOf,Builtin.firstCells,loadCells,loadCellsFrom,apT,BM,kn,CL,jP]
theorem TX {ρ:Operand→AV} {s x:Operand} {t el:TypeId} {b tot len bytes:Nat} {blk:jy} {v:AV} (xE:ρ s=.own b tot 0 len) (hx:ρ x=.jA [v]) (lI:v.cells=[v]) (og:ru v=true) (hb:H[b]?=some blk) (zE:blk.es.length=tot)
 (kn:len<tot) (j6:blk.sz=1) (ht:P.underlying t=some (.slice el)) (mQ:tD P el 1 bytes=true) (hmt:blk.ty<pj:=by decide) :
 PL P H ρ (.call { callee:=.builtin .append,args:=#[s,x],argTypes:=#[t,t] }) (.own b tot 0 (len+1)) (H.set b { blk with es:=blk.es.set len v }):=by
 refine PL.ql fun w0 O ι a w hs hv o ho=>?_;have h1:=hv s;rw [xE] at h1;have h2:=hv x;rw [hx] at h2;generalize wq:a.eval s=X1 at h1;generalize zP:a.eval x=X2 at h2;cases h1 with
 | uq b tot off len kH a n c ka F4=>rw [hb] at ka;cases ka;omega
 | tI b kH ka he hi=>omega
 | own b tot off len kH z n cap ad ka nk hi hn hl nQ ha =>
 rw [hb] at ka;cases ka;subst hn;obtain ⟨rfl,wS,c,ty,fz,rV,rT⟩:=ha (.inr rfl);rw [gj] at *;rw [j6,ia,ft] at rT;obtain ⟨RP,c0,l5,lK,wJ,Aw⟩:=hs.heap b blk z hb hi;have ya:=Jo l5 ⟨c,ty,fz,rV⟩ hmt;rw [rV] at ya;injection ya with ya;injection ya with e1 e2 e3;subst e1;subst e2;subst e3;rw [j6,ia] at lK;cases h2 with
 | jA es a2 m H9 sz val hm Qg so hlen ry pO qy =>
 simp only [dO] at hm;subst hm;have QF:sz=1:=by have:=hlen v ah;rw [lI] at this;simpa using this.symm
 subst QF;have rB:=ry v ah;have rH:=(pO 0 0 v v rfl (by rw [lI];rfl)).2;have Ay:=qy 0 0 v v rfl (by rw [lI];rfl);have EK:w.cell? a2=some (val 0 0):=by
  rw [← rH];congr 1;obtain ⟨ab,ao,as⟩:=a2;simp only at rB;subst rB;simp
 have Ax:(val 0 0).oneCell'=true:=by
  refine (VR.one ?_ Ay).1;cases v with
  | agg cs =>
    simp only [AV.cells] at lI;have h9:SizeOf.sizeOf cs=SizeOf.sizeOf [AV.agg cs]:=jj (fun l:List AV=>SizeOf.sizeOf l) lI;simp at h9;omega
  | _=>simpa [ru] using og
 have Pq:(w.cell? ⟨z,n,none⟩).isSome=true:=by simp [World.cell?,rV];omega
 have ub:=adI (P:=P) (w:=w) (ty:=o.type) ht mQ (z:=z) (len:=n) (cap:=cap) (c2:=H9) (a2:=a2) Pq (by simp [World.frozen?,rV]) Ax EK rB ae;obtain ⟨c',lC,CM,mC⟩:=Jm z [val 0 0] n w c blk.ty (0,0) rV aj;obtain ⟨h9,uF⟩:=hs.set (blk2:={ blk with es:=blk.es.set n v }) hb hi rfl rfl ah (Jl z z (dD _) _ _ _) (fun k hk=>Jk z _ _ _ k hk) (Ci rV hmt) (Ci lC hmt) CM (fun c1 AM RQ h=>ba)
  (fun e1 wq=>by
    rcases eu wq with h|h
    ·exact wJ e1 h
    ·rw [h,lI,j6];rfl)
  (fun i1 j1 e1 d1 oB tQ=>by
    simp only at oB ⊢;rw [j6,ia];rw [eN] at oB;by_cases e:n=i1
    ·subst e;rw [ja rfl,ja ae] at oB;injection oB with oB;subst oB;rw [lI] at tQ;obtain ⟨rfl,rfl⟩:j1=0∧v=d1:=by
      cases j1 with
      | zero=>simp at tQ;exact ⟨rfl,tQ⟩
      | succ k=>simp at tQ
     rw [mC];exact ⟨val 0 0,ah,Ay⟩
    ·rw [iZ e] at oB;have BP:j1<1:=by rw [← j6,← wJ e1 (dx oB)];exact (dt tQ).1
     rw [mC,iZ aj];have:=Aw i1 j1 e1 d1 oB tQ;rwa [j6,ia] at this)
 refine ⟨_,_,ι,_,Hq (ρ:=ρ) ho (by rw [wq,zP];exact ub),.inl rfl,h9,uF,?_⟩;have nV:(H.set b { blk with es:=blk.es.set n v })[b]?=some { blk with es:=blk.es.set n v }:=by
  rw [ee (dt hb).1]
 exact .own b tot 0 (n+1) _ z (n+1) cap ⟨z,0,none⟩ nV (by simpa using nk) hi rfl ae ae fun _=>⟨ah,wS,c',_,_,lC,by simp [j6,CM,rT]⟩
theorem lu {ρ:Operand→AV} {t el:TypeId} {x i:Operand} {k:IntKind} {n b tot len:Nat} {blk:jy} (hx:ρ x=.own b tot 0 len) (hi:ρ i=.base (.int k (n:Int))) (ht:P.underlying t=some (.slice el))
 (hb:H[b]?=some blk) (zE:blk.es.length=tot) (hn:n<len) (kA:lW P el=some blk.sz):QL P H ρ (.indexAddr t x i) (.ptr b tot n 0):=by
 have:=TM (P:=P) (H:=H) (ρ:=ρ) (t:=t) (x:=x) (i:=i) hx hi ht hb zE ae ae kA;rwa [ft,dF] at this
end
section
variable {P:Program} {H:List jy}
theorem aeM {ρ:Operand→AV} {s x:Operand} {t el:TypeId} {b tot size bytes:Nat} {blk:jy} {es:List AV} {av:AV} (xE:ρ s=.own b tot 0 tot) (hx:ρ x=av) (hle:rP H av (.jA es)) (hba:∀e∈es,∃v,e=.base v) (hb:H[b]?=some blk) (zE:blk.es.length=tot)
 (ht:P.underlying t=some (.slice el)) (mQ:tD P el size bytes=true) (RU:blk.ty=el) (yO:blk.sz=size) (hm:1≤es.length) (rC:∀e∈es,e.cells.length=size∧ru e=true) (AQ:(tot+es.length)*bytes≤140737488355328) (Nq:tot+es.length≤140737488355328) :
 PL P H ρ (.call { callee:=.builtin .append,args:=#[s,x],argTypes:=#[t,t] }) (.own b (tot+es.length) 0 (tot+es.length)) (H.set b { blk with es:=blk.es++es }):=by
 refine PL.ql fun w0 O ι a w hs hv o ho=>?_;subst RU;subst yO;have h1:=hv s;rw [xE] at h1;have h2:=hv x;rw [hx] at h2;have h2:=hle _ _ _ _ _ hs h2;obtain ⟨tN,hmt⟩:0<blk.sz∧blk.ty<pj:=by obtain ⟨_,_,_,_,_,_,_,h⟩:=An mQ;exact h
 obtain ⟨xs,k1,k2,k3,_⟩:=Pr hs hb zE h1 tN hmt;obtain ⟨v',w',news,r1,r2,r3,r4,r5,r6,r7⟩:=OH (P:=P) (ty:=o.type) ht mQ k1 (dL _) h2 hm rC AQ (by simp only [maxLen];omega);have hold:∀e∈blk.es,e.cells.length=blk.sz:=by
  intro e he;cases hi:ι b with
  | none=>rw [hs.sq b blk hb hi] at he;simp at he
  | some y=>obtain ⟨_,_,_,_,h,_⟩:=hs.heap b blk y hb hi;exact h e he
 obtain ⟨jU,g1,g2,g3⟩:=hs.grow (m:=0) hb zE hmt hm (fun e he=>(rC e he).1) k2 k1.1 k3 (fun i j e d he hd=>by
  obtain ⟨u,hu,uE⟩:=r7 i j e d he hd;obtain ⟨v,rfl⟩:=hba e (dx he);have kb:d=.base v:=by
   cases j with
   | zero=>simp [AV.cells] at hd;exact hd.symm
   | succ k=>simp [AV.cells] at hd
  subst kb;exact ⟨u,hu,by rw [uE.nO];exact .base _⟩) hold r2 r3 r4
 exact ⟨v',w',jU,_,Hq (ρ:=ρ) ho r1,.inl rfl,g1,g2,g3⟩
theorem adO {ρ:Operand→AV} {t el yt:TypeId} {x y:Operand} {b tot off len:Nat} {blk:jy} (hx:ρ x=.own b tot off len) (hb:H[b]?=some blk) (zE:blk.es.length=tot) (lO:0<tot) (hy:ρ y=.base (.slice none 0 0)) (ht:P.underlying t=some (.slice el)):QL P H ρ (.binOp .eql t x y yt) (.bool false):=by
 refine QL.ql fun w0 O ι A w hs hv o ho=>?_;have h1:=hv x au;have h2:=hv y au;rw [hx] at h1;rw [hy] at h2;have h2:=h2.nO;have he:∀a l c,(Op.equal t (.slice a l c) (.slice none 0 0)).run P w=.ok a.isNone w:=fun a l c=>run_equal_slice_nil w t el a l c ht;generalize hX:A.eval x=X at h1;cases h1 with
 | uq b tot off len kH a n c ka kn=>rw [hb] at ka;cases ka;omega
 | tI b kH ka vL hi=>rw [hb] at ka;cases ka;omega
 | own b tot off len kH z n cap ad ka nk hi hn hl nQ ha=>exact ⟨.bool false,adL ho hX h2 (he (some ad) n cap),.base _⟩
theorem Pa {ρ:Operand→AV} {x y:Operand} {t t2 el:TypeId} {b n ty bytes:Nat} {k:IntKind} {d l:List Int} {av:AV} (hx:ρ x=.own b n 0 n) (hb:H[b]?=some ⟨ty,1,d.map fun v=>.base (.int k v)⟩) (hn:d.length=n) (hy:ρ y=av) (hle:rP H av (.jA (l.map fun v=>.base (.int k v)))) (EM:l.length≤d.length)
 (ht:P.underlying t=some (.slice el)) (mQ:tD P el 1 bytes=true) (hmt:ty<pj:=by decide) :
 PL P H ρ (.call { callee:=.builtin .copy,args:=#[x,y],argTypes:=#[t,t2] }) (.int l.length) (H.set b ⟨ty,1,(l++d.drop l.length).map fun v=>.base (.int k v)⟩):=by
 refine PL.ql fun w0 O ι a w hs hv o ho=>?_;have h1:=hv x;rw [hx] at h1;have h2:=hv y;rw [hy] at h2;have h2:=hle _ _ _ _ _ hs h2;obtain ⟨i0,zz,e1,e2,e3,e4,e5,e6,_⟩:=An mQ;have kA:(P.info? el).map (·.size)=some 1:=by simp [e1,e3]
 have D4:∀(v':Value) (w':World),(Builtin.copy_ #[t,t2] o.type #[a.eval x,a.eval y]).run P w=.ok v' w'→(execOp a.eval o).run P w=.ok (.value v') w':=fun v' w' hr=>by
  simp only [execOp,ho,resolve,invoke,builtin,dR,dV,dN,gz,ef,ez,hr]
 generalize wq:a.eval x=X1 at h1 D4;generalize zP:a.eval y=X2 at h2 D4;have lR:b<H.length:=(dt hb).1;have yz:l=[]→H.set b ⟨ty,1,(l++d.drop l.length).map fun v=>.base (.int k v)⟩=H:=fun e=>by
  subst e;simp only [gR,List.drop_zero,gY];rw [dy lR] at hb;injection hb with hb;rw [← hb];exact gh lR
 have HU:l=[]→∀(d' a':Option Addr) (n' c' m' q':Nat),X1=.slice d' n' c'→X2=.slice a' m' q'→m'=0→∃u w' jU nx,(execOp a.eval o).run P w=.ok nx w'∧(nx=.value u∨(nx=.skip∧u=undef))∧lA w0 O jU (H.set b ⟨ty,1,(l++d.drop l.length).map fun v=>.base (.int k v)⟩) w'∧mj w (OO O ι H) ι H w' (OO O jU (H.set b ⟨ty,1,(l++d.drop l.length).map fun v=>.base (.int k v)⟩)) jU (H.set b ⟨ty,1,(l++d.drop l.length).map fun v=>.base (.int k v)⟩)∧VR w' (OO O jU (H.set b ⟨ty,1,(l++d.drop l.length).map fun v=>.base (.int k v)⟩)) jU (H.set b ⟨ty,1,(l++d.drop l.length).map fun v=>.base (.int k v)⟩) (.int l.length) u:=by
  intro wx d' a' n' c' m' q' R2 Da em;subst R2;subst Da;subst em;rw [yz wx];have hr:=run_copy_none (P:=P) w t t2 o.type el d' a' n' c' 0 q' ht kA ah;refine ⟨_,w,ι,_,D4 _ _ hr,.inl rfl,hs,mj.quiet hs (Below.refl _ _),?_⟩;subst wx;exact .base _
 cases h1 with
 | uq b tot off len kH ad m c ka kn=>rw [hb] at ka;cases ka;simp at kn;omega
 | tI b kH ka vL hi =>
   have wx:l=[]:=dQ ae;subst wx;cases h2 with
   | sn=>exact HU rfl _ _ _ _ _ _ rfl rfl rfl
   | jA es a2 m H9 sz val hm Qg so hlen ry pO qy=>exact HU rfl _ _ _ _ _ _ rfl rfl (by simpa using hm)
 | own b tot off len kH z m cap ad ka nk hi hm hl nQ ha =>
 rw [hb] at ka;cases ka;simp only [eo] at nk;subst hm;obtain ⟨rfl,wS,c,wo,fz,rV,rT⟩:=ha (.inr rfl);simp only [gj,ft,ia] at rT ⊢;obtain ⟨RP,c0,l5,lK,wJ,Aw⟩:=hs.heap b _ z hb hi;simp only [eo,ia] at lK Aw wJ;have ya:=Jo l5 ⟨c,wo,fz,rV⟩ hmt;rw [rV] at ya;injection ya with ya;injection ya with f1 f2 f3;subst f1;subst f2;subst f3;generalize hA:(l.map fun v=>AV.base (.int k v))=A at h2;cases h2 with
 | sn=>exact HU (by simpa using hA) _ _ _ _ _ _ rfl rfl rfl
 | jA es a2 m2 H9 sz val GI Qg so hlen ry pO qy =>
 rcases gZ l.length with wx|Nt
 ·exact HU (dQ wx) _ _ _ _ _ _ rfl rfl (by rw [GI,← hA,eo];exact wx)
 subst hA;simp only [eo] at GI;have pq:∀i v,l[i]?=some v→w.cell? (a2.add i)=some (.int k v):=fun i v oX=>by
  have he:(l.map fun v=>AV.base (.int k v))[i]?=some (.base (.int k v)):=by rw [dE,oX];rfl
  have j6:sz=1:=by have:=hlen _ (dx he);simpa [AV.cells] using this.symm
  have rB:=ry _ (dx he);have h5:=(pO i 0 _ _ he rfl).2;have h6:=(qy i 0 _ _ he rfl).nO;rw [h6,j6,ia,fq] at h5;rw [← h5];congr 1;exact add_eq _ _ rB
 have ub:=run_copy_cells (P:=P) w t t2 o.type el z 0 m cap a2 m2 H9 (l.map (Value.int k)) ht kA (by rw [eo,GI];exact (Nat.min_eq_left ae).symm) (fun j v hj=>by
  rw [dE,eL] at hj;obtain ⟨u,hu,rfl⟩:=hj;exact pq j u hu) (fun j hj=>by simp at hj;simp [World.cell?,rV];omega) (fun j hj=>by simp [World.frozen?,rV]) (fun v hv=>by obtain ⟨u,_,rfl⟩:=eI.1 hv;rfl)
 obtain ⟨c',lC,CM,mC⟩:=Jm z (l.map (Value.int k)) 0 w c wo (0,0) rV aj;obtain ⟨h9,uF⟩:=hs.set (blk2:=⟨wo,1,(l++d.drop l.length).map fun v=>.base (.int k v)⟩) hb hi rfl rfl aj (Jl z z (dD _) _ _ _) (fun k hk=>Jk z _ _ _ k hk) (Ci rV hmt) (Ci lC hmt) CM (fun c1 AM RQ h=>ba)
  (fun e1 wq=>by obtain ⟨v,_,rfl⟩:=eI.1 wq;rfl)
  (fun i1 j1 e1 d1 oB tQ=>by
    simp only at oB ⊢;rw [dE,eL] at oB;obtain ⟨v,lI,rfl⟩:=oB;have BP:j1=0:=by
     cases j1 with
     | zero=>rfl
     | succ q=>simp [AV.cells] at tQ
    subst BP;simp [AV.cells] at tQ;subst tQ;rw [ia,fq,mC];by_cases kn:i1<l.length
    ·rw [dA kn] at lI;refine ⟨.int k v,?_,.base _⟩;rw [ja (by simp;exact kn)];simp [lI]
    ·rw [dJ ae,fU,show l.length+(i1-l.length)=i1 by omega] at lI;rw [iZ aj];have:=Aw i1 0 (.base (.int k v)) (.base (.int k v)) (by rw [dE,lI];rfl) rfl;simpa using this)
 refine ⟨_,_,ι,_,D4 _ _ ub,.inl rfl,h9,uF,?_⟩;rw [eo];exact .base _
end
section
variable {p q:Prop}
theorem Iw (h:q) (k:Hid q→p:=by intro xn;(repeat (first|(with_reducible first|apply zs|apply zN|apply z1|apply z2|apply z3|apply z4|apply z5|apply z6|refine z7 rfl ?_|apply zb|apply zk|apply zr|apply ze|apply y1|apply y2|apply y3|apply y4)|((with_reducible apply zR);(refine ⟨rfl,rfl,?_⟩;simp +decide only [go_sem, *,List.map];rfl))|((with_reducible apply zG);(simp +decide only [go_sem, *];rfl);(simp +decide only [go_sem, *];(repeat simp +decide only [go_sem, *]);rfl))|(refine zp rfl rfl (xW aD rfl) ?_)|(refine zp rfl rfl (wD aI rfl) ?_)|(refine zp rfl rfl (qP aD aD aD bU bU ag bU bU) ?_)));exact xn.out):p:=k ⟨h⟩
theorem jw (h:q) (k:Hid q→p:=by intro xn;(repeat (first|(with_reducible first|apply zs|apply zN|apply z1|apply z2|apply z3|apply z4|apply z5|apply z6|refine z7 rfl ?_|apply zb|apply zk|apply zr|apply ze|apply y1|apply y2|apply y3|apply y4)|((with_reducible apply zR);(refine ⟨rfl,rfl,?_⟩;simp +decide only [go_sem, *,List.map];rfl))|((with_reducible apply zG);(simp +decide only [go_sem, *];rfl);(simp +decide only [go_sem, *];(repeat simp +decide only [go_sem, *]);rfl))|(refine zp rfl rfl (xW aD rfl) ?_)|(refine zp rfl rfl (wD aI rfl) ?_)|(refine zp rfl rfl (qP aD aD aD bU bU ag bU bU) ?_)|(refine zq rfl rfl (qi rfl rfl aI aN ag) ?_)|(refine zq rfl rfl (qo rfl rfl aI rfl aN bn) ?_)|(refine zq rfl rfl (qw 0 _ rfl rfl bz aN bn) ?_)|(refine zq rfl rfl (qb aI aI az ag aO aO bU) ?_)|(refine zq rfl rfl (qn rfl rfl) ?_)|(refine zq rfl rfl (qx rfl rfl) ?_)));exact xn.out):p:=k ⟨h⟩
end
section
variable {P:Program} {n:Fr} {HS:Nat→List jy} {o:lx} {l:List lx} {sl:List (Option Nat)} {E:Env} {v:AV} {K:Env→Prop}
theorem gS (hr:ko P n HS 1 l sl K (mF E o.dst v)) (hg:o.g=none:=by rfl) (hd:mB n o.dst=true:=by rfl) (h0:qe P (HS 0) (ev E) o.op=some v:=by (simp +decide only [go_sem, *]<;>rfl)) (h1:qe P (HS 1) (ev E) o.op=some v:=by (simp +decide only [go_sem, *]<;>rfl)):ko P n HS 1 (o::l) (none::sl) K E:=.RX hg hd h0 h1 hr
theorem qK {id k:Nat} {ops:Array Oper} {D:List (Option Tmp)} {l1 l2:List lx} {Q:Exit→ku→Prop} {s:ku} (sl:List (Option Nat)) (HS:Nat→List jy) (m:Nat) (hm:P.follows .mixedOrders=true) (h1:ko P n HS m l1 sl (fun E'=>jB P n false l2 (Q .normal) ⟨E',HS m⟩) s.env)
 (h:Bt ops k D l1 l2:=by (refine ⟨rfl,rfl,ag,az,?_,?_⟩;(simp +decide only [go_sem,List.map,List.take];rfl);(simp +decide only [go_sem,List.map,List.drop];rfl)))
 (hg:JN sl ops k m=true:=by kernel_rfl) (h0:HS 0=s.H:=by rfl):jG P n (.region id ops true) Q s:=.apR sl HS m hm h hg h0 h1
end
end Go.Ab
namespace Go.Ab
open Go
theorem lA.mv {w0:nd} {O:Nat→Prop} {ι:Nat→Option Nat} {w:World} {H1:List jy} {B B2 blk0:jy} {p:Nat} (hs:lA w0 O ι (H1++[B]) w) (hp:H1[p]?=some blk0) (wU:blk0.es=[]) (hm:∀b,b<w0.H.length→b<H1.length) (lO:B.es≠[])
 (hB:xZ (vr H1.length p) (H1++[B]) B B2) (hH:∀b blk,b≠p→H1[b]?=some blk→xZ (vr H1.length p) (H1++[B]) blk blk) :
 ∃jO,lA w0 O jO (H1.set p B2) w∧AS (vr H1.length p) ι jO (H1++[B]) (H1.set p B2)∧(∀x,OO O jO (H1.set p B2) x→OO O ι (H1++[B]) x)∧(∀b,b≠p→jO b=ι b):=by
 have nG:p<H1.length:=(dt hp).1;obtain ⟨r,hr⟩:∃r,r=vr H1.length p:=⟨_,rfl⟩
 rw [← hr] at hB hH ⊢;have rq:r H1.length=some p:=by rw [hr,vr,ja rfl]
 have rp:r p=none:=by rw [hr,vr,iZ ae,ja rfl]
 have ro':∀b,b≠p→b≠H1.length→r b=some b:=fun b h1 h2=>by rw [hr,vr,iZ h2,iZ h1]
 let jO:Nat→Option Nat:=fun b=>if b=p then ι H1.length else ι b
 have Nu:jO p=ι H1.length:=ja rfl;have Iz:∀b,b≠p→jO b=ι b:=fun b h=>iZ h;obtain ⟨H,EN⟩:∃H,H=H1++[B]:=⟨_,rfl⟩
 obtain ⟨H2,sG⟩:∃H2,H2=H1.set p B2:=⟨_,rfl⟩
 rw [← EN] at hs hB hH ⊢;have hlen:H.length=H1.length+1:=by rw [EN];simp
 have FR:H2.length=H1.length:=by rw [sG];simp
 have hq:H[H1.length]?=some B:=by rw [EN];simp
 have oA:∀b,b<H1.length→H[b]?=H1[b]?:=fun b h=>by rw [EN,dA h]
 have Nv:H2[p]?=some B2:=by rw [sG,ee nG]
 have KQ:∀b,b≠p→H2[b]?=H1[b]?:=fun b h=>by rw [sG,dS (fun e=>h e.symm)]
 have xo:AS r ι jO H H2:=fun b j blk wy hb=>by
  have lR:=(dt hb).1;by_cases e1:b=H1.length
  ·subst e1;rw [rq] at wy;injection wy with wy;subst wy;rw [hq] at hb;injection hb with hb;subst hb;exact ⟨B2,Nv,hB.2.2.1,hB.2.1,Nu⟩
  ·by_cases e2:b=p
   ·subst e2;rw [rp] at wy;cases wy
   ·rw [ro' b e2 e1] at wy;injection wy with wy;subst wy;exact ⟨blk,by rw [KQ b e2,← oA b ae];exact hb,rfl,rfl,Iz b e2⟩
 have hinv:∀b x,b<H2.length→jO b=some x→∃b',b'<H.length∧ι b'=some x∧(b=p∧b'=H1.length∨b≠p∧b'=b):=fun b x hb hx=>by
  by_cases e:b=p
  ·subst e;rw [Nu] at hx;exact ⟨_,ae,hx,.inl ⟨rfl,rfl⟩⟩
  ·rw [Iz b e] at hx;exact ⟨b,ae,hx,.inr ⟨e,rfl⟩⟩
 have wT:∀x,OO O jO H2 x→OO O ι H x:=by
  rintro x (h|⟨b,hb,hx⟩)
  ·exact .inl h
  ·obtain ⟨b',h1,h2,_⟩:=hinv b x hb hx;exact .inr ⟨b',h1,h2⟩
 have yC:B2.es≠[]:=fun e=>lO (dQ (by rw [← hB.2.2.1,e];rfl));rw [← sG];refine ⟨jO,⟨fun b blk x hb hx=>?_,fun b blk hb hx=>?_,fun b b' x hb ka hx mH=>?_,hs.below,hs.rS,fun x b hO hb hx=>?_,⟨fun b blk hb=>?_,fun b x blk kH c ty fz h1 h2 hl hi hc=>?_⟩⟩,xo,wT,Iz⟩
 ·by_cases e:b=p
  ·subst e;rw [Nv] at hb;injection hb with hb;subst hb;rw [Nu] at hx;obtain ⟨h3,h4⟩:=hs.heap _ _ x hq hx;exact ⟨h3,(hB.br (O2:=OO O ι H) (fun _=>Iff.rfl) xo h4).uu wT⟩
  ·rw [KQ b e] at hb;rw [Iz b e] at hx;have lR:=(dt hb).1;obtain ⟨h3,h4⟩:=hs.heap b blk x (by rw [oA b lR];exact hb) hx;exact ⟨h3,((hH b blk e hb).br (O2:=OO O ι H) (fun _=>Iff.rfl) xo h4).uu wT⟩
 ·by_cases e:b=p
  ·subst e;rw [Nu] at hx;exact absurd (hs.sq _ _ hq hx) lO
  ·rw [KQ b e] at hb;rw [Iz b e] at hx;have lR:=(dt hb).1;exact hs.sq b blk (by rw [oA b lR];exact hb) hx
 ·obtain ⟨c,h1,h2,h3⟩:=hinv b x hb hx;obtain ⟨c',pd,BI,BJ⟩:=hinv b' x ka mH;have:=hs.inj c c' x h1 pd h2 BI;rw [FR] at hb ka;rcases h3 with ⟨e1,e2⟩|⟨e1,e2⟩<;>rcases BJ with ⟨e3,e4⟩|⟨e3,e4⟩<;>omega
 ·obtain ⟨c,h1,h2,_⟩:=hinv b x hb hx;exact hs.qp x c hO h1 h2
 ·have BQ:b<H1.length:=hm b (dt hb).1;obtain ⟨kH,k1,k2,k3⟩:=hs.pn.blk b blk hb;by_cases e:b=p
  ·subst e;have R3:H[b]?=some blk0:=by rw [oA b nG];exact hp
   rw [R3] at k1;injection k1 with k1;subst k1;rw [wU] at k2;simp only [gR,Nat.le_zero_eq] at k2;exact ⟨B2,Nv,ae,fun he=>absurd (dQ ae) yC⟩
  ·have lR:b<H1.length:=ae;rw [oA b lR] at k1;exact ⟨kH,by rw [KQ b e];exact k1,k2,fun he=>by rw [Iz b e];exact k3 he⟩
 ·by_cases e:b=p
  ·subst e;obtain ⟨blk2,k1,k2,k3⟩:=hs.pn.blk b blk h1;have R3:H[b]?=some blk0:=by rw [oA b nG];exact hp
   rw [R3] at k1;injection k1 with k1;subst k1;rw [wU] at k2;simp only [gR,Nat.le_zero_eq] at k2;rw [Nv] at h2;injection h2 with h2;subst h2;exact absurd (dQ ae) yC
  ·have BQ:b<H1.length:=hm b (dt h1).1;rw [KQ b e] at h2;exact hs.pn.size b x blk kH c ty fz h1 (by rw [oA b ae];exact h2) hl hi hc
def GJ (q b:Nat):Option Nat:=if b=q then none else some b
theorem lA.drop {w0:nd} {O:Nat→Prop} {ι:Nat→Option Nat} {w:World} {H1:List jy} {B:jy} (hs:lA w0 O ι (H1++[B]) w) (hm:∀b,b<w0.H.length→b<H1.length) (hH:∀(b:Nat) (blk:jy),H1[b]?=some blk→xZ (GJ H1.length) (H1++[B]) blk blk) :
 lA w0 O ι H1 w∧(∀x,OO O ι H1 x→OO O ι (H1++[B]) x):=by
 obtain ⟨H,EN⟩:∃H,H=H1++[B]:=⟨_,rfl⟩
 rw [← EN] at hs hH ⊢;have hlen:H.length=H1.length+1:=by rw [EN];simp
 have oA:∀b,b<H1.length→H[b]?=H1[b]?:=fun b h=>by rw [EN,dA h]
 have nL:∀b blk,H1[b]?=some blk→H[b]?=some blk:=fun b blk h=>by rw [oA b (dt h).1];exact h
 have xo:AS (GJ H1.length) ι ι H H1:=fun b j blk wy hb=>by
  have lR:=(dt hb).1;by_cases e1:b=H1.length
  ·rw [GJ,ja e1] at wy;cases wy
  ·rw [GJ,iZ e1] at wy;injection wy with wy;subst wy;exact ⟨blk,by rw [← oA b ae];exact hb,rfl,rfl,rfl⟩
 have wT:∀x,OO O ι H1 x→OO O ι H x:=by
  rintro x (h|⟨b,hb,hx⟩)
  ·exact .inl h
  ·exact .inr ⟨b,ae,hx⟩
 refine ⟨⟨fun b blk x hb hx=>?_,fun b blk hb hx=>hs.sq b blk (nL b blk hb) hx,fun b b' x hb ka hx mH=>hs.inj b b' x ae ae hx mH,hs.below,hs.rS,fun x b hO hb hx=>hs.qp x b hO ae hx,⟨fun b blk hb=>?_,fun b x blk kH c ty fz h1 h2 hl hi hc=>hs.pn.size b x blk kH c ty fz h1 (nL _ _ h2) hl hi hc⟩⟩,wT⟩
 ·obtain ⟨h3,h4⟩:=hs.heap b blk x (nL b blk hb) hx;exact ⟨h3,((hH b blk hb).br (O2:=OO O ι H) (fun _=>Iff.rfl) xo h4).uu wT⟩
 ·obtain ⟨kH,k1,k2,k3⟩:=hs.pn.blk b blk hb;rw [oA b (hm b (dt hb).1)] at k1;exact ⟨kH,k1,k2,k3⟩
def Nb (q p:Nat) (b:Nat):Prop:=b≠p∧b≠q
theorem Wp {q p b:Nat} (h:Nb q p b):vr q p b=some b:=by rw [vr,iZ h.2,iZ h.1]
section
variable {P:Program}
theorem PL.place {H H1:List jy} {ρ:Operand→AV} {op:Op} {v v2:AV} {B B2 blk0 FY:jy} {p:Nat} (h:PL P H ρ op v (H1++[B])) (hlen:H.length=H1.length) (wY:H[p]?=some FY) (wq:FY.es=[]) (hp:H1[p]?=some blk0) (wU:blk0.es=[]) (lO:B.es≠[])
 (hB:xZ (vr H1.length p) (H1++[B]) B B2) (hH:∀b blk,b≠p→H1[b]?=some blk→xZ (vr H1.length p) (H1++[B]) blk blk) (hv:mI (vr H1.length p) (H1++[B]) v v2):PL P H ρ op v2 (H1.set p B2):=by
 intro o ho w0 O ι a w hs hr K Q hK;refine h o ho w0 O ι a w hs hr K Q fun u w' jU h1 h2 h3=>?_;obtain ⟨jO,k1,k2,k3,k4⟩:=h1.mv hp wU (fun b hb=>by
  obtain ⟨kH,q1,_⟩:=hs.pn.blk b _ (dy hb);rw [← hlen];exact (dt q1).1) lO hB hH
 have nG:p<H1.length:=(dt hp).1;have yC:B2.es.length≠0:=fun e=>lO (dQ (by rw [← hB.2.2.1,e]));have Zh:(H1.set p B2)[p]?=some B2:=ee nG;have Zi:∀b,b≠p→(H1.set p B2)[b]?=H1[b]?:=fun b h=>dS (fun e=>h e.symm);have gl:∀b,b<H1.length→(H1++[B])[b]?=H1[b]?:=fun b h=>dA h;refine hK u w' jO k1 ⟨h2.obj,fun q u hq hc hO=>h2.Ec q u hq hc (k3 _ hO),fun b blk hb=>?_,fun b x blk kH c ty fz e1 e2 e3 e4 e5=>?_⟩ ((hv _ w' (OO O jU (H1++[B])) jU jO u k2 h3).uu k3)
 ·by_cases e:b=p
  ·subst e;rw [wY] at hb;injection hb with hb;subst hb;exact ⟨B2,Zh,by rw [wq];exact dL _,fun e=>by rw [wq] at e;exact absurd e yC⟩
  ·obtain ⟨kH,q1,q2,q3⟩:=h2.blk b blk hb;have lR:b<H1.length:=cS;rw [gl b lR] at q1;exact ⟨kH,by rw [Zi b e];exact q1,q2,fun e'=>by rw [k4 b e];exact q3 e'⟩
 ·by_cases e:b=p
  ·subst e;rw [wY] at e1;injection e1 with e1;subst e1;rw [Zh] at e2;injection e2 with e2;subst e2;rw [wq] at e3;exact absurd e3 yC
  ·have lR:b<H1.length:=cT;rw [Zi b e] at e2;exact h2.size b x blk kH c ty fz e1 (by rw [gl b lR];exact e2) e3 e4 e5
theorem PL.drop {H H1:List jy} {ρ:Operand→AV} {op:Op} {v v2:AV} {B:jy} (h:PL P H ρ op v (H1++[B])) (hlen:H.length=H1.length) (hH:∀(b:Nat) (blk:jy),H1[b]?=some blk→xZ (GJ H1.length) (H1++[B]) blk blk)
 (hv:∀w O ι u,VR w O ι (H1++[B]) v u→VR w O ι H1 v2 u):PL P H ρ op v2 H1:=by
 intro o ho w0 O ι a w hs hr K Q hK;refine h o ho w0 O ι a w hs hr K Q fun u w' jU h1 h2 h3=>?_;obtain ⟨k1,k3⟩:=h1.drop (fun b hb=>by
  obtain ⟨kH,q1,_⟩:=hs.pn.blk b _ (dy hb);rw [← hlen];exact (dt q1).1) hH
 have gl:∀b,b<H1.length→(H1++[B])[b]?=H1[b]?:=fun b h=>dA h;refine hK u w' jU k1 ⟨h2.obj,fun q u hq hc hO=>h2.Ec q u hq hc (k3 _ hO),fun b blk hb=>?_,fun b x blk kH c ty fz e1 e2 e3 e4 e5=>?_⟩ ((hv w' _ jU u h3).uu k3)
 ·obtain ⟨kH,q1,q2,q3⟩:=h2.blk b blk hb;have lR:b<H1.length:=cS;rw [gl b lR] at q1;exact ⟨kH,q1,q2,q3⟩
 ·have lR:b<H1.length:=cT;exact h2.size b x blk kH c ty fz e1 (by rw [gl b lR];exact e2) e3 e4 e5
theorem PT {q b:Nat} (h:b≠q):GJ q b=some b:=iZ h
theorem VR.Kf {H:List jy} {B:jy} {w:World} {O:Nat→Prop} {ι:Nat→Option Nat} {u:Value} (hB:B.es=[]) (h:VR w O ι (H++[B]) (.own H.length 0 0 0) u):VR w O ι H (.jA []) u:=by
 have hq:(H++[B])[H.length]?=some B:=ah;cases h with
 | uq _ _ _ _ blk a n c hb h=>rw [hq] at hb;injection hb with hb;subst hb;rw [hB] at h;simp at h
 | tI=>exact .sn
 | own b tot off len blk x n cap a hb ht hi hn hl nQ ha=>exact .jA [] a n cap 0 (fun _ _=>.bool true) (by simp [hn]) ae (by simp [hn]) ah ah ah ah
theorem PL.Kf {H:List jy} {ρ:Operand→AV} {op:Op} {B:jy} (h:PL P H ρ op (.own H.length 0 0 0) (H++[B])) (hB:B.es=[]) (hH:∀b∈H,kI (fun b=>b<H.length) b):PL P H ρ op (.jA []) H:=
 PL.drop h rfl (fun b blk hb=>(hH blk (dx hb)).mv fun _ h=>PT ae) fun w O ι u hu=>hu.Kf hB
theorem PL.xX {H:List jy} {ρ:Operand→AV} {op:Op} {v v2:AV} {B blk0:jy} {p:Nat} (h:PL P H ρ op v (H++[B])) (hp:H[p]?=some blk0) (wU:blk0.es=[]) (lO:B.es≠[]) (hB:kI (Nb H.length p) B) (hH:∀b∈H,kI (Nb H.length p) b)
 (hv:mI (vr H.length p) (H++[B]) v v2):PL P H ρ op v2 (H.set p B):=
 PL.place h rfl hp wU hp wU lO (hB.mv fun _ h=>Wp h) (fun b blk _ hb=>(hH blk (dx hb)).mv fun _ h=>Wp h) hv
theorem mI.QG {H:List jy} {B:jy} {p tot i off:Nat}:mI (vr H.length p) (H++[B]) (.ptr H.length tot i off) (.ptr p tot i off):=.ptr (by rw [vr,ja rfl])
theorem mI.Bv {H:List jy} {B:jy} {p tot off len:Nat}:mI (vr H.length p) (H++[B]) (.own H.length tot off len) (.own p tot off len):=.own (by rw [vr,ja rfl])
theorem mI.atG {H:List jy} {B:jy} {p:Nat}:mI (vr H.length p) (H++[B]) (.n5 H.length) (.n5 p):=.n5 (by rw [vr,ja rfl])
theorem ahC {H:List jy} {ρ:Operand→AV} {x y:Operand} {t t2 el:TypeId} {es:List AV} {bytes:Nat} (hx:ρ x=.jA []) (hy:ρ y=.jA es) (ht:P.underlying t=some (.slice el)) (mQ:tD P el 1 bytes=true) :
 PL P H ρ (.call { callee:=.builtin .copy,args:=#[x,y],argTypes:=#[t,t2] }) (.int 0) H:=by
 refine PL.ql fun w0 O ι a w hs hv o ho=>?_;have h1:=hv x;rw [hx] at h1;have h2:=hv y;rw [hy] at h2;obtain ⟨i0,zz,e1,e2,e3,e4,e5,e6,_⟩:=An mQ;have kA:(P.info? el).map (·.size)=some 1:=by simp [e1,e3]
 have D4:∀(v':Value) (w':World),(Builtin.copy_ #[t,t2] o.type #[a.eval x,a.eval y]).run P w=.ok v' w'→(execOp a.eval o).run P w=.ok (.value v') w':=fun v' w' hr=>by
  simp only [execOp,ho,resolve,invoke,builtin,dR,dV,dN,gz,ef,ez,hr]
 generalize wq:a.eval x=X1 at h1 D4;generalize zP:a.eval y=X2 at h2 D4;have key:∀(d' a':Option Addr) (c' m' q':Nat),X1=.slice d' 0 c'→X2=.slice a' m' q'→∃u w' jU nx,(execOp a.eval o).run P w=.ok nx w'∧(nx=.value u∨(nx=.skip∧u=undef))∧lA w0 O jU H w'∧mj w (OO O ι H) ι H w' (OO O jU H) jU H∧VR w' (OO O jU H) jU H (.int 0) u:=by
  intro d' a' c' m' q' R2 Da;subst R2;subst Da;have hr:=run_copy_none (P:=P) w t t2 o.type el d' a' 0 c' m' q' ht kA ah;exact ⟨_,w,ι,_,D4 _ _ hr,.inl rfl,hs,mj.quiet hs (.refl _ _),.base _⟩
 cases h1 with
 | sn =>
   cases h2 with
   | sn=>exact key _ _ _ _ _ rfl rfl
   | jA=>exact key _ _ _ _ _ rfl rfl
 | jA yT a1 n1 aDk sz1 aDl zU =>
   simp only [gR] at zU;subst zU;cases h2 with
   | sn=>exact key _ _ _ _ _ rfl rfl
   | jA=>exact key _ _ _ _ _ rfl rfl
end
end Go.Ab
namespace Go.Ab
open Go Go.RowKit
section
variable {P:Program} {w w':World} {w0:nd} {O:Nat→Prop} {ι:Nat→Option Nat} {H:List jy} {u:Value}
end
end Go.Ab
