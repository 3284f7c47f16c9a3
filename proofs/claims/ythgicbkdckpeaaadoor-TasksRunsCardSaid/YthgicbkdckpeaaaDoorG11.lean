/- Part. -/
import Derived.Test.YthgicbkdckpeaaaDoorG10
set_option linter.unusedSimpArgs false
set_option linter.unusedVariables false
set_option maxHeartbeats 4000000
namespace Go.Ab
open Go Go.Ab Go.Proofs Go.Ab.Ty Go.RowKit
attribute [local go_sem] Oper.semAt_some
theorem L5 {P:Program} {n:Fr} {w0:nd} {O:Nat→Prop} {x y:Code} {S0:ku} (S1:ku) {ι:Nat→Option Nat} {a:Act} {w:World} {Q:Exit→Act→World→Prop} (hs:SR n w0 O S0 ι a w) (h:jG P n x (fun e s'=>e=.normal∧Wk n s' S1) S0)
 (hk:∀ι a w,SR n w0 O S1 ι a w→y.wp P Q a w):(Code.seq x y).wp P Q a w:=by
 refine wp_seq (jh (h w0 O ι a w hs) ?_);rintro e a w ⟨s',jU,⟨rfl,h1⟩,h2⟩;obtain ⟨jO,h3⟩:=h1 _ _ _ _ _ h2;exact hk jO a w h3
theorem aiP {fn:Func} {a:Act} {W2:World} {D x7:Nat} {u:Value} {R:Ending→World→Prop} (K2:fn.results=#[.tmp 4,.tmp 5]) (Fh:a.tmps.size=25) (h7:a.tmps[7]?=some (.pointer (some ⟨x7,0,none⟩))) (hD:W2.heap[D]?=some (.deferred (some []))) (hx:W2.cell? ⟨x7,0,none⟩=some u)
 (hR:R (.returned (.tuple #[u,.int .i64 0])) (W2.putObj D (.deferred none))) :
 (Code.seq (.region 8 #[{ dst:=some 24,op:=.load 76 (.tmp 7),type:=76,pos:="tasks.go:443",after:=#[],guard:=none },{ dst:=some 4,op:=.assign (.tmp 24),type:=76,pos:="tasks.go:443",after:=#[{ on:=0,ground:=.data },{ on:=0,ground:=.phase }],guard:=none },{ dst:=some 5,op:=.assign (.const (.int .i64 0)),type:=33,pos:="tasks.go:443",after:=#[{ on:=1,ground:=.chain },{ on:=0,ground:=.phase },{ on:=1,ground:=.phase }],guard:=none }] false) .ret).wp Tryd.prog (bodyPostM Fence.wide 1 Tryd.prog fn R) { tmps:=a.tmps,defers:=[{ target:=.collected D,args:=#[] }] } W2:=by
 obtain ⟨T,DD⟩:=a;simp only at Fh h7;obtain ⟨v0,v1,v2,v3,v4,v5,v6,v7,v8,v9,v10,v11,v12,E8,E9,Fa,Fb,Fc,Fe,Aa,v20,v21,Ff,Fg,v24,rfl⟩:=Xi Fh;simp at h7;subst h7;refine (wpIn_wide (n:=1)).1 ?_
 gi_wp2
 refine ⟨ah,.inl ⟨D,_,rfl,run_takeDeferred hD,_,?_,hR⟩⟩;simp [results,K2]
theorem anV {mm:List (Nat×Obj)} {G:jv→Prop} (hG:Kt mm G) {p:Tk} {sched:List Int} {s0 R:jv} (h0:G s0) (hR:R=wP (2001-s0.turns.length) s0) (hle:s0.turns.length≤2000) (qE:WF R)
 (rm:Fn Tryd.prog 59 [kU p,.jA (sched.map .int)] (.int 0)) (S8:jS Tryd.prog 60 [kU p,.jA (sched.map .int)] [] jI (HH s0)) :
 vh Tryd.prog mm 39 [kU p,.jA (sched.map .int)] [] (.ky [jI,.int 0]) (HH R):=by
 have BX:=hG.wf s0 h0;have Em:=alB BX;have wx:=kC s0;have hnn:Hid (NN+1=NN+1):=⟨rfl⟩
 refine ⟨⟨_,Tryd.func39,ag,rfl⟩,fun w O ι vs hS rJ hl hv=>?_⟩;refine callsIn_wide.1 (callsIn_of_wp_marks (F:=Fence.wide) (n:=1) Tryd.func39 (c:=_) bU trivial ?_);refine wpIn_wide.2 ?_;have hs:SR ⟨25,0⟩ ⟨w,nR ι [],[],ι⟩ O ⟨[(0,kU p),(1,.jA (sched.map .int)),(mu,.mem mm)],[]⟩ ι { tmps:=vs++Array.replicate (25-vs.size) undef,defers:=[] } w:=by
  have nL:vs.size=2:=hl;refine ⟨hS,rfl,aj,rfl,fun t=>?_⟩;show VR _ _ _ _ (lk (([kU p,.jA (sched.map .int)].zipIdx 0).map (fun (a,i)=>(i,a))++[(mu,.mem mm)]) t) _;rw [UY [kU p,.jA (sched.map .int)] 0 t];split
  ·rename_i Y6;simp only [iq];have re:t<[kU p,AV.jA (sched.map .int)].length:=ae;rw [dy re,eR];have hu:vs[t]?=some vs[t]:=dM (by simp at re;omega);have h1:=hv t _ _ (dy re) hu;rw [dH,fB (by simp at re;omega),hu];exact h1
  ·show VR _ _ _ _ (if mu=t then AV.mem mm else .bad) _;split
   ·exact .mem _ _ rJ
   ·exact .bad _
 refine L5 ⟨[(1,.jA (sched.map .int)),(2,.kN (kU p) 0),(mu,.mem mm)],[]⟩ hs ?_ fun ι a w2 hs=>?_
 ·refine jw ?_;exact ⟨rfl,Wk.Ee [] gK (fun b hb=>by simp at hb) trivial (wv.all ⟨.pu (l7 _),.kN rfl rfl rfl rfl ⟨.pu (nz _),.pu (nz _),.pu (.base _),trivial⟩,.pu (.mem _),trivial⟩)⟩
 refine L5 ⟨[(1,.jA (sched.map .int)),(2,.kN (kU p) 0),(mu,.mem mm)],[]⟩ hs ?_ fun ι a w3 hs=>?_
 ·refine jw ?_;refine oQ (rm) ?_;refine jw ?_;refine jK ?_ rfl aa;refine jw ?_;exact ⟨rfl,.wf⟩
 refine L5 ⟨[(7,.ptr NN 1 0 0),(mu,.mem mm)],HH s0++[oq]⟩ hs ?_ fun ι a w4 hs=>?_
 ·refine jw ?_;refine jB.p2 (rM S8 (dL _) rfl aa aa) ?_;refine jw ?_;refine ⟨rfl,?_⟩;simp only [wx];exact .wf (hH:=aa)
 refine wp_seq ?_;refine L5 ⟨[(7,.ptr NN 1 0 0),(19,.j9 84 [.ptr (NN+1) 1 0 0]),(mu,.mem mm)],HH s0++TT⟩ hs ?_ fun ι a w5 hs=>?_
 ·have BY:tf (List.range NN) (HH s0++[oq]) (HH s0) (HH s0++[oq]) (HH s0++[oq]++[oq]):=.QU wx (vd BX) (Xj _ ah);have lK:mI (rb (List.range NN) (HH s0++[oq]).length) (HH s0++[oq]) (.j9 84 [.ptr NN 1 0 0]) (.j9 84 [.ptr (NN+1) 1 0 0]):=.j9 rfl fun j c d h1 h2=>by
   cases j with
   | zero =>
     cases h1;cases h2;refine .ptr ?_;unfold rb;rw [fm,iZ ae,dK,wx];simp
   | succ j=>cases h1
  refine jw ?_;refine jB.p2 (zg Em BY rfl aa (args:=[jI]) ?_ lK) ?_
  ·exact ⟨.ptr (by rw [OV,ja mc]),trivial⟩
  refine jw ?_;exact ⟨rfl,.wf (hH:=by rw [eA];rfl)⟩
 refine aiN hG h0 hR hle hs rfl rfl rfl fun W2 jO x7 u hD kA yb h7 hx hu=>?_;refine aiP (fn:=Tryd.f39) rfl hs.size h7 hD hx ?_;have Yx:∀c ty fz,W2.heap[w5.heap.size]?≠some (.cells c ty fz):=fun c ty fz e=>by rw [hD] at e;cases e
 have hg:=mj.put (o:=Obj.deferred none) (H:=HH R++TT) (ι:=jO) (O:=Cy O w5) (W:=W2) (.inr (.inl rfl)) Yx;have q1:=yb.XA (l:=w5.heap.size) (o:=.deferred none) (.inr (.inl rfl)) kA Yx;have q2:lA _ O jO (HH R++TT) _:=q1.uu fun x hx=>.inl hx;have Yy:BH 0 (pre NN) id (HH R++TT) (HH R):=.pre aP (dL _) (kC R) fun j b1 b2 h1 h2=>by
  have hj:=(dt h2).1;rw [dA hj,h2] at h1;injection h1 with h1;subst h1;refine ⟨rfl,rfl,rfl,fun i e e2 h3 h4=>?_⟩;rw [h3] at h4;injection h4 with h4;subst h4;refine ⟨rfl,fun k c c2 h5 h6=>?_⟩;rw [h5] at h6;injection h6 with h6;subst h6;exact (vd qE b2 (dx h2) e (dx h3) c (dx h5)).tB fun b hb=>rF hb
 refine ⟨_,_,rfl,q2.pQ rfl Yy,?_⟩;have sb:VR (W2.putObj w5.heap.size (.deferred none)) (OO O jO (HH R++TT)) jO (HH R++TT) jI u:=(hu.mono hg).uu fun x hx=>hx.elim (fun h=>.inl (.inl h)) .inr;refine .ky [jI,.int 0] #[u,.int .i64 0] rfl fun j c v hc hv=>?_;rcases j with _|_|j
 ·cases hc;cases hv;exact mL.ptr (r:=pre NN) (rF mc) (HH R) _ _ O jO _ u q2 (Yy.view jO) sb
 ·cases hc;cases hv;exact .base _
 ·cases hc
end Go.Ab
