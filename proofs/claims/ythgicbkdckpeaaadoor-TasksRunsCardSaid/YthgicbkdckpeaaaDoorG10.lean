/- Part. -/
import Derived.Test.YthgicbkdckpeaaaDoorG09
set_option linter.unusedSimpArgs false
set_option linter.unusedVariables false
set_option maxHeartbeats 4000000
namespace Go.Ab
open Go Go.Ab Go.Proofs Go.Ab.Ty Go.RowKit
def wP:Nat→jv→jv
 | 0,s=>s
 | f+1,s=>if s.turns.length<2000 then (if rv s=[] then nf s else wP f (vc (nf s) (xR s).toNat)) else s
structure Kt (mm:List (Nat×Obj)) (G:jv→Prop):Prop where
 wf:∀s,G s→WF s
 pk:∀s,G s→M5 s∧Rdy s
 tn:∀s,G s→s.turns.length<2000→rv s≠[]→∃n:Nat,xR s=n∧WF (nf s)∧vh Tryd.prog mm 62 [jI,.int n] (HH (nf s)) (.ky []) (HH (vc (nf s) n))∧G (vc (nf s) n)∧(vc (nf s) n).turns.length=s.turns.length+1
abbrev TT:List jy:=[oq,oq]
theorem Xj:∀b∈TT,kI (·<NN) b:=by
 intro b hb;simp only [dC,dB,jd] at hb;have hr:kI (·<NN) oq:=fun e he c hc=>by
  rw [dz] at he;subst he;simp only [AV.cells,dz] at hc;subst hc;exact .ptr mc
 rcases hb with rfl|rfl
 ·exact hr
 ·exact hr
abbrev CU (l:Nat):Value:=.func (.yield l) #[] #[]
noncomputable abbrev BF (l:Nat) (mm:List (Nat×Obj)):Env:=[(0,.base (CU l)),(1,.ptr (NN+1) 1 0 0),(mu,.mem mm)]
theorem agF {mm:List (Nat×Obj)} {G:jv→Prop} (hG:Kt mm G) {s0:jv} (h0:G s0) {w1:nd} {O:Nat→Prop} {l:Nat} {R:jv} (hR:R=wP (2001-s0.turns.length) s0) (Ku:s0.turns.length≤2000)
 (hY:∀(s:jv) (n:Nat),G s→WF (nf s)→vh Tryd.prog mm 62 [jI,.int n] (HH (nf s)) (.ky []) (HH (vc (nf s) n))→WF (vc (nf s) n)→pL Tryd.prog ⟨24,NN+2⟩ w1 O M4 (fun e s'=>e=.normal∧Wk ⟨24,NN+2⟩ s' ⟨(23,.bool false)::BF l mm,HH (vc (nf s) n)++TT⟩) ⟨(3,.int n)::(4,.bool true)::BF l mm,HH (nf s)++TT⟩) :
 pL Tryd.prog ⟨24,NN+2⟩ w1 O ((Tryd.f84.body).getD .skip) (fun e s'=>(e=.normal∨e=.ret)∧Wk ⟨24,NN+2⟩ s' ⟨BF l mm,HH R++TT⟩) ⟨BF l mm,HH s0++TT⟩:=by
 refine pL.block ?_;refine pL.loop (J:=fun s=>G s∧R=wP (2001-s.turns.length) s∧s.turns.length≤2000) (fun s=>⟨BF l mm,HH s++TT⟩) (fun s=>2000-s.turns.length) s0 ?_ (.refl _) ?_
 ·exact ⟨h0,hR,Ku⟩
 rintro s ⟨Hc,xS,hle⟩;have hw:=hG.wf s Hc;obtain ⟨avQ,avR⟩:=hG.pk s Hc;have hlen:=kC s;have FU:=Pz hw avQ avR;by_cases kn:s.turns.length<2000
 ·have hd:decide ((s.turns.length:Int)<2000)=true:=jf ae;have F4:=Hid.mk kn;clear kn;refine pL.step ⟨BF l mm,HH s++TT⟩ ?_ ?_
  ·refine jw ?_;refine j8 ?_ rfl aa;refine jw ?_;exact .wf
  refine pL.block ?_;by_cases hr:rv s=[]
  ·rw [ja hr] at FU;have B8:WF (nf s):=by unfold nf;rw [ja hr];exact hw
   have sI:R=nf s:=by
    rw [xS];obtain ⟨f,hf⟩:∃f,2001-s.turns.length=f+1:=⟨2000-s.turns.length,by have:=F4.out;omega⟩
    rw [hf];unfold wP;rw [ja F4.out,ja hr]
   have zT:=Hid.mk hr;clear hr xS;refine pL.of ?_;refine jw ?_;refine jB.p2 (sf hw B8 (T:=TT) FU rfl aa aa (by intro a ha;rw [dz] at ha;subst ha;exact .ptr mc) (.pu (Pu.ky ah))) ?_;refine jw ?_;refine wu (.bool true) ?_;refine wu (.bool false) ?_;refine jw ?_;refine j8 ?_ rfl aa;refine jw ?_;exact ⟨.inr rfl,by rw [sI];exact .wf⟩
  ·rw [iZ hr] at FU;obtain ⟨n,hn,B8,CK,SU,nN⟩:=hG.tn s Hc F4.out hr;rw [hn] at FU;have hRn:R=wP (2001-(vc (nf s) n).turns.length) (vc (nf s) n):=by
    rw [xS];have:=F4.out;obtain ⟨f,hf⟩:∃f,2001-s.turns.length=f+1:=⟨2000-s.turns.length,ae⟩
    rw [hf,nN,show 2001-(s.turns.length+1)=f by omega];show (if s.turns.length<2000 then (if rv s=[] then nf s else wP f (vc (nf s) (xR s).toNat)) else s)=_;rw [ja this,iZ hr,hn,dF]
   refine pL.step ⟨(3,.int n)::(4,.bool true)::BF l mm,HH (nf s)++TT⟩ ?_ ?_
   ·clear hRn xS hr hn nN SU CK;refine jw ?_;refine jB.p2 (sf hw B8 (T:=TT) FU rfl aa aa (by intro a ha;rw [dz] at ha;subst ha;exact .ptr mc) (.pu (Pu.ky ah))) ?_;refine jw ?_;exact .wf
   refine pL.seq ?_;refine pL.mono (hY s n Hc B8 CK (hG.wf _ SU)) ?_;rintro e s' ⟨rfl,sD⟩;refine pL.weaken sD (pL.of ?_);have Kg:=F4.out;clear FU CK sD;refine jK ?_ rfl aa;refine jG.skip ?_;exact ⟨vc (nf s) n,⟨SU,hRn,ae⟩,ae,.wf⟩
 ·have hd:decide ((s.turns.length:Int)<2000)=false:=je ae;have sI:R=s:=by
   rw [xS];obtain ⟨f,hf⟩:∃f,2001-s.turns.length=f+1:=⟨2000-s.turns.length,ae⟩
   rw [hf];unfold wP;rw [iZ kn]
  clear kn xS FU;refine pL.of ?_;refine jw ?_;refine jK ?_ rfl aa;refine jw ?_;exact ⟨.inl rfl,by rw [sI];exact .wf⟩
def M6:Call:={ callee:=.value (.func 62),args:=#[.tmp 0,.tmp 1],argTypes:=#[] }
theorem agG {P:Program} {f:FuncId} {fn:Func} {a:Act} {o:Oper} {c:Call} {fx:Operand} {args:Array Value} {w:World} (g1:P.funcs[f]?=some fn) (g2:(fn.name == "runtime.NumGoroutine")=false) (g3:fn.body.isNone=false) (ho:o.op=.call c) (hc:c.callee=.value fx) (hX:a.eval fx=.func (.func f) #[] #[]) (ha:c.args.map a.eval++#[]=args) :
 (execOp a.eval o).run P w=.ok (.enter f args) w:=by
 subst ha;unfold execOp;rw [ho];simp only [resolve,hc,Deferred.ofValue,hX,dR,dV,dN,invoke,gC,Hp g1 g2 g3]
theorem PL.calls {P:Program} {f:FuncId} {fn:Func} {H H':List jy} {ρ:Operand→AV} {c:Call} {fx:Operand} {d:AV} {args:Array Value} (h:PL P H ρ (.call c) d H') (g1:P.funcs[f]?=some fn) (g2:(fn.name == "runtime.NumGoroutine")=false) (g3:fn.body.isNone=false) (hc:c.callee=.value fx)
 {w0:nd} {O:Nat→Prop} {ι:Nat→Option Nat} {W:World} {a:Act} (hs:lA w0 O ι H W) (hv:∀x,VR W (OO O ι H) ι H (ρ x) (a.eval x)) (hX:a.eval fx=.func (.func f) #[] #[]) (ha:c.args.map a.eval++#[]=args) :
 Calls P f args W fun e w'=>∃v,e=.returned v∧∃jO,lA w0 O jO H' w'∧mj W (OO O ι H) ι H w' (OO O jO H') jO H':=by
 have h1:=h { dst:=some 1000,op:=.call c,type:=0,pos:="",after:=#[],guard:=none } rfl w0 O ι a W hs hv (fun _ w'=>∃jO,lA w0 O jO H' w'∧mj W (OO O ι H) ι H w' (OO O jO H') jO H') (fun _ _ _=>False) fun v w' jO k1 k2 k3=>⟨jO,k1,k2⟩
 unfold Oper.wp at h1;rw [agG (o:={ dst:=some 1000,op:=.call c,type:=0,pos:="",after:=#[],guard:=none }) g1 g2 g3 rfl hc hX ha,Oper.upon_enter] at h1;refine h1.mono ?_;rintro e w' he;cases e with
 | returned v=>exact ⟨v,rfl,he⟩
 | panicked ch=>exact he.elim
 | outgrown=>obtain ⟨_,_,h⟩:=he;exact h.elim
theorem aeT {mm:List (Nat×Obj)} {sp s':jv} {n:Nat} (B8:WF sp) (Lt:WF s') (CK:vh Tryd.prog mm 62 [jI,.int n] (HH sp) (.ky []) (HH s')) {w0:nd} {O:Nat→Prop} {ι:Nat→Option Nat} {W:World} {u:Value}
 (hs:lA w0 O ι (HH sp++TT) W) (hu:VR W (OO O ι (HH sp++TT)) ι (HH sp++TT) jI u) (hm:∀q∈mm,¬OO O ι (HH sp++TT) q.1∧W.heap[q.1]?=some q.2) :
 Calls Tryd.prog 62 #[u,.int .i64 n] W fun e w'=>∃v,e=.returned v∧∃jO,lA w0 O jO (HH s'++TT) w'∧mj W (OO O ι (HH sp++TT)) ι (HH sp++TT) w' (OO O jO (HH s'++TT)) jO (HH s'++TT):=by
 obtain ⟨ρ,M7,Yr,Ys⟩:∃ρ:Operand→AV,(∀t,ρ (.tmp t)=if t=0 then jI else if t=1 then .int n else if t=mu then .mem mm else .bad)∧(∀f,ρ (.func f)=.j9 f [])∧∀x,(∃v,x=.const v)∨(∃g,x=.global g)→ρ x=.bad:=⟨fun
  | .tmp t=>if t=0 then jI else if t=1 then .int n else if t=mu then .mem mm else .bad
  | .func f=>.j9 f []
  | _=>.bad,fun _=>rfl,fun _=>rfl,fun x hx=>by rcases hx with ⟨v,rfl⟩|⟨g,rfl⟩<;>rfl⟩
 have e0:ρ (.tmp 0)=jI:=by rw [M7,ja rfl]
 have e1:ρ (.tmp 1)=.int n:=by rw [M7,iZ az,ja rfl]
 have em:ρ (.tmp mu)=.mem mm:=by rw [M7,iZ az,iZ az,ja rfl]
 have CB:M6.args.toList.map ρ++[]=[jI,.int n]:=by
  show [ρ (.tmp 0),ρ (.tmp 1)]++[]=_;rw [e0,e1];rfl
 have Lf:PL Tryd.prog (HH sp++TT) ρ (.call M6) (.ky []) (HH s'++TT):=UH B8 Lt (T:=TT) CK (.inr em) (fx:=.func 62) rfl (Yr _) CB (by
  intro a ha;simp only [dC,dB,jd] at ha;rcases ha with rfl|rfl
  ·exact .ptr mc
  ·exact .pu (.base _)) (.pu (Pu.ky ah))
 obtain ⟨a',SV⟩:∃a':Act,a'={ tmps:=#[u,.int .i64 n,undef],defers:=[] }:=⟨_,rfl⟩
 have Ay:∀x,VR W (OO O ι (HH sp++TT)) ι (HH sp++TT) (ρ x) (a'.eval x):=fun x=>by
  rw [SV];cases x with
  | tmp t =>
    rw [M7];by_cases e0:t=0
    ·subst e0;rw [ja rfl];exact hu
    ·rw [iZ e0];by_cases e1:t=1
     ·subst e1;rw [ja rfl];exact .base _
     ·rw [iZ e1];split
      ·exact .mem _ _ hm
      ·exact .bad _
  | func f=>rw [Yr];exact .j9 f [] #[] rfl ah
  | const v=>rw [Ys _ (.inl ⟨v,rfl⟩)];exact .bad _
  | global g=>rw [Ys _ (.inr ⟨g,rfl⟩)];exact .bad _
 have q1:a'.eval (.func 62)=.func (.func 62) #[] #[]:=by rw [SV];rfl
 have q2:M6.args.map a'.eval++#[]=#[u,.int .i64 n]:=by
  rw [SV];simp [M6,Act.eval]
 have:=Lf.calls Tryd.func62 ag ag (fx:=.func 62) rfl hs Ay q1 q2;exact this
theorem yy {s:jv}:(HH s++TT)[NN]?=some oq:=Vh (kC s)
theorem Ms {w:World} {O:Nat→Prop} {ι:Nat→Option Nat} {H:List jy} {T:Array Value} {t:Nat} {v:Value} (ht:t<T.size) (h:VR w O ι H (.base v) (T.getD t undef)):T[t]?=some v:=by
 have:=h.nO;rw [dH,dM ht] at this;rw [dM ht];exact jj some this
theorem aeU {fn:FuncId} {mm:List (Nat×Obj)} {s0:jv} {W1:World} {ι1:Nat→Option Nat} {O1:Nat→Prop} {l x7:Nat} {rec:Loop}
 (hl:W1.heap[l]?=some (.loop rec)) (I3:O1 l) (rW:¬nR ι1 (HH s0++TT) l) (jP:rec.state=.ready) (MI:rec.pending=none) (r1:rec.params=#[20]) (r2:rec.fn=fn) (r3:rec.assign=BD) (r4:rec.body=BE)
 (Fh:rec.tmps.size=25) (h7:rec.tmps[7]?=some (.pointer (some ⟨x7,0,none⟩))) (Fi:ι1 (NN)=some x7) (A8:∃c ty fz,W1.heap[x7]?=some (.cells c ty fz))
 {sp s':jv} {n:Nat} (B8:WF sp) (Lt:WF s') (CK:vh Tryd.prog mm 62 [jI,.int n] (HH sp) (.ky []) (HH s')) :
 pL Tryd.prog ⟨24,NN+2⟩ ⟨W1,nR ι1 (HH s0++TT),HH s0++TT,ι1⟩ O1 M4 (fun e st=>e=.normal∧Wk ⟨24,NN+2⟩ st ⟨(23,.base (.bool false))::BF l mm,HH s'++TT⟩) ⟨(3,.int n)::(4,.bool true)::BF l mm,HH sp++TT⟩:=by
 intro ι a W hs;have yb:=hs.mP;have kn:l<W1.heap.size:=vY hl;have N4:W.heap[l]?=some (.loop rec):=(yb.below.block l kn rW).trans hl;have zV:∀c ty fz,W.heap[l]?≠some (.cells c ty fz):=fun c ty fz e=>by rw [N4] at e;cases e
 obtain ⟨b7,e7,_,f7⟩:=yb.pn.blk (NN) oq yy;rw [yy] at e7;injection e7 with e7;subst e7;have Lu:ι (NN)=some x7:=(f7 rfl).2.trans Fi;obtain ⟨c7,SW,SX,A8⟩:=A8;obtain ⟨SY,Rb,Rc,Kv,_⟩:=yb.pn.size (NN) x7 oq oq c7 SW SX yy yy rfl Fi A8;have AU:mj W (OO O1 ι (HH sp++TT)) ι (HH sp++TT) (W.putObj l (.loop { rec with state:=.busy })) (OO O1 ι (HH sp++TT)) ι (HH sp++TT):=mj.put I3 zV;have hsb:=yb.amT (o:=.loop { rec with state:=.busy }) I3 zV;have Lv:VR W (OO O1 ι (HH sp++TT)) ι (HH sp++TT) (.ptr (NN) 1 0 0) (.pointer (some ⟨x7,0*oq.sz+0,none⟩)):=.ptr _ _ _ _ _ _ yy rfl Lu ⟨SY,Rb,Rc,Kv⟩;obtain ⟨y,hy,GX,mQ⟩:=(Lv.mono AU).HA hsb yy rfl (e:=jI) rfl;rw [Lu] at hy;injection hy with hy;subst hy;obtain ⟨u,tT,sb⟩:=mQ 0 jI rfl;have tT:(W.putObj l (.loop { rec with state:=.busy })).cell? ⟨x7,0,none⟩=some u:=by simpa using tT
 have A2:=hs.oV mu;have hm:∀q∈mm,¬OO O1 ι (HH sp++TT) q.1∧(W.putObj l (.loop { rec with state:=.busy })).heap[q.1]?=some q.2:=by
  have h1:VR W (OO O1 ι (HH sp++TT)) ι (HH sp++TT) (.mem mm) (a.tmps.getD mu undef):=A2;have h2:=h1.mono AU;cases h2 with
  | mem _ _ h=>exact h
 have P2:=aeT B8 Lt CK hsb sb hm;have kA:a.tmps.size=24:=hs.size;have h0:a.tmps[0]?=some (CU l):=Ms ae (hs.oV 0);have h3:a.tmps[3]?=some (.int .i64 n):=Ms ae (hs.oV 3);have h4:a.tmps[4]?=some (.bool true):=Ms ae (hs.oV 4);have yH:({ ({ rec with state:=.busy }:Loop) with state:=if (none:Option Code).isNone then .ready else .done,pending:=none }:Loop)=rec:=by
  cases rec;simp only at jP MI;subst jP MI;rfl
 refine aiM (k:=n) (R:=fun w2=>∃jO,lA ⟨W1,nR ι1 (HH s0++TT),HH s0++TT,ι1⟩ O1 jO (HH s'++TT) w2∧(∀x u,VR W (OO O1 ι (HH sp++TT)) ι (HH sp++TT) x u→VR w2 (OO O1 jO (HH s'++TT)) jO (HH s'++TT) x u)) kA hs.defers h0 h3 h4 N4 r1 r2 r3 r4 ?_ ?_
 ·refine aiL Fh h7 (run_beginRound N4 jP) tT (P2.mono ?_);rintro e w' ⟨v,rfl,jO,h5,h6⟩;obtain ⟨q1,q2,q3⟩:=yb.back I3 N4 (fun c ty fz=>by intro h;cases h) (fun c ty fz=>by intro h;cases h) h5;refine ⟨v,rfl,w'.putObj l (.loop rec),?_,jO,q2,fun x u hv=>((hv.mono AU).mono h6).mono q3⟩;rw [run_endRound none q1,yH];rfl
 ·rintro a' w' g1 g2 g3 g4 g5 ⟨jO,q1,q2⟩;refine ⟨_,jO,⟨rfl,.refl _⟩,⟨q1,g2,g1,hs.hand,fun t=>?_⟩⟩;have gd:∀ {t:Nat} {v:Value},a'.tmps[t]?=some v→a'.tmps.getD t undef=v:=fun h=>by
   rw [dH,h];rfl
  show VR w' _ jO _ (if 23=t then AV.base (.bool false) else if 0=t then AV.base (CU l) else if 1=t then AV.ptr (NN+1) 1 0 0 else if mu=t then AV.mem mm else .bad) _;split
  ·rename_i e;subst e;rw [gd g5];exact .base _
  ·split
   ·rename_i e;subst e;rw [gd g3];exact .base _
   ·split
    ·rename_i e;subst e;have h1:=hs.oV 1;have h1:VR W (OO O1 ι (HH sp++TT)) ι (HH sp++TT) (.ptr (NN+1) 1 0 0) (a.tmps.getD 1 undef):=h1;have e1:a'.tmps.getD 1 undef=a.tmps.getD 1 undef:=by rw [dH,dH,g4]
     rw [e1];exact q2 _ _ h1
    ·split
     ·have h1:VR W (OO O1 ι (HH sp++TT)) ι (HH sp++TT) (.mem mm) (a.tmps.getD mu undef):=A2;have h2:=q2 _ _ h1;cases h2 with
      | mem _ _ h=>exact .mem _ _ h
     ·exact .bad _
theorem agH {x y:Value} {T:Array Value}:(#[x,y]++T).getD 0 undef=x:=by
 rw [dH,fB ah];rfl
theorem agI {x y:Value} {T:Array Value}:(#[x,y]++T).getD 1 undef=y:=by
 rw [dH,fB ah];rfl
theorem aeV {mm:List (Nat×Obj)} {G:jv→Prop} (hG:Kt mm G) {s0:jv} (h0:G s0) {R:jv} (hR:R=wP (2001-s0.turns.length) s0) (Ku:s0.turns.length≤2000) {fn:FuncId} {W1:World} {ι1:Nat→Option Nat} {O1:Nat→Prop} {l x7:Nat} {rec:Loop}
 (hl:W1.heap[l]?=some (.loop rec)) (I3:O1 l) (jP:rec.state=.ready) (MI:rec.pending=none) (r1:rec.params=#[20]) (r2:rec.fn=fn) (r3:rec.assign=BD) (r4:rec.body=BE)
 (Fh:rec.tmps.size=25) (h7:rec.tmps[7]?=some (.pointer (some ⟨x7,0,none⟩))) (Fi:ι1 (NN)=some x7) (A8:∃c ty fz,W1.heap[x7]?=some (.cells c ty fz))
 (hS:lA ⟨W1,nR ι1 (HH s0++TT),HH s0++TT,ι1⟩ O1 ι1 (HH s0++TT) W1) {cx:Value} (sS:VR W1 (OO O1 ι1 (HH s0++TT)) ι1 (HH s0++TT) (.ptr (NN+1) 1 0 0) cx)
 (hm:∀q∈mm,¬OO O1 ι1 (HH s0++TT) q.1∧W1.heap[q.1]?=some q.2) :
 Calls Tryd.prog 84 #[CU l,cx] W1 fun e w'=>∃v,e=.returned v∧∃jO,lA ⟨W1,nR ι1 (HH s0++TT),HH s0++TT,ι1⟩ O1 jO (HH R++TT) w':=by
 have rW:¬nR ι1 (HH s0++TT) l:=fun ⟨b,hb,hx⟩=>hS.qp l b I3 hb hx;refine calls_of_wp Tryd.func84 (c:=(Tryd.f84.body).getD .skip) ag ?_;have hs:SR ⟨24,NN+2⟩ ⟨W1,nR ι1 (HH s0++TT),HH s0++TT,ι1⟩ O1 ⟨BF l mm,HH s0++TT⟩ ι1 { tmps:=#[CU l,cx]++Array.replicate 22 undef,defers:=[] } W1:=by
  refine ⟨hS,rfl,ah,by show (HH s0++TT).length=NN+2;rw [dK,kC];rfl,fun t=>?_⟩;show VR W1 _ ι1 _ (if 0=t then AV.base (CU l) else if 1=t then AV.ptr (NN+1) 1 0 0 else if mu=t then AV.mem mm else .bad) ((#[CU l,cx]++Array.replicate 22 undef).getD t undef);split
  ·rename_i e;subst e;rw [agH];exact .base _
  ·split
   ·rename_i e;subst e;rw [agI];exact sS
   ·split
    ·exact .mem _ _ hm
    ·exact .bad _
 have key:=agF hG h0 (w1:=⟨W1,nR ι1 (HH s0++TT),HH s0++TT,ι1⟩) (O:=O1) (l:=l) hR Ku (fun s n Hc B8 CK Lt=>aeU hl I3 rW jP MI r1 r2 r3 r4 Fh h7 Fi A8 B8 Lt CK);refine jh (key ι1 _ W1 hs) ?_;rintro e a w' ⟨s',jU,⟨he,sD⟩,ma⟩;obtain ⟨jO,jW⟩:=sD _ _ _ _ _ ma;have H6:(results Tryd.f84 a.tmps).run Tryd.prog w'=.ok (.tuple #[]) w':=by
  simp [results,Go.Proofs.Tryd.f84]
 rcases he with rfl|rfl
 ·exact ⟨jW.defers,_,H6,_,rfl,jO,jW.mP⟩
 ·exact ⟨jW.defers,_,H6,_,rfl,jO,jW.mP⟩
theorem aiN {mm:List (Nat×Obj)} {G:jv→Prop} (hG:Kt mm G) {s0:jv} (h0:G s0) {R:jv} (hR:R=wP (2001-s0.turns.length) s0) (Ku:s0.turns.length≤2000)
 {E:Env} {w0:nd} {O:Nat→Prop} {ι:Nat→Option Nat} {a:Act} {W:World} (hs:SR ⟨25,0⟩ w0 O ⟨E,HH s0++TT⟩ ι a W) (e7:lk E 7=.ptr (NN) 1 0 0) (e19:lk E 19=.j9 84 [.ptr (NN+1) 1 0 0]) (em:lk E mu=.mem mm) {Q:Exit→Act→World→Prop}
 (hQ:∀(W2:World) (jO:Nat→Option Nat) (x7:Nat) (u:Value),W2.heap[W.heap.size]?=some (.deferred (some []))→w0.w.heap.size≤W.heap.size→lA w0 (Cy O W) jO (HH R++TT) W2→a.tmps[7]?=some (.pointer (some ⟨x7,0,none⟩))→W2.cell? ⟨x7,0,none⟩=some u →
   VR W2 (OO (Cy O W) jO (HH R++TT)) jO (HH R++TT) jI u→Q .normal { tmps:=a.tmps,defers:=[{ target:=.collected W.heap.size,args:=#[] }] } W2) :
 (Code.block 0 (.rangeFunc (.tmp 19) #[20] BD BE)).wp Tryd.prog Q a W:=by
 refine wp_block ?_;refine (wpIn_wide (n:=1)).1 ?_;refine wpIn_rangeFunc fun fn _=>?_;have yb:=hs.mP;have kA:a.tmps.size=25:=hs.size;have v7:=hs.oV 7;rw [e7] at v7;obtain ⟨x7,Fi,hv7,A8⟩:∃x7,ι (NN)=some x7∧a.tmps.getD 7 undef=.pointer (some ⟨x7,0,none⟩)∧∃c ty fz,W.heap[x7]?=some (.cells c ty fz):=by
  generalize hu:a.tmps.getD 7 undef=U at v7;cases v7 with
  | ys b tot i off blk ad hb h=>rw [yy] at hb;injection hb with hb;subst hb;simp at h
  | ptr b tot i off blk x hb ht hi sS=>exact ⟨x,hi,ah,sS⟩
 have h7:a.tmps[7]?=some (.pointer (some ⟨x7,0,none⟩)):=Ms ae (by rw [hv7];exact .base _:VR W (OO O ι (HH s0++TT)) ι (HH s0++TT) (.base (.pointer (some ⟨x7,0,none⟩))) _);have Aa:=hs.oV 19;rw [e19] at Aa;obtain ⟨cx,avS,sS⟩:∃cx,a.tmps.getD 19 undef=.func (.func 84) #[] #[cx]∧VR W (OO O ι (HH s0++TT)) ι (HH s0++TT) (.ptr (NN+1) 1 0 0) cx:=by
  generalize hu:a.tmps.getD 19 undef=U at Aa;cases Aa with
  | j9 f cs arr hlen h =>
    obtain ⟨ls⟩:=arr
    match ls,hlen with
    | [cx],_=>exact ⟨cx,rfl,h 0 _ cx rfl rfl⟩
 have vm:=hs.oV mu;rw [em] at vm;obtain ⟨rec,yH⟩:∃rec:Loop,rec={ state:=.ready,pending:=none,fn:=fn,tmps:=a.tmps,params:=#[20],assign:=BD,body:=BE,defers:=W.heap.size }:=⟨_,rfl⟩
 have arP:=yb.more (o1:=.deferred (some [])) (o2:=.loop rec);have wX:=U0 (O:=O) (ι:=ι) (H:=HH s0++TT) (W:=W) (o1:=.deferred (some [])) (o2:=.loop rec);have hD:W.heap.size≤W.heap.size+1:=ae;refine ⟨W.heap.size+1,[{ target:=.collected W.heap.size,args:=#[] }],two W (.deferred (some [])) (.loop rec),{ target:=.fn (.func 84) #[cx],args:=#[CU (W.heap.size+1)] },two W (.deferred (some [])) (.loop rec),84,#[CU (W.heap.size+1),cx],two W (.deferred (some [])) (.loop rec),?_,?_,fun _ _=>trivial,?_,fun h=>dh,?_⟩
 ·rw [yH];exact run_enterLoop_outer fn a.tmps #[20] BD BE
 ·have hX:a.eval (.tmp 19)=.func (.func 84) #[] #[cx]:=avS;simp only [resolve,rangeCall,Deferred.ofValue,hX,dR,dV,dN];simp [Act.eval]
 ·simp only [invoke,Hp Tryd.func84 ag ag];rfl
 ·refine callsIn_wide.2 ?_;have P2:=aeV hG h0 hR Ku (fn:=fn) (l:=W.heap.size+1) (x7:=x7) (rec:=rec) (O1:=Cy O W) (ι1:=ι) (cx:=cx) WX (.inr (.inr rfl)) (by rw [yH]) (by rw [yH]) (by rw [yH]) (by rw [yH]) (by rw [yH]) (by rw [yH]) (by rw [yH];exact kA) (by rw [yH];exact h7) Fi
   (by obtain ⟨c,ty,fz,hc⟩:=A8;exact ⟨c,ty,fz,by rw [HB (vY hc)];exact hc⟩) arP (sS.mono wX) (by
     have h2:=vm.mono wX;cases h2 with
     | mem _ _ h=>exact h)
  refine P2.mono ?_;rintro e w' ⟨v,rfl,jO,h5⟩;obtain ⟨q1,q2,q3⟩:=yb.ahD h5;have zV:∀c ty fz,w'.heap[W.heap.size+1]?≠some (.cells c ty fz):=fun c ty fz e=>by rw [q3] at e;cases e
  have q4:=q1.XA (l:=W.heap.size+1) (o:=.loop { rec with state:=.exhausted }) (.inr (.inr rfl)) (by have:=yb.below.size;omega) zV;refine ⟨_,_,run_endLoop q3 (by rw [yH];simp),?_⟩;have hp:rec.pending=none:=by rw [yH]
  rw [hp];obtain ⟨b7,e7,_,f7⟩:=h5.pn.blk (NN) oq yy;rw [yy] at e7;injection e7 with e7;subst e7;have Lu:jO (NN)=some x7:=(f7 rfl).2.trans Fi;obtain ⟨c7,SW,SX,A8⟩:=A8;obtain ⟨SY,Rb,Rc,Kv,_⟩:=h5.pn.size (NN) x7 oq oq c7 SW SX yy yy rfl Fi (by rw [HB (vY A8)];exact A8);have hx:x7≠W.heap.size+1:=fun e=>by subst e;rw [q3] at Kv;cases Kv
  have Lv:VR (w'.putObj (W.heap.size+1) (.loop { rec with state:=.exhausted })) (OO (Cy O W) jO (HH R++TT)) jO (HH R++TT) (.ptr (NN) 1 0 0) (.pointer (some ⟨x7,0*oq.sz+0,none⟩)):=.ptr _ _ _ _ _ _ yy rfl Lu ⟨SY,Rb,Rc,by rw [Bf hx];exact Kv⟩;obtain ⟨y,hy,GX,mQ⟩:=Lv.HA q4 yy rfl (e:=jI) rfl;rw [Lu] at hy;injection hy with hy;subst hy;obtain ⟨u,tT,sb⟩:=mQ 0 jI rfl;have:=hQ _ jO x7 u (by rw [Bf ae];exact q2) yb.below.size q4 h7 (by simpa using tT) sb;have hd:a.defers=[]:=hs.defers;simpa [Exit.inBlock,hd,hp] using this
end Go.Ab
set_option maxHeartbeats 4000000
namespace Go.Ab
open Go Go.Ab Go.Proofs Go.Ab.Ty
theorem alB {s:jv} (hw:WF s):jS Tryd.prog 61 [jI] (HH s) (.j9 84 [.ptr NN 1 0 0]) (HH s++[oq]):=by
 have hlen:=kC s;refine jS.i2 [(0,jI)] 1 4 NN Tryd.func61 (kC s) ?_;refine Iw ?_;have hl:(HH s++[oq]).length=NN+1:=aP;have hr:∀b∈HH s++[oq],kI (·<NN) b:=fun b hb=>by
  rcases eg.1 hb with h|h
  ·exact vd hw _ h
  ·exact Xj b (by rw [dz] at h;subst h;simp)
 refine ⟨_,[.j9 84 [.ptr NN 1 0 0]],pre (NN+1),id,.refl _,bw,.pre (by rw [hl];omega) (fi _) hl fun j b1 b2 h1 h2=>?_,.j9 rfl fun j c d h1 h2=>?_⟩
 ·simp only at h1;rw [h1] at h2;injection h2 with h2;subst h2;refine ⟨rfl,rfl,rfl,fun i e e2 h3 h4=>?_⟩;rw [h3] at h4;injection h4 with h4;subst h4;refine ⟨rfl,fun k c c2 h5 h6=>?_⟩;rw [h5] at h6;injection h6 with h6;subst h6;exact (hr _ (dx h1) e (dx h3) c (dx h5)).tB fun b hb=>rF ae
 ·cases j with
  | zero=>cases h1;cases h2;exact .ptr (rF ae)
  | succ j=>cases h1
def wN (b:Bool) (n:Nat):Int:=if b then (if 200<n then 2 else 0) else 230
theorem Uc (p:Tk) (l:List Int) (b:Bool) (hb:b=true↔Rg.Ap p):Fn Tryd.prog 59 [kU p,.jA (l.map .int)] (.int (wN b l.length)):=by
 refine Fn.nZ [(0,kU p),(1,.jA (l.map .int))] 2 13 Tryd.func59 ag rfl rfl rfl rfl rfl ?_;refine jN ?_;refine oQ (Rg.aiJ p b hb) ?_;refine jN ?_;cases b with
 | false =>
   refine j8 ?_ rfl aa;refine jN ?_;exact kO.data (vs:=[.int 230]) rfl rfl (.base _)
 | true =>
   refine jK ?_ rfl aa;refine jN ?_;refine kL (fun hd=>?_) (fun hd=>?_)
   ·simp at hd;refine jN ?_;refine kO.data (vs:=[.int 2]) rfl ?_ (.base _);unfold wN;rw [ja rfl,ja ae];rfl
   ·simp at hd;refine jN ?_;refine kO.data (vs:=[.int 0]) rfl ?_ (.base _);unfold wN;rw [ja rfl,iZ ae];rfl
def mA (p:Tk) (sched:List Int) (no na:Nat) (jE:List (List Int)):jv:=⟨p,sched,0,List.replicate no (0,-1),[],[],[],[],[],[],List.range na,[],jE,[]⟩
abbrev uo:List Int:=List.replicate 32 0
abbrev m32:List Int:=List.replicate 32 (-1)
def mT (na np:Nat):List Int:=(List.range np).map fun i=>((na+i:Nat):Int)
noncomputable def vI (p:Tk) (sched:List Int) (cd:Cd):jv:=
 oU (mA p sched (p.mb.toNat+cd.params.toNat) p.mb.toNat (List.replicate (p.mb.toNat+1) m32)) cd (mT p.mb.toNat cd.params.toNat) m32 0 (-1) false
theorem WK {p:Tk} {sched:List Int} {no na:Nat} {jE:List (List Int)} (h1:no≤1000000) (h2:na≤jE.length) (h3:na≤1000) (h4:sched.length≤1000000) (h5:jE.length≤MM) (h6:∀l∈jE,l.length=32):Iv (mA p sched no na jE):=by
 have hn:∀ {α:Type} {k:Nat} {x:α},([]:List α)[k]?=some x→False:=fun h=>bQ;refine ⟨⟨cR,cR,h5,cR,h6,cR,fun j hj=>?_,cR,cR,cR,rfl,⟨by simpa [mA] using h1,cR,cR,cR,cR,by simpa [mA] using h3,h4⟩,cR,cR⟩,⟨fun k t h=>(hn h).elim⟩,fun k t h=>(hn h).elim,fun k t h=>(hn h).elim,fun k t h=>(hn h).elim,fun k t h=>(hn h).elim,fun k t h=>(hn h).elim,fun k t k' t' i i' j h=>(hn h).elim,fun c hc=>by simp [mA] at hc,fun k t j c h=>(hn h).elim⟩;have:=eU.1 hj;show j<jE.length;omega
theorem PE {p:Tk} {sched:List Int} {no na:Nat} {jE:List (List Int)}:(mA p sched no na jE).ll 0=mA p sched (no+1) na jE:=by
 simp [mA,jv.ll,fF]
theorem aiO {p:Tk} {sched:List Int} {no na:Nat} {jE:List (List Int)} {l:List Int}:(mA p sched no na jE).ld l=mA p sched no na (jE++[l]):=rfl
def CA (s:jv) (k:Nat):jv:={ s with jV:=s.jV++[k] }
theorem aeW {p:Tk} {sched:List Int} {no na:Nat} {jE:List (List Int)}:CA (mA p sched no na jE) na=mA p sched no (na+1) jE:=by
 simp [mA,CA,gE]
theorem anQ {s:jv} {k:Nat}:((HH s).set (ix .at') ⟨25,1,s.jV.map lS++[lS k]⟩).set (ix .rn) (lE (CA s k))=HH (CA s k):=by
 refine tZ (s:=s) (s':=CA s k) [(.at',_),(.rn,_)] (vF ⟨zt,?_⟩ ⟨mc,rfl⟩) fun a ha=>?_
 ·simp [blk,CA]
 ·cases a<;>first|rfl|simp at ha
theorem anR {p:Tk} {sched:List Int} {T:List jy} (hT:T.length=NN-9) (Dz:∀i,i<NN-9→T[i]?=some (blk (mA p sched 0 0 []) (nm (9+i)))) :
 [lE (mA p sched 0 0 []),⟨157,2,[]⟩,⟨84,1,[]⟩,⟨9,1,[]⟩,⟨73,4,[]⟩,jD [],⟨25,1,[]⟩,⟨25,1,[]⟩,⟨25,1,[]⟩]++T=HH (mA p sched 0 0 []):=by
 have SN:9≤NN:=by unfold NN;omega
 refine Xk (by simp [hT];omega) fun a ha=>?_;have hl:=mq ha;by_cases h:ix a<9
 ·cases a<;>first|rfl|(simp only [ix] at h;omega)
 ·rw [dJ aj];have:=Dz (ix a-9) ae;rw [show 9+(ix a-9)=ix a by omega,HW] at this;exact this
theorem alC (p:Tk) (sched:List Int):∃T:List jy,(∀b∈T,b.es=[]) ∧
 [lE (mA p sched 0 0 []),⟨157,2,[]⟩,⟨84,1,[]⟩,⟨9,1,[]⟩,⟨73,4,[]⟩,jD [],⟨25,1,[]⟩,⟨25,1,[]⟩,⟨25,1,[]⟩]++T=HH (mA p sched 0 0 []):=by
 have SN:9≤NN:=by unfold NN;omega
 have hg:∀i,i<NN-9→((HH (mA p sched 0 0 [])).drop 9)[i]?=some (blk (mA p sched 0 0 []) (nm (9+i))):=fun i hi=>by
  rw [fU];have:=qS (mA p sched 0 0 []) (nm (9+i)) (by rw [CI];omega);rw [CI] at this;exact this
 refine ⟨(HH (mA p sched 0 0 [])).drop 9,fun b hb=>?_,anR (by rw [gb,kC]) hg⟩;obtain ⟨i,hi⟩:=eC hb;have nq:i<NN-9:=by
  have:=(dt hi).1;rw [gb,kC] at this;exact this
 rw [hg i nq] at hi;injection hi with hi;subst hi;have h9:=CI (9+i);cases h:nm (9+i)<;>rw [h] at h9<;>first|(simp only [ix] at h9;omega)|rfl
theorem UI {s s':jv} (hw:WF s) (tC:WF s') {ρ:Operand→AV} {c:Call} {fx:Operand} {f:FuncId} {caps args:List AV} {d:AV} (hf:jS Tryd.prog f args (HH s) d (HH s')) (hc:c.callee=.value fx) (qL:ρ fx=.j9 f caps) (ha:c.args.toList.map ρ++caps=args) (hr:∀a∈args,mR (·<NN) a) (hd:mR (·<NN) d):PL Tryd.prog (HH s) ρ (.call c) d (HH s'):=by
 have:=sf hw tC (T:=[]) hf hc qL ha hr hd;simpa using this
theorem Vi {s:jv} (hw:WF s) {ρ:Operand→AV} {x y:Operand} (hM:s.jE.length<MM) (hx:ρ x=.int 32) (hy:ρ y=.int 32) {T:List jy} (hT:∀b∈T,kI (Nb (HH s++T).length (ix (.jX s.jE.length))) b):PL Tryd.prog (HH s++T) ρ (.makeSlice 25 x y) (lS s.jE.length) (HH (s.ld uo)++T):=by
 have h1:=JA (P:=Tryd.prog) (H:=HH s++T) (ρ:=ρ) (n:=32) (m:=32) hx hy dG ug D5 ag az az az az;exact .jX hw hM rfl h1 hT
theorem agJ {s:jv} (hw:WF s) {ρ:Operand→AV} {x y:Operand} (hM:s.jE.length<MM) (hx:ρ x=.int 32) (hy:ρ y=.int 32):PL Tryd.prog (HH s) ρ (.makeSlice 25 x y) (lS s.jE.length) (HH (s.ld uo)):=by
 have:=Vi hw hM hx hy (T:=[]) ah;simpa using this
theorem Wk.arQ {n:Fr} {s:jv} (hw:WF s) {T:List jy} {E E2:Env} (hm:n.m≤NN) (h:wv (pre NN) (HH s++T) E E2):Wk n ⟨E,HH s++T⟩ ⟨E2,HH s⟩:=
 Wk.pQ (q:=id) (.pre aP hm (kC s) fun j b1 b2 h1 h2=>by
  have hj:=(dt h2).1;rw [dA hj,h2] at h1;injection h1 with h1;subst h1;refine ⟨rfl,rfl,rfl,fun i e e2 h3 h4=>?_⟩;rw [h3] at h4;injection h4 with h4;subst h4;refine ⟨rfl,fun k c c2 h5 h6=>?_⟩;rw [h5] at h6;injection h6 with h6;subst h6;exact (vd hw b2 (dx h2) e (dx h3) c (dx h5)).tB fun b hb=>rF hb) (wv.all h)
theorem anS:pre NN NN=none:=by unfold pre;rw [iZ ae]
def zC (j:Nat):List Int:=List.replicate j (-1)++List.replicate (32-j) 0
theorem agK {j:Nat} (h:j≤32):(zC j).length=32:=by simp [zC];omega
theorem agL {j:Nat} (h:j<32):(zC j)[j]?=some 0:=by
 unfold zC;rw [dJ ah,fk];simp;omega
theorem agM {j:Nat} (h:j<32):(zC j).set j (-1)=zC (j+1):=by
 unfold zC;rw [eY _ _ ah,eB,eT,show 32-j=(32-(j+1))+1 by omega,fQ,fV,fF (n:=j),eA];rfl
theorem kY.runM {rs:List ResultVar} {n:Fr} {d:AV} {s':jv} {E:Env} {H T:List jy} {vs:List AV} (hw:WF s') (hm:n.m≤NN) (hv:o6 Tryd.prog ⟨E,H⟩ rs=some vs) (hH:H=HH s'++T) (hd:mL (pre NN) H (rG vs) d):kY Tryd.prog rs n d (HH s') ⟨E,H⟩:=by
 have hl:=kC s';refine ⟨_,vs,pre NN,id,.refl _,hv,.pre (by rw [hH];simp [hl]) hm hl fun j b1 b2 h1 h2=>?_,hd⟩;have hj:=(dt h2).1;simp only at h1;rw [hH,dA hj,h2] at h1;injection h1 with h1;subst h1;refine ⟨rfl,rfl,rfl,fun i e e2 h3 h4=>?_⟩;rw [h3] at h4;injection h4 with h4;subst h4;refine ⟨rfl,fun k c c2 h5 h6=>?_⟩;rw [h5] at h6;injection h6 with h6;subst h6;exact (vd hw b2 (dx h2) e (dx h3) c (dx h5)).tB fun b hb=>rF hb
end Go.Ab
set_option maxHeartbeats 4000000
namespace Go.Ab
open Go Go.Ab Go.Proofs Go.Ab.Ty Go.RowKit
theorem anT {p:Tk} {sched:List Int} {cd:Cd} {na np:Nat} (Ll:p.mb=na) (aDv:na≤100) (mY:p.kT[0]?=some cd) (I1:cd.params=np) (aDw:np≤1000) (hv:(np:Int)≤cd.vars) (lI:cd.vars≤1000) (mh:cd.steps.length≤1000) (mV:sched.length≤1000000) :
 jS Tryd.prog 60 [kU p,.jA (sched.map .int)] [] jI (HH (vI p sched cd)):=by
 obtain ⟨co,me,ac⟩:=p;simp only at Ll mY;subst Ll;have ur:∀ {c:AV},c∈(kU ⟨co,me,na⟩).cells→Pu c:=fun {c} hc=>Rg.O7 _ c hc;refine jS.i2 [(0,kU ⟨co,me,na⟩),(1,.jA (sched.map .int))] 2 81 0 Tryd.func60 rfl ?_;refine jG.seq ?_;refine jG.join ⟨[(1,.jA (sched.map .int)),(2,.kN (kU ⟨co,me,na⟩) 0),(0,kU ⟨co,me,na⟩),(4,.base (.pointer none))],[]⟩ ?_ ?_
 ·refine yj ?_;refine jw ?_;refine Wk.Ee [] gK (fun b hb=>by simp at hb) trivial (wv.all ⟨.pu (l7 _),.kN rfl rfl rfl rfl ⟨.pu (nz _),.pu (nz _),.pu (.base _),trivial⟩,(mL.pu (Bi ⟨co,me,na⟩)),.pu (.base _),trivial⟩)
 refine jw ?_;refine x9 (cs:=[.jA (co.map kx),.jA (me.map kx),.int na,.jA (sched.map .int),.int 0,kD,kD,kD,kD,kD,kD,kD,kD]) avT anU ?_;refine jw ?_;refine jG.weaken (Wk.rQ (E2:=[(1,.jA (sched.map .int)),(2,.kN (kU ⟨co,me,na⟩) 0),(4,.base (.pointer none)),(5,.ptr 0 1 0 0),(15,.int na),(16,.int 0)]) (H2:=[⟨83,13,[.agg [.jA (co.map kx),.jA (me.map kx),.int na,.jA (sched.map .int),.int 0,.own 1 0 0 0,kD,kD,kD,kD,kD,kD,kD]]⟩]) 157 2 ⟨.one ⟨.pu (nz _),.pu (nz _),.pu (.base _),.pu (l7 _),.pu (.base _),.nil rfl,.pu (.base _),.pu (.base _),.pu (.base _),.pu (.base _),.pu (.base _),.pu (.base _),.pu (.base _),trivial⟩,trivial⟩ ⟨.pu (l7 _),.pu (.kN fun c hc=>ur hc),.pu (.base _),.ptr,.pu (.base _),.pu (.base _),trivial⟩) ?_;refine jG.weaken (Wk.rQ (E2:=[(1,.jA (sched.map .int)),(2,.kN (kU ⟨co,me,na⟩) 0),(4,.base (.pointer none)),(5,.ptr 0 1 0 0),(15,.int na),(16,.int 0)]) (H2:=[⟨83,13,[.agg [.jA (co.map kx),.jA (me.map kx),.int na,.jA (sched.map .int),.int 0,.own 1 0 0 0,.own 2 0 0 0,kD,kD,kD,kD,kD,kD]]⟩,⟨157,2,[]⟩]) 84 1 ⟨.one ⟨.pu (nz _),.pu (nz _),.pu (.base _),.pu (l7 _),.pu (.base _),.own,.nil rfl,.pu (.base _),.pu (.base _),.pu (.base _),.pu (.base _),.pu (.base _),.pu (.base _),trivial⟩,.pu (fun e he=>aJ),trivial⟩ ⟨.pu (l7 _),.pu (.kN fun c hc=>ur hc),.pu (.base _),.ptr,.pu (.base _),.pu (.base _),trivial⟩) ?_;refine jG.weaken (Wk.rQ (E2:=[(1,.jA (sched.map .int)),(2,.kN (kU ⟨co,me,na⟩) 0),(4,.base (.pointer none)),(5,.ptr 0 1 0 0),(15,.int na),(16,.int 0)]) (H2:=[⟨83,13,[.agg [.jA (co.map kx),.jA (me.map kx),.int na,.jA (sched.map .int),.int 0,.own 1 0 0 0,.own 2 0 0 0,.own 3 0 0 0,kD,kD,kD,kD,kD]]⟩,⟨157,2,[]⟩,⟨84,1,[]⟩]) 9 1 ⟨.one ⟨.pu (nz _),.pu (nz _),.pu (.base _),.pu (l7 _),.pu (.base _),.own,.own,.nil rfl,.pu (.base _),.pu (.base _),.pu (.base _),.pu (.base _),.pu (.base _),trivial⟩,.pu (fun e he=>aJ),.pu (fun e he=>aJ),trivial⟩ ⟨.pu (l7 _),.pu (.kN fun c hc=>ur hc),.pu (.base _),.ptr,.pu (.base _),.pu (.base _),trivial⟩) ?_;refine jG.weaken (Wk.rQ (E2:=[(1,.jA (sched.map .int)),(2,.kN (kU ⟨co,me,na⟩) 0),(4,.base (.pointer none)),(5,.ptr 0 1 0 0),(15,.int na),(16,.int 0)]) (H2:=[⟨83,13,[.agg [.jA (co.map kx),.jA (me.map kx),.int na,.jA (sched.map .int),.int 0,.own 1 0 0 0,.own 2 0 0 0,.own 3 0 0 0,.own 4 0 0 0,kD,kD,kD,kD]]⟩,⟨157,2,[]⟩,⟨84,1,[]⟩,⟨9,1,[]⟩]) 73 4 ⟨.one ⟨.pu (nz _),.pu (nz _),.pu (.base _),.pu (l7 _),.pu (.base _),.own,.own,.own,.nil rfl,.pu (.base _),.pu (.base _),.pu (.base _),.pu (.base _),trivial⟩,.pu (fun e he=>aJ),.pu (fun e he=>aJ),.pu (fun e he=>aJ),trivial⟩ ⟨.pu (l7 _),.pu (.kN fun c hc=>ur hc),.pu (.base _),.ptr,.pu (.base _),.pu (.base _),trivial⟩) ?_;refine jG.weaken (Wk.rQ (E2:=[(1,.jA (sched.map .int)),(2,.kN (kU ⟨co,me,na⟩) 0),(4,.base (.pointer none)),(5,.ptr 0 1 0 0),(15,.int na),(16,.int 0)]) (H2:=[⟨83,13,[.agg [.jA (co.map kx),.jA (me.map kx),.int na,.jA (sched.map .int),.int 0,.own 1 0 0 0,.own 2 0 0 0,.own 3 0 0 0,.own 4 0 0 0,.own 5 0 0 0,kD,kD,kD]]⟩,⟨157,2,[]⟩,⟨84,1,[]⟩,⟨9,1,[]⟩,⟨73,4,[]⟩]) 3 1 ⟨.one ⟨.pu (nz _),.pu (nz _),.pu (.base _),.pu (l7 _),.pu (.base _),.own,.own,.own,.own,.nil rfl,.pu (.base _),.pu (.base _),.pu (.base _),trivial⟩,.pu (fun e he=>aJ),.pu (fun e he=>aJ),.pu (fun e he=>aJ),.pu (fun e he=>aJ),trivial⟩ ⟨.pu (l7 _),.pu (.kN fun c hc=>ur hc),.pu (.base _),.ptr,.pu (.base _),.pu (.base _),trivial⟩) ?_;refine jG.weaken (Wk.rQ (E2:=[(1,.jA (sched.map .int)),(2,.kN (kU ⟨co,me,na⟩) 0),(4,.base (.pointer none)),(5,.ptr 0 1 0 0),(15,.int na),(16,.int 0)]) (H2:=[⟨83,13,[.agg [.jA (co.map kx),.jA (me.map kx),.int na,.jA (sched.map .int),.int 0,.own 1 0 0 0,.own 2 0 0 0,.own 3 0 0 0,.own 4 0 0 0,.own 5 0 0 0,.own 6 0 0 0,kD,kD]]⟩,⟨157,2,[]⟩,⟨84,1,[]⟩,⟨9,1,[]⟩,⟨73,4,[]⟩,jD []]) 25 1 ⟨.one ⟨.pu (nz _),.pu (nz _),.pu (.base _),.pu (l7 _),.pu (.base _),.own,.own,.own,.own,.own,.nil rfl,.pu (.base _),.pu (.base _),trivial⟩,.pu (fun e he=>aJ),.pu (fun e he=>aJ),.pu (fun e he=>aJ),.pu (fun e he=>aJ),.pu (fun e he=>aJ),trivial⟩ ⟨.pu (l7 _),.pu (.kN fun c hc=>ur hc),.pu (.base _),.ptr,.pu (.base _),.pu (.base _),trivial⟩) ?_;refine jG.weaken (Wk.rQ (E2:=[(1,.jA (sched.map .int)),(2,.kN (kU ⟨co,me,na⟩) 0),(4,.base (.pointer none)),(5,.ptr 0 1 0 0),(15,.int na),(16,.int 0)]) (H2:=[⟨83,13,[.agg [.jA (co.map kx),.jA (me.map kx),.int na,.jA (sched.map .int),.int 0,.own 1 0 0 0,.own 2 0 0 0,.own 3 0 0 0,.own 4 0 0 0,.own 5 0 0 0,.own 6 0 0 0,.own 7 0 0 0,kD]]⟩,⟨157,2,[]⟩,⟨84,1,[]⟩,⟨9,1,[]⟩,⟨73,4,[]⟩,jD [],⟨25,1,[]⟩]) 25 1 ⟨.one ⟨.pu (nz _),.pu (nz _),.pu (.base _),.pu (l7 _),.pu (.base _),.own,.own,.own,.own,.own,.own,.nil rfl,.pu (.base _),trivial⟩,.pu (fun e he=>aJ),.pu (fun e he=>aJ),.pu (fun e he=>aJ),.pu (fun e he=>aJ),.pu (fun e he=>aJ),.pu (fun e he=>aJ),trivial⟩ ⟨.pu (l7 _),.pu (.kN fun c hc=>ur hc),.pu (.base _),.ptr,.pu (.base _),.pu (.base _),trivial⟩) ?_;refine jG.weaken (Wk.rQ (E2:=[(1,.jA (sched.map .int)),(2,.kN (kU ⟨co,me,na⟩) 0),(4,.base (.pointer none)),(5,.ptr 0 1 0 0),(15,.int na),(16,.int 0)]) (H2:=[⟨83,13,[.agg [.jA (co.map kx),.jA (me.map kx),.int na,.jA (sched.map .int),.int 0,.own 1 0 0 0,.own 2 0 0 0,.own 3 0 0 0,.own 4 0 0 0,.own 5 0 0 0,.own 6 0 0 0,.own 7 0 0 0,.own 8 0 0 0]]⟩,⟨157,2,[]⟩,⟨84,1,[]⟩,⟨9,1,[]⟩,⟨73,4,[]⟩,jD [],⟨25,1,[]⟩,⟨25,1,[]⟩]) 25 1 ⟨.one ⟨.pu (nz _),.pu (nz _),.pu (.base _),.pu (l7 _),.pu (.base _),.own,.own,.own,.own,.own,.own,.own,.nil rfl,trivial⟩,.pu (fun e he=>aJ),.pu (fun e he=>aJ),.pu (fun e he=>aJ),.pu (fun e he=>aJ),.pu (fun e he=>aJ),.pu (fun e he=>aJ),.pu (fun e he=>aJ),trivial⟩ ⟨.pu (l7 _),.pu (.kN fun c hc=>ur hc),.pu (.base _),.ptr,.pu (.base _),.pu (.base _),trivial⟩) ?_;obtain ⟨T,Lm,Dz⟩:=alC ⟨co,me,na⟩ sched;refine jG.weaken (Wk.pad (fun q hq=>by
  simp only [dC,dB,jd] at hq;rcases hq with rfl|rfl|rfl|rfl|rfl|rfl<;>exact .refl _) T Lm) ?_
 refine jG.weaken (s2:=⟨[(1,.jA (sched.map .int)),(2,.kN (kU ⟨co,me,na⟩) 0),(4,.base (.pointer none)),(5,jI),(15,.int na),(16,.int 0)],HH (mA ⟨co,me,na⟩ sched 0 0 [])⟩) (by rw [← Dz];exact .refl _) ?_;clear Lm Dz;have hI:∀ {no a:Nat} {jE:List (List Int)},no≤1000000→a≤jE.length→a≤1000→jE.length≤1000→(∀l∈jE,l.length=32)→Iv (mA ⟨co,me,na⟩ sched no a jE):=fun h1 h2 h3 h5 h6=>WK h1 h2 h3 mV (by rw [vB];omega) h6;refine jG.loop (J:=fun i:Nat=>i≤na) (fun i=>⟨[(1,.jA (sched.map .int)),(2,.kN (kU ⟨co,me,na⟩) 0),(4,.base (.pointer none)),(5,jI),(15,.int na),(16,.int i)],HH (mA ⟨co,me,na⟩ sched i i (List.replicate i uo))⟩) (fun i=>na-i) 0 (dL _) .wf ?_;rintro i hi;by_cases kn:i<na
 ·have hd:decide ((i:Int)<(na:Int))=true:=jf ae;obtain ⟨s,hs⟩:∃s,s=mA ⟨co,me,na⟩ sched i i (List.replicate i uo):=⟨_,rfl⟩
  have Eu:∀ {k:Nat},∀l∈List.replicate k uo,l.length=32:=fun l hl=>by rw [gN hl];rfl
  have hw:WF s:=by rw [hs];exact (hI ae ah ae aj Eu).wf
  have lj:WF (s.ll 0):=by rw [hs,PE];exact (hI ae ah ae aj Eu).wf
  have pt:s.jL.length≤900000:=by rw [hs];simp [mA];omega
  have hlen:=kC s;have is:=Ck hw 0 pt;obtain ⟨s2,jW⟩:∃s2,s2=s.ll 0:=⟨_,rfl⟩
  obtain ⟨sP,nS⟩:∃sP,sP=s2.ld uo:=⟨_,rfl⟩
  rw [← jW] at is lj;rw [← hs];have ma:=Hid.mk hs;have pz:=Hid.mk jW;have BG:=Hid.mk nS;clear hs jW nS;refine jw ?_;refine j8 ?_ rfl aa;refine jw ?_;refine jB.p2 (UI hw lj is rfl aa aa (by
   intro a ha;simp only [dC,dB,jd] at ha;rcases ha with rfl|rfl
   ·exact .ptr mc
   ·exact .pu (.base _)) (.pu (.base _))) ?_
  refine IA ?_;refine Bq ?_;have avU:s2.jE.length<MM:=by rw [pz.out,ma.out,vB];simp [jv.ll,mA];omega
  have tu:s2.jV.length≤1000:=by rw [pz.out,ma.out];simp [jv.ll,mA];omega
  have SZ:sP.jV=s2.jV:=by rw [BG.out];rfl
  have I4:∀(ρ:Operand→AV) (x y:Operand),ρ x=.int 32→ρ y=.int 32→PL Tryd.prog (HH s2) ρ (.makeSlice 25 x y) (lS s2.jE.length) (HH sP):=fun ρ x y hx hy=>by
   rw [BG.out];exact agJ lj avU hx hy
  obtain ⟨s8,A9⟩:∃s8,s8=CA sP s2.jE.length:=⟨_,rfl⟩
  have lF:=anQ (s:=sP) (k:=s2.jE.length);have hr:lE (CA sP s2.jE.length)=⟨83,13,[.agg [.jA (sP.p.kT.map kx),.jA (sP.p.methods.map kx),.int sP.p.mb,.jA (sP.sched.map .int),.int sP.used,.own (ix .ob) sP.jL.length 0 sP.jL.length,.own (ix .tk) sP.tasks.length 0 sP.tasks.length,.own (ix .ln) sP.lines.length 0 sP.lines.length,.own (ix .ac) sP.jT.length 0 sP.jT.length,.own (ix .tn) sP.turns.length 0 sP.turns.length,.own (ix .ck) sP.kK.length 0 sP.kK.length,.own (ix .en) sP.ends.length 0 sP.ends.length,.own (ix .at') (s2.jV.length+1) 0 (s2.jV.length+1)]]⟩:=by
   simp only [lE,CA,dK,dO,SZ]
  rw [hr,← A9,SZ] at lF;obtain ⟨LC,Ac⟩:∃LC,LC=(HH sP).set (ix .at') ⟨25,1,s2.jV.map lS++[lS s2.jE.length]⟩:=⟨_,rfl⟩
  have xP:LC.length=NN:=by rw [Ac,qG,kC]
  have Fj:LC[ix .rn]?=some (lE sP):=by rw [Ac,qQ (kC sP) zt,iZ ah,qS sP _ mc];rfl
  simp only [lE,SZ] at Fj;rw [← Ac] at lF;have h8:s8=mA ⟨co,me,na⟩ sched (i+1) (i+1) (List.replicate (i+1) uo):=by
   have e1:s2=mA ⟨co,me,na⟩ sched (i+1) i (List.replicate i uo):=by rw [pz.out,ma.out,PE]
   have e2:s2.jE.length=i:=by rw [e1];simp [mA]
   rw [A9,BG.out,e2,e1,aiO,aeW,fF]
  have Yt:=Hid.mk A9;have Rd:=Hid.mk Ac;have h8':=Hid.mk h8;have aCS:=kC sP;have FR:=kC s2;clear A9 Ac hr h8 hw lj is;refine atI (k:=8) [none,none,none,none,none,some 0,none,some 1] (fun k=>match k with
   | 0=>HH s2
   | 1=>HH sP
   | _=>LC) 2 follows ?_
  refine tV ?_;refine tV ?_;refine tV ?_;refine tV ?_;refine tV ?_;refine ko.p1 (v:=lS s2.jE.length) rfl rfl (fun kB h=>I4 kB _ _ ((h (.const (.int .i64 32)) au).trans rfl) ((h (.const (.int .i64 32)) au).trans rfl)) ?_;refine ko.q1 (v:=.jA [lS s2.jE.length]) rfl rfl (fun c _=>DX fb Ej az ag az aC aC rfl) ?_;refine ko.p1 (v:=.own (ix .at') (s2.jV.length+1) 0 (s2.jV.length+1)) rfl rfl (fun kB h=>?_) ?_
  ·have h1:=tX (P:=Tryd.prog) (ρ:=kB) (H:=HH sP) (b:=ix .at') (tot:=s2.jV.length) (es:=[lS s2.jE.length]) (blk:=⟨25,1,s2.jV.map lS⟩) ((h (.tmp 24) ai).trans aa) ((h (.tmp 26) ai).trans aa) aa ah fb M8 rfl rfl ah (fun e he=>aw) aj aj;rw [← Rd.out] at h1;exact h1
  refine ko.nil ?_;refine jw ?_;rw [l6 ae];refine ⟨i+1,ae,ae,?_⟩;rw [← h8'.out];exact .wf (hH:=aa)
 have wz:na=i:=ae;subst wz;have hd:decide ((na:Int)<(na:Int))=false:=je ae;have Eu:∀ {k:Nat} {x:Int},∀l∈List.replicate k (List.replicate 32 x),l.length=32:=fun l hl=>by rw [gN hl];simp
 have zL:(co.map kx)[0]?=some (kx cd):=by rw [dE,mY];rfl
 obtain ⟨S,hS⟩:∃S:Nat→jv,S=fun k=>mA ⟨co,me,na⟩ sched (na+k) na (List.replicate na uo):=⟨_,rfl⟩
 have hw:∀k,k≤np→WF (S k):=fun k hk=>by rw [hS];exact (hI ae ah ae aj Eu).wf
 have hlen:∀k,(HH (S k)).length=NN:=fun k=>kC _;have tP:∀k,(S k).ll 0=S (k+1):=fun k=>by rw [hS];exact PE
 have oT:∀k,(S k).jL.length=na+k:=fun k=>by rw [hS];simp [mA]
 have GH:mA ⟨co,me,na⟩ sched na na (List.replicate na uo)=S 0:=by rw [hS];rfl
 rw [GH];have I2:=Hid.mk hS;clear hS GH;refine jw ?_;refine jK ?_ rfl aa;refine jw ?_;refine jB.q2 (wC aa aa eO ae (e:=kx cd) (by exact zL) ag) ?_;refine jw ?_;refine jG.weaken (Wk.rQ (E2:=[(2,.kN (kU ⟨co,me,na⟩) 0),(5,jI),(6,.own NN 0 0 0),(35,.int np),(36,.int 0)]) (H2:=HH (S 0)) 3 1 (sO.rf (S:=(·<NN)) (vd (hw 0 ae))) ⟨.pu (.kN fun c hc=>ur hc),.ptr,.nil (hlen 0),.pu (.base _),.pu (.base _),trivial⟩) ?_;refine jG.loop (J:=fun k:Nat=>k≤np) (fun k=>⟨[(2,.kN (kU ⟨co,me,na⟩) 0),(5,jI),(6,.own NN k 0 k),(35,.int np),(36,.int k)],HH (S k)++[jD (mT na k)]⟩) (fun k=>np-k) 0 (dL _) .wf ?_;rintro k hk;by_cases Kg:k<np
 ·have mo:decide ((k:Int)<(np:Int))=true:=jf ae;have is:=Ck (hw k hk) 0 (by rw [oT];omega);rw [tP,oT] at is;have sD:=hw k hk;have IM:=hw (k+1) ae;have oY:=hlen k;have sW:=hlen (k+1);have mf:(mT na k).length=k:=by simp [mT]
  have kV:jD (mT na (k+1))=⟨3,1,(mT na k).map AV.int++[.int ((na+k:Nat):Int)]⟩:=by simp [mT,gE]
  clear hd;refine jw ?_;refine j8 ?_ rfl aa;refine jw ?_;refine jB.p2 (sf sD IM (T:=[jD (mT na k)]) is rfl aa aa (by
   intro a ha;simp only [dC,dB,jd] at ha;rcases ha with rfl|rfl
   ·exact .ptr mc
   ·exact .pu (.base _)) (.pu (.base _))) ?_
  refine jw ?_;refine jB.p2 (tX (b:=NN) (tot:=k) (es:=[.int ((na+k:Nat):Int)]) (blk:=jD (mT na k)) aa aa aa (by simp [mf]) dG ug rfl rfl ah (fun e he=>aw) aj aj) ?_;refine jw ?_;rw [l6 ae];refine ⟨k+1,ae,ae,?_⟩;exact .wf (hH:=by rw [kV])
 have Ha:np=k:=ae;subst Ha;have mo:decide ((np:Int)<(np:Int))=false:=je ae;have sD:=hw np ae;have oY:=hlen np;have mf:(mT na np).length=np:=by simp [mT]
 obtain ⟨s,hs⟩:∃s,s=S np:=⟨_,rfl⟩
 rw [← hs] at sD oY ⊢;have Lw:s=mA ⟨co,me,na⟩ sched (na+np) na (List.replicate na uo):=by rw [hs,I2.out]
 have hsH:=Hid.mk Lw;have nG:s.jE.length=na:=by rw [Lw];simp [mA]
 have aDx:s.jV.length=na:=by rw [Lw];simp [mA]
 obtain ⟨sP,nS⟩:∃sP,sP=s.ld uo:=⟨_,rfl⟩
 have I4:∀(ρ:Operand→AV) (x y:Operand),ρ x=.int 32→ρ y=.int 32→PL Tryd.prog (HH s++[jD (mT na np)]) ρ (.makeSlice 25 x y) (lS na) (HH sP++[jD (mT na np)]):=fun ρ x y hx hy=>by
  have:=Vi sD (T:=[jD (mT na np)]) (by rw [nG,vB];omega) hx hy (JP rE);rw [nG,← nS] at this;exact this
 obtain ⟨U,hU⟩:∃U:List Int→jv,U=fun l=>mA ⟨co,me,na⟩ sched (na+np) na (List.replicate na uo++[l]):=⟨_,rfl⟩
 have hU0:sP=U uo:=by rw [nS,Lw,hU];rfl
 have hnM:na<MM:=by rw [vB];omega
 have ni:ix (.jX na)<NN:=mq hnM;have S3:∀l:List Int,l.length=32→WF (U l):=fun l hl=>by
  rw [hU];refine (hI ae ah ae aj fun x hx=>?_).wf;rcases eg.1 hx with hx|hx
  ·exact Eu x hx
  ·rw [dz] at hx;subst hx;exact hl
 have hUg:∀l:List Int,(HH (U l))[ix (.jX na)]?=some (jD l):=fun l=>by
  rw [qS _ _ ni];simp only [blk];rw [hU];simp [mA]
 have Dq:∀l l':List Int,(HH (U l)).set (ix (.jX na)) (jD l')=HH (U l'):=fun l l'=>by
  rw [PF (s:=U l) (x:=na) (l:=l') (by rw [hU];simp [mA]) ni,hU];simp [mA]
 have E0:∀l:List Int,(HH (U l)).length=NN:=fun l=>kC _;rw [hU0] at I4;have S4:∀l:List Int,(U l).jE[na]?=some l:=fun l=>by rw [hU];simp [mA]
 have hUH:=Hid.mk hU;have wx:=E0 uo;have BX:=S3 uo rfl;clear hs Lw I2 hw hlen tP oT hd nS hU0 hU;refine jw ?_;refine jK ?_ rfl aa;refine jw ?_;refine jB.p2 (I4 _ _ _ rfl rfl) ?_;clear I4;have hz:(uo:List Int).length=32:=rfl;refine jw ?_;refine jG.weaken (Wk.arQ BX (E2:=[(2,.kN (kU ⟨co,me,na⟩) 0),(5,jI),(6,.jA ((mT na np).map .int)),(7,lS na),(46,.int 32),(47,.int 0)]) (dL _) ⟨.pu (.kN fun c hc=>ur hc),.ptr (rF mc),.vE (ty:=3) (sz:=1) (f:=AV.int) anS (Vh (E0 _)) mf (fun x _ c hc=>aH),.own (rF ni),.pu (.base _),.pu (.base _),trivial⟩) ?_;refine jG.loop (J:=fun j:Nat=>j≤32) (fun j=>⟨[(2,.kN (kU ⟨co,me,na⟩) 0),(5,jI),(6,.jA ((mT na np).map .int)),(7,lS na),(46,.int 32),(47,.int j)],HH (U (zC j))⟩) (fun j=>32-j) 0 (dL _) .wf ?_;rintro j hj;by_cases Yu:j<32
 ·have um:decide ((j:Int)<32)=true:=jf ae;obtain ⟨l,hl⟩:∃l,l=zC j:=⟨_,rfl⟩
  have EM:l.length=32:=by rw [hl];exact agK hj
  have NY:(l.map AV.int)[j]?=some (.int 0):=by rw [dE,hl,agL Yu];rfl
  have lF:(HH (U l)).set (ix (.jX na)) ⟨3,1,(l.map AV.int).set j (.int (-1))⟩=HH (U (zC (j+1))):=by
   have:(⟨3,1,(l.map AV.int).set j (.int (-1))⟩:jy)=jD (zC (j+1)):=by
    rw [← agM Yu,← hl];simp
   rw [this,Dq]
  have Nt:=S4 l;have hlL:=E0 l;rw [← hl];clear hl Dq S4 hUg S3 E0 mo;refine jw ?_;refine j8 ?_ rfl aa;refine jw ?_;refine jB.q2 (lu (n:=j) (b:=ix (.jX na)) (tot:=32) (len:=32) (blk:=jD l) aa aa dG aa (by simp [EM]) ae ag) ?_;refine jw ?_;refine jB.p2 (qP (b:=ix (.jX na)) (tot:=32) (i:=j) (off:=0) (blk:=jD l) (e:=.int 0) (v:=.int (-1)) aa aa aa (by simp [EM]) NY ag rfl rfl) ?_;refine jw ?_;rw [l6 ae];refine ⟨j+1,ae,ae,?_⟩;exact .wf (hH:=aa)
 have avV:j=32:=ae;subst avV;have um:decide (((32:Nat):Int)<32)=false:=az;have GR:zC 32=m32:=fC _;rw [GR];obtain ⟨V,hV⟩:∃V:Nat→jv,V=fun k=>mA ⟨co,me,na⟩ sched (na+np) na (List.replicate k m32++List.replicate (na-k) uo++[m32]):=⟨_,rfl⟩
 have hV0:U m32=V 0:=by
  rw [hV,hUH.out];show mA _ _ _ _ _=mA _ _ _ _ _;rw [List.replicate_zero,gY,iq]
 have sV:∀k,(HH (V k)).length=NN:=fun k=>kC _;have sW:∀k,k≤na→(List.replicate k m32++List.replicate (na-k) uo++[m32]).length=na+1:=fun k hk=>by
  rw [dK,dK,eB,eB,dO];omega
 have S5:∀k,k≤na→WF (V k):=fun k hk=>by
  rw [hV];refine (hI ae (by rw [sW k hk];omega) ae (by rw [sW k hk];omega) fun x hx=>?_).wf;rcases eg.1 hx with hx|hx
  ·rcases eg.1 hx with hx|hx
   ·exact Eu x hx
   ·exact Eu x hx
  ·rw [dz] at hx;subst hx;rfl
 have S6:∀k,k<na→(V k).jE[k]?=some uo:=fun k hk=>by
  rw [hV];simp only [mA];rw [eA,dJ bN,eB,eT,dA bN,fk,ja ae]
 have N5:∀k,k≤na→(V k).jE[na]?=some m32:=fun k hk=>by
  rw [hV];simp only [mA];rw [dJ (by rw [dK,eB,eB];omega),dK,eB,eB,show na-(k+(na-k))=0 by omega];rfl
 have N6:∀k,(V k).jV=List.range na:=fun k=>by rw [hV];rfl
 have S7:∀k,k<na→(HH (V k)).set (ix (.jX k)) (jD m32)=HH (V (k+1)):=fun k hk=>by
  rw [PF (s:=V k) (x:=k) (l:=m32) (by rw [hV];show k<(List.replicate k m32++List.replicate (na-k) uo++[m32]).length;rw [sW k ae];omega) (mq (a:=.jX k) (by show k<MM;omega)),hV];simp only [mA];rw [eA,eY _ _ bN,eB,eT,show na-k=(na-(k+1))+1 by omega,fQ,List.cons_append,fV,fF (n:=k),eA,eA];rfl
 have xH:(List.range na).length=na:=ah;rw [hV0];have hVH:=Hid.mk hV;have Yv:=N6 0;have Yw:=sV 0;clear Dq S4 hUg S3 E0 mo hV hV0 GR;refine jw ?_;refine jK ?_ rfl aa;refine jw ?_;refine jG.loop (J:=fun k:Nat=>k≤na) (fun k=>⟨[(2,.kN (kU ⟨co,me,na⟩) 0),(5,jI),(6,.jA ((mT na np).map .int)),(7,lS na),(58,.int na),(59,.int k)],HH (V k)⟩) (fun k=>na-k) 0 (dL _) .wf ?_;rintro k hk;by_cases Re:k<na
 ·have A5:decide ((k:Int)<(na:Int))=true:=jf ae;have GO:=S6 k Re;have hpm:=N5 k hk;have hak:=N6 k;have rm:ix (.jX k)<NN:=mq (a:=.jX k) (by show k<MM;omega);have lF:=S7 k Re;have oY:=sV k;have rL:((List.range na).map lS)[k]?=some (lS k):=by rw [dE,eV Re];rfl
  clear S7 N6 N5 S6 S5 sV um Yv Yw;refine jw ?_;refine j8 ?_ rfl aa;refine jw ?_;refine jB.q2 (lu (n:=k) (b:=ix .at') (tot:=na) (len:=na) (blk:=⟨25,1,(List.range na).map lS⟩) aa aa fb aa ah ae ag) ?_;refine jw ?_;refine jB.p2 (Pa (k:=.i64) (b:=ix (.jX k)) (n:=32) (d:=uo) (l:=m32) (av:=lS na) (ty:=3) aa aa rfl aa (.vE (ty:=3) (sz:=1) (f:=AV.int) aa rfl (fun x _ c hc=>aH)) az dG ug) ?_;refine jw ?_;rw [l6 ae];refine ⟨k+1,ae,ae,?_⟩;exact .wf (hH:=lF)
 have Ha:k=na:=ae;subst Ha;have A5:decide ((k:Int)<(k:Int))=false:=je ae;have Fk:V k=mA ⟨co,me,k⟩ sched (k+np) k (List.replicate (k+1) m32):=by
  rw [hVH.out];show mA _ _ _ _ _=mA _ _ _ _ _;rw [eT,List.replicate_zero,fC,fF (n:=k)]
 have oY:=sV k;have sD:=S5 k ae;have GO:=N5 k ae;have lT:Iv (V k):=by
  rw [Fk];exact hI ae bN ae bN Eu
 obtain ⟨s,hs⟩:∃s,s=V k:=⟨_,rfl⟩
 rw [← hs] at oY sD GO lT Fk ⊢;have hnF:vI ⟨co,me,k⟩ sched cd=oU s cd (mT k np) m32 0 (-1) false:=by
  unfold vI;simp only;rw [Fk,I1,dF,dF]
 have re:s.tasks.length=0:=by rw [Fk];rfl
 have aDy:s.calls.length=0:=by rw [Fk];rfl
 have aDz:s.ke.length=0:=by rw [Fk];rfl
 have aDA:s.jE.length=k+1:=by rw [Fk];exact eB
 have GZ:=vB;have is:=Jv lT (c:=cd) (vs:=mT k np) (a:=m32) (prio:=0) (par:=-1) (canc:=false) (x:=k) ae ae ae ae GO ae lI (by rw [mf];exact hv) mh (.inl rfl);have DB:WF (oU s cd (mT k np) m32 0 (-1) false):=(L8 lT (c:=cd) (vs:=mT k np) (a:=m32) (prio:=0) (par:=-1) (canc:=false) ae ae ae ae rfl lI (by rw [mf];exact hv) mh (.inl rfl)).iv.wf;rw [← hnF] at is DB;clear S7 N6 N5 S6 S5 sV um Yv Yw hs Fk hnF;refine jw ?_;refine jK ?_ rfl aa;refine jw ?_;refine jB.q2 (wC aa aa eO ae (e:=kx cd) (by exact zL) ag) ?_;refine jw ?_;refine jB.p2 (UI sD DB is rfl aa aa (by
  intro a ha;simp only [dC,dB,jd] at ha;rcases ha with rfl|rfl|rfl|rfl|rfl|rfl|rfl
  ·exact .ptr mc
  ·exact .pu (Cp _)
  ·exact .pu (l7 _)
  ·exact .pu (.base _)
  ·exact .pu (.base _)
  ·exact .pu (.base _)
  ·exact .own ni) (.pu (.base _))) ?_
 refine jw ?_;exact .runM (T:=[]) DB (dL _) (vs:=[jI]) aA ah (.ptr (rF mc))
end Go.Ab
