/- Part. -/
import Derived.Test.YthgicbkdckpeaaaDoorG06
set_option linter.unusedSimpArgs false
set_option linter.unusedVariables false
set_option maxHeartbeats 4000000
namespace Go.Ab
open Go Go.Ab Go.Proofs Go.Ab.Ty
theorem DT {c:kh} {vs:List Int}:(lN c vs).length=vs.length:=by simp [lN]
theorem tf.QU {N:Nat} {H T:List jy} {B:jy} (hl:H.length=N) (hi:∀b∈H,kI (·<N) b) (hB:kI (·<N) B):tf (List.range N) (H++T) H (H++[B]) (H++T++[B]):=
 ⟨List.nodup_range,by rw [fm,hl],fun j b hj=>by
  obtain ⟨h1,h2⟩:=dt hj;rw [fm] at h1;rw [List.getElem_range] at h2;subst h2;have pP:j<H.length:=ae;exact ⟨H[j],H[j],cm,dy pP,(hi _ (ey _)).mv fun b hb=>bo⟩,
 by simp,aj,fun b hb hn=>by rw [dA hb],fun j c bk hr hb=>by
  have hj:=(dt hb).1;simp only [dK,dO] at hj;by_cases e:j<N
  ·rw [Cj e] at hr;injection hr with hr;subst hr;rw [dA ae] at hb;refine ⟨bk,?_,(hi _ (dx hb)).mv fun b hb=>Cj hb⟩;rw [dA aj,dA ae];exact hb
  ·have ej:j=N:=ae;subst ej;have:rb (List.range j) (H++T).length j=some (H++T).length:=by unfold rb;rw [fm,iZ e];simp
   rw [this] at hr;injection hr with hr;subst hr;rw [dJ ae] at hb;rw [show j-H.length=0 by omega] at hb;injection hb with hb;subst hb;exact ⟨B,by rw [dJ (dD _)];simp,hB.mv fun b hb=>Cj hb⟩⟩
theorem V8 {s:jv} (hw:WF s) {j:Nat} {c:kh} {vs:List Int} (kV:∀v∈vs,mW c v) (hl:vs.length≤1000000) (hc:s.calls[j]?=some c) {T:List jy} {ρ:Operand→AV} {cl:Call} {fx:Operand} (h1:cl.callee=.value fx) (h2:ρ fx=.j9 115 []) (h3:cl.args.toList.map ρ++[]=[kM j,.jA (vs.map .int)]) :
 PL Tryd.prog (HH s++T) ρ (.call cl) (.own (HH s++T).length (lN c vs).length 0 (lN c vs).length) (HH s++T++[jD (lN c vs)]):=by
 obtain ⟨k1,k2⟩:=hw.c hc;have rW:∀b,b<NN→ro (List.range NN) b=some b:=fun b hb=>bo;refine zg (aiY hw kV hl hc k1 k2) (.QU (kC s) (vd hw) rE) h1 h2 (by
  rw [h3];exact ⟨(mR.ptr (S:=(·<NN)) k1).mv rW,(mR.pu (S:=(·<NN)) (l7 _)).mv rW,trivial⟩) (.own ?_)
 unfold rb;rw [fm,iZ (Nat.lt_irrefl _)];simp
theorem aoZ {s:jv} (hw:WF s) {j:Nat} {c:kh} {vs:List Int} (kV:∀v∈vs,mW c v) (hl:vs.length≤1000000) (hc:s.calls[j]?=some c) {T:List jy} (hT:∀b∈T,kI (·<NN) b) {ρ:Operand→AV} {cl:Call} {fx:Operand} (h1:cl.callee=.value fx) (h2:ρ fx=.j9 115 []) (h3:cl.args.toList.map ρ++[]=[kM j,.jA (vs.map .int)]) :
 PL Tryd.prog (HH s++T) ρ (.call cl) (.jA ((lN c vs).map .int)) (HH s++T):=by
 refine PL.WW (V8 hw kV hl hc h1 h2 h3) rfl (fun b blk hb=>?_) (pX.vE (ty:=3) (sz:=1) (dD _) ah rfl (fun x _ c hc=>aH));refine kI.mv (S:=(·<NN)) ?_ fun i hi=>PT (by simp [kC];omega);rcases eg.1 (dx hb) with h|h
 ·exact vd hw _ h
 ·exact hT _ h
theorem V9 {st:kG} {time who:Int}:∀b∈mS st time who,kI (·=ix .rn) b:=by
 intro b hb;simp only [dC,dB,jd] at hb;rcases hb with rfl|rfl|rfl|rfl
 ·intro e he c hc;rw [dz] at he;subst he;simp only [AV.cells,dz] at hc;subst hc;exact .ptr rfl
 ·refine .one fun c hc=>?_;simp only [dC,dB,jd] at hc;rcases hc with rfl|rfl|rfl|rfl|rfl|rfl<;>first|exact .pu (.base _)|exact .pu (l7 _)
 ·exact rE
 ·exact rE
theorem apA {st:kG} {time who:Int}:∀b∈mS st time who,kI (·<NN) b:=fun b hb=>(V9 b hb).mono fun i h=>by subst h;exact mc
theorem U3 {k:Nat} {l:List Int} {x:Int}:xq k (l++[x])=.own (ix (.lU k)) (l.length+1) 0 (l.length+1):=by
 cases l with
 | nil=>rfl
 | cons a l=>simp [xq]
theorem apB {s:jv} (hw:WF s) {n:Nat} {t:jQ} (ht:s.tasks[n]?=some t) {k:Int} (pR:t.kids.length≤900) {T:List jy} (hT:∀b∈T,kI (·=ix .rn) b) {ρ:Operand→AV} {x y:Operand} (hx:ρ x=xq n t.kids) (hy:ρ y=.jA [.int k]) :
 PL Tryd.prog (HH s++T) ρ (.call { callee:=.builtin .append,args:=#[x,y],argTypes:=#[25,25] }) (.own (ix (.lU n)) (t.kids.length+1) 0 (t.kids.length+1)) ((HH s).set (ix (.lU n)) (jD (t.kids++[k]))++T):=by
 obtain ⟨g1,g2,g3,g4,hn,g6⟩:=hw.k ht;have hd:(HH s)[ix (.lU n)]?=some (jD t.kids):=by rw [qS s _ g3];simp only [blk];rw [ht]
 cases hk:t.kids with
 | nil =>
   rw [hk] at hx hd;have h1:=OC (P:=Tryd.prog) (H:=HH s++T) (es:=[.int k]) hx hy dG ug (fun e he=>aw) ah ah;have h2:=PL.xX h1 (p:=ix (.lU n)) (blk0:=jD []) (by rw [mZ (kC s) g3];exact hd) rfl ah (fun e he c hc=>by
    rw [dz] at he;subst he;simp only [AV.cells,dz] at hc;subst hc;exact .pu (.base _)) (vZ (aoW hw ht hk aP) fun b hb=>(hT b hb).mono fun i hi=>by
     subst hi;exact ⟨fun e=>(by have:=sg e;cases this),by have:=mc;simp [kC];omega⟩) mI.Bv
   rw [o7 (kC s) g3] at h2;exact h2
 | cons a l =>
   have vS:ρ x=.own (ix (.lU n)) t.kids.length 0 t.kids.length:=by rw [hx,hk];rfl
   have h1:=tX (P:=Tryd.prog) (H:=HH s++T) (b:=ix (.lU n)) (tot:=t.kids.length) (es:=[.int k]) (blk:=jD t.kids) vS hy (by rw [mZ (kC s) g3];exact hd) ah dG ug rfl rfl ah (fun e he=>aw) aj aj;rw [o7 (kC s) g3] at h1;rw [← hk];have he:(jD (t.kids++[k]))=⟨(jD t.kids).ty,(jD t.kids).sz,(jD t.kids).es++[.int k]⟩:=ah;rw [he];exact h1
theorem apC {s:jv} (h:Iv s) {n j:Nat} {t:jQ} {c:kh} {v w pr:Int} {tk:Nat} {cd:Cd} {a:List Int} {vs:List Int} {time:Int} (ht:s.tasks[n]?=some t) (hc:s.calls[j]?=some c) (kW:-1≤c.jM∧c.jM≤1000) (mY:s.p.kT[tk]?=some cd) (kV:∀v∈vs,mW c v) (mf:vs.length≤1000) (lK:s.jE[t.jX]?=some a) (za:t.ending=0) (mr:t.waits<0) (h0:s.tasks.length<32) (hC:s.calls.length<MM) (hP:s.jE.length+40000≤MM) (hB:s.ke.length+40≤MM) (nH:0≤cd.vars) (lI:cd.vars≤1000) (qy:vs.length≤cd.vars) (mh:cd.steps.length≤1000) (pR:t.kids.length≤900) :
 jS Tryd.prog 91 [jI,.int n,ki ⟨6,v,w,pr,tk,vs⟩,kM j,.int time] (HH s) (.bool true) (HH ((oU s cd (lN c vs) a pr n t.canc).jF n { t with kids:=t.kids++[(s.tasks.length:Int)],kg:=if c.jM<0 then qu t.kg c.pc s.tasks.length else t.kg })):=by
 have hw:=h.wf;obtain ⟨g1,g2,g3,g4,hn,g6⟩:=hw.k ht;obtain ⟨k1,k2⟩:=hw.c hc;have hlen:=kC s;refine jS.i2 [(0,jI),(1,.int n),(2,ki ⟨6,v,w,pr,tk,vs⟩),(3,kM j),(4,.int time)] 5 372 NN fX (kC s) ?_;refine jw ?_;refine jB.q2 (lu (n:=n) (b:=ix .tk) aa aa ew aa ah hn aa) ?_;refine jw ?_;refine jG.join ⟨[(1,.int n),(3,kM j),(5,.ptr NN 1 0 0),(7,.ptr (NN+1) 1 0 0),(9,.ptr (NN+2) 1 0 0),(12,.ptr (NN+3) 1 0 0),(11,nW n),(10,.bool false)],HH s++mS ⟨6,v,w,pr,tk,vs⟩ time (jR c n)⟩ ?_ ?_
 ·by_cases ha:0≤c.jM
  ·have hd:decide (c.jM≥0)=true:=cw;have oh:IntKind.i64.wrap (-1-c.jM) = -1-c.jM:=nP ae ae;have mg:jR c n = -1-c.jM:=ja ha;refine j8 ?_ rfl aa;refine jw ?_;rw [mg];exact .wf (hH:=aF)
  ·have hd:decide (c.jM≥0)=false:=aj;have mg:jR c n=n:=iZ ha;refine jK ?_ rfl aa;refine jw ?_;rw [mg];exact .wf
 obtain ⟨who,pa⟩:∃who,who=jR c n:=⟨_,rfl⟩
 rw [← pa];clear pa;have sR:=hw.nT;have Je:=apA (st:=⟨6,v,w,pr,tk,vs⟩) (time:=time) (who:=who);have is:=Jv h (c:=cd) (vs:=lN c vs) (a:=a) (prio:=pr) (par:=n) (canc:=t.canc) (x:=t.jX) h0 hC hP hB lK nH lI (by rw [DT];exact qy) mh (.inr ⟨n,rfl,hn⟩);have zL:(s.p.kT.map kx)[tk]?=some (kx cd):=by rw [dE,mY];rfl
 refine jw ?_;refine jK ?_ rfl aa;refine jw ?_;refine jK ?_ rfl aa;refine jw ?_;refine jK ?_ rfl aa;refine jw ?_;refine jK ?_ rfl aa;refine jw ?_;refine jK ?_ rfl aa;refine jw ?_;refine j8 ?_ rfl aa;refine jw ?_;refine qK (k:=25) [none,none,none,none,none,none,none,none,none,none,none,none,none,some 0,none,none,none,none,none,none,none,none,none,none,none] (fun _=>HH s++mS ⟨6,v,w,pr,tk,vs⟩ time who) 1 follows ?_;refine gS ?_;refine gS ?_;refine gS ?_;refine gS ?_;refine gS ?_;refine gS ?_;refine gS ?_;refine gS ?_;refine ko.q1 rfl rfl (fun _ _=>wC aa aa eO ae (e:=kx cd) (by rw [dF];exact zL) ag) ?_;refine gS ?_;refine gS ?_;refine gS ?_;refine gS ?_;refine ko.p1 (v:=.jA ((lN c vs).map .int)) rfl rfl (fun kB h=>aoZ hw kV ae hc Je rfl ((h (.func 115) ai).trans aa) (by
  simp only [List.map];rw [h (.tmp 209) ai,h (.tmp 211) ai];simp +decide only [go_sem]<;>rfl)) ?_
 refine gS ?_;refine gS ?_;refine gS ?_;refine gS ?_;refine gS ?_;refine gS ?_;refine gS ?_;refine gS ?_;refine gS ?_;refine gS ?_;refine gS ?_;refine ko.nil ?_;obtain ⟨e1,e2,e3⟩:=O8 (cd:=cd) (vs:=lN c vs) (a:=a) (pr:=pr) (canc:=t.canc) ht za mr;have qg:=L8 h (c:=cd) (vs:=lN c vs) (a:=a) (prio:=pr) (par:=n) (canc:=t.canc) h0 hC hP hB ((hw.p lK).2) lI (by rw [DT];exact qy) mh (.inr ⟨n,rfl,hn⟩);obtain ⟨s1,j6⟩:∃s1,s1=oU s cd (lN c vs) a pr n t.canc:=⟨_,rfl⟩
 rw [← j6] at e1 e2 e3 qg is ⊢;have kq:=qg.iv.wf;have nU:s1.calls[j]?=some c:=by rw [e2,dA (dt hc).1];exact hc
 have oY:Hid (s1.tasks.length=s.tasks.length+1):=⟨e3⟩
 have pW:=Hid.mk e2;have oL:=Hid.mk j6;clear e2 e3 j6 qg za mr;refine jB.p2 (sf hw kq (T:=mS ⟨6,v,w,pr,tk,vs⟩ time who) is rfl aa aa (by
  intro a ha;simp only [dC,dB,jd] at ha;rcases ha with rfl|rfl|rfl|rfl|rfl|rfl|rfl
  ·exact .ptr mc
  ·exact .pu (Cp _)
  ·exact .pu (l7 _)
  ·exact .pu (.base _)
  ·exact .pu (.base _)
  ·exact .pu (.base _)
  ·exact .own ((hw.p lK).1)) (.pu (.base _))) ?_
 clear is zL mY;have lr:=e1;obtain ⟨k,hk⟩:∃k,k=s.tasks.length:=⟨_,rfl⟩
 rw [← hk];have Om:=Hid.mk hk;clear hk;obtain ⟨L,hL⟩:∃L,L=(HH s1).set (ix (.lU n)) (jD (t.kids++[(k:Int)])):=⟨_,rfl⟩
 obtain ⟨s2,jW⟩:∃s2,s2=s1.jF n { t with kids:=t.kids++[(k:Int)] }:=⟨_,rfl⟩
 have Ih:∀(ρ:Operand→AV) (x y:Operand),ρ x=xq n t.kids→ρ y=.jA [.int k]→PL Tryd.prog (HH s1++mS ⟨6,v,w,pr,tk,vs⟩ time who) ρ (.call { callee:=.builtin .append,args:=#[x,y],argTypes:=#[25,25] }) (.own (ix (.lU n)) (t.kids.length+1) 0 (t.kids.length+1)) (L++mS ⟨6,v,w,pr,tk,vs⟩ time who):=fun ρ x y hx hy=>by
  rw [hL];exact apB kq lr (k:=(k:Int)) pR V9 hx hy
 have Jg:L[ix (.kQ n)]?=some (mG n t):=by rw [hL,qQ (kC s1) g3,iZ ah,qS s1 _ g1];simp only [blk];rw [lr]
 have xP:L.length=NN:=by rw [hL,qG,kC]
 have lF:=aoX (l:=t.kids++[(k:Int)]) lr g1 g3;rw [← hL,← jW] at lF;have ov:s2.tasks[n]?=some { t with kids:=t.kids++[(k:Int)] }:=by rw [jW];exact lq lr
 have rT:s2.calls[j]?=some c:=by rw [jW];exact nU
 have lj:WF s2:=by
  rw [jW];obtain ⟨a1,a2⟩:=kq.tF t (dx lr);exact kq.jF (kq.kQ t (dx lr)) ⟨a1,aj⟩
 have hL':=Hid.mk hL;have pz:=Hid.mk jW;have sQ:s1.jF n { t with kids:=t.kids++[(k:Int)],kg:=if c.jM<0 then qu t.kg c.pc k else t.kg }=s2.jF n { t with kids:=t.kids++[(k:Int)],kg:=if c.jM<0 then qu t.kg c.pc k else t.kg }:=by rw [jW,u7]
 rw [sQ];clear hL jW sQ;simp only [mG,vJ,U3] at lF Jg;refine jw ?_;refine jB.p2 (Ih _ _ _ aa aa) ?_;refine jw ?_;by_cases ha:c.jM<0
 ·have hd:decide (c.jM<0)=true:=cw;rw [ja ha];refine j8 ?_ rfl aa;refine jw ?_;refine mi (k:=9) follows (hr:=?_);refine jw ?_;refine jB.p2 (adM H0 AV.int (m:=t.kg) (b:=ix (.kg n)) c.pc (k:Int) aa aa aa aa Tryd.underlying86 gL (zn.int _)) ?_;have rB:=aoY (l:=qu t.kg c.pc (k:Int)) ov g4;have mD:WF (s2.jF n { t with kids:=t.kids++[(k:Int)],kg:=qu t.kg c.pc (k:Int) }):=lj.xj ov rfl (dD _) rfl rfl rfl;refine jw ?_;exact .nE (mS ⟨6,v,w,pr,tk,vs⟩ time who) mD (vs:=[.bool true]) aq rfl rfl (.pu (.base _))
 ·have hd:decide (c.jM<0)=false:=aj;rw [iZ ha,Jt ov];refine jK ?_ rfl aa;refine jw ?_;exact .nE (mS ⟨6,v,w,pr,tk,vs⟩ time who) lj (vs:=[.bool true]) aq rfl rfl (.pu (.base _))
theorem kY.runT {rs:List ResultVar} {n:Nat} {d:AV} {s':jv} {E:Env} {H:List jy} {vs:List AV} {l:List Int} (T:List jy) (hw:WF s') (hv:o6 Tryd.prog ⟨E,H⟩ rs=some vs) (hH:H=HH s'++(jD l::T)) (he:rG vs=d) (hd:mR (·<NN) d):kY Tryd.prog rs ⟨n,NN+1⟩ d (HH s'++[jD l]) ⟨E,H⟩:=by
 have hl:(HH s'++[jD l]).length=NN+1:=aP;have sG:H=(HH s'++[jD l])++T:=by rw [hH];simp
 refine ⟨_,vs,pre (NN+1),id,.refl _,hv,.pre (by rw [sG,dK,hl];omega) (dD _) hl fun j b1 b2 h1 h2=>?_,by rw [he];exact hd.tB fun b hb=>rF ae⟩;have hj:=(dt h2).1;simp only at h1;rw [sG,dA hj,h2] at h1;injection h1 with h1;subst h1;have hr:kI (·<NN) b2:=by
  rcases eg.1 (dx h2) with h|h
  ·exact vd hw _ h
  ·rw [dz] at h;subst h;exact rE
 refine ⟨rfl,rfl,rfl,fun i e e2 h3 h4=>?_⟩;rw [h3] at h4;injection h4 with h4;subst h4;refine ⟨rfl,fun k c c2 h5 h6=>?_⟩;rw [h5] at h6;injection h6 with h6;subst h6;exact (hr e (dx h3) c (dx h5)).tB fun b hb=>rF ae
theorem aeE {s:jv} (hw:WF s) {c:Cd} {vs:List Int} {a:Int} (nH:0≤c.vars) (lI:c.vars≤1000) (kV:vs.length≤c.vars) (lO:0<vs.length) (hM:s.calls.length<MM) (mh:c.steps.length≤1000) :
 jS Tryd.prog 107 [kx c,.own NN vs.length 0 vs.length,.int a] (HH s++[jD vs]) (kM s.calls.length) (HH (s.kF (lQ c vs a))++[jD vs]):=by
 obtain ⟨cp,cv,cs⟩:=c;simp only at nH lI kV mh;obtain ⟨nv,rfl⟩:∃nv:Nat,cv=nv:=⟨_,(dP nH).symm⟩
 obtain ⟨j,hj⟩:∃j,j=s.calls.length:=⟨_,rfl⟩
 have Hk:j<MM:=ae;have pY:ix (.lg j)<NN:=mq Hk;have pE:ix (.kz j)<NN:=mq Hk;refine jS.i2 [(0,kx ⟨cp,nv,cs⟩),(1,.own NN vs.length 0 vs.length),(2,.int a)] 3 38 (NN+1) Tryd.func107 aP ?_;refine jw ?_;refine qK (k:=5) [none,none,none,some 0,none] (fun k=>match k with
  | 0=>HH s++[jD vs,kP ⟨cp,nv,cs⟩]
  | _=>(HH s).set (ix (.kz j)) (jD (List.replicate nv 0))++[jD vs,kP ⟨cp,nv,cs⟩]) 1 follows ?_
 refine gS ?_;refine gS ?_;refine gS ?_;refine ko.p1 (v:=tA j (List.replicate nv 0)) rfl rfl (fun kB h=>?_) ?_
 ·show PL Tryd.prog (HH s++[jD vs,kP ⟨cp,nv,cs⟩]) kB _ (tA j (List.replicate nv 0)) ((HH s).set (ix (.kz j)) (jD (List.replicate nv 0))++[jD vs,kP ⟨cp,nv,cs⟩]);have hl:kB (.tmp 11)=.int nv:=(h (.tmp 11) au).trans aa;have h1:=JA (P:=Tryd.prog) (H:=HH s++[jD vs,kP ⟨cp,nv,cs⟩]) (ρ:=kB) (n:=nv) (m:=nv) hl hl dG ug D5 ag ae (fy _) ae ae;rw [dF] at h1;have hz:List.replicate nv (AV.int 0)=(List.replicate nv (0:Int)).map AV.int:=ah;rw [hz] at h1;have Tl:∀q,NN≤q→∀b∈HH s++[jD vs,kP ⟨cp,nv,cs⟩],kI (Nb q (ix (.kz j))) b:=fun q hq b hb=>by
   rcases eg.1 hb with hb|hb
   ·exact Ea hw (a:=.kz j) (by show ¬j<_;omega) hq b hb
   ·simp only [dC,dB,jd] at hb;rcases hb with rfl|rfl;exact rE;exact DY
  have C0:(HH s)[ix (.kz j)]?=some (jD []):=by
   rw [qS s _ pE];simp only [blk];rw [dT ae]
  cases nv with
  | zero =>
    have h2:=PL.Kf h1 rfl fun b hb=>by
     rcases eg.1 hb with hb|hb
     ·exact (H4 hw b hb).mono fun i hi=>by have:=hi.lt hw;simp [kC];omega
     ·simp only [dC,dB,jd] at hb;rcases hb with rfl|rfl;exact rE;exact DY
    show PL _ _ _ _ _ ((HH s).set (ix (.kz j)) (jD [])++_);rw [FB C0];exact h2
  | succ m =>
    have h2:=PL.xX h1 (p:=ix (.kz j)) (blk0:=jD []) (by rw [mZ (kC s) pE];exact C0) rfl ah rE (Tl _ aP) mI.Bv;rw [o7 (kC s) pE] at h2;have hv:tA j (List.replicate (m+1) 0)=.own (ix (.kz j)) (m+1) 0 (m+1):=by simp [tA,fQ]
    rw [hv];exact h2
 refine gS ?_;refine ko.nil ?_;refine jw ?_;refine x9 (cs:=[.int cp,.int nv,.jA (cs.map ki),tA j (List.replicate nv 0),.int 0,.int a]) Xq V2 ?_ (h:=by cases nv<;>(simp +decide only [List.map,go_sem,tA,List.replicate];try rfl));obtain ⟨c0,l5⟩:∃c0,c0=kh.mk ⟨cp,nv,cs⟩ (List.replicate nv 0) 0 a:=⟨_,rfl⟩
 have zf:∀(ρ:Operand→AV) (x:Operand),ρ x=.agg [.int cp,.int nv,.jA (cs.map ki),tA j (List.replicate nv 0),.int 0,.int a]→PL Tryd.prog ((HH s).set (ix (.kz j)) (jD (List.replicate nv 0))++[jD vs,kP ⟨cp,nv,cs⟩]) ρ (.box 140 x) (kM j) (HH (s.kF c0)++[jD vs,kP ⟨cp,nv,cs⟩]):=by
  obtain ⟨L,hL⟩:∃L,L=(HH s).set (ix (.kz j)) (jD (List.replicate nv 0)):=⟨_,rfl⟩
  have xP:L.length=NN:=by rw [hL,qG,kC]
  have Fj:∀q,NN≤q→∀b∈L++[jD vs,kP ⟨cp,nv,cs⟩],kI (Nb q (ix (.lg j))) b:=fun q hq=>by
   rw [hL];exact vZ (yx (Ea hw (a:=.lg j) (by show ¬j<_;omega) hq) rE) (fun b hb=>by simp only [dC,dB,jd] at hb;rcases hb with rfl|rfl;exact rE;exact DY)
  have BW:L[ix (.lg j)]?=some ⟨140,6,[]⟩:=by
   rw [hL,qQ (kC s) pE,iZ ah,qS s _ pY];simp only [blk];rw [dT ae]
  intro ρ x hx;have h1:=PL.xX (p:=ix (.lg j)) (xW (P:=Tryd.prog) (H:=L++[jD vs,kP ⟨cp,nv,cs⟩]) (el:=140) hx (by cases nv<;>rfl)) (by rw [mZ xP pY];exact BW) rfl ah (fun e he d hd=>by
   rw [dz] at he;subst he;simp only [AV.cells,dC,dB,jd] at hd;rcases hd with rfl|rfl|rfl|rfl|rfl|rfl
   ·exact .pu (.base _)
   ·exact .pu (.base _)
   ·exact .pu (zl _)
   ·cases nv with
    | zero=>exact .pu (.jA fun e he=>by cases he)
    | succ m=>exact .own ⟨fun e=>(by have:=sg e;cases this),by simp only [dK,xP];omega⟩
   ·exact .pu (.base _)
   ·exact .pu (.base _)) (Fj _ (by simp [xP])) mI.QG
  rw [o7 xP pY,hL] at h1;rw [← V5 hj pY pE,l5];exact h1
 refine jB.p2 (zf _ _ aE) ?_;obtain ⟨cI,Hl⟩:∃cI:Nat→kh,∀i,cI i=kh.mk ⟨cp,nv,cs⟩ (List.replicate i (-1)++List.replicate (nv-i) 0) 0 a:=⟨_,fun _=>rfl⟩
 have KC:Hid (c0=cI 0):=⟨by rw [Hl,l5];simp⟩
 have Hm:∀c:kh,c.vars.length≤1000→c.code=⟨cp,nv,cs⟩→WF (s.kF c):=fun c h1 h2=>hw.kF hM h1 (by rw [h2];exact mh);have Tm:WF (s.kF c0):=Hm c0 (by rw [l5];simp;omega) (by rw [l5]);have nU:(s.kF c0).calls[j]?=some ⟨⟨cp,nv,cs⟩,List.replicate nv 0,0,a⟩:=by rw [← l5,hj];exact zm
 have AJ:Hid (∀i,cI i=kh.mk ⟨cp,nv,cs⟩ (List.replicate i (-1)++List.replicate (nv-i) 0) 0 a):=⟨Hl⟩
 have mC:Hid (j=s.calls.length):=⟨hj⟩
 clear Hl l5 hj zf;have uJ:=Xs (H:=HH (s.kF c0)++[jD vs,kP ⟨cp,nv,cs⟩]) (k:=j) (l:=List.replicate nv 0) cY;simp +decide only [go_sem] at uJ;refine jw ?_;have tG:(List.replicate nv (0:Int)).length=nv:=eB;rw [tG,KC.out];refine jG.loop (J:=fun i:Nat=>i≤nv) (fun i=>⟨[(7,kM j),(1,.own NN vs.length 0 vs.length),(20,.int nv),(21,.int i)],HH (s.kF (cI i))++[jD vs,kP ⟨cp,nv,cs⟩]⟩) (fun i=>nv-i) 0 (dL _) .wf ?_;intro i hi;have DG:(List.replicate i (-1:Int)++List.replicate (nv-i) 0).length=nv:=aj;have Tn:WF (s.kF (cI i)):=Hm _ (by rw [AJ.out];simp;omega) (by rw [AJ.out]);obtain ⟨ci,vQ⟩:∃ci,ci=cI i:=⟨_,rfl⟩
 obtain ⟨l,hl⟩:∃l,l=List.replicate i (-1:Int)++List.replicate (nv-i) 0:=⟨_,rfl⟩
 have Iq:(s.kF ci).calls[j]?=some ⟨⟨cp,nv,cs⟩,l,0,a⟩:=by rw [vQ,AJ.out,mC.out,hl];exact zm
 rw [← hl] at DG;rw [← vQ];rw [← vQ] at Tn;have qz:Hid (l=List.replicate i (-1:Int)++List.replicate (nv-i) 0):=⟨hl⟩
 have Rq:Hid (ci=cI i):=⟨vQ⟩
 clear hl vQ uJ tG nU Tm;refine jw ?_;refine kL (fun hd=>?_) (fun hd=>?_)
 ·simp at hd;obtain ⟨x,hx⟩:∃x,l[i]?=some x:=⟨_,dy ae⟩
  have qy:=zj (j:=j) hx;have yV:(l.map AV.int)[i]?=some (.int x):=aZ;refine jw ?_;refine jB.q2 (lu (n:=i) (b:=ix (.kz j)) aa aa dG aa (by simp [DG]) ae aa) ?_;refine jw ?_;refine jB.p2 (xc (f:=AV.int) (l:=l) (b:=ix (.kz j)) (tot:=nv) (i:=i) (ty:=3) (sz:=1) (-1) aa aa aa DG ae ny rfl rfl) ?_;have jP:(HH (s.kF ci)).set (ix (.kz j)) (jD (l.set i (-1)))=HH (s.kF (cI (i+1))):=by
   have h1:=FN (s:=s.kF ci) (j:=j) (c':=⟨⟨cp,nv,cs⟩,l.set i (-1),0,a⟩) Iq pE ah rfl;rw [Mb mC.out] at h1;rw [h1,AJ.out]
   congr 3
   rw [qz.out,eY _ _ ah];obtain ⟨m,hm⟩:∃m,nv-i=m+1:=⟨nv-i-1,ae⟩
   rw [hm,show nv-(i+1)=m by omega,eB,eT,fQ,fV,fF,eA];rfl
  refine jw ?_;rw [l6 ae];exact ⟨i+1,hd,ae,.wf⟩
 simp at hd;obtain rfl:i=nv:=ae;refine jw ?_;have hle:l=List.replicate i (-1):=by rw [qz.out];simp
 have sQ:(HH (s.kF ci)).set (ix (.kz j)) (jD (vs++l.drop vs.length))=HH (s.kF (lQ ⟨cp,i,cs⟩ vs a)):=by
  have h1:=FN (s:=s.kF ci) (j:=j) (c':=⟨⟨cp,i,cs⟩,vs++l.drop vs.length,0,a⟩) Iq pE aj rfl;rw [Mb mC.out] at h1;rw [h1,hle,List.drop_replicate];rfl
 have LG:WF (s.kF (lQ ⟨cp,i,cs⟩ vs a)):=Hm _ (by simp [lQ];omega) rfl;have sI:mR (·<NN) (kM j):=.ptr pY;rw [← mC.out];clear hle qz Rq KC AJ mC;cases l with
 | nil =>
   simp at DG;omega
 | cons x l' =>
   refine jB.p2 (Pa (k:=.i64) (b:=ix (.kz j)) (n:=l'.length+1) (d:=x::l') (l:=vs) (av:=.own NN vs.length 0 vs.length) (ty:=3) aa aa rfl aa (.vE (ty:=3) (sz:=1) (f:=AV.int) aa rfl (fun x _ c hc=>aH)) ae dG ug) ?_;refine jw ?_;exact .runT [_] LG (vs:=[kM j]) ay rfl rfl sI
theorem HZ {N q b:Nat} (h:b<N):ro (List.range N++[q]) b=some b:=by
 have:=OV (n:=N) (b:=b);rw [ja h] at this;unfold ro at *;rw [List.findIdx?_append,this];rfl
theorem Xb {N q:Nat} (h:N≤q):ro (List.range N++[q]) q=some N:=by
 have:=OV (n:=N) (b:=q);rw [iZ ae] at this;unfold ro at *;rw [List.findIdx?_append,this];simp
theorem J3 {N q m j:Nat} (h:j<N):rb (List.range N++[q]) m j=some j:=by
 unfold rb;rw [ja aj,dA cb,eV h]
theorem asI {N q m:Nat}:rb (List.range N++[q]) m N=some q:=by
 unfold rb;rw [ja ah,dJ ah];simp
theorem tf.Yd {N:Nat} {H H' T:List jy} {l:List Int} (hl:H.length=N) (qz:H'.length=N) (hi:∀b∈H,kI (·<N) b) (ho:∀b∈H',kI (·<N) b):tf (List.range N++[N+T.length]) (H++T++[jD l]) (H++[jD l]) (H'++[jD l]) (H'++T++[jD l]):=
 ⟨by
  rw [List.nodup_append];exact ⟨List.nodup_range,ah,fun a ha b hb e=>by rw [eU] at ha;rw [dz] at hb;omega⟩,by simp [hl],fun j b hj=>by
  by_cases e:j<N
  ·rw [dA (by simpa using e),eV e] at hj;injection hj with hj;subst hj;have pP:j<H.length:=ae;exact ⟨H[j],H[j],by rw [dA aj,dA pP,dy pP],cm,(hi _ (ey _)).mv fun b hb=>HZ hb⟩
  ·have pP:=(dt hj).1;simp at pP;obtain rfl:j=N:=ae;rw [dJ ah] at hj;simp at hj;subst hj;exact ⟨jD l,jD l,by rw [dJ (by simp [hl])];simp [hl],by rw [dJ ae];simp [hl],rE.mv (S:=(·<j)) fun b hb=>HZ hb⟩,
 by simp;omega,aj,fun b hb hn=>by
  have pH:¬b<N:=fun h=>hn (List.mem_append_left _ (eU.2 h));have nV:b≠N+T.length:=fun h=>hn (List.mem_append_right _ (by simp [h]));simp at hb;have e1:b<(H'++T).length:=aj;have e2:b<(H++T).length:=aj;rw [dA e1,dA e2,dJ ae,dJ ae,hl,qz],fun j c bk hr hb=>by
  have hj:=(dt hb).1;simp at hj;by_cases e:j<N
  ·rw [J3 e] at hr;injection hr with hr;subst hr;rw [dA ae] at hb;exact ⟨bk,by rw [dA aj,dA ae];exact hb,(ho _ (dx hb)).mv fun b hb=>J3 hb⟩
  ·obtain rfl:j=N:=ae;rw [asI] at hr;injection hr with hr;subst hr;rw [dJ ae] at hb;rw [show j-H'.length=0 by omega] at hb;injection hb with hb;subst hb;exact ⟨jD l,by rw [dJ (by simp [qz])];simp [qz],rE.mv (S:=(·<j)) fun b hb=>J3 hb⟩⟩
theorem apD {s:jv} (hw:WF s) {cd:Cd} {vs:List Int} {a:Int} (nH:0≤cd.vars) (lI:cd.vars≤1000) (kV:vs.length≤cd.vars) (lO:0<vs.length) (hM:s.calls.length<MM) (mh:cd.steps.length≤1000) {T:List jy} {q:Nat} (hq:q=NN+T.length) {ρ:Operand→AV} {cl:Call} {fx:Operand} (h1:cl.callee=.value fx) (h2:ρ fx=.j9 107 []) (h3:cl.args.toList.map ρ++[]=[kx cd,.own q vs.length 0 vs.length,.int a]) :
 PL Tryd.prog (HH s++T++[jD vs]) ρ (.call cl) (kM s.calls.length) (HH (s.kF (lQ cd vs a))++T++[jD vs]):=by
 have tC:WF (s.kF (lQ cd vs a)):=hw.kF hM bE mh;refine zg (aeE hw nH lI kV lO hM mh) (.Yd (kC s) (kC _) (vd hw) (vd tC)) h1 h2 (by
  rw [h3];exact ⟨(mR.pu (S:=(·<NN)) (Cp _)).mv fun b hb=>HZ hb,.own (by subst hq;exact Xb ae),(mR.pu (S:=(·<NN)) (.base _)).mv fun b hb=>HZ hb,trivial⟩) ((mR.ptr (S:=(·<NN)) (mq (a:=.lg s.calls.length) hM)).mv fun b hb=>J3 hb)
def oW (l:List Nat) (k j:Nat):List Nat:=if k<l.length then l.set k j else l++[j]
theorem ajH {l:List Nat} {k j:Nat}:(oW l k j).map kM=if k<l.length then (l.map kM).set k (kM j) else l.map kM++[kM j]:=by
 unfold oW;split
 ·rw [fJ]
 ·simp
theorem Hz {l:List Nat} {k j:Nat} (h:k≤l.length):(oW l k j).length=if k<l.length then l.length else k+1:=by
 unfold oW;split
 ·simp
 ·simp;omega
theorem apE {s:jv} (hw:WF s) {n:Nat} {t:jQ} (ht:s.tasks[n]?=some t) {J:Nat} (mV:t.jZ.length≤900) {T:List jy} {ρ:Operand→AV} {x y:Operand} (hx:ρ x=.own (ix (.jH n)) t.jZ.length 0 t.jC) (hy:ρ y=.jA [kM J]) :
 PL Tryd.prog (HH s++T) ρ (.call { callee:=.builtin .append,args:=#[x,y],argTypes:=#[85,85] }) (.own (ix (.jH n)) (oW t.jZ t.jC J).length 0 (t.jC+1)) ((HH s).set (ix (.jH n)) ⟨135,1,(oW t.jZ t.jC J).map kM⟩++T):=by
 obtain ⟨g1,g2,g3,g4,hn,g6⟩:=hw.k ht;obtain ⟨a1,a2,a3,a4⟩:=hw.kQ t (dx ht);have hd:(HH s)[ix (.jH n)]?=some ⟨135,1,t.jZ.map kM⟩:=by rw [qS s _ g2];simp only [blk];rw [ht]
 rw [ajH,Hz a2];by_cases kn:t.jC<t.jZ.length
 ·rw [ja kn,ja kn];have h1:=TX (P:=Tryd.prog) (H:=HH s++T) (b:=ix (.jH n)) (tot:=t.jZ.length) (len:=t.jC) (v:=kM J) (blk:=⟨135,1,t.jZ.map kM⟩) hx hy rfl rfl (by rw [mZ (kC s) g2];exact hd) ah kn rfl gn Xp (hmt:=by show 135<pj;decide);rw [o7 (kC s) g2] at h1;exact h1
 ·have he:t.jC=t.jZ.length:=ae;rw [iZ kn,iZ kn];rw [he] at hx ⊢;have h1:=tX (P:=Tryd.prog) (H:=HH s++T) (b:=ix (.jH n)) (tot:=t.jZ.length) (es:=[kM J]) (blk:=⟨135,1,t.jZ.map kM⟩) hx hy (by rw [mZ (kC s) g2];exact hd) ah gn Xp rfl rfl ah (fun e he=>aw) aj aj;rw [o7 (kC s) g2] at h1;exact h1
theorem apF {s:jv} {n:Nat} {t:jQ} {l:List Nat} {k:Nat} (ht:s.tasks[n]?=some t) (h1:ix (.kQ n)<NN) (h2:ix (.jH n)<NN):((HH s).set (ix (.jH n)) ⟨135,1,l.map kM⟩).set (ix (.kQ n)) (mG n { t with jZ:=l,jC:=k })=HH (s.jF n { t with jZ:=l,jC:=k }):=by
 refine tZ (s:=s) (s':=s.jF n { t with jZ:=l,jC:=k }) [(.jH n,_),(.kQ n,_)] (vF ⟨h2,bm⟩ ⟨h1,bm⟩) fun a ha=>?_;simp only [ef,ez,dC,dB,jd,jl] at ha;cases a with
 | kQ i=>simp only [blk];rw [mw fun e=>ha.2 bP]
 | jH i=>simp only [blk];rw [mw fun e=>ha.1 bP]
 | lU i =>
   simp only [blk];by_cases e:n=i
   ·subst e;rw [lq ht,ht]
   ·rw [mw e]
 | kg i =>
   simp only [blk];by_cases e:n=i
   ·subst e;rw [lq ht,ht]
   ·rw [mw e]
 | rn=>simp only [blk,lE,lY];rfl
 | tk=>simp only [blk,lY]
 | _=>rfl
section
variable {P:Program} {n:Fr} {HS:Nat→List jy} {o:lx} {l:List lx} {sl:List (Option Nat)} {E:Env} {v:AV} {K:Env→Prop}
theorem tV (hr:ko P n HS 2 l sl K (mF E o.dst v)) (hg:o.g=none:=by rfl) (hd:mB n o.dst=true:=by rfl) (h0:qe P (HS 0) (ev E) o.op=some v:=by (simp +decide only [go_sem, *]<;>rfl)) (h1:qe P (HS 1) (ev E) o.op=some v:=by (simp +decide only [go_sem, *]<;>rfl)) (h2:qe P (HS 2) (ev E) o.op=some v:=by (simp +decide only [go_sem, *]<;>rfl)):ko P n HS 2 (o::l) (none::sl) K E:=.RY hg hd h0 h1 h2 hr
end
theorem apG {s:jv} (h:Iv s) {n j:Nat} {t:jQ} {c:kh} {v w N:Int} {tk:Nat} {cd:Cd} {vs:List Int} {time:Int} (ht:s.tasks[n]?=some t) (hc:s.calls[j]?=some c) (kW:-1≤c.jM∧c.jM≤1000) (mY:s.p.methods[tk]?=some cd) (kV:∀v∈vs,mW c v) (mf:vs.length≤900) (hC:s.calls.length<MM) (nH:0≤cd.vars) (lI:cd.vars≤1000) (qy:vs.length+1≤cd.vars) (mh:cd.steps.length≤1000) (mV:t.jZ.length≤900) (uj:0≤c.pc∧c.pc≤1000000) :
 jS Tryd.prog 91 [jI,.int n,ki ⟨9,v,w,N,tk,vs⟩,kM j,.int time] (HH s) (.bool (decide (cd.steps.length=0))) (HH (if cd.steps.length=0 then s.kF (lQ cd (lN c vs++[N]) N) else ((s.kF (lQ cd (lN c vs++[N]) N)).ly j { c with pc:=c.pc+1 }).jF n { t with jZ:=oW t.jZ t.jC s.calls.length,jC:=t.jC+1 })):=by
 have hw:=h.wf;obtain ⟨g1,g2,g3,g4,hn,g6⟩:=hw.k ht;obtain ⟨k1,k2⟩:=hw.c hc;have hlen:=kC s;refine jS.i2 [(0,jI),(1,.int n),(2,ki ⟨9,v,w,N,tk,vs⟩),(3,kM j),(4,.int time)] 5 372 NN fX (kC s) ?_;refine jw ?_;refine jB.q2 (lu (n:=n) (b:=ix .tk) aa aa ew aa ah hn aa) ?_;refine jw ?_;refine jG.join ⟨[(1,.int n),(3,kM j),(5,.ptr NN 1 0 0),(7,.ptr (NN+1) 1 0 0),(9,.ptr (NN+2) 1 0 0),(12,.ptr (NN+3) 1 0 0),(11,nW n),(10,.bool false)],HH s++mS ⟨9,v,w,N,tk,vs⟩ time (jR c n)⟩ ?_ ?_
 ·by_cases ha:0≤c.jM
  ·have hd:decide (c.jM≥0)=true:=cw;have oh:IntKind.i64.wrap (-1-c.jM) = -1-c.jM:=nP ae ae;have mg:jR c n = -1-c.jM:=ja ha;refine j8 ?_ rfl aa;refine jw ?_;rw [mg];exact .wf (hH:=aF)
  ·have hd:decide (c.jM≥0)=false:=aj;have mg:jR c n=n:=iZ ha;refine jK ?_ rfl aa;refine jw ?_;rw [mg];exact .wf
 obtain ⟨who,pa⟩:∃who,who=jR c n:=⟨_,rfl⟩
 rw [← pa];clear pa;have zL:(s.p.methods.map kx)[tk]?=some (kx cd):=by rw [dE,mY];rfl
 refine jw ?_;refine jK ?_ rfl aa;refine jw ?_;refine jK ?_ rfl aa;refine jw ?_;refine jK ?_ rfl aa;refine jw ?_;refine jK ?_ rfl aa;refine jw ?_;refine jK ?_ rfl aa;refine jw ?_;refine jK ?_ rfl aa;refine jw ?_;refine jK ?_ rfl aa;refine jw ?_;refine jK ?_ rfl aa;refine jw ?_;refine j8 ?_ rfl aa;refine jw ?_;refine qK (k:=10) [none,none,none,none,none,none,none,none,none,some 0] (fun k=>match k with
  | 0=>HH s++mS ⟨9,v,w,N,tk,vs⟩ time who
  | _=>HH s++mS ⟨9,v,w,N,tk,vs⟩ time who++[⟨68,3,[(.agg [.base (.int .i64 (0)),.base (.int .i64 (0)),.base (.slice none 0 0)])]⟩]) 1 follows ?_
 refine gS ?_;refine gS ?_;refine gS ?_;refine gS ?_;refine gS ?_;refine gS ?_;refine gS ?_;refine ko.q1 rfl rfl (fun _ _=>wC aa aa eO ae (e:=kx cd) (by rw [dF];exact zL) ag) ?_;refine gS ?_;refine ko.p1 (v:=.ptr (HH s++mS ⟨9,v,w,N,tk,vs⟩ time who).length 1 0 0) rfl rfl (fun kB h=>wD (H:=HH s++mS ⟨9,v,w,N,tk,vs⟩ time who) WO rfl az) ?_;refine ko.nil ?_;refine jw ?_;have hT5:∀X:jy,HH s++mS ⟨9,v,w,N,tk,vs⟩ time who++[X]=HH s++[oq,j7 ⟨9,v,w,N,tk,vs⟩,jD [time],jD [who],X]:=fun X=>ah;obtain ⟨g,hg⟩:∃g,g=lN c vs:=⟨_,rfl⟩
 have tE:g.length=vs.length:=by rw [hg,DT]
 have Ky:∀(ρ:Operand→AV) (cl:Call) (fx:Operand),cl.callee=.value fx→ρ fx=.j9 115 []→cl.args.toList.map ρ++[]=[kM j,.jA (vs.map .int)] →
  PL Tryd.prog (HH s++[oq,j7 ⟨9,v,w,N,tk,vs⟩,jD [time],jD [who],kP cd]) ρ (.call cl) (.own (NN+5) g.length 0 g.length) (HH s++[oq,j7 ⟨9,v,w,N,tk,vs⟩,jD [time],jD [who],kP cd,jD g]):=fun ρ cl fx h1 h2 h3=>by
  have h:=V8 hw kV ae hc (T:=[oq,j7 ⟨9,v,w,N,tk,vs⟩,jD [time],jD [who],kP cd]) (ρ:=ρ) h1 h2 h3;rw [← hg] at h;have e1:(HH s++[oq,j7 ⟨9,v,w,N,tk,vs⟩,jD [time],jD [who],kP cd]).length=NN+5:=aP;have e2:HH s++[oq,j7 ⟨9,v,w,N,tk,vs⟩,jD [time],jD [who],kP cd]++[jD g]=HH s++[oq,j7 ⟨9,v,w,N,tk,vs⟩,jD [time],jD [who],kP cd,jD g]:=ah;rw [e1,e2] at h;exact h
 have Nf:=Hid.mk tE;have hg':=Hid.mk hg;clear tE hg;refine qK (k:=11) [none,none,none,none,some 0,none,none,none,some 1,none,none] (fun k=>match k with
  | 0=>HH s++[oq,j7 ⟨9,v,w,N,tk,vs⟩,jD [time],jD [who],kP cd]
  | 1=>HH s++[oq,j7 ⟨9,v,w,N,tk,vs⟩,jD [time],jD [who],kP cd,jD g]
  | _=>HH s++[oq,j7 ⟨9,v,w,N,tk,vs⟩,jD [time],jD [who],kP cd,jD (g++[N])]) 2 follows ?_ (h0:=by
  show HH s++[oq,j7 ⟨9,v,w,N,tk,vs⟩,jD [time],jD [who],kP cd]=(HH s++mS ⟨9,v,w,N,tk,vs⟩ time who++[(⟨68,3,[(.agg [.base (.int .i64 (0)),.base (.int .i64 (0)),.base (.slice none 0 0)])]⟩:jy)]).set (NN+4) _;rw [hT5,wE (kC s)];rfl)
 refine tV ?_;refine tV ?_;refine tV ?_;refine tV ?_;refine ko.p1 (v:=.own (NN+5) g.length 0 g.length) rfl rfl (fun kB h=>Ky kB _ _ rfl ((h (.func 115) ai).trans aa) (by
  simp only [List.map];rw [h (.tmp 313) ai,h (.tmp 315) ai];simp +decide only [go_sem]<;>rfl)) ?_
 refine tV ?_;refine tV ?_;refine ko.q1 (v:=.jA [.int N]) rfl rfl (fun c _=>DX dG ny az ag az aC aC rfl) ?_;refine ko.p1 (v:=.own (NN+5) (g.length+1) 0 (g.length+1)) rfl rfl (fun kB h=>?_) ?_
 ·have h1:=tX (P:=Tryd.prog) (ρ:=kB) (H:=HH s++[oq,j7 ⟨9,v,w,N,tk,vs⟩,jD [time],jD [who],kP cd,jD g]) (b:=NN+5) (tot:=g.length) (es:=[.int N]) (blk:=jD g) ((h (.tmp 316) ai).trans aa) ((h (.tmp 319) ai).trans aa) (by rw [vx (kC s)];rfl) ah dG ug rfl rfl ah (fun e he=>aw) (by rw [Nf.out];simp;omega) (by rw [Nf.out];simp;omega);rw [wE (kC s)] at h1;have he:(jD (g++[N]))=⟨(jD g).ty,(jD g).sz,(jD g).es++[.int N]⟩:=ah;rw [he];exact h1
 refine tV ?_;refine tV ?_;refine ko.nil ?_;have Ot:(g++[N]).length=g.length+1:=ah;have Kr:∀(ρ:Operand→AV) (cl:Call) (fx:Operand),cl.callee=.value fx→ρ fx=.j9 107 []→cl.args.toList.map ρ++[]=[kx cd,.own (NN+5) (g.length+1) 0 (g.length+1),.int N] →
  PL Tryd.prog (HH s++[oq,j7 ⟨9,v,w,N,tk,vs⟩,jD [time],jD [who],kP cd,jD (g++[N])]) ρ (.call cl) (kM s.calls.length) (HH (s.kF (lQ cd (g++[N]) N))++[oq,j7 ⟨9,v,w,N,tk,vs⟩,jD [time],jD [who],kP cd,jD (g++[N])]):=fun ρ cl fx h1 h2 h3=>by
  have h:=apD hw (cd:=cd) (vs:=g++[N]) (a:=N) nH lI (by rw [Ot,Nf.out];exact_mod_cast qy) (by rw [Ot];omega) hC mh (T:=[oq,j7 ⟨9,v,w,N,tk,vs⟩,jD [time],jD [who],kP cd]) (q:=NN+5) rfl (ρ:=ρ) h1 h2 (by rw [Ot];exact h3);have e2:∀L:List jy,L++[oq,j7 ⟨9,v,w,N,tk,vs⟩,jD [time],jD [who],kP cd]++[jD (g++[N])]=L++[oq,j7 ⟨9,v,w,N,tk,vs⟩,jD [time],jD [who],kP cd,jD (g++[N])]:=fun L=>ah;rw [e2,e2] at h;exact h
 clear Ot;refine jB.p2 (Kr _ _ _ rfl aa aa) ?_;rw [← hg'.out];have kq:WF (s.kF (lQ cd (g++[N]) N)):=hw.kF hC (by simp only [lQ,dK,eB,dO,Nf.out];omega) mh;obtain ⟨J,hJ⟩:∃J,J=s.calls.length:=⟨_,rfl⟩
 obtain ⟨s1,j6⟩:∃s1,s1=s.kF (lQ cd (g++[N]) N):=⟨_,rfl⟩
 have nU:s1.calls[j]?=some c:=by rw [j6];show (s.calls++[_])[j]?=_;rw [dA (dt hc).1];exact hc
 have lr:s1.tasks[n]?=some t:=by rw [j6];exact ht
 have Lo:Hid (J<s1.calls.length):=⟨by rw [j6,hJ];simp [jv.kF]⟩
 rw [← j6] at kq;rw [← hJ,← j6];have oL:=Hid.mk j6;have BT:=Hid.mk hJ;clear j6 hJ Kr Ky zL mY ht hc;have oh:IntKind.i64.wrap (c.pc+1)=c.pc+1:=nP ae ae;have YN:IntKind.i64.wrap (c.pc+1-1)=c.pc:=aW;have e1:=PJ (s:=s1) (c':={ c with pc:=c.pc+1 }) nU k1 rfl;obtain ⟨s2,jW⟩:∃s2,s2=s1.ly j { c with pc:=c.pc+1 }:=⟨_,rfl⟩
 have rT:s2.calls[j]?=some { c with pc:=c.pc+1 }:=by rw [jW];exact yw nU
 have ov:s2.tasks[n]?=some t:=by rw [jW];exact lr
 have lj:WF s2:=by rw [jW];exact kq.ly (kq.tW c (dx nU)).1 (kq.tW c (dx nU)).2
 have hJ2:Hid (J<s2.calls.length):=⟨by rw [jW];show J<(s1.calls.set _ _).length;rw [dW];exact Lo.out⟩
 rw [← jW] at e1 ⊢;have pz:=Hid.mk jW;clear jW;refine jw ?_;by_cases hz:cd.steps.length=0
 ·have hd:decide ((cd.steps.length:Int)>0)=false:=je ae;have mo:decide (cd.steps.length=0)=true:=by simp [hz]
  have e3:=PJ (s:=s2) (c':=c) rT k1 rfl;have lV:s2.ly j c=s1:=by
   rw [pz.out];have:=(dt nU).2;unfold jv.ly;simp only [List.set_set];rw [← this,gh]
  rw [lV] at e3;rw [ja hz,mo];refine jK ?_ rfl aa;refine jw ?_;exact .nE [oq,j7 ⟨9,v,w,N,tk,vs⟩,jD [time],jD [who],kP cd,jD (g++[N])] kq (vs:=[.bool true]) aq rfl rfl (.pu (.base _))
 ·have hd:decide ((cd.steps.length:Int)>0)=true:=jf ae;have mo:decide (cd.steps.length=0)=false:=by simp [hz]
  rw [iZ hz,mo];obtain ⟨L,hL⟩:∃L,L=(HH s2).set (ix (.jH n)) ⟨135,1,(oW t.jZ t.jC J).map kM⟩:=⟨_,rfl⟩
  obtain ⟨s3,lV⟩:∃s3,s3=s2.jF n { t with jZ:=oW t.jZ t.jC J,jC:=t.jC+1 }:=⟨_,rfl⟩
  have axE:∀(ρ:Operand→AV) (x y:Operand),ρ x=.own (ix (.jH n)) t.jZ.length 0 t.jC→ρ y=.jA [kM J]→PL Tryd.prog (HH s2++[oq,j7 ⟨9,v,w,N,tk,vs⟩,jD [time],jD [who],kP cd,jD (g++[N])]) ρ (.call { callee:=.builtin .append,args:=#[x,y],argTypes:=#[85,85] }) (.own (ix (.jH n)) (oW t.jZ t.jC J).length 0 (t.jC+1)) (L++[oq,j7 ⟨9,v,w,N,tk,vs⟩,jD [time],jD [who],kP cd,jD (g++[N])]):=fun ρ x y hx hy=>by
   rw [hL];exact apE lj ov mV hx hy
  have Jg:L[ix (.kQ n)]?=some (mG n t):=by rw [hL,qQ (kC s2) g2,iZ ah,qS s2 _ g1];simp only [blk];rw [ov]
  have xP:L.length=NN:=by rw [hL,qG,kC]
  have lF:=apF (l:=oW t.jZ t.jC J) (k:=t.jC+1) ov g1 g2;rw [← hL,← lV] at lF;have mD:WF s3:=by
   rw [lV];obtain ⟨a1,a2,a3,a4⟩:=lj.kQ t (dx ov);refine lj.jF ⟨fun i hi=>?_,?_,a3,a4⟩ ⟨?_,(lj.tF t (dx ov)).2⟩
   ·simp only [oW] at hi;split at hi
    ·rcases eu hi with hi|rfl
     ·exact a1 i hi
     ·exact hJ2.out
    ·rcases eg.1 hi with hi|hi
     ·exact a1 i hi
     ·rw [dz] at hi;subst hi;exact hJ2.out
   ·show t.jC+1≤(oW t.jZ t.jC J).length;rw [Hz a2];split<;>omega
   ·show (oW t.jZ t.jC J).length≤1000;rw [Hz a2];split<;>omega
  rw [← lV];have hL':=Hid.mk hL;have zH:=Hid.mk lV;clear hL lV;simp only [mG,vJ] at lF Jg;refine j8 ?_ rfl aa;refine jw ?_;refine jB.p2 (axE _ _ _ aa aa) ?_;refine jw ?_;exact .nE [oq,j7 ⟨9,v,w,N,tk,vs⟩,jD [time],jD [who],kP cd,jD (g++[N])] mD (vs:=[.bool false]) aq rfl rfl (.pu (.base _))
theorem apH {s:jv} (h:Iv s) {n j:Nat} {t:jQ} {c:kh} {v w nn tk:Int} {vs:List Int} {time:Int} (ht:s.tasks[n]?=some t) (hc:s.calls[j]?=some c) (kW:-1≤c.jM∧c.jM≤1000) :
 jS Tryd.prog 91 [jI,.int n,ki ⟨12,v,w,nn,tk,vs⟩,kM j,.int time] (HH s) (.bool true) (HH s):=by
 have hw:=h.wf;obtain ⟨g1,g2,g3,g4,hn,g6⟩:=hw.k ht;obtain ⟨k1,k2⟩:=hw.c hc;have hlen:=kC s;refine jS.i2 [(0,jI),(1,.int n),(2,ki ⟨12,v,w,nn,tk,vs⟩),(3,kM j),(4,.int time)] 5 372 NN fX (kC s) ?_;refine jw ?_;refine jB.q2 (lu (n:=n) (b:=ix .tk) aa aa ew aa ah hn aa) ?_;refine jw ?_;refine jG.join ⟨[(1,.int n),(3,kM j),(5,.ptr NN 1 0 0),(7,.ptr (NN+1) 1 0 0),(9,.ptr (NN+2) 1 0 0),(12,.ptr (NN+3) 1 0 0),(11,nW n),(10,.bool false)],HH s++mS ⟨12,v,w,nn,tk,vs⟩ time (jR c n)⟩ ?_ ?_
 ·by_cases ha:0≤c.jM
  ·have hd:decide (c.jM≥0)=true:=cw;have oh:IntKind.i64.wrap (-1-c.jM) = -1-c.jM:=nP ae ae;have mg:jR c n = -1-c.jM:=ja ha;refine j8 ?_ rfl aa;refine jw ?_;rw [mg];exact .wf (hH:=aF)
  ·have hd:decide (c.jM≥0)=false:=aj;have mg:jR c n=n:=iZ ha;refine jK ?_ rfl aa;refine jw ?_;rw [mg];exact .wf
 obtain ⟨who,pa⟩:∃who,who=jR c n:=⟨_,rfl⟩
 rw [← pa];clear pa;refine jw ?_;refine jK ?_ rfl aa;refine jw ?_;refine jK ?_ rfl aa;refine jw ?_;refine jK ?_ rfl aa;refine jw ?_;refine jK ?_ rfl aa;refine jw ?_;refine jK ?_ rfl aa;refine jw ?_;refine jK ?_ rfl aa;refine jw ?_;refine jK ?_ rfl aa;refine jw ?_;refine jK ?_ rfl aa;refine jw ?_;refine jK ?_ rfl aa;refine jw ?_;refine jK ?_ rfl aa;refine jw ?_;refine jK ?_ rfl aa;refine jw ?_;exact .nE (mS ⟨12,v,w,nn,tk,vs⟩ time who) hw (vs:=[.bool true]) aq rfl rfl (.pu (.base _))
def lz (c:kh) (v:Int):Nat:=(c.vars.getD v.toNat 0).toNat
def nX (s:jv) (o:Nat):Int×Int:=s.jL.getD o (0,-1)
def qX (t:jQ) (i:Int):Nat:=((getM t.kg i).getD 0).toNat
def po (l:List Cd) (i:Int):Cd:=l.getD i.toNat ⟨0,0,[]⟩
def sX (s:jv) (k:Nat):Bool:=match s.tasks[k]? with
 | some t=>decide (3≤t.state)
 | none=>false
def kR (s:jv) (n j:Nat) (t:jQ) (c:kh) (st:kG) (time:Int):Bool×jv:=
 if st.op=1 then (true,(s.ll st.n).ly j { c with vars:=c.vars.set st.v.toNat s.jL.length })
 else if st.op=2 then (true,if 0≤(nX s (lz c st.w)).2 then (s.kE ⟨jR c n,lz c st.w,false,time⟩).ly j { c with vars:=c.vars.set st.v.toNat (nX s (lz c st.w)).2 }
  else ((((s.kE ⟨jR c n,lz c st.w,false,time⟩).ll 0).n7 (lz c st.w) ((nX s (lz c st.w)).1,s.jL.length)).kE ⟨jR c n,lz c st.w,true,time⟩).ly j { c with vars:=c.vars.set st.v.toNat s.jL.length })
 else if st.op=3 then (true,(s.kE ⟨jR c n,lz c st.v,true,time⟩).n7 (lz c st.v) ((nX s (lz c st.v)).1,c.vars.getD st.w.toNat 0))
 else if st.op=4 then (true,(s.kE ⟨jR c n,lz c st.v,false,time⟩).pM (xk n (nX s (lz c st.v)).1))
 else if st.op=5 then (true,(s.kE ⟨jR c n,lz c st.v,true,time⟩).n7 (lz c st.v) (st.n,(nX s (lz c st.v)).2))
 else if st.op=6 then (true,(oU s (po s.p.kT st.task) (lN c st.vars) (s.jE.getD t.jX []) st.n n t.canc).jF n { t with kids:=t.kids++[(s.tasks.length:Int)],kg:=if c.jM<0 then qu t.kg c.pc s.tasks.length else t.kg })
 else if st.op=7 then (if sX s (qX t st.n) then (true,s) else (false,s.jF n { t with waits:=qX t st.n,state:=2 }))
 else if st.op=8 then (true,(s.kE ⟨-1-(st.n.toNat:Int),st.n.toNat,true,time⟩).n7 st.n.toNat ((nX s st.n.toNat).1,c.vars.getD (st.vars.getD 0 0).toNat 0))
 else if st.op=9 then (if (po s.p.methods st.task).steps.length=0 then (true,s.kF (lQ (po s.p.methods st.task) (lN c st.vars++[st.n]) st.n)) else (false,((s.kF (lQ (po s.p.methods st.task) (lN c st.vars++[st.n]) st.n)).ly j { c with pc:=c.pc+1 }).jF n { t with jZ:=oW t.jZ t.jC s.calls.length,jC:=t.jC+1 }))
 else if st.op=10 then (true,mx s (pI s s.tasks.length (qX t st.n)))
 else if st.op=11 then (if t.canc then (false,sL s n) else (true,s))
 else (true,s)
structure Tok (k:Nat) (s:jv) (n j:Nat) (t:jQ) (c:kh) (st:kG):Prop where
 iv:Iv s
 ht:s.tasks[n]?=some t
 hc:s.calls[j]?=some c
 kW:-1≤c.jM∧c.jM≤1000
 wB:SE s c st
 ob:∀x∈s.jL,-1000000≤x.1∧x.1≤1000000
 Jh:s.jL.length≤900000
 y7:s.jT.length≤800000
 Ou:s.lines.length≤900000
 tp:t.jZ[t.jC-1]?=some j
 EZ:c.pc<c.code.steps.length
 sY:t.state=1
 en:t.ending=0
 wt:t.waits<0
 pc:0≤c.pc∧c.pc≤1000000
 hC:s.calls.length<MM
 hP:s.jE.length+k≤MM
 hB:s.ke.length+100≤MM
 kl:t.kids.length≤900
 sl:t.jZ.length≤900
 vl:st.vars.length≤900
 op:1≤st.op∧st.op≤12
 r6:st.op=6→0≤st.task∧∃cd,s.p.kT[st.task.toNat]?=some cd∧0≤cd.vars∧cd.vars≤1000∧(st.vars.length:Int)≤cd.vars∧cd.steps.length≤1000
 r7:st.op=7∨st.op=10→∃kc:Nat,getM t.kg st.n=some (kc:Int)∧kc<s.tasks.length
 r8:st.op=8→0≤st.n∧st.n.toNat<s.jL.length∧0<st.vars.length
 r9:st.op=9→0≤st.task∧∃cd,s.p.methods[st.task.toNat]?=some cd∧0≤cd.vars∧cd.vars≤1000∧(st.vars.length:Int)+1≤cd.vars∧cd.steps.length≤1000
structure uK (s:jv) (n j:Nat) (t:jQ) (c:kh) (st:kG):Prop extends Tok 40000 s n j t c st where
 can:lZ s c st=true
 bh:t.lB=none
theorem Mz {c:kh} {v:Int} (h:mW c v):∃vn:Nat,v=vn∧vn<c.vars.length∧c.vars[vn]?=some (c.vars.getD v.toNat 0):=by
 obtain ⟨h1,h2⟩:=h;refine ⟨v.toNat,(dP h1).symm,h2,?_⟩;rw [dI,dy h2];rfl
theorem HO {s:jv} {c:kh} {vs:List Int} {v:Int} (h:n8 c vs=true) (hv:v∈vs) (hi:mW c v) (pt:∀x∈c.vars,x<s.jL.length):∃vn:Nat,v=vn∧c.vars[vn]?=some ((lz c v:Nat):Int)∧lz c v<s.jL.length∧s.jL[lz c v]?=some (nX s (lz c v)):=by
 obtain ⟨vn,rfl,h1,h2⟩:=Mz hi;rw [dF] at h2;have h3:0≤c.vars.getD vn 0:=by
  unfold n8 at h;simp only [Bool.not_eq_true',List.any_eq_false,jn] at h;have:=h _ hv;rw [dF] at this;omega
 have h4:=pt _ (dx h2);have h5:((lz c vn:Nat):Int)=c.vars.getD vn 0:=by unfold lz;rw [dF];exact dP h3
 have h6:lz c vn<s.jL.length:=ae;refine ⟨vn,rfl,by rw [h2,h5],h6,?_⟩;unfold nX;rw [dI,dy h6];rfl
theorem getD_at {α:Type} {l:List α} {i:Nat} {x d:α} (h:l[i]?=some x):l.getD i d=x:=by
 rw [dI,h];rfl
theorem HE {mm:List (Nat×Obj)} (pD:xp mm) {s:jv} {n j:Nat} {t:jQ} {c:kh} {st:kG} {time:Int} (h:uK s n j t c st) :
 vh Tryd.prog mm 91 [jI,.int n,ki st,kM j,.int time] (HH s) (.bool (kR s n j t c st time).1) (HH (kR s n j t c st time).2):=by
 have lT:=h.iv;have pt:=h.wB.ob;obtain ⟨op,v,w,nn,tk,vs⟩:=st;have sy:=h.can;have vK:=h.op;obtain ⟨v1,v2,v3,v4,v5⟩:=h.wB;have r6:=h.r6;have r7:=h.r7;have r8:=h.r8;have r9:=h.r9;have mf:=h.vl;simp only at vK v1 v2 v3 v4 v5 r6 r7 r8 r9 mf;have AF:op=1∨op=2∨op=3∨op=4∨op=5∨op=6∨op=7∨op=8∨op=9∨op=10∨op=11∨op=12:=ae;have hS:∀ {w:Int} {o:Nat},(∃vn:Nat,w=vn∧c.vars[vn]?=some (o:Int))→True:=fun _=>trivial;rcases AF with rfl|rfl|rfl|rfl|rfl|rfl|rfl|rfl|rfl|rfl|rfl|rfl
 ·have:=v1 (.inl rfl);exact (aoN lT h.ht h.hc h.kW ⟨this.1,by have:=this.2;have:=this;omega⟩ h.Jh).m
 ·have th:(n8 c [w]&&(room s||decide (0≤lX s (c.vars.getD w.toNat 0))))=true:=sy;rw [er] at th;obtain ⟨wn,kq,lj,mD,qD⟩:=HO th.1 ah (v2 (.inl rfl)) pt;obtain ⟨vn,lI,oM,Tz⟩:=Mz (v1 (.inr (.inl rfl)));have hvt:v.toNat=vn:=by rw [lI];rfl
  by_cases hx:0≤(nX s (lz c w)).2
  ·have:=(aoU lT (nn:=nn) (tk:=tk) (vs:=vs) (time:=time) (vn:=vn) h.ht h.hc h.kW lj oM hx qD (by have:=h.y7;omega)).m (m:=mm);simp +decide only [kR,jb,jc,ja hx];rw [hvt,lI,kq];rw [kq] at this;exact this
  ·have:=(alZ lT (nn:=nn) (tk:=tk) (vs:=vs) (time:=time) (vn:=vn) h.ht h.hc h.kW lj oM ae h.Jh qD h.y7).m (m:=mm);simp +decide only [kR,jb,jc,iZ hx];rw [hvt,lI,kq];rw [kq] at this;exact this
 ·have th:n8 c [v,w]=true:=sy;obtain ⟨vn,lI,oM,Tz,Ji⟩:=HO th (v:=v) ah (v1 (.inr (.inr (.inl rfl)))) pt;obtain ⟨wn,kq,lj,mD⟩:=Mz (v2 (.inr rfl));have:=(aoR lT (nn:=nn) (tk:=tk) (vs:=vs) (time:=time) h.ht h.hc h.kW oM mD Ji (by have:=h.y7;omega)).m (m:=mm);simp +decide only [kR,jb,jc];rw [← lI,← kq] at this;exact this
 ·have th:n8 c [v]=true:=sy;obtain ⟨vn,lI,oM,Tz,Ji⟩:=HO th (v:=v) ah (v1 (.inr (.inr (.inr (.inl rfl))))) pt;have:=aoV pD lT (w:=w) (nn:=nn) (tk:=tk) (vs:=vs) (time:=time) h.ht h.hc h.kW oM Ji (h.ob _ (dx Ji)) (by have:=h.y7;omega) h.Ou;simp +decide only [kR,jb,jc];rw [← lI] at this;exact this
 ·have th:n8 c [v]=true:=sy;obtain ⟨vn,lI,oM,Tz,Ji⟩:=HO th (v:=v) ah (v1 (.inr (.inr (.inr (.inr rfl))))) pt;have:=(aoS lT (w:=w) (nn:=nn) (tk:=tk) (vs:=vs) (time:=time) h.ht h.hc h.kW oM Ji (by have:=h.y7;omega)).m (m:=mm);simp +decide only [kR,jb,jc];rw [← lI] at this;exact this
 ·have th:(bif n8 c vs then decide ((s.tasks.length:Int)<32) else false)=true:=sy;obtain ⟨h1,cd,h2,h3,h4,h5,h6⟩:=r6 rfl;obtain ⟨tn,rfl⟩:∃tn:Nat,tk=tn:=⟨_,(dP h1).symm⟩
  rw [dF] at h2;have rX:s.tasks.length<32:=by
   cases hb:n8 c vs with
   | true=>rw [hb] at th;have:=jm th;omega
   | false=>rw [hb] at th;cases th
  obtain ⟨a1,a2,a3,a4⟩:=lT.wf.kQ t (dx h.ht);have lK:s.jE[t.jX]?=some (s.jE.getD t.jX []):=cq;have:=(apC lT (v:=v) (w:=w) (pr:=nn) (time:=time) h.ht h.hc h.kW h2 (v3 (.inl rfl)) ae lK h.en h.wt rX h.hC h.hP (by have:=h.hB;omega) h3 h4 h5 h6 h.kl).m (m:=mm);simp +decide only [kR,jb,jc];rw [show po s.p.kT (tn:Int)=cd from getD_at h2];exact this
 ·obtain ⟨kc,h1,h2⟩:=r7 (.inl rfl);have hk:qX t nn=kc:=by unfold qX;rw [h1];rfl
  have Ag:s.tasks[kc]?=some s.tasks[kc]:=dy h2;have:=(aoQ lT (v:=v) (w:=w) (tk:=tk) (vs:=vs) (time:=time) h.ht h.hc h.kW h1 Ag).m (m:=mm);have ho:sX s kc=decide (3≤s.tasks[kc].state):=by unfold sX;rw [Ag]
  simp +decide only [kR,jb,jc];rw [hk,ho];by_cases h3:3≤s.tasks[kc].state
  ·simp only [jf h3,jb];rw [jf h3,ja h3] at this;exact this
  ·simp only [je h3,eG,jc];rw [je h3,iZ h3] at this;exact this
 ·have th:n8 c vs=true:=sy;obtain ⟨h1,h2,h3⟩:=r8 rfl;obtain ⟨o,rfl⟩:∃o:Nat,nn=o:=⟨_,(dP h1).symm⟩
  rw [dF] at h2;cases vs with
  | nil=>simp at h3
  | cons w0 vs =>
    obtain ⟨wn,rfl,h4,h5⟩:=Mz (v3 (.inr (.inl rfl)) w0 ah);rw [dF] at h5;have ho:s.jL[o]?=some (nX s o):=by unfold nX;rw [dI,dy h2];rfl
    have:=(aoT lT (v:=v) (w:=w) (tk:=tk) (vs:=vs) (time:=time) h.ht h.hc h.kW h5 (by have:=h.Jh;omega) ho (by have:=h.y7;omega)).m (m:=mm);simp +decide only [kR,jb,jc];exact this
 ·obtain ⟨h1,cd,h2,h3,h4,h5,h6⟩:=r9 rfl;obtain ⟨tn,rfl⟩:∃tn:Nat,tk=tn:=⟨_,(dP h1).symm⟩
  rw [dF] at h2;have:=(apG lT (v:=v) (w:=w) (N:=nn) (time:=time) h.ht h.hc h.kW h2 (v3 (.inr (.inr rfl))) mf h.hC h3 h4 h5 h6 h.sl h.pc).m (m:=mm);simp +decide only [kR,jb,jc];rw [show po s.p.methods (tn:Int)=cd from getD_at h2];by_cases hz:cd.steps.length=0
  ·rw [ja hz];rw [ja hz,jf hz] at this;exact this
  ·rw [iZ hz];rw [iZ hz,je hz] at this;exact this
 ·obtain ⟨kc,h1,h2⟩:=r7 (.inr rfl);have hk:qX t nn=kc:=by unfold qX;rw [h1];rfl
  have:=(aoP lT (v:=v) (w:=w) (tk:=tk) (vs:=vs) (time:=time) h.ht h.hc h.kW h1 h2).m (m:=mm);simp +decide only [kR,jb,jc];rw [hk];exact this
 ·have:=(aoO lT (v:=v) (w:=w) (nn:=nn) (tk:=tk) (vs:=vs) (time:=time) h.ht h.hc h.kW (by rw [h.sY];decide) h.wt h.hP (by have:=h.hB;omega)).m (m:=mm);simp +decide only [kR,jb,jc];cases ni:t.canc with
  | true=>rw [ni] at this;exact this
  | false=>rw [ni] at this;exact this
 ·exact (apH lT (v:=v) (w:=w) (nn:=nn) (tk:=tk) (vs:=vs) (time:=time) h.ht h.hc h.kW).m (m:=mm)
theorem Iv.ll {s:jv} (h:Iv s) (n:Int) (hb:s.jL.length<1000000):Iv (s.ll n):=
 ⟨h.wf.ll n hb,⟨h.kd.kd⟩,h.par,h.jH,h.en,h.wt,h.ed,h.rZ,h.qN,h.rr⟩
theorem Iv.n7 {s:jv} (h:Iv s) (o:Nat) (x:Int×Int):Iv (s.n7 o x):=
 ⟨⟨h.wf.1,h.wf.2,h.wf.3,h.wf.4,h.wf.5,h.wf.6,h.wf.7,h.wf.8,h.wf.9,h.wf.10,h.wf.11,by
   obtain ⟨a1,a2⟩:=h.wf.12;exact ⟨bO,a2⟩,h.wf.13,h.wf.14⟩,⟨h.kd.kd⟩,h.par,h.jH,h.en,h.wt,h.ed,h.rZ,h.qN,h.rr⟩
theorem Iv.pM {s:jv} (h:Iv s) (x:ByteArray) (hb:s.lines.length<1000000):Iv (s.pM x):=
 ⟨⟨h.wf.1,h.wf.2,h.wf.3,h.wf.4,h.wf.5,h.wf.6,h.wf.7,h.wf.8,h.wf.9,h.wf.10,h.wf.11,by
   obtain ⟨a1,a2,a3⟩:=h.wf.12;exact ⟨a1,by simp only [jv.pM,dK,dO];omega,a3⟩,h.wf.13,h.wf.14⟩,⟨h.kd.kd⟩,h.par,h.jH,h.en,h.wt,h.ed,h.rZ,h.qN,h.rr⟩
theorem Iv.CS {s:jv} (h:Iv s) {j:Nat} {c:kh} (hc:s.calls[j]?=some c) (i:Nat) (x:Int):Iv (s.ly j { c with vars:=c.vars.set i x }):=
 h.ly hc (by simp;exact (h.wf.tW c (dx hc)).1) rfl (h.qN c (dx hc)) fun k t ht hs hj=>h.rr k t j c ht hs hj hc
theorem Iv.lU {s:jv} (h:Iv s) {n k:Nat} {t:jQ} (ht:s.tasks[n]?=some t) (hk:n<k) (B7:k<s.tasks.length) (hl:t.kids.length≤900) (sp:List (Int×Int)):Iv (s.jF n { t with kids:=t.kids++[(k:Int)],kg:=sp }):=by
 have key:∀ {p:Nat→jQ→Prop},(∀i u,s.tasks[i]?=some u→p i u)→p n { t with kids:=t.kids++[(k:Int)],kg:=sp }→∀i u,(s.jF n { t with kids:=t.kids++[(k:Int)],kg:=sp }).tasks[i]?=some u→p i u:=fun {p} g1 g2 i u hu=>by
  by_cases e:n=i
  ·subst e;rw [lq ht] at hu;injection hu with hu;subst hu;exact g2
  ·rw [mw e] at hu;exact g1 i u hu
 have n9:=dx ht;refine ⟨h.wf.jF (h.wf.kQ t n9) ⟨(h.wf.tF t n9).1,aj⟩,⟨key (p:=fun i u=>∀c:Int,c∈u.kids→∃j:Nat,c=j∧i<j∧j<(s.jF n { t with kids:=t.kids++[(k:Int)],kg:=sp }).tasks.length) (by rw [lY];exact h.kd.kd) (by
  rw [lY];intro c hc;rcases eg.1 hc with hc|hc
  ·exact h.kd.kd n t ht c hc
  ·rw [dz] at hc;exact ⟨k,hc,hk,B7⟩)⟩,
  key h.par (h.par n t ht),key h.jH (h.jH n t ht),key h.en (h.en n t ht),key h.wt (h.wt n t ht),key h.ed (h.ed n t ht),?_,h.qN,fun i u j c hu=>key (p:=fun i u=>(u.state=1∨0≤u.waits)→u.jZ[u.jC-1]?=some j→s.calls[j]?=some c→c.pc<c.code.steps.length) (fun i u hu=>h.rr i u j c hu) (h.rr n t j c ht) i u hu⟩
 intro i u i' u' x x' j hu uC hx mH hj mC;have cv:∀ {i:Nat} {u:jQ} {x:Nat},(s.jF n { t with kids:=t.kids++[(k:Int)],kg:=sp }).tasks[i]?=some u→x<u.jC→u.jZ[x]?=some j→∃v:jQ,s.tasks[i]?=some v∧x<v.jC∧v.jZ[x]?=some j:=fun {i u x} hu hx hj=>by
  by_cases e:n=i
  ·subst e;rw [lq ht] at hu;injection hu with hu;subst hu;exact ⟨t,ht,hx,hj⟩
  ·rw [mw e] at hu;exact ⟨u,hu,hx,hj⟩
 obtain ⟨v,b1,b2,b3⟩:=cv hu hx hj;obtain ⟨v',E5,E4,I9⟩:=cv uC mH mC;exact h.rZ i v i' v' x x' j b1 E5 b2 E4 b3 I9
theorem amC {l:List Nat} {k j i x:Nat} (hk:k≤l.length) (h:(oW l k j)[i]?=some x) (hi:i<k+1):(i=k∧x=j)∨(i<k∧l[i]?=some x):=by
 unfold oW at h;split at h
 ·rename_i kn;rw [eN] at h;split at h
  ·rename_i e;injection h with h;exact .inl ⟨e.symm,h.symm⟩
  ·exact .inr ⟨ae,h⟩
 ·rcases eE i l.length with h1|h1
  ·rw [dA h1] at h;exact .inr ⟨ae,h⟩
  ·rw [dJ h1] at h;have:i=k:=ae;rw [show i-l.length=0 by omega] at h;injection h with h;exact .inl ⟨this,h.symm⟩
theorem Pf {l:List Nat} {k j:Nat} (hk:k≤l.length):(oW l k j)[k]?=some j:=by
 unfold oW;split
 ·rename_i h;rw [ee h]
 ·rw [dJ ae,show k-l.length=0 by omega];rfl
theorem Iv.IY {s:jv} (h:Iv s) {n J:Nat} {t:jQ} {cJ:kh} (ht:s.tasks[n]?=some t) (hJ:s.calls[J]?=some cJ) (kX:∀(k:Nat) (u:jQ) (i:Nat),s.tasks[k]?=some u→i<u.jC→u.jZ[i]?≠some J) (uj:cJ.pc<cJ.code.steps.length) (hl:t.jZ.length≤900):Iv (s.jF n { t with jZ:=oW t.jZ t.jC J,jC:=t.jC+1 }):=by
 obtain ⟨T,hT⟩:∃T:jQ,T={ t with jZ:=oW t.jZ t.jC J,jC:=t.jC+1 }:=⟨_,rfl⟩
 rw [← hT];have T1:T.jZ=oW t.jZ t.jC J:=by rw [hT]
 have T2:T.jC=t.jC+1:=by rw [hT]
 have key:∀ {p:Nat→jQ→Prop},(∀i u,s.tasks[i]?=some u→p i u)→p n T→∀i u,(s.jF n T).tasks[i]?=some u→p i u:=fun {p} g1 g2 i u hu=>by
  by_cases e:n=i
  ·subst e;rw [lq ht] at hu;injection hu with hu;subst hu;exact g2
  ·rw [mw e] at hu;exact g1 i u hu
 have n9:=dx ht;obtain ⟨a1,a2,a3,a4⟩:=h.wf.kQ t n9;have hJl:=(dt hJ).1;refine ⟨h.wf.jF ⟨fun i hi=>?_,by rw [T1,T2,Hz a2];split<;>omega,by rw [hT];exact a3,by rw [hT];exact a4⟩ ⟨by rw [T1,Hz a2];split<;>omega,by rw [hT];exact (h.wf.tF t n9).2⟩,⟨key (p:=fun i u=>∀c:Int,c∈u.kids→∃j:Nat,c=j∧i<j∧j<(s.jF n T).tasks.length) (by rw [lY];exact h.kd.kd) (by rw [lY,hT];exact h.kd.kd n t ht)⟩,
  key h.par (by rw [hT];exact h.par n t ht),key h.jH (by rw [T2];omega),key h.en (by rw [hT];exact h.en n t ht),key h.wt (by rw [hT];exact h.wt n t ht),key h.ed (by rw [hT];exact h.ed n t ht),?_,h.qN,fun i u j c hu=>key (p:=fun i u=>(u.state=1∨0≤u.waits)→u.jZ[u.jC-1]?=some j→s.calls[j]?=some c→c.pc<c.code.steps.length) (fun i u hu=>h.rr i u j c hu) (fun _ g2 g3=>?_) i u hu⟩
 ·rw [T1] at hi;simp only [oW] at hi;split at hi
  ·rcases eu hi with hi|rfl
   ·exact a1 i hi
   ·exact hJl
  ·rcases eg.1 hi with hi|hi
   ·exact a1 i hi
   ·rw [dz] at hi;subst hi;exact hJl
 ·intro i u i' u' x x' j hu uC hx mH hj mC;have cv:∀ {i:Nat} {u:jQ} {x:Nat},(s.jF n T).tasks[i]?=some u→x<u.jC→u.jZ[x]?=some j→(i=n∧x=t.jC∧j=J)∨∃v:jQ,s.tasks[i]?=some v∧x<v.jC∧v.jZ[x]?=some j:=fun {i u x} hu hx hj=>by
   by_cases e:n=i
   ·subst e;rw [lq ht] at hu;injection hu with hu;subst hu;rw [T2] at hx;rw [T1] at hj;rcases amC a2 hj hx with ⟨e1,e2⟩|⟨e1,e2⟩
    ·exact .inl ⟨rfl,e1,e2⟩
    ·exact .inr ⟨t,ht,e1,e2⟩
   ·rw [mw e] at hu;exact .inr ⟨u,hu,hx,hj⟩
  rcases cv hu hx hj with ⟨e1,e2,e3⟩|⟨v,b1,b2,b3⟩<;>rcases cv uC mH mC with ⟨Lz,pW,vX⟩|⟨v',E5,E4,I9⟩
  ·exact ⟨e1.trans Lz.symm,e2.trans pW.symm⟩
  ·subst e3;exact absurd I9 (kX _ v' _ E5 E4)
  ·subst vX;exact absurd b3 (kX _ v _ b1 b2)
  ·exact h.rZ i v i' v' x x' j b1 E5 b2 E4 b3 I9
 ·rw [T1,T2,eM,Pf a2] at g2;injection g2 with g2;subst g2;rw [hJ] at g3;injection g3 with g3;subst g3;exact uj
structure Ov (s:jv) (n j:Nat) (t:jQ) (c:kh) (r:Bool×jv):Prop where
 iv:Iv r.2
 tl:r.2.tasks.length≤s.tasks.length+1∧s.tasks.length≤r.2.tasks.length
 cl:r.2.calls.length≤s.calls.length+1
 pl:r.2.jE.length≤s.jE.length+40000
 bl:r.2.ke.length≤s.ke.length+40
 go:r.1=true→∃t8 c8,r.2.tasks[n]?=some t8∧t8.jZ=t.jZ∧t8.jC=t.jC∧t8.state=1∧t8.ending=0∧t8.waits=t.waits∧r.2.calls[j]?=some c8∧c8.pc=c.pc∧c8.code=c.code∧c8.jM=c.jM
theorem Mj {s:jv} {n j:Nat} {t:jQ} {c:kh} {st:kG} {time:Int} (h:uK s n j t c st):Ov s n j t c (kR s n j t c st time):=by
 have lT:=h.iv;have ht:=h.ht;have hc:=h.hc;have hn:=(dt ht).1;have hj:=(dt hc).1;have hid:Ov s n j t c (true,s):=⟨lT,⟨fi _,dD _⟩,fi _,fj _ _,fj _ _,fun _=>⟨t,c,ht,rfl,rfl,h.sY,h.en,rfl,hc,rfl,rfl,rfl⟩⟩
 have Jh:=h.Jh;have y7:=h.y7;have Ou:=h.Ou;have MK:∀s':jv,Iv s'→s'.tasks=s.tasks→s'.calls=s.calls→s'.jE=s.jE→s'.ke=s.ke→Ov s n j t c (true,s'):=fun s' a1 a2 a3 a4 a5=>⟨a1,by simp only [a2];omega,by simp only [a3];omega,by simp only [a4];omega,by simp only [a5];omega,fun _=>⟨t,c,by simp only [a2];exact ht,rfl,rfl,h.sY,h.en,rfl,by simp only [a3];exact hc,rfl,rfl,rfl⟩⟩
 have Qq:∀(s':jv) (i:Nat) (x:Int),Iv s'→s'.tasks=s.tasks→s'.calls=s.calls→s'.jE=s.jE→s'.ke=s.ke→Ov s n j t c (true,s'.ly j { c with vars:=c.vars.set i x }):=fun s' i x a1 a2 a3 a4 a5=>by
  have lC:s'.calls[j]?=some c:=by rw [a3];exact hc
  refine ⟨a1.CS lC i x,⟨by show s'.tasks.length≤_;rw [a2];omega,by show _≤s'.tasks.length;rw [a2];omega⟩,by show (s'.calls.set _ _).length≤_;rw [dW,a3];omega,by show s'.jE.length≤_;rw [a4];omega,by show s'.ke.length≤_;rw [a5];omega,fun _=>⟨t,_,by show s'.tasks[n]?=_;rw [a2];exact ht,rfl,rfl,h.sY,h.en,rfl,yw lC,rfl,rfl,rfl⟩⟩
 obtain ⟨op,v,w,nn,tk,vs⟩:=st;have vK:=h.op;have r6:=h.r6;have r7:=h.r7;have r9:=h.r9;have sy:=h.can;simp only at vK r6 r7 r9;have AF:op=1∨op=2∨op=3∨op=4∨op=5∨op=6∨op=7∨op=8∨op=9∨op=10∨op=11∨op=12:=ae;rcases AF with rfl|rfl|rfl|rfl|rfl|rfl|rfl|rfl|rfl|rfl|rfl|rfl
 ·exact Qq (s.ll nn) v.toNat _ (lT.ll _ ae) rfl rfl rfl rfl
 ·by_cases hx:0≤(nX s (lz c w)).2
  ·simp +decide only [kR,jb,jc,ja hx];exact Qq _ v.toNat _ (lT.kE _ ae) rfl rfl rfl rfl
  ·simp +decide only [kR,jb,jc,iZ hx];refine Qq _ v.toNat _ ((((lT.kE _ ae).ll _ (by show s.jL.length<_;omega)).n7 _ _).kE _ ?_) rfl rfl rfl rfl;show (s.jT++[_]).length<_;simp;omega
 ·exact MK _ ((lT.kE _ ae).n7 _ _) rfl rfl rfl rfl
 ·exact MK _ ((lT.kE _ ae).pM _ (by show s.lines.length<_;omega)) rfl rfl rfl rfl
 ·exact MK _ ((lT.kE _ ae).n7 _ _) rfl rfl rfl rfl
 ·have th:(bif n8 c vs then decide ((s.tasks.length:Int)<32) else false)=true:=sy;obtain ⟨h1,cd,h2,h3,h4,h5,h6⟩:=r6 rfl;have rX:s.tasks.length<32:=by
   cases hb:n8 c vs with
   | true=>rw [hb] at th;have:=jm th;omega
   | false=>rw [hb] at th;cases th
  have mY:po s.p.kT tk=cd:=getD_at h2;obtain ⟨a1,a2,a3,a4⟩:=lT.wf.kQ t (dx ht);have lK:s.jE[t.jX]?=some (s.jE.getD t.jX []):=cq;have qg:=L8 lT (c:=cd) (vs:=lN c vs) (a:=s.jE.getD t.jX []) (prio:=nn) (par:=n) (canc:=t.canc) rX h.hC h.hP (by have:=h.hB;omega) ((lT.wf.p lK).2) h4 (by rw [DT];exact h5) h6 (.inr ⟨n,rfl,hn⟩);obtain ⟨e1,e2,e3⟩:=O8 (cd:=cd) (vs:=lN c vs) (a:=s.jE.getD t.jX []) (pr:=nn) (canc:=t.canc) ht h.en h.wt;simp +decide only [kR,jb,jc];rw [mY];have hI:=qg.iv.lU e1 (k:=s.tasks.length) hn (by rw [e3];omega) h.kl (if c.jM<0 then qu t.kg c.pc s.tasks.length else t.kg);refine ⟨hI,⟨by show (List.set _ _ _).length≤_;rw [dW,e3];omega,by show _≤(List.set _ _ _).length;rw [dW,e3];omega⟩,by show (oU s cd (lN c vs) (s.jE.getD t.jX []) nn n t.canc).calls.length≤_;rw [e2];simp,qg.pl,qg.bl,fun _=>⟨_,c,lq e1,rfl,rfl,h.sY,h.en,rfl,?_,rfl,rfl,rfl⟩⟩;show (oU s cd (lN c vs) (s.jE.getD t.jX []) nn n t.canc).calls[j]?=_;rw [e2,dA hj];exact hc
 ·simp +decide only [kR,jb,jc];by_cases ho:sX s (qX t nn)=true
  ·rw [ja ho];exact hid
  ·rw [iZ ho];obtain ⟨a1,a2,a3,a4⟩:=lT.wf.kQ t (dx ht);have hI:=lT.jF ht (t':={ t with waits:=qX t nn,state:=2 }) rfl (dD _) (lT.jH n t ht) rfl rfl a3 a4 (fun e=>absurd e (by show ¬(3:Int)≤2;omega)) (fun _=>h.bh) (.inl h.en) (fun _ i x hi hx=>by
    have oX:t.jZ[t.jC-1]?=some i:=hi;rw [h.tp] at oX;injection oX with oX;subst oX;rw [hc] at hx;injection hx with hx;subst hx;exact h.EZ)
   exact ⟨hI,⟨by show (List.set _ _ _).length≤_;rw [dW];omega,by show _≤(List.set _ _ _).length;rw [dW];omega⟩,by show s.calls.length≤_;omega,dm,cQ,fun e=>by cases e⟩
 ·exact MK _ ((lT.kE _ ae).n7 _ _) rfl rfl rfl rfl
 ·obtain ⟨h1,cd,h2,h3,h4,h5,h6⟩:=r9 rfl;have mY:po s.p.methods tk=cd:=getD_at h2;simp +decide only [kR,jb,jc];rw [mY];have Rl:(lQ cd (lN c vs++[nn]) nn).vars.length≤1000:=by
   simp only [lQ,dK,eB,DT,dO];omega
  have N9:Iv (s.kF (lQ cd (lN c vs++[nn]) nn)):=lT.kF h.hC Rl h6 ⟨fy _,by show (0:Int)≤_;omega⟩;have lK:(s.kF (lQ cd (lN c vs++[nn]) nn)).calls.length=s.calls.length+1:=by simp [jv.kF]
  have nU:(s.kF (lQ cd (lN c vs++[nn]) nn)).calls[j]?=some c:=by rw [Cw ae];exact hc
  by_cases hz:cd.steps.length=0
  ·rw [ja hz];exact ⟨N9,⟨by show s.tasks.length≤_;omega,dD _⟩,by rw [lK];exact dD _,dm,cQ,fun _=>⟨t,c,ht,rfl,rfl,h.sY,h.en,rfl,nU,rfl,rfl,rfl⟩⟩
  ·rw [iZ hz];have uj:=lT.qN c (dx hc);have YS:=h.EZ;have N0:(s.kF (lQ cd (lN c vs++[nn]) nn)).calls[s.calls.length]?=some (lQ cd (lN c vs++[nn]) nn):=zm;have kX:∀(k:Nat) (u:jQ) (i:Nat),s.tasks[k]?=some u→i<u.jC→u.jZ[i]?≠some s.calls.length:=fun k u i hu _ he=>by
    have:=(lT.wf.kQ u (dx hu)).1 _ (dx he);omega
   have hP:=N9.IY (n:=n) (J:=s.calls.length) ht N0 kX (by show (0:Int)<(cd.steps.length:Int);omega) h.sl;have hcP:((s.kF (lQ cd (lN c vs++[nn]) nn)).jF n { t with jZ:=oW t.jZ t.jC s.calls.length,jC:=t.jC+1 }).calls[j]?=some c:=nU;have hF:=hP.ly hcP (c':={ c with pc:=c.pc+1 }) (lT.wf.tW c (dx hc)).1 rfl ⟨by show 0≤c.pc+1;omega,by show c.pc+1≤(c.code.steps.length:Int);omega⟩ fun k u hu hs hju=>by
    exfalso;by_cases e:n=k
    ·subst e;rw [lq (show (s.kF (lQ cd (lN c vs++[nn]) nn)).tasks[n]?=some t from ht)] at hu;injection hu with hu;subst hu;have Rx:(oW t.jZ t.jC s.calls.length)[t.jC+1-1]?=some j:=hju;rw [eM,Pf (lT.wf.kQ t (dx ht)).2.1] at Rx;injection Rx with Rx;omega
    ·rw [mw e] at hu;have uC:s.tasks[k]?=some u:=hu;have pB:=lT.jH k u uC;have j6:=lT.jH n t ht;exact e (lT.rZ n t k u (t.jC-1) (u.jC-1) j ht uC ae ae h.tp hju).1
   exact ⟨hF,⟨by show (List.set _ _ _).length≤_;rw [dW];show s.tasks.length≤_;omega,by show _≤(List.set _ _ _).length;rw [dW];exact dD s.tasks.length⟩,by show (List.set _ _ _).length≤_;rw [dW,lK];exact dD _,dm,cQ,fun e=>by cases e⟩
 ·obtain ⟨kc,h1,h2⟩:=r7 (.inr rfl);simp +decide only [kR,jb,jc];have ni:=Bl (l:=pI s s.tasks.length (qX t nn)) ht;refine ⟨lT.can _,⟨by simp only [vy];omega,by simp only [vy];omega⟩,by show s.calls.length≤_;omega,dm,cQ,fun _=>⟨_,c,ni,?_,?_,?_,?_,?_,hc,rfl,rfl,rfl⟩⟩
  ·split<;>rfl
  ·split<;>rfl
  ·split<;>exact h.sY
  ·split<;>exact h.en
  ·split<;>rfl
 ·simp +decide only [kR,jb,jc];cases ni:t.canc with
  | true =>
    simp only [jb];obtain ⟨_,hI,Af⟩:=JL lT ht (by rw [h.sY];decide) h.wt h.hP (by have:=h.hB;omega);have sR:=lT.wf.nT;have h3:1001*(n+1)≤40000:=fI (Nat.mul_le_mul_left 1001 (show n+1≤33 by omega)) az;have h1:(sL s n).jE.length≤s.jE.length+40000:=fI Af.pl (Nat.add_le_add_left h3 _);have h2:(sL s n).ke.length≤s.ke.length+40:=fI Af.bl (Nat.add_le_add_left ae _);exact ⟨hI,⟨by show (sL s n).tasks.length≤_;rw [Af.tl];exact fi _,by show _≤(sL s n).tasks.length;rw [Af.tl];exact dD _⟩,by show (sL s n).calls.length≤_;rw [Af.cl];exact fi _,h1,h2,fun e=>by cases e⟩
  | false=>exact hid
 ·exact hid
def Si:jQ:=⟨[],0,0,false,-1,[],[],-1,0,0,-1,0,none⟩
def jJ (s:jv) (n:Nat):jQ:=s.tasks.getD n Si
theorem oG {s:jv} {n:Nat} {t:jQ} (h:s.tasks[n]?=some t):jJ s n=t:=getD_at h
def te (s:jv) (x:Nat):List Int:=s.jE.getD x []
theorem wF {s:jv} {x:Nat} (h:x<s.jE.length):s.jE[x]?=some (te s x):=by unfold te;rw [dI,dy h];rfl
def uT (s:jv) (n x:Nat):jv:=(s.ld (oH (te s (jJ s n).jX) (te s x))).jF n { jJ s n with jX:=s.jE.length }
def rI (s:jv) (n:Nat):jv:={ s with turns:=s.turns++[(n:Int)] }
def Kz (s:jv) (b:Nat):Nat:=(s.ke.getD b []).getD 0 0
def qf (s:jv) (n:Nat):jv:=match (jJ s n).lB with
 | none=>s
 | some b=>uT s n (Kz s b)
def vH (s:jv) (n:Nat):jv:=s.jF n { jJ s n with lB:=none }
def KA (s:jv) (k:Nat):Nat:=((s.ends.getD k none).getD 0)
def se (s:jv) (n:Nat) (st:kG):jv:=if st.op=7∧sX s (qX (jJ s n) st.n)=true then uT s n (KA s (qX (jJ s n) st.n)) else s
def ud (c:kh) (st:kG):Int:=if st.op=8 then st.n else c.jM
def sZ (s:jv) (n:Nat) (b:Bool) (a:Int):jv:=if b=true∧0≤a then uT s n (s.jV.getD a.toNat 0) else s
def xl (s:jv) (n:Nat) (time:Int):jv:={ s with jE:=s.jE.set (jJ s n).jX ((te s (jJ s n).jX).set n time) }
def tz (s:jv) (n:Nat) (b:Bool) (a:Int):jv:=if b=true∧0≤a then { s.ld (te s (jJ s n).jX) with jV:=s.jV.set a.toNat s.jE.length } else s
def Ad (s:jv) (n:Nat):jv:={ s.ld (te s (jJ s n).jX) with kK:=s.kK++[s.jE.length] }
def tw (s:jv) (n:Nat) (v:Int):jv:=s.jF n { jJ s n with has:=v }
def cl0:kh:=⟨⟨0,0,[]⟩,[],0,0⟩
def Ro (s:jv) (j:Nat):kh:=s.calls.getD j cl0
def YK (c:kh):kG:=c.code.steps.getD c.pc.toNat ⟨0,0,0,0,0,[]⟩
def rz (s:jv) (n:Nat) (c:kh) (st:kG):jv:=
 tw (Ad (tz (xl (sZ (se (vH (qf (rI s n) n) n) n st) n (lZ s c st) (ud c st)) n s.turns.length) n (lZ s c st) (ud c st)) n) n (-1)
def tg (s8:jv) (n j:Nat) (c:kh) (st:kG):jv:=
 sK (oe (n+1)) (if 0≤c.jM∧st.op≠12∧st.op≠9∧c.pc≠(c.code.steps.length:Int)-1 then tw s8 n c.jM else s8) n j
def tM (s:jv) (n j:Nat) (c:kh) (st:kG):jv:=
 if lZ s c st=false then sL (rz s n c st) n else
 if (kR (rz s n c st) n j (jJ (rz s n c st) n) c st s.turns.length).1=false then (kR (rz s n c st) n j (jJ (rz s n c st) n) c st s.turns.length).2
 else tg (kR (rz s n c st) n j (jJ (rz s n c st) n) c st s.turns.length).2 n j c st
def vc (s:jv) (n:Nat):jv:=tM s n (ye (jJ s n)) (Ro s (ye (jJ s n))) (YK (Ro s (ye (jJ s n))))
structure Cs (s:jv) (n:Nat) (t:jQ) (k:Nat) (s':jv) (t':jQ):Prop where
 iv:Iv s'
 tk:s'.tasks[n]?=some t'
 tl:s'.tasks.length=s.tasks.length
 ot:∀i,i≠n→s'.tasks[i]?=s.tasks[i]?
 p:s'.p=s.p
 jL:s'.jL=s.jL
 jT:s'.jT=s.jT
 lines:s'.lines=s.lines
 calls:s'.calls=s.calls
 ends:s'.ends=s.ends
 ke:s'.ke=s.ke
 acl:s'.jV.length=s.jV.length
 vV:t'.jZ=t.jZ∧t'.jC=t.jC∧t'.kids=t.kids∧t'.kg=t.kg
 Hj:t'.state=t.state∧t'.ending=t.ending∧t'.waits=t.waits∧t'.canc=t.canc∧t'.par=t.par
 pl:s'.jE.length≤s.jE.length+k
theorem Cs.refl {s:jv} {n:Nat} {t:jQ} (h:Iv s) (ht:s.tasks[n]?=some t):Cs s n t 0 s t:=
 ⟨h,ht,rfl,fun _ _=>rfl,rfl,rfl,rfl,rfl,rfl,rfl,rfl,rfl,⟨rfl,rfl,rfl,rfl⟩,⟨rfl,rfl,rfl,rfl,rfl⟩,dD _⟩
theorem Cs.trans {s s1 s2:jv} {n:Nat} {t t1 t2:jQ} {k k1:Nat} (h:Cs s n t k s1 t1) (g:Cs s1 n t1 k1 s2 t2):Cs s n t (k+k1) s2 t2:=by
 obtain ⟨a1,a2,a3,a4⟩:=h.vV;obtain ⟨b1,b2,b3,b4⟩:=g.vV;obtain ⟨c1,c2,c3,c4,c5⟩:=h.Hj;obtain ⟨d1,d2,d3,d4,d5⟩:=g.Hj;exact ⟨g.iv,g.tk,g.tl.trans h.tl,fun i hi=>(g.ot i hi).trans (h.ot i hi),g.p.trans h.p,g.jL.trans h.jL,g.jT.trans h.jT,g.lines.trans h.lines,g.calls.trans h.calls,g.ends.trans h.ends,g.ke.trans h.ke,g.acl.trans h.acl,⟨b1.trans a1,b2.trans a2,b3.trans a3,b4.trans a4⟩,⟨d1.trans c1,d2.trans c2,d3.trans c3,d4.trans c4,d5.trans c5⟩,by have:=h.pl;have:=g.pl;omega⟩
theorem Cs.mono {s s1:jv} {n:Nat} {t t1:jQ} {k k1:Nat} (h:Cs s n t k s1 t1) (hk:k≤k1):Cs s n t k1 s1 t1:=
 ⟨h.iv,h.tk,h.tl,h.ot,h.p,h.jL,h.jT,h.lines,h.calls,h.ends,h.ke,h.acl,h.vV,h.Hj,by have:=h.pl;omega⟩
theorem Cs.jF {s:jv} {n:Nat} {t t':jQ} (h:Iv s) (ht:s.tasks[n]?=some t) (h1:t'.jZ=t.jZ∧t'.jC=t.jC∧t'.kids=t.kids∧t'.kg=t.kg) (h2:t'.state=t.state∧t'.ending=t.ending∧t'.waits=t.waits∧t'.canc=t.canc∧t'.par=t.par) (h3:t'.jX<s.jE.length) (h4:t'.lB=t.lB∨t'.lB=none):Cs s n t 0 (s.jF n t') t':=by
 obtain ⟨a1,a2,a3,a4⟩:=h.wf.kQ t (dx ht);obtain ⟨b1,b2,b3,b4⟩:=h1;obtain ⟨c1,c2,c3,c4,c5⟩:=h2;refine ⟨h.jF ht b1 ae (by rw [b2];exact h.jH n t ht) b3 c5 h3 (fun b hb=>?_) (fun e=>h.en n t ht ae) (fun e=>?_) (by rw [c2];exact h.ed n t ht) (fun e i x hi hx=>?_),lq ht,lY,fun i hi=>mw (fun e=>hi e.symm),rfl,rfl,rfl,rfl,rfl,rfl,rfl,rfl,⟨b1,b2,b3,b4⟩,⟨c1,c2,c3,c4,c5⟩,dD _⟩
 ·rcases h4 with e|e
  ·rw [e] at hb;exact a4 b hb
  ·rw [e] at hb;cases hb
 ·rcases h4 with e2|e2
  ·rw [e2];exact h.wt n t ht ae
  ·exact e2
 ·rw [b2] at hi;exact h.rr n t i x ht (by rw [c1,c3] at e;exact e) hi hx
theorem Cs.uT {s:jv} {n x:Nat} {t:jQ} (h:Iv s) (ht:s.tasks[n]?=some t) (hx:x<s.jE.length) (hM:s.jE.length<MM):Cs s n t 1 (uT s n x) { t with jX:=s.jE.length }:=by
 obtain ⟨a1,a2,a3,a4⟩:=h.wf.kQ t (dx ht);have l1:=(h.wf.p (wF a3)).2;have l2:=(h.wf.p (wF hx)).2;have h1:=h.ld (l:=oH (te s t.jX) (te s x)) hM (by rw [DM ae];exact l1);have lr:(s.ld (oH (te s t.jX) (te s x))).tasks[n]?=some t:=ht;have h2:=Cs.jF (t':={ t with jX:=s.jE.length }) h1 lr ⟨rfl,rfl,rfl,rfl⟩ ⟨rfl,rfl,rfl,rfl,rfl⟩ (by simp [jv.ld]) (.inl rfl);unfold Go.Ab.uT;rw [oG ht];exact ⟨h2.iv,h2.tk,h2.tl,h2.ot,rfl,rfl,rfl,rfl,rfl,rfl,rfl,rfl,h2.vV,h2.Hj,by show (s.jE++[_]).length≤_;simp⟩
theorem Iv.axF {s:jv} (h:Iv s) {x:Nat} {l:List Int} (hl:l.length=32):Iv { s with jE:=s.jE.set x l }:=by
 have e:(s.jE.set x l).length=s.jE.length:=dW;refine ⟨⟨h.wf.1,h.wf.2,by show (s.jE.set x l).length≤_;rw [e];exact h.wf.3,h.wf.4,fun y hy=>?_,fun i hi=>by show i<(s.jE.set x l).length;rw [e];exact h.wf.6 i hi,fun i hi=>by show i<(s.jE.set x l).length;rw [e];exact h.wf.7 i hi,fun o ho i hi=>by show i<(s.jE.set x l).length;rw [e];exact h.wf.8 o ho i hi,fun t ht=>by
  obtain ⟨a1,a2,a3,a4⟩:=h.wf.9 t ht;exact ⟨a1,a2,by show t.jX<(s.jE.set x l).length;rw [e];exact a3,a4⟩,fun y hy=>by
  obtain ⟨a1,a2⟩:=h.wf.10 y hy;exact ⟨a1,fun i hi=>by show i<(s.jE.set x l).length;rw [e];exact a2 i hi⟩,h.wf.11,h.wf.12,h.wf.13,h.wf.14⟩,⟨h.kd.kd⟩,h.par,h.jH,h.en,h.wt,h.ed,h.rZ,h.qN,h.rr⟩
 rcases eu hy with hy|rfl
 ·exact h.wf.5 y hy
 ·exact hl
theorem Cs.xl {s:jv} {n:Nat} {t:jQ} {time:Int} (h:Iv s) (ht:s.tasks[n]?=some t):Cs s n t 0 (xl s n time) t:=by
 obtain ⟨a1,a2,a3,a4⟩:=h.wf.kQ t (dx ht);have l1:=(h.wf.p (wF a3)).2;unfold Go.Ab.xl;rw [oG ht];exact ⟨h.axF (by rw [dW];exact l1),ht,rfl,fun _ _=>rfl,rfl,rfl,rfl,rfl,rfl,rfl,rfl,rfl,⟨rfl,rfl,rfl,rfl⟩,⟨rfl,rfl,rfl,rfl,rfl⟩,by show (List.set _ _ _).length≤_;rw [dW];omega⟩
theorem Cs.tz {s:jv} {n:Nat} {t:jQ} {b:Bool} {a:Int} (h:Iv s) (ht:s.tasks[n]?=some t) (hM:s.jE.length<MM):Cs s n t 1 (tz s n b a) t:=by
 obtain ⟨a1,a2,a3,a4⟩:=h.wf.kQ t (dx ht);have l1:=(h.wf.p (wF a3)).2;unfold Go.Ab.tz;rw [oG ht];split
 ·have h1:=h.ld (l:=te s t.jX) hM l1;refine ⟨⟨⟨h1.wf.1,h1.wf.2,h1.wf.3,h1.wf.4,h1.wf.5,h1.wf.6,fun i hi=>?_,h1.wf.8,h1.wf.9,h1.wf.10,h1.wf.11,by
   obtain ⟨b1,b2,b3,b4,b5,b6,b7⟩:=h1.wf.12;exact ⟨b1,b2,b3,b4,b5,by show (s.jV.set _ _).length≤_;rw [dW];exact b6,b7⟩,h1.wf.13,h1.wf.14⟩,⟨h1.kd.kd⟩,h1.par,h1.jH,h1.en,h1.wt,h1.ed,h1.rZ,h1.qN,h1.rr⟩,ht,rfl,fun _ _=>rfl,rfl,rfl,rfl,rfl,rfl,rfl,rfl,by show (s.jV.set _ _).length=_;rw [dW],⟨rfl,rfl,rfl,rfl⟩,⟨rfl,rfl,rfl,rfl,rfl⟩,by show (s.jE++[_]).length≤_;simp⟩
  rcases eu hi with hi|rfl
  ·exact h1.wf.7 i hi
  ·show s.jE.length<(s.jE++[_]).length;simp
 ·exact (Cs.refl h ht).mono ae
theorem Cs.Ad {s:jv} {n:Nat} {t:jQ} (h:Iv s) (ht:s.tasks[n]?=some t) (hM:s.jE.length<MM) (hk:s.kK.length<1000000):Cs s n t 1 (Ad s n) t:=by
 obtain ⟨a1,a2,a3,a4⟩:=h.wf.kQ t (dx ht);have l1:=(h.wf.p (wF a3)).2;unfold Go.Ab.Ad;rw [oG ht];have h1:=h.ld (l:=te s t.jX) hM l1;refine ⟨⟨⟨h1.wf.1,h1.wf.2,h1.wf.3,h1.wf.4,h1.wf.5,fun i hi=>?_,h1.wf.7,h1.wf.8,h1.wf.9,h1.wf.10,h1.wf.11,by
  obtain ⟨b1,b2,b3,b4,b5,b6,b7⟩:=h1.wf.12;exact ⟨b1,b2,b3,b4,by show (s.kK++[_]).length≤_;simp;omega,b6,b7⟩,h1.wf.13,h1.wf.14⟩,⟨h1.kd.kd⟩,h1.par,h1.jH,h1.en,h1.wt,h1.ed,h1.rZ,h1.qN,h1.rr⟩,ht,rfl,fun _ _=>rfl,rfl,rfl,rfl,rfl,rfl,rfl,rfl,rfl,⟨rfl,rfl,rfl,rfl⟩,⟨rfl,rfl,rfl,rfl,rfl⟩,by show (s.jE++[_]).length≤_;simp⟩
 rcases eg.1 hi with hi|hi
 ·exact h1.wf.6 i hi
 ·rw [dz] at hi;subst hi;show s.jE.length<(s.jE++[_]).length;simp
theorem Cs.rI {s:jv} {n:Nat} {t:jQ} (h:Iv s) (ht:s.tasks[n]?=some t) (hk:s.turns.length<1000000):Cs s n t 0 (rI s n) t:=
 ⟨⟨⟨h.wf.1,h.wf.2,h.wf.3,h.wf.4,h.wf.5,h.wf.6,h.wf.7,h.wf.8,h.wf.9,h.wf.10,h.wf.11,by
   obtain ⟨b1,b2,b3,b4,b5,b6,b7⟩:=h.wf.12;exact ⟨b1,b2,b3,by show (s.turns++[_]).length≤_;simp;omega,b5,b6,b7⟩,h.wf.13,h.wf.14⟩,⟨h.kd.kd⟩,h.par,h.jH,h.en,h.wt,h.ed,h.rZ,h.qN,h.rr⟩,ht,rfl,fun _ _=>rfl,rfl,rfl,rfl,rfl,rfl,rfl,rfl,rfl,⟨rfl,rfl,rfl,rfl⟩,⟨rfl,rfl,rfl,rfl,rfl⟩,dD _⟩
theorem Tok.cs {k k':Nat} {s s':jv} {n j:Nat} {t t':jQ} {c:kh} {st:kG} {m:Nat} (h:Tok k s n j t c st) (g:Cs s n t m s' t') (hk:m+k'≤k):Tok k' s' n j t' c st:=by
 obtain ⟨a1,a2,a3,a4⟩:=g.vV;obtain ⟨c1,c2,c3,c4,c5⟩:=g.Hj;refine ⟨g.iv,g.tk,by rw [g.calls];exact h.hc,h.kW,⟨h.wB.v,h.wB.w,h.wB.vs,by rw [g.jL];exact h.wB.ob,h.wB.vl⟩,by rw [g.jL];exact h.ob,by rw [g.jL];exact h.Jh,by rw [g.jT];exact h.y7,by rw [g.lines];exact h.Ou,by rw [a1,a2];exact h.tp,h.EZ,by rw [c1];exact h.sY,by rw [c2];exact h.en,by rw [c3];exact h.wt,h.pc,by rw [g.calls];exact h.hC,by have:=g.pl;have:=h.hP;omega,by rw [g.ke];exact h.hB,by rw [a3];exact h.kl,by rw [a1];exact h.sl,h.vl,h.op,by rw [g.p];exact h.r6,by rw [a4,g.tl];exact h.r7,by rw [g.jL];exact h.r8,by rw [g.p];exact h.r9⟩
theorem JF {s s':jv} {n:Nat} {t t':jQ} {m:Nat} (g:Cs s n t m s' t') (c:kh) (st:kG):lZ s' c st=lZ s c st:=by
 unfold lZ room lX;rw [g.jL,g.tl]
theorem amD {s:jv} {n:Nat}:((HH s).set (ix .tn) (jD (s.turns++[(n:Int)]))).set (ix .rn) (lE (rI s n))=HH (rI s n):=by
 refine tZ (s:=s) (s':=rI s n) [(.tn,_),(.rn,_)] (vF ⟨D1,?_⟩ ⟨mc,rfl⟩) fun a ha=>?_
 ·simp [blk,rI]
 ·cases a<;>first|rfl|simp at ha
theorem PF {s:jv} {x:Nat} {l:List Int} (hx:x<s.jE.length) (h1:ix (.jX x)<NN):(HH s).set (ix (.jX x)) (jD l)=HH { s with jE:=s.jE.set x l }:=by
 refine tZ (s:=s) (s':={ s with jE:=s.jE.set x l }) [(.jX x,jD l)] (wM ⟨h1,by simp only [blk];rw [ee hx]⟩) fun a ha=>?_;simp only [ef,ez,dz] at ha;cases a with
 | jX j=>simp only [blk];rw [dS fun e=>ha bP]
 | _=>rfl
theorem asJ {s:jv} {l:List Nat} (hl:l.length=s.jV.length):(HH s).set (ix .at') ⟨25,1,l.map lS⟩=HH { s with jV:=l }:=
 tZ (s:=s) (s':={ s with jV:=l }) [(.at',_)] (wM ⟨zt,rfl⟩) fun a ha=>by
  cases a with
  | at'=>simp at ha
  | rn=>simp only [blk,lE,hl]
  | _=>rfl
def Gt (s:jv) (k:Nat):jv:={ s with kK:=s.kK++[k] }
theorem asK {s:jv} {k:Nat}:((HH s).set (ix .ck) ⟨25,1,s.kK.map lS++[lS k]⟩).set (ix .rn) (lE (Gt s k))=HH (Gt s k):=by
 refine tZ (s:=s) (s':=Gt s k) [(.ck,_),(.rn,_)] (vF ⟨zo,?_⟩ ⟨mc,rfl⟩) fun a ha=>?_
 ·simp [blk,Gt]
 ·cases a<;>first|rfl|simp at ha
theorem UH {mm:List (Nat×Obj)} {s s':jv} (hw:WF s) (tC:WF s') {T:List jy} {ρ:Operand→AV} {c:Call} {fx:Operand} {f:FuncId} {caps args:List AV} {d:AV} (hf:vh Tryd.prog mm f args (HH s) d (HH s')) (pD:Ar mm ρ) (hc:c.callee=.value fx) (qL:ρ fx=.j9 f caps) (ha:c.args.toList.map ρ++caps=args) (hr:∀a∈args,mR (·<NN) a) (hd:mR (·<NN) d):PL Tryd.prog (HH s++T) ρ (.call c) d (HH s'++T):=by
 have rW:∀b,b<NN→ro (List.range NN) b=some b:=fun b hb=>bo;refine OW hf pD (.pre (kC s) (kC s') (vd hw) (vd tC)) hc qL ?_ (hd.mv fun b hb=>Cj hb);rw [ha];clear ha hf
 induction args with
 | nil=>trivial
 | cons a l ih=>exact ⟨(hr a ah).mv rW,ih fun x hx=>hr x (by simp [hx])⟩
theorem D0 {st:kG} {S:Nat→Prop}:∀b∈[j7 st],kI S b:=JP (.one fun c hc=>by
 simp only [dC,dB,jd] at hc;rcases hc with rfl|rfl|rfl|rfl|rfl|rfl<;>first|exact .pu (.base _)|exact .pu (l7 _))
theorem PA {mm:List (Nat×Obj)} (pD:xp mm) {s:jv} {n j:Nat} {t:jQ} {c:kh} {st:kG} (h:Tok 80010 s n j t c st) (hss:c.code.steps[c.pc.toNat]?=some st) (kW:0≤ud c st→(ud c st).toNat<s.jV.length) (xI:s.turns.length≤900000) (wZ:s.kK.length≤900000) :
 vh Tryd.prog mm 62 [jI,.int n] (HH s) (.ky []) (HH (tM s n j c st)):=by
 have lT:=h.iv;have hw:=lT.wf;have ht:=h.ht;have hc:=h.hc;obtain ⟨g1,g2,g3,g4,hn,g6⟩:=hw.k ht;obtain ⟨k1,k2⟩:=hw.c hc;have hlen:=kC s;have pB:=lT.jH n t ht;obtain ⟨m,hm⟩:∃m,t.jC=m+1:=⟨t.jC-1,ae⟩
 have Og:t.jZ[m]?=some j:=by have:=h.tp;rw [hm] at this;exact this
 have ow:=HF hw ht g1 g2 hm Og hc k1 (i:=c.pc.toNat) (dP h.pc.1).symm hss;refine vh.nZ [(0,jI),(1,.int n)] 2 223 NN Tryd.func62 ag rfl rfl rfl rfl rfl rfl (kC s) ?_;refine jw ?_;refine jB.q2 (lu (n:=n) (b:=ix .tk) aa aa ew aa ah hn aa) ?_;refine jw ?_;refine jB.p2 (rM ow aP rfl aa aa) ?_;refine IA ?_;refine Bq ?_;refine yj ?_;refine Bq ?_;have lF:=amD (s:=s) (n:=n);have hr:lE (rI s n)=⟨83,13,[.agg [.jA (s.p.kT.map kx),.jA (s.p.methods.map kx),.int s.p.mb,.jA (s.sched.map .int),.int s.used,.own (ix .ob) s.jL.length 0 s.jL.length,.own (ix .tk) s.tasks.length 0 s.tasks.length,.own (ix .ln) s.lines.length 0 s.lines.length,.own (ix .ac) s.jT.length 0 s.jT.length,.own (ix .tn) (s.turns.length+1) 0 (s.turns.length+1),.own (ix .ck) s.kK.length 0 s.kK.length,.own (ix .en) s.ends.length 0 s.ends.length,.own (ix .at') s.jV.length 0 s.jV.length]]⟩:=by
  simp only [lE,rI,dK,dO]
 rw [hr] at lF;have he:jD (s.turns++[(n:Int)])=⟨3,1,s.turns.map AV.int++[.int n]⟩:=ah;rw [he] at lF;have HX:=lF;clear hr he;have hA:=Cs.rI lT ht ae;obtain ⟨s1,j6⟩:∃s1,s1=rI s n:=⟨_,rfl⟩
 rw [← j6] at lF HX hA;have Ow:=Hid.mk hA;have oL:=Hid.mk j6;have lr:=hA.tk;have kq:=hA.iv.wf;have zU:n<s1.tasks.length:=by rw [hA.tl];exact hn
 have nU:s1.calls[j]?=some c:=by rw [hA.calls];exact hc
 clear hA j6 ow hm Og;refine jG.seq ?_;refine jG.join ⟨[(0,jI),(1,.int n),(4,nW n),(5,.ptr NN 1 0 0),(6,kM j),(7,.int s.turns.length),(mu,.mem mm)],HH s1++[j7 st]⟩ ?_ ?_
 ·refine yj ?_;refine jB.p2 (tX (b:=ix .tn) (tot:=s.turns.length) (es:=[.int n]) (blk:=jD s.turns) aa aa aa ah dG ug rfl rfl ah (fun e he=>aw) aj aj) ?_;refine jw ?_;exact .wf (hH:=aa)
 clear lF;refine jG.seq ?_;have xD:s1.jE.length+80010≤MM:=by have:=Ow.out.pl;have:=h.hP;omega
 have zf:∀b,t.lB=some b→∃x,s1.ke[b]?=some [x]∧x<s1.jE.length∧Kz s1 b=x:=fun b hb=>by
  have lR:=(kq.kQ t (dx lr)).2.2.2 b hb;have BQ:s1.ke[b]?=some s1.ke[b]:=dy lR;obtain ⟨e1,e2⟩:=kq.ke _ (dx BQ);obtain ⟨x,hx⟩:∃x,s1.ke[b]=[x]:=List.length_eq_one_iff.1 e1;rw [hx] at BQ e2;exact ⟨x,BQ,e2 x ah,by unfold Kz;rw [getD_at BQ];rfl⟩
 have nV:Cs s1 n t 1 (qf s1 n) (jJ (qf s1 n) n):=by
  unfold qf;rw [oG lr];cases DC:t.lB with
  | none=>simp only;rw [oG lr];exact (Cs.refl Ow.out.iv lr).mono ae
  | some b =>
    obtain ⟨x,e1,e2,e3⟩:=zf b DC;simp only;rw [e3];have:=Cs.uT Ow.out.iv lr e2 ae;rw [oG this.tk];exact this
 obtain ⟨s2,jW⟩:∃s2,s2=qf s1 n:=⟨_,rfl⟩
 obtain ⟨t2,MT⟩:∃t2,t2=jJ s2 n:=⟨_,rfl⟩
 rw [← jW,← MT] at nV;have ov:=nV.tk;refine jG.join ⟨[(0,jI),(1,.int n),(4,nW n),(5,.ptr NN 1 0 0),(6,kM j),(7,.int s.turns.length),(mu,.mem mm)],HH s2++[j7 st]⟩ ?_ ?_
 ·cases DC:t.lB with
  | none =>
    have e2:s2=s1:=by rw [jW];unfold qf;rw [oG lr,DC]
    rw [e2];refine jw ?_;refine jG.Eg ?_;refine jw ?_;refine jK ?_ rfl aa;refine jw ?_;exact .wf
  | some b =>
    obtain ⟨x,e1,e2,e3⟩:=zf b DC;have hbM:ix (.lB b)<NN:=mq (a:=.lB b) (by have:=(kq.kQ t (dx lr)).2.2.2 b DC;have:=kq.nB;show b<MM;omega);have lK:=wF (kq.kQ t (dx lr)).2.2.1;have wV:=wF e2;obtain ⟨sP,nS⟩:∃sP,sP=s1.ld (oH (te s1 t.jX) (te s1 x)):=⟨_,rfl⟩
    have hj:∀(ρ:Operand→AV) (cl:Call) (fx:Operand),cl.callee=.value fx→ρ fx=.j9 87 []→cl.args.toList.map ρ++[]=[lS t.jX,lS x]→PL Tryd.prog (HH s1++[j7 st]) ρ (.call cl) (lS s1.jE.length) (HH sP++[j7 st]):=fun ρ cl fx q1 q2 q3=>by
     rw [nS];exact Mt kq ae lK wV D0 q1 q2 q3
    have DJ:sP.tasks[n]?=some t:=by rw [nS];exact lr
    have lF:=FM (s:=sP) (t':={ t with jX:=s1.jE.length }) DJ g1 rfl rfl rfl;have TA:s2=sP.jF n { t with jX:=s1.jE.length }:=by
     have:qf s1 n=uT s1 n x:=by unfold qf;rw [oG lr,DC];exact jj (uT s1 n) e3
     rw [jW,this,nS];unfold uT;rw [oG lr]
    rw [← TA] at lF;have pz:=Hid.mk jW;have htS:=ov;have aE7:=Hid.mk TA;have BG:=Hid.mk nS;simp only [mG,vJ,DC] at lF;clear jW TA nS e3 lK wV nV zf;refine jw ?_;refine jG.Eg ?_;refine jw ?_;refine j8 ?_ rfl aa;refine jw ?_;refine jB.q2 (lu (n:=0) (b:=ix (.lB b)) (tot:=1) (len:=1) (blk:=⟨25,1,[lS x]⟩) aa aa fb aa rfl az aa) ?_;refine jw ?_;refine jB.p2 (hj _ _ _ rfl aa aa) ?_;refine jw ?_;refine H8.Eg ?_;refine jw ?_;refine jK ?_ rfl aa;refine jw ?_;exact .wf
 have YT:=Hid.mk jW;have axG:=Hid.mk jW;have Ng:=Hid.mk nV;clear nV zf jW MT;obtain ⟨s3,w3⟩:=xb.mk' ov { t2 with lB:=none };have e3:=w3.lF ov g1 rfl rfl rfl;have rl:=w3.tk;have lV:Hid (s3=vH s2 n):=⟨by rw [w3.eq];unfold vH;rw [oG ov]⟩
 have Ca:Cs s1 n t 1 s3 { t2 with lB:=none }:=by
  rw [w3.eq];exact (Ng.out.trans (Cs.jF (t':={ t2 with lB:=none }) Ng.out.iv ov ⟨rfl,rfl,rfl,rfl⟩ ⟨rfl,rfl,rfl,rfl,rfl⟩ ((Ng.out.iv.wf.kQ t2 (dx ov)).2.2.1) (.inr rfl)))
 have zW:s3.calls[j]?=some c:=by rw [Ca.calls];exact nU
 simp only [mG,vJ] at e3;have YU:=Hid.mk Ca;clear Ca w3;refine jG.seq ?_;refine jG.join ⟨[(0,jI),(1,.int n),(4,nW n),(5,.ptr NN 1 0 0),(6,kM j),(7,.int s.turns.length),(mu,.mem mm)],HH s3++[j7 st]⟩ ?_ ?_
 ·refine yj ?_;exact Bq (.wf (hH:=aa))
 clear e3;refine jG.seq ?_;refine jG.join ⟨[(0,jI),(1,.int n),(4,nW n),(5,.ptr NN 1 0 0),(6,kM j),(7,.int s.turns.length),(10,.int c.jM),(mu,.mem mm)],HH s3++[j7 st]⟩ ?_ ?_
 ·refine yj ?_;exact Bq .wf
 refine jG.seq ?_;refine jG.join ⟨[(0,jI),(1,.int n),(4,nW n),(5,.ptr NN 1 0 0),(6,kM j),(7,.int s.turns.length),(10,.int (ud c st)),(mu,.mem mm)],HH s3++[j7 st]⟩ ?_ ?_
 ·refine jw ?_;by_cases h8:st.op=8
  ·have hd:(st.op==8)=true:=by simp [h8]
   have TB:ud c st=st.n:=ja h8;refine j8 ?_ rfl aa;refine jw ?_;rw [TB];exact .wf
  ·have hd:(st.op==8)=false:=by simp [h8]
   have TB:ud c st=c.jM:=iZ h8;refine jK ?_ rfl aa;refine jw ?_;rw [TB];exact .wf
 obtain ⟨a,I6⟩:∃a,a=ud c st:=⟨_,rfl⟩
 rw [← I6] at kW ⊢;have axH:=Hid.mk I6;have Ry:=Hid.mk kW;clear I6 kW;obtain ⟨t3,Gk⟩:∃t3,t3={ t2 with lB:=none }:=⟨_,rfl⟩
 rw [← Gk] at rl;have He:t3.lB=none:=by rw [Gk]
 have Ca:Cs s1 n t 1 s3 t3:=by rw [Gk];exact YU.out
 have xT:=Ca.iv;have mD:=xT.wf;have Ba:Cs s n t 1 s3 t3:=(Ow.out.trans Ca).mono ae;have B1:s3.jE.length+80009≤MM:=by have:=Ca.pl;omega
 clear YU Gk ov;have YV:=(mD.kQ t3 (dx rl)).2.2.1;have h7:st.op=7→∃(kc:Nat) (tc:jQ),getM t3.kg st.n=some (kc:Int)∧kc<s3.tasks.length∧s3.tasks[kc]?=some tc∧qX t3 st.n=kc∧sX s3 kc=decide (3≤tc.state)∧(3≤tc.state→∃x,s3.ends[kc]?=some (some x)∧x<s3.jE.length∧KA s3 kc=x):=fun e=>by
  obtain ⟨kc,q1,q2⟩:=h.r7 (.inl e);rw [← Ba.vV.2.2.2] at q1;rw [← Ba.tl] at q2;have Ag:s3.tasks[kc]?=some s3.tasks[kc]:=dy q2;refine ⟨kc,s3.tasks[kc],q1,q2,Ag,by unfold qX;rw [q1];rfl,by unfold sX;rw [Ag],fun h3=>?_⟩;obtain ⟨x,hx⟩:=xT.en kc _ Ag h3;exact ⟨x,hx,mD.ends _ (dx hx) x rfl,by unfold KA;rw [getD_at hx];rfl⟩
 obtain ⟨s4,ox⟩:∃s4,s4=se s3 n st:=⟨_,rfl⟩
 have Oa:∃t4,Cs s3 n t3 1 s4 t4∧t4.lB=none:=by
  rw [ox];unfold se;rw [oG rl];split
  ·rename_i hh;obtain ⟨kc,tc,q1,q2,q3,q4,q5,q6⟩:=h7 hh.1;rw [q4,q5] at hh;obtain ⟨x,x1,x2,x3⟩:=q6 (jm hh.2);rw [q4,x3];exact ⟨_,Cs.uT xT rl x2 ae,He⟩
  ·exact ⟨t3,(Cs.refl xT rl).mono ae,He⟩
 refine jG.seq ?_;refine jG.join ⟨[(0,jI),(1,.int n),(4,nW n),(5,.ptr NN 1 0 0),(6,kM j),(7,.int s.turns.length),(10,.int a),(mu,.mem mm)],HH s4++[j7 st]⟩ ?_ ?_
 ·by_cases Jj:st.op=7
  ·obtain ⟨kc,tc,q1,q2,q3,q4,q5,q6⟩:=h7 Jj;obtain ⟨y1,y2,y3,y4,yn,y6⟩:=mD.k q3;have io:=yv q3 y1;have q1':=Hid.mk q1;have hd:(st.op==7)=true:=by simp [Jj]
   have h7H:=Hid.mk Jj;clear h7 q1 Jj;refine jw ?_;refine j8 ?_ rfl aa;refine jw ?_;refine mi (k:=6) follows (hr:=?_);refine jw ?_;refine jB.q2 (OU (a:=st.n) (m:=t3.kg) (enc:=H0) (f:=AV.int) (b:=ix (.kg n)) aa aa aa Tryd.underlying86 gL (zn.int _) D5) ?_;rw [q1'.out,eJ,eR];refine jw ?_;refine jB.q2 (lu (n:=kc) (b:=ix .tk) aa aa ew aa ah q2 aa) ?_;refine jw ?_;refine jB.p2 (sf mD mD (T:=[j7 st]) io rfl aa aa ?_ (.pu (.base _))) ?_
   ·intro a ha;rw [dz] at ha;subst ha;exact .ptr y1
   refine jw ?_;by_cases h3:3≤tc.state
   ·have um:decide (3≤tc.state)=true:=by simp [h3]
    obtain ⟨x,x1,x2,x3⟩:=q6 h3;refine j8 ?_ rfl aa;refine jw ?_;have hem:(s3.ends.map zO)[kc]?=some (lS x):=by rw [dE,x1];rfl
    have pR:kc<s3.ends.length:=(dt x1).1;have AK:=wF YV;have hxA:=wF x2;obtain ⟨sP,nS⟩:∃sP,sP=s3.ld (oH (te s3 t3.jX) (te s3 x)):=⟨_,rfl⟩
    have hj:∀(ρ:Operand→AV) (cl:Call) (fx:Operand),cl.callee=.value fx→ρ fx=.j9 87 []→cl.args.toList.map ρ++[]=[lS t3.jX,lS x]→PL Tryd.prog (HH s3++[j7 st]) ρ (.call cl) (lS s3.jE.length) (HH sP++[j7 st]):=fun ρ cl fx q1 q2 q3=>by
     rw [nS];exact Mt mD ae AK hxA D0 q1 q2 q3
    have DJ:sP.tasks[n]?=some t3:=by rw [nS];exact rl
    have Be:sP.ends=s3.ends:=by rw [nS];rfl
    have lF:=FM (s:=sP) (t':={ t3 with jX:=s3.jE.length }) DJ g1 rfl rfl rfl;have TC:s4=sP.jF n { t3 with jX:=s3.jE.length }:=by
     have:se s3 n st=uT s3 n x:=by unfold se;rw [oG rl,q4,q5,um,ja ⟨h7H.out,rfl⟩,x3]
     rw [ox,this,nS];unfold uT;rw [oG rl]
    rw [← TC] at lF;have aE8:=Hid.mk TC;have MW:=Hid.mk ox;have BG:=Hid.mk nS;simp only [mG,vJ,He] at lF;clear ox TC nS x3 x1 AK hxA q5 q6;refine qK (k:=13) [none,none,none,none,none,none,none,none,none,none,none,none,some 0] (fun k=>match k with
     | 0=>HH s3++[j7 st]
     | _=>HH sP++[j7 st]) 1 follows ?_
    refine gS ?_;refine gS ?_;refine gS ?_;refine gS ?_;refine gS ?_;refine gS ?_;refine gS ?_;refine gS ?_;refine gS ?_;refine gS ?_;refine ko.q1 (v:=.ptr (ix .en) s3.ends.length kc 0) rfl rfl (fun c hc=>?_) ?_
    ·rcases c with _|c
     ·exact lu (n:=kc) (b:=ix .en) aa aa fb aa ah pR aa
     ·exact lu (n:=kc) (b:=ix .en) aa aa fb aa (by simp [Be]) pR aa
    refine gS ?_;refine ko.p1 (v:=lS s3.jE.length) rfl rfl (fun kB h=>hj kB _ _ rfl ((h (.func 87) ai).trans aa) (by
     simp only [List.map];rw [h (.tmp 94) ai,h (.tmp 101) ai];simp +decide only [go_sem, *]<;>rfl)) ?_
    refine ko.nil ?_;refine jw ?_;exact .wf (hH:=aa)
   ·have um:decide (3≤tc.state)=false:=by simp [h3]
    have e4:s4=s3:=by rw [ox];unfold se;rw [oG rl,q4,q5,um,iZ ah]
    rw [e4];refine jK ?_ rfl aa;refine jw ?_;exact .wf
  ·have hd:(st.op==7)=false:=by simp [Jj]
   have e4:s4=s3:=by rw [ox];unfold se;rw [iZ (fun e=>Jj e.1)]
   rw [e4];clear h7;refine jw ?_;refine jK ?_ rfl aa;refine jw ?_;exact .wf
 obtain ⟨t4,Gl,yl⟩:=Oa;have Ah:Cs s n t 2 s4 t4:=(Ba.trans Gl).mono ae;have zd:=Gl.iv;have qD:=zd.wf;have tU:=Gl.tk;have I5:s4.jE.length+80008≤MM:=by have:=Gl.pl;omega
 have Oo:s4.calls[j]?=some c:=by rw [Ah.calls];exact hc
 have YW:=(qD.kQ t4 (dx tU)).2.2.1;have hT4:=h.cs Ah (k':=80008) ae;have sy:=aoI qD Oo hT4.wB;rw [JF Ah] at sy;obtain ⟨cn,ni⟩:∃cn,cn=lZ s c st:=⟨_,rfl⟩
 rw [← ni] at sy;have Rz:=Hid.mk ni;have YX:=Hid.mk ox;have YY:=lV;clear h7 ni ox zW rl He Ca Ba Gl xT mD YV B1 lr kq zU xD nU Ng axG;refine jG.seq ?_;refine jG.join ⟨[(0,jI),(1,.int n),(4,nW n),(5,.ptr NN 1 0 0),(6,kM j),(7,.int s.turns.length),(10,.int a),(12,.bool cn),(mu,.mem mm)],HH s4++[j7 st]⟩ ?_ ?_
 ·refine yj ?_;refine jB.p2 (sf qD qD (T:=[j7 st]) sy rfl aa aa ?_ (.pu (.base _))) ?_
  ·intro a ha;simp only [dC,dB,jd] at ha;rcases ha with rfl|rfl|rfl
   ·exact .ptr mc
   ·exact .pu (JB _)
   ·exact .ptr k1
  refine IA ?_;exact Bq .wf
 clear sy;have Ir:0≤a→∃(an y:Nat),a=an∧an<s4.jV.length∧s4.jV[an]?=some y∧y<s4.jE.length∧s4.jV.getD a.toNat 0=y:=fun h0=>by
  have h1:=Ry.out h0;rw [← Ah.acl] at h1;have h2:s4.jV[a.toNat]?=some s4.jV[a.toNat]:=dy h1;exact ⟨a.toNat,s4.jV[a.toNat],(dP h0).symm,h1,h2,qD.jV _ (dx h2),getD_at h2⟩
 obtain ⟨s5,uh⟩:∃s5,s5=sZ s4 n cn a:=⟨_,rfl⟩
 have Ob:∃t5,Cs s4 n t4 1 s5 t5∧t5.lB=none:=by
  rw [uh];unfold sZ;split
  ·rename_i hh;obtain ⟨an,y,q1,q2,q3,q4,q5⟩:=Ir hh.2;rw [q5];exact ⟨_,Cs.uT zd tU q4 ae,yl⟩
  ·exact ⟨t4,(Cs.refl zd tU).mono ae,yl⟩
 refine jG.seq ?_;refine jG.join ⟨[(0,jI),(1,.int n),(4,nW n),(5,.ptr NN 1 0 0),(6,kM j),(7,.int s.turns.length),(10,.int a),(12,.bool cn),(mu,.mem mm)],HH s5++[j7 st]⟩ ?_ ?_
 ·cases cn with
  | false =>
    have e5:s5=s4:=by rw [uh];unfold sZ;rw [iZ ah]
    rw [e5];clear Ir;refine jw ?_;refine jK ?_ rfl aa;refine jw ?_;exact .wf
  | true =>
    by_cases h0:0≤a
    ·obtain ⟨an,y,q1,q2,q3,q4,q5⟩:=Ir h0;have hd:decide (a≥0)=true:=by simp [h0]
     subst q1;have hem:(s4.jV.map lS)[an]?=some (lS y):=by rw [dE,q3];rfl
     have AK:=wF YW;have hyA:=wF q4;obtain ⟨sP,nS⟩:∃sP,sP=s4.ld (oH (te s4 t4.jX) (te s4 y)):=⟨_,rfl⟩
     have hj:∀(ρ:Operand→AV) (cl:Call) (fx:Operand),cl.callee=.value fx→ρ fx=.j9 87 []→cl.args.toList.map ρ++[]=[lS t4.jX,lS y]→PL Tryd.prog (HH s4++[j7 st]) ρ (.call cl) (lS s4.jE.length) (HH sP++[j7 st]):=fun ρ cl fx q1 q2 q3=>by
      rw [nS];exact Mt qD ae AK hyA D0 q1 q2 q3
     have DJ:sP.tasks[n]?=some t4:=by rw [nS];exact tU
     have Be:sP.jV=s4.jV:=by rw [nS];rfl
     have lF:=FM (s:=sP) (t':={ t4 with jX:=s4.jE.length }) DJ g1 rfl rfl rfl;have TD:s5=sP.jF n { t4 with jX:=s4.jE.length }:=by
      rw [uh,nS];unfold sZ;rw [ja ⟨rfl,h0⟩,q5];unfold uT;rw [oG tU]
     rw [← TD] at lF;have aE9:=Hid.mk TD;have Km:=Hid.mk uh;have BG:=Hid.mk nS;simp only [mG,vJ,yl] at lF;clear uh TD nS q5 AK hyA Ir;refine jw ?_;refine j8 ?_ rfl aa;refine jw ?_;refine qK (k:=13) [none,none,none,none,none,none,none,none,none,none,none,none,some 0] (fun k=>match k with
      | 0=>HH s4++[j7 st]
      | _=>HH sP++[j7 st]) 1 follows ?_
     refine gS ?_;refine gS ?_;refine gS ?_;refine gS ?_;refine gS ?_;refine gS ?_;refine gS ?_;refine gS ?_;refine gS ?_;refine gS ?_;refine ko.q1 (v:=.ptr (ix .at') s4.jV.length an 0) rfl rfl (fun c hc=>?_) ?_
     ·rcases c with _|c
      ·exact lu (n:=an) (b:=ix .at') aa aa fb aa ah q2 aa
      ·exact lu (n:=an) (b:=ix .at') aa aa fb aa (by simp [Be]) q2 aa
     refine gS ?_;refine ko.p1 (v:=lS s4.jE.length) rfl rfl (fun kB h=>hj kB _ _ rfl ((h (.func 87) ai).trans aa) (by
      simp only [List.map];rw [h (.tmp 118) ai,h (.tmp 125) ai];simp +decide only [go_sem, *]<;>rfl)) ?_
     refine ko.nil ?_;refine jw ?_;exact .wf (hH:=aa)
    ·have e5:s5=s4:=by rw [uh];unfold sZ;rw [iZ (fun e=>h0 e.2)]
     have hd:decide (a≥0)=false:=je ae;rw [e5];clear Ir;refine jw ?_;refine jK ?_ rfl aa;refine jw ?_;exact .wf
 obtain ⟨t5,Gm,Hf⟩:=Ob;have Hg:Cs s n t 3 s5 t5:=(Ah.trans Gm).mono ae;have TE:=Gm.iv;have Dm:=TE.wf;have IS:=Gm.tk;have hp5:s5.jE.length+80007≤MM:=by have:=Gm.pl;omega
 have KE:=(Dm.kQ t5 (dx IS)).2.2.1;have axI:0≤a→a.toNat<s5.jV.length:=fun h0=>by rw [Hg.acl];exact Ry.out h0
 have YZ:=Hid.mk uh;clear Ir Gm uh zd qD tU I5 Oo YW hT4 yl;have sR:n<32:=by have:=hw.nT;omega
 have Ox:=(Dm.p (wF KE)).2;have axJ:ix (.jX t5.jX)<NN:=(Dm.p (wF KE)).1;obtain ⟨s6,I7⟩:∃s6,s6=xl s5 n s.turns.length:=⟨_,rfl⟩
 have Bb:Cs s5 n t5 0 s6 t5:=by rw [I7];exact Cs.xl TE IS
 have MJ:(HH s5).set (ix (.jX t5.jX)) (jD ((te s5 t5.jX).set n (s.turns.length:Int)))=HH s6:=by
  rw [I7];unfold xl;rw [oG IS];exact PF KE axJ
 have axK:=wF KE;have Y0:=Hid.mk I7;have axL:=Hid.mk Bb;clear Bb I7;refine jG.seq ?_;refine jG.join ⟨[(0,jI),(1,.int n),(4,nW n),(5,.ptr NN 1 0 0),(6,kM j),(7,.int s.turns.length),(10,.int a),(12,.bool cn),(mu,.mem mm)],HH s6++[j7 st]⟩ ?_ ?_
 ·refine yj ?_;refine jB.q2 (lu (n:=n) (b:=ix (.jX t5.jX)) aa aa dG aa (by simp [Ox]) sR aa) ?_;refine IA ?_;refine jB.p2 (xc (f:=AV.int) (l:=te s5 t5.jX) (b:=ix (.jX t5.jX)) (tot:=32) (i:=n) (ty:=3) (sz:=1) (s.turns.length:Int) aa aa aa Ox (by rw [Ox];exact sR) ny rfl rfl) ?_;exact Bq (.wf (hH:=aa))
 have Bb:=axL.out;have Fl:Cs s n t 3 s6 t5:=(Hg.trans Bb).mono ae;have TF:=Bb.iv;have yq:=TF.wf;have xO:=Bb.tk;have hp6:s6.jE.length+80007≤MM:=by have:=Bb.pl;omega
 have Y1:=(yq.kQ t5 (dx xO)).2.2.1;have RA:0≤a→a.toNat<s6.jV.length:=fun h0=>by rw [Fl.acl];exact Ry.out h0
 clear axK MJ axI Bb TE Dm IS hp5 KE Ox;obtain ⟨s7,Bc⟩:∃s7,s7=tz s6 n cn a:=⟨_,rfl⟩
 have Cb:Cs s6 n t5 1 s7 t5:=by rw [Bc];exact Cs.tz TF xO ae
 refine jG.seq ?_;refine jG.join ⟨[(0,jI),(1,.int n),(4,nW n),(5,.ptr NN 1 0 0),(6,kM j),(7,.int s.turns.length),(10,.int a),(12,.bool cn),(mu,.mem mm)],HH s7++[j7 st]⟩ ?_ ?_
 ·have aEa:=Hid.mk Cb;clear Cb;cases cn with
  | false =>
    have e7:s7=s6:=by rw [Bc];unfold tz;rw [iZ ah]
    rw [e7];refine jw ?_;refine jK ?_ rfl aa;refine jw ?_;exact .wf
  | true =>
    by_cases h0:0≤a
    ·have h1:=RA h0;obtain ⟨an,RT⟩:∃an:Nat,a=an:=⟨_,(dP h0).symm⟩
     subst RT;rw [dF] at h1;have hd:decide ((an:Int)≥0)=true:=ah;have AK:=wF Y1;obtain ⟨sP,nS⟩:∃sP,sP=s6.ld (te s6 t5.jX):=⟨_,rfl⟩
     have hj:∀(ρ:Operand→AV) (cl:Call) (fx:Operand),cl.callee=.value fx→ρ fx=.j9 89 []→cl.args.toList.map ρ++[]=[lS t5.jX]→PL Tryd.prog (HH s6++[j7 st]) ρ (.call cl) (lS s6.jE.length) (HH sP++[j7 st]):=fun ρ cl fx q1 q2 q3=>by
      rw [nS];exact Vn yq ae AK D0 q1 q2 q3
     have DJ:sP.tasks[n]?=some t5:=by rw [nS];exact xO
     have Be:sP.jV=s6.jV:=by rw [nS];rfl
     have lF:=asJ (s:=sP) (l:=sP.jV.set an s6.jE.length) dW;have TG:s7={ sP with jV:=sP.jV.set an s6.jE.length }:=by
      rw [Bc,nS];unfold tz;rw [ja ⟨rfl,ae⟩,oG xO];rfl
     rw [← TG,fJ,Be] at lF;have aEb:=Hid.mk TG;have aEc:=Hid.mk Bc;have BG:=Hid.mk nS;clear Bc TG nS AK RA;refine jw ?_;refine j8 ?_ rfl aa;refine jw ?_;refine qK (k:=10) [none,none,none,none,none,none,none,none,none,some 0] (fun k=>match k with
      | 0=>HH s6++[j7 st]
      | _=>HH sP++[j7 st]) 1 follows ?_
     refine gS ?_;refine gS ?_;refine gS ?_;refine gS ?_;refine gS ?_;refine gS ?_;refine gS ?_;refine gS ?_;refine gS ?_;refine ko.p1 (v:=lS s6.jE.length) rfl rfl (fun kB h=>hj kB _ _ rfl ((h (.func 89) ai).trans aa) (by
      simp only [List.map];rw [h (.tmp 149) ai];simp +decide only [go_sem, *]<;>rfl)) ?_
     refine ko.nil ?_;refine jw ?_;refine jB.q2 (lu (n:=an) (b:=ix .at') aa aa fb aa (by simp [Be]) h1 aa) ?_;refine jB.p2 (qP (b:=ix .at') (tot:=s6.jV.length) (i:=an) (off:=0) (blk:=⟨25,1,s6.jV.map lS⟩) (v:=lS s6.jE.length) aa aa aa ah (by rw [dE,dy h1];rfl) ag rfl rfl) ?_;refine jw ?_;exact .wf (hH:=aa)
    ·have e7:s7=s6:=by rw [Bc];unfold tz;rw [iZ (fun e=>h0 e.2)]
     have hd:decide (a≥0)=false:=je ae;rw [e7];refine jw ?_;refine jK ?_ rfl aa;refine jw ?_;exact .wf
 have Hh:Cs s n t 4 s7 t5:=(Fl.trans Cb).mono ae;have TI:=Cb.iv;have IW:=TI.wf;have Dw:=Cb.tk;have Lv:s7.jE.length+80006≤MM:=by have:=Cb.pl;omega
 have Y2:=(IW.kQ t5 (dx Dw)).2.2.1;have hz7:s7.kK.length≤900000:=by
  have e3:(qf s1 n).kK=s1.kK:=by unfold qf;split<;>rfl
  have e4:(se s3 n st).kK=s3.kK:=by unfold se;split<;>rfl
  have e5:(sZ s4 n cn a).kK=s4.kK:=by unfold sZ;split<;>rfl
  have e7:(tz s6 n cn a).kK=s6.kK:=by unfold tz;split<;>rfl
  rw [Bc,e7,Y0.out];show s5.kK.length≤_;rw [YZ.out,e5,YX.out,e4,YY.out];show s2.kK.length≤_;have axM:s2.kK=s1.kK:=by rw [YT.out,e3]
  rw [axM,oL.out];exact wZ
 have axN:=Hid.mk Bc;clear Bc Cb TF yq xO hp6 Y1 RA;obtain ⟨s8,A9⟩:∃s8,s8=Ad s7 n:=⟨_,rfl⟩
 have DE:Cs s7 n t5 1 s8 t5:=by rw [A9];exact Cs.Ad TI Dw ae ae
 have AK:=wF Y2;obtain ⟨sP,nS⟩:∃sP,sP=s7.ld (te s7 t5.jX):=⟨_,rfl⟩
 have hj:∀(ρ:Operand→AV) (cl:Call) (fx:Operand),cl.callee=.value fx→ρ fx=.j9 89 []→cl.args.toList.map ρ++[]=[lS t5.jX]→PL Tryd.prog (HH s7++[j7 st]) ρ (.call cl) (lS s7.jE.length) (HH sP++[j7 st]):=fun ρ cl fx q1 q2 q3=>by
  rw [nS];exact Vn IW ae AK D0 q1 q2 q3
 have DJ:sP.tasks[n]?=some t5:=by rw [nS];exact Dw
 have Be:sP.kK=s7.kK:=by rw [nS];rfl
 have lF:=asK (s:=sP) (k:=s7.jE.length);have TJ:s8=Gt sP s7.jE.length:=by rw [A9,nS];unfold Ad;rw [oG Dw];rfl
 have hr:lE (Gt sP s7.jE.length)=⟨83,13,[.agg [.jA (sP.p.kT.map kx),.jA (sP.p.methods.map kx),.int sP.p.mb,.jA (sP.sched.map .int),.int sP.used,.own (ix .ob) sP.jL.length 0 sP.jL.length,.own (ix .tk) sP.tasks.length 0 sP.tasks.length,.own (ix .ln) sP.lines.length 0 sP.lines.length,.own (ix .ac) sP.jT.length 0 sP.jT.length,.own (ix .tn) sP.turns.length 0 sP.turns.length,.own (ix .ck) (s7.kK.length+1) 0 (s7.kK.length+1),.own (ix .en) sP.ends.length 0 sP.ends.length,.own (ix .at') sP.jV.length 0 sP.jV.length]]⟩:=by
  simp only [lE,Gt,dK,dO,Be]
 rw [hr,← TJ,Be] at lF;obtain ⟨LC,Ac⟩:∃LC,LC=(HH sP).set (ix .ck) ⟨25,1,s7.kK.map lS++[lS s7.jE.length]⟩:=⟨_,rfl⟩
 have xP:LC.length=NN:=by rw [Ac,qG,kC]
 have Fj:LC[ix .rn]?=some (lE sP):=by rw [Ac,qQ (kC sP) zo,iZ ah,qS sP _ mc];rfl
 have Jg:LC[ix (.kQ n)]?=some (mG n t5):=by rw [Ac,qQ (kC sP) zo,iZ ah,qS sP _ g1];simp only [blk];rw [DJ]
 simp only [mG,vJ,Hf] at Jg;simp only [lE,Be] at Fj;rw [← Ac] at lF;have aEd:=Hid.mk TJ;have Yt:=Hid.mk A9;have BG:=Hid.mk nS;have Rd:=Hid.mk Ac;have axO:=Hid.mk DE;clear A9 TJ nS AK hr DE Ac;refine jG.seq ?_;refine jG.join ⟨[(0,jI),(1,.int n),(4,nW n),(5,.ptr NN 1 0 0),(6,kM j),(7,.int s.turns.length),(10,.int a),(12,.bool cn),(mu,.mem mm)],HH s8++[j7 st]⟩ ?_ ?_
 ·refine qK (k:=12) [none,none,none,none,none,none,none,none,none,some 0,none,some 1] (fun k=>match k with
   | 0=>HH s7++[j7 st]
   | 1=>HH sP++[j7 st]
   | _=>LC++[j7 st]) 2 follows ?_
  refine tV ?_;refine tV ?_;refine tV ?_;refine tV ?_;refine tV ?_;refine tV ?_;refine tV ?_;refine tV ?_;refine tV ?_;refine ko.p1 (v:=lS s7.jE.length) rfl rfl (fun kB h=>hj kB _ _ rfl ((h (.func 89) ai).trans aa) (by
   simp only [List.map];rw [h (.tmp 160) ai];simp +decide only [go_sem, *]<;>rfl)) ?_
  refine ko.q1 (v:=.jA [lS s7.jE.length]) rfl rfl (fun c _=>DX fb Ej az ag az aC aC rfl) ?_;refine ko.p1 (v:=.own (ix .ck) (s7.kK.length+1) 0 (s7.kK.length+1)) rfl rfl (fun kB h=>?_) ?_
  ·have h1:=tX (P:=Tryd.prog) (ρ:=kB) (H:=HH sP++[j7 st]) (b:=ix .ck) (tot:=s7.kK.length) (es:=[lS s7.jE.length]) (blk:=⟨25,1,s7.kK.map lS⟩) ((h (.tmp 156) ai).trans aa) ((h (.tmp 162) ai).trans aa) aa ah fb M8 rfl rfl ah (fun e he=>aw) aj aj;rw [o7 (kC sP) zo,← Rd.out] at h1;exact h1
  refine ko.nil ?_;refine jw ?_;exact .wf (hH:=aa)
 have DE:=axO.out;have Fm:Cs s n t 5 s8 t5:=(Hh.trans DE).mono ae;have TK:=DE.iv;have Cc:=DE.tk;obtain ⟨t9,Nh⟩:∃t9,t9={ t5 with has:=(-1:Int) }:=⟨_,rfl⟩
 obtain ⟨s9,oE⟩:∃s9,s9=tw s8 n (-1):=⟨_,rfl⟩
 have Xu:(HH s8).set (ix (.kQ n)) (mG n { t5 with has:=(-1:Int) })=HH s9:=by
  rw [oE];unfold tw;rw [oG Cc];exact FM Cc g1 rfl rfl rfl
 have LD:Cs s8 n t5 0 s9 t9:=by
  rw [oE,Nh];unfold tw;rw [oG Cc];exact Cs.jF TK Cc ⟨rfl,rfl,rfl,rfl⟩ ⟨rfl,rfl,rfl,rfl,rfl⟩ (TK.wf.kQ t5 (dx Cc)).2.2.1 (.inl rfl)
 have yY:t9.lB=none:=by rw [Nh];exact Hf
 have od:Cs s n t 10 s9 t9:=(Fm.trans LD).mono ae;have aEe:=Hid.mk LD;have axP:=Hid.mk od;have axQ:=Hid.mk Nh;have axR:=Hid.mk oE;simp only [mG,vJ,Hf] at Xu;clear lF xP Fj Jg Be DJ hj TI IW Dw Lv Y2 hz7 DE LD od yY Nh oE Hh Fl Hg Ah Fm;refine jG.seq ?_;refine jG.join ⟨[(0,jI),(1,.int n),(4,nW n),(5,.ptr NN 1 0 0),(6,kM j),(7,.int s.turns.length),(12,.bool cn),(mu,.mem mm)],HH s9++[j7 st]⟩ ?_ ?_
 ·refine yj ?_;exact Bq (.wf (hH:=aa))
 have od:=axP.out;have yY:t9.lB=none:=by rw [axQ.out];exact Hf
 have oF:Tok 80000 s9 n j t9 c st:=h.cs od ae;have B6:=oF.iv;have TL:=B6.wf;have qF:=oF.ht;have hc9:=oF.hc;have yB:lZ s9 c st=cn:=by rw [JF od];exact Rz.out.symm
 have NQ:rz s n c st=s9:=by
  unfold rz;rw [← oL.out,← YT.out,← YY.out,← axH.out,← Rz.out,← YX.out,← YZ.out,← Y0.out,← axN.out,← Yt.out,← axR.out]
 clear Xu TK Cc Hf;unfold tM;rw [NQ,← Rz.out,oG qF];have Rm:=oF.sY;have KB:=oF.wt;have RB:cn=true→uK s9 n j t9 c st:=fun e=>{ oF.cs (Cs.refl B6 qF) (k':=40000) ae with can:=by rw [yB];exact e,bh:=yY }
 have Jb:=oF.hB;have hbP:=oF.hP;have sR:n<32:=by have:=hw.nT;omega
 have YS:=oF.EZ;have ns:=oF.tp;have aEf:=oF.kW;have aEg:=oF.pc;have aEh:=(TL.tW c (dx hc9)).2;have RC:=Hid.mk oF;have h9H:=Hid.mk B6;clear oF yB NQ od yY KB Rm B6 ht hc hw lT;cases Y3:cn with
 | false =>
   obtain ⟨is,Hi,_⟩:=JL h9H.out qF (by rw [RC.out.sY];decide) RC.out.wt ae ae;have y8:=Hi.wf;clear Hi RB;refine jw ?_;refine j8 ?_ rfl aa;refine jw ?_;refine jB.p2 (sf TL y8 (T:=[j7 st]) is rfl aa aa (Ip _) (.pu (Pu.ky ah))) ?_;refine jw ?_;exact .nE [j7 st] y8 (vs:=[]) ar rfl rfl (.pu (Pu.ky ah))
 | true =>
   have hS:=RB Y3;have Kn:=HE pD hS (time:=s.turns.length);have hR:=Mj hS (time:=s.turns.length);obtain ⟨r,hr⟩:∃r,r=kR s9 n j t9 c st s.turns.length:=⟨_,rfl⟩
   rw [← hr] at Kn hR ⊢;obtain ⟨rb,pJ⟩:=r;simp only at Kn;have Y4:=hR.iv.wf;have Oy:=Hid.mk hR;have hrH:=Hid.mk hr;clear hS RB hR hr Y3;refine jw ?_;refine jK ?_ rfl aa;refine jw ?_;have oh:IntKind.i64.wrap ((c.code.steps.length:Int)-1)=(c.code.steps.length:Int)-1:=nP ae ae;refine mi (k:=12) follows (hr:=?_);refine jw ?_;refine jB.p2 (UH TL Y4 (T:=[j7 st]) Kn (.inr aa) rfl aa aa (by
    intro a ha;simp only [dC,dB,jd] at ha;rcases ha with rfl|rfl|rfl|rfl|rfl
    ·exact .ptr mc
    ·exact .pu (.base _)
    ·exact .pu (JB _)
    ·exact .ptr k1
    ·exact .pu (.base _)) (.pu (.base _))) ?_
   refine jw ?_;cases rb with
   | false =>
     refine j8 ?_ rfl aa;refine jw ?_;exact .nE [j7 st] Y4 (vs:=[]) ar rfl rfl (.pu (Pu.ky ah))
   | true =>
     obtain ⟨t10,yU,r1,r2,r3,r4,r5,r6,r7,r8,r9,Sy⟩:=Oy.out.go rfl;have Gn:=Hid.mk Oy.out.iv;obtain ⟨oN,sx⟩:∃oN,oN=if 0≤c.jM∧st.op≠12∧st.op≠9∧c.pc≠(c.code.steps.length:Int)-1 then tw pJ n c.jM else pJ:=⟨_,rfl⟩
     have yf:∃t11,Cs pJ n t10 0 oN t11:=by
      rw [sx];split
      ·refine ⟨{ t10 with has:=c.jM },?_⟩;unfold tw;rw [oG r1];exact Cs.jF Gn.out r1 ⟨rfl,rfl,rfl,rfl⟩ ⟨rfl,rfl,rfl,rfl,rfl⟩ (Gn.out.wf.kQ t10 (dx r1)).2.2.1 (.inl rfl)
      ·exact ⟨t10,Cs.refl Gn.out r1⟩
     have lF:=FM (t':={ t10 with has:=c.jM }) r1 g1 rfl rfl rfl;have MY:pJ.jF n { t10 with has:=c.jM }=tw pJ n c.jM:=by unfold tw;rw [oG r1]
     rw [MY] at lF;have Td:=Hid.mk r2;have Lx:=Hid.mk r3;have Ly:=Hid.mk r4;have N8:=Hid.mk r5;have r6':=Hid.mk r6;have r8':=Hid.mk r8;have r9':=Hid.mk r9;have hX:tg pJ n j c st=sK (oe (n+1)) oN n j:=by unfold tg;rw [sx]
     simp only [gD,jc];rw [hX];clear r2 r3 r4 r5 r6 r8 r9 MY hX;have aDg:=Hid.mk sx;simp only [mG,vJ] at lF;refine jG.join ⟨[(0,jI),(1,.int n),(4,nW n),(5,.ptr NN 1 0 0),(6,kM j),(13,.bool (decide (c.pc=(c.code.steps.length:Int)-1)))],HH pJ++[j7 st]⟩ ?_ ?_
     ·refine jK ?_ rfl aa;refine jw ?_;exact .wf
     refine jG.seq ?_;refine jG.join ⟨[(0,jI),(1,.int n),(6,kM j)],HH oN++[j7 st]⟩ ?_ ?_
     ·by_cases ha:0≤c.jM
      ·have kb:decide (c.jM≥0)=true:=cw;by_cases yL:st.op=12
       ·have mo:(st.op !=12)=false:=by simp [yL]
        have Cf:oN=pJ:=by rw [sx,iZ (fun e=>e.2.1 yL)]
        rw [Cf];clear sx yL;refine jw ?_;refine jK ?_ rfl aa;refine jw ?_;exact .wf
       ·have mo:(st.op !=12)=true:=by simp [yL]
        by_cases h9:st.op=9
        ·have um:(st.op !=9)=false:=by simp [h9]
         have Cf:oN=pJ:=by rw [sx,iZ (fun e=>e.2.2.1 h9)]
         rw [Cf];clear sx h9 yL;refine jw ?_;refine jK ?_ rfl aa;refine jw ?_;exact .wf
        ·have um:(st.op !=9)=true:=by simp [h9]
         by_cases hl:c.pc=(c.code.steps.length:Int)-1
         ·have A5:decide (c.pc=(c.code.steps.length:Int)-1)=true:=by simp [hl]
          have Cf:oN=pJ:=by rw [sx,iZ (fun e=>e.2.2.2 hl)]
          rw [Cf];clear sx h9 yL hl;refine jw ?_;refine jK ?_ rfl aa;refine jw ?_;exact .wf
         ·have A5:decide (c.pc=(c.code.steps.length:Int)-1)=false:=by simp [hl]
          have Cf:oN=tw pJ n c.jM:=by rw [sx,ja ⟨ha,yL,h9,hl⟩]
          rw [← Cf] at lF;clear sx h9 yL hl Cf;refine jw ?_;refine j8 ?_ rfl aa;refine jw ?_;exact .wf (hH:=aa)
      ·have kb:decide (c.jM≥0)=false:=aj;have Cf:oN=pJ:=by rw [sx,iZ (fun e=>ha e.1)]
       rw [Cf];clear sx;refine jw ?_;refine jK ?_ rfl aa;refine jw ?_;exact .wf
     clear sx lF;obtain ⟨t11,Eb⟩:=yf;obtain ⟨w1,w2,w3,w4⟩:=Eb.vV;obtain ⟨v1,v2,v3,v4,v5⟩:=Eb.Hj;have Gp:=Eb.iv;have Im:=Eb.tk;have Io:oN.calls[j]?=some yU:=by rw [Eb.calls];exact r7
     have asL:1001*(n+1)≤40000:=fI (Nat.mul_le_mul_left 1001 (show n+1≤33 by omega)) az;have nG:=Eb.pl;have asM:=Oy.out.pl;have asN:=Oy.out.bl;simp only at asM asN;have RD:oN.jE.length+1001*(n+1)≤MM:=by
      obtain ⟨F,hF⟩:∃F,F=1001*(n+1):=⟨_,rfl⟩
      rw [← hF] at asL ⊢;omega
     have RF:oN.ke.length+(n+1)≤MM:=by rw [Eb.ke];omega
     have Qr:t11.state<3:=by rw [v1,Ly.out];decide
     have Qs:t11.waits<0:=by rw [v3,r6'.out];exact RC.out.wt
     have Qt:t11.jZ[t11.jC-1]?=some j:=by rw [w1,w2,Td.out,Lx.out];exact ns
     have M9:yU.pc<yU.code.steps.length:=by rw [r8'.out,r9'.out];exact YS
     have hG:=Ui (DK (n+1)) (OE (n+1)) Gp Im (gB n) Qr Qs Qt Io M9 RD RF;have GM:=(Ml (DK (n+1)) Gp Im Qr Qs Qt Io M9 RD RF).1;obtain ⟨R,hR⟩:∃R,R=sK (oe (n+1)) oN n j:=⟨_,rfl⟩
     rw [← hR] at hG GM ⊢;have qE:=GM.wf;have Na:=Gp.wf;clear GM hR RD RF M9 Qt Qs Qr Gp Eb Im Io;refine jw ?_;refine jB.p2 (sf Na qE (T:=[j7 st]) hG rfl aa aa (by
      intro a ha;simp only [dC,dB,jd] at ha;rcases ha with rfl|rfl|rfl
      ·exact .ptr mc
      ·exact .pu (.base _)
      ·exact .ptr k1) (.pu (Pu.ky ah))) ?_
     refine jw ?_;exact .nE [j7 st] qE (vs:=[]) ar rfl rfl (.pu (Pu.ky ah))
end Go.Ab
