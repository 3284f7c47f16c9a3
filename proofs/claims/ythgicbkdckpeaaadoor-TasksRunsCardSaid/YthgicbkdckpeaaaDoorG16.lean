/- Part. -/
import Derived.Test.YthgicbkdckpeaaaDoorG15
set_option linter.unusedSimpArgs false
set_option linter.unusedVariables false
set_option maxHeartbeats 4000000
namespace Go.Ab.Rf
open Go Go.Ab Go.Proofs Go.Ab.Ty
structure Qk (s s':jz):Prop where
 len:s'.tasks.length=s.tasks.length
 tk:∀(k:Nat) (t':km),s'.tasks[k]?=some t'→∃t,s.tasks[k]?=some t∧t'.jH.length=t.jH.length∧t'.turns=t.turns∧t'.par=t.par∧t'.kids=t.kids
 p:s'.p=s.p
 kr:s'.kr=s.kr
 ml:s'.ml=s.ml
 lines:s'.lines=s.lines
 jT:s'.jT=s.jT
 turns:s'.turns=s.turns
 jV:s'.jV=s.jV
 at':s'.at'=s.at'
 jY:s'.jY=s.jY
theorem Qk.refl (s:jz):Qk s s:=⟨rfl,fun k t h=>⟨t,h,rfl,rfl,rfl,rfl⟩,rfl,rfl,rfl,rfl,rfl,rfl,rfl,rfl,rfl⟩
theorem Qk.trans {s s1 s2:jz} (h:Qk s s1) (g:Qk s1 s2):Qk s s2:=
 ⟨g.len.trans h.len,fun k t2 e=>by
  obtain ⟨t1,e1,a1,a2,a3,a4⟩:=g.tk k t2 e;obtain ⟨t,e0,b1,b2,b3,b4⟩:=h.tk k t1 e1;exact ⟨t,e0,a1.trans b1,a2.trans b2,a3.trans b3,a4.trans b4⟩,g.p.trans h.p,g.kr.trans h.kr,g.ml.trans h.ml,g.lines.trans h.lines,g.jT.trans h.jT,g.turns.trans h.turns,g.jV.trans h.jV,g.at'.trans h.at',g.jY.trans h.jY⟩
theorem Qk.jF (s:jz) (k:Nat) {t':km} (h1:t'.jH.length=(jJ s k).jH.length) (h2:t'.turns=(jJ s k).turns) (h3:t'.par=(jJ s k).par) (h4:t'.kids=(jJ s k).kids):Qk s (s.jF k t'):=
 ⟨lY,fun j u hu=>by
  by_cases e:k=j
  ·subst e;have hk:k<s.tasks.length:=by have:=(dt hu).1;rwa [lY] at this
   have ht:=tH hk;rw [lq ht] at hu;injection hu with hu;subst hu;exact ⟨_,ht,h1,h2,h3,h4⟩
  ·rw [mw e] at hu;exact ⟨u,hu,rfl,rfl,rfl,rfl⟩,rfl,rfl,rfl,rfl,rfl,rfl,rfl,rfl,rfl⟩
theorem Qk.NT (s:jz) (l:List (Int×Int)):Qk s { s with after:=l }:=⟨rfl,fun k t h=>⟨t,h,rfl,rfl,rfl,rfl⟩,rfl,rfl,rfl,rfl,rfl,rfl,rfl,rfl,rfl⟩
theorem Qk.fold {f:jz→Int→jz} (h:∀s c,Qk s (f s c)):∀(l:List Int) (s:jz),Qk s (l.foldl f s)
 | [],s=>.refl s
 | c::l,s=>by rw [fD];exact (h s c).trans (Qk.fold h l _)
theorem VU:∀(f:Nat) (s:jz) (k:Nat),Qk s (lZ f s k):=by
 intro f
 induction f with
 | zero=>intro s k;exact .refl s
 | succ f ih =>
   intro s k;exact (Qk.jF s k (t':={ jJ s k with canc:=true }) rfl rfl rfl rfl).trans (Qk.fold (fun s c=>ih s c.toNat) _ _)
theorem akQ (s:jz) (ks:List Int):Qk s (oS s ks):=Qk.fold (fun s c=>VU _ s c.toNat) _ _
theorem Uy {S:jz→Nat→jz} (hS:∀s k,Qk s (S s k)) (s:jz) (k:Nat) (e:Bool):Qk s (sJ S s k e):=by
 have h1:Qk s (s.jF k (vi (jJ s k) e)):=Qk.jF s k rfl rfl rfl rfl;unfold sJ;split
 ·exact (h1.trans (akQ _ _)).trans (hS _ _)
 ·exact h1.trans (hS _ _)
theorem Uz {S:jz→Nat→jz} (hS:∀s k,Qk s (S s k)) (s:jz) (k:Nat):Qk s (tJ S s k):=by
 unfold tJ;split
 ·exact Qk.jF s k rfl rfl rfl rfl
 ·exact (Qk.jF s k (t':={ jJ s k with jC:=1 }) rfl rfl rfl rfl).trans (Uy hS _ _ _)
theorem Va {S:jz→Nat→jz} (hS:∀s k,Qk s (S s k)) (s:jz) (k:Nat):Qk s (mM S s k):=by
 unfold mM;exact (Qk.jF s k (t':=pK (jJ s k)) (by unfold pK;simp) rfl rfl rfl).trans (Uz hS _ _)
theorem PB:∀(f:Nat) (s:jz) (k:Nat),Qk s (lh f s k):=by
 intro f
 induction f with
 | zero=>intro s k;exact .refl s
 | succ f ih =>
   intro s k;unfold lh;simp only;split
   ·exact .refl s
   obtain ⟨s3,lV⟩:∃s3,s3=uQ (tO (s.jF k { jJ s k with state:=if (jJ s k).ended=true then 4 else 3 }) k (jJ s k)) k (jJ s k).kids:=⟨_,rfl⟩
   have h3:Qk s s3:=by
    obtain ⟨l1,e1⟩:=VN (s.jF k { jJ s k with state:=if (jJ s k).ended=true then 4 else 3 }) k (jJ s k);obtain ⟨l2,e2⟩:=Px k (jJ s k).kids (tO (s.jF k { jJ s k with state:=if (jJ s k).ended=true then 4 else 3 }) k (jJ s k));rw [lV,e2,e1];exact (Qk.jF s k (t':={ jJ s k with state:=if (jJ s k).ended=true then 4 else 3 }) rfl rfl rfl rfl).trans (Qk.NT _ l2)
   rw [← lV];split
   ·exact h3
   split
   ·exact h3.trans (ih _ _)
   split
   ·exact (h3.trans (Qk.jF s3 _ (t':={ jJ s3 (jJ s k).par.toNat with waits:=-1,state:=1 }) rfl rfl rfl rfl)).trans (Va ih _ _)
   ·exact h3
def Lb (b:Nat) (r:jz):Prop:=∀(i:Nat) (t:km),r.tasks[i]?=some t→t.jH.length≤8∧t.turns.length≤b
theorem Lb.qk {b:Nat} {s s':jz} (h:Lb b s) (g:Qk s s'):Lb b s':=fun i t' e=>by
 obtain ⟨t,e1,a1,a2,_⟩:=g.tk i t' e;have:=h i t e1;rw [a1,a2];exact this
theorem Lb.same {b:Nat} {s s':jz} (h:Lb b s) (e:s'.tasks=s.tasks):Lb b s':=fun i t' e'=>h i t' (by rw [← e];exact e')
structure A7 (r:jz) (t:km) (l:lM) (st:kG) (fr:List Int×List Int):Prop where
 kX:r.jY[l.fr]?=some fr
 uV:fr.1.length=l.code.vars.toNat
 Dl:fr.2.length=l.code.steps.length
 vo:∀x∈fr.1,x<(r.kr.length:Int)
 v:(st.op=1∨st.op=2∨st.op=3∨st.op=4∨st.op=5)→mW fr.1 st.v
 w:(st.op=2∨st.op=3)→mW fr.1 st.w
 vs:(st.op=6∨st.op=8∨st.op=9)→∀v∈st.vars,mW fr.1 v
 vl:st.vars.length≤1000
 nu:∀x∈r.ml,-1000000≤x∧x≤1000000
 ac:r.jT.length<900000
 li:r.lines.length<900000
 fl:r.jY.length<MM
 at':0<r.jV.length
 kl:t.kids.length≤900
 op:1≤st.op∧st.op≤12
 k6:st.op=6→0≤st.task∧∃c,r.p.kT[st.task.toNat]?=some c∧0≤c.vars∧c.vars≤1000∧(st.vars.length:Int)≤c.vars∧c.steps.length≤1000
 k7:st.op=7∨st.op=10→0≤st.n∧st.n.toNat<fr.2.length∧∃j:Nat,fr.2[st.n.toNat]?=some (j:Int)∧j<r.tasks.length
 k8:st.op=8→0≤st.n∧st.n.toNat<r.kr.length∧0<st.vars.length
 k9:st.op=9→0≤st.task∧∃c,r.p.methods[st.task.toNat]?=some c∧0≤c.vars∧c.vars≤1000∧(st.vars.length:Int)+1≤c.vars∧c.steps.length≤1000
theorem JG {α:Type} {l:List α} {i:Nat} {d x:α} (h:l[i]?=some x):l.getD i d=x:=by rw [dI,h];rfl
theorem JH {r:jz} {fr:List Int×List Int} {vs:List Int} {v:Int} (h:mO fr.1 vs=true) (hv:v∈vs) (hi:mW fr.1 v) (ho:∀x∈fr.1,x<(r.kr.length:Int)):fr.1.getD v.toNat 0=(vN fr v:Int)∧vN fr v<r.kr.length:=by
 obtain ⟨h1,h2⟩:=hi;have h3:0≤fr.1.getD v.toNat 0:=by
  unfold mO at h;rw [Bool.not_eq_true',List.any_eq_false] at h;have:=h v hv;simp only [jn] at this;omega
 have h4:fr.1.getD v.toNat 0∈fr.1:=by rw [dI,dy h2];exact ey h2
 have h5:=ho _ h4;unfold vN;omega
theorem FE {vars vs:List Int}:mO vars vs=false∨mO vars vs=true:=by cases mO vars vs<;>simp
structure IZ (f:Nat) (r:jz) (k b:Nat) (d:Bool×jz):Prop where
 fo:Fo d.2
 tl:k<d.2.tasks.length
 af:d.2.after.length≤r.after.length+2*(1001*f)+1
 al:d.2.jV.length=r.jV.length
 tn:d.2.turns=r.turns
 lb:Lb b d.2
theorem IZ.kp {f:Nat} {r r':jz} {k b:Nat} {S:jz→Nat→jz} (hS:∀s k,Qk s (S s k)) (hk:Kp (1001*f) r' (mM S r' k)) (h1:k<r'.tasks.length) (h2:r'.after.length≤r.after.length+1001*f+1) (h3:r'.jV.length=r.jV.length) (h4:r'.turns=r.turns) (h5:Lb b r'):IZ f r k b (true,mM S r' k):=by
 have q:=Va hS r' k;refine ⟨hk.fo,by show k<(mM S r' k).tasks.length;rw [q.len];exact h1,?_,by show (mM S r' k).jV.length=_;rw [q.jV];exact h3,by show (mM S r' k).turns=_;rw [q.turns];exact h4,h5.qk q⟩;have:=hk.af;show (mM S r' k).after.length≤_;omega
theorem IZ.no {f:Nat} {r:jz} {k b:Nat} (h:Fo r) (hk:k<r.tasks.length) (hl:Lb b r):IZ f r k b (false,r):=⟨h,hk,bA,rfl,rfl,hl⟩
section
variable {f:Nat} {r:jz} {k m i b:Nat} {t:km} {l:lM} {v w nn tk:Int} {vs:List Int} {fr:List Int×List Int}
def uY (f:Nat) (r:jz) (k b:Nat) (l:lM) (st:kG) (fr:List Int×List Int):Prop:=jS Tryd.prog 72 [jI,.int k] (RH r) (.bool (mX (lh f) r k l st fr).1) (RH (mX (lh f) r k l st fr).2)∧IZ f r k b (mX (lh f) r k l st fr)
theorem uY.of {st:kG} {d:Bool×jz} (e:mX (lh f) r k l st fr=d) (h1:jS Tryd.prog 72 [jI,.int k] (RH r) (.bool d.1) (RH d.2)) (h2:IZ f r k b d):uY f r k b l st fr:=by
 unfold uY;rw [e];exact ⟨h1,h2⟩
theorem uY.no {st:kG} (h:Dk (lh f) f r k m i t l st) (hl:Lb b r) (e:mX (lh f) r k l st fr=(false,r)) (h1:jS Tryd.prog 72 [jI,.int k] (RH r) (.bool false) (RH r)):uY f r k b l st fr:=
 .of e h1 (.no h.fo (vb h.top.ht) hl)
theorem uY.go {st:kG} {r':jz} {t':km} (h:Dk (lh f) f r k m i t l st) (e:mX (lh f) r k l st fr=(true,mM (lh f) r' k)) (h1:jS Tryd.prog 72 [jI,.int k] (RH r) (.bool true) (RH (mM (lh f) r' k))) (nM:Fo r') (ht:r'.tasks[k]?=some t') (a1:t'.jH[m]?=some l) (a2:t'.jC=t.jC) (a3:t'.state=t.state) (a4:r'.after.length≤r.after.length+1) (a5:r'.jV.length=r.jV.length) (a6:r'.turns=r.turns) (a7:Lb b r'):uY f r k b l st fr:=
 .of e h1 (.kp (PB f) (h.Br nM ht a1 ⟨rfl,rfl⟩ a2 a3 ae).2 (vb ht) ae a5 a6 a7)
theorem auZ (h:Dk (lh f) f r k m i t l ⟨1,v,w,nn,tk,vs⟩) (g:A7 r t l ⟨1,v,w,nn,tk,vs⟩ fr) (ph:Lb b r):uY f r k b l ⟨1,v,w,nn,tk,vs⟩ fr:=by
 obtain ⟨h1,h2⟩:=g.v (.inl rfl);simp only at h1 h2;obtain ⟨q,rfl⟩:∃q:Nat,v=q:=⟨_,(dP h1).symm⟩
 rw [dF] at h2;by_cases hL:r.kr.length<200
 ·exact .go h (by simp +decide only [mX,jb,jc,ja hL]<;>rfl) (aqP (v:=0) h g.kX g.uV hL h2) ((h.fo.ll ae).nY (f:=fr) g.kX ah rfl) h.top.ht h.top.hl rfl rfl bA rfl rfl (ph.same rfl)
 ·exact .no h ph (by simp +decide only [mX,jb,jc,iZ hL]) (aqO (q:=0) h ae)
theorem avA (h:Dk (lh f) f r k m i t l ⟨2,v,w,nn,tk,vs⟩) (g:A7 r t l ⟨2,v,w,nn,tk,vs⟩ fr) (ph:Lb b r):uY f r k b l ⟨2,v,w,nn,tk,vs⟩ fr:=by
 obtain ⟨h1,h2⟩:=g.v (.inr (.inl rfl));have hw:=g.w (.inl rfl);have kW:=g.ac;simp only at h1 h2 hw;obtain ⟨q,rfl⟩:∃q:Nat,v=q:=⟨_,(dP h1).symm⟩
 rw [dF] at h2;rcases FE (vars:=fr.1) (vs:=[w]) with hb|hb
 ·exact .no h ph bg (aqQ (v:=0) h g.kX g.uV hw hb)
 obtain ⟨o1,o2⟩:=JH (v:=w) hb ah hw g.vo;by_cases wx:0≤r.kr.getD (vN fr w) 0
 ·exact .go h (by simp +decide only [mX,jb,jc,hb,ja wx]<;>rfl) (aqS (v:=0) h g.kX g.uV hw hb o1 o2 wx ae h2) ((h.fo.kE ae).nY (f:=fr) g.kX ah rfl) h.top.ht h.top.hl rfl rfl bA rfl rfl (ph.same rfl)
 ·by_cases hL:r.kr.length<200
  ·exact .go h (by simp +decide only [mX,jb,jc,hb,iZ wx,ja hL]<;>rfl) (aqT (v:=0) h g.kX g.uV hw hb o1 o2 ae hL ae h2) (((((h.fo.kE ae).ll (by show r.kr.length<_;omega)).qJ).kE (by show (r.jT++[_]).length<_;rw [dK,dO];omega)).nY (f:=fr) g.kX ah rfl) h.top.ht h.top.hl rfl rfl bA rfl rfl (ph.same rfl)
  ·exact .no h ph (by simp +decide only [mX,jb,jc,hb,iZ wx,iZ hL]) (aqR (v:=0) h g.kX g.uV hw hb o1 o2 ae ae)
theorem avB (h:Dk (lh f) f r k m i t l ⟨3,v,w,nn,tk,vs⟩) (g:A7 r t l ⟨3,v,w,nn,tk,vs⟩ fr) (ph:Lb b r):uY f r k b l ⟨3,v,w,nn,tk,vs⟩ fr:=by
 have hv:=g.v (.inr (.inr (.inl rfl)));have hw:=g.w (.inr rfl);have kW:=g.ac;rcases FE (vars:=fr.1) (vs:=[v,w]) with hb|hb
 ·exact .no h ph bg (aqM (q:=0) h g.kX g.uV hv hw hb)
 obtain ⟨o1,o2⟩:=JH (v:=v) hb ah hv g.vo;obtain ⟨p1,p2⟩:=JH (v:=w) hb ah hw g.vo;exact .go h (by simp +decide only [mX,jb,jc,hb]<;>rfl) (aqN (q:=0) h g.kX g.uV hv hw hb o1 p1 o2 ae) (h.fo.qJ.kE (by show r.jT.length<_;omega)) h.top.ht h.top.hl rfl rfl bA rfl rfl (ph.same rfl)
theorem avC (h:Dk (lh f) f r k m i t l ⟨4,v,w,nn,tk,vs⟩) (g:A7 r t l ⟨4,v,w,nn,tk,vs⟩ fr) (ph:Lb b r):uY f r k b l ⟨4,v,w,nn,tk,vs⟩ fr:=by
 have hv:=g.v (.inr (.inr (.inr (.inl rfl))));have kW:=g.ac;have IN:=g.li;rcases FE (vars:=fr.1) (vs:=[v]) with hb|hb
 ·exact .no h ph bg (aqK (q:=0) h g.kX g.uV hv hb)
 obtain ⟨o1,o2⟩:=JH (v:=v) hb ah hv g.vo;have vU:=h.fo.wf.sz.2.1;obtain ⟨x,hx⟩:∃x,r.ml[vN fr v]?=some x:=⟨_,dy ae⟩
 refine .go h (r':=(r.kE ⟨jR l.jM k,(vN fr v:Int),false,(r.turns.length:Int)-1⟩).pM (xk k x)) (by simp +decide only [mX,jb,jc,hb];rw [JG hx]) (aqX (q:=0) h g.kX g.uV hv hb o1 hx (g.nu x (dx hx)) ae ae) ((h.fo.kE ae).pM (by show r.lines.length<_;omega)) h.top.ht h.top.hl rfl rfl bA rfl rfl (ph.same rfl)
theorem avD (h:Dk (lh f) f r k m i t l ⟨5,v,w,nn,tk,vs⟩) (g:A7 r t l ⟨5,v,w,nn,tk,vs⟩ fr) (ph:Lb b r):uY f r k b l ⟨5,v,w,nn,tk,vs⟩ fr:=by
 have hv:=g.v (.inr (.inr (.inr (.inr rfl))));have kW:=g.ac;rcases FE (vars:=fr.1) (vs:=[v]) with hb|hb
 ·exact .no h ph bg (aqJ (q:=0) h g.kX g.uV hv hb)
 obtain ⟨o1,o2⟩:=JH (v:=v) hb ah hv g.vo;exact .go h (by simp +decide only [mX,jb,jc,hb]<;>rfl) (aqL (q:=0) h g.kX g.uV hv hb o1 o2 ae) ((h.fo.kE ae).wi) h.top.ht h.top.hl rfl rfl bA rfl rfl (ph.same rfl)
theorem avE (h:Dk (lh f) f r k m i t l ⟨7,v,w,nn,tk,vs⟩) (g:A7 r t l ⟨7,v,w,nn,tk,vs⟩ fr) (ph:Lb b r):uY f r k b l ⟨7,v,w,nn,tk,vs⟩ fr:=by
 obtain ⟨a1,a2,j,a3,a4⟩:=g.k7 (.inl rfl);simp only at a1 a2 a3;obtain ⟨q,rfl⟩:∃q:Nat,nn=q:=⟨_,(dP a1).symm⟩
 rw [dF] at a2 a3;have e1:zI fr (q:Int)=j:=by unfold zI;rw [dF,JG a3,dF]
 have p9:=h.af;rw [fZ] at p9;by_cases ho:2<(jJ r j).state
 ·refine .go h (by simp +decide only [mX,jb,jc,e1,ho]<;>rfl) (aqI (nn:=0) h g.kX a3 g.Dl a4 ho) (h.fo.nw ae) h.top.ht h.top.hl rfl rfl (by show (r.after++[_]).length≤_;simp) rfl rfl (ph.same rfl)
 ·have e:mX (lh f) r k l ⟨7,v,w,(q:Int),tk,vs⟩ fr=(true,r.jF k { t with state:=2,waits:=(j:Int) }):=by
   simp +decide only [mX,jb,jc,e1,ho];rw [oO h.top.ht]
  have nM:Fo (r.jF k { t with state:=2,waits:=(j:Int) }):=by
   refine h.fo.xj h.top.ht rfl rfl rfl rfl ⟨(h.fo.tk k t h.top.ht).pos.1,dD _⟩ fun _ _=>?_;have:=h.oD;show (l9 t (t.jC-1)).step<_;rw [this.1];show l.step<((l9 t (t.jC-1)).code.steps.length:Int);rw [this.1];exact this.2
  refine .of e (aqH (nn:=0) h g.kX a3 g.Dl a4 ae) ⟨nM,by show k<(r.jF k _).tasks.length;rw [lY];exact vb h.top.ht,bA,rfl,rfl,?_⟩;exact ph.qk (Qk.jF r k (by rw [oO h.top.ht]) (by rw [oO h.top.ht]) (by rw [oO h.top.ht]) (by rw [oO h.top.ht]))
theorem avF (h:Dk (lh f) f r k m i t l ⟨8,v,w,nn,tk,vs⟩) (g:A7 r t l ⟨8,v,w,nn,tk,vs⟩ fr) (ph:Lb b r):uY f r k b l ⟨8,v,w,nn,tk,vs⟩ fr:=by
 have kV:=g.vs (.inr (.inl rfl));have mf:=g.vl;have kW:=g.ac;simp only at kV mf;rcases FE (vars:=fr.1) (vs:=vs) with hb|hb
 ·exact .no h ph bg (aqU (q:=0) h g.kX g.uV kV ae hb)
 obtain ⟨a1,a2,a3⟩:=g.k8 rfl;simp only at a1 a2 a3;obtain ⟨q,rfl⟩:∃q:Nat,nn=q:=⟨_,(dP a1).symm⟩
 rw [dF] at a2;obtain ⟨o1,os,ng⟩:∃o1 os,lX fr.1 vs=o1::os:=by
  cases h0:lX fr.1 vs with
  | nil=>have:=Hx (vars:=fr.1) (vs:=vs);rw [h0] at this;simp at this;omega
  | cons a l=>exact ⟨a,l,rfl⟩
 exact .go h (by simp +decide only [mX,jb,jc,hb,ng,List.getD_cons_zero]<;>rfl) (aqW (nn:=0) h g.kX g.uV kV ae hb ng a2 ae g.at') ((h.fo.qJ.kE (by show r.jT.length<_;omega)).uA) h.top.ht h.top.hl rfl rfl bA (by show (r.jV.set _ _).length=_;simp) rfl (ph.same rfl)
theorem arJ (h:Dk (lh f) f r k m i t l ⟨10,v,w,nn,tk,vs⟩) (g:A7 r t l ⟨10,v,w,nn,tk,vs⟩ fr) (ph:Lb b r):uY f r k b l ⟨10,v,w,nn,tk,vs⟩ fr:=by
 obtain ⟨a1,a2,j,a3,a4⟩:=g.k7 (.inr rfl);simp only at a1 a2 a3;obtain ⟨q,rfl⟩:∃q:Nat,nn=q:=⟨_,(dP a1).symm⟩
 rw [dF] at a2 a3;have e1:zI fr (q:Int)=j:=by unfold zI;rw [dF,JG a3,dF]
 have hc:=JD r.tasks.length r j h.fo.yk a4;obtain ⟨bb,BO⟩:=hc.tk k t h.top.ht;have hq:=VU r.tasks.length r j;exact .go h (by simp +decide only [mX,jb,jc,e1]) (auH (nn:=0) h g.kX a3 g.Dl a4) (hc.fo h.fo) BO h.top.hl rfl rfl (by rw [hc.eq];show r.after.length≤_;omega) (by rw [hq.jV]) hq.turns (ph.qk hq)
theorem arK (h:Dk (lh f) f r k m i t l ⟨11,v,w,nn,tk,vs⟩) (ph:Lb b r):uY f r k b l ⟨11,v,w,nn,tk,vs⟩ fr:=by
 cases hc:t.canc with
 | true=>exact .no h ph (by simp +decide only [mX,jb,jc,oO h.top.ht,hc]) (aqF (q:=0) h hc)
 | false=>exact .go h (by simp +decide only [mX,jb,jc,oO h.top.ht,hc]) (aqG (q:=0) h hc) h.fo h.top.ht h.top.hl rfl rfl ae rfl rfl ph
theorem arL (h:Dk (lh f) f r k m i t l ⟨12,v,w,nn,tk,vs⟩) (ph:Lb b r):uY f r k b l ⟨12,v,w,nn,tk,vs⟩ fr:=
 .go h (by simp +decide only [mX,jb,jc]) (auG h) h.fo h.top.ht h.top.hl rfl rfl ae rfl rfl ph
theorem avG (h:Dk (lh f) f r k m i t l ⟨9,v,w,nn,tk,vs⟩) (g:A7 r t l ⟨9,v,w,nn,tk,vs⟩ fr) (ph:Lb b r) (h7:t.jC≤7):uY f r k b l ⟨9,v,w,nn,tk,vs⟩ fr:=by
 have kV:=g.vs (.inr (.inr rfl));have mf:=g.vl;simp only at kV mf;obtain ⟨a1,c,a2,a3,a4,a5,a6⟩:=g.k9 rfl;simp only at a1 a2 a5;obtain ⟨q,rfl⟩:∃q:Nat,tk=q:=⟨_,(dP a1).symm⟩
 rw [dF] at a2;rcases FE (vars:=fr.1) (vs:=vs) with hb|hb
 ·exact .no h ph bg (aqV (q:=0) h g.kX g.uV kV ae hb)
 have E6:po r.p.methods (q:Int)=c:=by unfold po;rw [dF];exact JG a2
 have e:mX (lh f) r k l ⟨9,v,w,nn,(q:Int),vs⟩ fr=(true,tJ (lh f) (wj r k c nn (lX fr.1 vs++[nn])) k):=by
  simp +decide only [mX,jb,jc,hb,E6]
 have oY:=ph k t h.top.ht;have Yh:=h.oD;have tE:((lX fr.1 vs++[nn]).length:Int)≤c.vars:=by rw [dK,Hx,dO];omega
 have yC:t.state≠2:=by rw [h.s1];decide
 obtain ⟨Ik,Dx,Lh⟩:=VT h.fo (c:=c) (a:=nn) (gv:=lX fr.1 vs++[nn]) h.top.ht yC (by rw [Yh.1];exact Yh.2) a3 a4 tE g.fl a6 ae;have p9:=h.af;rw [fZ] at p9;have IX:=O0 h.S1 Ik (k:=k) (vb Dx) (by rw [oO Dx,Lh];exact yC) (by show r.after.length+_≤_;omega);have hq:=Uz (S:=lh f) (PB f) (wj r k c nn (lX fr.1 vs++[nn])) k;refine .of e (arI (tk:=0) h g.kX g.uV kV ae hb a2 a3 a4 (by rw [Hx];exact a5) g.fl a6 ae) ⟨IX.fo,?_,?_,?_,?_,?_⟩
 ·show k<(tJ _ _ _).tasks.length;rw [hq.len];exact vb Dx
 ·have:=IX.af;show (tJ _ _ _).after.length≤_;have e2:(wj r k c nn (lX fr.1 vs++[nn])).after.length=r.after.length:=rfl;omega
 ·show (tJ _ _ _).jV.length=_;rw [hq.jV];rfl
 ·show (tJ _ _ _).turns=_;rw [hq.turns];rfl
 ·refine Lb.qk (s:=wj r k c nn (lX fr.1 vs++[nn])) (fun x u hx=>?_) hq;by_cases ex:k=x
  ·subst ex;rw [Dx] at hx;injection hx with hx;subst hx;have lR:(pK (jJ r k)).jH.length=t.jH.length:=by unfold pK;rw [oO h.top.ht];simp
   refine ⟨?_,?_⟩
   ·show (sw _ _ _).length≤8;have mV:=(h.fo.tk k t h.top.ht).pos.2;rw [Pg (by rw [lR,oO h.top.ht];exact mV),lR,oO h.top.ht];split<;>omega
   ·show (pK (jJ r k)).turns.length≤b;rw [oO h.top.ht];exact oY.2
  ·have vS:r.tasks[x]?=some u:=by
    unfold wj at hx;rw [mw ex] at hx;have hx:(r.jF k (pK (jJ r k))).tasks[x]?=some u:=hx;rw [mw ex] at hx;exact hx
   exact ph x u vS
theorem avH (h:Dk (lh (f+1)) (f+1) r k m i t l ⟨6,v,w,nn,tk,vs⟩) (g:A7 r t l ⟨6,v,w,nn,tk,vs⟩ fr) (ph:Lb b r) (hf:32≤f):uY (f+1) r k b l ⟨6,v,w,nn,tk,vs⟩ fr:=by
 have kV:=g.vs (.inl rfl);have mf:=g.vl;simp only at kV mf;obtain ⟨a1,c,a2,a3,a4,a5,a6⟩:=g.k6 rfl;simp only at a1 a2 a5;obtain ⟨q,rfl⟩:∃q:Nat,tk=q:=⟨_,(dP a1).symm⟩
 rw [dF] at a2;rcases FE (vars:=fr.1) (vs:=vs) with hb|hb
 ·exact .no h ph bg (apV (tk:=0) h g.kX g.uV kV ae hb)
 by_cases rX:r.tasks.length<32
 case neg=>exact .no h ph (by simp +decide only [mX,jb,jc,hb,iZ rX]) (apW (tk:=0) h g.kX g.uV kV ae hb ae)
 have E6:po r.p.kT (q:Int)=c:=by unfold po;rw [dF];exact JG a2
 have hi:=h.top.hi;have e:mX (lh (f+1)) r k l ⟨6,v,w,nn,(q:Int),vs⟩ fr=(true,mM (lh (f+1)) (xr (lh (f+1)) (zF r k c nn (lX fr.1 vs) l.fr i fr) r.tasks.length c) k):=by
  simp +decide only [mX,jb,jc,hb,ja rX,E6,hi];rw [dF]
 have hE:=VP (f:=f) (cd:=c) (nn:=nn) (gv:=lX fr.1 vs) (lf:=l.fr) (i:=i) (fr:=fr) h.top.ht (by rw [h.s1];decide);obtain ⟨X,hX⟩:∃X,X=xr (lh (f+1)) (zF r k c nn (lX fr.1 vs) l.fr i fr) r.tasks.length c:=⟨_,rfl⟩
 have hk:=vb h.top.ht;obtain ⟨F,hF⟩:∃F,F=1001*(f+1):=⟨_,rfl⟩
 have p9:r.after.length+F+1001≤1000000000:=by
  have:=h.af;rw [fZ,← hF] at this;rw [Nat.add_assoc];exact this
 have Li:X.tasks[k]?=some { t with kids:=t.kids++[(r.tasks.length:Int)] }:=by
  rw [hX,hE];exact ee aj
 have Yi:X.after.length=r.after.length+1:=by rw [hX,hE];show (r.after++[_]).length=_;simp
 have tE:((lX fr.1 vs).length:Int)≤c.vars:=by rw [Hx];exact a5
 have o0:=g.kl;have avI:Fo X:=by
  have AZ:(k:Int) = -1∨∃p:Nat,(k:Int)=(p:Int)∧p<r.tasks.length∧(jJ r p).kids.length≤900:=.inr ⟨k,rfl,hk,by rw [oO h.top.ht];exact o0⟩;have oK:=Jr h.fo (prio:=nn) (par:=(k:Int)) a3 a4 tE g.fl a6 rX AZ;obtain ⟨KZ,NB,IE,NC⟩:=OY (c:=c) (n:=nn) (gv:=lX fr.1 vs) h.top.ht;have K0:=Ua (s:=r) (c:=c) (n:=nn) (p:=(k:Int)) (gv:=lX fr.1 vs);have QK:l.fr<r.jY.length:=(dt g.kX).1;have Bx:(qm r c nn k (lX fr.1 vs)).jY[l.fr]?=some fr:=by rw [K0,dA QK];exact g.kX
  have oz:=oK.nY (f':=(fr.1,fr.2.set i (r.tasks.length:Int))) Bx rfl ah;have sv:Fo (zF r k c nn (lX fr.1 vs) l.fr i fr):=oz.nw (by show (qm _ _ _ _ _).after.length<_;rw [IE];omega);rw [hX];unfold xr;split
  ·refine (DL h.S1 sv (k:=r.tasks.length) ?_ false ?_).fo
   ·show r.tasks.length<(qm _ _ _ _ _).tasks.length;rw [KZ];simp
   ·show ((qm _ _ _ _ _).after++[_]).length+_≤_;rw [dK,IE,dO];show r.after.length+1+1001*(f+1)≤_;rw [← hF];clear hF h;omega
  ·exact sv
 rw [← hX] at e;refine .go h e (apX (tk:=0) (t4:={ t with kids:=t.kids++[(r.tasks.length:Int)] }) h g.kX g.uV kV (fI mf az) hb a2 a3 a4 tE g.fl a6 rX o0 (eZ rX (Nat.le_succ_of_le hf)) g.Dl (by rw [← hX];exact Li) rfl rfl rfl (by rw [← hX,Yi];exact Nat.add_le_add_left az _) |> (by rw [hX];exact ·)) avI Li h.top.hl rfl rfl (Nat.le_of_eq Yi) (by rw [hX,hE]) (by rw [hX,hE]) ?_;intro x u hx;rw [hX,hE] at hx;have hx:((r.tasks++[BA c r.jY.length nn k t.canc]).set k { t with kids:=t.kids++[(r.tasks.length:Int)] })[x]?=some u:=hx;by_cases ex:k=x
 ·subst ex;rw [ee aj] at hx;injection hx with hx;subst hx;exact ph k t h.top.ht
 ·rw [dS ex] at hx;rcases eE x r.tasks.length with e|e
  ·rw [dA e] at hx;exact ph x u hx
  ·have Da:x=r.tasks.length:=by
    have:=(dt hx).1;simp at this;omega
   subst Da;rw [dJ (dD _),eT] at hx;injection hx with hx;subst hx;unfold BA;split
   ·exact ⟨by show 1≤8;omega,dL _⟩
   ·exact ⟨by show 1≤8;omega,dL _⟩
end
structure Rk (s:jv) (r:jz):Prop where
 qM:kZ s r
 fo:Fo r
 lb:Lb s.turns.length r
 af:r.after.length≤200000*s.turns.length+100000
theorem afU {r:jz} {k:Nat}:∃af,af.length≤r.after.length+1+(jJ r k).kids.length∧ua r k=({ r with after:=af,turns:=r.turns++[(k:Int)],jV:=r.jV++[(l9 (jJ r k) ((jJ r k).jC-1)).jM] }:jz).jF k { jJ r k with turns:=(jJ r k).turns++[(r.turns.length:Int)],has:=-1 }:=by
 obtain ⟨a1,e1⟩:=WD r (jJ r k) r.turns.length;obtain ⟨a2,e2⟩:=My r k r.turns.length (jJ r k).kids (yo r (jJ r k) r.turns.length);have hl:=VS r k r.turns.length (jJ r k).kids (yo r (jJ r k) r.turns.length);have hb:(yo r (jJ r k) r.turns.length).after.length≤r.after.length+1:=by
  unfold yo;split
  ·simp [jz.nw]
  ·omega
 rw [e2] at hl;have hl:a2.length≤(yo r (jJ r k) r.turns.length).after.length+(jJ r k).kids.length:=hl;refine ⟨a2,ae,?_⟩;unfold ua;rw [e2,e1]
theorem ahZ {r:jz} (h:Fo r) {k:Nat} {t:km} (ht:r.tasks[k]?=some t) (h1:t.state=1) (nN:r.turns.length<900000) (p9:r.after.length≤900000000) (re:t.turns.length≤900000):Fo (ua r k)∧(ua r k).tasks[k]?=some { t with turns:=t.turns++[(r.turns.length:Int)],has:=-1 }∧(ua r k).turns=r.turns++[(k:Int)]∧(ua r k).after.length≤r.after.length+1+t.kids.length∧(ua r k).jY=r.jY∧(ua r k).p=r.p∧(ua r k).jV.length=r.jV.length+1∧(ua r k).tasks=r.tasks.set k { t with turns:=t.turns++[(r.turns.length:Int)],has:=-1 }:=by
 obtain ⟨af,h2,e⟩:=afU (r:=r) (k:=k);rw [oO ht] at h2 e;have gw:=h.wf.lv t (dx ht);have g:=h.tk k t ht;rw [e];have hfa:Fo ({ r with after:=af }:jz):=h.NT (by have:=gw.2.2.1;omega);have ui:=hfa.wH (k:=(k:Int)) (a:=(l9 t (t.jC-1)).jM) (by show r.turns.length<_;omega);refine ⟨ui.jF (t':={ t with turns:=t.turns++[(r.turns.length:Int)],has:=-1 }) ⟨g.par,g.kids,g.pos,g.pF,fun e=>by have e:t.state=2:=e;omega⟩ gw.2.1 gw.2.2.1 (by show (t.turns++[_]).length≤_;rw [dK,dO];omega) gw.2.2.2.2,lq (s:={ r with after:=af,turns:=_,jV:=_ }) ht,rfl,h2,rfl,rfl,by show (r.jV++[_]).length=_;simp,rfl⟩
theorem Rk.base {s:jv} {r:jz} (hi:Iv s) (hg:Gi s) (h:Rk s r) {n:Nat} {t:jQ} (ht:s.tasks[n]?=some t):∀(r':jz) (c:Int),WF r'→r'.tasks=r.tasks→r'.jY=r.jY→jS Tryd.prog 70 [jI,.int n,.int c] (RH r') (.bool (AE r n c)) (RH r'):=by
 intro r' x tC e1 e2;obtain ⟨hu,gu⟩:=h.qM.ta ht;have pB:=hi.jH n t ht;obtain ⟨j0,c0,a1,a2,a3⟩:=gu.jH 0 pB;obtain ⟨g0,b1,b2⟩:=h.qM.fr j0 c0 a2;have hm:=dx a2;have NM:=hi.qN c0 hm;have e:AE r' n x=AE r n x:=by
  have e3:jJ r' n=jJ r n:=by unfold jJ;rw [e1]
  unfold AE Ig Dn;rw [e3,e2]
 rw [← e];refine afT tC (t:=jJ r n) (l:=⟨c0.code,c0.jM,c0.pc,j0⟩) (f:=(c0.vars,g0)) (by rw [e1];exact hu) (by rw [gu.sl];exact pB) a3 (by rw [e2];exact b1) b2 NM fun i st nq jP h7=>?_;obtain ⟨lk,k,mY⟩:=WE hg hm;have nq:(i:Int)<c0.pc:=nq;have jP:c0.code.steps[i]?=some st:=jP;have kn:i<c0.code.steps.length:=(dt jP).1;have ng:=mY.ok.2 i (by rw [mY.lc];exact kn);have e3:Rg.pF lk.c.steps (i:Int)=st:=by
  rw [mY.lc];exact zu (d:=Rg.wO) jP
 rw [e3] at ng;have:Rg.spawn lk (i:Int) st:=by
  unfold Rg.oP at ng;rcases ng with h|h|h|h|h|h|h|h
  ·omega
  ·omega
  ·omega
  ·omega
  ·exact h.2.2.2.2.1
  all_goals omega
 obtain ⟨⟨q1,q2⟩,_⟩:=this;exact ⟨q1,by show st.n.toNat<g0.length;omega⟩
theorem afV {s:jv} {r:jz} {n j:Nat} {t:jQ} {c:kh} {st:kG} {l:Lk} {k i:Nat} (hT:TH s n j t c st l k i) (h:Rk s r) :
 jS Tryd.prog 50 [jI,.int n] (RH r) (.ky []) (RH (vC (lh 40) r n))∧Rk (tM s n j c st) (vC (lh 40) r n):=by
 have GZ:=vB;have hz:=hT.gg.sz;have rm:=hz.ck;have nN:=hT.tn;have hi:=hT.gg.iv;have hg:=hT.gg.gi;have sR:=hi.wf.nT;have vU:=(dt hT.top.ht).1;obtain ⟨hK,kW⟩:=hT.top.tok hi hg hz hT.sY;obtain ⟨t9,od,yY⟩:=Jz hK kW ae ae;have hZ:=DS s n c st;have oE:=Ux (c:=c) (st:=st) h.qM hT.top.ht hT.sY;obtain ⟨hu,gu⟩:=h.qM.ta hT.top.ht;have Yj:(jJ r n).state=1:=by rw [gu.state];exact hT.sY
 have tN:=(h.fo.tk n _ hu).pos;have sT:t.jC≤(jJ r n).jH.length:=by rw [← gu.sl];exact tN.2
 have En:=ahW hT h.qM (f:=40) ae sT;have avJ:=h.lb n _ hu;have E7:r.turns.length=s.turns.length:=by rw [h.qM.tn]
 have hra:=h.af;obtain ⟨p1,p2,p3,p4,p5,p6,p7,p8⟩:=ahZ h.fo hu Yj ae ae ae;obtain ⟨e1,e2,g,e3,e4,e5⟩:=TH.QZ h.qM hT.top;obtain ⟨s9,Ge⟩:∃s9,s9=rz s n c st:=⟨_,rfl⟩
 obtain ⟨r5,xa⟩:∃r5,r5=ua r n:=⟨_,rfl⟩
 rw [← Ge,← xa] at oE;rw [← Ge] at od hZ;rw [← xa] at p1 p2 p3 p4 p5 p6 p7 p8;have G4:=hZ.gi hg;have qF:=od.tk;have oF:uS s9 n t9 j c st l k i:=hT.top.zs hZ.p hZ.calls qF od.vV.1 od.vV.2.1;have px:Tok 80000 s9 n j t9 c st:=hK.cs od ae;obtain ⟨hu9,g9⟩:=oE.ta qF;have pR:(jJ r n).kids.length≤32:=by rw [gu.kids];have:=(hg.ta n t hT.top.ht).kl;omega
 have Xf:=(g9.oD (i:=i) (by rw [oF.hs];omega) oF.hj oF.hc).1;have uj:=hT.top.pc;have avK:c.jM<1000:=by
  have:=hg.ok.1;rcases (hg.ca c (dx hT.top.hc)).cd with ⟨a,_⟩|⟨a,b,_⟩<;>omega
 have Yk:Dh r5 n (jJ r5 n) i ⟨c.code,c.jM,c.pc,j⟩ c.pc.toNat st:=⟨hu9,by rw [g9.sl,oF.hs],Xf,by show c.pc=_;omega,oF.es⟩
 have avL:r5.after.length+1001*41≤1000000000:=ae;have z8:Dk (lh 40) 40 r5 n i c.pc.toNat (jJ r5 n) ⟨c.code,c.jM,c.pc,j⟩ st:=⟨Yk,p1,by rw [g9.state];exact px.sY,ae,Bj 40,O4 40,avL,avK⟩
 have zJ:Lb (s.turns.length+1) r5:=fun x u hx=>by
  rw [p8] at hx;by_cases ex:n=x
  ·subst ex;rw [ee (vb hu)] at hx;injection hx with hx;subst hx;exact ⟨avJ.1,by show ((jJ r n).turns++[_]).length≤_;rw [dK,dO];omega⟩
  ·rw [dS ex] at hx;have:=h.lb x u hx;exact ⟨this.1,ae⟩
 have arM:(jJ r5 n).jC≤7:=by
  rw [g9.sl,oF.hs];by_cases e0:i=0
  ·omega
  ·have:=(oF.dp ae).2;omega
 have yF:=px.wB;have B4:A7 r5 (jJ r5 n) ⟨c.code,c.jM,c.pc,j⟩ st (c.vars,g):=by
  refine ⟨by rw [p5];exact e4,(hg.ca c (dx hT.top.hc)).vl,e5,fun x hx=>by rw [oE.ol];exact yF.ob x hx,yF.v,yF.w,yF.vs,yF.vl,fun x hx=>?_,by rw [oE.ac];have:=px.y7;omega,?_,by rw [oE.fl];exact px.hC,by rw [p7];omega,by rw [g9.kids];exact px.kl,px.op,fun h6=>?_,fun h7=>?_,fun h8=>?_,fun h9=>?_⟩
  ·rw [oE.nu] at hx;obtain ⟨o,ho,rfl⟩:=eI.1 hx;exact px.ob o ho
  ·rw [oE.li,hZ.lines];have:=hz.ln;omega
  ·obtain ⟨q1,cd,q2,q3⟩:=px.r6 h6;exact ⟨q1,cd,by rw [oE.p];exact q2,q3⟩
  ·have ng:=oF.os;have:l.method=false∧Rg.spawn l c.pc st:=by
    unfold Rg.oP at ng;rcases ng with h|h|h|h|h|h|h|h
    ·omega
    ·omega
    ·omega
    ·omega
    ·exact ⟨h.2.2.1,h.2.2.2.2.1⟩
    all_goals omega
   obtain ⟨hm,⟨a,b⟩,_⟩:=this;have G6:i=0:=by
    by_cases e0:i=0
    ·exact e0
    ·have:=(oF.dp ae).1;rw [hm] at this;cases this
   have E3:=oF.hj;rw [G6] at E3;obtain ⟨kc,k1,k2⟩:=px.r7 h7;have NY:st.n.toNat<g.length:=ae;have hk:=g9.k0 j (c.vars,g) E3 (by rw [p5];exact e4) st.n.toNat NY;have ea:((st.n.toNat:Nat):Int)=st.n:=ae;rw [ea,k1] at hk;exact ⟨a,NY,kc,hk,by rw [oE.tl];exact k2⟩
  ·obtain ⟨q1,q2,q3⟩:=px.r8 h8;exact ⟨q1,by rw [oE.ol];exact q2,q3⟩
  ·obtain ⟨q1,cd,q2,q3⟩:=px.r9 h9;exact ⟨q1,cd,by rw [oE.p];exact q2,q3⟩
 have Du:uY 40 r5 n (s.turns.length+1) ⟨c.code,c.jM,c.pc,j⟩ st (c.vars,g):=by
  have vK:=px.op;clear hT hK kW od hZ oE En Ge oF px qF g9 yF Yk hu9 Xf e2 G4 yY;obtain ⟨op,v,w,nn,tk,vs⟩:=st;simp only at vK;have AF:op=1∨op=2∨op=3∨op=4∨op=5∨op=6∨op=7∨op=8∨op=9∨op=10∨op=11∨op=12:=ae;rcases AF with rfl|rfl|rfl|rfl|rfl|rfl|rfl|rfl|rfl|rfl|rfl|rfl
  ·exact auZ z8 B4 zJ
  ·exact avA z8 B4 zJ
  ·exact avB z8 B4 zJ
  ·exact avC z8 B4 zJ
  ·exact avD z8 B4 zJ
  ·exact avH z8 B4 zJ ae
  ·exact avE z8 B4 zJ
  ·exact avF z8 B4 zJ
  ·exact avG z8 B4 zJ arM
  ·exact arJ z8 B4 zJ
  ·exact arK z8 zJ
  ·exact arL z8 zJ
 obtain ⟨kb,mo⟩:=Du;obtain ⟨d,hd⟩:∃d,d=mX (lh 40) r5 n ⟨c.code,c.jM,c.pc,j⟩ st (c.vars,g):=⟨_,rfl⟩
 rw [← hd] at kb mo;have arN:Dh r n (jJ r n) i ⟨c.code,c.jM,c.pc,j⟩ c.pc.toNat st:=by
  refine ⟨hu,by rw [gu.sl,hT.top.hs],(gu.oD (i:=i) (by rw [hT.top.hs];omega) hT.top.hj hT.top.hc).1,by show c.pc=_;omega,hT.top.es⟩
 have xH:r.jV.length=r.turns.length:=h.fo.wf.sz.2.2.2.2.2.1;have aDt:=mo.af;have aDu:=mo.al;refine ⟨PA h.fo arN Yj (f:=40) ae ae ae ae (h.base hi hg hT.top.ht) (d:=d) (by rw [hd,xa];show _=mX (lh 40) (ua r n) n _ st (Dn r j);rw [e3]) (by rw [← xa];exact kb) mo.fo mo.tl ae ae,?_⟩;have Li:(tM s n j c st).turns.length=s.turns.length+1:=by rw [(aeO (s:=s) (n:=n) (j:=j) (c:=c) (st:=st)).2.1];simp
 have sI:vC (lh 40) r n=if d.1=false then sJ (lh 40) (if st.op=11 then d.2 else d.2.uA r.turns.length (-1)) n true else yE st.op c.jM (decide (c.pc=(c.code.steps.length:Int)-1)) n d.2:=by
  unfold vC uv;rw [e1,e2,e3,← xa,← hd]
 have sQ:Fo (vC (lh 40) r n)∧Lb (s.turns.length+1) (vC (lh 40) r n)∧(vC (lh 40) r n).after.length≤d.2.after.length+1001*40:=by
  rw [sI];split
  ·obtain ⟨r7,Dv⟩:∃r7,r7=if st.op=11 then d.2 else d.2.uA r.turns.length (-1):=⟨_,rfl⟩
   rw [← Dv];have h7:Fo r7∧r7.tasks=d.2.tasks∧r7.after=d.2.after:=by
    rw [Dv];split
    ·exact ⟨mo.fo,rfl,rfl⟩
    ·exact ⟨mo.fo.uA,rfl,rfl⟩
   have B3:=DL (Bj 40) h7.1 (k:=n) (by rw [h7.2.1];exact mo.tl) true (by rw [h7.2.2];omega);refine ⟨B3.fo,Lb.qk (s:=r7) (mo.lb.same h7.2.1) (Uy (PB 40) r7 n true),?_⟩;have:=B3.af;rw [h7.2.2] at this;exact this
  ·unfold yE;split
   ·have xO:=tH mo.tl;have gt:=mo.fo.tk n _ xO;exact ⟨mo.fo.xj xO rfl rfl rfl rfl ⟨gt.pos.1,dD _⟩ gt.GN,mo.lb.qk (Qk.jF _ _ rfl rfl rfl rfl),by show d.2.after.length≤_;omega⟩
   ·exact ⟨mo.fo,mo.lb,ae⟩
 exact ⟨En,sQ.1,by rw [Li];exact sQ.2.1,by have:=sQ.2.2;rw [Li];omega⟩
def Wl (s:jv):Prop:=∀(n:Nat) (t:jQ),s.tasks[n]?=some t→(0≤t.waits→(n:Int)<t.waits)∧∀q z:Int,getM t.kg q=some z→(n:Int)<z
structure Ws (s s':jv):Prop where
 ws:∀(n:Nat) (t':jQ),s'.tasks[n]?=some t'→∃t,s.tasks[n]?=some t∧t'.kg=t.kg∧(t'.waits=t.waits∨t'.waits = -1)
theorem Ws.refl (s:jv):Ws s s:=⟨fun n t h=>⟨t,h,rfl,.inl rfl⟩⟩
theorem Ws.trans {a b c:jv} (h:Ws a b) (g:Ws b c):Ws a c:=⟨fun n t e=>by
 obtain ⟨t1,e1,a1,a2⟩:=g.ws n t e;obtain ⟨t0,e0,b1,b2⟩:=h.ws n t1 e1;refine ⟨t0,e0,a1.trans b1,?_⟩;rcases a2 with a2|a2
 ·rw [a2];exact b2
 ·exact .inr a2⟩
theorem Ws.same {s s':jv} (e:s'.tasks=s.tasks):Ws s s':=⟨fun n t h=>⟨t,by rw [← e];exact h,rfl,.inl rfl⟩⟩
theorem Ws.jF {s:jv} {k:Nat} {t t':jQ} (ht:s.tasks[k]?=some t) (h1:t'.kg=t.kg) (h2:t'.waits=t.waits∨t'.waits = -1):Ws s (s.jF k t'):=⟨fun n u hu=>by
 by_cases e:k=n
 ·subst e;rw [Go.Ab.lq ht] at hu;injection hu with hu;subst hu;exact ⟨t,ht,h1,h2⟩
 ·rw [Go.Ab.mw e] at hu;exact ⟨u,hu,rfl,.inl rfl⟩⟩
theorem Ws.ts {s X:jv} {k:Nat} {t t':jQ} (hX:X.tasks=s.tasks) (ht:s.tasks[k]?=some t) (h1:t'.kg=t.kg) (h2:t'.waits=t.waits∨t'.waits = -1):Ws s (X.jF k t'):=
 (Ws.same hX).trans (Ws.jF (by rw [hX];exact ht) h1 h2)
theorem Wl.ws {s s':jv} (h:Wl s) (g:Ws s s'):Wl s':=fun n t' e=>by
 obtain ⟨t,e0,a1,a2⟩:=g.ws n t' e;obtain ⟨h1,h2⟩:=h n t e0;refine ⟨fun e1=>?_,by rw [a1];exact h2⟩;rcases a2 with a2|a2
 ·rw [a2] at e1 ⊢;exact h1 e1
 ·omega
theorem aiA (ks:List Int):∀(s:jv) (e:Nat),(o8 s e ks).1.tasks=s.tasks:=by
 induction ks with
 | nil=>intro s e;rfl
 | cons k ks ih =>
   intro s e;simp only [o8];split
   ·split
    ·rw [ih];rfl
    ·rfl
   ·rfl
theorem UA {S:jv→Nat→jv} (hS:∀s n,Ws s (S s n)) (s:jv) (n j:Nat):Ws s (sK S s n j):=by
 unfold sK;cases ht:s.tasks[n]? with
 | none=>exact .refl s
 | some t =>
   cases hc:s.calls[j]? with
   | none=>exact .refl s
   | some c =>
     simp only;split
     ·refine Ws.trans (b:=(s.ly j { c with pc:=c.pc+1 }).jF n (Go.Ab.j9 { t with jC:=1 } 3)) ?_ (hS _ _);exact Ws.ts rfl ht rfl (.inl rfl)
     ·exact Ws.ts rfl ht rfl (.inl rfl)
theorem afW {s:jv} {p e:Nat} {tp tq:jQ} (ht:s.tasks[p]?=some tq) (h1:tp.kg=tq.kg):Ws s (qT s p tp e):=by
 unfold qT;split
 ·split
  ·have e2:((tL s p tp e).ld (oH (s.jE.getD tp.jX []) (s.jE.getD e []))).jF p { tp with waits:=-1,state:=1,lB:=some s.ke.length,jX:=s.jE.length }=((s.o9 [e]).ld (oH (s.jE.getD tp.jX []) (s.jE.getD e []))).jF p { tp with waits:=-1,state:=1,lB:=some s.ke.length,jX:=s.jE.length }:=by
    simp [tL,jv.jF,jv.ld,jv.o9]
   rw [e2];exact Ws.ts rfl ht h1 (.inr rfl)
  ·exact Ws.ts (X:=s.o9 [e]) rfl ht h1 (.inr rfl)
 ·exact Ws.ts (X:=s.o9 [e]) rfl ht h1 (.inr rfl)
theorem TY:∀(f:Nat) (s:jv) (n:Nat),Ws s (oe f s n):=by
 intro f
 induction f with
 | zero=>intro s n;exact .refl s
 | succ f ih =>
   intro s n;simp only [oe];split
   ·exact .refl s
   ·rename_i t ht;split
    ·exact .refl s
    ·have hk:=aiA t.kids s t.jX;split
     ·rename_i s1 e he;rw [he] at hk;exact .same hk
     ·rename_i s1 e he;rw [he] at hk;have hk:s1.tasks=s.tasks:=hk;have h2:Ws s ((s1.oa n e).jF n { t with state:=t.ending }):=Ws.ts (X:=s1.oa n e) hk ht rfl (.inl rfl);split
      ·exact h2
      ·split
       ·exact .same hk
       ·rename_i tp ns;split
        ·have htq:∃tq,((s1.oa n e).jF n { t with state:=t.ending }).tasks[t.par.toNat]?=some tq∧tp.kg=tq.kg:=by
          have lr:(s1.oa n e).tasks[n]?=some t:=by show s1.tasks[n]?=some t;rw [hk];exact ht
          by_cases ep:n=t.par.toNat
          ·refine ⟨{ t with state:=t.ending },by rw [← ep];exact Go.Ab.lq lr,?_⟩;rw [← ep,hk,ht] at ns;injection ns with ns;rw [← ns]
          ·exact ⟨tp,by rw [Go.Ab.mw ep];exact ns,rfl⟩
         obtain ⟨tq,q1,q2⟩:=htq;exact (h2.trans (afW q1 q2)).trans (UA ih _ _ _)
        ·exact h2.trans (ih _ _)
theorem Vb (s:jv) (l:List Nat):Ws s (mx s l):=⟨fun n t' e=>by
 obtain ⟨t,e1,rfl⟩:=JI e;exact ⟨t,e1,by split<;>rfl,.inl (by split<;>rfl)⟩⟩
theorem UB (s:jv) (n:Nat):Ws s (sL s n):=by
 unfold sL;split
 ·rename_i t ht;have hc:(Go.Ab.oS s t.kids).tasks[n]?=some (if n∈t.kids.flatMap (fun k=>pI s s.tasks.length k.toNat) then { t with canc:=true } else t):=Bl ht;have h1:Ws (Go.Ab.oS s t.kids) ((Go.Ab.oS s t.kids).jF n (Go.Ab.j9 t 4)):=Ws.jF hc (by split<;>rfl) (.inl (by split<;>rfl));exact ((Vb s _).trans h1).trans (TY _ _ _)
 ·exact .refl s
theorem akR {s:jv} {n j:Nat} {t:jQ} {c:kh} {st:kG} {l:Lk} {k i:Nat} (hT:TH s n j t c st l k i) (h:Wl s):Wl (tM s n j c st):=by
 have GZ:=vB;have hz:=hT.gg.sz;have rm:=hz.ck;have nN:=hT.tn;obtain ⟨hK,kW⟩:=hT.top.tok hT.gg.iv hT.gg.gi hz hT.sY;obtain ⟨t9,od,yY⟩:=Jz hK kW ae ae;have hZ:=DS s n c st;unfold tM;obtain ⟨s9,oE⟩:∃s9,s9=rz s n c st:=⟨_,rfl⟩
 rw [← oE] at od hZ ⊢;have qF:=od.tk;have px:Tok 80000 s9 n j t9 c st:=hK.cs od ae;have h9:Wl s9:=h.ws ⟨fun x t' e=>by
  obtain ⟨t0,e0,f0⟩:=hZ.tk x t' e;exact ⟨t0,e0,by rw [f0],.inl (by rw [f0])⟩⟩
 have G5:Go.Ab.jJ s9 n=t9:=Go.Ab.oG qF;rw [G5];have G9:=h9 n t9 qF;split
 ·exact h9.ws (UB _ _)
 have CC:Wl (kR s9 n j t9 c st s.turns.length).2:=by
  have hid:∀s':jv,s'.tasks=s9.tasks→Wl s':=fun s' e=>h9.ws (.same e);obtain ⟨op,v,w,nn,tk,vs⟩:=st;have vK:=px.op;simp only at vK;have AF:op=1∨op=2∨op=3∨op=4∨op=5∨op=6∨op=7∨op=8∨op=9∨op=10∨op=11∨op=12:=ae;rcases AF with rfl|rfl|rfl|rfl|rfl|rfl|rfl|rfl|rfl|rfl|rfl|rfl
  ·simp +decide only [kR,jb,jc];exact hid _ rfl
  ·simp +decide only [kR,jb,jc];split<;>exact hid _ rfl
  ·simp +decide only [kR,jb,jc];exact hid _ rfl
  ·simp +decide only [kR,jb,jc];exact hid _ rfl
  ·simp +decide only [kR,jb,jc];exact hid _ rfl
  ·simp +decide only [kR,jb,jc];obtain ⟨tn,o,a1,a2,a3,b1,b2,b3,b4,b5,b6,b7,b8,b9,zZ⟩:=L0 (s:=s9) (c:=po s9.p.kT tk) (vs:=lN c vs) (a:=s9.jE.getD t9.jX []) (prio:=nn) (par:=n) (canc:=t9.canc) px.iv.wf.xu (.inr ⟨n,t9,rfl,qF,px.en,px.wt⟩);intro x u hu;have hu:((oU s9 (po s9.p.kT tk) (lN c vs) (s9.jE.getD t9.jX []) nn n t9.canc).tasks.set n _)[x]?=some u:=hu;rw [a1] at hu;have vU:=(dt qF).1;by_cases ex:n=x
   ·subst ex;rw [ee aj] at hu;injection hu with hu;subst hu;refine ⟨G9.1,fun q z hq=>?_⟩;by_cases EK:c.jM<0
    ·have hq:getM (if c.jM<0 then qu t9.kg c.pc (s9.tasks.length:Int) else t9.kg) q=some z:=hq;rw [ja EK,Jq] at hq;split at hq
     ·injection hq with hq;omega
     ·exact G9.2 q z hq
    ·have hq:getM (if c.jM<0 then qu t9.kg c.pc (s9.tasks.length:Int) else t9.kg) q=some z:=hq;rw [iZ EK] at hq;exact G9.2 q z hq
   ·rw [dS ex] at hu;rcases eE x s9.tasks.length with e|e
    ·rw [dA e] at hu;exact h9 x u hu
    ·have Da:x=s9.tasks.length:=by
      have:=(dt hu).1;simp at this;omega
     subst Da;rw [dJ (dD _),eT] at hu;injection hu with hu;subst hu;exact ⟨fun e=>ae,fun q z hq=>by rw [b7] at hq;cases hq⟩
  ·simp +decide only [kR,jb,jc];obtain ⟨kc,k1,k2⟩:=px.r7 (.inl rfl);split
   ·exact h9
   ·intro x u hu;by_cases ex:n=x
    ·subst ex;rw [Go.Ab.lq qF] at hu;injection hu with hu;subst hu;refine ⟨fun _=>?_,G9.2⟩;show (n:Int)<(qX t9 nn:Int);unfold qX;rw [k1];have:=G9.2 _ _ k1;simp only [eR,dF];exact this
    ·rw [Go.Ab.mw ex] at hu;exact h9 x u hu
  ·simp +decide only [kR,jb,jc];exact hid _ rfl
  ·simp +decide only [kR,jb,jc];split
   ·exact hid _ rfl
   ·exact h9.ws (Ws.ts (X:=(s9.kF (lQ (po s9.p.methods tk) (lN c vs++[nn]) nn)).ly j { c with pc:=c.pc+1 }) rfl qF rfl (.inl rfl))
  ·simp +decide only [kR,jb,jc];exact h9.ws (Vb _ _)
  ·simp +decide only [kR,jb,jc];split
   ·exact h9.ws (UB _ _)
   ·exact h9
  ·simp +decide only [kR,jb,jc];exact h9
 split
 ·exact CC
 ·unfold tg;refine Wl.ws ?_ (UA (TY _) _ _ _);split
  ·unfold tw;obtain ⟨pJ,avM⟩:∃pJ,pJ=(kR s9 n j t9 c st s.turns.length).2:=⟨_,rfl⟩
   rw [← avM] at CC ⊢;intro x u hu;by_cases ex:n=x
   ·subst ex;have hl:n<pJ.tasks.length:=by have:=(dt hu).1;rwa [Go.Ab.lY] at this
    have h0:=dy hl;rw [Go.Ab.lq h0] at hu;injection hu with hu;subst hu;rw [Go.Ab.oG h0];have:=CC n _ h0;exact this
   ·rw [Go.Ab.mw ex] at hu;exact CC x u hu
  ·exact CC
theorem foldM {p:Nat→Bool} {g:Nat→Int}:∀(l:List Nat) (a:Int),a≤l.foldl (fun n i=>if p i=true then max n (g i) else n) a∧(∀i∈l,p i=true→g i≤l.foldl (fun n i=>if p i=true then max n (g i) else n) a)∧∀B:Int,a≤B→(∀i∈l,p i=true→g i≤B)→l.foldl (fun n i=>if p i=true then max n (g i) else n) a≤B:=by
 intro l
 induction l with
 | nil=>intro a;exact ⟨fy _,fun i hi=>(by cases hi),fun B h _=>h⟩
 | cons x l ih =>
   intro a;rw [fD];obtain ⟨h1,h2,h3⟩:=ih (if p x=true then max a (g x) else a);refine ⟨?_,fun i hi hp=>?_,fun B hB hA=>?_⟩
   ·refine Int.le_trans ?_ h1;split<;>omega
   ·rcases dC.1 hi with rfl|hi
    ·refine Int.le_trans ?_ h1;rw [ja hp];omega
    ·exact h2 i hi hp
   ·refine h3 B ?_ fun i hi=>hA i (List.mem_cons_of_mem _ hi);split
    ·rename_i hp;have:=hA x ah hp;omega
    ·exact hB
theorem adY {p:Nat→Bool} {g g':Nat→Int}:∀(l:List Nat) (a:Int),(∀i∈l,p i=true→g i=g' i)→l.foldl (fun n i=>if p i=true then max n (g i) else n) a=l.foldl (fun n i=>if p i=true then max n (g' i) else n) a:=by
 intro l
 induction l with
 | nil=>intro a _;rfl
 | cons x l ih =>
   intro a h;rw [fD,fD,ih _ fun i hi=>h i (List.mem_cons_of_mem _ hi)];by_cases e:p x=true
   ·rw [ja e,ja e,h x ah e]
   ·rw [iZ e,iZ e]
theorem aiB {r:jz} (mr:∀k i,i<r.tasks.length→uz r k i=true→i<k):∀f k:Nat,k≤f→qI r (f+1) k=qI r f k:=by
 intro f
 induction f with
 | zero =>
   intro k hk;have:k=0:=ae;subst this;show List.foldl _ _ _=(jJ r 0).prio;obtain ⟨h1,_,h3⟩:=foldM (p:=uz r 0) (g:=qI r 0) (List.range r.tasks.length) (jJ r 0).prio;have:=h3 (jJ r 0).prio (fy _) fun i hi hp=>by
    have:=mr 0 i (eU.1 hi) hp;omega
   exact Int.le_antisymm this h1
 | succ f ih =>
   intro k hk;exact adY (p:=uz r k) (g:=qI r (f+1)) (g':=qI r f) (List.range r.tasks.length) _ fun i hi hp=>ih i (by have:=mr k i (eU.1 hi) hp;omega)
theorem anK {r:jz} {f k:Nat}:(jJ r k).prio≤qI r f k:=by
 cases f with
 | zero=>exact fy _
 | succ f=>exact (foldM (p:=uz r k) (g:=qI r f) (List.range r.tasks.length) (jJ r k).prio).1
theorem anL {r:jz} (mr:∀k i,i<r.tasks.length→uz r k i=true→i<k) {k i:Nat} (hi:i<r.tasks.length) (hp:uz r k i=true) (h39:i≤39):qI r 40 i≤qI r 40 k:=by
 rw [aiB mr 39 i h39];exact (foldM (p:=uz r k) (g:=qI r 39) (List.range r.tasks.length) (jJ r k).prio).2.1 i (eU.2 hi) hp
theorem anM {r:jz} {L:Nat→Int} (h1:∀k,k<r.tasks.length→(jJ r k).prio≤L k) (h2:∀k i,k<r.tasks.length→i<r.tasks.length→uz r k i=true→L i≤L k):∀f k:Nat,k<r.tasks.length→qI r f k≤L k:=by
 intro f
 induction f with
 | zero=>intro k hk;exact h1 k hk
 | succ f ih =>
   intro k hk;exact (foldM (p:=uz r k) (g:=qI r f) (List.range r.tasks.length) (jJ r k).prio).2.2 _ (h1 k hk) fun i hi hp=>Int.le_trans (ih i (eU.1 hi)) (h2 k i hk (eU.1 hi) hp)
theorem aeP {ts:List jQ} {L:List Int}:∀k:Nat,(oy ts k L).2=false→(oy ts k L).1=L∧∀i t,i<k→ts[i]?=some t→0≤t.waits→L.getD i 0≤L.getD t.waits.toNat 0:=by
 intro k
 induction k with
 | zero=>intro _;exact ⟨rfl,fun i t hi=>ae⟩
 | succ k ih =>
   intro h;simp only [oy] at h ⊢;cases ht:ts[k]? with
   | none =>
     rw [ht] at h;simp only at h ⊢;obtain ⟨a1,a2⟩:=ih h;refine ⟨a1,fun i t hi nh=>?_⟩;by_cases e:i=k
     ·subst e;rw [ht] at nh;cases nh
     ·exact a2 i t ae nh
   | some t =>
     rw [ht] at h;simp only at h ⊢;by_cases hc:0≤t.waits∧(oy ts k L).1.getD t.waits.toNat 0<(oy ts k L).1.getD k 0
     ·rw [ja hc] at h;cases h
     ·rw [iZ hc] at h ⊢;obtain ⟨a1,a2⟩:=ih h;refine ⟨a1,fun i u hi hu h0=>?_⟩;by_cases e:i=k
      ·subst e;rw [ht] at hu;injection hu with hu;subst hu;rw [a1] at hc;omega
      ·exact a2 i u ae hu h0
theorem aiC {ts:List jQ} {U:Nat→Int} (hU:∀i t,ts[i]?=some t→0≤t.waits→U i≤U t.waits.toNat) {L:List Int} (hl:L.length=ts.length) (h:∀i,i<L.length→L.getD i 0≤U i):∀k,k≤ts.length→(oy ts k L).1.length=L.length∧∀i,i<L.length→(oy ts k L).1.getD i 0≤U i∧L.getD i 0≤(oy ts k L).1.getD i 0:=by
 intro k
 induction k with
 | zero=>intro _;exact ⟨rfl,fun i hi=>⟨h i hi,fy _⟩⟩
 | succ k ih =>
   intro hk;obtain ⟨a1,a2⟩:=ih ae;have ht:ts[k]?=some ts[k]:=dy hk;simp only [oy,ht];split
   ·rename_i hc;refine ⟨by rw [dW];exact a1,fun i hi=>?_⟩;rw [dI (l:=(oy ts k L).1.set _ _),eN];by_cases e:ts[k].waits.toNat=i
    ·rw [ja e,ja (by rw [a1];omega)];have h1:=(a2 k ae).1;have h2:=hU k _ ht hc.1;have h3:=(a2 i hi).2;rw [e] at h2 hc;simp only [eR];omega
    ·rw [iZ e,← dI];exact a2 i hi
   ·exact ⟨a1,a2⟩
theorem akS {ts:List jQ} {U:Nat→Int} (hU:∀i t,ts[i]?=some t→0≤t.waits→U i≤U t.waits.toNat) (mr:∀t∈ts,t.waits<ts.length):∀(f:Nat) (L:List Int),L.length=ts.length→b3 L→(∀i,i<L.length→L.getD i 0≤U i)→xQ L<f→(yd ts f L).length=ts.length∧(∀i,i<ts.length→(yd ts f L).getD i 0≤U i∧L.getD i 0≤(yd ts f L).getD i 0)∧∀i t,ts[i]?=some t→0≤t.waits→(yd ts f L).getD i 0≤(yd ts f L).getD t.waits.toNat 0:=by
 intro f
 induction f with
 | zero=>intro L _ _ _ h;omega
 | succ f ih =>
   intro L hl h3 hle hmu;obtain ⟨p1,p2,p3,p4⟩:=Mk hl h3 mr ts.length (dD _);obtain ⟨q1,q2⟩:=aiC hU hl hle ts.length (dD _);simp only [yd];cases hf:(oy ts ts.length L).2 with
   | true =>
     rw [ja rfl];obtain ⟨r1,r2,r3⟩:=ih (oy ts ts.length L).1 p1 p2 (fun i hi=>(q2 i ae).1) (by have:=p4 hf;omega);exact ⟨r1,fun i hi=>⟨(r2 i hi).1,Int.le_trans (q2 i ae).2 (r2 i hi).2⟩,r3⟩
   | false =>
     rw [iZ ah];obtain ⟨n1,n2⟩:=aeP ts.length hf;rw [n1];exact ⟨hl,fun i hi=>⟨hle i ae,fy _⟩,fun i t ht h0=>n2 i t (dt ht).1 ht h0⟩
theorem kZ.uz {s:jv} {r:jz} (h:kZ s r) {k i:Nat} {t:jQ} (ht:s.tasks[i]?=some t):uz r k i=true↔t.waits=(k:Int):=by
 obtain ⟨_,g⟩:=h.ta ht;unfold Rf.uz;rw [g.state,g.cl,g.waits];rcases g.st with ⟨a,b,c⟩|⟨a,b,c,_⟩|⟨a,b,c,_⟩|⟨a,b,c,_⟩
 ·simp [a];omega
 ·simp [a,b]
 ·simp [a,b];omega
 ·have:¬t.state=2:=ae;simp [this];omega
theorem Xg {s:jv} {r:jz} (hG:GG s) (h:Rk s r) (hW:Wl s):Pk r:=by
 have hz:=hG.sz;refine ⟨h.fo.wf,fun k u hu h1=>?_,fun k i hi hp=>?_,?_⟩
 ·have hk:k<s.tasks.length:=by rw [← h.qM.tl];exact vb hu
  have ht:=dy hk;obtain ⟨sb,g⟩:=h.qM.ta ht;rw [hu] at sb;injection sb with sb;have j6:(s.tasks[k]).state=1:=by rw [← g.state,← sb];exact h1
  obtain ⟨j,c,st,l,kk,i,hT⟩:=JJ hG.iv hG.gi ht j6;have uj:=hT.pc;refine ⟨i,⟨c.code,c.jM,c.pc,j⟩,c.pc.toNat,st,hu,?_,?_,by show c.pc=_;omega,hT.es⟩
  ·rw [sb,g.sl,hT.hs]
  ·rw [sb];exact (g.oD (i:=i) (by rw [hT.hs];omega) hT.hj hT.hc).1
 ·have ht:=dy (l:=s.tasks) (i:=i) (by rw [← h.qM.tl];exact hi);have hw:=(h.qM.uz ht).1 hp;have:=(hW i _ ht).1 ae;omega
 ·have:=hz.us;have:=hz.sl;rw [h.qM.us];omega
theorem akT {s:jv} {r:jz} (hG:GG s) (h:Rk s r) (hW:Wl s):∀k,k<s.tasks.length→(zK s).getD k 0=qI r 40 k:=by
 have hP:=Xg hG h hW;have sR:=hG.iv.wf.nT;have re:=h.qM.tl;have AZ:∀k (hk:k<s.tasks.length),(jJ r k).prio=(s.tasks[k]).prio:=fun k hk=>(h.qM.ta (dy hk)).2.pr;have hU:∀(i:Nat) (t:jQ),s.tasks[i]?=some t→0≤t.waits→qI r 40 i≤qI r 40 t.waits.toNat:=fun i t ht h0=>by
  have hi:=(dt ht).1;exact anL hP.wt ae ((h.qM.uz ht).2 ae) ae
 have mr:∀t∈s.tasks,t.waits<s.tasks.length:=fun t ht=>by
  obtain ⟨n,hn⟩:=eC ht;exact (hG.gi.ta n t hn).wt
 have Yl:∀t∈s.tasks,0≤t.prio∧t.prio≤3:=fun t ht=>by
  obtain ⟨n,hn⟩:=eC ht;exact (hG.gi.ta n t hn).pr
 have hm:∀k,k<s.tasks.length→(s.tasks.map (·.prio)).getD k 0=(jJ r k).prio:=fun k hk=>by
  rw [dI,dE,dy hk,AZ k hk];rfl
 obtain ⟨e1,e2,e3⟩:=akS hU mr 200 (s.tasks.map (·.prio)) ah (fun x hx=>by obtain ⟨t,ht,rfl⟩:=eI.1 hx;exact (Yl t ht).2) (fun i hi=>by rw [hm i (by simpa using hi)];exact anK) (by
  have:=WG (L:=s.tasks.map (·.prio)) fun x hx=>by obtain ⟨t,ht,rfl⟩:=eI.1 hx;exact (Yl t ht).1
  rw [eo] at this;omega)
 intro k hk;have h1:=(e2 k hk).1;have h2:=anM (r:=r) (L:=fun k=>(zK s).getD k 0) (fun k hk=>by
  have hk:k<s.tasks.length:=ae;have:=(e2 k hk).2;rw [hm k hk] at this;exact this) (fun k i hk hi hp=>by
  have ht:=dy (l:=s.tasks) (i:=i) ae;have hw:=(h.qM.uz ht).1 hp;have:=e3 i _ ht ae;rw [hw,dF] at this;exact this) 40 k ae
 have h1:(zK s).getD k 0≤qI r 40 k:=h1;have h2:qI r 40 k≤(zK s).getD k 0:=h2;omega
theorem anN {s:jv} {r:jz} (hG:GG s) (h:Rk s r) {k:Nat} {t:jQ} (ht:s.tasks[k]?=some t):AG r k=true↔¬(t.state≠1∨yG s k=true):=by
 obtain ⟨hu,g⟩:=h.qM.ta ht;by_cases h1:t.state=1
 ·obtain ⟨j,c,st,l,kk,i,hT⟩:=JJ hG.iv hG.gi ht h1;obtain ⟨e1,e2,_⟩:=TH.QZ h.qM hT;have ea:Ii r k=sk c st:=by unfold Ii sk;rw [e1,e2]
  have eb:yG s k=BB s k (sk c st):=by unfold yG;rw [hT.nx]
  have ec:busy r k (sk c st) r.tasks.length=BB s k (sk c st):=by
   have key:∀x,x<s.tasks.length→D6 r k (sk c st) x=(!decide (sk c st<0)&&AH s k (sk c st) x):=fun x hx=>by
    have vS:=dy hx;obtain ⟨_,gx⟩:=h.qM.ta vS;unfold D6 AH;rw [gx.has,gx.state,vS];simp only;by_cases e0:sk c st<0
    ·have:¬ 0≤sk c st:=ae;simp [e0,this]
    ·have e0':0≤sk c st:=ae;by_cases ex:(x:Int)=(k:Int)
     ·simp [ex]
     ·by_cases eh:(s.tasks[x]).has=sk c st
      ·have:¬ 2<(s.tasks[x]).state:=by rcases gx.st with ⟨a,_⟩|⟨a,_⟩|⟨a,_⟩|⟨a,_,_,b⟩<;>omega
       simp [e0,e0',ex,eh,this]
      ·simp [e0,e0',ex,eh]
   unfold busy BB;rw [h.qM.tl];by_cases e0:sk c st<0
   ·rw [jf e0];simp only [Bool.not_true,Bool.false_and];rw [List.any_eq_false];intro x hx;rw [key x (eU.1 hx),jf e0];simp
   ·rw [je e0];simp only [Bool.not_false,Bool.true_and];have:∀x∈List.range s.tasks.length,D6 r k (sk c st) x=AH s k (sk c st) x:=fun x hx=>by
     rw [key x (eU.1 hx),je e0];simp
    rw [gW,eS,eS];constructor
    ·rintro ⟨x,a,b⟩;exact ⟨x,a,by rw [← this x a];exact b⟩
    ·rintro ⟨x,a,b⟩;exact ⟨x,a,by rw [this x a];exact b⟩
  unfold AG;rw [g.state,h1,ea,ec,eb];simp
 ·unfold AG;rw [g.state];simp [h1]
theorem Qp {s:jv} {r:jz} (hG:GG s) (h:Rk s r) (hW:Wl s):∀k,k≤s.tasks.length→qa s (zK s) k=pT r k:=by
 intro k
 induction k with
 | zero=>intro _;rfl
 | succ k ih =>
   intro hk;have ht:=dy (l:=s.tasks) (i:=k) hk;simp only [qa,pT,ht];have hr:=anN hG h ht;have hu:=akT hG h hW k hk;rw [ih ae,hu];by_cases hb:(s.tasks[k]).state≠1∨yG s k=true
   ·rw [ja hb,iZ (fun e=>hr.1 e hb)]
   ·rw [iZ hb,ja (hr.2 hb)];by_cases h1:(pT r k).1<qI r 40 k
    ·rw [ja h1,ja h1]
    ·rw [iZ h1,iZ h1];by_cases h2:qI r 40 k<(pT r k).1
     ·rw [ja h2,iZ ae]
     ·rw [iZ h2,ja ae]
theorem UC {s:jv} {r:jz} (hG:GG s) (h:Rk s r) (hW:Wl s):jS Tryd.prog 49 [jI,.jA (s.sched.map .int)] (RH r) (.int (if rv s=[] then -1 else xR s)) (RH (vW r s.sched))∧Rk (nf s) (vW r s.sched)∧(rv s=[]→vW r s.sched=r∧nf s=s):=by
 have hz:=hG.sz;have hp:=Pz (Xg hG h hW) (sched:=s.sched) (by have:=hz.sl;omega);have hL:(pT r r.tasks.length).2=rv s:=by unfold rv;rw [h.qM.tl,Qp hG h hW _ (dD _)]
 have hS:CT r s.sched=BC s:=by unfold CT BC;rw [h.qM.us]
 have hV:yp r s.sched=if rv s=[] then -1 else xR s:=by unfold yp xR;rw [hL,hS]
 rw [hV] at hp;refine ⟨hp,?_,fun e=>⟨by unfold vW;rw [hL,ja e],by unfold nf;rw [ja e]⟩⟩;unfold vW nf;rw [hL,h.qM.us];have hs:=h.qM;split
 ·exact h
 ·split
  ·refine ⟨⟨hs.p,hs.lk,hs.nu,hs.li,hs.ac,hs.tn,rfl,hs.fl,hs.fr,hs.tl,hs.tk⟩,⟨h.fo.wf.at,h.fo.tk⟩,h.lb,h.af⟩
  ·exact h
def rD (p:Tk) (k:Nat):jz:=⟨p,[],List.replicate k (-1),List.replicate k 0,[],[],[],[],[],0,[]⟩
theorem akU (p:Tk) (k:Nat):(rD p k).ll 0=rD p (k+1):=by
 unfold rD jz.ll;simp only;rw [← fF,← fF]
theorem PZ (p:Tk) {k:Nat} (hk:k≤1000000):Fo (rD p k):=by
 refine ⟨⟨dL _,dL _,fun t ht=>(by cases ht),?_⟩,fun k t ht=>?_⟩
 ·refine ⟨by simp [rD];exact hk,by simp [rD],?_⟩;simp [rD]
 ·have ht:([]:List km)[k]?=some t:=ht;simp at ht
def I0 (p:Tk) (cd:Cd):jz:=qm (rD p (p.mb.toNat+cd.params.toNat)) cd 0 (-1) (mT p.mb.toNat cd.params.toNat)
def AI (p:Tk) (cd:Cd):jz:=if cd.steps.length=0 then sJ (lh 40) (I0 p cd) 0 false else I0 p cd
theorem JS (p:Tk) (cd:Cd):I0 p cd={ rD p (p.mb.toNat+cd.params.toNat) with jY:=[qj cd (mT p.mb.toNat cd.params.toNat)],tasks:=[Rf.mN cd 0 0 (-1) false] }:=by
 unfold I0 qm;rw [iZ ae];rfl
theorem PC (p:Tk) (cd:Cd):AI p cd={ rD p (p.mb.toNat+cd.params.toNat) with jY:=[qj cd (mT p.mb.toNat cd.params.toNat)],tasks:=[BA cd 0 0 (-1) false] }:=by
 unfold AI BA;split
 ·rw [Uw (f:=39) (K:=0) (J:=0) (cd:=cd) (n:=0) (par:=-1) (canc:=false) (by rw [JS];rfl) (.inl rfl),JS];rfl
 ·exact JS p cd
def Gf (sched:List Int):Nat→jz→jz
 | 0,r=>r
 | f+1,r=>if r.turns.length<2000 then (if yp r sched<0 then vW r sched else Gf sched f (vC (lh 40) (vW r sched) (yp r sched).toNat)) else r
def Eo (p:Tk) (sched:List Int):jz:=Gf sched 2001 (AI p (p.kT.getD 0 ⟨0,0,[]⟩))
theorem adZ (s:jv) (n j:Nat) (t:jQ) (c:kh) (st:kG) (time:Int):(kR s n j t c st time).2.sched=s.sched:=by
 have h6:=Hw s (po s.p.kT st.task) (lN c st.vars) (s.jE.getD t.jX []) st.n n t.canc;have vM:=FF s n;unfold kR;by_cases h1:st.op=1
 ·rw [ja h1];rfl
 rw [iZ h1];by_cases h2:st.op=2
 ·rw [ja h2];split<;>rfl
 rw [iZ h2];by_cases h3:st.op=3
 ·rw [ja h3];rfl
 rw [iZ h3];by_cases h4:st.op=4
 ·rw [ja h4];rfl
 rw [iZ h4];by_cases h5:st.op=5
 ·rw [ja h5];rfl
 rw [iZ h5];by_cases Lj:st.op=6
 ·rw [ja Lj];exact h6.sched
 rw [iZ Lj];by_cases h7:st.op=7
 ·rw [ja h7];split<;>rfl
 rw [iZ h7];by_cases h8:st.op=8
 ·rw [ja h8];rfl
 rw [iZ h8];by_cases h9:st.op=9
 ·rw [ja h9];split<;>rfl
 rw [iZ h9];by_cases uF:st.op=10
 ·rw [ja uF];rfl
 rw [iZ uF];by_cases Ym:st.op=11
 ·rw [ja Ym];split
  ·exact vM.sched
  ·rfl
 rw [iZ Ym]
theorem aeA (s:jv) (n j:Nat) (c:kh) (st:kG):(tM s n j c st).sched=s.sched:=by
 have hZ:=DS s n c st;unfold tM;split
 ·exact (FF _ _).sched.trans hZ.sched
 have h1:=adZ (rz s n c st) n j (Go.Ab.jJ (rz s n c st) n) c st s.turns.length;split
 ·exact h1.trans hZ.sched
 unfold tg;refine ((Hy (S:=oe (n+1)) (fun s m=>Fy (n+1) s m) _ _ _).sched).trans ?_;split
 ·exact h1.trans hZ.sched
 ·exact h1.trans hZ.sched
theorem akV {s:jv} (h:Wl s):Wl (nf s):=by
 obtain ⟨u,e⟩:=VV s;rw [e];exact h
theorem aeQ (s:jv):(nf s).sched=s.sched:=by
 obtain ⟨u,e⟩:=VV s;rw [e]
structure JR (sched:List Int) (s:jv) (r:jz):Prop where
 rj:RJ s
 wl:Wl s
 rk:Rk s r
 sc:s.sched=sched
theorem JR.Eg {sched:List Int} {s:jv} {r:jz} (h:JR sched s r) (nN:s.turns.length<2000) (hr:rv s≠[]):∃n:Nat,yp r sched=n∧xR s=n∧jS Tryd.prog 49 [jI,.jA (sched.map .int)] (RH r) (.int n) (RH (vW r sched))∧Rk (nf s) (vW r sched)∧jS Tryd.prog 50 [jI,.int n] (RH (vW r sched)) (.ky []) (RH (vC (lh 40) (vW r sched) n))∧JR sched (vc (nf s) n) (vC (lh 40) (vW r sched) n)∧(vc (nf s) n).turns.length=s.turns.length+1:=by
 have SL:=h.sc;subst SL;obtain ⟨p1,p2,_⟩:=UC h.rj.gg h.rk h.wl;obtain ⟨n,j,t,c,st,l,k,i,hn,hT,h1,hE⟩:=afX h.rj.gg hr;obtain ⟨e1,e2⟩:=O6 s;have hG:=Mr h.rj.gg;have Q6:(nf s).turns.length<2000:=by rw [e2];exact nN
 have hTH:TH (nf s) n j t c st l k i:=⟨hG,Q6,hT,h1,by rw [e2,e1];exact h.rj.tn⟩
 obtain ⟨g1,g2⟩:=Vc hG Q6 hT h1;obtain ⟨g3,g4⟩:=aiD hG Q6 hT h1;rw [e1] at g4;have vU:n<s.tasks.length:=by rw [← e1];exact (dt hT.ht).1
 obtain ⟨b1,b2⟩:=afV hTH p2;rw [hn,dF] at hE;have hV:yp r s.sched=(n:Int):=by
  have hL:(pT r r.tasks.length).2=rv s:=by unfold rv;rw [h.rk.qM.tl,Qp h.rj.gg h.rk h.wl _ (dD _)]
  have hS:CT r s.sched=BC s:=by unfold CT BC;rw [h.rk.qM.us]
  have:yp r s.sched=xR s:=by unfold yp xR;rw [hL,hS,iZ hr]
  rw [this,hn]
 rw [iZ hr,hn] at p1;refine ⟨n,hV,hn,p1,p2,b1,⟨?_,?_,?_,?_⟩,?_⟩
 ·rw [hE];refine ⟨g1,fun x hx=>?_,by have:=h.rj.t0;omega⟩;rw [g3,e2] at hx;rcases eg.1 hx with hx|hx
  ·have:=h.rj.tn x hx;omega
  ·rw [dz] at hx;omega
 ·rw [hE];exact akR hTH (akV h.wl)
 ·rw [hE];exact b2
 ·rw [hE,aeA,aeQ]
 ·rw [hE,g3,e2];simp
theorem JR.stuck {sched:List Int} {s:jv} {r:jz} (h:JR sched s r) (hr:rv s=[]):yp r sched = -1∧jS Tryd.prog 49 [jI,.jA (sched.map .int)] (RH r) (.int (-1)) (RH r)∧vW r sched=r∧nf s=s:=by
 have SL:=h.sc;subst SL;obtain ⟨p1,_,p3⟩:=UC h.rj.gg h.rk h.wl;obtain ⟨q1,q2⟩:=p3 hr;rw [ja hr,q1] at p1;refine ⟨?_,p1,q1,q2⟩;have hL:(pT r r.tasks.length).2=rv s:=by unfold rv;rw [h.rk.qM.tl,Qp h.rj.gg h.rk h.wl _ (dD _)]
 unfold yp;rw [hL,ja hr]
theorem akW {sched:List Int}:∀(f:Nat) (s:jv) (r:jz),JR sched s r→JR sched (wP f s) (Gf sched f r):=by
 intro f
 induction f with
 | zero=>intro s r h;exact h
 | succ f ih =>
   intro s r h;have hl:r.turns.length=s.turns.length:=by rw [h.rk.qM.tn]
   unfold wP Gf;rw [hl];by_cases nN:s.turns.length<2000
   ·rw [ja nN,ja nN];by_cases hr:rv s=[]
    ·obtain ⟨a1,a2,a3,a4⟩:=h.stuck hr;rw [ja hr,ja ae,a3,a4];exact h
    ·obtain ⟨n,a1,a2,a3,a4,a5,a6,a7⟩:=h.Eg nN hr;rw [iZ hr,iZ ae,a1,a2,dF];exact ih _ _ a6
   ·rw [iZ nN,iZ nN];exact h
theorem WH {p:Tk} {sched:List Int} {cd:Cd} (hv:Rg.Ap p) (mY:p.kT[0]?=some cd) (hG:GG (vI p sched cd)) (hT:(vI p sched cd).turns=[]):JR sched (vI p sched cd) (AI p cd):=by
 obtain ⟨na,Ll⟩:∃na,na=p.mb.toNat:=⟨_,rfl⟩
 obtain ⟨np,I1⟩:∃np,np=cd.params.toNat:=⟨_,rfl⟩
 obtain ⟨⟨o1,o2,o3,o4,o5⟩,oc,_⟩:=hv;have h0:=oc 0 ae;have E6:Rg.mz p.kT ((0:Nat):Int)=cd:=zu (d:=Rg.yr) mY;obtain ⟨⟨q1,q2,q3,q4,q5⟩,_⟩:=h0;simp only [eG,jc,E6] at q1 q2 q3 q4 q5;have qL:=Hw (mA p sched (p.mb.toNat+cd.params.toNat) p.mb.toNat (List.replicate (p.mb.toNat+1) m32)) cd (mT p.mb.toNat cd.params.toNat) m32 0 (-1) false;obtain ⟨tn,o,a1,a2,a3,b1,b2,b3,b4,b5,b6,b7,b8,b9,zZ⟩:=L0 (s:=mA p sched (p.mb.toNat+cd.params.toNat) p.mb.toNat (List.replicate (p.mb.toNat+1) m32)) (c:=cd) (vs:=mT p.mb.toNat cd.params.toNat) (a:=m32) (prio:=0) (par:=-1) (canc:=false) rfl (.inl ae);obtain ⟨S,hS⟩:∃S,S=vI p sched cd:=⟨_,rfl⟩
 have SM:S=oU (mA p sched (p.mb.toNat+cd.params.toNat) p.mb.toNat (List.replicate (p.mb.toNat+1) m32)) cd (mT p.mb.toNat cd.params.toNat) m32 0 (-1) false:=by rw [hS];rfl
 have hRJ:=akX hG hT;rw [← hS] at hG hT hRJ ⊢;rw [← SM] at qL a1 a2 a3;have a1:S.tasks=[tn]:=a1;have a3:S.calls=[lQ cd (mT p.mb.toNat cd.params.toNat) (-1)]:=a3;have mf:(mT p.mb.toNat cd.params.toNat).length=cd.params.toNat:=by simp [mT]
 have tE:((mT p.mb.toNat cd.params.toNat).length:Int)≤cd.vars:=by rw [mf];omega
 have hM:(rD p (p.mb.toNat+cd.params.toNat)).jY.length<MM:=by rw [vB];show 0<_;decide
 have Yn:Fo (I0 p cd):=Jr (PZ p ae) ae ae tE hM ae (by show 0<32;decide) (.inl rfl);have En:kZ S (AI p cd):=by
  rw [PC];refine ⟨by rw [qL.p];rfl,by rw [qL.jL];simp [rD,mA],by rw [qL.jL];simp [rD,mA],by rw [qL.lines];rfl,by rw [qL.jT];rfl,by rw [qL.turns];rfl,by rw [qL.used];rfl,by rw [a3];rfl,fun j c hc=>?_,by rw [a1];rfl,fun k t ht=>?_⟩
  ·rw [a3] at hc;cases j with
   | zero =>
     have hc:some _=some c:=hc;injection hc with hc;subst hc;exact ⟨_,rfl,by simp [qj,lQ]⟩
   | succ j=>simp at hc
  ·rw [a1] at ht;rw [a3];cases k with
   | zero =>
     have ht:some _=some t:=ht;injection ht with ht;subst ht;refine ⟨_,rfl,U8 (cd:=cd) (gv:=mT p.mb.toNat cd.params.toNat) (J:=0) (n:=0) (par:=-1) (canc:=false) rfl rfl b1 b2 b3 b4 b5 b6 b7 b8 b9 ?_⟩;unfold BA;rcases zZ with ⟨c1,c2,c3⟩|⟨c1,c2,c3,_⟩
     ·exact .inl ⟨c1,c2,iZ c3⟩
     ·exact .inr ⟨c1,c2,ja c3⟩
   | succ k=>simp at ht
 refine ⟨hRJ,fun n t ht=>?_,⟨En,?_,fun i t ht=>?_,?_⟩,by rw [qL.sched];rfl⟩
 ·rw [a1] at ht;cases n with
  | zero =>
    have ht:some _=some t:=ht;injection ht with ht;subst ht;exact ⟨fun e=>ae,fun q z hq=>by rw [b7] at hq;cases hq⟩
  | succ n=>simp at ht
 ·unfold AI;split
  ·exact (DL (Bj 40) Yn (k:=0) (by rw [JS];show 0<1;decide) false (by rw [JS];show 0+1001*40≤1000000000;decide)).fo
  ·exact Yn
 ·rw [PC] at ht;cases i with
  | zero =>
    have ht:some _=some t:=ht;injection ht with ht;subst ht;unfold BA;split
    ·exact ⟨by show 1≤8;decide,dL _⟩
    ·exact ⟨by show 1≤8;decide,dL _⟩
  | succ i =>
    have ht:([]:List km)[i]?=some t:=ht;simp at ht
 ·rw [PC];show 0≤_;omega
theorem Mo {p:Tk} {sched:List Int} (h:CJ p sched):JR sched (uc p sched) (Eo p sched):=by
 obtain ⟨cd,mY,hG,hT,_⟩:=P0 h;have Dy:p.kT.getD 0 ⟨0,0,[]⟩=cd:=getD_at mY;unfold uc Eo;rw [Dy];exact akW 2001 _ _ (WH h.1 mY hG hT)
end Go.Ab.Rf
set_option maxHeartbeats 4000000
namespace Go.Ab.Rf
open Go Go.Ab Go.Proofs Go.Ab.Ty Go.RowKit
theorem anO {p:Tk} {T:List jy} (hT:T.length=NN-9) (Dz:∀i,i<NN-9→T[i]?=some (blk (rD p 0) (nm (9+i)))) :
 [lE (rD p 0),jD [],qB [],⟨9,1,[]⟩,⟨73,4,[]⟩,jD [],jD [],IF [],jD []]++T=RH (rD p 0):=by
 have SN:9≤NN:=by unfold NN;omega
 refine WZ (by simp [hT];omega) fun a ha=>?_;have hl:=mq ha;by_cases h:ix a<9
 ·cases a<;>first|rfl|(simp only [ix] at h;omega)
 ·rw [dJ aj];have:=Dz (ix a-9) ae;rw [show 9+(ix a-9)=ix a by omega,HW] at this;exact this
theorem akY (p:Tk):∃T:List jy,(∀b∈T,b.es=[]) ∧
 [lE (rD p 0),jD [],qB [],⟨9,1,[]⟩,⟨73,4,[]⟩,jD [],jD [],IF [],jD []]++T=RH (rD p 0):=by
 have SN:9≤NN:=by unfold NN;omega
 have hg:∀i,i<NN-9→((RH (rD p 0)).drop 9)[i]?=some (blk (rD p 0) (nm (9+i))):=fun i hi=>by
  rw [fU];have:=nj (rD p 0) (nm (9+i)) (by rw [CI];omega);rw [CI] at this;exact this
 refine ⟨(RH (rD p 0)).drop 9,fun b hb=>?_,anO (by rw [gb,kv]) hg⟩;obtain ⟨i,hi⟩:=eC hb;have nq:i<NN-9:=by
  have:=(dt hi).1;rw [gb,kv] at this;exact this
 rw [hg i nq] at hi;injection hi with hi;subst hi;have h9:=CI (9+i);cases h:nm (9+i)<;>rw [h] at h9<;>first|(simp only [ix] at h9;omega)|rfl
theorem VL {p:Tk} {sched:List Int} (h:CJ p sched):jS Tryd.prog 25 [kU p,.jA (sched.map .int)] [] jI (RH (Eo p sched)):=by
 obtain ⟨cd,mY,hG,vu,_⟩:=P0 h;have Dy:p.kT.getD 0 ⟨0,0,[]⟩=cd:=getD_at mY;obtain ⟨RE,NZ⟩:∃RE,Hid (RE=Eo p sched):=⟨_,⟨rfl⟩⟩
 rw [← NZ.out];have SO:Hid (RE=Gf sched 2001 (AI p cd)):=⟨by rw [NZ.out];unfold Eo;rw [Dy]⟩
 have SP:=(Mo h).rk.fo;rw [← NZ.out] at SP;have hEw:=SP.wf;have N0:=Hid.mk (WH h.1 mY hG vu);have mV:=h.2;obtain ⟨⟨o1,o2,o3,o4,o5⟩,oc,_⟩:=h.1;have h0:=oc 0 ae;have E6:Rg.mz p.kT ((0:Nat):Int)=cd:=zu (d:=Rg.yr) mY;obtain ⟨⟨q1,q2,q3,q4,q5⟩,_⟩:=h0;simp only [eG,jc,E6] at q1 q2 q3 q4 q5;clear hG Dy NZ SP oc E6 h;obtain ⟨np,I1⟩:∃np:Nat,cd.params=np:=⟨_,(dP q1).symm⟩
 obtain ⟨co,me,ac⟩:=p;simp only at mY o1 o2 o3 o4 o5;obtain ⟨na,rfl⟩:∃na:Nat,ac=na:=⟨_,(dP o4).symm⟩
 have ur:∀ {c:AV},c∈(kU ⟨co,me,na⟩).cells→Pu c:=fun {c} hc=>Rg.O7 _ c hc;have hnr:Hid (AI ⟨co,me,na⟩ cd=if cd.steps.length=0 then sJ (lh 40) (qm (rD ⟨co,me,na⟩ (na+np)) cd 0 (-1) (mT na np)) 0 false else qm (rD ⟨co,me,na⟩ (na+np)) cd 0 (-1) (mT na np)):=⟨by unfold AI I0;rw [I1];rfl⟩
 refine jS.i2 [(0,kU ⟨co,me,na⟩),(1,.jA (sched.map .int))] 2 63 0 Tryd.func25 rfl ?_;refine jG.seq ?_;refine jG.join ⟨[(1,.jA (sched.map .int)),(2,.kN (kU ⟨co,me,na⟩) 0),(4,.base (.pointer none))],[]⟩ ?_ ?_
 ·refine yj ?_;refine jx ?_;refine Wk.Ee [] gK (fun b hb=>by simp at hb) trivial (wv.all ⟨.pu (l7 _),.kN rfl rfl rfl rfl ⟨.pu (nz _),.pu (nz _),.pu (.base _),trivial⟩,.pu (.base _),trivial⟩)
 refine jx ?_;refine x9 (cs:=[.jA (co.map kx),.jA (me.map kx),.int na,kD,kD,kD,kD,kD,kD,kD,kD,.int 0]) avN anP ?_;refine jx ?_;refine jG.weaken (Wk.rQ (E2:=[(1,.jA (sched.map .int)),(2,.kN (kU ⟨co,me,na⟩) 0),(4,.base (.pointer none)),(5,.ptr 0 1 0 0),(6,.int 0)]) (H2:=[⟨51,12,[.agg [.jA (co.map kx),.jA (me.map kx),.int na,kD,.own 1 0 0 0,kD,kD,kD,kD,kD,kD,.int 0]]⟩]) 3 1 ⟨.one ⟨.pu (nz _),.pu (nz _),.pu (.base _),.pu (.base _),.nil rfl,.pu (.base _),.pu (.base _),.pu (.base _),.pu (.base _),.pu (.base _),.pu (.base _),.pu (.base _),trivial⟩,trivial⟩ ⟨.pu (l7 _),.pu (.kN fun c hc=>ur hc),.pu (.base _),.ptr,.pu (.base _),trivial⟩) ?_;refine jG.weaken (Wk.rQ (E2:=[(1,.jA (sched.map .int)),(2,.kN (kU ⟨co,me,na⟩) 0),(4,.base (.pointer none)),(5,.ptr 0 1 0 0),(6,.int 0)]) (H2:=[⟨51,12,[.agg [.jA (co.map kx),.jA (me.map kx),.int na,.own 2 0 0 0,.own 1 0 0 0,kD,kD,kD,kD,kD,kD,.int 0]]⟩,⟨3,1,[]⟩]) 94 11 ⟨.one ⟨.pu (nz _),.pu (nz _),.pu (.base _),.nil rfl,.own,.pu (.base _),.pu (.base _),.pu (.base _),.pu (.base _),.pu (.base _),.pu (.base _),.pu (.base _),trivial⟩,.pu (fun e he=>aJ),trivial⟩ ⟨.pu (l7 _),.pu (.kN fun c hc=>ur hc),.pu (.base _),.ptr,.pu (.base _),trivial⟩) ?_;refine jG.weaken (Wk.rQ (E2:=[(1,.jA (sched.map .int)),(2,.kN (kU ⟨co,me,na⟩) 0),(4,.base (.pointer none)),(5,.ptr 0 1 0 0),(6,.int 0)]) (H2:=[⟨51,12,[.agg [.jA (co.map kx),.jA (me.map kx),.int na,.own 2 0 0 0,.own 1 0 0 0,kD,.own 3 0 0 0,kD,kD,kD,kD,.int 0]]⟩,⟨3,1,[]⟩,⟨94,11,[]⟩]) 9 1 ⟨.one ⟨.pu (nz _),.pu (nz _),.pu (.base _),.own,.own,.pu (.base _),.nil rfl,.pu (.base _),.pu (.base _),.pu (.base _),.pu (.base _),.pu (.base _),trivial⟩,.pu (fun e he=>aJ),.pu (fun e he=>aJ),trivial⟩ ⟨.pu (l7 _),.pu (.kN fun c hc=>ur hc),.pu (.base _),.ptr,.pu (.base _),trivial⟩) ?_;refine jG.weaken (Wk.rQ (E2:=[(1,.jA (sched.map .int)),(2,.kN (kU ⟨co,me,na⟩) 0),(4,.base (.pointer none)),(5,.ptr 0 1 0 0),(6,.int 0)]) (H2:=[⟨51,12,[.agg [.jA (co.map kx),.jA (me.map kx),.int na,.own 2 0 0 0,.own 1 0 0 0,kD,.own 3 0 0 0,.own 4 0 0 0,kD,kD,kD,.int 0]]⟩,⟨3,1,[]⟩,⟨94,11,[]⟩,⟨9,1,[]⟩]) 73 4 ⟨.one ⟨.pu (nz _),.pu (nz _),.pu (.base _),.own,.own,.pu (.base _),.own,.nil rfl,.pu (.base _),.pu (.base _),.pu (.base _),.pu (.base _),trivial⟩,.pu (fun e he=>aJ),.pu (fun e he=>aJ),.pu (fun e he=>aJ),trivial⟩ ⟨.pu (l7 _),.pu (.kN fun c hc=>ur hc),.pu (.base _),.ptr,.pu (.base _),trivial⟩) ?_;refine jG.weaken (Wk.rQ (E2:=[(1,.jA (sched.map .int)),(2,.kN (kU ⟨co,me,na⟩) 0),(4,.base (.pointer none)),(5,.ptr 0 1 0 0),(6,.int 0)]) (H2:=[⟨51,12,[.agg [.jA (co.map kx),.jA (me.map kx),.int na,.own 2 0 0 0,.own 1 0 0 0,kD,.own 3 0 0 0,.own 4 0 0 0,.own 5 0 0 0,kD,kD,.int 0]]⟩,⟨3,1,[]⟩,⟨94,11,[]⟩,⟨9,1,[]⟩,⟨73,4,[]⟩]) 3 1 ⟨.one ⟨.pu (nz _),.pu (nz _),.pu (.base _),.own,.own,.pu (.base _),.own,.own,.nil rfl,.pu (.base _),.pu (.base _),.pu (.base _),trivial⟩,.pu (fun e he=>aJ),.pu (fun e he=>aJ),.pu (fun e he=>aJ),.pu (fun e he=>aJ),trivial⟩ ⟨.pu (l7 _),.pu (.kN fun c hc=>ur hc),.pu (.base _),.ptr,.pu (.base _),trivial⟩) ?_;refine jG.weaken (Wk.rQ (E2:=[(1,.jA (sched.map .int)),(2,.kN (kU ⟨co,me,na⟩) 0),(4,.base (.pointer none)),(5,.ptr 0 1 0 0),(6,.int 0)]) (H2:=[⟨51,12,[.agg [.jA (co.map kx),.jA (me.map kx),.int na,.own 2 0 0 0,.own 1 0 0 0,.own 6 0 0 0,.own 3 0 0 0,.own 4 0 0 0,.own 5 0 0 0,kD,kD,.int 0]]⟩,⟨3,1,[]⟩,⟨94,11,[]⟩,⟨9,1,[]⟩,⟨73,4,[]⟩,⟨3,1,[]⟩]) 3 1 ⟨.one ⟨.pu (nz _),.pu (nz _),.pu (.base _),.own,.own,.nil rfl,.own,.own,.own,.pu (.base _),.pu (.base _),.pu (.base _),trivial⟩,.pu (fun e he=>aJ),.pu (fun e he=>aJ),.pu (fun e he=>aJ),.pu (fun e he=>aJ),.pu (fun e he=>aJ),trivial⟩ ⟨.pu (l7 _),.pu (.kN fun c hc=>ur hc),.pu (.base _),.ptr,.pu (.base _),trivial⟩) ?_;refine jG.weaken (Wk.rQ (E2:=[(1,.jA (sched.map .int)),(2,.kN (kU ⟨co,me,na⟩) 0),(4,.base (.pointer none)),(5,.ptr 0 1 0 0),(6,.int 0)]) (H2:=[⟨51,12,[.agg [.jA (co.map kx),.jA (me.map kx),.int na,.own 2 0 0 0,.own 1 0 0 0,.own 6 0 0 0,.own 3 0 0 0,.own 4 0 0 0,.own 5 0 0 0,kD,.own 7 0 0 0,.int 0]]⟩,⟨3,1,[]⟩,⟨94,11,[]⟩,⟨9,1,[]⟩,⟨73,4,[]⟩,⟨3,1,[]⟩,⟨3,1,[]⟩]) 63 2 ⟨.one ⟨.pu (nz _),.pu (nz _),.pu (.base _),.own,.own,.own,.own,.own,.own,.pu (.base _),.nil rfl,.pu (.base _),trivial⟩,.pu (fun e he=>aJ),.pu (fun e he=>aJ),.pu (fun e he=>aJ),.pu (fun e he=>aJ),.pu (fun e he=>aJ),.pu (fun e he=>aJ),trivial⟩ ⟨.pu (l7 _),.pu (.kN fun c hc=>ur hc),.pu (.base _),.ptr,.pu (.base _),trivial⟩) ?_;refine jG.weaken (Wk.rQ (E2:=[(1,.jA (sched.map .int)),(2,.kN (kU ⟨co,me,na⟩) 0),(4,.base (.pointer none)),(5,.ptr 0 1 0 0),(6,.int 0)]) (H2:=[⟨51,12,[.agg [.jA (co.map kx),.jA (me.map kx),.int na,.own 2 0 0 0,.own 1 0 0 0,.own 6 0 0 0,.own 3 0 0 0,.own 4 0 0 0,.own 5 0 0 0,.own 8 0 0 0,.own 7 0 0 0,.int 0]]⟩,⟨3,1,[]⟩,⟨94,11,[]⟩,⟨9,1,[]⟩,⟨73,4,[]⟩,⟨3,1,[]⟩,⟨3,1,[]⟩,⟨63,2,[]⟩]) 3 1 ⟨.one ⟨.pu (nz _),.pu (nz _),.pu (.base _),.own,.own,.own,.own,.own,.own,.nil rfl,.own,.pu (.base _),trivial⟩,.pu (fun e he=>aJ),.pu (fun e he=>aJ),.pu (fun e he=>aJ),.pu (fun e he=>aJ),.pu (fun e he=>aJ),.pu (fun e he=>aJ),.pu (fun e he=>aJ),trivial⟩ ⟨.pu (l7 _),.pu (.kN fun c hc=>ur hc),.pu (.base _),.ptr,.pu (.base _),trivial⟩) ?_;obtain ⟨T,Lm,Dz⟩:=akY ⟨co,me,na⟩;refine jG.weaken (Wk.pad (fun q hq=>by
  simp only [dC,dB,jd] at hq;rcases hq with rfl|rfl|rfl|rfl|rfl<;>exact .refl _) T Lm) ?_
 refine jG.weaken (s2:=⟨[(1,.jA (sched.map .int)),(2,.kN (kU ⟨co,me,na⟩) 0),(5,jI),(6,.int 0)],RH (rD ⟨co,me,na⟩ 0)⟩) (by rw [← Dz];exact .wf) ?_;clear Lm Dz;obtain ⟨S,hS⟩:∃S:Nat→jz,S=fun k=>rD ⟨co,me,na⟩ k:=⟨_,rfl⟩
 have BV:∀k,k≤1000000→WF (S k):=fun k hk=>by rw [hS];exact (PZ _ hk).wf
 have Ln:∀k,(S k).ll 0=S (k+1):=fun k=>by rw [hS];exact akU _ k
 have N1:∀k,(S k).kr.length=k:=fun k=>by rw [hS];simp [rD]
 have GH:RH (rD ⟨co,me,na⟩ 0)=RH (S 0):=by rw [hS]
 rw [GH];have I2:=Hid.mk hS;have Il:=Hid.mk BV;have Yo:=Hid.mk Ln;have Q7:=Hid.mk N1;clear hS GH BV Ln N1;refine jG.loop (J:=fun i:Nat=>i≤na) (fun i=>⟨[(1,.jA (sched.map .int)),(2,.kN (kU ⟨co,me,na⟩) 0),(5,jI),(6,.int i)],RH (S i)⟩) (fun i=>na-i) 0 (dL _) .wf ?_;rintro i hi;by_cases kn:i<na
 ·have hd:decide ((i:Int)<(na:Int))=true:=jf ae;have hw:=Il.out i ae;have lj:=Il.out (i+1) ae;have is:=Ck hw 0 (by rw [Q7.out];omega);rw [Yo.out] at is;refine jx ?_;refine j8 ?_ rfl aa;refine jx ?_;refine vP is hw lj ?_;refine jx ?_;rw [l6 ae];exact ⟨i+1,ae,ae,.wf⟩
 have wz:na=i:=ae;subst wz;have hd:decide ((na:Int)<(na:Int))=false:=je ae;have Yp:=Il.out na ae;have zL:(co.map kx)[0]?=some (kx cd):=by rw [dE,mY];rfl
 refine jx ?_;refine jK ?_ rfl aa;refine jx ?_;refine jG.weaken (Wk.rQ (E2:=[(1,.jA (sched.map .int)),(2,.kN (kU ⟨co,me,na⟩) 0),(5,jI),(7,.own NN 0 0 0),(8,.int 0)]) (H2:=RH (S na)) 3 1 (sO.rf (S:=(·<NN)) (rO Yp)) ⟨.pu (l7 _),.pu (.kN fun c hc=>ur hc),.ptr,.nil (kv _),.pu (.base _),trivial⟩) ?_;clear Yp;refine jG.loop (J:=fun k:Nat=>k≤np) (fun k=>⟨[(1,.jA (sched.map .int)),(2,.kN (kU ⟨co,me,na⟩) 0),(5,jI),(7,.own NN k 0 k),(8,.int k)],RH (S (na+k))++[jD (mT na k)]⟩) (fun k=>np-k) 0 (dL _) .wf ?_;rintro k hk;have mf:(mT na k).length=k:=by simp [mT]
 refine jx ?_;refine jB.q2 (wC aa aa eO ae (e:=kx cd) (by exact zL) ag) ?_;refine jx ?_;by_cases Kg:k<np
 ·have mo:decide ((k:Int)<(np:Int))=true:=jf ae;have sD:=Il.out (na+k) ae;have IM:=Il.out (na+k+1) ae;have is:=Ck sD 0 (by rw [Q7.out];omega);rw [Yo.out,Q7.out] at is;have kV:jD (mT na k++[((na+k:Nat):Int)])=jD (mT na (k+1)):=by simp [mT,gE]
  have wh:=Hid.mk kV;clear hd kV;refine j8 ?_ rfl aa;refine jx ?_;refine cF is sD IM ?_;refine jx ?_;refine jB.p2 (Ao (b:=NN) (l:=mT na k) (v:=((na+k:Nat):Int)) (by rw [mf];simp +decide only [go_sem, *]<;>rfl) aa (by rw [← fq NN,vx (kv _)];rfl) ae) ?_;rw [show (RH (S (na+k+1))++[jD (mT na k)]).set NN (jD (mT na k++[((na+k:Nat):Int)]))=RH (S (na+(k+1)))++[jD (mT na (k+1))] by rw [← wh.out,← fq NN,wE (kv _)];rfl,mf];refine jx ?_;rw [l6 ae];exact ⟨k+1,ae,ae,.wf⟩
 have Ha:np=k:=ae;subst Ha;have mo:decide ((np:Int)<(np:Int))=false:=je ae;refine jK ?_ rfl aa;have y8:=Il.out (na+np) ae;refine jG.weaken (Wk.MA (n:=⟨63,0⟩) (E2:=[(1,.jA (sched.map .int)),(2,.kN (kU ⟨co,me,na⟩) 0),(5,jI),(7,.jA ((mT na np).map .int))]) NN (dL _) (List.take_left' (kv _)) ⟨.pu (l7 _),.pu (.kN fun c hc=>ur hc),.ptr mc,pX.vE (ty:=3) (sz:=1) (f:=AV.int) (dD _) (by rw [← fq NN,vx (kv _)];rfl) mf (fun x _ c hc=>aH),trivial⟩ (fun blk hb e he c hc=>(rO y8 blk hb e he c hc).tB fun b hb=>rF hb)) ?_;obtain ⟨gv,IC⟩:∃gv,Hid (gv=mT na np):=⟨_,⟨rfl⟩⟩
 rw [← IC.out] at mf ⊢;obtain ⟨s0,pB⟩:∃s0,Hid (s0=S (na+np)):=⟨_,⟨rfl⟩⟩
 rw [← pB.out] at y8 ⊢;have e0:s0=rD ⟨co,me,na⟩ (na+np):=by rw [pB.out,I2.out]
 have Q8:Fo s0:=by rw [e0];exact PZ _ ae
 have hM:s0.jY.length<MM:=by rw [e0,vB];show 0<_;decide
 have uL:s0.tasks=[]:=by rw [e0];rfl
 have wY:s0.p=⟨co,me,na⟩:=by rw [e0];rfl
 have l5:s0.p.kT[0]?=some cd:=by rw [wY];exact mY
 have tE:(gv.length:Int)≤cd.vars:=by rw [mf];omega
 have rX:s0.tasks.length<32:=by rw [uL];decide
 have ID:jS Tryd.prog 47 [jI,.int 0,.int 0,.int (-1),.jA (gv.map .int)] (RH s0) (.int s0.tasks.length) (RH (qm s0 cd 0 (-1) gv)):=Jv Q8 (ci:=0) (prio:=0) (par:=-1) l5 ae ae tE hM ae rX (.inl rfl);have oK:=Jr Q8 (c:=cd) (prio:=0) (par:=-1) (gv:=gv) ae ae tE hM ae rX (.inl rfl);have Gg:Hid (AI ⟨co,me,na⟩ cd=if cd.steps.length=0 then sJ (lh 40) (qm s0 cd 0 (-1) gv) 0 false else qm s0 cd 0 (-1) gv):=⟨by rw [hnr.out,e0,IC.out]⟩
 have Bu:(qm s0 cd 0 (-1) gv).tasks[0]?=some (Rf.mN cd s0.jY.length 0 (-1) false):=by
  unfold qm;rw [iZ ae];show (s0.tasks++[_])[0]?=_;rw [uL];rfl
 have Ij:(qm s0 cd 0 (-1) gv).after=[]:=by
  unfold qm;rw [iZ ae,e0];rfl
 obtain ⟨s1,j6⟩:∃s1,Hid (s1=qm s0 cd 0 (-1) gv):=⟨_,⟨rfl⟩⟩
 rw [← j6.out] at ID oK Gg Bu Ij;have uW:=DR (Bj 40) (O4 40) oK Bu az false (by rw [Ij];show 0+1001*40≤1000000000;decide);have kq:=oK.wf;obtain ⟨rN,hrN⟩:∃rN,Hid (rN=AI ⟨co,me,na⟩ cd):=⟨_,⟨rfl⟩⟩
 have Lo:Hid (JR sched (vI ⟨co,me,na⟩ sched cd) rN):=⟨by rw [hrN.out];exact N0.out⟩
 rw [← hrN.out] at Gg SO;have hwN:=Lo.out.rk.fo.wf;have hhd:=Hid.mk mo;clear e0 Q8 hM wY l5 rX hnr N0 Bu Ij oK hd mo Kg kn hk hi;refine jx ?_;refine vP ID y8 kq ?_ (hR:=⟨.ptr mc,.pu (.base _),.pu (.base _),.pu (.base _),.pu (l7 _),trivial⟩);refine jx ?_;refine jB.q2 (wC aa aa eO ae (e:=kx cd) (by exact zL) ag) ?_;refine jx ?_;refine jG.join ⟨[(1,.jA (sched.map .int)),(5,jI)],RH rN⟩ ?_ ?_
 ·by_cases hz:cd.steps.length=0
  ·have um:decide ((cd.steps.length:Int)=0)=true:=jf ae;rw [ja hz] at Gg;rw [← Gg.out] at uW;clear hz;refine j8 ?_ aa rfl;refine jx ?_;refine vP uW kq hwN ?_;refine jx ?_;exact .wf
  ·have um:decide ((cd.steps.length:Int)=0)=false:=je ae;rw [iZ hz] at Gg;clear hz uW;refine jK ?_ aa rfl;refine jx ?_;rw [Gg.out];exact .wf
 clear ID uW Gg j6 kq pB y8 IC tE mf uL zL;refine jx ?_;refine jG.loop (J:=fun r:jz=>∃s,JR sched s r∧s.turns.length≤2000∧RE=Gf sched (2001-s.turns.length) r) (fun r=>⟨[(1,.jA (sched.map .int)),(5,jI)],RH r⟩) (fun r=>2000-r.turns.length) rN ⟨_,Lo.out,by rw [vu];exact dL _,by rw [vu];exact SO.out⟩ .wf ?_;rintro r ⟨s,hJ,jP,xS⟩;have hlen:r.turns.length=s.turns.length:=by rw [hJ.rk.qM.tn]
 have oh:=hJ.rk.fo.wf;have BT:=Hid.mk hJ;have Q9:=Hid.mk xS;have FQ:=Hid.mk hlen;clear hJ xS hlen Lo SO;refine jx ?_;by_cases h2:r.turns.length<2000
 ·have um:decide ((r.turns.length:Int)<2000)=true:=jf ae;refine j8 ?_ aa rfl;have jW:s.turns.length<2000:=by have:=FQ.out;omega
  have Hb:Hid (RE=if yp r sched<0 then vW r sched else Gf sched (2000-s.turns.length) (vC (lh 40) (vW r sched) (yp r sched).toNat)):=⟨by
   have e:2001-s.turns.length=(2000-s.turns.length)+1:=ae;rw [Q9.out,e];show (if r.turns.length<2000 then _ else _)=_;rw [ja h2]⟩
  clear um;by_cases hr:rv s=[]
  ·obtain ⟨a1,a2,a3,a4⟩:=BT.out.stuck hr;rw [ja ae,a3] at Hb;refine jx ?_;refine vP a2 oh oh ?_;refine jx ?_;refine j8 ?_ rfl rfl;refine jx ?_;rw [Hb.out];exact kY.same (vs:=[jI]) ag rfl rfl
  ·obtain ⟨n,a1,a2,a3,a4,a5,a6,a7⟩:=BT.out.Eg jW hr;rw [iZ ae,a1,dF] at Hb;have qD:=a4.fo.wf;have yq:=a6.rk.fo.wf;have A5:decide ((n:Int)<0)=false:=je ae;have hl6:(vC (lh 40) (vW r sched) n).turns.length=s.turns.length+1:=by rw [a6.rk.qM.tn];exact a7
   have a6':=Hid.mk a6;have a7':=Hid.mk a7;have avO:=Hid.mk hl6;clear a1 a2 a4 a6 a7 hl6 hr;refine jx ?_;refine vP a3 oh qD ?_;refine jx ?_;refine jK ?_ aa rfl;refine jx ?_;refine vP a5 qD yq ?_;refine jx ?_;refine ⟨_,⟨_,a6'.out,by have:=a7'.out;omega,by have:=a7'.out;rw [Hb.out];congr 1;omega⟩,by have:=avO.out;have:=FQ.out;omega,.wf⟩
 have um:decide ((r.turns.length:Int)<2000)=false:=je ae;refine jK ?_ aa rfl;have Hb:RE=r:=by
  have h3:=FQ.out;have e:2001-s.turns.length=0+1:=ae;rw [Q9.out,e];show (if r.turns.length<2000 then _ else _)=_;rw [iZ h2]
 rw [Hb];clear Hb Q9 FQ um h2 BT;refine jx ?_;exact kY.same (vs:=[jI]) ag rfl rfl
end Go.Ab.Rf
set_option maxHeartbeats 4000000
namespace Go.Ab.Rg
open Go Go.Ab Go.Proofs Go.Ab.Ty
abbrev u1 (op:Int):Prop:=(op=1∨op=5)∨(op=2∨op=3)∨op=4
abbrev u2 (op:Int):Prop:=op=2∨op=3
abbrev u3 (op:Int):Prop:=(op=1∨op=5)∨(op=6∨op=9)∨(op=7∨op=10)∨op=8
abbrev u4 (op:Int):Prop:=op=6∨op=9
abbrev u5 (op:Int):Prop:=(op=6∨op=9)∨op=8
theorem FK (a b c d e:Bool):Pu (.ky [.bool a,.bool b,.bool c,.bool d,.bool e]):=.ky fun x hx=>by
 simp only [dC,dB,jd] at hx;rcases hx with rfl|rfl|rfl|rfl|rfl<;>exact .base _
theorem akZ (op:Int):Fn Tryd.prog 117 [.int op] (.ky [.bool (decide (u1 op)),.bool (decide (u2 op)),.bool (decide (u3 op)),.bool (decide (u4 op)),.bool (decide (u5 op))]):=by
 refine Fn.nZ [(0,.int op)] 1 24 Tryd.func117 ag rfl rfl rfl rfl rfl ?_;let S:=fun (t:Nat) (b:Bool)=>(⟨[(t,.bool b),(7,.int op)],[]⟩:ku)
 refine jN ?_;refine jG.join (S 8 (decide (op=1∨op=5))) ?_ ?_
 ·refine kL (fun ho=>?_) (fun ho=>?_)
  ·refine jN ?_;exact .sr aK
  ·refine jN ?_;exact .sr aK
 simp only [S];refine kL (fun h1=>?_) (fun h1=>?_)
 ·simp at h1;refine jN ?_;exact kO.data rfl (by rcases h1 with h|h<;>simp [rG,lk,h]) (FK _ _ _ _ _)
 simp at h1;refine jN ?_;refine jG.join (S 11 (decide (op=2∨op=3))) ?_ ?_
 ·refine kL (fun ho=>?_) (fun ho=>?_)
  ·refine jN ?_;exact .sr aK
  ·refine jN ?_;exact .sr aK
 simp only [S];refine kL (fun h2=>?_) (fun h2=>?_)
 ·simp at h2;refine jN ?_;exact kO.data rfl (by rcases h2 with h|h<;>simp [rG,lk,h]) (FK _ _ _ _ _)
 simp at h2;refine jN ?_;refine kL (fun h4=>?_) (fun h4=>?_)
 ·simp at h4;refine jN ?_;exact kO.data rfl (by simp [rG,lk,h4]) (FK _ _ _ _ _)
 simp at h4;refine jN ?_;refine jG.join (S 16 (decide (op=6∨op=9))) ?_ ?_
 ·refine kL (fun ho=>?_) (fun ho=>?_)
  ·refine jN ?_;exact .sr aK
  ·refine jN ?_;exact .sr aK
 simp only [S];refine kL (fun h6=>?_) (fun h6=>?_)
 ·simp at h6;refine jN ?_;exact kO.data rfl (by rcases h6 with h|h<;>simp [rG,lk,h]) (FK _ _ _ _ _)
 simp at h6;refine jN ?_;refine jG.join (S 19 (decide (op=7∨op=10))) ?_ ?_
 ·refine kL (fun ho=>?_) (fun ho=>?_)
  ·refine jN ?_;exact .sr aK
  ·refine jN ?_;exact .sr aK
 simp only [S];refine kL (fun h7=>?_) (fun h7=>?_)
 ·simp at h7;refine jN ?_;exact kO.data rfl (by rcases h7 with h|h<;>simp [rG,lk,h]) (FK _ _ _ _ _)
 simp at h7;refine jN ?_;refine kL (fun h8=>?_) (fun h8=>?_)
 ·simp at h8;refine jN ?_;exact kO.data rfl (by simp [rG,lk,h8]) (FK _ _ _ _ _)
 simp at h8;refine jN ?_;exact kO.data rfl (by simp [rG,lk,h1,h2,h4,h6,h7,h8]) (FK _ _ _ _ _)
theorem aiK (vs:List Int) (n:Int):Fn Tryd.prog 118 [.jA (vs.map .int),.int n] (.bool (decide (qR n vs))):=by
 refine Fn.nZ [(0,.jA (vs.map .int)),(1,.int n)] 2 40 Tryd.func118 ag rfl rfl rfl rfl rfl ?_;refine jG.CD 0 rfl fun hlen=>?_;rw [eo] at hlen;refine jN ?_;refine jG.loop (J:=fun k:Nat=>k≤vs.length∧∀i (h:i<k) (h':i<vs.length),0≤vs[i]∧vs[i]<n∧vs[i]∉vs.take i)
  (I:=fun k=>⟨[(5,.int k),(0,.jA (vs.map .int)),(1,.int n)],[]⟩) (μ:=fun k=>vs.length-k) 0 ⟨dL _,ae⟩ .wk ?_
 rintro k ⟨hk,mU⟩;refine jN ?_;refine kL (fun hd=>?_) (fun hd=>?_)
 ·simp at hd;refine jN ?_;refine jB.q2 (HM rfl rfl dG ae ae ag) ?_;refine jN ?_;refine uf (h:=fun hg=>uN (l:=vs) (f:=.int) 0 aE aE dG ae ae ag) (hr:=?_);refine jN ?_;rw [uP hd];refine kL (fun he=>?_) (fun he=>?_)
  ·simp at he;refine jN ?_;have:=OK (cv:=n) hd ae;exact kO.bool rfl (by simp [this])
  simp at he;refine jN ?_;refine jG.loop (J:=fun j:Nat=>j≤k∧∀i (h:i<j) (h':i<vs.length),vs[i]≠vs[k])
   (I:=fun j=>⟨[(6,.int j),(5,.int k),(0,.jA (vs.map .int)),(1,.int n)],[]⟩) (μ:=fun j=>k-j) 0 ⟨dL _,ae⟩ .wk ?_
  rintro j ⟨hj,lO⟩;refine jN ?_;refine kL (fun hf=>?_) (fun hf=>?_)
  ·simp at hf;refine jN ?_;refine mi (k:=9) follows (hr:=?_);refine jN ?_;refine jB.q2 (HM rfl rfl dG ae ae ag) ?_;refine jN ?_;refine jB.q2 (HM rfl rfl dG ae ae ag) ?_;refine jN ?_;refine kL (fun hg=>?_) (fun hg=>?_)
   ·simp at hg;refine jN ?_;have:=OK (cv:=n) hd (.inr (.inr (eF.2 ⟨j,dj,by rw [gJ];exact hg⟩)));exact kO.bool rfl (by simp [this])
   ·simp at hg;refine jN ?_;rw [l6 ae];refine ⟨j+1,⟨ae,fun i h h'=>?_⟩,ae,.wk⟩;by_cases e:i=j
    ·subst e;exact hg
    ·exact lO i ae h'
  ·simp at hf;refine jN ?_;rw [l6 ae];refine ⟨k+1,⟨ae,fun i h h'=>?_⟩,ae,.wk⟩;by_cases e:i=k
   ·subst e;refine ⟨ae,ae,fun hm=>?_⟩;obtain ⟨j',mC,vL⟩:=eF.1 hm;rw [eQ] at mC;rw [gJ] at vL;exact lO j' ae ae vL
   ·exact mU i ae h'
 ·simp at hd;refine jN ?_;have:=T3 (cv:=n) (vs:=vs) fun i hi=>mU i ae hi;exact kO.bool rfl (by simp [this])
def yu (s:kG) (n:Int):Prop:=(1≤s.op∧s.op≤12)∧((¬u1 s.op→s.v=0)∧(¬u2 s.op→s.w=0)∧(¬u3 s.op→s.n=0)∧(¬u4 s.op→s.task=0)∧(¬u5 s.op→s.vars=[])) ∧
 ((u1 s.op→0≤s.v∧s.v<n)∧(u2 s.op→0≤s.w∧s.w<n∧s.v≠s.w))∧s.vars.length≤4∧qR n s.vars
theorem agE (s:kG) (n:Int) (b:Bool) (hb:b=true↔yu s n):Fn Tryd.prog 98 [ki s,.int n] (.bool b):=by
 refine Fn.nZ [(0,ki s),(1,.int n)] 2 114 Tryd.func98 ag rfl rfl rfl rfl rfl ?_;refine jN ?_;refine kL (fun hc=>?_) (fun hc=>?_)
 ·simp at hc;refine jN ?_;refine kO.bool rfl ?_;rw [hb];simp only [eG,ji];rintro ⟨h,-⟩;omega
 simp at hc;refine jN ?_;refine oQ (akZ s.op) ?_;generalize ha1:decide (u1 s.op)=a1;generalize IL:decide (u2 s.op)=a2;generalize ha3:decide (u3 s.op)=a3;generalize ha4:decide (u4 s.op)=a4;generalize ha5:decide (u5 s.op)=a5;refine jN ?_;have e1:u1 s.op↔a1=true:=by rw [← ha1];simp only [jn]
 have e2:u2 s.op↔a2=true:=by rw [← IL];simp only [jn]
 have e3:u3 s.op↔a3=true:=by rw [← ha3];simp only [jn]
 have e4:u4 s.op↔a4=true:=by rw [← ha4];simp only [jn]
 have e5:u5 s.op↔a5=true:=by rw [← ha5];simp only [jn]
 unfold yu at hb;simp only [e1,e2,e3,e4,e5,Bool.not_eq_true] at hb;clear ha1 IL ha3 ha4 ha5 e1 e2 e3 e4 e5;refine kL (fun hd=>?_) (fun hd=>?_)
 ·simp at hd;refine jN ?_;refine kO.bool rfl ?_;rw [hb];simp only [eG,ji];rintro ⟨-,⟨f1,f2,f3,f4,f5⟩,-⟩;rcases hd with (((⟨h,h'⟩|⟨h,h'⟩)|⟨h,h'⟩)|⟨h,h'⟩)|⟨h,h'⟩
  ·exact h' (f1 h)
  ·exact h' (f2 h)
  ·exact h' (f3 h)
  ·exact h' (f4 h)
  ·rw [f5 h] at h';simp at h'
 have kb:(a1=false→s.v=0)∧(a2=false→s.w=0)∧(a3=false→s.n=0)∧(a4=false→s.task=0)∧(a5=false→s.vars=[]):=by
  simp at hd;obtain ⟨⟨⟨⟨f1,f2⟩,f3⟩,f4⟩,f5⟩:=hd;exact ⟨f1,f2,f3,f4,f5⟩
 clear hd;refine jN ?_;refine kL (fun hd=>?_) (fun hd=>?_)
 ·simp at hd;refine jN ?_;refine kO.bool rfl ?_;rw [hb];simp only [eG,ji];rintro ⟨-,-,⟨f1,f2⟩,-⟩;rcases hd with ⟨h,h'⟩|⟨h,h'⟩
  ·have:=f1 h;omega
  ·have:=f2 h;omega
 have mo:(a1=true→0≤s.v∧s.v<n)∧(a2=true→0≤s.w∧s.w<n∧s.v≠s.w):=by
  simp at hd;exact ⟨fun h=>by have:=hd.1 h;omega,fun h=>by have:=hd.2 h;omega⟩
 clear hd;refine jN ?_;refine xe (i:=fun hg=>aiK s.vars n) (hr:=?_);refine jN ?_;refine kO.bool rfl ?_;rw [hb];constructor
 ·intro h;simp at h;exact ⟨hc,kb,mo,ae,h.2⟩
 ·rintro ⟨-,-,-,h,h'⟩;simp [h'];omega
def tK (p:Tk) (c:Cd) (i own:Int) (method:Bool) (s:kG):Prop:=yu s c.vars ∧
 ((s.op=1∨s.op=5)→-1000≤s.n∧s.n≤1000) ∧
 (s.op=6→(0≤s.n∧s.n≤3∧1≤s.task∧s.task<p.kT.length)∧(method=false→own<s.task)∧s.vars.length=(mz p.kT s.task).params) ∧
 ((s.op=7∨s.op=10)→method=false∧(0≤s.n∧s.n<i)∧(pF c.steps s.n).op=6∧(s.op=7→∀k:Nat,(k:Int)<i→¬((pF c.steps k).op=7∧(pF c.steps k).n=s.n))) ∧
 (s.op=8→method=false∧0≤s.n∧s.n<p.mb∧(1:Int)≤s.vars.length) ∧
 (s.op=9→(0≤s.n∧s.n<p.mb∧0≤s.task∧s.task<p.methods.length)∧(method=true→s.task<own)∧s.vars.length=(mz p.methods s.task).params)
open Classical in
theorem alA (p:Tk) (c:Cd) (i own:Int) (method:Bool) (h0:0≤i) (h1:i<c.steps.length) (b:Bool) (hb:b=true↔tK p c i own method (pF c.steps i)) :
 Fn Tryd.prog 73 [kU p,kx c,.int i,.int own,.bool method] (.bool b):=by
 refine Fn.nZ [(0,kU p),(1,kx c),(2,.int i),(3,.int own),(4,.bool method)] 5 200 Tryd.func73 ag rfl rfl rfl rfl rfl ?_;refine jG.Wi 1 rfl (fun _ _ _ _ _ h=>VR.bdC h) fun AQ=>?_;have lR:=AQ.1;refine jN ?_;refine jB.q2 (uN (l:=c.steps) (f:=ki) wO rfl rfl fg h0 h1 ag) ?_;generalize hs:nth wO c.steps i=s;rw [pF,hs] at hb;refine jN ?_;let S:=fun (t:Nat) (b:Bool)=>(⟨[(t,.bool b),(2,.int i),(3,.int own),(4,.bool method),(5,.ptr 0 1 0 0),(6,.ptr 1 1 0 0),(11,.ptr 2 1 0 0),(24,.int s.op)],[⟨24,3,[kU p]⟩,⟨68,3,[kx c]⟩,⟨70,6,[ki s]⟩]⟩:ku)
 refine oQ (agE s c.vars (decide (yu s c.vars)) ah) ?_;refine jN ?_;refine kL (fun hf=>?_) (fun hf=>?_)
 ·simp at hf;refine jN ?_;exact kO.bool rfl (by rw [hb];simp [tK,hf])
 simp at hf;refine jN ?_;refine jG.join (S 25 (decide (s.op=1∨s.op=5))) ?_ ?_
 ·refine kL (fun ho=>?_) (fun ho=>?_)
  ·refine jN ?_;exact .sr aK
  ·refine jN ?_;exact .sr aK
 simp only [S];refine kL (fun hx=>?_) (fun hx=>?_)
 ·simp at hx;refine jN ?_;exact kO.bool rfl (by rw [hb];rcases hx with h|h<;>simp [tK,hf,h])
 simp at hx;refine jN ?_;refine kL (fun h6=>?_) (fun h6=>?_)
 ·simp at h6;refine jN ?_;refine kL (fun hc=>?_) (fun hc=>?_)
  ·refine jN ?_;refine kO.bool rfl ?_;rw [hb];simp [tK,hf,h6];simp at hc;intro e1 e2 e3 e4 e5;rcases hc with ((((h|h)|h)|h)|⟨h,h'⟩)<;>first|omega|(have:=e5 h;omega)
  simp at hc;refine jN ?_;refine mi (k:=11) follows (hr:=?_);refine jN ?_;refine jB.q2 (uN (l:=p.kT) (f:=kx) yr rfl rfl eO ae ae ag) ?_;refine jN ?_;refine kO.bool rfl ?_;rw [hb];simp [tK,hf,h6];exact ⟨fun h=>⟨ae,hc.2,h⟩,fun h=>h.2.2⟩
 simp at h6;refine jN ?_;refine jG.join (S 80 (decide (s.op=7∨s.op=10))) ?_ ?_
 ·refine kL (fun ho=>?_) (fun ho=>?_)
  ·refine jN ?_;exact .sr aK
  ·refine jN ?_;exact .sr aK
 simp only [S];refine kL (fun h7=>?_) (fun h7=>?_)
 ·simp at h7;refine jN ?_;refine uf (h:=fun hg=>uN (l:=c.steps) (f:=ki) wO aE aE fg (by simp [gc,oR] at hg;omega) (by simp [gc,oR] at hg;omega) ag) (hr:=?_);refine jN ?_;refine kL (fun hc=>?_) (fun hc=>?_)
  ·refine jN ?_;refine kO.bool rfl ?_;rw [hb];simp at hc;simp only [eG,ji];rintro ⟨-,-,-,g,-⟩;obtain ⟨g1,g2,g3,-⟩:=g h7;rcases hc with ((h|h)|h)|h
   ·rw [g1] at h;cases h
   ·omega
   ·omega
   ·exact h g3
  simp at hc;refine jN ?_;refine jG.loop (J:=fun k:Nat=>(k:Int)≤i∧∀j:Nat,j<k→¬(s.op=7∧(pF c.steps j).op=7∧(pF c.steps j).n=s.n))
   (I:=fun k=>⟨[(12,.int k),(2,.int i),(6,.ptr 1 1 0 0),(11,.ptr 2 1 0 0)],[⟨24,3,[kU p]⟩,⟨68,3,[kx c]⟩,⟨70,6,[ki s]⟩]⟩) (μ:=fun k=>i.toNat-k) 0 ⟨ae,ae⟩ .wk ?_
  rintro k ⟨hk,mU⟩;refine jN ?_;refine kL (fun hd=>?_) (fun hd=>?_)
  ·simp at hd;refine jN ?_;refine mi (k:=23) follows (hr:=?_);refine jN ?_;refine uf (h:=fun hg=>uN (l:=c.steps) (f:=ki) wO aE aE fg ae ae ag) (hr:=?_);refine jN ?_;refine uf (h:=fun hg=>uN (l:=c.steps) (f:=ki) wO aE aE fg ae ae ag) (hr:=?_);refine jN ?_;refine kL (fun he=>?_) (fun he=>?_)
   ·simp at he;refine jN ?_;refine kO.bool rfl ?_;rw [hb];simp only [eG,ji];rintro ⟨-,-,-,g,-⟩;exact (g h7).2.2.2 he.1.1 k ae ⟨he.1.2,he.2⟩
   ·simp at he;refine jN ?_;rw [l6 ae];refine ⟨k+1,⟨ae,fun j h=>?_⟩,ae,.wk⟩;by_cases e:j=k
    ·subst e;rintro ⟨g1,g2,g3⟩;exact he g1 g2 g3
    ·exact mU j ae
  ·simp at hd;refine jN ?_;refine kO.bool rfl ?_;rw [hb];simp only [true_iff];refine ⟨hf,fun h=>ae,fun h=>ae,fun _=>⟨hc.1.1.1,⟨hc.1.1.2,hc.1.2⟩,hc.2,fun e j hj g=>mU j ae ⟨e,g.1,g.2⟩⟩,fun h=>ae,fun h=>ae⟩
 simp at h7;refine jN ?_;refine kL (fun h8=>?_) (fun h8=>?_)
 ·simp at h8;refine jN ?_;refine kO.bool rfl ?_;rw [hb];simp [tK,hf,h8,and_assoc]
 simp at h8;refine jN ?_;refine kL (fun h9=>?_) (fun h9=>?_)
 ·simp at h9;refine jN ?_;refine kL (fun hc=>?_) (fun hc=>?_)
  ·refine jN ?_;refine kO.bool rfl ?_;rw [hb];simp [tK,hf,h9];simp at hc;intro e1 e2 e3 e4 e5;rcases hc with ((((h|h)|h)|h)|⟨h,h'⟩)<;>first|omega|(have:=e5 h;omega)
  simp at hc;refine jN ?_;refine mi (k:=11) follows (hr:=?_);refine jN ?_;refine jB.q2 (uN (l:=p.methods) (f:=kx) yr rfl rfl eO ae ae ag) ?_;refine jN ?_;refine kO.bool rfl ?_;rw [hb];simp [tK,hf,h9];exact ⟨fun h=>⟨ae,hc.2,h⟩,fun h=>h.2.2⟩
 simp at h9;refine jN ?_;exact kO.bool rfl (by rw [hb];simp [tK,hf,hx,h6,h7,h8,h9])
def FL (p:Tk) (c:Cd) (own:Int) (method:Bool):Prop:=(0≤c.params∧c.params≤4∧(if method then c.params+1 else c.params)≤c.vars∧c.vars≤8∧c.steps.length≤20) ∧
 ∀i:Nat,i<c.steps.length→tK p c i own method (pF c.steps i)
open Classical in
theorem Vf (p:Tk) (c:Cd) (own:Int) (method:Bool) (b:Bool) (hb:b=true↔FL p c own method):Fn Tryd.prog 55 [kU p,kx c,.int own,.bool method] (.bool b):=by
 refine Fn.nZ [(0,kU p),(1,kx c),(2,.int own),(3,.bool method)] 4 55 Tryd.func55 ag rfl rfl rfl rfl rfl ?_;refine jN ?_;refine jG.join ⟨[(9,.int (if method then IntKind.i64.wrap (c.params+1) else c.params)),(2,.int own),(3,.bool method),(4,.ptr 0 1 0 0),(5,.ptr 1 1 0 0)],[⟨24,3,[kU p]⟩,⟨68,3,[kx c]⟩]⟩ ?_ ?_
 ·refine kL (fun hm=>?_) (fun hm=>?_)
  ·refine jN ?_;exact .sr (by simp +decide only [go_sem,hm,jb]<;>simp [Le.refl])
  ·refine jN ?_;exact .sr (by simp +decide only [go_sem,hm]<;>simp [Le.refl])
 refine jN ?_;refine kL (fun hc=>?_) (fun hc=>?_)
 ·simp at hc;refine jN ?_;refine kO.bool rfl ?_;rw [hb];simp only [eG,ji];rintro ⟨⟨e1,e2,e3,e4,e5⟩,-⟩;rw [nP ae ae] at hc;omega
 simp at hc;have hp:0≤c.params∧c.params≤4:=ae;rw [nP ae ae] at hc;refine jN ?_;refine jG.loop (J:=fun k:Nat=>k≤c.steps.length∧∀i:Nat,i<k→tK p c i own method (pF c.steps i))
  (I:=fun k=>⟨[(10,.int k),(2,.int own),(3,.bool method),(4,.ptr 0 1 0 0),(5,.ptr 1 1 0 0)],[⟨24,3,[kU p]⟩,⟨68,3,[kx c]⟩]⟩) (μ:=fun k=>c.steps.length-k) 0 ⟨dL _,ae⟩ .wk ?_
 rintro k ⟨hk,mU⟩;refine jN ?_;refine kL (fun hd=>?_) (fun hd=>?_)
 ·simp at hd;refine jN ?_;refine oQ (alA p c k own method ae ae (decide (tK p c k own method (pF c.steps k))) ah) ?_;refine jN ?_;refine kL (fun he=>?_) (fun he=>?_)
  ·simp at he;refine jN ?_;refine kO.bool rfl ?_;rw [hb];simp only [eG,ji];exact fun h=>he (h.2 k hd)
  ·simp at he;refine jN ?_;rw [l6 ae];refine ⟨k+1,⟨ae,fun i h=>?_⟩,ae,.wk⟩;by_cases e:i=k
   ·subst e;exact he
   ·exact mU i ae
 ·simp at hd;refine jN ?_;refine kO.bool rfl ?_;rw [hb];simp only [true_iff];exact ⟨ae,fun i hi=>mU i ae⟩
def Xh (p:Tk):Prop:=(1≤p.kT.length∧p.kT.length≤8∧p.methods.length≤6∧0≤p.mb∧p.mb≤4) ∧
 (∀i:Nat,i<p.kT.length→FL p (mz p.kT i) i false)∧∀i:Nat,i<p.methods.length→FL p (mz p.methods i) i true
open Classical in
theorem aeB (p:Tk) (b:Bool) (hb:b=true↔Xh p):Fn Tryd.prog 28 [kU p] (.bool b):=by
 refine Fn.nZ [(0,kU p)] 1 63 Tryd.func28 ag rfl rfl rfl rfl rfl ?_;refine jN ?_;refine kL (fun hc=>?_) (fun hc=>?_)
 ·simp at hc;refine jN ?_;refine kO.bool rfl ?_;rw [hb];simp only [eG,ji];rintro ⟨⟨e1,e2,e3,e4,e5⟩,-⟩;omega
 simp at hc;refine jN ?_;refine jG.loop (J:=fun k:Nat=>k≤p.kT.length∧∀i:Nat,i<k→FL p (mz p.kT i) i false)
  (I:=fun k=>⟨[(3,.int k),(1,.ptr 0 1 0 0)],[⟨24,3,[kU p]⟩]⟩) (μ:=fun k=>p.kT.length-k) 0 ⟨dL _,ae⟩ .wk ?_
 rintro k ⟨hk,mU⟩;refine jN ?_;refine kL (fun hd=>?_) (fun hd=>?_)
 ·simp at hd;refine jN ?_;refine mi (k:=9) follows (hr:=?_);refine jN ?_;refine jB.q2 (uN (l:=p.kT) (f:=kx) yr rfl rfl eO ae ae ag) ?_;refine jN ?_;refine oQ (Vf p (mz p.kT k) k false (decide (FL p (mz p.kT k) k false)) ah) ?_;refine jN ?_;refine kL (fun he=>?_) (fun he=>?_)
  ·simp at he;refine jN ?_;refine kO.bool rfl ?_;rw [hb];simp only [eG,ji];exact fun h=>he (h.2.1 k hd)
  ·simp at he;refine jN ?_;rw [l6 ae];refine ⟨k+1,⟨ae,fun i h=>?_⟩,ae,.wk⟩;by_cases e:i=k
   ·subst e;exact he
   ·exact mU i ae
 simp at hd;refine jN ?_;refine jG.loop (J:=fun k:Nat=>k≤p.methods.length∧∀i:Nat,i<k→FL p (mz p.methods i) i true)
  (I:=fun k=>⟨[(4,.int k),(1,.ptr 0 1 0 0)],[⟨24,3,[kU p]⟩]⟩) (μ:=fun k=>p.methods.length-k) 0 ⟨dL _,ae⟩ .wk ?_
 rintro k2 ⟨B7,Ks⟩;refine jN ?_;refine kL (fun mo=>?_) (fun mo=>?_)
 ·simp at mo;refine jN ?_;refine mi (k:=9) follows (hr:=?_);refine jN ?_;refine jB.q2 (uN (l:=p.methods) (f:=kx) yr rfl rfl eO ae ae ag) ?_;refine jN ?_;refine oQ (Vf p (mz p.methods k2) k2 true (decide (FL p (mz p.methods k2) k2 true)) ah) ?_;refine jN ?_;refine kL (fun he=>?_) (fun he=>?_)
  ·simp at he;refine jN ?_;refine kO.bool rfl ?_;rw [hb];simp only [eG,ji];exact fun h=>he (h.2.2 k2 mo)
  ·simp at he;refine jN ?_;rw [l6 ae];refine ⟨k2+1,⟨ae,fun i h=>?_⟩,ae,.wk⟩;by_cases e:i=k2
   ·subst e;exact he
   ·exact Ks i ae
 ·simp at mo;refine jN ?_;refine kO.bool rfl ?_;rw [hb];simp only [true_iff];exact ⟨ae,fun i hi=>mU i ae,fun i hi=>Ks i ae⟩
theorem JK {n v:Int}:qR n [v]↔0≤v∧v<n:=by simp [qR]
theorem PD {n v w:Int}:qR n [v,w]↔(0≤v∧v<n)∧(0≤w∧w<n)∧v≠w:=by
 simp [qR,and_assoc]
theorem Vg {l:List kG} {i:Nat} (hi:i≤l.length) (q:kG→Prop):(∀x∈l.take i,q x)↔∀k:Nat,(k:Int)<i→q (pF l k):=by
 constructor
 ·intro h k hk;have:k<l.length:=ae;rw [show pF l k=l[k] from uP this];exact h _ (eF.2 ⟨k,dj,by rw [gJ]⟩)
 ·intro h x hx;obtain ⟨k,hk,rfl⟩:=eF.1 hx;rw [eQ] at hk;have:=h k ae;rw [show pF l k=l[k]' ae from uP ae] at this;rw [gJ];exact this
theorem UF {l:Lk} {i:Nat} (hi:i≤l.c.steps.length) {s:kG} (h:tK l.p l.c i l.own l.method s):oP l i s:=by
 obtain ⟨⟨ho,⟨z1,z2,z3,z4,z5⟩,⟨r1,r2⟩,hl,hv⟩,f1,f6,f7,f8,f9⟩:=h;have SS:=fun q=>Vg (q:=q) hi;unfold oP;rw [dF];rcases (by omega:s.op=1∨s.op=2∨s.op=3∨s.op=4∨s.op=5∨s.op=6∨s.op=7∨s.op=8∨s.op=9∨s.op=10∨s.op=11∨s.op=12) with e|e|e|e|e|e|e|e|e|e|e|e
 ·simp [e,u1,u2,u3,u4,u5] at *;exact ⟨JK.2 r1,z2,f1.1,f1.2,z4,by simp [z5]⟩
 ·simp [e,u1,u2,u3,u4,u5] at *;exact ⟨PD.2 ⟨r1,⟨r2.1,r2.2.1⟩,r2.2.2⟩,z3,z4,by simp [z5]⟩
 ·simp [e,u1,u2,u3,u4,u5] at *;exact ⟨PD.2 ⟨r1,⟨r2.1,r2.2.1⟩,r2.2.2⟩,z3,z4,by simp [z5]⟩
 ·simp [e,u1,u2,u3,u4,u5] at *;exact ⟨JK.2 r1,z2,z3,z4,by simp [z5]⟩
 ·simp [e,u1,u2,u3,u4,u5] at *;exact ⟨JK.2 r1,z2,f1.1,f1.2,z4,by simp [z5]⟩
 ·simp [e,u1,u2,u3,u4,u5] at *;exact ⟨⟨z1,z2⟩,ae,ae,ae,ae,f6.2.1,f6.2.2,hv⟩
 ·simp only [e,SS] at *;simp [u1,u2,u3,u4,u5] at *;exact ⟨⟨z1,z2⟩,f7.1,⟨z4,by simp [z5]⟩,⟨f7.2.1,f7.2.2.1⟩,f7.2.2.2⟩
 ·simp [e,u1,u2,u3,u4,u5] at *;exact ⟨⟨z1,z2⟩,f8.1,f8.2.1,f8.2.2.1,z4,f8.2.2.2,ae,hv⟩
 ·simp [e,u1,u2,u3,u4,u5] at *;exact ⟨⟨z1,z2⟩,ae,ae,ae,ae,f9.2.1,f9.2.2,hv⟩
 ·simp [e,u1,u2,u3,u4,u5] at *;exact ⟨⟨z1,z2⟩,f7.1,⟨z4,by simp [z5]⟩,⟨f7.2.1,f7.2.2⟩⟩
 ·simp [e,u1,u2,u3,u4,u5] at *;exact ⟨⟨z1,z2⟩,z3,z4,by simp [z5]⟩
 ·simp [e,u1,u2,u3,u4,u5] at *;exact ⟨⟨z1,z2⟩,z3,z4,by simp [z5]⟩
theorem UG {l:Lk} {i:Nat} (hi:i≤l.c.steps.length) {s:kG} (hp:∀n:Int,0≤n→n<l.p.kT.length→(mz l.p.kT n).params≤4) (hm:∀n:Int,0≤n→n<l.p.methods.length→(mz l.p.methods n).params≤4) (h:oP l i s):tK l.p l.c i l.own l.method s:=by
 have SS:=fun q=>Vg (q:=q) hi;unfold oP at h;rw [dF] at h;have sM:∀ {n:Int},s.vars.length=0→s.vars=[]∧s.vars.length≤4∧qR n s.vars:=fun h=>by
  have:=dQ h;rw [this];simp [qR]
 rcases h with ⟨ho,h1,h2,h3,h4,h5,h6⟩|⟨ho,h1,h2,h3,h4⟩|⟨ho,h1,h2,h3,h4,h5⟩|⟨ho,⟨h1,pd⟩,h2,h3,h4,h5,h6,h7,h8⟩|⟨ho,⟨h1,pd⟩,h2,⟨h3,BJ⟩,h4,h5⟩|⟨ho,⟨h1,pd⟩,h2,h3,h4,h5,h6,h7,h8⟩|⟨ho,⟨h1,pd⟩,h2,h3,h4,h5,h6,h7,h8⟩|⟨ho,⟨h1,pd⟩,h2,h3,h4⟩
 ·obtain ⟨g1,g2,g3⟩:=sM (n:=l.c.vars) h6;rw [JK] at h1;rcases ho with e|e<;>simp [tK,yu,u1,u2,u3,u4,u5,e,h1,h2,h3,h4,h5,g1,qR]
 ·obtain ⟨g1,g2,g3⟩:=sM (n:=l.c.vars) h4;rw [PD] at h1;rcases ho with e|e<;>simp [tK,yu,u1,u2,u3,u4,u5,e,h1,h2,h3,g1,qR]
 ·obtain ⟨g1,g2,g3⟩:=sM (n:=l.c.vars) h5;rw [JK] at h1;simp [tK,yu,u1,u2,u3,u4,u5,ho,h1,h2,h3,h4,g1,qR]
 ·have:=hp s.task ae h5;have g:s.vars.length≤4:=ae;simp [tK,yu,u1,u2,u3,u4,u5,ho,h1,pd,h2,h3,g,h8];exact ⟨ae,h6,h7⟩
 ·obtain ⟨g1,g2,g3⟩:=sM (n:=l.c.vars) BJ;obtain ⟨h4,h4'⟩:=h4;rcases ho with e|e
  ·simp only [e,SS] at h5;simp at h5;simp [tK,yu,u1,u2,u3,u4,u5,e,h1,pd,h2,h3,h4,h4',g1,qR];exact h5
  ·simp [tK,yu,u1,u2,u3,u4,u5,e,h1,pd,h2,h3,h4,h4',g1,qR]
 ·have g:s.vars.length≤4:=ae;simp [tK,yu,u1,u2,u3,u4,u5,ho,h1,pd,h2,h3,h4,h5,g,h8];omega
 ·have:=hm s.task h4 h5;have g:s.vars.length≤4:=ae;simp [tK,yu,u1,u2,u3,u4,u5,ho,h1,pd,h2,h3,h4,h5,g,h8];exact ⟨h6,h7⟩
 ·obtain ⟨g1,g2,g3⟩:=sM (n:=l.c.vars) h4;rcases ho with e|e<;>simp [tK,yu,u1,u2,u3,u4,u5,e,h1,pd,h2,h3,g1,qR]
theorem afY (p:Tk):Ap p↔Xh p:=by
 constructor
 ·rintro ⟨h,hc,hm⟩;have hp:∀n:Int,0≤n→n<(p.kT.length:Int)→(mz p.kT n).params≤4:=fun n h0 h1=>by
   have:=(hc n.toNat ae).1.2.1;rwa [dP h0] at this
  have hq:∀n:Int,0≤n→n<(p.methods.length:Int)→(mz p.methods n).params≤4:=fun n h0 h1=>by
   have:=(hm n.toNat ae).1.2.1;rwa [dP h0] at this
  refine ⟨h,fun i hi=>⟨(hc i hi).1,fun j hj=>?_⟩,fun i hi=>⟨(hm i hi).1,fun j hj=>?_⟩⟩
  ·exact UG (l:=⟨p,mz p.kT i,i,false⟩) (Nat.le_of_lt hj) hp hq ((hc i hi).2 j hj)
  ·exact UG (l:=⟨p,mz p.methods i,i,true⟩) (Nat.le_of_lt hj) hp hq ((hm i hi).2 j hj)
 ·rintro ⟨h,hc,hm⟩;refine ⟨h,fun i hi=>⟨(hc i hi).1,fun j hj=>?_⟩,fun i hi=>⟨(hm i hi).1,fun j hj=>?_⟩⟩
  ·exact UF (l:=⟨p,mz p.kT i,i,false⟩) (Nat.le_of_lt hj) ((hc i hi).2 j hj)
  ·exact UF (l:=⟨p,mz p.methods i,i,true⟩) (Nat.le_of_lt hj) ((hm i hi).2 j hj)
end Go.Ab.Rg
set_option maxHeartbeats 4000000
namespace Go.Ab.Rf
open Go Go.Ab Go.Proofs Go.Ab.Ty
theorem Vd (p:Tk) (l:List Int) (b:Bool) (hb:b=true↔Rg.Ap p):Fn Tryd.prog 43 [kU p,.jA (l.map .int)] (.int (wN b l.length)):=by
 refine Fn.nZ [(0,kU p),(1,.jA (l.map .int))] 2 11 Tryd.func43 ag rfl rfl rfl rfl rfl ?_;refine jx ?_;refine oQ (Rg.aeB p b (by rw [hb];exact Rg.afY p)) ?_ (hp:=fun a ha=>by rw [dz] at ha;subst ha;exact Bi p);refine jx ?_;cases b with
 | false =>
   refine j8 ?_ rfl aa;refine jx ?_;exact kO.data (vs:=[.int 230]) rfl rfl (.base _)
 | true =>
   refine jK ?_ rfl aa;refine jx ?_;by_cases hd:200<l.length
   ·have kb:decide ((l.length:Int)>200)=true:=jf ae;refine j8 ?_ aa rfl;refine jx ?_;refine kO.data (vs:=[.int 2]) rfl ?_ (.base _);unfold wN;rw [ja rfl,ja ae];rfl
   ·have kb:decide ((l.length:Int)>200)=false:=je ae;refine jK ?_ aa rfl;refine jx ?_;refine kO.data (vs:=[.int 0]) rfl ?_ (.base _);unfold wN;rw [ja rfl,iZ ae];rfl
def MH (R:jz):AV:=.agg [.jA (R.lines.map fun x=>.base (.string x)),.jA (R.jT.map oJ),.jA ((R.tasks.map (·.state)).map AV.int),.jA ((R.tasks.map (·.par)).map AV.int),.base (.bool (R.tasks.all fun t=>decide (2<t.state))),.int R.turns.length]
theorem ahQ {s:jv} {R:jz} (h:kZ s R):MH R=Gd s:=by
 have h1:R.tasks.map (·.state)=s.tasks.map (·.state)∧R.tasks.map (·.par)=s.tasks.map (·.par):=by
  constructor <;>
  ·apply fG;intro i;rw [dE,dE];cases ht:s.tasks[i]? with
   | none=>rw [dT (by rw [h.tl];exact List.getElem?_eq_none_iff.1 ht)];rfl
   | some t =>
     obtain ⟨u,hu,g⟩:=h.tk i t ht;rw [hu];simp only [eJ,g.state,g.par]
 have h2:(R.tasks.all fun t=>decide (2<t.state))=(s.tasks.all fun t=>decide (3≤t.state)):=by
  have e1:(R.tasks.all fun t=>decide (2<t.state))=((R.tasks.map (·.state)).all fun x=>decide (2<x)):=by rw [List.all_map];rfl
  have e2:(s.tasks.all fun t=>decide (3≤t.state))=((s.tasks.map (·.state)).all fun x=>decide (3≤x)):=by rw [List.all_map];rfl
  rw [e1,e2,h1.1];refine jj _ (funext fun x=>?_);by_cases e:2<x
  ·rw [jf e,jf ae]
  ·rw [je e,je ae]
 unfold MH Gd;rw [h.li,h.ac,h1.1,h1.2,h2,h.tn]
abbrev wm (R:jz) (v1 v2:AV) (b:Bool):jy:=⟨32,6,[.agg [.own (ix .ln) R.lines.length 0 R.lines.length,.own (ix .ac) R.jT.length 0 R.jT.length,v1,v2,.base (.bool b),.int R.turns.length]]⟩
theorem P1:∀e∈mn.es,∀c∈e.cells,Pu c:=fun e he c hc=>by
 rw [dz] at he;subst he;simp only [AV.cells,dC,dB,jd] at hc;rcases hc with rfl|rfl|rfl|rfl|rfl|rfl<;>exact .base _
theorem akJ {p:Tk} {sched:List Int} (h:CJ p sched):Fn Tryd.prog 23 [kU p,.jA (sched.map .int)] (.ky [MH (Eo p sched),.int 0]):=by
 have FT:=VL h;have rm:=Vd p sched true (by simp only [true_iff];exact h.1);have l5:wN true sched.length=0:=by unfold wN;rw [ja rfl,iZ (by have:=h.2;omega)]
 rw [l5] at rm;have qE:=(Mo h).rk.fo.wf;obtain ⟨R,hR⟩:∃R,R=Eo p sched:=⟨_,rfl⟩
 rw [← hR] at FT qE ⊢;have td:=kv R;obtain ⟨co,me,ac⟩:=p;clear hR l5 h;refine Fn.nZ [(0,kU ⟨co,me,ac⟩),(1,.jA (sched.map .int))] 2 78 Tryd.func23 ag rfl rfl rfl rfl rfl ?_;refine jG.seq ?_;refine jG.join ⟨[(1,.jA (sched.map .int)),(2,.kN (kU ⟨co,me,ac⟩) 0),(4,.ptr 0 1 0 0)],[mn]⟩ ?_ ?_
 ·refine yj ?_;refine jx ?_;refine Wk.Ee [1] ah (fun b hb=>absurd hb (gF _)) ⟨⟨_,rfl,.pu P1⟩,trivial⟩ (wv.all ⟨.pu (l7 _),.kN rfl rfl rfl rfl ⟨.pu (nz _),.pu (nz _),.pu (.base _),trivial⟩,.ptr rfl,trivial⟩)
 have Lp:∀a∈[kU ⟨co,me,ac⟩,AV.jA (sched.map .int)],Pu a:=fun a ha=>by
  simp only [dC,dB,jd] at ha;rcases ha with rfl|rfl
  ·exact Bi _
  ·exact l7 _
 have M1:=Hid.mk Lp;clear Lp;refine jx ?_;refine oQ rm ?_ (hp:=M1.out);refine jx ?_;refine jK ?_ rfl aa;refine jG.skip ?_;have BY:tf [] [mn] [] (RH R) ([mn]++(RH R).map (vT 1)):=tf.QY (HC:=[mn]) (rO qE);have A2:mI (rb [] [mn].length) (RH R) jI (.ptr 1 1 0 0):=.ptr (by simp [rb,ix]);refine jG.seq ?_;refine jG.join ⟨[(4,.ptr NN 1 0 0),(7,jI)],RH R++[mn]⟩ ?_ ?_
 ·refine yj ?_;refine jx ?_;refine jB.p2 (zg FT BY rfl aa (args:=[kU ⟨co,me,ac⟩,.jA (sched.map .int)]) ?_ A2) ?_
  ·exact ⟨.pu (Bi ⟨co,me,ac⟩),.pu (l7 _),trivial⟩
  refine jx ?_;exact Wk.WI (T:=[mn]) td (rO qE) rfl (fun b hb=>by
   rw [dz] at hb;subst hb;exact P1) ⟨.ptr (by unfold B5;rfl),.ptr (by
    unfold B5;rw [iZ az,ja (by have:=mc;simp only [dO];omega)];rfl),trivial⟩
 clear BY A2 FT rm M1;refine jG.seq ?_;refine jG.join ⟨[(4,.ptr NN 1 0 0),(7,jI),(8,.ptr (NN+1) 1 0 0)],RH R++[mn,wm R kD kD true]⟩ ?_ ?_
 ·refine qK (k:=15) [none,none,none,none,none,none,none,none,none,none,none,none,none,none,some 0] (fun k=>match k with
   | 0=>RH R++[mn]
   | _=>RH R++[mn,mn]) 1 follows ?_
  repeat (first|refine gS ?_|refine gT ?_|refine gU ?_|refine gV ?_)
  refine ko.q1 (v:=.agg [.own (ix .ln) R.lines.length 0 R.lines.length,.own (ix .ac) R.jT.length 0 R.jT.length,kD,kD,.base (.bool true),.int R.turns.length]) rfl rfl (fun c _=>DN M3 HP aC) ?_;refine ko.p1 (v:=.ptr (NN+1) 1 0 0) rfl rfl (fun kB h=>?_) ?_
  ·show PL Tryd.prog (RH R++[mn]) kB _ (.ptr (NN+1) 1 0 0) (RH R++[mn,mn]);have h1:=wD (P:=Tryd.prog) (H:=RH R++[mn]) (ρ:=kB) HP rfl;rw [eA,dK,td] at h1;exact h1
  refine ko.nil ?_;show jB _ _ _ _ _ ⟨_,RH R++[mn,mn]⟩;refine jx ?_;exact .wf (hH:=aa)
 refine jx ?_;have Lq:∀ {H:List jy},Bo H mn mn:=.pu P1;have Lr:∀ {H:List jy},sO H (RH R) (RH R):=sO.rf (S:=(·<NN)) (rO qE);refine jG.weaken (Wk.rQ (E2:=[(4,.ptr NN 1 0 0),(7,jI),(8,.ptr (NN+1) 1 0 0),(9,.int 0)]) (H2:=RH R++[mn,wm R (.own (NN+2) 0 0 0) kD true]) 3 1
  (.app Lr ⟨Lq,.one ⟨.own,.own,.nil (by simp [td]),.pu (.base _),.pu (.base _),.pu (.base _),trivial⟩,trivial⟩) ⟨.ptr,.ptr,.ptr,.pu (.base _),trivial⟩) ?_
 refine jG.weaken (Wk.rQ (E2:=[(4,.ptr NN 1 0 0),(7,jI),(8,.ptr (NN+1) 1 0 0),(9,.int 0)]) (H2:=RH R++[mn,wm R (.own (NN+2) 0 0 0) (.own (NN+3) 0 0 0) true]++[jD []]) 3 1
  (.app (.app Lr ⟨Lq,.one ⟨.own,.own,.own,.nil (by simp [td]),.pu (.base _),.pu (.base _),trivial⟩,trivial⟩) ⟨.pu (fun e he=>by cases he),trivial⟩) ⟨.ptr,.ptr,.ptr,.pu (.base _),trivial⟩) ?_
 refine jG.loop (J:=fun i:Nat=>i≤R.tasks.length) (fun i=>⟨[(4,.ptr NN 1 0 0),(7,jI),(8,.ptr (NN+1) 1 0 0),(9,.int i)],RH R++[mn,wm R (.own (NN+2) i 0 i) (.own (NN+3) i 0 i) ((R.tasks.take i).all fun t=>decide (2<t.state)),jD ((R.tasks.take i).map (·.state)),jD ((R.tasks.take i).map (·.par))]⟩) (fun i=>R.tasks.length-i) 0 (dL _) (.wf (hH:=ah)) ?_;rintro i hi;have Es:((R.tasks.take i).map (·.state)).length=i:=aj;have Et:((R.tasks.take i).map (·.par)).length=i:=aj;obtain ⟨l1,oA⟩:∃l1,Hid (l1=(R.tasks.take i).map (·.state)):=⟨_,⟨rfl⟩⟩
 obtain ⟨l2,nL⟩:∃l2,Hid (l2=(R.tasks.take i).map (·.par)):=⟨_,⟨rfl⟩⟩
 obtain ⟨b,hb⟩:∃b,Hid (b=(R.tasks.take i).all fun t=>decide (2<t.state)):=⟨_,⟨rfl⟩⟩
 rw [← oA.out] at Es ⊢;rw [← nL.out] at Et ⊢;rw [← hb.out];refine jx ?_;by_cases kn:i<R.tasks.length
 ·have hd:decide ((i:Int)<(R.tasks.length:Int))=true:=jf ae;obtain ⟨t,ht⟩:∃t,R.tasks[i]?=some t:=⟨_,dy kn⟩
  obtain ⟨g1,g2,g3,g4,g5⟩:=qE.k ht;have sR:=qE.nT;have pg:R.tasks.take (i+1)=R.tasks.take i++[t]:=by rw [fH,ht];rfl
  have zU:Hid ((R.tasks.take (i+1)).map (·.state)=l1++[t.state]):=⟨by rw [pg,fY,← oA.out];rfl⟩
  have Dt:Hid ((R.tasks.take (i+1)).map (·.par)=l2++[t.par]):=⟨by rw [pg,fY,← nL.out];rfl⟩
  have Ls:Hid (((R.tasks.take (i+1)).all fun t=>decide (2<t.state))=(b&&decide (2<t.state))):=⟨by rw [pg,List.all_append,← hb.out];simp⟩
  have wA:=yv qE ht;clear pg;refine j8 ?_ rfl aa;have j6:∀(v1 v2:AV) (c:Bool) (X Y:jy) (ρ:Operand→AV) (x y:Operand) (u:AV),ρ x=.ptr (NN+1) 1 0 2→ρ y=u→u.cells.length=1→ru u=true→u.cells=[u]→PL Tryd.prog (RH R++[mn,wm R v1 v2 c,X,Y]) ρ (.store 25 x y) .bad (RH R++[mn,wm R u v2 c,X,Y]):=fun v1 v2 c X Y ρ x y u hx hy h1 h2 h3=>by
   have h:=qP (P:=Tryd.prog) (H:=RH R++[mn,wm R v1 v2 c,X,Y]) (t:=25) (blk:=wm R v1 v2 c) (e':=.agg [.own (ix .ln) R.lines.length 0 R.lines.length,.own (ix .ac) R.jT.length 0 R.jT.length,u,v2,.base (.bool c),.int R.turns.length]) hx hy (vx td) rfl rfl (by rw [h1];exact Ej) h2 (by rw [h3];rfl);rw [wE td] at h;exact h
  have oL:=Hid.mk j6;clear j6;refine jx ?_;refine IB (k:=26) [none,none,none,none,none,none,none,none,none,none,none,some 0,none,none,none,none,none,none,none,none,none,none,none,some 1,none,some 2] [[0,1,2,3,4,5,6,7],[0,2],[0,1,2,3,4,5,6,7],[0,1,2,3,4,5,6,7],[0,1,2,3,4,5,6,7],[0,1,2,3],[0,1,2,3,4,5,6,7],[0,1,2,3],[0,1,2,3,4,5,6,7],[0,1,2,3],[0,2,4,6],[0],[0,1,2,3,4,5,6,7],[0,1],[0,1,2,3,4,5,6,7],[0,1,2,3,4,5,6,7],[0,1,2,3,4,5,6,7],[0,1,2,3,4,5,6,7],[0,1,2,3,4,5,6,7],[0,1,2,3,4,5,6,7],[0,1,2,3,4,5,6,7],[0,1,2,3,4,5,6,7],[0,1,4,5],[1],[0,1,2,3],[3]] (fun S=>match S with
   | 0=>RH R++[mn,wm R (.own (NN+2) i 0 i) (.own (NN+3) i 0 i) b,jD l1,jD l2]
   | 1=>RH R++[mn,wm R (.own (NN+2) i 0 i) (.own (NN+3) i 0 i) b,jD (l1++[t.state]),jD l2]
   | 2=>RH R++[mn,wm R (.own (NN+2) i 0 i) (.own (NN+3) i 0 i) b,jD l1,jD l2]
   | 3=>RH R++[mn,wm R (.own (NN+2) i 0 i) (.own (NN+3) i 0 i) b,jD (l1++[t.state]),jD (l2++[t.par])]
   | _=>RH R++[mn,wm R (.own (NN+2) (i+1) 0 (i+1)) (.own (NN+3) i 0 i) b,jD (l1++[t.state]),jD (l2++[t.par])]) 3 follows ?_
  repeat refine gM ?_
  refine nA.q1 (v:=.ptr (ix .tk) R.tasks.length i 0) rfl rfl (fun S hS=>by
   simp only [dC,dB,jd] at hS;rcases hS with rfl|rfl|rfl|rfl<;>exact A0 (l:=R.tasks) rfl rfl aa kn) ?_
  repeat refine gM ?_
  refine nA.q1 (v:=.jA [.int t.state]) rfl rfl (fun S _=>CQ rfl) ?_;refine nA.p1 (v:=.own (NN+2) (i+1) 0 (i+1)) rfl rfl (fun S hS kB h=>by
   rw [dz] at hS;subst hS;have h1:=Ao (H:=RH R++[mn,wm R (.own (NN+2) i 0 i) (.own (NN+3) i 0 i) b,jD l1,jD l2]) (ρ:=kB) (b:=NN+2) (l:=l1) (v:=t.state) ((h (.tmp 44) ai).trans (by rw [Es];rfl)) ((h (.tmp 53) ai).trans rfl) (vx td) ae;rw [wE td,Es] at h1;exact h1) ?_
  repeat refine gM ?_
  refine nA.q1 (v:=.ptr (ix .tk) R.tasks.length i 0) rfl rfl (fun S hS=>by
   simp only [dC,dB,jd] at hS;rcases hS with rfl|rfl|rfl|rfl|rfl|rfl|rfl|rfl<;>exact A0 (l:=R.tasks) rfl rfl aa kn) ?_
  repeat refine gM ?_
  refine nA.q1 (v:=.jA [.int t.par]) rfl rfl (fun S _=>CQ rfl) ?_;refine nA.p1 (v:=.own (NN+3) (i+1) 0 (i+1)) rfl rfl (fun S hS kB h=>by
   rw [dz] at hS;subst hS;have h1:=Ao (H:=RH R++[mn,wm R (.own (NN+2) i 0 i) (.own (NN+3) i 0 i) b,jD (l1++[t.state]),jD l2]) (ρ:=kB) (b:=NN+3) (l:=l2) (v:=t.par) ((h (.tmp 56) ai).trans (by rw [Et];rfl)) ((h (.tmp 65) ai).trans rfl) (vx td) ae;rw [wE td,Et] at h1;exact h1) ?_
  repeat refine gM ?_
  refine nA.p1 (v:=.bad) rfl rfl (fun S hS kB h=>by
   rw [dz] at hS;subst hS;exact oL.out _ _ _ _ _ kB _ _ (.own (NN+2) (i+1) 0 (i+1)) ((h (.tmp 67) au).trans rfl) ((h (.tmp 54) au).trans rfl) rfl rfl rfl) ?_
  refine nA.nil ?_;show jB _ _ _ _ _ ⟨_,RH R++[mn,wm R (.own (NN+2) (i+1) 0 (i+1)) (.own (NN+3) i 0 i) b,jD (l1++[t.state]),jD (l2++[t.par])]⟩;clear oL;refine jx ?_;cases b with
  | false =>
    refine wu (.bool false) ?_;refine jx ?_;rw [l6 ae];refine ⟨i+1,ae,ae,?_⟩;rw [zU.out,Dt.out,Ls.out];exact .wf
  | true =>
    refine IG wA qE qE ?_ (T:=[mn,wm R (.own (NN+2) (i+1) 0 (i+1)) (.own (NN+3) (i+1) 0 (i+1)) true,jD (l1++[t.state]),jD (l2++[t.par])]);refine jx ?_;rw [l6 ae];refine ⟨i+1,ae,ae,?_⟩;rw [zU.out,Dt.out,Ls.out];exact .wf
 have hd:decide ((i:Int)<(R.tasks.length:Int))=false:=je ae;have wz:R.tasks.length=i:=ae;have nh:R.tasks.take i=R.tasks:=by rw [← wz];exact fT
 rw [nh] at oA nL hb;have hV:MH R=.agg [.jA (R.lines.map fun x=>.base (.string x)),.jA (R.jT.map oJ),.jA (l1.map AV.int),.jA (l2.map AV.int),.base (.bool b),.int R.turns.length]:=by rw [oA.out,nL.out,hb.out];rfl
 rw [hV];clear oA nL hb hV nh wz;refine jK ?_ rfl aa;refine jx ?_;refine kO.tB (vs:=[.agg [.own (ix .ln) R.lines.length 0 R.lines.length,.own (ix .ac) R.jT.length 0 R.jT.length,.own (NN+2) i 0 i,.own (NN+3) i 0 i,.base (.bool b),.int R.turns.length],.int 0]) aS ?_;have AR:∀x:Int,∀c∈(AV.int x).cells,Pu c:=fun x c hc=>aH;refine .Az ⟨.F2 ⟨.vE (ty:=9) (sz:=1) (f:=fun x=>.base (.string x)) (dL _) (by rw [mZ td Aq,nj R _ Aq];rfl) rfl (fun x _ c hc=>aH),
  .vE (ty:=73) (sz:=4) (f:=oJ) (dL _) (by rw [mZ td Cz,nj R _ Cz];rfl) rfl (fun x _ c hc=>by
   simp only [oJ,AV.cells,dC,dB,jd] at hc;rcases hc with rfl|rfl|rfl|rfl<;>exact .base _),
  .vE (ty:=3) (sz:=1) (f:=AV.int) (dL _) (vx td) Es (fun x _ c hc=>AR x c hc),
  .vE (ty:=3) (sz:=1) (f:=AV.int) (dL _) (vx td) Et (fun x _ c hc=>AR x c hc),.pu (.base _),.pu (.base _),trivial⟩,.pu (.base _),trivial⟩
theorem ahR {p:Tk} {sched:List Int} (b:Bool) (hb:b=true↔Rg.Ap p) (e:wN b sched.length≠0):Fn Tryd.prog 23 [kU p,.jA (sched.map .int)] (.ky [.agg [kD,kD,kD,kD,.base (.bool false),.int 0],.int (wN b sched.length)]):=by
 have rm:=Vd p sched b hb;obtain ⟨x,hx⟩:∃x,x=wN b sched.length:=⟨_,rfl⟩
 rw [← hx] at rm e ⊢;clear hx;have Lp:∀a∈[kU p,AV.jA (sched.map .int)],Pu a:=fun a ha=>by
  simp only [dC,dB,jd] at ha;rcases ha with rfl|rfl
  ·exact Bi _
  ·exact l7 _
 have M1:=Hid.mk Lp;clear Lp;refine Fn.nZ [(0,kU p),(1,.jA (sched.map .int))] 2 78 Tryd.func23 ag rfl rfl rfl rfl rfl ?_;refine jx ?_;refine oQ rm ?_ (hp:=M1.out);refine jx ?_;have hd:(x !=0)=true:=by simp [e]
 refine j8 ?_ rfl aa;refine jx ?_;refine x9 M3 HP ?_;refine jx ?_;exact kO.data (vs:=[.agg [kD,kD,kD,kD,.base (.bool false),.int 0],.int x]) aS rfl (Pu.ky (by
  intro a ha;simp only [dC,dB,jd] at ha;rcases ha with rfl|rfl
  ·exact .agg fun c hc=>by
    simp only [dC,dB,jd] at hc;rcases hc with rfl|rfl|rfl|rfl|rfl|rfl<;>exact .base _
  ·exact .base _))
end Go.Ab.Rf
set_option maxHeartbeats 4000000
namespace Go.Ab
open Go Go.Ab Go.Proofs Go.Ab.Ty
theorem tf.axS {R:jv}:tf [] [] [] (HH R) (HH R):=tf.all (H:=[]) (H':=HH R) (dL _)
theorem asO {H:List jy}:mI (rb [] ([]:List jy).length) H (.ky [jI,.int 0]) (.ky [jI,.int 0]):=.Az ⟨.ptr (by simp [rb,ix]),.pu (.base _),trivial⟩
theorem ahP {mm:List (Nat×Obj)} (pD:xp mm) {p:Tk} {sched:List Int} (h:CJ p sched):qY Tryd.prog mm 29 [kU p,.jA (sched.map .int)] (.ky [.jA ((uc p sched).turns.map .int),.int 0]):=by
 obtain ⟨Gq,Fp⟩:=Vl pD h;obtain ⟨R,hR⟩:∃R,R=uc p sched:=⟨_,rfl⟩
 rw [← hR] at Gq Fp ⊢;have qE:=Fp.iv.wf;have td:=kC R;obtain ⟨co,me,ac⟩:=p;clear hR;refine qY.nZ [(0,kU ⟨co,me,ac⟩),(1,.jA (sched.map .int))] 2 21 Tryd.func29 ag rfl rfl rfl rfl rfl ?_;refine jG.seq ?_;refine jG.join ⟨[(1,.jA (sched.map .int)),(2,.kN (kU ⟨co,me,ac⟩) 0),(mu,.mem mm)],[]⟩ ?_ ?_
 ·refine jw ?_;exact Wk.Ee [] gK (fun b hb=>absurd hb (gF _)) trivial (wv.all ⟨.pu (l7 _),.kN rfl rfl rfl rfl ⟨.pu (nz _),.pu (nz _),.pu (.base _),trivial⟩,.pu (.mem _),trivial⟩)
 refine jG.seq ?_;refine jG.join ⟨[(6,jI),(7,.int 0),(mu,.mem mm)],HH R⟩ ?_ ?_
 ·refine yj ?_;refine jB.p2 (OW Gq (.inr aa) .axS rfl aa (args:=[kU ⟨co,me,ac⟩,.jA (sched.map .int)]) ?_ asO) ?_
  ·exact ⟨.pu (Bi ⟨co,me,ac⟩),.pu (l7 _),trivial⟩
  refine jw ?_;exact .wf
 clear Gq;refine jw ?_;refine jK ?_ rfl aa;refine jG.skip ?_;refine jw ?_;refine kO.tB (vs:=[.own (ix .tn) R.turns.length 0 R.turns.length,.int 0]) aV ?_;exact .Az ⟨.vE (ty:=3) (sz:=1) (f:=AV.int) (dL _) (by rw [qS R _ D1];rfl) rfl (fun x _ c hc=>aH),.pu (.base _),trivial⟩
theorem afR {p:Tk} {sched:List Int} (e:Int) (he:e≠0) (rm:Fn Tryd.prog 59 [kU p,.jA (sched.map .int)] (.int e)) :
 Fn Tryd.prog 29 [kU p,.jA (sched.map .int)] (.ky [kD,.int e]):=by
 have ib:=V0 e he rm;refine Fn.nZ [(0,kU p),(1,.jA (sched.map .int))] 2 21 Tryd.func29 ag rfl rfl rfl rfl rfl ?_;refine jw ?_;refine oQ (ib) ?_;refine jw ?_;have hd:(e !=0)=true:=by simp [he]
 refine j8 ?_ rfl aa;refine jw ?_;exact kO.data (vs:=[kD,.int e]) aV rfl (Pu.ky (by
  intro a ha;simp only [dC,dB,jd] at ha;rcases ha with rfl|rfl<;>exact .base _))
def Fu:List kG→Int→Option Int
 | [],n=>some n
 | s::l,n=>if 50<s.vars.length∨2000<n+1+s.vars.length then none else Fu l (n+1+s.vars.length)
def Cg:List Cd→Int→Option Int
 | [],n=>some n
 | c::l,n=>if 60<c.steps.length then none else match Fu c.steps n with
   | none=>none
   | some m=>Cg l m
def Oz (p:Tk) (n:Nat):Bool:=decide (20<p.kT.length∨20<p.methods.length∨300<n)||(Cg (p.kT++p.methods) 0).isNone
theorem Wa {α:Type} {d:α} {l m:List α} {i:Nat}:nth d (l++m) (i:Int)=if i<l.length then nth d l i else nth d m ((i:Int)-l.length):=by
 unfold nth;split
 ·rw [dF,dA ae]
 ·rw [dF,dJ ae]
  congr 2;omega
theorem amE (p:Tk) (i:Nat) (hi:i<p.kT.length+p.methods.length) (hb:p.methods.length≤1000):Fn Tryd.prog 41 [kU p,.int i] (kx (Rg.mz (p.kT++p.methods) i)):=by
 obtain ⟨co,me,ac⟩:=p;simp only at hi hb;refine Fn.nZ [(0,kU ⟨co,me,ac⟩),(1,.int i)] 2 24 Tryd.func41 ag rfl rfl rfl rfl rfl ?_;refine lD ?_;refine kL (fun hc=>?_) (fun hc=>?_)
 ·simp at hc;have hE:Rg.mz (co++me) i=Rg.mz co i:=by unfold Rg.mz;rw [Wa,ja hc]
  simp only [hE];refine lD ?_;refine jB.q2 (uN (l:=co) (f:=kx) Rg.yr rfl rfl eO ae ae ag) ?_;refine lD ?_;exact kO.data (vs:=[kx (Rg.mz co i)]) ag rfl (Cp _)
 ·simp at hc;have hE:Rg.mz (co++me) i=Rg.mz me ((i:Int)-co.length):=by unfold Rg.mz;rw [Wa,iZ ae]
  simp only [hE];refine lD ?_;rw [nP (x:=(i:Int)-co.length) ae ae];refine jB.q2 (uN (l:=me) (f:=kx) Rg.yr rfl rfl eO ae ae ag) ?_;refine lD ?_;exact kO.data (vs:=[kx (Rg.mz me ((i:Int)-co.length))]) ag rfl (Cp _)
theorem ahO (p:Tk) (sched:List Int):Fn Tryd.prog 19 [kU p,.jA (sched.map .int)] (.bool (Oz p sched.length)):=by
 obtain ⟨co,me,ac⟩:=p;refine Fn.nZ [(0,kU ⟨co,me,ac⟩),(1,.jA (sched.map .int))] 2 71 Tryd.func19 ag rfl rfl rfl rfl rfl ?_;refine lD ?_;by_cases h1:20<co.length∨20<me.length∨300<sched.length
 ·refine j8 ?_ ?_ rfl;rotate_left
  ·by_cases a:20<co.length<;>by_cases b:20<me.length<;>by_cases d:300<sched.length<;>first|(exfalso;omega)|(simp [a,b,d]<;>omega)
  refine lD ?_;exact kO.bool rfl (by unfold Oz;simp [h1])
 refine jK ?_ ?_ rfl;rotate_left
 ·by_cases a:20<co.length<;>by_cases b:20<me.length<;>by_cases d:300<sched.length<;>first|(exfalso;omega)|(simp [a,b,d]<;>omega)
 have hv:Oz ⟨co,me,ac⟩ sched.length=(Cg (co++me) 0).isNone:=by unfold Oz;simp [h1]
 rw [hv];refine lD ?_;refine jG.loop (J:=fun x:Nat×Int=>x.1≤co.length+me.length∧0≤x.2∧x.2≤2000∧Cg ((co++me).drop x.1) x.2=Cg (co++me) 0) (fun x=>⟨[(2,.ptr 0 1 0 0),(5,.int x.2),(6,.int x.1)],[⟨24,3,[kU ⟨co,me,ac⟩]⟩]⟩) (fun x=>co.length+me.length-x.1) (0,0) ⟨dL _,ae,ae,rfl⟩ .wf ?_;rintro ⟨i,n⟩ ⟨j1,j2,j3,j4⟩;simp only at j1 j2 j3 j4;refine lD ?_;rw [nP (x:=(co.length:Int)+me.length) ae ae];by_cases kn:i<co.length+me.length
 ·have hd:decide ((i:Int)<(co.length:Int)+me.length)=true:=jf ae;refine j8 ?_ hd rfl;refine lD ?_;refine oQ (amE ⟨co,me,ac⟩ i kn bp) ?_;have Oh:(co++me).drop i=Rg.mz (co++me) i::(co++me).drop (i+1):=by
   rw [fS aj]
   congr 1
   exact (zu (dy _)).symm
  rw [Oh] at j4;generalize Rg.mz (co++me) i=cd at j4;obtain ⟨cp,cv,ss⟩:=cd;refine lD ?_;by_cases OA:60<ss.length
  ·refine j8 ?_ (jf ae) rfl;refine lD ?_;exact kO.bool rfl (by
    rw [← j4];simp only [Cg];rw [ja OA];simp)
  refine jK ?_ (je ae) rfl;refine lD ?_;refine jG.loop (J:=fun x:Nat×Int=>x.1≤ss.length∧0≤x.2∧x.2≤2000∧Fu (ss.drop x.1) x.2=Fu ss n) (fun x=>⟨[(2,.ptr 0 1 0 0),(5,.int x.2),(6,.int i),(7,.ptr 1 1 0 0),(8,.int x.1)],[⟨24,3,[kU ⟨co,me,ac⟩]⟩,⟨68,3,[kx ⟨cp,cv,ss⟩]⟩]⟩) (fun x=>ss.length-x.1) (0,n) ⟨dL _,j2,j3,rfl⟩ .wf ?_;rintro ⟨k,m⟩ ⟨q1,q2,q3,q4⟩;simp only at q1 q2 q3 q4;refine lD ?_;by_cases hk:k<ss.length
  ·refine j8 ?_ (jf ae) rfl;have hds:ss.drop k=nth Rg.wO ss k::ss.drop (k+1):=by
    rw [fS hk]
    congr 1
    exact (zu (dy _)).symm
   rw [hds] at q4;refine lD ?_;refine jB.q2 (uN (l:=ss) (f:=ki) Rg.wO rfl rfl fg ae ae ag) ?_;generalize jP:nth Rg.wO ss k=st at q4;obtain ⟨op,v,w,nn,tk,vs⟩:=st;refine lD ?_;rw [nP (x:=m+1) ae ae];refine jB.q2 (uN (l:=ss) (f:=ki) Rg.wO rfl rfl fg ae ae ag) ?_;rw [jP];refine lD ?_;by_cases h50:50<vs.length
   ·refine j8 ?_ ?_ rfl;rotate_left
    ·have:decide ((vs.length:Int)>50)=true:=jf ae;rw [this];rfl
    refine lD ?_;exact kO.bool rfl (by
     rw [← j4];simp only [Cg];rw [iZ OA,← q4];simp only [Fu];rw [ja (.inl h50)];simp)
   have Y5:decide ((vs.length:Int)>50)=false:=je ae;rw [nP (x:=m+1+vs.length) ae ae];by_cases h2k:2000<m+1+vs.length
   ·refine j8 ?_ ?_ rfl;rotate_left
    ·have:decide (m+1+(vs.length:Int)>2000)=true:=jf ae;rw [Y5,this];rfl
    refine lD ?_;exact kO.bool rfl (by
     rw [← j4];simp only [Cg];rw [iZ OA,← q4];simp only [Fu];rw [ja (.inr h2k)];simp)
   refine jK ?_ ?_ rfl;rotate_left
   ·have:decide (m+1+(vs.length:Int)>2000)=false:=je ae;rw [Y5,this];rfl
   refine lD ?_;rw [l6 ae];refine ⟨(k+1,m+1+vs.length),⟨by show k+1≤_;omega,by show 0≤m+1+(vs.length:Int);omega,by show m+1+(vs.length:Int)≤2000;omega,?_⟩,by show ss.length-(k+1)<ss.length-k;omega,.wf⟩;rw [← q4];simp only [Fu];rw [iZ ae]
  ·refine jK ?_ (je ae) rfl;refine lD ?_;rw [l6 ae];refine ⟨(i+1,m),⟨by show i+1≤_;omega,q2,q3,?_⟩,by show co.length+me.length-(i+1)<co.length+me.length-i;omega,?_⟩
   ·rw [← j4];have sM:ss.drop k=[]:=ga ae;rw [sM] at q4;simp only [Fu] at q4;simp only [Cg];rw [iZ OA,← q4]
   ·exact .Qa 1 rfl (by simp +decide only [go_sem,C2];exact ⟨.ptr az,.pu (.base _),.pu (.base _)⟩) (Rg.Ph ⟨co,me,ac⟩)
 ·refine jK ?_ (je ae) rfl;refine lD ?_;exact kO.bool rfl (by
   rw [← j4,ga aj];simp [Cg])
def Z0 (R:jv):TR:=⟨R.lines,R.jT,R.tasks.map (·.state),R.tasks.map (·.par),R.tasks.all fun t=>decide (3≤t.state),R.turns.length⟩
theorem akI (R:jv):Gd R=qW (Z0 R):=rfl
def K8:TR:=⟨[],[],[],[],false,0⟩
abbrev IP:AV:=.agg [kD,kD,kD,kD,.base (.bool false),.int 0]
theorem Wy:Le IP (qW K8):=.QE ⟨.nil,.nil,.nil,.nil,.refl _,.refl _,trivial⟩
theorem Wz (x y:TR):∀a∈[qW x,qW y],Pu a:=fun a ha=>by
 simp only [dC,dB,jd] at ha;rcases ha with rfl|rfl
 ·exact Pw x
 ·exact Pw y
theorem HG (p:Tk) (s:List Int):∀a∈[kU p,AV.jA (s.map .int)],Pu a:=fun a ha=>by
 simp only [dC,dB,jd] at ha;rcases ha with rfl|rfl
 ·exact Bi p
 ·exact l7 _
theorem ahM {mm:List (Nat×Obj)} (pD:xp mm) (p:Tk) (sched:List Int):qY Tryd.prog mm 9 [kU p,.jA (sched.map .int)] (.bool true):=by
 refine qY.nZ [(0,kU p),(1,.jA (sched.map .int))] 2 70 Tryd.func9 ag rfl rfl rfl rfl rfl ?_;have NJ:∀(r:Nat→Option Nat) (H:List jy),zA r H (kU p).cells (kU p).cells:=fun r H=>⟨.pu (nz _),.pu (nz _),.pu (.base _),trivial⟩
 refine jG.seq ?_;refine jG.join ⟨[(1,.jA (sched.map .int)),(2,.kN (kU p) 0),(mu,.mem mm)],[]⟩ ?_ ?_
 ·refine jw ?_;exact Wk.Ee [] gK (fun b hb=>absurd hb (gF _)) trivial (wv.all ⟨.pu (l7 _),.kN rfl rfl rfl rfl (NJ _ _),.pu (.mem _),trivial⟩)
 have Z1:=ahN pD;refine jw ?_;refine oQ (ahO p sched) ?_;refine jw ?_;refine jG.cond rfl (fun hc=>?_) (fun hc=>?_)
 ·clear hc;refine jw ?_;exact kO.data (vs:=[.bool true]) rfl rfl (.base _)
 clear hc;refine jG.skip ?_;refine jG.weaken (s2:=⟨[(1,.jA (sched.map .int)),(2,.kN (kU p) 0),(mu,.mem mm)],[]⟩) .wf ?_;by_cases og:CJ p sched
 ·have Em:=WB pD og;have K9:=ahP pD og;have En:=(Rf.Mo og).rk.qM;have D8:=Rf.akJ og;have qE:=(Rf.Mo og).rk.fo.wf;have FT:=Rf.VL og;rw [Rf.ahQ En] at D8;rw [akI] at Em D8;have nN:=En.tn;obtain ⟨R,hR⟩:∃R,R=Rf.Eo p sched:=⟨_,rfl⟩
  rw [← hR] at qE FT nN;rw [← nN] at K9;generalize Z0 (uc p sched)=x at Em D8;clear En nN hR;obtain ⟨x1,x2,x3,x4,x5,x6⟩:=x;obtain ⟨M,hM⟩:∃M,Hid (M=[⟨32,6,[qW ⟨x1,x2,x3,x4,x5,x6⟩]⟩,⟨32,6,[qW ⟨x1,x2,x3,x4,x5,x6⟩]⟩]++(Rf.RH R).map (vT 2)):=⟨_,⟨rfl⟩⟩
  have BY:tf [] [⟨32,6,[qW ⟨x1,x2,x3,x4,x5,x6⟩]⟩,⟨32,6,[qW ⟨x1,x2,x3,x4,x5,x6⟩]⟩] [] (Rf.RH R) M:=by rw [hM.out];exact tf.QY (HC:=[_,_]) (Rf.rO qE)
  have A2:mI (rb [] 2) (Rf.RH R) jI (.ptr 2 1 0 0):=.ptr (by simp [rb,ix]);refine jw ?_;refine oQ Em ?_ (hp:=HG _ _);refine jw ?_;refine oQ D8 ?_ (hp:=HG _ _);refine jw ?_;refine oQ K9 ?_ (hp:=HG _ _);refine jw ?_;refine xe (i:=fun hg=>VM ⟨x1,x2,x3,x4,x5,x6⟩ ⟨x1,x2,x3,x4,x5,x6⟩) (hp:=Wz _ _) (hr:=?_);refine jw ?_;refine jK ?_ ?_ rfl;rotate_left
  ·simp
  refine jw ?_;refine jK ?_ rfl rfl;refine jw ?_;refine jB.p2 (zg FT BY rfl aa (args:=[kU p,.jA (sched.map .int)]) ?_ A2) ?_
  ·exact ⟨.pu (Bi p),.pu (l7 _),trivial⟩
  have hM0:M[0]?=some ⟨32,6,[qW ⟨x1,x2,x3,x4,x5,x6⟩]⟩:=by rw [hM.out];rfl
  have St:M[1]?=some ⟨32,6,[qW ⟨x1,x2,x3,x4,x5,x6⟩]⟩:=by rw [hM.out];rfl
  have Su:∀i,M[i+2]?=(Rf.RH R)[i]?.map (vT 2):=fun i=>by
   rw [hM.out,dJ ah,← dE];rfl
  have BZ:M[2]?=some (vT 2 (Rf.lE R)):=by
   have:=Su 0;rw [show (Rf.RH R)[0]?=some (Rf.lE R) from Rf.nj R .rn mc] at this;exact this
  have hM7:M[7]?=some (jD R.turns):=by
   have:=Su 5;rw [show (Rf.RH R)[5]?=some (jD R.turns) from Rf.nj R .tn D1] at this;rw [this];simp [vT,NK,EX]
  simp only [vT,NK,EX,List.map] at BZ;clear hM Su BY A2 FT K9 D8 Em;show jB _ _ _ _ _ ⟨_,M⟩;refine jw ?_;refine jB.q2 (UX (args:=[.jA (R.turns.map .int),.jA (R.turns.map .int)]) rfl aE (by simp +decide only [go_sem,List.map,xi];exact ⟨.pu (l7 _),rP.int (ty:=3) hM7 rfl⟩) (.base _) (O5 R.turns R.turns)) ?_;refine jw ?_;refine xe (i:=fun hg=>akK ⟨x1,x2,x3,x4,x5,x6⟩ ⟨x1,x2,x3,x4,x5,x6⟩) (hp:=Wz _ _) (hr:=?_);refine jw ?_;refine xe (i:=fun hg=>Z1) (hr:=?_);refine jw ?_;exact kO.bool rfl ah
 ·obtain ⟨b,hb⟩:∃b:Bool,b=true↔Rg.Ap p:=by
   by_cases hv:Rg.Ap p
   ·exact ⟨true,by simp [hv]⟩
   ·exact ⟨false,by simp [hv]⟩
  have he:wN b sched.length≠0:=by
   unfold wN;by_cases h1:b=true
   ·rw [ja h1];by_cases h2:200<sched.length
    ·rw [ja h2];decide
    ·exact absurd ⟨hb.1 h1,ae⟩ og
   ·rw [iZ h1];decide
  have rm:=Uc p sched b hb;have D8:=Rf.ahR b hb he;generalize wN b sched.length=e at he rm D8;have Em:=akL e he rm;have K9:=afR e he rm;have isa:Fn Tryd.prog 21 [IP,IP] (.bool (decide (K8=K8))):=(VM K8 K8).le ⟨Wy,Wy,trivial⟩;have EY:∀a∈[IP,IP],Pu a:=fun a ha=>by
   have:a=IP:=by simpa using ha
   subst this;refine .agg fun c hc=>?_;simp only [dC,dB,jd] at hc;rcases hc with rfl|rfl|rfl|rfl|rfl|rfl<;>exact .base _
  have auN:=Hid.mk EY;have pC:(e !=e)=false:=ah;have hbz:(e !=0)=true:=by simp [he]
  clear hb og rm EY he;refine jw ?_;refine oQ Em ?_ (hp:=HG _ _);refine jw ?_;refine oQ D8 ?_ (hp:=HG _ _);refine jw ?_;refine oQ K9 ?_ (hp:=HG _ _);refine jw ?_;refine xe (i:=fun hg=>isa) (hp:=auN.out) (hr:=?_);refine jw ?_;refine jK ?_ ?_ rfl;rotate_left
  ·simp
  refine jw ?_;refine j8 ?_ ?_ rfl;rotate_left
  ·simp
  refine jw ?_;refine xe (i:=fun hg=>Z1) (hr:=?_);refine jw ?_;exact kO.bool rfl ah
end Go.Ab
