/- Part. -/
import Derived.Shelf.Strconv.Itoa3
import Derived.Test.YthgicbkdckpeaaaDoorG05
import Derived.Test.YthgicbkdckpeaaaDoorG04
set_option linter.unusedSimpArgs false
set_option linter.unusedVariables false
set_option maxHeartbeats 4000000
namespace Go.Ab
open Go Go.Ab Go.Proofs Go.Ab.Ty
theorem u7 {s:jv} {k:Nat} {a b:jQ}:(s.jF k a).jF k b=s.jF k b:=by simp [jv.jF]
theorem lY {s:jv} {k:Nat} {a:jQ}:(s.jF k a).tasks.length=s.tasks.length:=by simp [jv.jF]
structure xb (s:jv) (k:Nat) (t':jQ) (s1:jv):Prop where
 eq:s1=s.jF k t'
 tk:s1.tasks[k]?=some t'
 len:s1.tasks.length=s.tasks.length
theorem xb.mk' {s:jv} {k:Nat} {t:jQ} (ht:s.tasks[k]?=some t) (t':jQ):∃s1,xb s k t' s1:=⟨_,rfl,lq ht,lY⟩
theorem xb.lF {s s1:jv} {k:Nat} {t t':jQ} (h:xb s k t' s1) (ht:s.tasks[k]?=some t) (hk:ix (.kQ k)<NN) (h1:t'.jZ=t.jZ) (h2:t'.kids=t.kids) (h3:t'.kg=t.kg):(HH s).set (ix (.kQ k)) (mG k t')=HH s1:=by
 rw [h.eq];exact FM ht hk h1 h2 h3
def j9 (t:jQ) (st:Int):jQ:={ t with ending:=st,state:=2,has:=-1 }
theorem DR {s s2:jv} (hw:WF s) {n:Nat} {t:jQ} {st:Int} (ht:s.tasks[n]?=some t) (lj:WF s2) (hS:jS Tryd.prog 122 [jI,.int n] (HH (s.jF n (j9 t st))) (.ky []) (HH s2)) :
 jS Tryd.prog 108 [jI,.int n,.int st] (HH s) (.ky []) (HH s2):=by
 obtain ⟨g1,g2,g3,g4,hn,g6⟩:=hw.k ht;obtain ⟨s1,h1⟩:=xb.mk' ht { t with ending:=st };obtain ⟨s3,h3⟩:=xb.mk' h1.tk { t with ending:=st,state:=2 };have e1:=h1.lF ht g1 rfl rfl rfl;have e3:=h3.lF h1.tk g1 rfl rfl rfl;obtain ⟨s4,h4⟩:=xb.mk' h3.tk (j9 t st);have e4:=h4.lF h3.tk g1 rfl rfl rfl;have ox:s.jF n (j9 t st)=s4:=by rw [h4.eq,h3.eq,h1.eq,u7,u7]
 rw [ox] at hS;have q1:=h1.tk;have q3:=h3.tk;clear ox h1 h3 h4;simp only [mG,vJ,j9] at e1 e3 e4;refine jS.i2 [(0,jI),(1,.int n),(2,.int st)] 3 27 NN Tryd.func108 (kC s) ?_;refine jw ?_;refine jB.q2 (lu (n:=n) (b:=ix .tk) aa aa ew aa ah hn aa) ?_;refine jw ?_;refine jB.p2 (rM hS aP rfl aa aa) ?_;refine jw ?_;exact .nE [] lj (vs:=[]) ar ah rfl (.pu (Pu.ky ah))
def tv (cs:List kh) (sa:List Nat):Nat→Nat→Option Nat
 | 0,j=>match cs[j]? with
   | some c=>if (c.code.steps.length:Int)≤c.pc then none else some 0
   | none=>some 0
 | m+1,j=>match cs[j]? with
   | some c=>if (c.code.steps.length:Int)≤c.pc then (match sa[m]? with
     | some j'=>tv cs sa m j'
     | none=>none) else some (m+1)
   | none=>some (m+1)
theorem Uv {cs:List kh} {sa:List Nat} {m j:Nat} {c:kh} (hc:cs[j]?=some c) (h:c.pc<c.code.steps.length):tv cs sa m j=some m:=by
 cases m<;>simp only [tv,hc]<;>rw [iZ ae]
theorem ajF {cs:List kh} {sa:List Nat} {j:Nat} {c:kh} (hc:cs[j]?=some c) (h:(c.code.steps.length:Int)≤c.pc):tv cs sa 0 j=none:=by
 simp only [tv,hc];rw [ja h]
theorem ajG {cs:List kh} {sa:List Nat} {m j j':Nat} {c:kh} (hc:cs[j]?=some c) (h:(c.code.steps.length:Int)≤c.pc) (hj:sa[m]?=some j'):tv cs sa (m+1) j=tv cs sa m j':=by
 simp only [tv,hc,hj];rw [ja h]
theorem WF.ly {s:jv} (hw:WF s) {j:Nat} {c:kh} (h1:c.vars.length≤1000) (h2:c.code.steps.length≤1000):WF (s.ly j c):=by
 have hl:(s.calls.set j c).length=s.calls.length:=dW;refine ⟨hw.nT,by show (s.calls.set j c).length≤_;rw [hl];exact hw.nC,hw.nK,hw.nB,hw.pl,hw.kK,hw.jV,hw.ends,fun t ht=>?_,hw.ke,hw.xu,hw.sz,hw.tF,fun x hx=>?_⟩
 ·obtain ⟨a1,a2⟩:=hw.kQ t ht;exact ⟨fun j hj=>by show _<(s.calls.set _ _).length;rw [hl];exact a1 j hj,a2⟩
 ·rcases eu hx with hx|rfl
  ·exact hw.tW x hx
  ·exact ⟨h1,h2⟩
theorem WF.jF {s:jv} (hw:WF s) {k:Nat} {t:jQ} (h1:(∀j∈t.jZ,j<s.calls.length)∧t.jC≤t.jZ.length∧t.jX<s.jE.length∧∀b,t.lB=some b→b<s.ke.length) (h2:t.jZ.length≤1000∧t.kids.length≤1000):WF (s.jF k t):=by
 have hl:(s.tasks.set k t).length=s.tasks.length:=dW;refine ⟨by show (s.tasks.set k t).length≤_;rw [hl];exact hw.nT,hw.nC,hw.nK,hw.nB,hw.pl,hw.kK,hw.jV,hw.ends,fun x hx=>?_,hw.ke,by show _=(s.tasks.set k t).length;rw [hl];exact hw.xu,hw.sz,fun x hx=>?_,hw.tW⟩
 ·rcases eu hx with hx|rfl
  ·exact hw.kQ x hx
  ·exact h1
 ·rcases eu hx with hx|rfl
  ·exact hw.tF x hx
  ·exact h2
theorem WF.xj {s:jv} (hw:WF s) {k:Nat} {t t':jQ} (ht:s.tasks[k]?=some t) (h1:t'.jZ=t.jZ) (h2:t'.jC≤t.jC) (h3:t'.jX=t.jX) (h4:t'.lB=t.lB) (h5:t'.kids=t.kids):WF (s.jF k t'):=by
 obtain ⟨a1,a2,a3,a4⟩:=hw.kQ t (dx ht);exact hw.jF ⟨by rw [h1];exact a1,by rw [h1];omega,by rw [h3];exact a3,by rw [h4];exact a4⟩ (by rw [h1,h5];exact hw.tF t (dx ht))
theorem Jt {s:jv} {k:Nat} {t:jQ} (ht:s.tasks[k]?=some t):s.jF k t=s:=by
 unfold jv.jF;have:s.tasks.set k t=s.tasks:=by
  obtain ⟨h1,h2⟩:=dt ht;rw [← h2];exact gh h1
 rw [this]
theorem alS {s s2:jv} (hw:WF s) {n j m:Nat} {t:jQ} {c:kh} (ht:s.tasks[n]?=some t) (hm:t.jC=m+1) (hj:t.jZ[m]?=some j) (hc:s.calls[j]?=some c) (uj:∀c∈s.calls,0≤c.pc∧c.pc≤1000) (lj:WF s2)
 (hS:tv (s.ly j { c with pc:=c.pc+1 }).calls t.jZ m j=none→jS Tryd.prog 122 [jI,.int n] (HH ((s.ly j { c with pc:=c.pc+1 }).jF n (j9 { t with jC:=1 } 3))) (.ky []) (HH s2))
 (hR:∀m',tv (s.ly j { c with pc:=c.pc+1 }).calls t.jZ m j=some m'→s2=(s.ly j { c with pc:=c.pc+1 }).jF n { t with jC:=m'+1 }) :
 jS Tryd.prog 92 [jI,.int n,kM j] (HH s) (.ky []) (HH s2):=by
 obtain ⟨g1,g2,g3,g4,hn,g6⟩:=hw.k ht;obtain ⟨k1,k2⟩:=hw.c hc;obtain ⟨p1,p2⟩:=uj c (dx hc);obtain ⟨v1,v2⟩:=hw.tW c (dx hc);have e1:=PJ (c':={ c with pc:=c.pc+1 }) hc k1 rfl;obtain ⟨s1,j6⟩:∃s1,s1=s.ly j { c with pc:=c.pc+1 }:=⟨_,rfl⟩
 rw [← j6] at e1 hS hR;have kq:WF s1:=by rw [j6];exact hw.ly v1 v2
 have aDW:∀c∈s1.calls,0≤c.pc∧c.pc≤1001:=fun x hx=>by
  rw [j6] at hx;rcases eu hx with hx|rfl
  ·have:=uj x hx;omega
  ·simp only;omega
 have lr:s1.tasks[n]?=some t:=by rw [j6];exact ht
 simp only [Ew] at e1;refine jS.i2 [(0,jI),(1,.int n),(2,kM j)] 3 67 NN Tryd.func92 (kC s) ?_;have hpw:IntKind.i64.wrap (c.pc+1)=c.pc+1:=nP ae ae;have I2:=Hid.mk hS;have ES:=Hid.mk hR;have oL:=Hid.mk j6;clear hS hR j6;refine jw ?_;refine jB.q2 (lu (n:=n) (b:=ix .tk) aa aa ew aa ah hn aa) ?_;refine jw ?_;refine jG.loop (J:=fun x:Nat×Nat×jv=>x.1≤m∧t.jZ[x.1]?=some x.2.1∧x.2.2=s1.jF n { t with jC:=x.1+1 }∧tv s1.calls t.jZ x.1 x.2.1=tv s1.calls t.jZ m j) (fun x=>⟨[(0,jI),(1,.int n),(2,kM x.2.1),(6,nW n)],HH x.2.2⟩) (fun x=>x.1) (m,j,s1) ⟨dD _,hj,by show s1=_;rw [← hm,Jt lr],rfl⟩ (.wf (hH:=e1)) ?_;rintro ⟨m',j',si⟩ ⟨x1,x2,x3,x4⟩;simp only at x1 x2 x3 x4;have nh:si.tasks[n]?=some { t with jC:=m'+1 }:=by rw [x3];exact lq lr
 have IN:si.tasks.length=s1.tasks.length:=by rw [x3,lY]
 have nr:WF si:=by rw [x3];exact kq.xj lr rfl (by show m'+1≤t.jC;omega) rfl rfl rfl
 obtain ⟨c',lC⟩:∃c',s1.calls[j']?=some c':=⟨_,dy ((kq.kQ t (dx lr)).1 j' (dx x2))⟩
 have vQ:si.calls[j']?=some c':=by rw [x3];exact lC
 obtain ⟨f1,f2,f3,f4,fn,f6⟩:=nr.k nh;obtain ⟨u1,u2⟩:=nr.c vQ;have hlc:m'<t.jZ.length:=(dt x2).1;have aCO:=(kq.tF t (dx lr)).1;have Fs:=Hid.mk x3;have To:=Hid.mk x4;clear x3 x4 e1 lr;refine jw ?_;refine mi (k:=10) follows (hr:=?_);refine jw ?_;refine kL (fun hd=>?_) (fun hd=>?_)
 ·simp at hd;cases m' with
  | zero =>
    have hn0:=To.out.symm.trans (ajF lC hd);have lK:=DR nr (st:=3) nh lj (by rw [Fs.out,u7];exact I2.out hn0);have kb:decide ((↑(0+1:Nat):Int)=1)=true:=az;clear hn0;refine jw ?_;refine j8 ?_ rfl rfl;refine jw ?_;refine jB.p2 (rM lK aP rfl aa aa) ?_;refine jw ?_;exact .nE [] lj (vs:=[]) ar ah rfl (.pu (Pu.ky ah))
  | succ m' =>
    have kb:decide ((↑(m'+1+1:Nat):Int)=1)=false:=aj;obtain ⟨j2,uH⟩:∃j2,t.jZ[m']?=some j2:=⟨_,dy ae⟩
    obtain ⟨s3,h3⟩:=xb.mk' nh { t with jC:=m'+1 };have e3:=h3.lF nh g1 rfl rfl rfl;have B1:=Hid.mk ((ajG lC hd uH).symm.trans To.out);have lV:Hid (s3=s1.jF n { t with jC:=m'+1 }):=⟨by rw [h3.eq,Fs.out,u7]⟩
    have q3:=h3.tk;clear h3;have Og:(t.jZ.map kM)[m']?=some (kM j2):=by rw [dE,uH];rfl
    simp only [mG,vJ] at e3;refine jw ?_;refine jK ?_ rfl rfl;refine jw ?_;have Xx:m'+1-0=m'+1:=rfl;have YN:IntKind.i64.wrap ((↑(m'+1:Nat):Int)-1)=(m':Int):=aW;have oh:IntKind.i64.wrap ((↑(m'+1+1:Nat):Int)-1)=((m'+1:Nat):Int):=aW;refine mi (k:=12) follows (hr:=?_);refine jw ?_;refine jB.q2 (OD (b:=ix (.jH n)) (l:=0) (h:=m'+1) (blk:=⟨135,1,t.jZ.map kM⟩) aa gn aa ah (by simp [vp,lk,go_sem]) (by simp +decide only [vp,go_sem, *]<;>rfl) (dL _) ae ag) ?_;refine jw ?_;refine mi (k:=10) follows (hr:=?_);refine jw ?_;refine jB.q2 (lu (n:=m') (b:=ix (.jH n)) aa aa gn aa ah ae aa) ?_;refine jw ?_;exact ⟨(m',j2,s3),⟨by show m'≤m;omega,uH,lV.out,B1.out⟩,by show m'<m'+1;omega,.wf⟩
 simp at hd;have jW:=ES.out m' (To.out.symm.trans (Uv lC hd));rw [← Fs.out] at jW;subst jW;refine jw ?_;exact .nE [] lj (vs:=[]) ar ah rfl (.pu (Pu.ky ah))
def jv.ld (s:jv) (l:List Int):jv:={ s with jE:=s.jE++[l] }
theorem alT {s:jv} {l:List Int}:(s.ld l).jE[s.jE.length]?=some l:=by simp [jv.ld]
theorem alU {s:jv} {l:List Int} {j:Nat} (h:j≠s.jE.length):(s.ld l).jE[j]?=s.jE[j]?:=by
 unfold jv.ld;simp only;rcases eE j s.jE.length with h1|h1
 ·exact dA h1
 ·rw [dT aj,dT h1]
theorem V6 {s:jv} {l:List Int} {j:Nat} (hj:j=s.jE.length) (h1:ix (.jX j)<NN):(HH s).set (ix (.jX j)) (jD l)=HH (s.ld l):=by
 subst hj;refine tZ (s:=s) (s':=s.ld l) [(.jX s.jE.length,jD l)] (wM ⟨h1,by simp only [blk];rw [alT]⟩) fun a ha=>?_;simp only [ef,ez,dz] at ha;cases a with
 | jX j=>simp only [blk];rw [alU fun e=>ha bP]
 | _=>rfl
theorem WF.ld {s:jv} (hw:WF s) {l:List Int} (h1:s.jE.length<MM) (h2:l.length=32):WF (s.ld l):=by
 have hl:(s.ld l).jE.length=s.jE.length+1:=by simp [jv.ld]
 refine ⟨hw.nT,hw.nC,by rw [hl];omega,hw.nB,fun x hx=>?_,fun j hj=>by rw [hl];have:=hw.kK j hj;omega,fun j hj=>by rw [hl];have:=hw.jV j hj;omega,fun o ho j e=>by rw [hl];have:=hw.ends o ho j e;omega,fun t ht=>?_,fun x hx=>?_,hw.xu,hw.sz,hw.tF,hw.tW⟩
 ·simp only [jv.ld,eg,dz] at hx;rcases hx with hx|rfl
  ·exact hw.pl x hx
  ·exact h2
 ·obtain ⟨a1,a2,a3,a4⟩:=hw.kQ t ht;exact ⟨a1,a2,by rw [hl];omega,a4⟩
 ·obtain ⟨a1,a2⟩:=hw.ke x hx;exact ⟨a1,fun j hj=>by rw [hl];have:=a2 j hj;omega⟩
theorem PL.jX {s:jv} (hw:WF s) {T:List jy} {ρ:Operand→AV} {op:Op} {l:List Int} (hM:s.jE.length<MM) (hl:l.length=32) (h:PL Tryd.prog (HH s++T) ρ op (.own (HH s++T).length 32 0 32) ((HH s++T)++[jD l])) (hT:∀b∈T,kI (Nb (HH s++T).length (ix (.jX s.jE.length))) b) :
 PL Tryd.prog (HH s++T) ρ op (lS s.jE.length) (HH (s.ld l)++T):=by
 have hi:ix (.jX s.jE.length)<NN:=mq hM;have h1:=PL.xX h (p:=ix (.jX s.jE.length)) (blk0:=jD []) (by rw [mZ (kC s) hi,qS s _ hi];simp only [blk];rw [dT (dD _)]) rfl (by simp;intro e;rw [e] at hl;cases hl) rE (vZ (Ea hw (a:=.jX s.jE.length) (by show ¬ _<_;omega) aP) hT) mI.Bv;rw [o7 (kC s) hi,V6 rfl hi] at h1;exact h1
theorem Mt {s:jv} (hw:WF s) {T:List jy} {ρ:Operand→AV} {c:Call} {fx:Operand} {x y:Nat} {a b:List Int} (hM:s.jE.length<MM) (hx:s.jE[x]?=some a) (hy:s.jE[y]?=some b) (hT:∀b∈T,kI (Nb (HH s++T).length (ix (.jX s.jE.length))) b)
 (hc:c.callee=.value fx) (qL:ρ fx=.j9 87 []) (ha:c.args.toList.map ρ++[]=[lS x,lS y]):PL Tryd.prog (HH s++T) ρ (.call c) (lS s.jE.length) (HH (s.ld (oH a b))++T):=by
 obtain ⟨i1,l1⟩:=hw.p hx;obtain ⟨i2,l2⟩:=hw.p hy;refine .jX hw hM (by rw [DM ae];exact l1) (rM (alP (by rw [mZ (kC s) i1,qS s _ i1];simp only [blk];rw [hx]) (by rw [mZ (kC s) i2,qS s _ i2];simp only [blk];rw [hy]) l1 l2 az az) ah hc qL ha) hT
theorem Vn {s:jv} (hw:WF s) {T:List jy} {ρ:Operand→AV} {c:Call} {fx:Operand} {x:Nat} {a:List Int} (hM:s.jE.length<MM) (hx:s.jE[x]?=some a) (hT:∀b∈T,kI (Nb (HH s++T).length (ix (.jX s.jE.length))) b)
 (hc:c.callee=.value fx) (qL:ρ fx=.j9 89 []) (ha:c.args.toList.map ρ++[]=[lS x]):PL Tryd.prog (HH s++T) ρ (.call c) (lS s.jE.length) (HH (s.ld a)++T):=by
 obtain ⟨i1,l1⟩:=hw.p hx;refine .jX hw hM l1 (rM (Pl (by rw [mZ (kC s) i1,qS s _ i1];simp only [blk];rw [hx]) l1 az az) ah hc qL ha) hT
def jv.oa (s:jv) (n j:Nat):jv:={ s with ends:=s.ends.set n (some j) }
theorem aoK {s:jv} {n j:Nat}:(HH s).set (ix .en) ⟨25,1,(s.ends.set n (some j)).map zO⟩=HH (s.oa n j):=
 tZ (s:=s) (s':=s.oa n j) [(.en,_)] (wM ⟨P4,rfl⟩) fun a ha=>by
  cases a with
  | en=>simp at ha
  | rn=>simp only [blk,lE,jv.oa,dW]
  | _=>rfl
theorem WF.oa {s:jv} (hw:WF s) {n j:Nat} (hj:j<s.jE.length):WF (s.oa n j):=by
 refine ⟨hw.nT,hw.nC,hw.nK,hw.nB,hw.pl,hw.kK,hw.jV,fun o ho i e=>?_,hw.kQ,hw.ke,by simp [jv.oa];exact hw.xu,hw.sz,hw.tF,hw.tW⟩;rcases eu ho with ho|rfl
 ·exact hw.ends o ho i e
 ·injection e with e;subst e;exact hj
def jv.o9 (s:jv) (l:List Nat):jv:={ s with ke:=s.ke++[l] }
theorem alV {s:jv} {l:List Nat}:(s.o9 l).ke[s.ke.length]?=some l:=by simp [jv.o9]
theorem alW {s:jv} {l:List Nat} {j:Nat} (h:j≠s.ke.length):(s.o9 l).ke[j]?=s.ke[j]?:=by
 unfold jv.o9;simp only;rcases eE j s.ke.length with h1|h1
 ·exact dA h1
 ·rw [dT aj,dT h1]
theorem alX {s:jv} {l:List Nat} {j:Nat} (hj:j=s.ke.length) (h1:ix (.lB j)<NN):(HH s).set (ix (.lB j)) ⟨25,1,l.map lS⟩=HH (s.o9 l):=by
 subst hj;refine tZ (s:=s) (s':=s.o9 l) [(.lB s.ke.length,⟨25,1,l.map lS⟩)] (wM ⟨h1,by simp only [blk];rw [alV]⟩) fun a ha=>?_;simp only [ef,ez,dz] at ha;cases a with
 | lB j=>simp only [blk];rw [alW fun e=>ha bP]
 | _=>rfl
theorem WF.o9 {s:jv} (hw:WF s) {j:Nat} (h1:s.ke.length<MM) (h2:j<s.jE.length):WF (s.o9 [j]):=by
 have hl:(s.o9 [j]).ke.length=s.ke.length+1:=by simp [jv.o9]
 refine ⟨hw.nT,hw.nC,hw.nK,by rw [hl];omega,hw.pl,hw.kK,hw.jV,hw.ends,fun t ht=>?_,fun x hx=>?_,hw.xu,hw.sz,hw.tF,hw.tW⟩
 ·obtain ⟨a1,a2,a3,a4⟩:=hw.kQ t ht;exact ⟨a1,a2,a3,fun b hb=>by rw [hl];have:=a4 b hb;omega⟩
 ·simp only [jv.o9,eg,dz] at hx;rcases hx with hx|rfl
  ·exact hw.ke x hx
  ·exact ⟨rfl,fun i hi=>by rw [dz] at hi;subst hi;exact h2⟩
theorem aoL {s:jv} (hw:WF s) {ρ:Operand→AV} {x y:Operand} {j:Nat} (hM:s.ke.length<MM) (hj:j<s.jE.length) (hx:ρ x=kD) (hy:ρ y=.jA [lS j]) :
 PL Tryd.prog (HH s) ρ (.call { callee:=.builtin .append,args:=#[x,y],argTypes:=#[81,81] }) (.own (ix (.lB s.ke.length)) 1 0 1) (HH (s.o9 [j])):=by
 have hi:ix (.lB s.ke.length)<NN:=mq hM;have h0:=OC (P:=Tryd.prog) (H:=HH s) (ρ:=ρ) (s:=x) (x:=y) hx hy fb M8 (fun e he=>aw) ah ah;have h1:=PL.xX h0 (p:=ix (.lB s.ke.length)) (blk0:=⟨25,1,[]⟩) (by rw [qS s _ hi];simp only [blk];rw [dT (dD _)]) rfl ah (fun e he d hd=>by
  rw [dz] at he;subst he;simp only [AV.cells,dz] at hd;subst hd;exact .own ⟨fun e=>(by have:=sg e;cases this),by
   have:ix (.jX j)<NN:=mq (by show j<MM;have:=hw.nK;omega);simp only [kC];omega⟩) (Ea hw (a:=.lB s.ke.length) (by show ¬ _<_;omega) aP) mI.Bv
 rw [← alX rfl hi];exact h1
def o8:jv→Nat→List Int→jv×Nat×Bool
 | s,e,[]=>(s,e,true)
 | s,e,k::ks=>match s.tasks[k.toNat]?,s.ends[k.toNat]? with
   | some tk,some (some x)=>if 3≤tk.state then o8 (s.ld (oH (s.jE.getD e []) (s.jE.getD x []))) s.jE.length ks else (s,e,false)
   | _,_=>(s,e,false)
def ye (t:jQ):Nat:=t.jZ.getD (t.jC-1) 0
def sK (S:jv→Nat→jv) (s:jv) (n j:Nat):jv:=match s.tasks[n]?,s.calls[j]? with
 | some t,some c=>match tv (s.ly j { c with pc:=c.pc+1 }).calls t.jZ (t.jC-1) j with
   | none=>S ((s.ly j { c with pc:=c.pc+1 }).jF n (j9 { t with jC:=1 } 3)) n
   | some m=>(s.ly j { c with pc:=c.pc+1 }).jF n { t with jC:=m+1 }
 | _,_=>s
def tL (s:jv) (p:Nat) (tp:jQ) (e:Nat):jv:=(s.o9 [e]).jF p { tp with waits:=-1,state:=1,lB:=some s.ke.length }
def qT (s:jv) (p:Nat) (tp:jQ) (e:Nat):jv:=match s.calls[ye tp]? with
 | some c=>if c.pc=(c.code.steps.length:Int)-1 then (((tL s p tp e).ld (oH (s.jE.getD tp.jX []) (s.jE.getD e []))).jF p { tp with waits:=-1,state:=1,lB:=some s.ke.length,jX:=s.jE.length }) else tL s p tp e
 | none=>tL s p tp e
def oe:Nat→jv→Nat→jv
 | 0,s,_=>s
 | f+1,s,n=>match s.tasks[n]? with
   | none=>s
   | some t=>if t.ending=0∨3≤t.state then s else match o8 s t.jX t.kids with
     | (s1,_,false)=>s1
     | (s1,e,true)=>if t.par<0 then (s1.oa n e).jF n { t with state:=t.ending } else match s1.tasks[t.par.toNat]? with
       | none=>s1
       | some tp=>if tp.waits=n then sK (oe f) (qT ((s1.oa n e).jF n { t with state:=t.ending }) t.par.toNat tp e) t.par.toNat (ye tp)
         else oe f ((s1.oa n e).jF n { t with state:=t.ending }) t.par.toNat
structure Iv (s:jv):Prop where
 wf:WF s
 kd:w9 s
 par:∀(k:Nat) (t:jQ),s.tasks[k]?=some t→t.par = -1∨∃p:Nat,t.par=(p:Int)∧p<k
 jH:∀(k:Nat) (t:jQ),s.tasks[k]?=some t→0<t.jC
 en:∀(k:Nat) (t:jQ),s.tasks[k]?=some t→3≤t.state→∃j,s.ends[k]?=some (some j)
 wt:∀(k:Nat) (t:jQ),s.tasks[k]?=some t→0≤t.waits→t.lB=none
 ed:∀(k:Nat) (t:jQ),s.tasks[k]?=some t→t.ending=0∨3≤t.ending
 rZ:∀(k:Nat) (t:jQ) (k':Nat) (t':jQ) (i i' j:Nat),s.tasks[k]?=some t→s.tasks[k']?=some t'→i<t.jC→i'<t'.jC→t.jZ[i]?=some j→t'.jZ[i']?=some j→k=k'∧i=i'
 qN:∀c∈s.calls,0≤c.pc∧c.pc≤c.code.steps.length
 rr:∀(k:Nat) (t:jQ) (j:Nat) (c:kh),s.tasks[k]?=some t→(t.state=1∨0≤t.waits)→t.jZ[t.jC-1]?=some j→s.calls[j]?=some c→c.pc<c.code.steps.length
theorem Iv.ld {s:jv} (h:Iv s) {l:List Int} (h1:s.jE.length<MM) (h2:l.length=32):Iv (s.ld l):=
 ⟨h.wf.ld h1 h2,⟨h.kd.kd⟩,h.par,h.jH,h.en,h.wt,h.ed,h.rZ,h.qN,h.rr⟩
theorem Iv.o9 {s:jv} (h:Iv s) {j:Nat} (h1:s.ke.length<MM) (h2:j<s.jE.length):Iv (s.o9 [j]):=
 ⟨h.wf.o9 h1 h2,⟨h.kd.kd⟩,h.par,h.jH,h.en,h.wt,h.ed,h.rZ,h.qN,h.rr⟩
theorem Iv.oa {s:jv} (h:Iv s) {n j:Nat} (hj:j<s.jE.length):Iv (s.oa n j):=
 ⟨h.wf.oa hj,⟨h.kd.kd⟩,h.par,h.jH,fun k t h1 h2=>by
  obtain ⟨i,hi⟩:=h.en k t h1 h2;show ∃j',(s.ends.set n (some j))[k]?=_;rw [eN];split
  ·rename_i e;subst e;exact ⟨j,by rw [ja (dt hi).1]⟩
  ·exact ⟨i,hi⟩,h.wt,h.ed,h.rZ,h.qN,h.rr⟩
theorem Iv.jF {s:jv} (h:Iv s) {k:Nat} {t t':jQ} (ht:s.tasks[k]?=some t) (h1:t'.jZ=t.jZ) (h2:t'.jC≤t.jC) (Tp:0<t'.jC) (h3:t'.kids=t.kids) (h4:t'.par=t.par) (h5:t'.jX<s.jE.length) (h6:∀b,t'.lB=some b→b<s.ke.length)
 (h7:3≤t'.state→∃j,s.ends[k]?=some (some j)) (h8:0≤t'.waits→t'.lB=none) (h9:t'.ending=0∨3≤t'.ending)
 (uF:(t'.state=1∨0≤t'.waits)→∀(j:Nat) (c:kh),t.jZ[t'.jC-1]?=some j→s.calls[j]?=some c→c.pc<c.code.steps.length):Iv (s.jF k t'):=by
 have key:∀ {p:Nat→jQ→Prop},(∀i u,s.tasks[i]?=some u→p i u)→p k t'→∀i u,(s.jF k t').tasks[i]?=some u→p i u:=fun {p} g1 g2 i u hu=>by
  by_cases e:k=i
  ·subst e;rw [lq ht] at hu;injection hu with hu;subst hu;exact g2
  ·rw [mw e] at hu;exact g1 i u hu
 obtain ⟨a1,a2,a3,a4⟩:=h.wf.kQ t (dx ht);refine ⟨h.wf.jF ⟨by rw [h1];exact a1,by rw [h1];omega,h5,h6⟩ (by rw [h1,h3];exact h.wf.tF t (dx ht)),⟨key (p:=fun i u=>∀c:Int,c∈u.kids→∃j:Nat,c=j∧i<j∧j<(s.jF k t').tasks.length) (by rw [lY];exact h.kd.kd) (by rw [lY,h3];exact h.kd.kd k t ht)⟩,
  key h.par (by rw [h4];exact h.par k t ht),key h.jH Tp,key h.en h7,key h.wt h8,key h.ed h9,?_,h.qN,fun i u j c hu=>key (p:=fun i u=>(u.state=1∨0≤u.waits)→u.jZ[u.jC-1]?=some j→s.calls[j]?=some c→c.pc<c.code.steps.length) (fun i u hu=>h.rr i u j c hu) (fun g1 g2=>uF g1 j c (by rw [← h1];exact g2)) i u hu⟩
 intro i u i' u' x x' j hu uC hx mH hj mC;have cv:∀ {i:Nat} {u:jQ} {x:Nat},(s.jF k t').tasks[i]?=some u→x<u.jC→u.jZ[x]?=some j→∃v:jQ,s.tasks[i]?=some v∧x<v.jC∧v.jZ[x]?=some j:=fun {i u x} hu hx hj=>by
  by_cases e:k=i
  ·subst e;rw [lq ht] at hu;injection hu with hu;subst hu;exact ⟨t,ht,ae,by rw [← h1];exact hj⟩
  ·rw [mw e] at hu;exact ⟨u,hu,hx,hj⟩
 obtain ⟨v,b1,b2,b3⟩:=cv hu hx hj;obtain ⟨v',E5,E4,I9⟩:=cv uC mH mC;exact h.rZ i v i' v' x x' j b1 E5 b2 E4 b3 I9
theorem getD_some {α:Type} {l:List α} {i:Nat} {x d:α} (h:l[i]?=some x):l.getD i d=x:=by rw [dI,h];rfl
theorem Pe:∀(ks:List Int) (s:jv) (e:Nat),Iv s→e<s.jE.length→s.jE.length+ks.length≤MM→Iv (o8 s e ks).1∧(o8 s e ks).2.1<(o8 s e ks).1.jE.length∧(o8 s e ks).1={ s with jE:=(o8 s e ks).1.jE }∧s.jE.length≤(o8 s e ks).1.jE.length∧(o8 s e ks).1.jE.length≤s.jE.length+ks.length:=by
 intro ks
 induction ks with
 | nil=>intro s e h he hb;exact ⟨h,he,rfl,dD _,dD _⟩
 | cons k ks ih =>
   intro s e h he hb;have J5:Iv s∧e<s.jE.length∧s={ s with jE:=s.jE }∧s.jE.length≤s.jE.length∧s.jE.length≤s.jE.length+(k::ks).length:=⟨h,he,rfl,dD _,ae⟩
   simp only [ff] at hb;simp only [o8];split
   ·rename_i tk x h1 h2;split
    ·have hx:x<s.jE.length:=h.wf.ends _ (dx h2) x rfl;have hl:∀i,i<s.jE.length→(s.jE.getD i []).length=32:=fun i hi=>by
      rw [getD_some (dy hi)];exact h.wf.pl _ (ey hi)
     have nG:(s.ld (oH (s.jE.getD e []) (s.jE.getD x []))).jE.length=s.jE.length+1:=by simp [jv.ld]
     obtain ⟨a1,a2,a3,a4,a5⟩:=ih (s.ld (oH (s.jE.getD e []) (s.jE.getD x []))) s.jE.length (h.ld ae (by rw [DM (by rw [hl e he,hl x hx]),hl e he])) ae ae;exact ⟨a1,a2,a3,ae,by simp only [ff];omega⟩
    ·exact J5
   ·exact J5
theorem Iv.ly {s:jv} (h:Iv s) {j:Nat} {c c':kh} (hc:s.calls[j]?=some c) (h1:c'.vars.length≤1000) (h2:c'.code=c.code) (h3:0≤c'.pc∧c'.pc≤c'.code.steps.length) (h4:∀(k:Nat) (t:jQ),s.tasks[k]?=some t→(t.state=1∨0≤t.waits)→t.jZ[t.jC-1]?=some j→c'.pc<c'.code.steps.length):Iv (s.ly j c'):=by
 refine ⟨h.wf.ly h1 (by rw [h2];exact (h.wf.tW c (dx hc)).2),⟨h.kd.kd⟩,h.par,h.jH,h.en,h.wt,h.ed,h.rZ,fun x hx=>?_,fun k t i x ht hs hi hx=>?_⟩
 ·rcases eu hx with hx|rfl
  ·exact h.qN x hx
  ·exact h3
 ·by_cases e:j=i
  ·subst e;rw [yw hc] at hx;injection hx with hx;subst hx;exact h4 k t ht hs hi
  ·rw [Bk e] at hx;exact h.rr k t i x ht hs hi hx
theorem Vk {cs:List kh} {sa:List Nat}:∀ {m j m':Nat},tv cs sa m j=some m'→sa[m]?=some j→m'≤m∧∀(i:Nat) (c:kh),sa[m']?=some i→cs[i]?=some c→c.pc<c.code.steps.length:=by
 intro m
 induction m with
 | zero =>
   intro j m' h hj;simp only [tv] at h;split at h
   ·rename_i c hc;split at h
    ·cases h
    ·injection h with h;subst h;exact ⟨dD _,fun i c' h1 h2=>by rw [hj] at h1;injection h1 with h1;subst h1;rw [hc] at h2;injection h2 with h2;subst h2;omega⟩
   ·rename_i hc;injection h with h;subst h;exact ⟨dD _,fun i c' h1 h2=>by rw [hj] at h1;injection h1 with h1;subst h1;rw [hc] at h2;cases h2⟩
 | succ m ih =>
   intro j m' h hj;simp only [tv] at h;split at h
   ·rename_i c hc;split at h
    ·split at h
     ·rename_i j' mC;obtain ⟨a1,a2⟩:=ih h mC;exact ⟨ae,a2⟩
     ·cases h
    ·injection h with h;subst h;exact ⟨dD _,fun i c' h1 h2=>by rw [hj] at h1;injection h1 with h1;subst h1;rw [hc] at h2;injection h2 with h2;subst h2;omega⟩
   ·rename_i hc;injection h with h;subst h;exact ⟨dD _,fun i c' h1 h2=>by rw [hj] at h1;injection h1 with h1;subst h1;rw [hc] at h2;cases h2⟩
theorem Iv.go {s:jv} (h:Iv s) {n j:Nat} {t t':jQ} {c:kh} (ht:s.tasks[n]?=some t) (hj:t.jZ[t.jC-1]?=some j) (hc:s.calls[j]?=some c) (hp:c.pc<c.code.steps.length) (h1:t'.jZ=t.jZ) (h2:t'.jC≤t.jC) (Tp:0<t'.jC) (h3:t'.kids=t.kids) (h4:t'.par=t.par) (h5:t'.jX=t.jX) (h6:t'.lB=t.lB)
 (h7:t'.state<3) (h8:t'.waits<0) (h9:t'.ending=0∨3≤t'.ending) (uF:t'.state=1→∀(i:Nat) (x:kh),t.jZ[t'.jC-1]?=some i→(s.ly j { c with pc:=c.pc+1 }).calls[i]?=some x→x.pc<x.code.steps.length):Iv ((s.ly j { c with pc:=c.pc+1 }).jF n t'):=by
 obtain ⟨a1,a2,a3,a4⟩:=h.wf.kQ t (dx ht);have pB:=h.jH n t ht;obtain ⟨t0,uL⟩:∃t0:jQ,t0={ t with state:=2,waits:=-1 }:=⟨_,rfl⟩
 have i1:Iv (s.jF n t0):=h.jF ht (by rw [uL]) (by rw [uL];exact dD _) (by rw [uL];exact pB) (by rw [uL]) (by rw [uL]) (by rw [uL];exact a3) (by rw [uL];exact a4) (by rw [uL];intro e;simp at e) (by rw [uL];intro e;simp at e) (by rw [uL];exact h.ed n t ht) (by rw [uL];intro e;simp at e);have i2:Iv ((s.jF n t0).ly j { c with pc:=c.pc+1 }):=i1.ly hc (h.wf.tW c (dx hc)).1 rfl (by have:=h.qN c (dx hc);simp only;omega) fun k u hu hs hi=>by
  by_cases e:n=k
  ·subst e;rw [lq ht] at hu;injection hu with hu;subst hu;rw [uL] at hs;simp at hs
  ·rw [mw e] at hu;have:=(h.rZ n t k u (t.jC-1) (u.jC-1) j ht hu ae (by have:=h.jH k u hu;omega) hj hi).1;exact absurd this e
 have awS:((s.jF n t0).ly j { c with pc:=c.pc+1 }).tasks[n]?=some t0:=lq ht;have i3:=i2.jF (t':=t') awS (by rw [uL];exact h1) (by rw [uL];exact h2) Tp (by rw [uL];exact h3) (by rw [uL];exact h4) (by rw [h5];exact a3) (by rw [h6];exact a4) (fun e=>ae) (fun e=>ae) h9 (fun e i x hi hx=>by
  rcases e with e|e
  ·exact uF e i x (by rw [uL] at hi;exact hi) hx
  ·omega)
 have he:((s.jF n t0).ly j { c with pc:=c.pc+1 }).jF n t'=(s.ly j { c with pc:=c.pc+1 }).jF n t':=by simp [jv.jF,jv.ly]
 rw [← he];exact i3
structure Sb (s s':jv) (f:Nat):Prop where
 tl:s'.tasks.length=s.tasks.length
 cl:s'.calls.length=s.calls.length
 pl:s'.jE.length≤s.jE.length+1001*f
 bl:s'.ke.length≤s.ke.length+f
def Tq (S:jv→Nat→jv) (f:Nat):Prop:=∀(s:jv) (n:Nat),Iv s→s.jE.length+1001*f≤MM→s.ke.length+f≤MM→Iv (S s n)∧Sb s (S s n) f
theorem Ml {S:jv→Nat→jv} {f:Nat} (hS:Tq S f) {s:jv} (h:Iv s) {n j:Nat} {t:jQ} {c:kh} (ht:s.tasks[n]?=some t) (jP:t.state<3) (mr:t.waits<0) (hj:t.jZ[t.jC-1]?=some j) (hc:s.calls[j]?=some c) (hp:c.pc<c.code.steps.length)
 (pH:s.jE.length+1001*f≤MM) (nV:s.ke.length+f≤MM):Iv (sK S s n j)∧Sb s (sK S s n j) f:=by
 have pB:=h.jH n t ht;have lK:(s.ly j { c with pc:=c.pc+1 }).calls.length=s.calls.length:=by simp [jv.ly]
 unfold sK;rw [ht,hc];simp only;cases Rh:tv (s.ly j { c with pc:=c.pc+1 }).calls t.jZ (t.jC-1) j with
 | none =>
   have i1:=h.go (t':=j9 { t with jC:=1 } 3) ht hj hc hp rfl (by show 1≤_;omega) (by show 0<1;omega) rfl rfl rfl rfl cE mr (.inr cG) (fun e=>by have:(2:Int)=1:=e;omega);obtain ⟨b1,b2⟩:=hS _ n i1 pH nV;exact ⟨b1,⟨by rw [b2.tl,lY];rfl,by rw [b2.cl];exact lK,b2.pl,b2.bl⟩⟩
 | some m =>
   obtain ⟨p1,p2⟩:=Vk Rh hj;have i1:=h.go (t':={ t with jC:=m+1 }) ht hj hc hp rfl (by show m+1≤_;omega) (by show 0<m+1;omega) rfl rfl rfl rfl jP mr (h.ed n t ht) (fun _ i x hi hx=>p2 i x hi hx);exact ⟨i1,⟨by rw [lY];rfl,lK,dm,cQ⟩⟩
theorem aoM {s:jv} {n e:Nat} (h:n<s.ends.length):(s.oa n e).ends[n]?=some (some e):=by
 unfold jv.oa;simp only;rw [ee h]
theorem Iv.end {s:jv} (h:Iv s) {n e:Nat} {t:jQ} (ht:s.tasks[n]?=some t) (he:e<s.jE.length) (hE:t.ending≠0):Iv ((s.oa n e).jF n { t with state:=t.ending }):=by
 obtain ⟨a1,a2,a3,a4⟩:=h.wf.kQ t (dx ht);have BL:=h.ed n t ht;have hn:n<s.ends.length:=by rw [h.wf.xu];exact (dt ht).1
 exact (h.oa he).jF (s:=s.oa n e) (t:=t) ht rfl (dD _) (h.jH n t ht) rfl rfl a3 a4 (fun _=>⟨e,aoM hn⟩) (h.wt n t ht) BL (fun g j c=>h.rr n t j c ht (by
  rcases g with g|g
  ·have:t.ending=1:=g;omega
  ·exact .inr g))
theorem JE {s:jv} (h:Iv s) {p:Nat} {tp:jQ} (ht:s.tasks[p]?=some tp):∃c,tp.jZ[tp.jC-1]?=some (ye tp)∧s.calls[ye tp]?=some c:=by
 obtain ⟨a1,a2,a3,a4⟩:=h.wf.kQ tp (dx ht);have:=h.jH p tp ht;have hl:tp.jC-1<tp.jZ.length:=ae;have h1:tp.jZ[tp.jC-1]?=some (ye tp):=by unfold ye;rw [dy hl,getD_some (dy hl)]
 exact ⟨_,h1,dy (a1 _ (dx h1))⟩
structure Wk1 (s s':jv) (p:Nat):Prop where
 iv:Iv s'
 tl:s'.tasks.length=s.tasks.length
 cl:s'.calls=s.calls
 pl:s'.jE.length≤s.jE.length+1
 bl:s'.ke.length=s.ke.length+1
theorem Vo {s:jv} (h:Iv s) {p e:Nat} {tp:jQ} (ht:s.tasks[p]?=some tp) (hw:0≤tp.waits) (he:e<s.jE.length) (hb:s.ke.length<MM):Wk1 s (tL s p tp e) p:=by
 obtain ⟨a1,a2,a3,a4⟩:=h.wf.kQ tp (dx ht);refine ⟨(h.o9 hb he).jF (s:=s.o9 [e]) (t:=tp) ht rfl (dD _) (h.jH p tp ht) rfl rfl a3 (fun b hb=>?_) (fun g=>absurd g (by show ¬(3:Int)≤1;omega)) (fun g=>absurd g (by show ¬(0:Int) ≤ -1;omega)) (h.ed p tp ht) (fun _ j c hj hc=>h.rr p tp j c ht (.inr hw) hj hc),by unfold tL;rw [lY];rfl,rfl,fi _,by simp [tL,jv.jF,jv.o9]⟩
 ·injection hb with hb;simp [jv.o9];omega
theorem Mi {s:jv} (h:Iv s) {p e:Nat} {tp:jQ} (ht:s.tasks[p]?=some tp) (hw:0≤tp.waits) (he:e<s.jE.length) (hb:s.ke.length<MM) (hp:s.jE.length<MM):Wk1 s (qT s p tp e) p:=by
 obtain ⟨a1,a2,a3,a4⟩:=h.wf.kQ tp (dx ht);have h1:=Vo h ht hw he hb;unfold qT;split
 ·rename_i c hc;split
  ·have hl:∀i,i<s.jE.length→(s.jE.getD i []).length=32:=fun i hi=>by
    rw [getD_some (dy hi)];exact h.wf.pl _ (ey hi)
   have ov:((tL s p tp e).ld (oH (s.jE.getD tp.jX []) (s.jE.getD e []))).tasks[p]?=some { tp with waits:=-1,state:=1,lB:=some s.ke.length }:=lq ht;have i2:=(h1.iv.ld (l:=oH (s.jE.getD tp.jX []) (s.jE.getD e [])) hp (by rw [DM (by rw [hl _ a3,hl e he]),hl _ a3])).jF (t':={ tp with waits:=-1,state:=1,lB:=some s.ke.length,jX:=s.jE.length }) ov rfl (dD _) (h.jH p tp ht) rfl rfl cO (fun b hb=>by injection hb with hb;simp [jv.ld,tL,jv.jF,jv.o9];omega) (fun g=>absurd g (by show ¬(3:Int)≤1;omega)) (fun g=>absurd g (by show ¬(0:Int) ≤ -1;omega)) (h.ed p tp ht) (fun _ j c hj hc=>h.rr p tp j c ht (.inr hw) hj hc);exact ⟨i2,cO,rfl,cO,cO⟩
  ·exact h1
 ·exact h1
theorem Vp {s:jv} {p e:Nat} {tp:jQ} (ht:s.tasks[p]?=some tp):∃t,(qT s p tp e).tasks[p]?=some t∧t.state=1∧t.waits = -1∧t.jZ=tp.jZ∧t.jC=tp.jC:=by
 have h1:(tL s p tp e).tasks[p]?=some { tp with waits:=-1,state:=1,lB:=some s.ke.length }:=lq ht;unfold qT;split
 ·split
  ·exact ⟨_,lq (s:=(tL s p tp e).ld _) h1,rfl,rfl,rfl,rfl⟩
  ·exact ⟨_,h1,rfl,rfl,rfl,rfl⟩
 ·exact ⟨_,h1,rfl,rfl,rfl,rfl⟩
theorem DK:∀f:Nat,Tq (oe f) f:=by
 intro f
 induction f with
 | zero=>intro s n h _ _;exact ⟨h,⟨rfl,rfl,dD _,dD _⟩⟩
 | succ f ih =>
   intro s n h pH nV;have J5:Iv s∧Sb s s (f+1):=⟨h,⟨rfl,rfl,ae,ae⟩⟩
   simp only [oe];split
   ·exact J5
   ·rename_i t ht;split
    ·exact J5
    ·rename_i lK;obtain ⟨a1,a2,a3,a4⟩:=h.wf.kQ t (dx ht);have pR:=(h.wf.tF t (dx ht)).2;obtain ⟨k1,k2,k3,k4,k5⟩:=Pe t.kids s t.jX h a3 ae;split
     ·rename_i s1 e hk;rw [hk] at k1 k2 k3 k4 k5;simp only at k1 k2 k3 k4 k5;exact ⟨k1,⟨by rw [k3],by rw [k3],ae,by rw [k3];simp only;omega⟩⟩
     ·rename_i s1 e hk;rw [hk] at k1 k2 k3 k4 k5;simp only at k1 k2 k3 k4 k5;have re:s1.tasks=s.tasks:=by rw [k3]
      have Kw:s1.calls=s.calls:=by rw [k3]
      have lR:s1.ke=s.ke:=by rw [k3]
      have lr:s1.tasks[n]?=some t:=by rw [re];exact ht
      have i2:=k1.end lr k2 (fun g=>lK (.inl g));have l2:((s1.oa n e).jF n { t with state:=t.ending }).tasks.length=s.tasks.length:=by rw [lY];show s1.tasks.length=_;rw [re]
      split
      ·exact ⟨i2,⟨l2,by show s1.calls.length=_;rw [Kw],by show s1.jE.length≤_;omega,by show s1.ke.length≤_;rw [lR];omega⟩⟩
      ·rename_i we;have j6:Iv s1∧Sb s s1 (f+1):=⟨k1,⟨by rw [re],by rw [Kw],ae,by rw [lR];omega⟩⟩
       split
       ·exact j6
       ·rename_i tp ns;have EY:t.par.toNat≠n:=by
         rcases h.par n t ht with e1|⟨p,e1,e2⟩
         ·omega
         ·rw [e1];simp;omega
        have uR:((s1.oa n e).jF n { t with state:=t.ending }).tasks[t.par.toNat]?=some tp:=by rw [mw (fun g=>EY g.symm)];exact ns
        have Rn:s1.jE.length+1+1001*f≤MM:=ae;split
        ·rename_i mr;have hw:=Mi (e:=e) i2 uR ae k2 (by show s1.ke.length<_;rw [lR];omega) (by show s1.jE.length<_;omega);obtain ⟨tq,q1,q2,q3,q4,q5⟩:=Vp (e:=e) uR;obtain ⟨c,c1,c2⟩:=JE i2 uR;have zW:c.pc<c.code.steps.length:=i2.rr _ tp _ c uR (.inr ae) c1 c2;have NM:(qT ((s1.oa n e).jF n { t with state:=t.ending }) t.par.toNat tp e).jE.length≤s1.jE.length+1:=hw.pl;have BO:(qT ((s1.oa n e).jF n { t with state:=t.ending }) t.par.toNat tp e).ke.length=s.ke.length+1:=by rw [hw.bl];show s1.ke.length+1=_;rw [lR]
         obtain ⟨g1,g2⟩:=Ml ih hw.iv q1 ae ae (by rw [q4,q5];exact c1) (by rw [hw.cl];exact c2) zW ae ae;exact ⟨g1,⟨by rw [g2.tl,hw.tl,l2],by rw [g2.cl,hw.cl];show s1.calls.length=_;rw [Kw],by have:=g2.pl;omega,by have:=g2.bl;omega⟩⟩
        ·obtain ⟨g1,g2⟩:=ih _ t.par.toNat i2 (by show s1.jE.length+_≤_;omega) (by show s1.ke.length+_≤_;rw [lR];omega);exact ⟨g1,⟨by rw [g2.tl,l2],by rw [g2.cl];show s1.calls.length=_;rw [Kw],by have:=g2.pl;have e2:((s1.oa n e).jF n { t with state:=t.ending }).jE.length=s1.jE.length:=rfl;omega,by have:=g2.bl;have e2:((s1.oa n e).jF n { t with state:=t.ending }).ke.length=s.ke.length:=(by show s1.ke.length=_;rw [lR]);omega⟩⟩
def EU (S:jv→Nat→jv) (f:Nat):Prop:=∀(s:jv) (n:Nat),Iv s→n<s.tasks.length→n<f→s.jE.length+1001*f≤MM→s.ke.length+f≤MM→jS Tryd.prog 122 [jI,.int n] (HH s) (.ky []) (HH (S s n))
theorem Vq {s:jv} (hw:WF s) {ρ:Operand→AV} {c:Call} {fx:Operand} {x y:Nat} {a b:List Int} (hM:s.jE.length<MM) (hx:s.jE[x]?=some a) (hy:s.jE[y]?=some b)
 (hc:c.callee=.value fx) (qL:ρ fx=.j9 87 []) (ha:c.args.toList.map ρ++[]=[lS x,lS y]):PL Tryd.prog (HH s) ρ (.call c) (lS s.jE.length) (HH (s.ld (oH a b))):=by
 have:=Mt hw (T:=[]) hM hx hy ah hc qL ha;simpa using this
theorem agU {s z:jv} (h:z={ s with jE:=z.jE }) (l:List Int):z.ld l={ s with jE:=(z.ld l).jE }:=by rw [h];rfl
theorem Ui {S:jv→Nat→jv} {f:Nat} (hS:Tq S f) (BV:EU S f) {s:jv} (h:Iv s) {n j:Nat} {t:jQ} {c:kh} (ht:s.tasks[n]?=some t) (nI:n<f) (jP:t.state<3) (mr:t.waits<0) (hj:t.jZ[t.jC-1]?=some j) (hc:s.calls[j]?=some c) (hp:c.pc<c.code.steps.length)
 (pH:s.jE.length+1001*f≤MM) (nV:s.ke.length+f≤MM):jS Tryd.prog 92 [jI,.int n,kM j] (HH s) (.ky []) (HH (sK S s n j)):=by
 have pB:=h.jH n t ht;obtain ⟨m,hm⟩:∃m,t.jC=m+1:=⟨t.jC-1,ae⟩
 have mC:t.jZ[m]?=some j:=by rw [hm] at hj;exact hj
 have hG:=Ml hS h ht jP mr hj hc hp pH nV;refine alS h.wf ht hm mC hc (fun c hc=>by have:=h.qN c hc;have:=(h.wf.tW c hc).2;omega) hG.1.wf (fun hn=>?_) (fun m' rh=>?_)
 ·have i1:=h.go (t':=j9 { t with jC:=1 } 3) ht hj hc hp rfl (by show 1≤_;omega) (by show 0<1;omega) rfl rfl rfl rfl cE mr (.inr cG) (fun e=>by have:(2:Int)=1:=e;omega);have h2:=BV _ n i1 (by rw [lY];exact (dt ht).1) nI pH nV;have he:sK S s n j=S ((s.ly j { c with pc:=c.pc+1 }).jF n (j9 { t with jC:=1 } 3)) n:=by
   unfold sK;rw [ht,hc];simp only;rw [hm,eM,hn]
  rw [he];exact h2
 ·unfold sK;rw [ht,hc];simp only;rw [hm,eM,rh]
theorem OE:∀f:Nat,EU (oe f) f:=by
 intro f
 induction f with
 | zero=>intro s n _ _ h;omega
 | succ f ih =>
   intro s n h hn nI pH nV;have hw:=h.wf;obtain ⟨t,ht⟩:∃t,s.tasks[n]?=some t:=⟨_,dy hn⟩
   obtain ⟨g1,g2,g3,g4,_,g6⟩:=hw.k ht;obtain ⟨a1,a2,a3,a4⟩:=hw.kQ t (dx ht);have pR:=(hw.tF t (dx ht)).2;have io:=yv ht g1;have mg:=(DK (f+1) s n h pH nV).1.wf;have hF:=Hid.mk (show oe (f+1) s n=_ from rfl);obtain ⟨R,hR⟩:∃R,R=oe (f+1) s n:=⟨_,rfl⟩
   rw [← hR] at mg ⊢;have xS:=Hid.mk hR;clear hR hF;have oY:=D7 (H:=HH s) (k:=n) (l:=t.kids) cY;simp +decide only [go_sem] at oY;have h':=Hid.mk h;have Dj:=Hid.mk ih;clear h ih;refine jS.i2 [(0,jI),(1,.int n)] 2 155 NN Tryd.func122 (kC s) ?_;refine jw ?_;refine jB.q2 (lu (n:=n) (b:=ix .tk) aa aa ew aa ah hn aa) ?_;refine jw ?_;by_cases Ja:t.ending=0
   ·have kb:(t.ending==0)=true:=by simp [Ja]
    refine wu (.bool false) ?_ (hx:=by simp [oR,gc,Ja]);refine jw ?_;refine j8 ?_ rfl rfl;refine jw ?_;have sI:R=s:=by rw [xS.out];simp only [oe,ht];rw [ja (.inl Ja)]
    rw [sI];exact .nE [] hw (vs:=[]) ar ah rfl (.pu (Pu.ky ah))
   have kb:(t.ending==0)=false:=by simp [Ja]
   refine jB.Nl rfl rfl aa rfl (rM io ah rfl aa aa) ?_;refine jw ?_;by_cases DH:3≤t.state
   ·have um:decide (3≤t.state)=true:=by simp [DH]
    refine j8 ?_ rfl aa;refine jw ?_;have sI:R=s:=by rw [xS.out];simp only [oe,ht];rw [ja (.inr DH)]
    rw [sI];exact .nE [] hw (vs:=[]) ar ah rfl (.pu (Pu.ky ah))
   have um:decide (3≤t.state)=false:=by simp [DH]
   refine jK ?_ rfl aa;refine jw ?_;have uX:=h'.out.kd.kd n t ht;refine jG.loop (J:=fun x:Nat×jv×Nat=>x.1≤t.kids.length∧x.2.1={ s with jE:=x.2.1.jE }∧Iv x.2.1∧x.2.2<x.2.1.jE.length∧x.2.1.jE.length≤s.jE.length+x.1∧o8 s t.jX t.kids=o8 x.2.1 x.2.2 (t.kids.drop x.1)) (fun x=>⟨[(0,jI),(1,.int n),(4,nW n),(5,lS x.2.2),(33,xq n t.kids),(34,.int t.kids.length),(35,.int x.1)],HH x.2.1⟩) (fun x=>t.kids.length-x.1) (0,s,t.jX) ⟨dL _,rfl,h'.out,a3,dD _,rfl⟩ .wf ?_;rintro ⟨i,si,e⟩ ⟨x1,x2,x3,x4,x5,x6⟩;simp only at x1 x2 x3 x4 x5 x6;have x2':=Hid.mk x2;have Fs:=Hid.mk x3;have Ts:=Hid.mk x6;have nr:=x3.wf;have nh:si.tasks[n]?=some t:=by rw [x2];exact ht
   have IN:Hid (si.tasks.length=s.tasks.length):=⟨by rw [x2]⟩
   have nk:=Hid.mk ht;clear x2 x3 x6 io oY ht g6;obtain ⟨f1,f2,f3,f4,fn,f6⟩:=nr.k nh;refine jw ?_;refine kL (fun hd=>?_) (fun hd=>?_)
   ·simp at hd;obtain ⟨k,o0⟩:∃k,t.kids[i]?=some k:=⟨_,dy hd⟩
    obtain ⟨j,rfl,tQ,uH⟩:=uX k (dx o0);have EA:(t.kids.map AV.int)[i]?=some (.int j):=by rw [dE,o0];rfl
    have LF:=Mg (k:=n) o0;obtain ⟨tj,LH⟩:∃tj,si.tasks[j]?=some tj:=⟨_,dy (by rw [IN.out];exact uH)⟩
    obtain ⟨y1,y2,y3,y4,yn,y6⟩:=nr.k LH;have io:=yv LH y1;have Oh:Hid (t.kids.drop i=(j:Int)::t.kids.drop (i+1)):=⟨by rw [fS hd];congr 1;rw [dy hd] at o0;injection o0⟩
    clear o0 uX;refine jw ?_;refine jB.q2 (lu (n:=i) (b:=ix (.lU n)) aa aa dG aa ah hd aa) ?_;refine jw ?_;refine jB.q2 (lu (n:=j) (b:=ix .tk) aa aa ew aa ah yn aa) ?_;refine jw ?_;refine jB.p2 (rM io ah rfl aa aa) ?_;refine jw ?_;by_cases DH:3≤tj.state
    ·have A5:decide (3≤tj.state)=true:=by simp [DH]
     obtain ⟨x,hx⟩:=Fs.out.en j tj LH DH;have yV:(si.ends.map zO)[j]?=some (lS x):=aZ;have wV:j<si.ends.length:=(dt hx).1;have hxp:x<si.jE.length:=nr.ends _ (dx hx) x rfl;obtain ⟨a,ha⟩:∃a,si.jE[e]?=some a:=⟨_,dy x4⟩
     obtain ⟨b,hb⟩:∃b,si.jE[x]?=some b:=⟨_,dy hxp⟩
     have hM:si.jE.length<MM:=ae;have hJ:Hid (o8 si e (t.kids.drop i)=o8 (si.ld (oH a b)) si.jE.length (t.kids.drop (i+1))):=⟨by
      rw [Oh.out];simp only [o8,dF,LH,hx];rw [ja DH,getD_some ha,getD_some hb]⟩
     have hIv:Iv (si.ld (oH a b)):=Fs.out.ld hM (by rw [DM (by rw [(nr.p ha).2,(nr.p hb).2])];exact (nr.p ha).2);have awT:=Hid.mk hIv;clear hIv;refine jK ?_ rfl aa;refine jw ?_;refine jB.q2 (lu (n:=j) (b:=ix .en) aa aa fb aa ah wV aa) ?_;refine jw ?_;refine jB.p2 (Vq nr hM ha hb rfl aa aa) ?_;refine jw ?_;rw [l6 ae,← LF];exact ⟨(i+1,si.ld (oH a b),si.jE.length),⟨hd,agU x2'.out _,awT.out,by simp [jv.ld],by simp [jv.ld];omega,Ts.out.trans hJ.out⟩,by show t.kids.length-(i+1)<_;omega,.wf⟩
    ·have A5:decide (3≤tj.state)=false:=by simp [DH]
     have hk:o8 s t.jX t.kids=(si,e,false):=by
      rw [Ts.out,Oh.out];simp only [o8,dF,LH];split
      ·rename_i tk x q1 q2;cases q1;rw [iZ DH]
      ·rfl
     have sI:R=si:=by rw [xS.out];simp only [oe,nk.out];rw [iZ ae,hk]
     clear hk;refine j8 ?_ rfl aa;refine jw ?_;rw [sI];exact kY.nE [] nr (vs:=[]) ar ah rfl (.pu (Pu.ky ah))
   simp at hd;obtain rfl:i=t.kids.length:=ae;have hk:Hid (o8 s t.jX t.kids=(si,e,true)):=⟨by rw [Ts.out,List.drop_length];rfl⟩
   obtain ⟨sA,xI⟩:=xb.mk' nh { t with state:=t.ending };have ez1:=xI.lF nh f1 rfl rfl rfl;have vU:n<si.ends.length:=by rw [nr.xu];omega
   have hzl:sA.ends.length=si.ends.length:=by rw [xI.eq];rfl
   have awU:sA.ends=si.ends:=by rw [xI.eq];rfl
   obtain ⟨sB,wZ⟩:∃sB,sB=(si.oa n e).jF n { t with state:=t.ending }:=⟨_,rfl⟩
   have CZ:Hid (sB=(si.oa n e).jF n { t with state:=t.ending }):=⟨wZ⟩
   have ez2:=aoK (s:=sA) (n:=n) (j:=e);have YO:sA.oa n e=sB:=by rw [wZ,xI.eq];rfl
   rw [YO,awU] at ez2;have q1:=xI.tk;simp only [mG,vJ] at ez1;have aDX:=Hid.mk xI;clear wZ xI YO hzl;refine jw ?_;refine jB.q2 (lu (n:=n) (b:=ix .en) aa aa fb aa ah vU aa) ?_;refine jB.p2 (xc (f:=zO) (l:=si.ends) (b:=ix .en) (tot:=si.ends.length) (i:=n) (ty:=25) (sz:=1) (some e) aa aa aa rfl vU Ej rfl (by cases si.ends[n]<;>rfl)) ?_;have LI:WF sB:=by rw [CZ.out];exact (Fs.out.end nh x4 Ja).wf
   have Hn:Hid (Iv sB):=⟨by rw [CZ.out];exact Fs.out.end nh x4 Ja⟩
   have Ft:Hid (sB.jE=si.jE):=⟨by rw [CZ.out];rfl⟩
   have Jb:Hid (sB.ke.length=s.ke.length):=⟨by rw [CZ.out];show si.ke.length=_;rw [x2'.out]⟩
   have htB:sB.tasks[n]?=some { t with state:=t.ending }:=by rw [CZ.out];exact lq (s:=si.oa n e) nh
   have hoB:Hid (∀k,k≠n→sB.tasks[k]?=si.tasks[k]?):=⟨fun k hk=>by rw [CZ.out,mw (fun e=>hk e.symm)];rfl⟩
   have hlB:Hid (sB.tasks.length=s.tasks.length):=⟨by rw [CZ.out,lY];exact IN.out⟩
   have asE:=h'.out.par n t nk.out;refine jw ?_;rcases asE with hpm|⟨p,Dp,EY⟩
   ·have Lc:decide (t.par<0)=true:=by rw [hpm];rfl
    have sI:R=sB:=by rw [xS.out];simp only [oe,nk.out];rw [iZ ae,hk.out];simp only;rw [ja ae,CZ.out]
    refine j8 ?_ rfl aa;refine jw ?_;rw [sI];exact kY.nE [] LI (vs:=[]) ar ah rfl (.pu (Pu.ky ah))
   have Lc:decide (t.par<0)=false:=by rw [Dp];simp
   obtain ⟨tp,ns⟩:∃tp,sB.tasks[p]?=some tp:=⟨_,dy (by rw [hlB.out];omega)⟩
   have awV:Hid (si.tasks[p]?=some tp):=⟨by rw [← hoB.out p ae];exact ns⟩
   obtain ⟨y1,y2,y3,y4,yn,y6⟩:=LI.k ns;refine jK ?_ rfl aa;refine jw ?_;refine mi (k:=8) follows (hr:=?_);refine jw ?_;refine jB.q2 (lu (n:=p) (b:=ix .tk) aa aa ew aa ah yn aa) ?_;refine jw ?_;have rY:Hid (R=if tp.waits=n then sK (oe f) (qT sB p tp e) p (ye tp) else oe f sB p):=⟨by
    rw [xS.out];simp only [oe,nk.out];rw [iZ ae,hk.out];simp only;rw [iZ ae,show t.par.toNat=p by rw [Dp];rfl,awV.out];simp only;rw [← CZ.out]⟩
   by_cases mr:tp.waits=n
   ·have hd6:decide (tp.waits=(n:Int))=true:=by simp [mr]
    rw [ja mr] at rY;have BX:0≤tp.waits:=ae;have hbn:tp.lB=none:=Hn.out.wt p tp ns BX;obtain ⟨u1,w1⟩:=xb.mk' ns { tp with waits:=-1 };have ew1:=w1.lF ns y1 rfl rfl rfl;obtain ⟨u2,w2⟩:=xb.mk' w1.tk { tp with waits:=-1,state:=1 };have ew2:=w2.lF w1.tk y1 rfl rfl rfl;have v1:=w1.tk;have v2:=w2.tk;have sb:u2=sB.jF p { tp with waits:=-1,state:=1 }:=by rw [w2.eq,w1.eq,u7]
    obtain ⟨r1,r2,r3,r4⟩:=LI.kQ tp (dx ns);have awW:WF u2:=by rw [sb];exact LI.xj ns rfl (dD _) rfl rfl rfl
    obtain ⟨nb,LJ⟩:∃nb,nb=sB.ke.length:=⟨_,rfl⟩
    have Rs:u2.ke.length=nb:=by rw [sb,LJ];rfl
    have Rt:u2.jE=sB.jE:=by rw [sb];rfl
    obtain ⟨u3,Oi⟩:∃u3,u3=u2.o9 [e]:=⟨_,rfl⟩
    have v3:u3.tasks[p]?=some { tp with waits:=-1,state:=1 }:=by rw [Oi];exact v2
    obtain ⟨u4,w4⟩:=xb.mk' v3 { tp with waits:=-1,state:=1,lB:=some nb };have ew4:=w4.lF v3 y1 rfl rfl rfl;have v4:=w4.tk;have hu4:u4=tL sB p tp e:=by rw [w4.eq,Oi,sb,LJ];simp [tL,jv.jF,jv.o9]
    have mV:=Hn.out.jH p tp ns;obtain ⟨m,hm⟩:∃m,tp.jC=m+1:=⟨tp.jC-1,ae⟩
    simp only [mG,vJ,hbn,hm] at ew1 ew2 ew4;have X5:=Hid.mk mr;have BZ:u2.ke.length<MM:=by rw [Rs,LJ,Jb.out];omega
    have zP:e<u2.jE.length:=by rw [Rt,Ft.out];exact x4
    have asF:=Hid.mk Rs;have awX:=Hid.mk Oi;have Nd:=Hid.mk hu4;have w1':=Hid.mk w1;have w2':=Hid.mk w2;have w4':=Hid.mk w4;have awY:=Hid.mk LJ;have aDe:=Hid.mk Rt;have aDY:=Hid.mk sb;clear Rs Oi hu4 w1 w2 w4 LJ Rt sb;refine j8 ?_ rfl aa;refine jw ?_;refine jB.p2 (aoL awW (j:=e) BZ zP aa aa) ?_;rw [asF.out,← awX.out];refine jw ?_;obtain ⟨c,c1,c2⟩:=JE Hn.out ns;have Jc:=Mi (e:=e) Hn.out ns BX (by rw [Ft.out];exact x4) (by rw [Jb.out];omega) (by rw [Ft.out];omega);obtain ⟨tq,tq1,tq2,tq3,tq4,tq5⟩:=Vp (e:=e) ns;have iG:=Ui (DK f) Dj.out Jc.iv tq1 ae ae ae (by rw [tq4,tq5];exact c1) (by rw [Jc.cl];exact c2) (Hn.out.rr p tp _ c ns (.inr BX) c1 c2) (by have:=Jc.pl;rw [Ft.out] at this;omega) (by have:=Jc.bl;rw [Jb.out] at this;omega);have hwW:=Jc.iv.wf;have hnW:∀k,k≠p→(qT sB p tp e).tasks[k]?=sB.tasks[k]?:=fun k hk=>by
     unfold qT tL;split
     ·split
      ·rw [mw (fun e=>hk e.symm)];exact mw (fun e=>hk e.symm)
      ·exact mw (fun e=>hk e.symm)
     ·exact mw (fun e=>hk e.symm)
    have htW:(qT sB p tp e).tasks[n]?=some { t with state:=t.ending }:=by rw [hnW n ae];exact htB
    obtain ⟨j,hj⟩:∃j,j=ye tp:=⟨_,rfl⟩
    rw [← hj] at c1 c2 iG rY;rw [hm,eM] at c1;have YP:u4.calls[j]?=some c:=by rw [Nd.out];exact c2
    have Ru:WF u4:=by rw [Nd.out];exact (Vo Hn.out ns BX (by rw [Ft.out];exact x4) (by rw [Jb.out];omega)).iv.wf
    have IQ:u4.jE=sB.jE:=by rw [Nd.out];rfl
    have Jd:Hid (qT sB p tp e=if c.pc=(c.code.steps.length:Int)-1 then (u4.ld (oH (sB.jE.getD tp.jX []) (sB.jE.getD e []))).jF p { tp with waits:=-1,state:=1,lB:=some nb,jX:=u4.jE.length } else u4):=⟨by
     unfold qT;rw [← hj,c2,Nd.out,awY.out];rfl⟩
    obtain ⟨W,hW⟩:∃W,W=qT sB p tp e:=⟨_,rfl⟩
    rw [← hW] at iG hwW htW Jd rY;have mh:=(Ru.tW c (dx YP)).2;have GD:=(LI.tF tp (dx ns)).1;obtain ⟨i1,i2⟩:=Ru.c YP;have Og:(tp.jZ.map kM)[m]?=some (kM j):=by rw [dE,c1];rfl
    have qC:m<tp.jZ.length:=(dt c1).1;have oh:IntKind.i64.wrap (((m+1:Nat):Int)-1)=(m:Int):=aW;have YN:IntKind.i64.wrap ((c.code.steps.length:Int)-1)=(c.code.steps.length:Int)-1:=nP ae ae;have c1':=Hid.mk c1;have KD:=Hid.mk IQ;clear hW hnW Jc tq1 tq2 tq3 tq4 tq5 c1 c2 hj IQ;refine mi (k:=10) follows (hr:=?_);refine jw ?_;refine jB.q2 (lu (n:=m) (b:=ix (.jH p)) aa aa gn aa ah ae aa) ?_;refine jw ?_;refine mi (k:=11) follows (hr:=?_);refine jw ?_;refine jG.join ⟨[(0,jI),(4,nW n),(9,kM j)],HH W⟩ ?_ ?_
    ·by_cases Ai:c.pc=(c.code.steps.length:Int)-1
     ·have Ld:decide (c.pc=(c.code.steps.length:Int)-1)=true:=by simp [Ai]
      rw [ja Ai] at Jd;obtain ⟨a,ha⟩:∃a,u4.jE[tp.jX]?=some a:=⟨_,dy (by rw [KD.out];exact r3)⟩
      obtain ⟨b,hb⟩:∃b,u4.jE[e]?=some b:=⟨_,dy (by rw [KD.out,Ft.out];exact x4)⟩
      have hM4:u4.jE.length<MM:=by rw [KD.out,Ft.out];omega
      rw [getD_some (by rw [← KD.out];exact ha),getD_some (by rw [← KD.out];exact hb)] at Jd;obtain ⟨u5,Oj⟩:∃u5,u5=u4.ld (oH a b):=⟨_,rfl⟩
      have v5:u5.tasks[p]?=some { tp with waits:=-1,state:=1,lB:=some nb }:=by rw [Oj];exact v4
      obtain ⟨u6,w6⟩:=xb.mk' v5 { tp with waits:=-1,state:=1,lB:=some nb,jX:=u4.jE.length };have ew6:=w6.lF v5 y1 rfl rfl rfl;have hW6:W=u6:=by rw [Jd.out,w6.eq,Oj]
      have awZ:=Hid.mk Oj;have aDZ:=Hid.mk Ai;simp only [mG,vJ,hbn,hm] at ew6;rw [hW6];clear Oj w6 Ai;refine j8 ?_ rfl aa;refine jw ?_;refine jB.p2 (Vq Ru hM4 ha hb rfl aa aa) ?_;rw [← awZ.out];refine jw ?_;exact .wf (hH:=ew6)
     ·have Ld:decide (c.pc=(c.code.steps.length:Int)-1)=false:=by simp [Ai]
      rw [iZ Ai] at Jd;refine jK ?_ rfl aa;refine jw ?_;rw [Jd.out];exact .wf
    have AR:(t.par:Int)=p:=Dp;obtain ⟨n1,n2,n3,n4,nn,n6⟩:=hwW.k htW;clear ew1 ew2 ew4 v1 v2 v3 v4;refine jw ?_;refine jB.p2 (rM iG aP rfl aa aa) ?_;refine jw ?_;rw [rY.out];rw [rY.out] at mg;exact kY.nE [] mg (vs:=[]) ar ah rfl (.pu (Pu.ky ah))
   ·have hd6:decide (tp.waits=(n:Int))=false:=by simp [mr]
    rw [iZ mr] at rY;have iS:=Dj.out sB p Hn.out yn ae (by rw [Ft.out];omega) (by rw [Jb.out];omega);refine jK ?_ rfl aa;refine jw ?_;refine jB.p2 (rM iS aP rfl aa aa) ?_;refine jw ?_;rw [rY.out];rw [rY.out] at mg;exact kY.nE [] mg (vs:=[]) ar ah rfl (.pu (Pu.ky ah))
def mN (j:Nat) (prio:Int) (canc:Bool) (par:Int) (jX:Nat):jQ:=⟨[j],1,prio,canc,par,[],[],-1,0,1,-1,jX,none⟩
def jv.lJ (s:jv) (t:jQ):jv:={ s with tasks:=s.tasks++[t],ends:=s.ends++[none] }
theorem Ct {s:jv} {t:jQ}:(s.lJ t).tasks[s.tasks.length]?=some t:=by simp [jv.lJ]
theorem Cl {s:jv} {t:jQ} {k:Nat} (h:k<s.tasks.length):(s.lJ t).tasks[k]?=s.tasks[k]?:=by
 unfold jv.lJ;simp only;exact dA h
theorem Bm {s:jv} {t u:jQ} {k:Nat} (h:(s.lJ t).tasks[k]?=some u):(k<s.tasks.length∧s.tasks[k]?=some u)∨(k=s.tasks.length∧u=t):=by
 rcases Nat.lt_trichotomy k s.tasks.length with h1|h1|h1
 ·rw [Cl h1] at h;exact .inl ⟨h1,h⟩
 ·subst h1;rw [Ct] at h;injection h with h;exact .inr ⟨rfl,h.symm⟩
 ·unfold jv.lJ at h;simp only at h;rw [dT aj] at h;cases h
theorem L9 {s:jv} {t t':jQ}:(s.lJ t).jF s.tasks.length t'=s.lJ t':=by simp [jv.lJ,jv.jF]
def zw (s:jv) (c:Cd) (vs a:List Int) (prio par:Int) (canc:Bool):jv:=(((s.kF (lQ c vs (-1))).ld a)).lJ (mN s.calls.length prio canc par s.jE.length)
def oU (s:jv) (c:Cd) (vs a:List Int) (prio par:Int) (canc:Bool):jv:=
 if c.steps.length=0 then oe (s.tasks.length+1) ((zw s c vs a prio par canc).jF s.tasks.length (j9 (mN s.calls.length prio canc par s.jE.length) 3)) s.tasks.length else zw s c vs a prio par canc
theorem Iv.kF {s:jv} (h:Iv s) {c:kh} (h1:s.calls.length<MM) (h2:c.vars.length≤1000) (h3:c.code.steps.length≤1000) (h4:0≤c.pc∧c.pc≤c.code.steps.length):Iv (s.kF c):=by
 refine ⟨h.wf.kF h1 h2 h3,⟨h.kd.kd⟩,h.par,h.jH,h.en,h.wt,h.ed,h.rZ,fun x hx=>?_,fun k t j x ht hs hj hx=>?_⟩
 ·simp only [jv.kF,eg,dz] at hx;rcases hx with hx|rfl
  ·exact h.qN x hx
  ·exact h4
 ·have pP:j<s.calls.length:=(h.wf.kQ t (dx ht)).1 j (dx hj);rw [Cw ae] at hx;exact h.rr k t j x ht hs hj hx
theorem WF.lJ {s:jv} (hw:WF s) {t:jQ} (h0:s.tasks.length<32) (h1:(∀j∈t.jZ,j<s.calls.length)∧t.jC≤t.jZ.length∧t.jX<s.jE.length∧∀b,t.lB=some b→b<s.ke.length) (h2:t.jZ.length≤1000∧t.kids.length≤1000):WF (s.lJ t):=by
 refine ⟨by simp [jv.lJ];omega,hw.nC,hw.nK,hw.nB,hw.pl,hw.kK,hw.jV,fun o ho=>?_,fun x hx=>?_,hw.ke,by simp [jv.lJ];exact hw.xu,hw.sz,fun x hx=>?_,hw.tW⟩
 ·simp only [jv.lJ,eg,dz] at ho;rcases ho with ho|rfl
  ·exact hw.ends o ho
  ·intro j e;cases e
 ·simp only [jv.lJ,eg,dz] at hx;rcases hx with hx|rfl
  ·exact hw.kQ x hx
  ·exact h1
 ·simp only [jv.lJ,eg,dz] at hx;rcases hx with hx|rfl
  ·exact hw.tF x hx
  ·exact h2
theorem Iv.lJ {s:jv} (h:Iv s) {t:jQ} {j:Nat} {c:kh} (h0:s.tasks.length<32) (uk:t.jZ=[j]) (mV:t.jC=1) (hj:s.calls[j]?=some c) (kX:∀u∈s.tasks,j∉u.jZ) (hk:t.kids=[]) (lK:t.jX<s.jE.length) (hb:t.lB=none) (jP:t.state<3) (za:t.ending=0∨3≤t.ending) (mr:t.waits = -1)
 (we:t.par = -1∨∃p:Nat,t.par=(p:Int)∧p<s.tasks.length) (uj:t.state=1→c.pc<c.code.steps.length):Iv (s.lJ t):=by
 have pP:j<s.calls.length:=(dt hj).1;have hl:(s.lJ t).tasks.length=s.tasks.length+1:=by simp [jv.lJ]
 refine ⟨h.wf.lJ h0 ⟨by rw [uk];intro i hi;rw [dz] at hi;subst hi;exact pP,by rw [uk,mV];simp,lK,by rw [hb];intro b e;cases e⟩ (by rw [uk,hk];simp),⟨fun k u hu c hc=>?_⟩,fun k u hu=>?_,fun k u hu=>?_,fun k u hu h3=>?_,fun k u hu h3=>?_,fun k u hu=>?_,?_,h.qN,fun k u i x hu hs hi hx=>?_⟩
 ·rw [hl];rcases Bm hu with ⟨h1,h2⟩|⟨rfl,rfl⟩
  ·obtain ⟨i,a1,a2,a3⟩:=h.kd.kd k u h2 c hc;exact ⟨i,a1,a2,ae⟩
  ·rw [hk] at hc;cases hc
 ·rcases Bm hu with ⟨h1,h2⟩|⟨rfl,rfl⟩
  ·exact h.par k u h2
  ·exact we
 ·rcases Bm hu with ⟨h1,h2⟩|⟨rfl,rfl⟩
  ·exact h.jH k u h2
  ·omega
 ·rcases Bm hu with ⟨h1,h2⟩|⟨rfl,rfl⟩
  ·obtain ⟨i,hi⟩:=h.en k u h2 h3;exact ⟨i,by unfold jv.lJ;simp only;rw [dA (dt hi).1];exact hi⟩
  ·omega
 ·rcases Bm hu with ⟨h1,h2⟩|⟨rfl,rfl⟩
  ·exact h.wt k u h2 h3
  ·exact hb
 ·rcases Bm hu with ⟨h1,h2⟩|⟨rfl,rfl⟩
  ·exact h.ed k u h2
  ·exact za
 ·intro k u k' u' i i' x hu uC hi oX hx mH;have e1:∀ {i:Nat} {u:jQ},u=t→i<u.jC→u.jZ[i]?=some x→i=0∧x=j:=fun {i u} e hi hx=>by
   subst e;rw [mV] at hi;have:i=0:=ae;subst this;rw [uk] at hx;injection hx with hx;exact ⟨rfl,hx.symm⟩
  rcases Bm hu with ⟨h1,h2⟩|⟨rfl,q⟩<;>rcases Bm uC with ⟨pd,BI⟩|⟨rfl,q'⟩
  ·exact h.rZ k u k' u' i i' x h2 BI hi oX hx mH
  ·obtain ⟨_,rfl⟩:=e1 q' oX mH;exact absurd (dx hx) (kX u (dx h2))
  ·obtain ⟨_,rfl⟩:=e1 q hi hx;exact absurd (dx mH) (kX u' (dx BI))
  ·exact ⟨rfl,by rw [(e1 q hi hx).1,(e1 q' oX mH).1]⟩
 ·rcases Bm hu with ⟨h1,h2⟩|⟨rfl,rfl⟩
  ·exact h.rr k u i x h2 hs hi hx
  ·rw [uk,mV] at hi;injection hi with hi;subst hi;have mH:s.calls[j]?=some x:=hx;rw [hj] at mH;injection mH with mH;subst mH;rcases hs with hs|hs
   ·exact uj hs
   ·omega
theorem PI {s:jv} (h:Iv s) {c:Cd} {vs a:List Int} {prio par:Int} {canc:Bool} {t:jQ} (h0:s.tasks.length<32) (hC:s.calls.length<MM) (hP:s.jE.length<MM) (ha:a.length=32) (hv:c.vars≤1000) (mf:vs.length≤1000) (mh:c.steps.length≤1000)
 (uk:t.jZ=[s.calls.length]) (mV:t.jC=1) (hk:t.kids=[]) (lK:t.jX=s.jE.length) (hb:t.lB=none) (jP:t.state<3) (za:t.ending=0∨3≤t.ending) (mr:t.waits = -1)
 (we:t.par = -1∨∃p:Nat,t.par=(p:Int)∧p<s.tasks.length) (uj:t.state=1→0<c.steps.length):Iv (((s.kF (lQ c vs (-1))).ld a).lJ t):=by
 have i1:Iv (s.kF (lQ c vs (-1))):=h.kF hC bE mh ⟨fy _,by show (0:Int)≤_;omega⟩;have i2:=i1.ld (l:=a) hP ha;exact i2.lJ (c:=lQ c vs (-1)) h0 uk mV zm (fun u hu hm=>by have:=(h.wf.kQ u hu).1 _ hm;omega) hk (by rw [lK];simp [jv.ld,jv.kF]) hb jP za mr we (fun e=>by have:=uj e;show (0:Int)<(c.steps.length:Int);omega)
theorem asG {s:jv} {t:jQ} {k:Nat} (hk:k=s.tasks.length) (h1:ix (.kQ k)<NN) (h2:ix (.jH k)<NN) (h3:ix (.kg k)<NN) (uX:t.kids=[]) :
 (((((HH s).set (ix (.jH k)) ⟨135,1,t.jZ.map kM⟩).set (ix (.kg k)) (Gr t.kg)).set (ix (.kQ k)) (mG k t)).set (ix .tk) ⟨84,1,(List.range (k+1)).map nW⟩).set (ix .rn) (lE { s with tasks:=s.tasks++[t] })=HH { s with tasks:=s.tasks++[t] }:=by
 subst hk;have pq:(s.tasks++[t])[s.tasks.length]?=some t:=ah;refine tZ (s:=s) (s':={ s with tasks:=s.tasks++[t] }) [(.jH s.tasks.length,_),(.kg s.tasks.length,_),(.kQ s.tasks.length,_),(.tk,_),(.rn,_)] (fun p hp=>?_) fun a ha=>?_
 ·simp only [dC,dB,jd] at hp;rcases hp with rfl|rfl|rfl|rfl|rfl
  ·exact ⟨h2,by simp only [blk];rw [pq]⟩
  ·exact ⟨h3,by simp only [blk];rw [pq];rfl⟩
  ·exact ⟨h1,by simp only [blk];rw [pq]⟩
  ·exact ⟨sj,by simp only [blk,dK,dO]⟩
  ·exact ⟨mc,rfl⟩
 ·simp only [ef,ez,dC,dB,jd,jl] at ha;obtain ⟨a1,a2,a3,a4,a5⟩:=ha;have lO:∀ {i:Nat},i≠s.tasks.length→(s.tasks++[t])[i]?=s.tasks[i]?:=fun {i} h=>by
   rcases eE i s.tasks.length with g|g
   ·exact dA g
   ·rw [dT aj,dT g]
  cases a with
  | kQ i=>simp only [blk];rw [lO fun e=>a3 bP]
  | jH i=>simp only [blk];rw [lO fun e=>a1 bP]
  | kg i=>simp only [blk];rw [lO fun e=>a2 bP]
  | lU i =>
    simp only [blk];by_cases e:i=s.tasks.length
    ·subst e;rw [pq,dT (dD _)];simp only [uX]
    ·rw [lO e]
  | rn=>exact absurd rfl a5
  | tk=>exact absurd rfl a4
  | _=>rfl
theorem Jv {s:jv} (h:Iv s) {c:Cd} {vs a:List Int} {prio par:Int} {canc:Bool} {x:Nat} (h0:s.tasks.length<32) (hC:s.calls.length<MM) (hP:s.jE.length+40000≤MM) (hB:s.ke.length+40≤MM) (hx:s.jE[x]?=some a) (nH:0≤c.vars) (lI:c.vars≤1000) (kV:vs.length≤c.vars) (mh:c.steps.length≤1000)
 (we:par = -1∨∃p:Nat,par=(p:Int)∧p<s.tasks.length) :
 jS Tryd.prog 83 [jI,kx c,.jA (vs.map .int),.int prio,.int par,.base (.bool canc),lS x] (HH s) (.int s.tasks.length) (HH (oU s c vs a prio par canc)):=by
 have hw:=h.wf;have hlen:=kC s;have ie:=afE hw (a:=-1) nH lI kV hC mh;obtain ⟨j,hj⟩:∃j,j=s.calls.length:=⟨_,rfl⟩
 obtain ⟨k,hk⟩:∃k,k=s.tasks.length:=⟨_,rfl⟩
 obtain ⟨s1,j6⟩:∃s1,s1=s.kF (lQ c vs (-1)):=⟨_,rfl⟩
 have kq:WF s1:=by rw [j6];exact hw.kF hC bE mh
 rw [← j6,← hj] at ie;obtain ⟨T,hT⟩:∃T:List jy,T=[kP c]:=⟨_,rfl⟩
 have Je:∀ {S:Nat→Prop},∀b∈T,kI S b:=fun b hb=>by rw [hT] at hb;exact JP DY b hb
 have Tt:k<MM:=by have:=hw.nT;rw [vB];omega
 have Hk:j<MM:=by rw [hj];exact hC
 have LK:ix (.kQ k)<NN:=mq Tt;have xK:ix (.jH k)<NN:=mq Tt;have mJ:ix (.kg k)<NN:=mq Tt;have pY:ix (.lg j)<NN:=mq Hk;have Tu:s1.tasks[k]?=none:=by rw [j6,hk];exact dT (dD _)
 have Ix:s1.tasks.length=k:=by rw [j6,hk];rfl
 obtain ⟨q,hq⟩:∃q,q=s1.jE.length:=⟨_,rfl⟩
 have Ok:q=s.jE.length:=by rw [hq,j6];rfl
 have hqM:q<MM:=by rw [Ok];omega
 have Jf:ix (.jX q)<NN:=mq hqM;have h1q:s1.jE[q]?=none:=dT ae;have h1x:s1.jE[x]?=some a:=by rw [j6];exact hx
 have xH:a.length=32:=(hw.p hx).2;have hxc:ix (.jX x)<NN:=(hw.p hx).1;have hxq:x≠q:=by have:=(dt hx).1;omega
 have RW:∀ {a:Nm},a=.kQ k∨a=.jH k∨a=.kg k∨a=.jX q→¬sH s1 a:=fun {a} e hd=>by
  rcases e with rfl|rfl|rfl|rfl
  ·have:k<s1.tasks.length:=hd;omega
  ·have:k<s1.tasks.length:=hd;omega
  ·have:k<s1.tasks.length:=hd;omega
  ·have:q<s1.jE.length:=hd;omega
 have yO:∀(ρ:Operand→AV) (x:Operand),ρ x=kM j→PL Tryd.prog (HH s1++T) ρ (.buildSlice 85 1 #[(0,x)]) (.own (ix (.jH k)) 1 0 1) ((HH s1).set (ix (.jH k)) ⟨135,1,[kM j]⟩++T):=fun ρ x hx=>by
  have h0:=OB (P:=Tryd.prog) (H:=HH s1++T) (ρ:=ρ) (es:=[kM j]) (len:=1) (parts:=#[(0,x)]) (size:=1) az gn ag ag az (by simp only [List.map,hx];rfl) (by simp only [List.map,hx]) rfl;have h2:=PL.xX h0 (p:=ix (.jH k)) (blk0:=⟨135,1,[]⟩) (by rw [mZ (kC s1) xK,qS s1 _ xK];simp only [blk];rw [Tu]) rfl ah (fun e he d hd=>by
   rw [dz] at he;subst he;simp only [AV.cells,dz] at hd;subst hd;exact .ptr ⟨fun e=>(by have:=sg e;cases this),by simp only [dK,kC];omega⟩) (vZ (Ea kq (RW (.inr (.inl rfl))) aP) Je) mI.Bv
  rw [o7 (kC s1) xK] at h2;exact h2
 obtain ⟨L1,pe⟩:∃L1,L1=(HH s1).set (ix (.jH k)) ⟨135,1,[kM j]⟩:=⟨_,rfl⟩
 obtain ⟨L2,oC⟩:∃L2,L2=L1.set (ix (.kg k)) (Gr []):=⟨_,rfl⟩
 obtain ⟨L3,qh⟩:∃L3,L3=L2.set (ix (.jX q)) (jD a):=⟨_,rfl⟩
 have l1:L1.length=NN:=by rw [pe,qG,kC]
 have l2:L2.length=NN:=by rw [oC,qG,l1]
 have l3:L3.length=NN:=by rw [qh,qG,l2]
 have r1:∀ {a:Nm},a=.kQ k∨a=.jH k∨a=.kg k∨a=.jX q→∀ {q:Nat},NN≤q→∀b∈L1,kI (Nb q (ix a)) b:=fun {a} e {q} hq=>by
  rw [pe];refine yx (Ea kq (RW e) hq) fun e1 he d hd=>?_;rw [dz] at he;subst he;simp only [AV.cells,dz] at hd;subst hd;exact .ptr ⟨fun e2=>(by have:=sg e2;subst this;rcases e with e|e|e|e<;>cases e),ae⟩
 have spr:∀ {S:Nat→Prop},kI S (Gr []):=fun e he d hd=>by
  simp only [rA,dz] at he;subst he;simp only [AV.cells,ez,dC,dB,jd] at hd;rcases hd with rfl|rfl<;>exact .pu (.agg fun c hc=>by cases hc)
 have r2:∀ {a:Nm},a=.kQ k∨a=.jH k∨a=.kg k∨a=.jX q→∀ {q:Nat},NN≤q→∀b∈L2,kI (Nb q (ix a)) b:=fun {a} e {q} hq=>by
  rw [oC];exact yx (r1 e hq) spr
 have r3:∀ {a:Nm},a=.kQ k∨a=.jH k∨a=.kg k∨a=.jX q→∀ {q:Nat},NN≤q→∀b∈L3,kI (Nb q (ix a)) b:=fun {a} e {q} hq=>by
  rw [qh];exact yx (r2 e hq) rE
 have d1:L1[ix (.kg k)]?=some ⟨pj,2,[]⟩:=by
  rw [pe,qQ (kC s1) xK,iZ ah,qS s1 _ mJ];simp only [blk];rw [Tu]
 have d2:L2[ix (.jX q)]?=some (jD []):=by
  rw [oC,qQ l1 mJ,iZ ah,pe,qQ (kC s1) xK,iZ ah,qS s1 _ Jf];simp only [blk];rw [h1q]
 have d2x:L2[ix (.jX x)]?=some (jD a):=by
  rw [oC,qQ l1 mJ,iZ ah,pe,qQ (kC s1) xK,iZ ah,qS s1 _ hxc];simp only [blk];rw [h1x]
 have d3:L3[ix (.kQ k)]?=some ⟨88,12,[]⟩:=by
  rw [qh,qQ l2 Jf,iZ ah,oC,qQ l1 mJ,iZ ah,pe,qQ (kC s1) xK,iZ ah,qS s1 _ LK];simp only [blk];rw [Tu]
 have pD:∀(ρ:Operand→AV) (t:TypeId),PL Tryd.prog (L1++T) ρ (.makeMap t none) (.n5 (ix (.kg k))) (L2++T):=fun ρ t=>by
  have h2:=PL.xX (aeK (P:=Tryd.prog) H0 AV.int (H:=L1++T) (ρ:=ρ) (t:=t)) (p:=ix (.kg k)) (blk0:=⟨pj,2,[]⟩) (by rw [mZ l1 mJ];exact d1) rfl (by simp [rA]) spr (vZ (r1 (.inr (.inr (.inl rfl))) (by simp [l1])) Je) mI.atG;rw [o7 l1 mJ] at h2;rw [oC];exact h2
 have lK:∀(ρ:Operand→AV) (c:Call) (fx:Operand),c.callee=.value fx→ρ fx=.j9 89 []→c.args.toList.map ρ++[]=[lS x]→PL Tryd.prog (L2++T) ρ (.call c) (lS q) (L3++T):=fun ρ c fx hc qL EK=>by
  have h0:=rM (ρ:=ρ) (Pl (H:=L2++T) (b:=ix (.jX x)) (n:=32) (l:=a) (by rw [mZ l2 hxc];exact d2x) xH az az) ah hc qL EK;have h2:=PL.xX h0 (p:=ix (.jX q)) (blk0:=jD []) (by rw [mZ l2 Jf];exact d2) rfl (by simp;intro e;rw [e] at xH;cases xH) rE (vZ (r2 (.inr (.inr (.inr rfl))) (by simp [l2])) Je) mI.Bv;rw [o7 l2 Jf] at h2;rw [qh];exact h2
 obtain ⟨t,ht⟩:∃t,t=mN j prio canc par q:=⟨_,rfl⟩
 have zf:∀(ρ:Operand→AV) (x:Operand),ρ x=.agg [.own (ix (.jH k)) 1 0 1,.int prio,.base (.bool canc),.int par,kD,.n5 (ix (.kg k)),.int (-1),.int 0,.int 1,.int (-1),lS q,kD]→PL Tryd.prog (L3++T) ρ (.box 88 x) (nW k) (L3.set (ix (.kQ k)) (mG k t)++T):=fun ρ x hx=>by
  have h2:=PL.xX (p:=ix (.kQ k)) (xW (P:=Tryd.prog) (H:=L3++T) (el:=88) hx (by simp [ru,At,Value.oneCell'])) (blk0:=⟨88,12,[]⟩) (by rw [mZ l3 LK];exact d3) rfl ah (fun e he d hd=>by
   rw [dz] at he;subst he;simp only [AV.cells,dC,dB,jd] at hd;rcases hd with rfl|rfl|rfl|rfl|rfl|rfl|rfl|rfl|rfl|rfl|rfl|rfl
   ·exact .own ⟨fun e=>(by have:=sg e;cases this),by simp only [dK,l3];omega⟩
   ·exact .pu (.base _)
   ·exact .pu (.base _)
   ·exact .pu (.base _)
   ·exact .pu (.base _)
   ·exact .n5 ⟨fun e=>(by have:=sg e;cases this),by simp only [dK,l3];omega⟩
   ·exact .pu (.base _)
   ·exact .pu (.base _)
   ·exact .pu (.base _)
   ·exact .pu (.base _)
   ·exact .own ⟨fun e=>(by have:=sg e;cases this),by simp only [dK,l3];omega⟩
   ·exact .pu (.base _)) (vZ (r3 (.inl rfl) (by simp [l3])) Je) mI.QG
  rw [o7 l3 LK] at h2;rw [ht];exact h2
 obtain ⟨L4,GY⟩:∃L4,L4=L3.set (ix (.kQ k)) (mG k t):=⟨_,rfl⟩
 have l4:L4.length=NN:=by rw [GY,qG,l3]
 have Rv:∀ {a:Nm},a≠.kQ k→a≠.jX q→a≠.kg k→a≠.jH k→L4[ix a]?=(HH s1)[ix a]?:=fun {a} e1 e2 e3 e4=>by
  rw [GY,qQ l3 LK,iZ (fun e=>e1 e.symm),qh,qQ l2 Jf,iZ (fun e=>e2 e.symm),oC,qQ l1 mJ,iZ (fun e=>e3 e.symm),pe,qQ (kC s1) xK,iZ (fun e=>e4 e.symm)]
 have g4r:L4[ix .rn]?=some (lE s1):=by rw [Rv ah ah ah ah,qS s1 _ mc];rfl
 have g4t:L4[ix .tk]?=some ⟨84,1,(List.range k).map nW⟩:=by rw [Rv ah ah ah ah,qS s1 _ sj];simp only [blk];rw [Ix]
 obtain ⟨sP,nS⟩:∃sP,sP=s1.ld a:=⟨_,rfl⟩
 have LL:k=sP.tasks.length:=by rw [nS];exact Ix.symm
 obtain ⟨s2,jW⟩:∃s2,s2={ sP with tasks:=sP.tasks++[t] }:=⟨_,rfl⟩
 have MJ:(L4.set (ix .tk) ⟨84,1,(List.range k).map nW++[nW k]⟩).set (ix .rn) (lE s2)=HH s2:=by
  have h1:=asG (s:=sP) (t:=t) LL LK xK mJ bt;rw [← jW,gE,fY] at h1;rw [← h1];have e1:L4=((((HH sP).set (ix (.jH k)) ⟨135,1,t.jZ.map kM⟩).set (ix (.kg k)) (Gr t.kg)).set (ix (.kQ k)) (mG k t)):=by
   rw [GY,qh,oC,pe,nS,← V6 hq Jf];rw [List.set_comm (i:=ix (.kg k)) (j:=ix (.jX q)) _ _ (fun e=>by cases sg e),List.set_comm (i:=ix (.jH k)) (j:=ix (.jX q)) _ _ (fun e=>by cases sg e),ht];rfl
  rw [e1];rfl
 have Eh:=Hid.mk pe;have Ei:=Hid.mk oC;have Ia:=Hid.mk qh;have nk:=Hid.mk ht;rw [← pe] at yO;have aE0:=Hid.mk GY;have KR:lE s2=⟨83,13,[.agg [.jA (s1.p.kT.map kx),.jA (s1.p.methods.map kx),.int s1.p.mb,.jA (s1.sched.map .int),.int s1.used,.own (ix .ob) s1.jL.length 0 s1.jL.length,.own (ix .tk) (k+1) 0 (k+1),.own (ix .ln) s1.lines.length 0 s1.lines.length,.own (ix .ac) s1.jT.length 0 s1.jT.length,.own (ix .tn) s1.turns.length 0 s1.turns.length,.own (ix .ck) s1.kK.length 0 s1.kK.length,.own (ix .en) s1.ends.length 0 s1.ends.length,.own (ix .at') s1.jV.length 0 s1.jV.length]]⟩:=by
  rw [jW,nS];simp only [lE,jv.ld,dK,dO,Ix]
 rw [KR] at MJ;obtain ⟨s3,lV⟩:∃s3,s3=zw s c vs a prio par canc:=⟨_,rfl⟩
 have LM:s3=sP.lJ t:=by rw [lV,nS,j6,ht,hj,Ok];rfl
 have Ol:s3={ s2 with ends:=s2.ends++[none] }:=by rw [LM,jW];rfl
 have Xt:((HH s2).set (ix .en) ⟨25,1,s2.ends.map zO++[AV.base (Value.slice none 0 0)]⟩).set (ix .rn) (lE s3)=HH s3:=by
  refine tZ (s:=s2) (s':=s3) [(.en,_),(.rn,_)] (vF ⟨P4,?_⟩ ⟨mc,rfl⟩) fun a ha=>?_
  ·simp only [blk];rw [Ol];simp only [fY];rfl
  ·rw [Ol];cases a<;>first|rfl|simp at ha
 have yW:lE s3=⟨83,13,[.agg [.jA (s2.p.kT.map kx),.jA (s2.p.methods.map kx),.int s2.p.mb,.jA (s2.sched.map .int),.int s2.used,.own (ix .ob) s2.jL.length 0 s2.jL.length,.own (ix .tk) s2.tasks.length 0 s2.tasks.length,.own (ix .ln) s2.lines.length 0 s2.lines.length,.own (ix .ac) s2.jT.length 0 s2.jT.length,.own (ix .tn) s2.turns.length 0 s2.turns.length,.own (ix .ck) s2.kK.length 0 s2.kK.length,.own (ix .en) (s2.ends.length+1) 0 (s2.ends.length+1),.own (ix .at') s2.jV.length 0 s2.jV.length]]⟩:=by
  rw [Ol];simp only [lE,dK,dO]
 rw [yW] at Xt;have XX:k≤31:=ae;have Iy:s2.ends.length≤32:=by rw [jW,nS,j6];show s.ends.length≤32;rw [hw.xu];omega
 have h3t:s3.tasks[k]?=some t:=by rw [LM,LL];exact Ct
 have h3l:Hid (s3.tasks.length=k+1):=⟨by rw [LM,LL];simp [jv.lJ]⟩
 have Rw:=Hid.mk LM;have zH:=Hid.mk lV;have aE1:=Hid.mk yW;have axA:=Hid.mk LL;have aE2:=Hid.mk KR;have BG:=Hid.mk nS;have pz:=Hid.mk jW;rw [← GY] at zf;clear pe oC qh ht d1 d2 d2x d3 r1 r2 r3 GY Rv nS jW LL KR LM Ol lV yW;have oL:=Hid.mk j6;have mC:=Hid.mk hj;have Om:=Hid.mk hk;have h':=Hid.mk h;have GV:=Hid.mk hT;have C4:=Hid.mk hq;have axB:=Hid.mk Ok;clear j6 hj hk h hq Ok hT;refine jS.i2 [(0,jI),(1,kx c),(2,.jA (vs.map .int)),(3,.int prio),(4,.int par),(5,.base (.bool canc)),(6,lS x)] 7 62 NN Tryd.func83 (kC s) ?_;refine jw ?_;refine jB.p2 (sf hw kq (T:=[kP c]) ie rfl aa aa ?_ (.ptr pY)) ?_
 ·intro a ha;simp only [dC,dB,jd] at ha;rcases ha with rfl|rfl|rfl
  ·exact .pu (Cp _)
  ·exact .pu (l7 _)
  ·exact .pu (.base _)
 rw [← GV.out];refine jB.p2 (yO _ _ aa) ?_;refine jw ?_;refine jB.p2 (pD _ _) ?_;refine jw ?_;refine jB.p2 (lK _ _ _ rfl aa aa) ?_;refine x9 (cs:=[.own (ix (.jH k)) 1 0 1,.int prio,.base (.bool canc),.int par,kD,.n5 (ix (.kg k)),.int (-1),.int 0,.int 1,.int (-1),lS q,kD]) awQ aoF ?_;refine jB.p2 (zf _ _ aa) ?_;refine jw ?_;refine jB.p2 (tX (b:=ix .tk) (tot:=k) (es:=[nW k]) (blk:=⟨84,1,(List.range k).map nW⟩) aa aa aa ah ew awP rfl rfl ah (fun e he=>aw) aj aj) ?_;refine jw ?_;refine jB.p2 (tX (b:=ix .en) (tot:=s2.ends.length) (es:=[AV.base (Value.slice none 0 0)]) (blk:=⟨25,1,s2.ends.map zO⟩) aa aa aa ah fb M8 rfl rfl ah (fun e he=>aw) aj aj) ?_;refine jw ?_;have sD:IntKind.i64.wrap ((s3.tasks.length:Int)-1)=(k:Int):=by rw [h3l.out,nP ae ae];omega
 have asH:(par:Int) = -1∨∃p:Nat,par=(p:Int)∧p<s.tasks.length:=we;have nN:Hid (t=mN s.calls.length prio canc par s.jE.length):=⟨by rw [nk.out,mC.out,axB.out]⟩
 have Tv:Hid (sP=(s.kF (lQ c vs (-1))).ld a):=⟨by rw [BG.out,oL.out]⟩
 have On:Hid (k=sP.tasks.length):=axA;have mf:vs.length≤1000:=ae;have lT:∀t':jQ,t'.jZ=[s.calls.length]→t'.jC=1→t'.kids=[]→t'.jX=s.jE.length→t'.lB=none→t'.state<3→(t'.ending=0∨3≤t'.ending)→t'.waits = -1→t'.par=par→(t'.state=1→0<c.steps.length)→Iv (sP.lJ t'):=fun t' b1 b2 b3 b4 b5 b6 b7 b8 b9 zZ=>by
  rw [Tv.out];exact PI (prio:=prio) (par:=par) (canc:=canc) h'.out h0 hC ae xH lI mf mh b1 b2 b3 b4 b5 b6 b7 b8 (by rw [b9];exact we) zZ
 have YQ:=Hid.mk lT;clear lT MJ Xt asH;rw [GV.out];refine jw ?_;by_cases l5:c.steps.length=0
 ·have hd:decide ((c.steps.length:Int)=0)=true:=by simp [l5]
  have zd:Iv (sP.lJ (j9 t 3)):=YQ.out _ bq bq bq bq bq cE (.inr cG) bq bq (fun e=>by have:(2:Int)=1:=e;omega);have Tw:s3.jF k (j9 t 3)=sP.lJ (j9 t 3):=by rw [Rw.out,On.out,L9]
  have hl4:(sP.lJ (j9 t 3)).tasks.length=k+1:=by simp [jv.lJ];exact On.out.symm
  have I5:(sP.lJ (j9 t 3)).jE.length=s.jE.length+1:=by rw [Tv.out];simp [jv.lJ,jv.ld,jv.kF]
  have yl:(sP.lJ (j9 t 3)).ke.length=s.ke.length:=by rw [Tv.out];rfl
  obtain ⟨f,hf⟩:∃f,f=k+1:=⟨_,rfl⟩
  have Kx:f≤32:=ae;have Ae:s.jE.length+1+1001*f≤MM:=ae;have ui:s.ke.length+f≤MM:=ae;have pf:k<f:=ae;have hS:=OE f (sP.lJ (j9 t 3)) k zd (by rw [hl4];exact gB k) pf (by rw [I5];exact Ae) (by rw [yl];exact ui);have hF:=DK f (sP.lJ (j9 t 3)) k zd (by rw [I5];exact Ae) (by rw [yl];exact ui);have hE:oU s c vs a prio par canc=oe f (sP.lJ (j9 t 3)) k:=by
   unfold oU;rw [ja l5,← zH.out,← Om.out,← nN.out,Tw,hf]
  have mD:WF s3:=by
   rw [Rw.out,show sP.lJ t=(sP.lJ (j9 t 3)).jF k t by rw [On.out,L9]];exact zd.wf.xj (t:=j9 t 3) (by rw [On.out];exact Ct) rfl (dD _) rfl rfl rfl
  have uW:=DR mD (st:=3) h3t hF.1.wf (by rw [Tw];exact hS);have hE':=Hid.mk hE;have DB:=hF.1.wf;clear hS hF hE zd Tw hl4 I5 yl hf Ae ui pf;refine j8 ?_ rfl aa;refine jw ?_;refine jB.p2 (sf mD DB (T:=[kP c]) uW rfl aa aa ?_ (.pu (Pu.ky ah))) ?_
  ·intro a ha;simp only [dC,dB,jd] at ha;rcases ha with rfl|rfl|rfl
   ·exact .ptr mc
   ·exact .pu (.base _)
   ·exact .pu (.base _)
  refine jw ?_;rw [hE'.out,← Om.out];exact kY.nE [kP c] DB (vs:=[.int k]) (by show o6 _ _ [.tmp 14]=_;simp +decide only [o6,xV,zx,uB,go_sem, *]<;>rfl) ah rfl (.pu (.base _))
 ·have hd:decide ((c.steps.length:Int)=0)=false:=je ae;have xT:Iv (sP.lJ t):=YQ.out _ bq bq bq bq bq (by rw [nN.out];show (1:Int)<3;omega) (.inl bq) bq bq (fun e=>ae);have hE:oU s c vs a prio par canc=s3:=by
   unfold oU;rw [iZ l5,zH.out]
  have mD:WF s3:=by rw [Rw.out];exact xT.wf
  clear xT;refine jK ?_ rfl aa;refine jw ?_;rw [hE,← Om.out];exact kY.nE [kP c] mD (vs:=[.int k]) (by show o6 _ _ [.tmp 14]=_;simp +decide only [o6,xV,zx,uB,go_sem, *]<;>rfl) ah rfl (.pu (.base _))
theorem Mm {s:jv} {l:List Nat} {k:Nat} {t':jQ} (ht:(mx s l).tasks[k]?=some t'):∃t b,s.tasks[k]?=some t∧t'={ t with canc:=b }:=by
 obtain ⟨t,h1,rfl⟩:=JI ht;split
 ·exact ⟨t,true,h1,rfl⟩
 ·exact ⟨t,t.canc,h1,rfl⟩
theorem Iv.can {s:jv} (h:Iv s) (l:List Nat):Iv (mx s l):=by
 have key:∀ {p:Nat→jQ→Prop},(∀k t b,p k t→p k { t with canc:=b })→(∀k t,s.tasks[k]?=some t→p k t)→∀k t,(mx s l).tasks[k]?=some t→p k t:=fun {p} g1 g2 k t ht=>by
  obtain ⟨t0,b,h1,rfl⟩:=Mm ht;exact g1 k t0 b (g2 k t0 h1)
 refine ⟨h.wf.can l,h.kd.can l,key (fun k t b g=>g) h.par,key (fun k t b g=>g) h.jH,key (p:=fun k t=>3≤t.state→∃j,s.ends[k]?=some (some j)) (fun k t b g=>g) h.en,key (p:=fun k t=>0≤t.waits→t.lB=none) (fun k t b g=>g) h.wt,key (p:=fun k t=>t.ending=0∨3≤t.ending) (fun k t b g=>g) h.ed,?_,h.qN,fun k t j c=>key (p:=fun k t=>(t.state=1∨0≤t.waits)→t.jZ[t.jC-1]?=some j→s.calls[j]?=some c→c.pc<c.code.steps.length) (fun k t b g=>g) (fun k t ht=>h.rr k t j c ht) k t⟩;intro k t k' t' i i' j ht nk hi oX hj mC;obtain ⟨u,b,h1,rfl⟩:=Mm ht;obtain ⟨u',b',pd,rfl⟩:=Mm nk;exact h.rZ k u k' u' i i' j h1 pd hi oX hj mC
def oS (s:jv) (ks:List Int):jv:=mx s (ks.flatMap fun k=>pI s (s.tasks.length) k.toNat)
def sL (s:jv) (n:Nat):jv:=match s.tasks[n]? with
 | some t=>oe (n+1) ((oS s t.kids).jF n (j9 t 4)) n
 | none=>s
theorem PY {s:jv} (hk:w9 s):∀(f j x:Nat),x∈pI s f j→j≤x:=by
 intro f
 induction f with
 | zero=>intro j x h;simp [pI] at h
 | succ f ih =>
   intro j x h;simp only [pI,dC,List.mem_flatMap] at h;rcases h with rfl|⟨k,h1,h2⟩
   ·exact dD _
   ·unfold x8 at h1;split at h1
    ·rename_i t ht;obtain ⟨i,rfl,h3,h4⟩:=hk.kd j t ht k h1;have:=ih _ x h2;rw [dF] at this;omega
    ·cases h1
theorem JL {s:jv} (h:Iv s) {n:Nat} {t:jQ} (ht:s.tasks[n]?=some t) (jP:t.state<3) (mr:t.waits<0) (pH:s.jE.length+40000≤MM) (nV:s.ke.length+40≤MM) :
 jS Tryd.prog 90 [jI,.int n] (HH s) (.ky []) (HH (sL s n))∧Iv (sL s n)∧Sb s (sL s n) (n+1):=by
 have hw:=h.wf;obtain ⟨g1,g2,g3,g4,hn,g6⟩:=hw.k ht;have uX:=h.kd.kd n t ht;have pR:=(hw.tF t (dx ht)).2;have sR:=hw.nT;obtain ⟨f,hf⟩:∃f,f=n+1:=⟨_,rfl⟩
 have Kx:f≤32:=ae;have Ae:s.jE.length+1001*f≤MM:=ae;have ui:s.ke.length+f≤MM:=ae;have vU:n∉t.kids.flatMap fun k=>pI s (s.tasks.length) k.toNat:=by
  intro hm;obtain ⟨k,h1,h2⟩:=List.mem_flatMap.1 hm;obtain ⟨j,rfl,h3,h4⟩:=uX k h1;have:=PY h.kd _ _ _ h2;rw [dF] at this;omega
 have pg:(oS s t.kids).tasks[n]?=some t:=by unfold oS;rw [Bl ht,iZ vU]
 have yX:Iv (oS s t.kids):=h.can _;obtain ⟨a1,a2,a3,a4⟩:=yX.wf.kQ t (dx pg);have A3:Iv ((oS s t.kids).jF n (j9 t 4)):=yX.jF pg rfl (dD _) (yX.jH n t pg) rfl rfl a3 a4 (fun e=>absurd e (by show ¬(3:Int)≤2;omega)) (fun e=>absurd e (by show ¬ 0≤t.waits;omega)) (.inr (by show (3:Int)≤4;omega)) (fun e=>by
  rcases e with e|e
  ·have:(2:Int)=1:=e;omega
  ·have:0≤t.waits:=e;omega)
 have nL:((oS s t.kids).jF n (j9 t 4)).tasks.length=s.tasks.length:=by rw [lY];exact vy
 have hS:=OE f _ n A3 (by rw [nL];exact hn) ae Ae ui;have hF:=DK f _ n A3 Ae ui;have hE:sL s n=oe f ((oS s t.kids).jF n (j9 t 4)) n:=by unfold sL;rw [ht,hf]
 have uW:=DR yX.wf (st:=4) pg hF.1.wf hS;rw [hE,← hf];refine ⟨?_,hF.1,⟨by rw [hF.2.tl,nL],hF.2.cl,hF.2.pl,hF.2.bl⟩⟩;have DB:=hF.1.wf;obtain ⟨R,hR⟩:∃R,R=oe f ((oS s t.kids).jF n (j9 t 4)) n:=⟨_,rfl⟩
 rw [← hR] at DB uW ⊢;have oY:=D7 (H:=HH s) (k:=n) (l:=t.kids) cY;simp +decide only [go_sem] at oY;have h':=Hid.mk h;have nk:=Hid.mk ht;obtain ⟨Z,hZ⟩:∃Z,Z=oS s t.kids:=⟨_,rfl⟩
 rw [← hZ] at uW pg;have hZ':=Hid.mk hZ;clear hS hF hE A3 nL yX hR h hf vU hZ;refine jS.i2 [(0,jI),(1,.int n)] 2 28 NN Tryd.func90 (kC s) ?_;refine jw ?_;refine jB.q2 (lu (n:=n) (b:=ix .tk) aa aa ew aa ah hn aa) ?_;refine jw ?_;refine jG.loop (J:=fun i:Nat=>i≤t.kids.length) (fun i=>⟨[(0,jI),(1,.int n),(15,xq n t.kids),(16,.int t.kids.length),(17,.int i)],HH (oS s (t.kids.take i))⟩) (fun i=>t.kids.length-i) 0 (dL _) (.wf (hH:=by show HH s=HH (mx s []);rw [FD])) ?_;intro i hi;obtain ⟨s2,jW⟩:∃s2,s2=oS s (t.kids.take i):=⟨_,rfl⟩
 have A3:Iv s2:=by rw [jW];exact h'.out.can _
 have lj:=A3.wf;obtain ⟨t2,b2,ov,B7⟩:∃t2 b,s2.tasks[n]?=some t2∧t2={ t with canc:=b }:=by
  obtain ⟨x,hx⟩:∃x,s2.tasks[n]?=some x:=⟨_,dy (by rw [jW];unfold oS;rw [vy];exact hn)⟩
  have vS:=hx;rw [jW] at vS;obtain ⟨y,b,e1,e2⟩:=Mm vS;rw [nk.out] at e1;injection e1 with e1;subst e1;exact ⟨x,b,hx,e2⟩
 subst B7;obtain ⟨f1,f2,f3,f4,_,f6⟩:=lj.k ov;have pz:Hid (s2=oS s (t.kids.take i)):=⟨jW⟩
 have axC:=Hid.mk A3;rw [← jW];clear jW A3 ht g6 oY;refine jw ?_;refine kL (fun hd=>?_) (fun hd=>?_)
 ·simp at hd;obtain ⟨k,o0⟩:∃k,t.kids[i]?=some k:=⟨_,dy hd⟩
  obtain ⟨j,rfl,tQ,uH⟩:=uX k (dx o0);have EA:(t.kids.map AV.int)[i]?=some (.int j):=by rw [dE,o0];rfl
  have nL:s2.tasks.length=s.tasks.length:=by rw [pz.out];exact vy
  have ic:=Js s.tasks.length (s:=s2) j lj axC.out.kd ae (by rw [nL];exact uH);have hR:Hid (mx s2 (pI s2 s.tasks.length j)=oS s (t.kids.take (i+1))):=⟨by
   rw [pz.out];unfold oS;rw [Mp,Jx,fH,o0,List.flatMap_append];simp⟩
  have LF:=Mg (k:=n) o0;clear o0 nL;refine jw ?_;refine jB.q2 (lu (n:=i) (b:=ix (.lU n)) aa aa dG aa ah hd aa) ?_;refine jw ?_;refine jB.p2 (rM ic aP rfl aa aa) ?_;refine jw ?_;rw [l6 ae];refine ⟨i+1,hd,ae,?_⟩;rw [hR.out,LF];exact .wf
 simp at hd;obtain rfl:i=t.kids.length:=ae;have hsZ:s2=Z:=by rw [pz.out,hZ'.out,fT]
 rw [hsZ];clear ov f1 f2 f3 f4;refine jw ?_;refine jB.p2 (rM uW aP rfl aa aa) ?_;refine jw ?_;exact .nE [] DB (vs:=[]) ar ah rfl (.pu (Pu.ky ah))
def jv.kE (s:jv) (x:Acc):jv:={ s with jT:=s.jT++[x] }
theorem alY {s:jv} {x:Acc}:((HH s).set (ix .ac) ⟨73,4,s.jT.map oJ++[oJ x]⟩).set (ix .rn) (lE (s.kE x))=HH (s.kE x):=by
 refine tZ (s:=s) (s':=s.kE x) [(.ac,_),(.rn,_)] (vF ⟨Cz,?_⟩ ⟨mc,rfl⟩) fun a ha=>?_
 ·simp [blk,jv.kE]
 ·cases a<;>first|rfl|simp at ha
theorem Iv.kE {s:jv} (h:Iv s) (x:Acc) (hb:s.jT.length<1000000):Iv (s.kE x):=
 ⟨⟨h.wf.1,h.wf.2,h.wf.3,h.wf.4,h.wf.5,h.wf.6,h.wf.7,h.wf.8,h.wf.9,h.wf.10,h.wf.11,by
   obtain ⟨a1,a2,a3,a4⟩:=h.wf.12;exact ⟨a1,a2,by simp [jv.kE];omega,a4⟩,h.wf.13,h.wf.14⟩,⟨h.kd.kd⟩,h.par,h.jH,h.en,h.wt,h.ed,h.rZ,h.qN,h.rr⟩
abbrev oq:jy:=⟨76,1,[jI]⟩
abbrev mS (st:kG) (time who:Int):List jy:=[oq,j7 st,jD [time],jD [who]]
theorem Cm {s:jv} {st:kG} {time who o:Int} {w:Bool} (hb:s.jT.length≤900000):jS Tryd.prog 113 [.int o,.base (.bool w),.ptr NN 1 0 0,.ptr (NN+3) 1 0 0,.ptr (NN+2) 1 0 0] (HH s++mS st time who) (.ky []) (HH (s.kE ⟨who,o,w,time⟩)++mS st time who):=by
 refine jS.i2 [(0,.int o),(1,.base (.bool w)),(2,.ptr NN 1 0 0),(3,.ptr (NN+3) 1 0 0),(4,.ptr (NN+2) 1 0 0)] 5 21 (NN+4) Tryd.func113 aP ?_;refine jw ?_;have lF:=alY (s:=s) (x:=⟨who,o,w,time⟩);refine qK (k:=12) [none,none,none,none,none,none,none,none,none,none,none,some 0] (fun k=>match k with
  | 0=>HH s++mS st time who
  | _=>(HH s).set (ix .ac) ⟨73,4,s.jT.map oJ++[oJ ⟨who,o,w,time⟩]⟩++mS st time who) 1 follows ?_
 refine gS ?_;refine gS ?_;refine gS ?_;refine gS ?_;refine gS ?_;refine gS ?_;refine gS ?_;refine gS ?_;refine gS ?_;refine ko.q1 (v:=.agg [.int who,.int o,.base (.bool w),.int time]) rfl rfl (fun c _=>DN XG Wu aC) ?_;refine ko.q1 (v:=.jA [.agg [.int who,.int o,.base (.bool w),.int time]]) rfl rfl (fun c _=>DX Tryd.underlying30 XH az ag az aC aC rfl) ?_;refine ko.p1 (v:=.own (ix .ac) (s.jT.length+1) 0 (s.jT.length+1)) rfl rfl (fun kB h=>?_) ?_
 ·have h1:=tX (P:=Tryd.prog) (ρ:=kB) (H:=HH s++mS st time who) (b:=ix .ac) (tot:=s.jT.length) (es:=[.agg [.int who,.int o,.base (.bool w),.int time]]) (blk:=⟨73,4,s.jT.map oJ⟩) ((h (.tmp 11) ai).trans aa) ((h (.tmp 17) ai).trans aa) aa ah Tryd.underlying30 XI rfl rfl ah (fun e he=>aw) aj aj;rw [o7 (kC s) Cz] at h1;exact h1
 refine ko.nil ?_;have hr:lE (s.kE ⟨who,o,w,time⟩)=⟨83,13,[.agg [.jA (s.p.kT.map kx),.jA (s.p.methods.map kx),.int s.p.mb,.jA (s.sched.map .int),.int s.used,.own (ix .ob) s.jL.length 0 s.jL.length,.own (ix .tk) s.tasks.length 0 s.tasks.length,.own (ix .ln) s.lines.length 0 s.lines.length,.own (ix .ac) (s.jT.length+1) 0 (s.jT.length+1),.own (ix .tn) s.turns.length 0 s.turns.length,.own (ix .ck) s.kK.length 0 s.kK.length,.own (ix .en) s.ends.length 0 s.ends.length,.own (ix .at') s.jV.length 0 s.jV.length]]⟩:=by
  simp only [lE,jv.kE,dK,dO]
 rw [hr] at lF;have HX:=Hid.mk lF;clear lF;refine jw ?_;refine kY.same (vs:=[]) ar rfl ?_;show ((HH s).set (ix .ac) _++_).set (ix .rn) _=_;rw [o7 (by rw [qG,kC]) mc];exact jj (·++_) HX.out
structure Stb (s s':jv):Prop where
 iv:Iv s'
 tl:s'.tasks.length=s.tasks.length+1
 cl:s'.calls.length=s.calls.length+1
 pl:s'.jE.length≤s.jE.length+40000
 bl:s'.ke.length≤s.ke.length+40
theorem L8 {s:jv} (h:Iv s) {c:Cd} {vs a:List Int} {prio par:Int} {canc:Bool} (h0:s.tasks.length<32) (hC:s.calls.length<MM) (hP:s.jE.length+40000≤MM) (hB:s.ke.length+40≤MM) (ha:a.length=32) (lI:c.vars≤1000) (kV:vs.length≤c.vars) (mh:c.steps.length≤1000)
 (we:par = -1∨∃p:Nat,par=(p:Int)∧p<s.tasks.length):Stb s (oU s c vs a prio par canc):=by
 have lT:∀t':jQ,t'.jZ=[s.calls.length]→t'.jC=1→t'.kids=[]→t'.jX=s.jE.length→t'.lB=none→t'.state<3→(t'.ending=0∨3≤t'.ending)→t'.waits = -1→t'.par=par→(t'.state=1→0<c.steps.length)→Iv (((s.kF (lQ c vs (-1))).ld a).lJ t'):=fun t' b1 b2 b3 b4 b5 b6 b7 b8 b9 zZ =>
  PI (prio:=prio) (par:=par) (canc:=canc) h h0 hC ae ha lI ae mh b1 b2 b3 b4 b5 b6 b7 b8 (by rw [b9];exact we) zZ
 have hl:∀t':jQ,(((s.kF (lQ c vs (-1))).ld a).lJ t').tasks.length=s.tasks.length+1:=fun t'=>cu;have hc:∀t':jQ,(((s.kF (lQ c vs (-1))).ld a).lJ t').calls.length=s.calls.length+1:=fun t'=>cu;have hp:∀t':jQ,(((s.kF (lQ c vs (-1))).ld a).lJ t').jE.length=s.jE.length+1:=fun t'=>cu;have hb:∀t':jQ,(((s.kF (lQ c vs (-1))).ld a).lJ t').ke.length=s.ke.length:=fun t'=>rfl;unfold oU;split
 ·rename_i l5;obtain ⟨t,ht⟩:∃t,t=mN s.calls.length prio canc par s.jE.length:=⟨_,rfl⟩
  have he:(zw s c vs a prio par canc).jF s.tasks.length (j9 t 3)=((s.kF (lQ c vs (-1))).ld a).lJ (j9 t 3):=L9 (s:=(s.kF (lQ c vs (-1))).ld a);rw [← ht,he];have hI:=lT (j9 t 3) bt bt bt bt bt cE (.inr cG) bt bt (fun e=>by have:(2:Int)=1:=e;omega);obtain ⟨f,hf⟩:∃f,f=s.tasks.length+1:=⟨_,rfl⟩
  rw [← hf];have Kx:f≤32:=ae;have Ae:s.jE.length+1+1001*f≤MM:=ae;have ui:s.ke.length+f≤MM:=ae;obtain ⟨g1,g2⟩:=DK f _ s.tasks.length hI (by rw [hp];exact Ae) (by rw [hb];exact ui);exact ⟨g1,by rw [g2.tl,hl],by rw [g2.cl,hc],by have:=g2.pl;rw [hp] at this;omega,by have:=g2.bl;rw [hb] at this;omega⟩
 ·rename_i l5;exact ⟨lT _ rfl rfl rfl rfl rfl (by show (1:Int)<3;omega) (.inl rfl) rfl rfl (fun _=>ae),hl _,hc _,by have:=hp (mN s.calls.length prio canc par s.jE.length);show (((s.kF (lQ c vs (-1))).ld a).lJ (mN s.calls.length prio canc par s.jE.length)).jE.length≤_;omega,cQ⟩
def jR (c:kh) (n:Nat):Int:=if 0≤c.jM then -1-c.jM else n
theorem WF.ll {s:jv} (h:WF s) (n:Int) (hb:s.jL.length<1000000):WF (s.ll n):=
 ⟨h.1,h.2,h.3,h.4,h.5,h.6,h.7,h.8,h.9,h.10,h.11,by
  obtain ⟨a1,a2⟩:=h.12;exact ⟨by simp [jv.ll];omega,a2⟩,h.13,h.14⟩
theorem aoN {s:jv} (h:Iv s) {n j:Nat} {t:jQ} {c:kh} {v w nn tk:Int} {vs:List Int} {time:Int} (ht:s.tasks[n]?=some t) (hc:s.calls[j]?=some c) (kW:-1≤c.jM∧c.jM≤1000) (hv:0≤v∧v<c.vars.length) (pt:s.jL.length≤900000) :
 jS Tryd.prog 91 [jI,.int n,ki ⟨1,v,w,nn,tk,vs⟩,kM j,.int time] (HH s) (.bool true) (HH ((s.ll nn).ly j { c with vars:=c.vars.set v.toNat s.jL.length })):=by
 have hw:=h.wf;obtain ⟨g1,g2,g3,g4,hn,g6⟩:=hw.k ht;obtain ⟨k1,k2⟩:=hw.c hc;have hlen:=kC s;refine jS.i2 [(0,jI),(1,.int n),(2,ki ⟨1,v,w,nn,tk,vs⟩),(3,kM j),(4,.int time)] 5 372 NN fX (kC s) ?_;refine jw ?_;refine jB.q2 (lu (n:=n) (b:=ix .tk) aa aa ew aa ah hn aa) ?_;refine jw ?_;refine jG.join ⟨[(1,.int n),(3,kM j),(5,.ptr NN 1 0 0),(7,.ptr (NN+1) 1 0 0),(9,.ptr (NN+2) 1 0 0),(12,.ptr (NN+3) 1 0 0),(11,nW n),(10,.bool false)],HH s++mS ⟨1,v,w,nn,tk,vs⟩ time (jR c n)⟩ ?_ ?_
 ·by_cases ha:0≤c.jM
  ·have hd:decide (c.jM≥0)=true:=cw;have oh:IntKind.i64.wrap (-1-c.jM) = -1-c.jM:=nP ae ae;have mg:jR c n = -1-c.jM:=ja ha;refine j8 ?_ rfl aa;refine jw ?_;rw [mg];exact .wf (hH:=aF)
  ·have hd:decide (c.jM≥0)=false:=aj;have mg:jR c n=n:=iZ ha;refine jK ?_ rfl aa;refine jw ?_;rw [mg];exact .wf
 obtain ⟨vn,rfl⟩:∃vn:Nat,v=vn:=⟨_,(dP hv.1).symm⟩
 have mf:vn<c.vars.length:=ae;obtain ⟨x,hx⟩:∃x,c.vars[vn]?=some x:=⟨_,dy mf⟩
 have qy:=zj (j:=j) hx;have yV:(c.vars.map AV.int)[vn]?=some (.int x):=aZ;have Ho:WF (s.ll nn):=hw.ll nn ae;have lF:=Hid.mk (FN (s:=s.ll nn) (c':={ c with vars:=c.vars.set vn s.jL.length }) hc k2 ah rfl);have LN:=Ho.ly (j:=j) (c:={ c with vars:=c.vars.set vn s.jL.length }) da (hw.tW c (dx hc)).2;rw [dF];obtain ⟨who,pa⟩:∃who,who=jR c n:=⟨_,rfl⟩
 rw [← pa];clear pa;refine jw ?_;refine j8 ?_ rfl aa;refine jw ?_;have hcO:(s.ll nn).calls[j]?=some c:=hc;refine qK (k:=10) [none,none,none,none,none,none,none,none,none,some 0] (fun k=>match k with
  | 0=>HH s++mS ⟨1,vn,w,nn,tk,vs⟩ time who
  | _=>HH (s.ll nn)++mS ⟨1,vn,w,nn,tk,vs⟩ time who) 1 follows ?_
 refine gS ?_;refine gS ?_;refine gS ?_;refine gS ?_;refine gS ?_;refine gS ?_;refine gS ?_;refine gS ?_;refine gS ?_;refine ko.p1 (v:=.int s.jL.length) rfl rfl (fun kB h=>?_) ?_
 ·have Ho:WF (s.ll nn):=hw.ll nn ae;exact sf hw Ho (T:=mS ⟨1,vn,w,nn,tk,vs⟩ time who) (Ck hw nn pt) rfl ((h (.func 82) ai).trans aa) (by
   simp only [List.map];rw [h (.tmp 51) ai,h (.tmp 53) ai];simp +decide only [go_sem]<;>rfl) (Ip _) (.pu (.base _))
 refine ko.nil ?_;refine jw ?_;refine jB.q2 (lu (n:=vn) (b:=ix (.kz j)) aa aa dG aa ah mf aa) ?_;refine jB.p2 (xc (f:=AV.int) (l:=c.vars) (b:=ix (.kz j)) (tot:=c.vars.length) (i:=vn) (ty:=3) (sz:=1) (s.jL.length:Int) aa aa aa rfl mf ny rfl rfl) ?_;have aDf:=lF.out;clear lF;refine jw ?_;exact .nE (mS ⟨1,vn,w,nn,tk,vs⟩ time who) LN (vs:=[.bool true]) aq rfl rfl (.pu (.base _))
theorem aoO {s:jv} (h:Iv s) {n j:Nat} {t:jQ} {c:kh} {v w nn tk:Int} {vs:List Int} {time:Int} (ht:s.tasks[n]?=some t) (hc:s.calls[j]?=some c) (kW:-1≤c.jM∧c.jM≤1000) (jP:t.state<3) (mr:t.waits<0) (pH:s.jE.length+40000≤MM) (nV:s.ke.length+40≤MM) :
 jS Tryd.prog 91 [jI,.int n,ki ⟨11,v,w,nn,tk,vs⟩,kM j,.int time] (HH s) (.bool (!t.canc)) (HH (if t.canc then sL s n else s)):=by
 have hw:=h.wf;obtain ⟨g1,g2,g3,g4,hn,g6⟩:=hw.k ht;obtain ⟨k1,k2⟩:=hw.c hc;have hlen:=kC s;refine jS.i2 [(0,jI),(1,.int n),(2,ki ⟨11,v,w,nn,tk,vs⟩),(3,kM j),(4,.int time)] 5 372 NN fX (kC s) ?_;refine jw ?_;refine jB.q2 (lu (n:=n) (b:=ix .tk) aa aa ew aa ah hn aa) ?_;refine jw ?_;refine jG.join ⟨[(1,.int n),(3,kM j),(5,.ptr NN 1 0 0),(7,.ptr (NN+1) 1 0 0),(9,.ptr (NN+2) 1 0 0),(12,.ptr (NN+3) 1 0 0),(11,nW n),(10,.bool false)],HH s++mS ⟨11,v,w,nn,tk,vs⟩ time (jR c n)⟩ ?_ ?_
 ·by_cases ha:0≤c.jM
  ·have hd:decide (c.jM≥0)=true:=cw;have oh:IntKind.i64.wrap (-1-c.jM) = -1-c.jM:=nP ae ae;have mg:jR c n = -1-c.jM:=ja ha;refine j8 ?_ rfl aa;refine jw ?_;rw [mg];exact .wf (hH:=aF)
  ·have hd:decide (c.jM≥0)=false:=aj;have mg:jR c n=n:=iZ ha;refine jK ?_ rfl aa;refine jw ?_;rw [mg];exact .wf
 obtain ⟨who,pa⟩:∃who,who=jR c n:=⟨_,rfl⟩
 rw [← pa];clear pa;obtain ⟨is,Hi,_⟩:=JL h ht jP mr pH nV;have y8:=Hi.wf;clear Hi;refine jw ?_;refine jK ?_ rfl aa;refine jw ?_;refine jK ?_ rfl aa;refine jw ?_;refine jK ?_ rfl aa;refine jw ?_;refine jK ?_ rfl aa;refine jw ?_;refine jK ?_ rfl aa;refine jw ?_;refine jK ?_ rfl aa;refine jw ?_;refine jK ?_ rfl aa;refine jw ?_;refine jK ?_ rfl aa;refine jw ?_;refine jK ?_ rfl aa;refine jw ?_;refine jK ?_ rfl aa;refine jw ?_;refine j8 ?_ rfl aa;refine jw ?_;cases ni:t.canc with
 | true =>
   refine j8 ?_ rfl aa;refine jw ?_;refine jB.p2 (sf hw y8 (T:=mS ⟨11,v,w,nn,tk,vs⟩ time who) is rfl aa aa (Ip _) (.pu (Pu.ky ah))) ?_;refine jw ?_;exact .nE (mS ⟨11,v,w,nn,tk,vs⟩ time who) y8 (vs:=[.bool false]) aq rfl rfl (.pu (.base _))
 | false =>
   refine jK ?_ rfl aa;refine jw ?_;exact .nE (mS ⟨11,v,w,nn,tk,vs⟩ time who) hw (vs:=[.bool true]) aq rfl rfl (.pu (.base _))
theorem aoP {s:jv} (h:Iv s) {n j:Nat} {t:jQ} {c:kh} {v w nn tk:Int} {vs:List Int} {time:Int} (ht:s.tasks[n]?=some t) (hc:s.calls[j]?=some c) (kW:-1≤c.jM∧c.jM≤1000) {kc:Nat} (rB:getM t.kg nn=some (kc:Int)) (hkc:kc<s.tasks.length) :
 jS Tryd.prog 91 [jI,.int n,ki ⟨10,v,w,nn,tk,vs⟩,kM j,.int time] (HH s) (.bool true) (HH (mx s (pI s s.tasks.length kc))):=by
 have hw:=h.wf;obtain ⟨g1,g2,g3,g4,hn,g6⟩:=hw.k ht;obtain ⟨k1,k2⟩:=hw.c hc;have hlen:=kC s;refine jS.i2 [(0,jI),(1,.int n),(2,ki ⟨10,v,w,nn,tk,vs⟩),(3,kM j),(4,.int time)] 5 372 NN fX (kC s) ?_;refine jw ?_;refine jB.q2 (lu (n:=n) (b:=ix .tk) aa aa ew aa ah hn aa) ?_;refine jw ?_;refine jG.join ⟨[(1,.int n),(3,kM j),(5,.ptr NN 1 0 0),(7,.ptr (NN+1) 1 0 0),(9,.ptr (NN+2) 1 0 0),(12,.ptr (NN+3) 1 0 0),(11,nW n),(10,.bool false)],HH s++mS ⟨10,v,w,nn,tk,vs⟩ time (jR c n)⟩ ?_ ?_
 ·by_cases ha:0≤c.jM
  ·have hd:decide (c.jM≥0)=true:=cw;have oh:IntKind.i64.wrap (-1-c.jM) = -1-c.jM:=nP ae ae;have mg:jR c n = -1-c.jM:=ja ha;refine j8 ?_ rfl aa;refine jw ?_;rw [mg];exact .wf (hH:=aF)
  ·have hd:decide (c.jM≥0)=false:=aj;have mg:jR c n=n:=iZ ha;refine jK ?_ rfl aa;refine jw ?_;rw [mg];exact .wf
 obtain ⟨who,pa⟩:∃who,who=jR c n:=⟨_,rfl⟩
 rw [← pa];clear pa;have ic:=Js s.tasks.length (s:=s) kc hw h.kd ae hkc;have y8:=hw.can (pI s s.tasks.length kc);have Kb:=Hid.mk rB;clear rB;refine jw ?_;refine jK ?_ rfl aa;refine jw ?_;refine jK ?_ rfl aa;refine jw ?_;refine jK ?_ rfl aa;refine jw ?_;refine jK ?_ rfl aa;refine jw ?_;refine jK ?_ rfl aa;refine jw ?_;refine jK ?_ rfl aa;refine jw ?_;refine jK ?_ rfl aa;refine jw ?_;refine jK ?_ rfl aa;refine jw ?_;refine jK ?_ rfl aa;refine jw ?_;refine j8 ?_ rfl aa;refine jw ?_;refine mi (k:=8) follows (hr:=?_);refine jw ?_;refine jB.q2 (OU (a:=nn) (m:=t.kg) (enc:=H0) (f:=AV.int) (b:=ix (.kg n)) aa aa aa Tryd.underlying86 gL (zn.int _) D5) ?_;rw [Kb.out];refine jw ?_;refine jB.p2 (sf hw y8 (T:=mS ⟨10,v,w,nn,tk,vs⟩ time who) ic rfl aa aa (Ip _) (.pu (Pu.ky ah))) ?_;refine jw ?_;exact .nE (mS ⟨10,v,w,nn,tk,vs⟩ time who) y8 (vs:=[.bool true]) aq rfl rfl (.pu (.base _))
theorem aoQ {s:jv} (h:Iv s) {n j:Nat} {t:jQ} {c:kh} {v w nn tk:Int} {vs:List Int} {time:Int} (ht:s.tasks[n]?=some t) (hc:s.calls[j]?=some c) (kW:-1≤c.jM∧c.jM≤1000) {kc:Nat} (rB:getM t.kg nn=some (kc:Int)) {tc:jQ} (Ag:s.tasks[kc]?=some tc) :
 jS Tryd.prog 91 [jI,.int n,ki ⟨7,v,w,nn,tk,vs⟩,kM j,.int time] (HH s) (.bool (decide (3≤tc.state))) (HH (if 3≤tc.state then s else s.jF n { t with waits:=kc,state:=2 })):=by
 have hw:=h.wf;obtain ⟨g1,g2,g3,g4,hn,g6⟩:=hw.k ht;obtain ⟨k1,k2⟩:=hw.c hc;have hlen:=kC s;refine jS.i2 [(0,jI),(1,.int n),(2,ki ⟨7,v,w,nn,tk,vs⟩),(3,kM j),(4,.int time)] 5 372 NN fX (kC s) ?_;refine jw ?_;refine jB.q2 (lu (n:=n) (b:=ix .tk) aa aa ew aa ah hn aa) ?_;refine jw ?_;refine jG.join ⟨[(1,.int n),(3,kM j),(5,.ptr NN 1 0 0),(7,.ptr (NN+1) 1 0 0),(9,.ptr (NN+2) 1 0 0),(12,.ptr (NN+3) 1 0 0),(11,nW n),(10,.bool false)],HH s++mS ⟨7,v,w,nn,tk,vs⟩ time (jR c n)⟩ ?_ ?_
 ·by_cases ha:0≤c.jM
  ·have hd:decide (c.jM≥0)=true:=cw;have oh:IntKind.i64.wrap (-1-c.jM) = -1-c.jM:=nP ae ae;have mg:jR c n = -1-c.jM:=ja ha;refine j8 ?_ rfl aa;refine jw ?_;rw [mg];exact .wf (hH:=aF)
  ·have hd:decide (c.jM≥0)=false:=aj;have mg:jR c n=n:=iZ ha;refine jK ?_ rfl aa;refine jw ?_;rw [mg];exact .wf
 obtain ⟨who,pa⟩:∃who,who=jR c n:=⟨_,rfl⟩
 rw [← pa];clear pa;obtain ⟨y1,y2,y3,y4,yn,y6⟩:=hw.k Ag;have io:=yv Ag y1;obtain ⟨s1,w1⟩:=xb.mk' ht { t with waits:=kc };have e1:=w1.lF ht g1 rfl rfl rfl;obtain ⟨s2,w2⟩:=xb.mk' w1.tk { t with waits:=kc,state:=2 };have e2:=w2.lF w1.tk g1 rfl rfl rfl;have q1:=w1.tk;have jW:Hid (s.jF n { t with waits:=kc,state:=2 }=s2):=⟨by rw [w2.eq,w1.eq,u7]⟩
 have lj:WF s2:=by rw [← jW.out];exact hw.xj ht rfl (dD _) rfl rfl rfl
 simp only [mG,vJ] at e1 e2;have Kb:=Hid.mk rB;rw [jW.out];clear rB w1 w2;refine jw ?_;refine jK ?_ rfl aa;refine jw ?_;refine jK ?_ rfl aa;refine jw ?_;refine jK ?_ rfl aa;refine jw ?_;refine jK ?_ rfl aa;refine jw ?_;refine jK ?_ rfl aa;refine jw ?_;refine jK ?_ rfl aa;refine jw ?_;refine j8 ?_ rfl aa;refine jw ?_;refine mi (k:=6) follows (hr:=?_);refine jw ?_;refine jB.q2 (OU (a:=nn) (m:=t.kg) (enc:=H0) (f:=AV.int) (b:=ix (.kg n)) aa aa aa Tryd.underlying86 gL (zn.int _) D5) ?_;rw [Kb.out,eJ,eR];refine jw ?_;refine jB.q2 (lu (n:=kc) (b:=ix .tk) aa aa ew aa ah yn aa) ?_;refine jw ?_;refine jB.p2 (sf hw hw (T:=mS ⟨7,v,w,nn,tk,vs⟩ time who) io rfl aa aa ?_ (.pu (.base _))) ?_
 ·intro a ha;rw [dz] at ha;subst ha;exact .ptr y1
 refine jw ?_;by_cases h3:3≤tc.state
 ·have hd:decide (3≤tc.state)=true:=by simp [h3]
  rw [ja h3,hd];refine jK ?_ rfl aa;refine jw ?_;exact .nE (mS ⟨7,v,w,nn,tk,vs⟩ time who) hw (vs:=[.bool true]) aq rfl rfl (.pu (.base _))
 ·have hd:decide (3≤tc.state)=false:=by simp [h3]
  rw [iZ h3,hd];refine j8 ?_ rfl aa;refine jw ?_;exact .nE (mS ⟨7,v,w,nn,tk,vs⟩ time who) lj (vs:=[.bool false]) aq rfl rfl (.pu (.base _))
def jv.n7 (s:jv) (o:Nat) (x:Int×Int):jv:={ s with jL:=s.jL.set o x }
theorem Mu {s:jv} {o:Nat} {x:Int×Int}:(HH s).set (ix .ob) ⟨157,2,(s.jL.set o x).map qH⟩=HH (s.n7 o x):=
 tZ (s:=s) (s':=s.n7 o x) [(.ob,_)] (wM ⟨Bp,rfl⟩) fun a ha=>by
  cases a with
  | ob=>simp at ha
  | rn=>simp only [blk,lE,jv.n7,dW]
  | _=>rfl
theorem aoR {s:jv} (h:Iv s) {n j:Nat} {t:jQ} {c:kh} {vn wn o:Nat} {x:Int×Int} {y nn tk:Int} {vs:List Int} {time:Int} (ht:s.tasks[n]?=some t) (hc:s.calls[j]?=some c) (kW:-1≤c.jM∧c.jM≤1000) (hv:c.vars[vn]?=some (o:Int)) (hwv:c.vars[wn]?=some y) (ho:s.jL[o]?=some x) (tu:s.jT.length≤900000) :
 jS Tryd.prog 91 [jI,.int n,ki ⟨3,vn,wn,nn,tk,vs⟩,kM j,.int time] (HH s) (.bool true) (HH ((s.kE ⟨jR c n,o,true,time⟩).n7 o (x.1,y))):=by
 have hw:=h.wf;obtain ⟨g1,g2,g3,g4,hn,g6⟩:=hw.k ht;obtain ⟨k1,k2⟩:=hw.c hc;have hlen:=kC s;refine jS.i2 [(0,jI),(1,.int n),(2,ki ⟨3,vn,wn,nn,tk,vs⟩),(3,kM j),(4,.int time)] 5 372 NN fX (kC s) ?_;refine jw ?_;refine jB.q2 (lu (n:=n) (b:=ix .tk) aa aa ew aa ah hn aa) ?_;refine jw ?_;refine jG.join ⟨[(1,.int n),(3,kM j),(5,.ptr NN 1 0 0),(7,.ptr (NN+1) 1 0 0),(9,.ptr (NN+2) 1 0 0),(12,.ptr (NN+3) 1 0 0),(11,nW n),(10,.bool false)],HH s++mS ⟨3,vn,wn,nn,tk,vs⟩ time (jR c n)⟩ ?_ ?_
 ·by_cases ha:0≤c.jM
  ·have hd:decide (c.jM≥0)=true:=cw;have oh:IntKind.i64.wrap (-1-c.jM) = -1-c.jM:=nP ae ae;have mg:jR c n = -1-c.jM:=ja ha;refine j8 ?_ rfl aa;refine jw ?_;rw [mg];exact .wf (hH:=aF)
  ·have hd:decide (c.jM≥0)=false:=aj;have mg:jR c n=n:=iZ ha;refine jK ?_ rfl aa;refine jw ?_;rw [mg];exact .wf
 obtain ⟨who,pa⟩:∃who,who=jR c n:=⟨_,rfl⟩
 rw [← pa];clear pa;have qy:=zj (j:=j) hv;have LO:(c.vars.map AV.int)[vn]?=some (.int o):=cA;have pS:(c.vars.map AV.int)[wn]?=some (.int y):=by rw [dE,hwv];rfl
 have mf:vn<c.vars.length:=(dt hv).1;have SI:wn<c.vars.length:=(dt hwv).1;have is:=Cm (s:=s) (st:=⟨3,vn,wn,nn,tk,vs⟩) (time:=time) (who:=who) (o:=o) (w:=true) tu;refine jw ?_;refine jK ?_ rfl aa;refine jw ?_;refine jK ?_ rfl aa;refine jw ?_;refine j8 ?_ rfl aa;refine jw ?_;refine mi (k:=9) follows (hr:=?_);refine jw ?_;refine jB.q2 (lu (n:=vn) (b:=ix (.kz j)) aa aa dG aa ah mf aa) ?_;refine jw ?_;refine jB.p2 (rM (caps:=[.ptr NN 1 0 0,.ptr (NN+3) 1 0 0,.ptr (NN+2) 1 0 0]) is aP rfl bf aa) ?_;obtain ⟨s1,j6⟩:∃s1,s1=s.kE ⟨who,o,true,time⟩:=⟨_,rfl⟩
 have oL:Hid (s.kE ⟨who,o,true,time⟩=s1):=⟨j6.symm⟩
 have nU:s1.calls[j]?=some c:=by rw [j6];exact hc
 have xG:s1.jL[o]?=some x:=by rw [j6];exact ho
 have kq:WF s1:=bJ;clear j6 is;rw [oL.out];refine jw ?_;refine mi (k:=20) follows (hr:=?_);refine jw ?_;refine jB.q2 (lu (n:=vn) (b:=ix (.kz j)) aa aa dG aa ah mf aa) ?_;refine jw ?_;refine jB.q2 (lu (n:=wn) (b:=ix (.kz j)) aa aa dG aa ah SI aa) ?_;refine jw ?_;have oT:o<s1.jL.length:=(dt xG).1;have DI:(s1.jL.map qH)[o]?=some (qH x):=cr;have e1:=Mu (s:=s1) (o:=o) (x:=(x.1,y));rw [fJ] at e1;have lj:WF (s1.n7 o (x.1,y)):=⟨kq.1,kq.2,kq.3,kq.4,kq.5,kq.6,kq.7,kq.8,kq.9,kq.10,kq.11,by
  obtain ⟨a1,a2⟩:=kq.12;exact ⟨bO,a2⟩,kq.13,kq.14⟩
 refine jB.q2 (lu (n:=o) (b:=ix .ob) aa aa fp aa ah oT aa) ?_;refine jw ?_;refine jB.p2 (qP (b:=ix .ob) (tot:=s1.jL.length) (i:=o) (off:=1) (blk:=⟨157,2,s1.jL.map qH⟩) (v:=.int y) aa aa aa ah DI ny rfl rfl) ?_;refine jw ?_;exact .nE (mS ⟨3,vn,wn,nn,tk,vs⟩ time who) lj (vs:=[.bool true]) aq rfl rfl (.pu (.base _))
theorem aoS {s:jv} (h:Iv s) {n j:Nat} {t:jQ} {c:kh} {vn o:Nat} {x:Int×Int} {w nn tk:Int} {vs:List Int} {time:Int} (ht:s.tasks[n]?=some t) (hc:s.calls[j]?=some c) (kW:-1≤c.jM∧c.jM≤1000) (hv:c.vars[vn]?=some (o:Int)) (ho:s.jL[o]?=some x) (tu:s.jT.length≤900000) :
 jS Tryd.prog 91 [jI,.int n,ki ⟨5,vn,w,nn,tk,vs⟩,kM j,.int time] (HH s) (.bool true) (HH ((s.kE ⟨jR c n,o,true,time⟩).n7 o (nn,x.2))):=by
 have hw:=h.wf;obtain ⟨g1,g2,g3,g4,hn,g6⟩:=hw.k ht;obtain ⟨k1,k2⟩:=hw.c hc;have hlen:=kC s;refine jS.i2 [(0,jI),(1,.int n),(2,ki ⟨5,vn,w,nn,tk,vs⟩),(3,kM j),(4,.int time)] 5 372 NN fX (kC s) ?_;refine jw ?_;refine jB.q2 (lu (n:=n) (b:=ix .tk) aa aa ew aa ah hn aa) ?_;refine jw ?_;refine jG.join ⟨[(1,.int n),(3,kM j),(5,.ptr NN 1 0 0),(7,.ptr (NN+1) 1 0 0),(9,.ptr (NN+2) 1 0 0),(12,.ptr (NN+3) 1 0 0),(11,nW n),(10,.bool false)],HH s++mS ⟨5,vn,w,nn,tk,vs⟩ time (jR c n)⟩ ?_ ?_
 ·by_cases ha:0≤c.jM
  ·have hd:decide (c.jM≥0)=true:=cw;have oh:IntKind.i64.wrap (-1-c.jM) = -1-c.jM:=nP ae ae;have mg:jR c n = -1-c.jM:=ja ha;refine j8 ?_ rfl aa;refine jw ?_;rw [mg];exact .wf (hH:=aF)
  ·have hd:decide (c.jM≥0)=false:=aj;have mg:jR c n=n:=iZ ha;refine jK ?_ rfl aa;refine jw ?_;rw [mg];exact .wf
 obtain ⟨who,pa⟩:∃who,who=jR c n:=⟨_,rfl⟩
 rw [← pa];clear pa;have qy:=zj (j:=j) hv;have LO:(c.vars.map AV.int)[vn]?=some (.int o):=cA;have mf:vn<c.vars.length:=(dt hv).1;have is:=Cm (s:=s) (st:=⟨5,vn,w,nn,tk,vs⟩) (time:=time) (who:=who) (o:=o) (w:=true) tu;refine jw ?_;refine jK ?_ rfl aa;refine jw ?_;refine jK ?_ rfl aa;refine jw ?_;refine jK ?_ rfl aa;refine jw ?_;refine jK ?_ rfl aa;refine jw ?_;refine j8 ?_ rfl aa;refine jw ?_;refine mi (k:=6) follows (hr:=?_);refine jw ?_;refine jB.q2 (lu (n:=vn) (b:=ix (.kz j)) aa aa dG aa ah mf aa) ?_;refine jw ?_;refine jB.p2 (rM (caps:=[.ptr NN 1 0 0,.ptr (NN+3) 1 0 0,.ptr (NN+2) 1 0 0]) is aP rfl bf aa) ?_;obtain ⟨s1,j6⟩:∃s1,s1=s.kE ⟨who,o,true,time⟩:=⟨_,rfl⟩
 have oL:Hid (s.kE ⟨who,o,true,time⟩=s1):=⟨j6.symm⟩
 have nU:s1.calls[j]?=some c:=by rw [j6];exact hc
 have xG:s1.jL[o]?=some x:=by rw [j6];exact ho
 have kq:WF s1:=bJ;clear j6 is;rw [oL.out];have oT:o<s1.jL.length:=(dt xG).1;have DI:(s1.jL.map qH)[o]?=some (qH x):=cr;have e1:=Mu (s:=s1) (o:=o) (x:=(nn,x.2));rw [fJ] at e1;have lj:WF (s1.n7 o (nn,x.2)):=⟨kq.1,kq.2,kq.3,kq.4,kq.5,kq.6,kq.7,kq.8,kq.9,kq.10,kq.11,by
  obtain ⟨a1,a2⟩:=kq.12;exact ⟨bO,a2⟩,kq.13,kq.14⟩
 refine jw ?_;refine mi (k:=7) follows (hr:=?_);refine jw ?_;refine jB.q2 (lu (n:=o) (b:=ix .ob) aa aa fp aa ah oT aa) ?_;refine jw ?_;refine jB.p2 (qP (b:=ix .ob) (tot:=s1.jL.length) (i:=o) (off:=0) (blk:=⟨157,2,s1.jL.map qH⟩) (v:=.int nn) aa aa aa ah DI ny rfl rfl) ?_;refine jw ?_;exact .nE (mS ⟨5,vn,w,nn,tk,vs⟩ time who) lj (vs:=[.bool true]) aq rfl rfl (.pu (.base _))
theorem aoT {s:jv} (h:Iv s) {n j:Nat} {t:jQ} {c:kh} {wn o:Nat} {x:Int×Int} {v w y tk:Int} {vs:List Int} {time:Int} (ht:s.tasks[n]?=some t) (hc:s.calls[j]?=some c) (kW:-1≤c.jM∧c.jM≤1000) (hv:c.vars[wn]?=some y) (aE3:o≤1000000) (ho:s.jL[o]?=some x) (tu:s.jT.length≤900000) :
 jS Tryd.prog 91 [jI,.int n,ki ⟨8,v,w,o,tk,(wn:Int)::vs⟩,kM j,.int time] (HH s) (.bool true) (HH ((s.kE ⟨-1-(o:Int),o,true,time⟩).n7 o (x.1,y))):=by
 have hw:=h.wf;obtain ⟨g1,g2,g3,g4,hn,g6⟩:=hw.k ht;obtain ⟨k1,k2⟩:=hw.c hc;have hlen:=kC s;refine jS.i2 [(0,jI),(1,.int n),(2,ki ⟨8,v,w,o,tk,(wn:Int)::vs⟩),(3,kM j),(4,.int time)] 5 372 NN fX (kC s) ?_;refine jw ?_;refine jB.q2 (lu (n:=n) (b:=ix .tk) aa aa ew aa ah hn aa) ?_;refine jw ?_;refine jG.join ⟨[(1,.int n),(3,kM j),(5,.ptr NN 1 0 0),(7,.ptr (NN+1) 1 0 0),(9,.ptr (NN+2) 1 0 0),(12,.ptr (NN+3) 1 0 0),(11,nW n),(10,.bool false)],HH s++mS ⟨8,v,w,o,tk,(wn:Int)::vs⟩ time (jR c n)⟩ ?_ ?_
 ·by_cases ha:0≤c.jM
  ·have hd:decide (c.jM≥0)=true:=cw;have oh:IntKind.i64.wrap (-1-c.jM) = -1-c.jM:=nP ae ae;have mg:jR c n = -1-c.jM:=ja ha;refine j8 ?_ rfl aa;refine jw ?_;rw [mg];exact .wf (hH:=aF)
  ·have hd:decide (c.jM≥0)=false:=aj;have mg:jR c n=n:=iZ ha;refine jK ?_ rfl aa;refine jw ?_;rw [mg];exact .wf
 obtain ⟨who,pa⟩:∃who,who=jR c n:=⟨_,rfl⟩
 rw [← pa];clear pa;have qy:=zj (j:=j) hv;have LO:(c.vars.map AV.int)[wn]?=some (.int y):=cA;have mf:wn<c.vars.length:=(dt hv).1;have is:=Cm (s:=s) (st:=⟨8,v,w,o,tk,(wn:Int)::vs⟩) (time:=time) (who:=-1-(o:Int)) (o:=o) (w:=true) tu;have hwo:IntKind.i64.wrap (-1-(o:Int)) = -1-(o:Int):=nP ae ae;refine jw ?_;refine jK ?_ rfl aa;refine jw ?_;refine jK ?_ rfl aa;refine jw ?_;refine jK ?_ rfl aa;refine jw ?_;refine jK ?_ rfl aa;refine jw ?_;refine jK ?_ rfl aa;refine jw ?_;refine jK ?_ rfl aa;refine jw ?_;refine jK ?_ rfl aa;refine jw ?_;refine j8 ?_ rfl aa;refine jw ?_;have hT:∀a b c d e:jy,(HH s++[a,b,c,d]).set (NN+3) e=HH s++[a,b,c,e]:=fun a b c d e=>wE (kC s);refine jB.p2 (rM (caps:=[.ptr NN 1 0 0,.ptr (NN+3) 1 0 0,.ptr (NN+2) 1 0 0]) is aP rfl bf aa) ?_;obtain ⟨s1,j6⟩:∃s1,s1=s.kE ⟨-1-(o:Int),o,true,time⟩:=⟨_,rfl⟩
 have oL:Hid (s.kE ⟨-1-(o:Int),o,true,time⟩=s1):=⟨j6.symm⟩
 have nU:s1.calls[j]?=some c:=by rw [j6];exact hc
 have xG:s1.jL[o]?=some x:=by rw [j6];exact ho
 have kq:WF s1:=bJ;clear j6 is;rw [oL.out];have oT:o<s1.jL.length:=(dt xG).1;have DI:(s1.jL.map qH)[o]?=some (qH x):=cr;have e1:=Mu (s:=s1) (o:=o) (x:=(x.1,y));rw [fJ] at e1;have lj:WF (s1.n7 o (x.1,y)):=⟨kq.1,kq.2,kq.3,kq.4,kq.5,kq.6,kq.7,kq.8,kq.9,kq.10,kq.11,by
  obtain ⟨a1,a2⟩:=kq.12;exact ⟨bO,a2⟩,kq.13,kq.14⟩
 refine jw ?_;refine mi (k:=16) follows (hr:=?_);refine jw ?_;refine jB.q2 (wC aa aa dG ae (e:=.int wn) rfl ag) ?_;refine jw ?_;refine jB.q2 (lu (n:=wn) (b:=ix (.kz j)) aa aa dG aa ah mf aa) ?_;refine jw ?_;refine jB.q2 (lu (n:=o) (b:=ix .ob) aa aa fp aa ah oT aa) ?_;refine jw ?_;refine jB.p2 (qP (b:=ix .ob) (tot:=s1.jL.length) (i:=o) (off:=1) (blk:=⟨157,2,s1.jL.map qH⟩) (v:=.int y) aa aa aa ah DI ny rfl rfl) ?_;refine jw ?_;exact .nE (mS ⟨8,v,w,o,tk,(wn:Int)::vs⟩ time (-1-(o:Int))) lj (vs:=[.bool true]) aq rfl rfl (.pu (.base _))
theorem aoU {s:jv} (h:Iv s) {n j:Nat} {t:jQ} {c:kh} {vn wn o:Nat} {x:Int×Int} {nn tk:Int} {vs:List Int} {time:Int} (ht:s.tasks[n]?=some t) (hc:s.calls[j]?=some c) (kW:-1≤c.jM∧c.jM≤1000) (hv:c.vars[wn]?=some (o:Int)) (C6:vn<c.vars.length) (vS:0≤x.2) (ho:s.jL[o]?=some x) (tu:s.jT.length≤900000) :
 jS Tryd.prog 91 [jI,.int n,ki ⟨2,vn,wn,nn,tk,vs⟩,kM j,.int time] (HH s) (.bool true) (HH ((s.kE ⟨jR c n,o,false,time⟩).ly j { c with vars:=c.vars.set vn x.2 })):=by
 have hw:=h.wf;obtain ⟨g1,g2,g3,g4,hn,g6⟩:=hw.k ht;obtain ⟨k1,k2⟩:=hw.c hc;have hlen:=kC s;refine jS.i2 [(0,jI),(1,.int n),(2,ki ⟨2,vn,wn,nn,tk,vs⟩),(3,kM j),(4,.int time)] 5 372 NN fX (kC s) ?_;refine jw ?_;refine jB.q2 (lu (n:=n) (b:=ix .tk) aa aa ew aa ah hn aa) ?_;refine jw ?_;refine jG.join ⟨[(1,.int n),(3,kM j),(5,.ptr NN 1 0 0),(7,.ptr (NN+1) 1 0 0),(9,.ptr (NN+2) 1 0 0),(12,.ptr (NN+3) 1 0 0),(11,nW n),(10,.bool false)],HH s++mS ⟨2,vn,wn,nn,tk,vs⟩ time (jR c n)⟩ ?_ ?_
 ·by_cases ha:0≤c.jM
  ·have hd:decide (c.jM≥0)=true:=cw;have oh:IntKind.i64.wrap (-1-c.jM) = -1-c.jM:=nP ae ae;have mg:jR c n = -1-c.jM:=ja ha;refine j8 ?_ rfl aa;refine jw ?_;rw [mg];exact .wf (hH:=aF)
  ·have hd:decide (c.jM≥0)=false:=aj;have mg:jR c n=n:=iZ ha;refine jK ?_ rfl aa;refine jw ?_;rw [mg];exact .wf
 obtain ⟨who,pa⟩:∃who,who=jR c n:=⟨_,rfl⟩
 rw [← pa];clear pa;have qy:=zj (j:=j) hv;have LO:(c.vars.map AV.int)[wn]?=some (.int o):=cA;have mf:wn<c.vars.length:=(dt hv).1;have is:=Cm (s:=s) (st:=⟨2,vn,wn,nn,tk,vs⟩) (time:=time) (who:=who) (o:=o) (w:=false) tu;refine jw ?_;refine jK ?_ rfl aa;refine jw ?_;refine j8 ?_ rfl aa;refine jw ?_;refine mi (k:=6) follows (hr:=?_);refine jw ?_;refine jB.q2 (lu (n:=wn) (b:=ix (.kz j)) aa aa dG aa ah mf aa) ?_;refine jw ?_;refine jB.p2 (rM (caps:=[.ptr NN 1 0 0,.ptr (NN+3) 1 0 0,.ptr (NN+2) 1 0 0]) is aP rfl bf aa) ?_;obtain ⟨s1,j6⟩:∃s1,s1=s.kE ⟨who,o,false,time⟩:=⟨_,rfl⟩
 have oL:Hid (s.kE ⟨who,o,false,time⟩=s1):=⟨j6.symm⟩
 have nU:s1.calls[j]?=some c:=by rw [j6];exact hc
 have xG:s1.jL[o]?=some x:=by rw [j6];exact ho
 have kq:WF s1:=bJ;clear j6 is;rw [oL.out];have oT:o<s1.jL.length:=(dt xG).1;have DI:(s1.jL.map qH)[o]?=some (qH x):=cr;refine jw ?_;refine jB.q2 (lu (n:=o) (b:=ix .ob) aa aa fp aa ah oT aa) ?_;refine jw ?_;have hd:decide (x.2<0)=false:=aj;refine jK ?_ rfl aa;refine jw ?_;obtain ⟨z,hz⟩:∃z,c.vars[vn]?=some z:=⟨_,dy C6⟩
 have lF:=FN (s:=s1) (c':={ c with vars:=c.vars.set vn x.2 }) nU k2 ah rfl;have LN:=kq.ly (j:=j) (c:={ c with vars:=c.vars.set vn x.2 }) da (hw.tW c (dx hc)).2;refine mi (k:=14) follows (hr:=?_);refine jw ?_;refine jB.q2 (lu (n:=o) (b:=ix .ob) aa aa fp aa ah oT aa) ?_;refine jw ?_;refine jB.q2 (lu (n:=vn) (b:=ix (.kz j)) aa aa dG aa ah C6 aa) ?_;refine jB.p2 (xc (f:=AV.int) (l:=c.vars) (b:=ix (.kz j)) (tot:=c.vars.length) (i:=vn) (ty:=3) (sz:=1) x.2 aa aa aa rfl C6 ny rfl rfl) ?_;refine jw ?_;exact .nE (mS ⟨2,vn,wn,nn,tk,vs⟩ time who) LN (vs:=[.bool true]) aq rfl rfl (.pu (.base _))
theorem alZ {s:jv} (h:Iv s) {n j:Nat} {t:jQ} {c:kh} {vn wn o:Nat} {x:Int×Int} {nn tk:Int} {vs:List Int} {time:Int} (ht:s.tasks[n]?=some t) (hc:s.calls[j]?=some c) (kW:-1≤c.jM∧c.jM≤1000) (hv:c.vars[wn]?=some (o:Int)) (C6:vn<c.vars.length) (vS:x.2<0) (pt:s.jL.length≤900000) (ho:s.jL[o]?=some x) (tu:s.jT.length≤800000) :
 jS Tryd.prog 91 [jI,.int n,ki ⟨2,vn,wn,nn,tk,vs⟩,kM j,.int time] (HH s) (.bool true) (HH (((((s.kE ⟨jR c n,o,false,time⟩).ll 0).n7 o (x.1,s.jL.length)).kE ⟨jR c n,o,true,time⟩).ly j { c with vars:=c.vars.set vn s.jL.length })):=by
 have hw:=h.wf;obtain ⟨g1,g2,g3,g4,hn,g6⟩:=hw.k ht;obtain ⟨k1,k2⟩:=hw.c hc;have hlen:=kC s;refine jS.i2 [(0,jI),(1,.int n),(2,ki ⟨2,vn,wn,nn,tk,vs⟩),(3,kM j),(4,.int time)] 5 372 NN fX (kC s) ?_;refine jw ?_;refine jB.q2 (lu (n:=n) (b:=ix .tk) aa aa ew aa ah hn aa) ?_;refine jw ?_;refine jG.join ⟨[(1,.int n),(3,kM j),(5,.ptr NN 1 0 0),(7,.ptr (NN+1) 1 0 0),(9,.ptr (NN+2) 1 0 0),(12,.ptr (NN+3) 1 0 0),(11,nW n),(10,.bool false)],HH s++mS ⟨2,vn,wn,nn,tk,vs⟩ time (jR c n)⟩ ?_ ?_
 ·by_cases ha:0≤c.jM
  ·have hd:decide (c.jM≥0)=true:=cw;have oh:IntKind.i64.wrap (-1-c.jM) = -1-c.jM:=nP ae ae;have mg:jR c n = -1-c.jM:=ja ha;refine j8 ?_ rfl aa;refine jw ?_;rw [mg];exact .wf (hH:=aF)
  ·have hd:decide (c.jM≥0)=false:=aj;have mg:jR c n=n:=iZ ha;refine jK ?_ rfl aa;refine jw ?_;rw [mg];exact .wf
 obtain ⟨who,pa⟩:∃who,who=jR c n:=⟨_,rfl⟩
 rw [← pa];clear pa;have qy:=zj (j:=j) hv;have LO:(c.vars.map AV.int)[wn]?=some (.int o):=cA;have mf:wn<c.vars.length:=(dt hv).1;have is:=Cm (s:=s) (st:=⟨2,vn,wn,nn,tk,vs⟩) (time:=time) (who:=who) (o:=o) (w:=false) ae;refine jw ?_;refine jK ?_ rfl aa;refine jw ?_;refine j8 ?_ rfl aa;refine jw ?_;refine mi (k:=6) follows (hr:=?_);refine jw ?_;refine jB.q2 (lu (n:=wn) (b:=ix (.kz j)) aa aa dG aa ah mf aa) ?_;refine jw ?_;refine jB.p2 (rM (caps:=[.ptr NN 1 0 0,.ptr (NN+3) 1 0 0,.ptr (NN+2) 1 0 0]) is aP rfl bf aa) ?_;obtain ⟨s1,j6⟩:∃s1,s1=s.kE ⟨who,o,false,time⟩:=⟨_,rfl⟩
 have oL:Hid (s.kE ⟨who,o,false,time⟩=s1):=⟨j6.symm⟩
 have nU:s1.calls[j]?=some c:=by rw [j6];exact hc
 have xG:s1.jL[o]?=some x:=by rw [j6];exact ho
 have kq:WF s1:=bJ;clear j6 is;rw [oL.out];have oT:o<s1.jL.length:=(dt xG).1;have DI:(s1.jL.map qH)[o]?=some (qH x):=cr;refine jw ?_;refine jB.q2 (lu (n:=o) (b:=ix .ob) aa aa fp aa ah oT aa) ?_;refine jw ?_;have hd:decide (x.2<0)=true:=aj;have Tx:s1.jL.length=s.jL.length:=by rw [← oL.out];rfl
 have Bz:s1.jT.length≤800001:=by rw [← oL.out];simp [jv.kE];omega
 refine j8 ?_ rfl aa;refine jw ?_;have Ho:WF (s1.ll 0):=kq.ll 0 ae;refine jB.p2 (sf kq Ho (T:=mS ⟨2,vn,wn,nn,tk,vs⟩ time who) (Ck kq 0 ae) rfl aa aa (Ip _) (.pu (.base _))) ?_;rw [Tx];have axD:Hid (s1.jL.length=s.jL.length):=⟨Tx⟩
 clear Tx;obtain ⟨s2,jW⟩:∃s2,s2=s1.ll 0:=⟨_,rfl⟩
 have pz:Hid (s1.ll 0=s2):=⟨jW.symm⟩
 have rT:s2.calls[j]?=some c:=by rw [jW];exact nU
 have K7:s2.jL[o]?=some x:=by rw [jW];show (s1.jL++[(0,-1)])[o]?=_;rw [dA oT];exact xG
 have lj:WF s2:=by rw [jW];exact Ho
 have nL:Hid (s2.jL.length=s.jL.length+1):=⟨by rw [jW];show (s1.jL++[(0,-1)]).length=_;rw [dK,axD.out];rfl⟩
 clear jW Ho;rw [pz.out];have yD:o<s2.jL.length:=(dt K7).1;have YR:(s2.jL.map qH)[o]?=some (qH x):=by rw [dE,K7];rfl
 have e1:=Mu (s:=s2) (o:=o) (x:=(x.1,(s.jL.length:Int)));rw [fJ] at e1;clear xG DI oT nU;refine jw ?_;refine jB.q2 (lu (n:=o) (b:=ix .ob) aa aa fp aa ah yD aa) ?_;refine jw ?_;refine jB.p2 (qP (b:=ix .ob) (tot:=s2.jL.length) (i:=o) (off:=1) (blk:=⟨157,2,s2.jL.map qH⟩) (v:=.int s.jL.length) aa aa aa ah YR ny rfl rfl) ?_;obtain ⟨s3,lV⟩:∃s3,s3=s2.n7 o (x.1,(s.jL.length:Int)):=⟨_,rfl⟩
 rw [← lV] at e1;have zH:Hid (s2.n7 o (x.1,(s.jL.length:Int))=s3):=⟨lV.symm⟩
 have zW:s3.calls[j]?=some c:=by rw [lV];exact rT
 have ho3:s3.jL[o]?=some (x.1,(s.jL.length:Int)):=by rw [lV];show (s2.jL.set o _)[o]?=_;rw [ee yD]
 have mD:WF s3:=by
  rw [lV];exact ⟨lj.1,lj.2,lj.3,lj.4,lj.5,lj.6,lj.7,lj.8,lj.9,lj.10,lj.11,by
   obtain ⟨a1,a2⟩:=lj.12;exact ⟨bO,a2⟩,lj.13,lj.14⟩
 have aE4:s3.jT.length≤800001:=by rw [lV,← pz.out];exact Bz
 have is2:=Cm (s:=s3) (st:=⟨2,vn,wn,nn,tk,vs⟩) (time:=time) (who:=who) (o:=o) (w:=true) ae;clear lV K7 YR yD rT Bz;rw [zH.out];refine jw ?_;refine jB.p2 (rM (caps:=[.ptr NN 1 0 0,.ptr (NN+3) 1 0 0,.ptr (NN+2) 1 0 0]) is2 aP rfl bf aa) ?_;obtain ⟨s4,ox⟩:∃s4,s4=s3.kE ⟨who,o,true,time⟩:=⟨_,rfl⟩
 have MW:Hid (s3.kE ⟨who,o,true,time⟩=s4):=⟨ox.symm⟩
 have Oo:s4.calls[j]?=some c:=by rw [ox];exact zW
 have ho4:s4.jL[o]?=some (x.1,(s.jL.length:Int)):=by rw [ox];exact ho3
 have qD:WF s4:=by
  rw [ox];exact ⟨mD.1,mD.2,mD.3,mD.4,mD.5,mD.6,mD.7,mD.8,mD.9,mD.10,mD.11,by
   obtain ⟨a1,a2,a3,a4⟩:=mD.12;exact ⟨a1,a2,by simp [jv.kE];omega,a4⟩,mD.13,mD.14⟩
 clear ox is2 ho3 zW e1;rw [MW.out];have QW:o<s4.jL.length:=(dt ho4).1;have aE5:(s4.jL.map qH)[o]?=some (qH (x.1,(s.jL.length:Int))):=by rw [dE,ho4];rfl
 refine jw ?_;obtain ⟨z,hz⟩:∃z,c.vars[vn]?=some z:=⟨_,dy C6⟩
 have lF:=FN (s:=s4) (c':={ c with vars:=c.vars.set vn (s.jL.length:Int) }) Oo k2 ah rfl;have LN:=qD.ly (j:=j) (c:={ c with vars:=c.vars.set vn (s.jL.length:Int) }) da (hw.tW c (dx hc)).2;refine mi (k:=14) follows (hr:=?_);refine jw ?_;refine jB.q2 (lu (n:=o) (b:=ix .ob) aa aa fp aa ah QW aa) ?_;refine jw ?_;refine jB.q2 (lu (n:=vn) (b:=ix (.kz j)) aa aa dG aa ah C6 aa) ?_;refine jB.p2 (xc (f:=AV.int) (l:=c.vars) (b:=ix (.kz j)) (tot:=c.vars.length) (i:=vn) (ty:=3) (sz:=1) (s.jL.length:Int) aa aa aa rfl C6 ny rfl rfl) ?_;refine jw ?_;exact .nE (mS ⟨2,vn,wn,nn,tk,vs⟩ time who) LN (vs:=[.bool true]) aq rfl rfl (.pu (.base _))
end Go.Ab
namespace Go.Ab
open Go Go.Proofs Go.Shelf Go.RowKit
def atK:Go.Shelf.Ren:=⟨fun|171=>114|243=>125|246=>127|283=>128|284=>129|285=>130|286=>131|129=>133|317=>132|318=>134|319=>135|320=>136|337=>137|338=>138|n=>n,fun|37=>167|46=>106|51=>178|53=>171|171=>170|173=>174|212=>177|213=>179|232=>182|233=>183|n=>n,fun|17=>0|18=>1|19=>2|n=>n⟩
theorem Qh:LaysM.n171 Tryd.prog atK:={
 mixed:=ag
 f129:=Tryd.func133.trans ag
 f171:=Tryd.func114.trans ag
 f243:=Tryd.func125.trans ag
 f246:=Tryd.func127.trans ag
 f283:=Tryd.func128.trans ag
 f284:=Tryd.func129.trans ag
 f285:=Tryd.func130.trans ag
 f286:=Tryd.func131.trans ag
 f317:=Tryd.func132.trans ag
 f318:=Tryd.func134.trans ag
 f319:=Tryd.func135.trans ag
 f320:=Tryd.func136.trans ag
 f337:=Tryd.func137.trans ag
 f338:=Tryd.func138.trans ag
 t0:=Tryd.underlying0
 a0:=Tryd.isAgg0
 z0:=Tryd.sizeOf0
 v0:=Tryd.zeroValue0
 t2:=Tryd.underlying2
 a2:=Tryd.isAgg2
 z2:=Tryd.sizeOf2
 v2:=Tryd.zeroValue2
 t3:=gL
 a3:=Tryd.isAgg3
 z3:=Tryd.sizeOf3
 v3:=Tryd.zeroValue3
 t4:=Tryd.underlying4
 a4:=Tryd.isAgg4
 z4:=Tryd.sizeOf4
 v4:=Tryd.zeroValue4
 t5:=Tryd.underlying5
 a5:=Tryd.isAgg5
 z5:=Tryd.sizeOf5
 v5:=Tryd.zeroValue5
 t9:=Tryd.underlying9
 a9:=Tryd.isAgg9
 z9:=Tryd.sizeOf9
 v9:=Tryd.zeroValue9
 t20:=Tryd.underlying20
 a20:=Tryd.isAgg20
 z20:=Tryd.sizeOf20
 v20:=Tryd.zeroValue20
 t37:=Tryd.underlying167
 a37:=Tryd.isAgg167
 z37:=Tryd.sizeOf167
 v37:=Tryd.zeroValue167
 t46:=Tryd.underlying106
 a46:=Tryd.isAgg106
 z46:=Tryd.sizeOf106
 v46:=Tryd.zeroValue106
 t51:=Tryd.underlying178
 a51:=Tryd.isAgg178
 z51:=Tryd.sizeOf178
 v51:=Tryd.zeroValue178
 t53:=Tryd.underlying171
 a53:=Tryd.isAgg171
 z53:=Tryd.sizeOf171
 v53:=Tryd.zeroValue171
 t171:=Tryd.underlying170
 a171:=Tryd.isAgg170
 z171:=Tryd.sizeOf170
 v171:=Tryd.zeroValue170
 t173:=Tryd.underlying174
 a173:=Tryd.isAgg174
 z173:=Tryd.sizeOf174
 v173:=Tryd.zeroValue174
 t212:=Tryd.underlying177
 a212:=Tryd.isAgg177
 z212:=Tryd.sizeOf177
 v212:=Tryd.zeroValue177
 t213:=Tryd.underlying179
 a213:=Tryd.isAgg179
 z213:=Tryd.sizeOf179
 t232:=Tryd.underlying182
 a232:=Tryd.isAgg182
 z232:=Tryd.sizeOf182
 v232:=Tryd.zeroValue182
 t233:=Tryd.underlying183
 a233:=Tryd.isAgg183
 z233:=Tryd.sizeOf183
 v233:=Tryd.zeroValue183
 g17:=ag
 g18:=ag
 g19:=ag
 i0:=ag
 i2:=ag
 i3:=ag
 i4:=ag
 i5:=ag
 i9:=ag
 i20:=ag
 i37:=ag
 i46:=ag
 i51:=ag
 i53:=ag
 i171:=ag
 i173:=ag
 i212:=ag
 i232:=ag
 i233:=ag
 m17:=ag
 m18:=ag
 m19:=by kernel_rfl }
def xp (m:List (Nat×Obj)):Prop:=∃ty fz,m=[(0,.cells (Lib.pow10Tab.map fun z=>Value.int .u64 z).toArray ty fz)]
theorem xp.is {m:List (Nat×Obj)} (hm:xp m) {w:World} (h:∀p∈m,w.heap[p.1]?=some p.2):Lib.TabIs Tryd.prog w "internal/strconv.uint64pow10" .u64 Lib.pow10Tab:=by
 obtain ⟨ty,fz,rfl⟩:=hm;have h1:=h _ (dz.2 rfl);have h2:Tryd.prog.globalNamed "internal/strconv.uint64pow10" = some 0:=Qh.m17;simp only at h1;simp only [Lib.TabIs,World.var?,h2,gy,h1]
theorem adX (w:World) (k:Nat) (os:Array Obj):Below w.heap.size w (Sort.grow (w.drewN k) os):=by
 refine ⟨rfl,rfl,rfl,?_,fun j hj=>?_⟩
 ·show w.heap.size≤(w.heap++os).size;rw [Array.size_append];omega
 ·show (w.heap++os)[j]?=_;rw [fB hj]
def va (n:Int):ByteArray:=⟨(Lib.itoa n).toArray⟩
theorem Vy {m:List (Nat×Obj)} (hm:xp m) (n:Int) (h0:-9223372036854775808≤n) (h1:n≤9223372036854775807):qY Tryd.prog m 114 [.int n] (.base (.string (va n))):=by
 refine ⟨⟨Tryd.f114,ag,ag,ag⟩,fun w O vs pD hO hl hv=>?_⟩;have nH:vs=#[.int .i64 n]:=by
  have h1:vs.size=1:=hl;have h2:vs[0]?=some vs[0]:=dM ae;have h3:=(hv 0 _ _ rfl h2).nO;apply Array.ext (by simp [h1]);intro i oB BN;have:i=0:=by simp at BN;omega
  subst this;simpa using h3
 subst nH;have hc:=Any.strconv_Itoa Qh n h0 h1 w (hm.is fun p hp=>(pD p hp).2);refine Calls.mono (show Calls Tryd.prog 114 #[.int .i64 n] w _ from hc) ?_;rintro e w' ⟨rfl,k,os,rfl⟩;exact ⟨_,rfl,.base _,adX w k os⟩
end Go.Ab
set_option maxHeartbeats 4000000
namespace Go.Ab
open Go Go.Ab Go.Proofs Go.Ab.Ty
def AD:ByteArray:={ data:=#[58] }
theorem V7 (u:Nat) (h:u<18446744073709551616):Lib.nDigits u≤20:=by
 rcases gZ u with rfl|h1
 ·rw [Lib.nDigits_small ae];omega
 ·have:=Lib.numDigits_eq u h1 h;split at this<;>omega
theorem Fw {n:Int} (h0:-1000000≤n) (h1:n≤1000000):(va n).size≤21:=by
 show (Lib.itoa n).toArray.size≤21;rw [List.size_toArray];by_cases aE6:n<0
 ·obtain ⟨u,rfl⟩:∃u:Nat,n = -(u:Int):=⟨n.natAbs,ae⟩
  rw [Lib.itoa_neg u ae,ff,Lib.decDigits_length];have:=V7 u ae;omega
 ·obtain ⟨u,rfl⟩:∃u:Nat,n=u:=⟨n.toNat,ae⟩
  rw [Lib.itoa_nonneg,Lib.decDigits_length];have:=V7 u ae;omega
def xk (n:Nat) (x:Int):ByteArray:=va n++AD++va x
def jv.pM (s:jv) (x:ByteArray):jv:={ s with lines:=s.lines++[x] }
theorem amA {s:jv} {x:ByteArray}:((HH s).set (ix .ln) ⟨9,1,s.lines.map (fun x=>.base (.string x))++[.base (.string x)]⟩).set (ix .rn) (lE (s.pM x))=HH (s.pM x):=by
 refine tZ (s:=s) (s':=s.pM x) [(.ln,_),(.rn,_)] (vF ⟨Aq,?_⟩ ⟨mc,rfl⟩) fun a ha=>?_
 ·simp [blk,jv.pM]
 ·cases a<;>first|rfl|simp at ha
theorem aoV {mm:List (Nat×Obj)} (pD:xp mm) {s:jv} (h:Iv s) {n j:Nat} {t:jQ} {c:kh} {vn o:Nat} {x:Int×Int} {w nn tk:Int} {vs:List Int} {time:Int} (ht:s.tasks[n]?=some t) (hc:s.calls[j]?=some c) (kW:-1≤c.jM∧c.jM≤1000) (hv:c.vars[vn]?=some (o:Int)) (ho:s.jL[o]?=some x) (hx:-1000000≤x.1∧x.1≤1000000) (tu:s.jT.length≤900000) (sW:s.lines.length≤900000) :
 vh Tryd.prog mm 91 [jI,.int n,ki ⟨4,vn,w,nn,tk,vs⟩,kM j,.int time] (HH s) (.bool true) (HH ((s.kE ⟨jR c n,o,false,time⟩).pM (xk n x.1))):=by
 have hw:=h.wf;obtain ⟨g1,g2,g3,g4,hn,g6⟩:=hw.k ht;obtain ⟨k1,k2⟩:=hw.c hc;have hlen:=kC s;refine vh.nZ [(0,jI),(1,.int n),(2,ki ⟨4,vn,w,nn,tk,vs⟩),(3,kM j),(4,.int time)] 5 372 NN fX ag rfl rfl rfl rfl rfl rfl (kC s) ?_;refine jw ?_;refine jB.q2 (lu (n:=n) (b:=ix .tk) aa aa ew aa ah hn aa) ?_;refine jw ?_;refine jG.join ⟨[(1,.int n),(3,kM j),(5,.ptr NN 1 0 0),(7,.ptr (NN+1) 1 0 0),(9,.ptr (NN+2) 1 0 0),(12,.ptr (NN+3) 1 0 0),(11,nW n),(10,.bool false),(mu,.mem mm)],HH s++mS ⟨4,vn,w,nn,tk,vs⟩ time (jR c n)⟩ ?_ ?_
 ·by_cases ha:0≤c.jM
  ·have hd:decide (c.jM≥0)=true:=cw;have oh:IntKind.i64.wrap (-1-c.jM) = -1-c.jM:=nP ae ae;have mg:jR c n = -1-c.jM:=ja ha;refine j8 ?_ rfl aa;refine jw ?_;rw [mg];exact .wf (hH:=aF)
  ·have hd:decide (c.jM≥0)=false:=aj;have mg:jR c n=n:=iZ ha;refine jK ?_ rfl aa;refine jw ?_;rw [mg];exact .wf
 obtain ⟨who,pa⟩:∃who,who=jR c n:=⟨_,rfl⟩
 rw [← pa];clear pa;have qy:=zj (j:=j) hv;have LO:(c.vars.map AV.int)[vn]?=some (.int o):=cA;have mf:vn<c.vars.length:=(dt hv).1;have is:=Cm (s:=s) (st:=⟨4,vn,w,nn,tk,vs⟩) (time:=time) (who:=who) (o:=o) (w:=false) tu;refine jw ?_;refine jK ?_ rfl aa;refine jw ?_;refine jK ?_ rfl aa;refine jw ?_;refine jK ?_ rfl aa;refine jw ?_;refine j8 ?_ rfl aa;refine jw ?_;refine mi (k:=6) follows (hr:=?_);refine jw ?_;refine jB.q2 (lu (n:=vn) (b:=ix (.kz j)) aa aa dG aa ah mf aa) ?_;refine jw ?_;refine jB.p2 (rM (caps:=[.ptr NN 1 0 0,.ptr (NN+3) 1 0 0,.ptr (NN+2) 1 0 0]) is aP rfl bf aa) ?_;obtain ⟨s1,j6⟩:∃s1,s1=s.kE ⟨who,o,false,time⟩:=⟨_,rfl⟩
 have oL:Hid (s.kE ⟨who,o,false,time⟩=s1):=⟨j6.symm⟩
 have nU:s1.calls[j]?=some c:=by rw [j6];exact hc
 have xG:s1.jL[o]?=some x:=by rw [j6];exact ho
 have kq:WF s1:=bJ;have oA:s1.lines.length≤900000:=by rw [j6];exact sW
 clear j6 is;rw [oL.out];have oT:o<s1.jL.length:=(dt xG).1;have DI:(s1.jL.map qH)[o]?=some (qH x):=cr;refine jw ?_;obtain ⟨T,hT⟩:∃T,T=mS ⟨4,vn,w,nn,tk,vs⟩ time who:=⟨_,rfl⟩
 have lF:=amA (s:=s1) (x:=xk n x.1);have sR:=hw.nT;refine qK (k:=20) [none,none,none,none,none,none,none,none,none,none,none,none,none,none,none,none,none,none,none,some 0] (fun k=>match k with
  | 0=>HH s1++mS ⟨4,vn,w,nn,tk,vs⟩ time who
  | _=>(HH s1).set (ix .ln) ⟨9,1,s1.lines.map (fun x=>.base (.string x))++[.base (.string (xk n x.1))]⟩++mS ⟨4,vn,w,nn,tk,vs⟩ time who) 1 follows ?_
 refine gS ?_;refine gS ?_;refine gS ?_;refine gS ?_;refine gS ?_;refine gS ?_;refine ko.q1 rfl rfl (fun c _=>DO (Vy pD n ae ae) rfl rfl aa ah (.inr aa)) ?_;refine ko.q1 (v:=.base (.string (va n++AD))) rfl rfl (fun c _=>Hu (a:=va n) (b:=AD) aa rfl (by have:AD.size=1:=rfl;have:=Fw (n:=(n:Int)) ae ae;omega)) ?_;refine gS ?_;refine gS ?_;refine gS ?_;refine gS ?_;refine gS ?_;refine ko.q1 (v:=.ptr (ix .ob) s1.jL.length o 0) rfl rfl (fun c hc=>?_) ?_
 ·rcases c with _|c
  ·exact lu (n:=o) (b:=ix .ob) aa aa fp aa ah oT aa
  ·exact lu (n:=o) (b:=ix .ob) aa aa fp aa ah oT aa
 refine gS ?_;refine gS ?_;refine ko.q1 rfl rfl (fun c _=>DO (Vy pD x.1 ae ae) rfl rfl aa ah (.inr aa)) ?_;refine ko.q1 (v:=.base (.string (xk n x.1))) rfl rfl (fun c _=>Hu (a:=va n++AD) (b:=va x.1) aa aa (by have:AD.size=1:=rfl;have:=Fw (n:=(n:Int)) ae ae;have:=Fw hx.1 hx.2;simp only [ByteArray.size_append];omega)) ?_;refine ko.q1 (v:=.jA [.base (.string (xk n x.1))]) rfl rfl (fun c _=>DX im ZP az ag az aC aC rfl) ?_;refine ko.p1 (v:=.own (ix .ln) (s1.lines.length+1) 0 (s1.lines.length+1)) rfl rfl (fun kB h=>?_) ?_
 ·have h1:=tX (P:=Tryd.prog) (ρ:=kB) (H:=HH s1++mS ⟨4,vn,w,nn,tk,vs⟩ time who) (b:=ix .ln) (tot:=s1.lines.length) (es:=[.base (.string (xk n x.1))]) (blk:=⟨9,1,s1.lines.map fun x=>.base (.string x)⟩) ((h (.tmp 157) ai).trans aa) ((h (.tmp 171) ai).trans aa) aa ah im ZQ rfl rfl ah (fun e he=>aw) aj aj;rw [o7 (kC s1) Aq] at h1;exact h1
 refine ko.nil ?_;have hr:lE (s1.pM (xk n x.1))=⟨83,13,[.agg [.jA (s1.p.kT.map kx),.jA (s1.p.methods.map kx),.int s1.p.mb,.jA (s1.sched.map .int),.int s1.used,.own (ix .ob) s1.jL.length 0 s1.jL.length,.own (ix .tk) s1.tasks.length 0 s1.tasks.length,.own (ix .ln) (s1.lines.length+1) 0 (s1.lines.length+1),.own (ix .ac) s1.jT.length 0 s1.jT.length,.own (ix .tn) s1.turns.length 0 s1.turns.length,.own (ix .ck) s1.kK.length 0 s1.kK.length,.own (ix .en) s1.ends.length 0 s1.ends.length,.own (ix .at') s1.jV.length 0 s1.jV.length]]⟩:=by
  simp only [lE,jv.pM,dK,dO]
 rw [hr] at lF;have HX:=lF;have lj:WF (s1.pM (xk n x.1)):=⟨kq.1,kq.2,kq.3,kq.4,kq.5,kq.6,kq.7,kq.8,kq.9,kq.10,kq.11,by
  obtain ⟨a1,a2,a3⟩:=kq.12;exact ⟨a1,by simp only [jv.pM,dK,dO];omega,a3⟩,kq.13,kq.14⟩
 refine jw ?_;exact .nE (mS ⟨4,vn,w,nn,tk,vs⟩ time who) lj (vs:=[.bool true]) aq rfl rfl (.pu (.base _))
theorem O8 {s:jv} {n:Nat} {t:jQ} {cd:Cd} {vs a:List Int} {pr:Int} {canc:Bool} (ht:s.tasks[n]?=some t) (za:t.ending=0) (mr:t.waits<0):(oU s cd vs a pr n canc).tasks[n]?=some t∧(oU s cd vs a pr n canc).calls=s.calls++[lQ cd vs (-1)]∧(oU s cd vs a pr n canc).tasks.length=s.tasks.length+1:=by
 have hn:=(dt ht).1;unfold oU;split
 ·rename_i l5;obtain ⟨k,hk⟩:∃k,k=s.tasks.length:=⟨_,rfl⟩
  obtain ⟨x,hx⟩:∃x,x=mN s.calls.length pr canc n s.jE.length:=⟨_,rfl⟩
  obtain ⟨S,hS⟩:∃S,S=(zw s cd vs a pr n canc).jF s.tasks.length (j9 x 3):=⟨_,rfl⟩
  have pZ:S.tasks[k]?=some (j9 x 3):=by rw [hS,hk];exact lq (t:=x) (by rw [hx];exact Ct)
  have Ln:S.tasks[n]?=some t:=by rw [hS,mw ae];exact (Cl hn).trans ht
  have SQ:S.calls=s.calls++[lQ cd vs (-1)]:=by rw [hS];rfl
  have N1:S.tasks.length=k+1:=by rw [hS,lY,hk];simp [zw,jv.lJ,jv.ld,jv.kF]
  rw [← hx,← hS,← hk];have vS:x.kids=[]∧x.par=n:=by rw [hx];exact ⟨rfl,rfl⟩
  have hkj:o8 S (j9 x 3).jX (j9 x 3).kids=(S,(j9 x 3).jX,true):=by show o8 S x.jX x.kids=(S,x.jX,true);rw [vS.1];rfl
  unfold oe;rw [pZ];simp only;rw [iZ (by show ¬((3:Int)=0∨3≤(2:Int));omega),hkj];simp only;have we:(j9 x 3).par=n:=vS.2;obtain ⟨Z,Oq⟩:∃Z,Z=(S.oa k (j9 x 3).jX).jF k { j9 x 3 with state:=(j9 x 3).ending }:=⟨_,rfl⟩
  rw [← Oq,iZ (by rw [we];omega),we,dF,Ln];simp only;rw [iZ ae];obtain ⟨f,hf⟩:∃f,k=f+1:=⟨k-1,ae⟩
  have hZ:Z.tasks[n]?=some t:=by rw [Oq,mw ae];exact Ln
  have hR:oe k Z n=Z:=by
   rw [hf];unfold oe;rw [hZ];simp only;rw [ja (.inl za)]
  rw [hR];exact ⟨hZ,by rw [Oq];exact SQ,by rw [Oq,lY];exact N1⟩
 ·exact ⟨(Cl hn).trans ht,rfl,by simp [zw,jv.lJ,jv.ld,jv.kF]⟩
theorem amB {s:jv} (hw:WF s) {n:Nat} {t:jQ} (ht:s.tasks[n]?=some t) (hk:t.kids=[]) (a:Nm):kI (fun b=>Sd s b∧b≠ix (.lU n)) (blk s a):=by
 have key:∀ {a:Nm},a≠.lU n→sH s a→Sd s (ix a)∧ix a≠ix (.lU n):=fun {a} h1 h2=>⟨.of h2,fun e=>h1 (sg e)⟩
 have Gs:∀ {l:List Nat},(∀j∈l,j<s.jE.length)→kI (fun b=>Sd s b∧b≠ix (.lU n)) ⟨25,1,l.map lS⟩:=fun {l} h=>.map fun j hj c hc=>by
  simp only [AV.cells,dz] at hc;subst hc;exact .own (key ah (h j hj))
 cases a with
 | rn =>
   refine .one fun c hc=>?_;simp only [dC,dB,jd] at hc;rcases hc with rfl|rfl|rfl|rfl|rfl|rfl|rfl|rfl|rfl|rfl|rfl|rfl|rfl
   ·exact .pu ah
   ·exact .pu ah
   ·exact .pu (.base _)
   ·exact .pu (l7 _)
   ·exact .pu (.base _)
   all_goals exact .own (key ah trivial)
 | ob =>
   exact .map fun x _ c hc=>by
    simp only [AV.cells,dC,dB,jd] at hc;rcases hc with rfl|rfl<;>exact .pu (.base _)
 | tk =>
   exact .map fun k hk c hc=>by
    simp only [AV.cells,dz] at hc;subst hc;exact .ptr (key ah (eU.1 hk))
 | ln =>
   exact .map fun x _ c hc=>bj
 | ac =>
   exact .map fun x _ c hc=>by
    simp only [oJ,AV.cells,dC,dB,jd] at hc;rcases hc with rfl|rfl|rfl|rfl<;>exact .pu (.base _)
 | tn=>exact .int _
 | ck=>exact Gs hw.kK
 | en =>
   exact .map fun o ho c hc=>by
    cases o with
    | none=>simp only [zO,AV.cells,dz] at hc;subst hc;exact .pu (.base _)
    | some j=>simp only [zO,AV.cells,dz] at hc;subst hc;exact .own (key ah (hw.ends _ ho j rfl))
 | at'=>exact Gs hw.jV
 | kQ k =>
   simp only [blk];split
   ·rename_i t' nk;obtain ⟨h1,h2,h3,h4⟩:=hw.kQ t' (dx nk);have o0:k<s.tasks.length:=(dt nk).1;refine .one fun c hc=>?_;simp only [dC,dB,jd] at hc;rcases hc with rfl|rfl|rfl|rfl|rfl|rfl|rfl|rfl|rfl|rfl|rfl|rfl
    ·exact .own (key ah o0)
    ·exact .pu (.base _)
    ·exact .pu (.base _)
    ·exact .pu (.base _)
    ·cases hb:t'.kids with
     | nil=>exact .pu (.base _)
     | cons a l =>
       refine .own (key (fun e=>?_) (a:=.lU k) o0);injection e with e;subst e;rw [nk] at ht;injection ht with ht;subst ht;rw [hk] at hb;cases hb
    ·exact .n5 (key ah o0)
    ·exact .pu (.base _)
    ·exact .pu (.base _)
    ·exact .pu (.base _)
    ·exact .pu (.base _)
    ·exact .own (key ah h3)
    ·cases hb:t'.lB with
     | none=>exact .pu (.base _)
     | some j=>exact .own (key ah (h4 j hb))
   ·exact .nil
 | jH k =>
   simp only [blk];split
   ·rename_i t' nk;obtain ⟨h1,h2,h3,h4⟩:=hw.kQ t' (dx nk);exact .map fun j hj c hc=>by
     simp only [AV.cells,dz] at hc;subst hc;exact .ptr (key ah (h1 j hj))
   ·exact .nil
 | lU k =>
   simp only [blk];split<;>exact .int _
 | kg k =>
   simp only [blk];split
   ·refine fun e he c hc=>?_;simp only [rA,dz] at he;subst he;simp only [AV.cells,dC,dB,jd] at hc;rcases hc with rfl|rfl
    ·exact .pu (.agg fun c hc=>by obtain ⟨x,_,rfl⟩:=eI.1 hc;exact .base _)
    ·exact .pu (.agg fun c hc=>by obtain ⟨x,_,rfl⟩:=eI.1 hc;exact .base _)
   ·exact .nil
 | lg j =>
   simp only [blk];split
   ·rename_i c l5;have hj:j<s.calls.length:=(dt l5).1;refine .one fun c' hc=>?_;simp only [dC,dB,jd] at hc;rcases hc with rfl|rfl|rfl|rfl|rfl|rfl
    ·exact .pu (.base _)
    ·exact .pu (.base _)
    ·exact .pu ah
    ·cases c.vars with
     | nil=>exact .pu (.jA ah)
     | cons v l=>exact .own (key ah hj)
    ·exact .pu (.base _)
    ·exact .pu (.base _)
   ·exact .nil
 | kz j =>
   simp only [blk];split<;>exact .int _
 | jX j =>
   simp only [blk];split<;>exact .int _
 | lB j =>
   simp only [blk];split
   ·rename_i l hl;exact Gs (hw.ke l (dx hl)).2
   ·exact .nil
theorem aoW {s:jv} (hw:WF s) {n:Nat} {t:jQ} (ht:s.tasks[n]?=some t) (hk:t.kids=[]) {q:Nat} (hq:NN≤q):∀b∈HH s,kI (Nb q (ix (.lU n))) b:=fun b hb=>by
 unfold HH hp at hb;obtain ⟨i,_,rfl⟩:=eI.1 hb;exact (amB hw ht hk _).mono fun i hi=>⟨hi.2,by have:=hi.1.lt hw;omega⟩
theorem aoX {s:jv} {n:Nat} {t:jQ} {l:List Int} (ht:s.tasks[n]?=some t) (h1:ix (.kQ n)<NN) (h2:ix (.lU n)<NN):((HH s).set (ix (.lU n)) (jD l)).set (ix (.kQ n)) (mG n { t with kids:=l })=HH (s.jF n { t with kids:=l }):=by
 refine tZ (s:=s) (s':=s.jF n { t with kids:=l }) [(.lU n,jD l),(.kQ n,_)] (vF ⟨h2,bm⟩ ⟨h1,bm⟩) fun a ha=>?_;simp only [ef,ez,dC,dB,jd,jl] at ha;cases a with
 | kQ i=>simp only [blk];rw [mw fun e=>ha.2 bP]
 | lU i=>simp only [blk];rw [mw fun e=>ha.1 bP]
 | jH i =>
   simp only [blk];by_cases e:n=i
   ·subst e;rw [lq ht,ht]
   ·rw [mw e]
 | kg i =>
   simp only [blk];by_cases e:n=i
   ·subst e;rw [lq ht,ht]
   ·rw [mw e]
 | rn=>simp only [blk,lE,lY];rfl
 | tk=>simp only [blk,lY]
 | _=>rfl
theorem aoY {s:jv} {n:Nat} {t:jQ} {l:List (Int×Int)} (ht:s.tasks[n]?=some t) (h1:ix (.kg n)<NN):(HH s).set (ix (.kg n)) (Gr l)=HH (s.jF n { t with kg:=l }):=by
 refine tZ (s:=s) (s':=s.jF n { t with kg:=l }) [(.kg n,Gr l)] (wM ⟨h1,bm⟩) fun a ha=>?_;simp only [ef,ez,dC,dB,jd,jl] at ha;cases a with
 | kg i=>simp only [blk];rw [mw fun e=>ha bP]
 | kQ i =>
   simp only [blk];by_cases e:n=i
   ·subst e;rw [lq ht,ht]
   ·rw [mw e]
 | lU i =>
   simp only [blk];by_cases e:n=i
   ·subst e;rw [lq ht,ht]
   ·rw [mw e]
 | jH i =>
   simp only [blk];by_cases e:n=i
   ·subst e;rw [lq ht,ht]
   ·rw [mw e]
 | rn=>simp only [blk,lE,lY];rfl
 | tk=>simp only [blk,lY]
 | _=>rfl
end Go.Ab
