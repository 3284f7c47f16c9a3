/- Part. -/
import Derived.Test.YthgicbkdckpeaaaDoorG13
set_option linter.unusedSimpArgs false
set_option linter.unusedVariables false
set_option maxHeartbeats 4000000
namespace Go.Ab.Rf
open Go Go.Ab Go.Proofs Go.Ab.Ty
theorem aqO {S:jz→Nat→jz} {f:Nat} {s:jz} {k m i:Nat} {t:km} {l:lM} {v w nn tk:Int} {q:Nat} {vs:List Int} (h:Dk S f s k m i t l ⟨1,v,w,nn,tk,vs⟩) (hL:200≤s.kr.length):jS Tryd.prog 72 [jI,.int k] (RH s) (.bool false) (RH (s)):=by
 obtain ⟨ow,mJ⟩:=h.next;have hD:=Hid.mk h;have hw:=h.fo.wf;obtain ⟨⟨ht,hm,hl,hi,jP⟩,nM,j6,pf,pZ,my,p9,kW⟩:=h;obtain ⟨lc,la,ls,lf⟩:=l;simp only at hi jP kW;subst hi;have pe:decide ((s.kr.length:Int)≥200)=true:=jf ae;obtain ⟨g1,g2,g3,g4,g5⟩:=hw.k ht;obtain ⟨e1,e2,e3,e4,e5⟩:=hw.oD ht hl;simp only at e1 e2 e5;have qC:m<t.jC:=ae;have mV:=(hw.lv t (dx ht)).2.1;have nq:i<lc.steps.length:=(dt jP).1;have pG:(lc.steps.map ki)[i]?=some (ki ⟨1,v,w,nn,tk,vs⟩):=aB;have pS:IntKind.i64.wrap ((t.jC:Int)-1)=m:=ax;have nt:Hid (0≤la→IntKind.i64.wrap (-1-la)=jR la k):=⟨fun h=>ak⟩
 have rh:=Hid.mk hm;clear hm;refine jS.i2 [(0,jI),(1,.int k)] 2 475 NN eX (kv s) ?_;refine jx ?_;refine jB.p2 (qc (T:=[kS]) (q:=0) (l:=⟨lc,la,i,lf⟩) aa aa rfl) ?_;show jB _ _ _ _ _ ⟨_,RH s++[kj ⟨lc,la,i,lf⟩]⟩;refine jx ?_;refine jG.join ⟨[(0,jI),(1,.int k),(5,.int m),(6,.ptr NN 1 0 0),(7,.ptr (NN+1) 1 0 0),(8,.int (jR la k))],RH s++[kj ⟨lc,la,i,lf⟩,j7 ⟨1,v,w,nn,tk,vs⟩]⟩ ?_ ?_
 ·by_cases kJ:0≤la
  ·have kb:decide (la≥0)=true:=jf kJ;refine j8 ?_ kb rfl;refine jx ?_;rw [nt.out kJ];exact .wf
  ·have kb:decide (la≥0)=false:=je kJ;refine jK ?_ kb rfl;refine jx ?_;rw [show jR la k=(k:Int) by unfold jR;rw [iZ kJ]];exact .wf
 refine jx ?_;repeat (refine jK ?_ rfl rfl;refine jx ?_)
 refine j8 ?_ rfl rfl;refine jx ?_;refine j8 ?_ ?_ rfl;rotate_left
 ·first|rfl|simp +decide [pe]
 refine jx ?_;exact Rf.kY.ref [kj ⟨lc,la,i,lf⟩,j7 ⟨1,v,w,nn,tk,vs⟩] hw (vs:=[.bool false]) ag rfl rfl (.pu (.base _))
theorem aqP {S:jz→Nat→jz} {f:Nat} {s:jz} {k m i:Nat} {t:km} {l:lM} {v w nn tk:Int} {q:Nat} {vs:List Int} (h:Dk S f s k m i t l ⟨1,(q:Int),w,nn,tk,vs⟩) {fr:List Int×List Int} (kX:s.jY[l.fr]?=some fr) (lH:fr.1.length=l.code.vars.toNat) (hL:s.kr.length<200) (hq:q<fr.1.length):jS Tryd.prog 72 [jI,.int k] (RH s) (.bool true) (RH (mM S ((s.ll nn).nY l.fr (fr.1.set q s.kr.length,fr.2)) k)):=by
 obtain ⟨ow,mJ⟩:=h.next;have hD:=Hid.mk h;have hw:=h.fo.wf;obtain ⟨⟨ht,hm,hl,hi,jP⟩,nM,j6,pf,pZ,my,p9,kW⟩:=h;obtain ⟨lc,la,ls,lf⟩:=l;simp only at hi jP kW;subst hi;simp only at kX lH;have pe:decide ((s.kr.length:Int)≥200)=false:=je ae;obtain ⟨s1,mK⟩:∃s1,s1=s.ll nn:=⟨_,rfl⟩
 have oK:Fo s1:=by rw [mK];exact nM.ll ae
 have IK:=Ck hw nn ae;rw [← mK] at IK ⊢;have Bx:s1.jY[lf]?=some fr:=by rw [mK];exact kX
 obtain ⟨s2,jW⟩:∃s2,s2=s1.nY lf (fr.1.set q s.kr.length,fr.2):=⟨_,rfl⟩
 have oz:Fo s2:=by rw [jW];exact oK.nY Bx ah rfl
 rw [← jW];obtain ⟨uy,qv⟩:=hD.out.Br oz (by rw [jW,mK];exact ht) hl ⟨rfl,rfl⟩ rfl rfl (by rw [jW,mK];show s.after.length≤_;omega);have kq:=oK.wf;have lj:=oz.wf;obtain ⟨y,hy⟩:∃y,fr.1[q]?=some y:=⟨_,dy hq⟩
 have xJ:fr.1[q]?=some y∧fr.1.length=lc.vars.toNat:=⟨hy,lH⟩
 have pz:=Hid.mk jW;have oL:=Hid.mk mK;have aDq:=Hid.mk kX;clear jW mK ow mJ oz oK kX;obtain ⟨g1,g2,g3,g4,g5⟩:=hw.k ht;obtain ⟨e1,e2,e3,e4,e5⟩:=hw.oD ht hl;simp only at e1 e2 e5;have qC:m<t.jC:=ae;have mV:=(hw.lv t (dx ht)).2.1;have nq:i<lc.steps.length:=(dt jP).1;have pG:(lc.steps.map ki)[i]?=some (ki ⟨1,(q:Int),w,nn,tk,vs⟩):=aB;have pS:IntKind.i64.wrap ((t.jC:Int)-1)=m:=ax;have nt:Hid (0≤la→IntKind.i64.wrap (-1-la)=jR la k):=⟨fun h=>ak⟩
 have rh:=Hid.mk hm;clear hm;refine jS.i2 [(0,jI),(1,.int k)] 2 475 NN eX (kv s) ?_;refine jx ?_;refine jB.p2 (qc (T:=[kS]) (q:=0) (l:=⟨lc,la,i,lf⟩) aa aa rfl) ?_;show jB _ _ _ _ _ ⟨_,RH s++[kj ⟨lc,la,i,lf⟩]⟩;refine jx ?_;refine jG.join ⟨[(0,jI),(1,.int k),(5,.int m),(6,.ptr NN 1 0 0),(7,.ptr (NN+1) 1 0 0),(8,.int (jR la k))],RH s++[kj ⟨lc,la,i,lf⟩,j7 ⟨1,(q:Int),w,nn,tk,vs⟩]⟩ ?_ ?_
 ·by_cases kJ:0≤la
  ·have kb:decide (la≥0)=true:=jf kJ;refine j8 ?_ kb rfl;refine jx ?_;rw [nt.out kJ];exact .wf
  ·have kb:decide (la≥0)=false:=je kJ;refine jK ?_ kb rfl;refine jx ?_;rw [show jR la k=(k:Int) by unfold jR;rw [iZ kJ]];exact .wf
 refine jx ?_;repeat (refine jK ?_ rfl rfl;refine jx ?_)
 refine j8 ?_ rfl rfl;refine jx ?_;refine jK ?_ ?_ rfl;rotate_left
 ·first|rfl|simp +decide [pe]
 refine jx ?_;refine qK (k:=8) [none,none,none,none,none,none,none,some 0] (fun c=>match c with
  | 0=>RH s++[kj ⟨lc,la,i,lf⟩,j7 ⟨1,(q:Int),w,nn,tk,vs⟩]
  | _=>RH s1++[kj ⟨lc,la,i,lf⟩,j7 ⟨1,(q:Int),w,nn,tk,vs⟩]) 1 follows ?_
 repeat (first|refine gS ?_|refine gT ?_|refine gU ?_|refine gV ?_)
 refine ko.p1 (v:=.int s.kr.length) rfl rfl (fun kB pb=>?_) ?_
 ·exact Mf (T:=[kj ⟨lc,la,i,lf⟩,j7 ⟨1,(q:Int),w,nn,tk,vs⟩]) hw kq IK rfl ((pb (.func 46) ai).trans aa) (by
   simp only [List.map];rw [pb (.tmp 76) ai,pb (.tmp 78) ai];simp +decide only [go_sem]<;>rfl) (fun a ha=>by
   simp only [dC,dB,jd] at ha;rcases ha with rfl|rfl
   ·exact .ptr mc
   ·exact .pu (.base _)) (.pu (.base _))
 refine ko.nil ?_;show jB _ _ _ _ _ ⟨_,RH s1++[kj ⟨lc,la,i,lf⟩,j7 ⟨1,(q:Int),w,nn,tk,vs⟩]⟩;refine jB.q2 (Sj (l:=fr.1) (c:=y) (b:=ix (.kz lf)) (n:=lc.vars.toNat) (q:=q) aa aa aa xJ) ?_;refine jx ?_;refine jB.p2 (FO (f:=fr) (q:=q) (n:=lc.vars.toNat) (v:=s.kr.length) Bx e1 aa lH aa hq) ?_;rw [← pz.out];refine jx ?_;refine cF uy lj qv.fo.wf ?_;refine jx ?_;exact Rf.kY.ref [kj ⟨lc,la,i,lf⟩,j7 ⟨1,(q:Int),w,nn,tk,vs⟩] qv.fo.wf (vs:=[.bool true]) ag rfl rfl (.pu (.base _))
theorem aqQ {S:jz→Nat→jz} {f:Nat} {s:jz} {k m i:Nat} {t:km} {l:lM} {v w nn tk:Int} {q:Nat} {vs:List Int} (h:Dk S f s k m i t l ⟨2,(q:Int),w,nn,tk,vs⟩) {fr:List Int×List Int} (kX:s.jY[l.fr]?=some fr) (lH:fr.1.length=l.code.vars.toNat) (hv:mW fr.1 w) (hb:mO fr.1 [w]=false):jS Tryd.prog 72 [jI,.int k] (RH s) (.bool false) (RH (s)):=by
 obtain ⟨ow,mJ⟩:=h.next;have hD:=Hid.mk h;have hw:=h.fo.wf;obtain ⟨⟨ht,hm,hl,hi,jP⟩,nM,j6,pf,pZ,my,p9,kW⟩:=h;obtain ⟨lc,la,ls,lf⟩:=l;simp only at hi jP kW;subst hi;simp only at kX lH;have nN:=hw.sz.2.2.2.2.1;have kV:∀x∈[w],mW fr.1 x:=fun x hx=>aU;obtain ⟨g1,g2,g3,g4,g5⟩:=hw.k ht;obtain ⟨e1,e2,e3,e4,e5⟩:=hw.oD ht hl;simp only at e1 e2 e5;have qC:m<t.jC:=ae;have mV:=(hw.lv t (dx ht)).2.1;have nq:i<lc.steps.length:=(dt jP).1;have pG:(lc.steps.map ki)[i]?=some (ki ⟨2,(q:Int),w,nn,tk,vs⟩):=aB;have pS:IntKind.i64.wrap ((t.jC:Int)-1)=m:=ax;have nt:Hid (0≤la→IntKind.i64.wrap (-1-la)=jR la k):=⟨fun h=>ak⟩
 have rh:=Hid.mk hm;clear hm;refine jS.i2 [(0,jI),(1,.int k)] 2 475 NN eX (kv s) ?_;refine jx ?_;refine jB.p2 (qc (T:=[kS]) (q:=0) (l:=⟨lc,la,i,lf⟩) aa aa rfl) ?_;show jB _ _ _ _ _ ⟨_,RH s++[kj ⟨lc,la,i,lf⟩]⟩;refine jx ?_;refine jG.join ⟨[(0,jI),(1,.int k),(5,.int m),(6,.ptr NN 1 0 0),(7,.ptr (NN+1) 1 0 0),(8,.int (jR la k))],RH s++[kj ⟨lc,la,i,lf⟩,j7 ⟨2,(q:Int),w,nn,tk,vs⟩]⟩ ?_ ?_
 ·by_cases kJ:0≤la
  ·have kb:decide (la≥0)=true:=jf kJ;refine j8 ?_ kb rfl;refine jx ?_;rw [nt.out kJ];exact .wf
  ·have kb:decide (la≥0)=false:=je kJ;refine jK ?_ kb rfl;refine jx ?_;rw [show jR la k=(k:Int) by unfold jR;rw [iZ kJ]];exact .wf
 refine jx ?_;repeat (refine jK ?_ rfl rfl;refine jx ?_)
 repeat (first|(refine j8 ?_ rfl rfl;refine jx ?_)|(refine jK ?_ rfl rfl;refine jx ?_))
 refine jB.p2 (FH (x:=⟨lc,la,i,lf⟩) (f:=fr) (vs:=[w]) hw kX lH kV ah hb rfl aa aa) ?_;refine jx ?_;refine mi (k:=10) follows (hr:=?_);refine jx ?_;refine wu ((AV.int 0).kN 0) ?_ (hx:=by simp [oR]);refine jx ?_;refine wu ((AV.int 0).kN 0) ?_ (hx:=by simp [oR]);refine jx ?_;refine j8 ?_ rfl rfl;refine jx ?_;exact Rf.kY.ref [kj ⟨lc,la,i,lf⟩,j7 ⟨2,(q:Int),w,nn,tk,vs⟩] hw (vs:=[.bool false]) ag rfl rfl (.pu (.base _))
theorem aqR {S:jz→Nat→jz} {f:Nat} {s:jz} {k m i:Nat} {t:km} {l:lM} {v w nn tk:Int} {q:Nat} {vs:List Int} (h:Dk S f s k m i t l ⟨2,(q:Int),w,nn,tk,vs⟩) {fr:List Int×List Int} (kX:s.jY[l.fr]?=some fr) (lH:fr.1.length=l.code.vars.toNat) {ob:Nat} (hv:mW fr.1 w) (hb:mO fr.1 [w]=true) (pt:fr.1.getD w.toNat 0=(ob:Int)) (oT:ob<s.kr.length) (oY:s.kr.getD ob 0<0) (xz:200≤s.kr.length):jS Tryd.prog 72 [jI,.int k] (RH s) (.bool false) (RH (s)):=by
 obtain ⟨ow,mJ⟩:=h.next;have hD:=Hid.mk h;have hw:=h.fo.wf;obtain ⟨⟨ht,hm,hl,hi,jP⟩,nM,j6,pf,pZ,my,p9,kW⟩:=h;obtain ⟨lc,la,ls,lf⟩:=l;simp only at hi jP kW;subst hi;simp only at kX lH;have nN:=hw.sz.2.2.2.2.1;have kV:∀x∈[w],mW fr.1 x:=fun x hx=>aU;have A1:lX fr.1 [w]=[(ob:Int)]:=bK;obtain ⟨L,hL⟩:∃L,s.kr[ob]?=some L:=⟨_,dy oT⟩
 have NI:(s.kr.map AV.int)[ob]?=some (.int L):=by rw [dE,hL];rfl
 have BW:s.kr.getD ob 0=L:=by rw [dI,hL];rfl
 rw [BW] at oY;have pe:decide ((s.kr.length:Int)≥200)=true:=jf ae;have oC:decide (L<0)=true:=jf oY;obtain ⟨g1,g2,g3,g4,g5⟩:=hw.k ht;obtain ⟨e1,e2,e3,e4,e5⟩:=hw.oD ht hl;simp only at e1 e2 e5;have qC:m<t.jC:=ae;have mV:=(hw.lv t (dx ht)).2.1;have nq:i<lc.steps.length:=(dt jP).1;have pG:(lc.steps.map ki)[i]?=some (ki ⟨2,(q:Int),w,nn,tk,vs⟩):=aB;have pS:IntKind.i64.wrap ((t.jC:Int)-1)=m:=ax;have nt:Hid (0≤la→IntKind.i64.wrap (-1-la)=jR la k):=⟨fun h=>ak⟩
 have rh:=Hid.mk hm;clear hm;refine jS.i2 [(0,jI),(1,.int k)] 2 475 NN eX (kv s) ?_;refine jx ?_;refine jB.p2 (qc (T:=[kS]) (q:=0) (l:=⟨lc,la,i,lf⟩) aa aa rfl) ?_;show jB _ _ _ _ _ ⟨_,RH s++[kj ⟨lc,la,i,lf⟩]⟩;refine jx ?_;refine jG.join ⟨[(0,jI),(1,.int k),(5,.int m),(6,.ptr NN 1 0 0),(7,.ptr (NN+1) 1 0 0),(8,.int (jR la k))],RH s++[kj ⟨lc,la,i,lf⟩,j7 ⟨2,(q:Int),w,nn,tk,vs⟩]⟩ ?_ ?_
 ·by_cases kJ:0≤la
  ·have kb:decide (la≥0)=true:=jf kJ;refine j8 ?_ kb rfl;refine jx ?_;rw [nt.out kJ];exact .wf
  ·have kb:decide (la≥0)=false:=je kJ;refine jK ?_ kb rfl;refine jx ?_;rw [show jR la k=(k:Int) by unfold jR;rw [iZ kJ]];exact .wf
 refine jx ?_;repeat (refine jK ?_ rfl rfl;refine jx ?_)
 repeat (first|(refine j8 ?_ rfl rfl;refine jx ?_)|(refine jK ?_ rfl rfl;refine jx ?_))
 refine jB.p2 (Cu (x:=⟨lc,la,i,lf⟩) (f:=fr) (vs:=[w]) hw kX lH kV ah hb (CH e1 e2) rfl aa aa) ?_;rw [A1];refine jx ?_;refine mi (k:=10) follows (hr:=?_);refine jx ?_;refine uf (h:=fun hg=>vG (e:=ob) (es:=[]) aa aa) (hr:=?_);refine jx ?_;refine uf (h:=fun hg=>w8 (l:=s.kr) (q:=ob) aa aa aa oT) (hr:=?_);refine jx ?_;refine j8 ?_ rfl rfl;refine jx ?_;exact Rf.kY.ref [kj ⟨lc,la,i,lf⟩,j7 ⟨2,(q:Int),w,nn,tk,vs⟩] hw (vs:=[.bool false]) ag rfl rfl (.pu (.base _))
theorem aqS {S:jz→Nat→jz} {f:Nat} {s:jz} {k m i:Nat} {t:km} {l:lM} {v w nn tk:Int} {q:Nat} {vs:List Int} (h:Dk S f s k m i t l ⟨2,(q:Int),w,nn,tk,vs⟩) {fr:List Int×List Int} (kX:s.jY[l.fr]?=some fr) (lH:fr.1.length=l.code.vars.toNat) {ob:Nat} (hv:mW fr.1 w) (hb:mO fr.1 [w]=true) (pt:fr.1.getD w.toNat 0=(ob:Int)) (oT:ob<s.kr.length) (oY:0≤s.kr.getD ob 0) (tu:s.jT.length<999999) (hq:q<fr.1.length):jS Tryd.prog 72 [jI,.int k] (RH s) (.bool true) (RH (mM S ((s.kE ⟨jR l.jM k,(ob:Int),false,(s.turns.length:Int)-1⟩).nY l.fr (fr.1.set q (s.kr.getD ob 0),fr.2)) k)):=by
 obtain ⟨ow,mJ⟩:=h.next;have hD:=Hid.mk h;have hw:=h.fo.wf;obtain ⟨⟨ht,hm,hl,hi,jP⟩,nM,j6,pf,pZ,my,p9,kW⟩:=h;obtain ⟨lc,la,ls,lf⟩:=l;simp only at hi jP kW;subst hi;simp only at kX lH;have nN:=hw.sz.2.2.2.2.1;have kV:∀x∈[w],mW fr.1 x:=fun x hx=>aU;have A1:lX fr.1 [w]=[(ob:Int)]:=bK;obtain ⟨L,hL⟩:∃L,s.kr[ob]?=some L:=⟨_,dy oT⟩
 have NI:(s.kr.map AV.int)[ob]?=some (.int L):=by rw [dE,hL];rfl
 have BW:s.kr.getD ob 0=L:=by rw [dI,hL];rfl
 rw [BW] at oY;rw [BW];have pe:True:=trivial;have oC:decide (L<0)=false:=je ae;obtain ⟨s1,mK⟩:∃s1,s1=s.kE ⟨jR la k,(ob:Int),false,(s.turns.length:Int)-1⟩:=⟨_,rfl⟩
 have vt:=FI hw (jR la k) (ob:Int) false ae;rw [← mK] at vt ⊢;have oK:Fo s1:=by rw [mK];exact nM.kE ae
 have MX:ob<s1.kr.length:=by rw [mK];exact oT
 have auJ:(s1.kr.map AV.int)[ob]?=some (.int L):=by rw [mK];exact NI
 obtain ⟨y,hy⟩:∃y,fr.1[q]?=some y:=⟨_,dy hq⟩
 have xJ:fr.1[q]?=some y∧fr.1.length=lc.vars.toNat:=⟨hy,lH⟩
 have Bx:s1.jY[lf]?=some fr:=by rw [mK];exact kX
 obtain ⟨s2,jW⟩:∃s2,s2=s1.nY lf (fr.1.set q L,fr.2):=⟨_,rfl⟩
 have oz:Fo s2:=by rw [jW];exact oK.nY Bx ah rfl
 rw [← jW];obtain ⟨uy,qv⟩:=hD.out.Br oz (by rw [jW,mK];exact ht) hl ⟨rfl,rfl⟩ rfl rfl (by rw [jW,mK];show s.after.length≤_;omega);have kq:=oK.wf;have lj:=oz.wf;have pz:=Hid.mk jW;have oL:=Hid.mk mK;clear jW mK ow mJ oz oK;obtain ⟨g1,g2,g3,g4,g5⟩:=hw.k ht;obtain ⟨e1,e2,e3,e4,e5⟩:=hw.oD ht hl;simp only at e1 e2 e5;have qC:m<t.jC:=ae;have mV:=(hw.lv t (dx ht)).2.1;have nq:i<lc.steps.length:=(dt jP).1;have pG:(lc.steps.map ki)[i]?=some (ki ⟨2,(q:Int),w,nn,tk,vs⟩):=aB;have pS:IntKind.i64.wrap ((t.jC:Int)-1)=m:=ax;have nt:Hid (0≤la→IntKind.i64.wrap (-1-la)=jR la k):=⟨fun h=>ak⟩
 have rh:=Hid.mk hm;clear hm;refine jS.i2 [(0,jI),(1,.int k)] 2 475 NN eX (kv s) ?_;refine jx ?_;refine jB.p2 (qc (T:=[kS]) (q:=0) (l:=⟨lc,la,i,lf⟩) aa aa rfl) ?_;show jB _ _ _ _ _ ⟨_,RH s++[kj ⟨lc,la,i,lf⟩]⟩;refine jx ?_;refine jG.join ⟨[(0,jI),(1,.int k),(5,.int m),(6,.ptr NN 1 0 0),(7,.ptr (NN+1) 1 0 0),(8,.int (jR la k))],RH s++[kj ⟨lc,la,i,lf⟩,j7 ⟨2,(q:Int),w,nn,tk,vs⟩]⟩ ?_ ?_
 ·by_cases kJ:0≤la
  ·have kb:decide (la≥0)=true:=jf kJ;refine j8 ?_ kb rfl;refine jx ?_;rw [nt.out kJ];exact .wf
  ·have kb:decide (la≥0)=false:=je kJ;refine jK ?_ kb rfl;refine jx ?_;rw [show jR la k=(k:Int) by unfold jR;rw [iZ kJ]];exact .wf
 refine jx ?_;repeat (refine jK ?_ rfl rfl;refine jx ?_)
 repeat (first|(refine j8 ?_ rfl rfl;refine jx ?_)|(refine jK ?_ rfl rfl;refine jx ?_))
 refine jB.p2 (Cu (x:=⟨lc,la,i,lf⟩) (f:=fr) (vs:=[w]) hw kX lH kV ah hb (CH e1 e2) rfl aa aa) ?_;rw [A1];refine jx ?_;refine mi (k:=10) follows (hr:=?_);refine jx ?_;refine uf (h:=fun hg=>vG (e:=ob) (es:=[]) aa aa) (hr:=?_);refine jx ?_;refine uf (h:=fun hg=>w8 (l:=s.kr) (q:=ob) aa aa aa oT) (hr:=?_);refine jx ?_;refine jK ?_ ?_ rfl;rotate_left
 ·simp +decide [oC,pe]
 refine jx ?_;refine jB.q2 (vG (e:=ob) (es:=[]) aa aa) ?_;refine jx ?_;refine cF vt hw kq ?_;refine jx ?_;refine mi (k:=7) follows (hr:=?_);refine jx ?_;refine jB.q2 (vG (e:=ob) (es:=[]) aa aa) ?_;refine jx ?_;refine jB.q2 (w8 (l:=s1.kr) (q:=ob) aa aa aa MX) ?_;refine jx ?_;refine jK ?_ rfl rfl;refine jx ?_;refine mi (k:=13) follows (hr:=?_);refine jx ?_;refine jB.q2 (vG (e:=ob) (es:=[]) aa aa) ?_;refine jx ?_;refine jB.q2 (w8 (l:=s1.kr) (q:=ob) aa aa aa MX) ?_;refine jx ?_;refine jB.p2 (FO (f:=fr) (q:=q) (n:=lc.vars.toNat) (v:=L) Bx e1 aa lH aa hq) ?_;rw [← pz.out];refine jx ?_;refine cF uy lj qv.fo.wf ?_;refine jx ?_;exact Rf.kY.ref [kj ⟨lc,la,i,lf⟩,j7 ⟨2,(q:Int),w,nn,tk,vs⟩] qv.fo.wf (vs:=[.bool true]) ag rfl rfl (.pu (.base _))
theorem aqT {S:jz→Nat→jz} {f:Nat} {s:jz} {k m i:Nat} {t:km} {l:lM} {v w nn tk:Int} {q:Nat} {vs:List Int} (h:Dk S f s k m i t l ⟨2,(q:Int),w,nn,tk,vs⟩) {fr:List Int×List Int} (kX:s.jY[l.fr]?=some fr) (lH:fr.1.length=l.code.vars.toNat) {ob:Nat} (hv:mW fr.1 w) (hb:mO fr.1 [w]=true) (pt:fr.1.getD w.toNat 0=(ob:Int)) (oT:ob<s.kr.length) (oY:s.kr.getD ob 0<0) (xz:s.kr.length<200) (tu:s.jT.length<999990) (hq:q<fr.1.length):jS Tryd.prog 72 [jI,.int k] (RH s) (.bool true) (RH (mM S (((((s.kE ⟨jR l.jM k,(ob:Int),false,(s.turns.length:Int)-1⟩).ll 0).qJ ob s.kr.length).kE ⟨jR l.jM k,(ob:Int),true,(s.turns.length:Int)-1⟩).nY l.fr (fr.1.set q s.kr.length,fr.2)) k)):=by
 obtain ⟨ow,mJ⟩:=h.next;have hD:=Hid.mk h;have hw:=h.fo.wf;obtain ⟨⟨ht,hm,hl,hi,jP⟩,nM,j6,pf,pZ,my,p9,kW⟩:=h;obtain ⟨lc,la,ls,lf⟩:=l;simp only at hi jP kW;subst hi;simp only at kX lH;have nN:=hw.sz.2.2.2.2.1;have kV:∀x∈[w],mW fr.1 x:=fun x hx=>aU;have A1:lX fr.1 [w]=[(ob:Int)]:=bK;obtain ⟨L,hL⟩:∃L,s.kr[ob]?=some L:=⟨_,dy oT⟩
 have NI:(s.kr.map AV.int)[ob]?=some (.int L):=by rw [dE,hL];rfl
 have BW:s.kr.getD ob 0=L:=by rw [dI,hL];rfl
 rw [BW] at oY;have pe:decide ((s.kr.length:Int)≥200)=false:=je ae;have oC:decide (L<0)=true:=jf oY;obtain ⟨s1,mK⟩:∃s1,s1=s.kE ⟨jR la k,(ob:Int),false,(s.turns.length:Int)-1⟩:=⟨_,rfl⟩
 have vt:=FI hw (jR la k) (ob:Int) false ae;rw [← mK] at vt ⊢;have oK:Fo s1:=by rw [mK];exact nM.kE ae
 have MX:ob<s1.kr.length:=by rw [mK];exact oT
 have auJ:(s1.kr.map AV.int)[ob]?=some (.int L):=by rw [mK];exact NI
 obtain ⟨y,hy⟩:∃y,fr.1[q]?=some y:=⟨_,dy hq⟩
 have xJ:fr.1[q]?=some y∧fr.1.length=lc.vars.toNat:=⟨hy,lH⟩
 have n1:s1.kr=s.kr∧s1.jT.length<999998∧s1.turns=s.turns:=⟨by rw [mK];rfl,by rw [mK];show (s.jT++[_]).length<_;rw [dK,dO];omega,by rw [mK];rfl⟩
 have IK:=Ck oK.wf 0 (by rw [n1.1];omega);rw [n1.1] at IK;obtain ⟨s2,jW⟩:∃s2,s2=s1.ll 0:=⟨_,rfl⟩
 rw [← jW] at IK ⊢;have oz:Fo s2:=by rw [jW];exact oK.ll (by rw [n1.1];omega)
 have l2:s2.kr=s.kr++[-1]:=by rw [jW];show s1.kr++[-1]=_;rw [n1.1]
 have yD:ob<s2.kr.length:=by rw [l2,dK];omega
 obtain ⟨s3,lV⟩:∃s3,s3=s2.qJ ob s.kr.length:=⟨_,rfl⟩
 rw [← lV];have sv:Fo s3:=by rw [lV];exact oz.qJ
 have l3:s3.kr[ob]?=some (s.kr.length:Int):=by rw [lV];show (s2.kr.set ob _)[ob]?=_;rw [ee yD]
 have n3:s3.jT.length<1000000∧s3.turns=s.turns:=⟨by rw [lV,jW];show s1.jT.length<_;omega,by rw [lV,jW];exact n1.2.2⟩
 have QV:=FI sv.wf (jR la k) (ob:Int) true n3.1;rw [n3.2] at QV;obtain ⟨s4,ox⟩:∃s4,s4=s3.kE ⟨jR la k,(ob:Int),true,(s.turns.length:Int)-1⟩:=⟨_,rfl⟩
 rw [← ox] at QV ⊢;have El:Fo s4:=by rw [ox];exact sv.kE n3.1
 have l4:s4.kr[ob]?=some (s.kr.length:Int):=by rw [ox];exact l3
 have QW:ob<s4.kr.length:=(dt l4).1;have GY:(s4.kr.map AV.int)[ob]?=some (.int (s.kr.length:Int)):=by rw [dE,l4];rfl
 have XV:s4.jY[lf]?=some fr:=by rw [ox,lV,jW,mK];exact kX
 obtain ⟨s5,uh⟩:∃s5,s5=s4.nY lf (fr.1.set q s.kr.length,fr.2):=⟨_,rfl⟩
 have QX:Fo s5:=by rw [uh];exact El.nY XV ah rfl
 rw [← uh];obtain ⟨uy,qv⟩:=hD.out.Br QX (by rw [uh,ox,lV,jW,mK];exact ht) hl ⟨rfl,rfl⟩ rfl rfl (by rw [uh,ox,lV,jW,mK];show s.after.length≤_;omega);have kq:=oK.wf;have lj:=oz.wf;have mD:=sv.wf;have qD:=El.wf;have Dm:=QX.wf;have Km:=Hid.mk uh;have zH:=Hid.mk lV;clear jW lV ox uh mK ow mJ oz oK sv El QX n1 n3 l2 l3 l4;obtain ⟨g1,g2,g3,g4,g5⟩:=hw.k ht;obtain ⟨e1,e2,e3,e4,e5⟩:=hw.oD ht hl;simp only at e1 e2 e5;have qC:m<t.jC:=ae;have mV:=(hw.lv t (dx ht)).2.1;have nq:i<lc.steps.length:=(dt jP).1;have pG:(lc.steps.map ki)[i]?=some (ki ⟨2,(q:Int),w,nn,tk,vs⟩):=aB;have pS:IntKind.i64.wrap ((t.jC:Int)-1)=m:=ax;have nt:Hid (0≤la→IntKind.i64.wrap (-1-la)=jR la k):=⟨fun h=>ak⟩
 have rh:=Hid.mk hm;clear hm;refine jS.i2 [(0,jI),(1,.int k)] 2 475 NN eX (kv s) ?_;refine jx ?_;refine jB.p2 (qc (T:=[kS]) (q:=0) (l:=⟨lc,la,i,lf⟩) aa aa rfl) ?_;show jB _ _ _ _ _ ⟨_,RH s++[kj ⟨lc,la,i,lf⟩]⟩;refine jx ?_;refine jG.join ⟨[(0,jI),(1,.int k),(5,.int m),(6,.ptr NN 1 0 0),(7,.ptr (NN+1) 1 0 0),(8,.int (jR la k))],RH s++[kj ⟨lc,la,i,lf⟩,j7 ⟨2,(q:Int),w,nn,tk,vs⟩]⟩ ?_ ?_
 ·by_cases kJ:0≤la
  ·have kb:decide (la≥0)=true:=jf kJ;refine j8 ?_ kb rfl;refine jx ?_;rw [nt.out kJ];exact .wf
  ·have kb:decide (la≥0)=false:=je kJ;refine jK ?_ kb rfl;refine jx ?_;rw [show jR la k=(k:Int) by unfold jR;rw [iZ kJ]];exact .wf
 refine jx ?_;repeat (refine jK ?_ rfl rfl;refine jx ?_)
 repeat (first|(refine j8 ?_ rfl rfl;refine jx ?_)|(refine jK ?_ rfl rfl;refine jx ?_))
 refine jB.p2 (Cu (x:=⟨lc,la,i,lf⟩) (f:=fr) (vs:=[w]) hw kX lH kV ah hb (CH e1 e2) rfl aa aa) ?_;rw [A1];refine jx ?_;refine mi (k:=10) follows (hr:=?_);refine jx ?_;refine uf (h:=fun hg=>vG (e:=ob) (es:=[]) aa aa) (hr:=?_);refine jx ?_;refine uf (h:=fun hg=>w8 (l:=s.kr) (q:=ob) aa aa aa oT) (hr:=?_);refine jx ?_;refine jK ?_ ?_ rfl;rotate_left
 ·simp +decide [oC,pe]
 refine jx ?_;refine jB.q2 (vG (e:=ob) (es:=[]) aa aa) ?_;refine jx ?_;refine cF vt hw kq ?_;refine jx ?_;refine mi (k:=7) follows (hr:=?_);refine jx ?_;refine jB.q2 (vG (e:=ob) (es:=[]) aa aa) ?_;refine jx ?_;refine jB.q2 (w8 (l:=s1.kr) (q:=ob) aa aa aa MX) ?_;refine jx ?_;refine j8 ?_ rfl rfl;refine jx ?_;refine cF IK kq lj ?_;refine jx ?_;refine mi (k:=8) follows (hr:=?_);refine jx ?_;refine jB.q2 (vG (e:=ob) (es:=[]) aa aa) ?_;refine jx ?_;refine jB.q2 (w8 (l:=s2.kr) (q:=ob) aa aa aa yD) ?_;refine jx ?_;refine jB.p2 (PX (o:=ob) (v:=s.kr.length) aa aa yD) ?_;rw [← zH.out];refine jx ?_;refine jB.q2 (vG (e:=ob) (es:=[]) aa aa) ?_;refine jx ?_;refine cF QV mD qD ?_;refine jx ?_;refine mi (k:=13) follows (hr:=?_);refine jx ?_;refine jB.q2 (vG (e:=ob) (es:=[]) aa aa) ?_;refine jx ?_;refine jB.q2 (w8 (l:=s4.kr) (q:=ob) aa aa aa QW) ?_;refine jx ?_;refine jB.p2 (FO (f:=fr) (q:=q) (n:=lc.vars.toNat) (v:=s.kr.length) XV e1 aa lH aa hq) ?_;rw [← Km.out];refine jx ?_;refine cF uy Dm qv.fo.wf ?_;refine jx ?_;exact Rf.kY.ref [kj ⟨lc,la,i,lf⟩,j7 ⟨2,(q:Int),w,nn,tk,vs⟩] qv.fo.wf (vs:=[.bool true]) ag rfl rfl (.pu (.base _))
def jz.uA (s:jz) (o:Nat) (v:Int):jz:={ s with jV:=s.jV.set o v }
theorem akG {s:jz} {o:Nat} {v:Int}:(RH s).set (ix .at') (jD (s.jV.set o v))=RH (s.uA o v):=by
 refine vz (s:=s) (s':=s.uA o v) [(.at',_)] (wM ⟨zt,rfl⟩) fun a ha=>?_;simp only [ef,ez,dz] at ha;cases a<;>first|exact absurd rfl ha|rfl|(simp only [blk,lE,jz.uA,dW])
theorem Fo.uA {s:jz} (h:Fo s) {o:Nat} {v:Int}:Fo (s.uA o v):=
 ⟨⟨h.wf.nT,h.wf.nF,h.wf.lv,by obtain ⟨a1,a2,a3,a4,a5,a6,a7⟩:=h.wf.sz;exact ⟨a1,a2,a3,a4,a5,by simp [jz.uA];exact a6,a7⟩⟩,h.tk⟩
theorem Wx {s:jz} {T:List jy} {ρ:Operand→AV} {x y:Operand} {o:Nat} {v:Int} (hx:ρ x=.ptr (ix .at') s.jV.length o 0) (hy:ρ y=.int v) (ho:o<s.jV.length):PL Tryd.prog (RH s++T) ρ (.store 3 x y) .bad (RH (s.uA o v)++T):=by
 have h:=xc (P:=Tryd.prog) (H:=RH s++T) (ρ:=ρ) (f:=AV.int) (l:=s.jV) (b:=ix .at') (tot:=s.jV.length) (i:=o) (ty:=3) (sz:=1) v hx hy (by rw [mZ (kv s) zt];exact nj s .at' zt) rfl ho ny rfl rfl;rw [o7 (kv s) zt] at h;rw [← akG];exact h
theorem aqU {S:jz→Nat→jz} {f:Nat} {s:jz} {k m i:Nat} {t:km} {l:lM} {v w nn tk:Int} {q:Nat} {vs:List Int} (h:Dk S f s k m i t l ⟨8,v,w,nn,tk,vs⟩) {fr:List Int×List Int} (kX:s.jY[l.fr]?=some fr) (lH:fr.1.length=l.code.vars.toNat) (kV:∀x∈vs,mW fr.1 x) (mf:vs.length≤1000000) (hb:mO fr.1 vs=false):jS Tryd.prog 72 [jI,.int k] (RH s) (.bool false) (RH (s)):=by
 obtain ⟨ow,mJ⟩:=h.next;have hD:=Hid.mk h;have hw:=h.fo.wf;obtain ⟨⟨ht,hm,hl,hi,jP⟩,nM,j6,pf,pZ,my,p9,kW⟩:=h;obtain ⟨lc,la,ls,lf⟩:=l;simp only at hi jP kW;subst hi;simp only at kX lH;have nN:=hw.sz.2.2.2.2.1;have wh:=Hid.mk kV;clear kV;obtain ⟨g1,g2,g3,g4,g5⟩:=hw.k ht;obtain ⟨e1,e2,e3,e4,e5⟩:=hw.oD ht hl;simp only at e1 e2 e5;have qC:m<t.jC:=ae;have mV:=(hw.lv t (dx ht)).2.1;have nq:i<lc.steps.length:=(dt jP).1;have pG:(lc.steps.map ki)[i]?=some (ki ⟨8,v,w,nn,tk,vs⟩):=aB;have pS:IntKind.i64.wrap ((t.jC:Int)-1)=m:=ax;have nt:Hid (0≤la→IntKind.i64.wrap (-1-la)=jR la k):=⟨fun h=>ak⟩
 have rh:=Hid.mk hm;clear hm;refine jS.i2 [(0,jI),(1,.int k)] 2 475 NN eX (kv s) ?_;refine jx ?_;refine jB.p2 (qc (T:=[kS]) (q:=0) (l:=⟨lc,la,i,lf⟩) aa aa rfl) ?_;show jB _ _ _ _ _ ⟨_,RH s++[kj ⟨lc,la,i,lf⟩]⟩;refine jx ?_;refine jG.join ⟨[(0,jI),(1,.int k),(5,.int m),(6,.ptr NN 1 0 0),(7,.ptr (NN+1) 1 0 0),(8,.int (jR la k))],RH s++[kj ⟨lc,la,i,lf⟩,j7 ⟨8,v,w,nn,tk,vs⟩]⟩ ?_ ?_
 ·by_cases kJ:0≤la
  ·have kb:decide (la≥0)=true:=jf kJ;refine j8 ?_ kb rfl;refine jx ?_;rw [nt.out kJ];exact .wf
  ·have kb:decide (la≥0)=false:=je kJ;refine jK ?_ kb rfl;refine jx ?_;rw [show jR la k=(k:Int) by unfold jR;rw [iZ kJ]];exact .wf
 refine jx ?_;repeat (refine jK ?_ rfl rfl;refine jx ?_)
 repeat (first|(refine j8 ?_ rfl rfl;refine jx ?_)|(refine jK ?_ rfl rfl;refine jx ?_))
 refine jB.p2 (FH (x:=⟨lc,la,i,lf⟩) (f:=fr) (vs:=vs) hw kX lH wh.out mf hb rfl aa aa) ?_;refine jx ?_;refine j8 ?_ rfl rfl;refine jx ?_;exact Rf.kY.ref [kj ⟨lc,la,i,lf⟩,j7 ⟨8,v,w,nn,tk,vs⟩] hw (vs:=[.bool false]) ag rfl rfl (.pu (.base _))
theorem aqV {S:jz→Nat→jz} {f:Nat} {s:jz} {k m i:Nat} {t:km} {l:lM} {v w nn tk:Int} {q:Nat} {vs:List Int} (h:Dk S f s k m i t l ⟨9,v,w,nn,tk,vs⟩) {fr:List Int×List Int} (kX:s.jY[l.fr]?=some fr) (lH:fr.1.length=l.code.vars.toNat) (kV:∀x∈vs,mW fr.1 x) (mf:vs.length≤1000000) (hb:mO fr.1 vs=false):jS Tryd.prog 72 [jI,.int k] (RH s) (.bool false) (RH (s)):=by
 obtain ⟨ow,mJ⟩:=h.next;have hD:=Hid.mk h;have hw:=h.fo.wf;obtain ⟨⟨ht,hm,hl,hi,jP⟩,nM,j6,pf,pZ,my,p9,kW⟩:=h;obtain ⟨lc,la,ls,lf⟩:=l;simp only at hi jP kW;subst hi;simp only at kX lH;have nN:=hw.sz.2.2.2.2.1;have wh:=Hid.mk kV;clear kV;obtain ⟨g1,g2,g3,g4,g5⟩:=hw.k ht;obtain ⟨e1,e2,e3,e4,e5⟩:=hw.oD ht hl;simp only at e1 e2 e5;have qC:m<t.jC:=ae;have mV:=(hw.lv t (dx ht)).2.1;have nq:i<lc.steps.length:=(dt jP).1;have pG:(lc.steps.map ki)[i]?=some (ki ⟨9,v,w,nn,tk,vs⟩):=aB;have pS:IntKind.i64.wrap ((t.jC:Int)-1)=m:=ax;have nt:Hid (0≤la→IntKind.i64.wrap (-1-la)=jR la k):=⟨fun h=>ak⟩
 have rh:=Hid.mk hm;clear hm;refine jS.i2 [(0,jI),(1,.int k)] 2 475 NN eX (kv s) ?_;refine jx ?_;refine jB.p2 (qc (T:=[kS]) (q:=0) (l:=⟨lc,la,i,lf⟩) aa aa rfl) ?_;show jB _ _ _ _ _ ⟨_,RH s++[kj ⟨lc,la,i,lf⟩]⟩;refine jx ?_;refine jG.join ⟨[(0,jI),(1,.int k),(5,.int m),(6,.ptr NN 1 0 0),(7,.ptr (NN+1) 1 0 0),(8,.int (jR la k))],RH s++[kj ⟨lc,la,i,lf⟩,j7 ⟨9,v,w,nn,tk,vs⟩]⟩ ?_ ?_
 ·by_cases kJ:0≤la
  ·have kb:decide (la≥0)=true:=jf kJ;refine j8 ?_ kb rfl;refine jx ?_;rw [nt.out kJ];exact .wf
  ·have kb:decide (la≥0)=false:=je kJ;refine jK ?_ kb rfl;refine jx ?_;rw [show jR la k=(k:Int) by unfold jR;rw [iZ kJ]];exact .wf
 refine jx ?_;repeat (refine jK ?_ rfl rfl;refine jx ?_)
 repeat (first|(refine j8 ?_ rfl rfl;refine jx ?_)|(refine jK ?_ rfl rfl;refine jx ?_))
 refine jB.p2 (FH (x:=⟨lc,la,i,lf⟩) (f:=fr) (vs:=vs) hw kX lH wh.out mf hb rfl aa aa) ?_;refine jx ?_;refine j8 ?_ rfl rfl;refine jx ?_;exact Rf.kY.ref [kj ⟨lc,la,i,lf⟩,j7 ⟨9,v,w,nn,tk,vs⟩] hw (vs:=[.bool false]) ag rfl rfl (.pu (.base _))
theorem aqW {S:jz→Nat→jz} {f:Nat} {s:jz} {k m i:Nat} {t:km} {l:lM} {v w nn tk:Int} {q:Nat} {vs:List Int} (h:Dk S f s k m i t l ⟨8,v,w,(q:Int),tk,vs⟩) {fr:List Int×List Int} (kX:s.jY[l.fr]?=some fr) (lH:fr.1.length=l.code.vars.toNat) (kV:∀x∈vs,mW fr.1 x) (mf:vs.length≤1000000) {o1:Int} {os:List Int} (hb:mO fr.1 vs=true) (ng:lX fr.1 vs=o1::os) (oT:q<s.kr.length) (tu:s.jT.length<1000000) (pq:0<s.jV.length):jS Tryd.prog 72 [jI,.int k] (RH s) (.bool true) (RH (mM S (((s.qJ q o1).kE ⟨-1-(q:Int),(q:Int),true,(s.turns.length:Int)-1⟩).uA (s.jV.length-1) q) k)):=by
 obtain ⟨ow,mJ⟩:=h.next;have hD:=Hid.mk h;have hw:=h.fo.wf;obtain ⟨⟨ht,hm,hl,hi,jP⟩,nM,j6,pf,pZ,my,p9,kW⟩:=h;obtain ⟨lc,la,ls,lf⟩:=l;simp only at hi jP kW;subst hi;simp only at kX lH;have nN:=hw.sz.2.2.2.2.1;have wh:=Hid.mk kV;clear kV;have hz:=hw.sz;obtain ⟨s1,mK⟩:∃s1,s1=s.qJ q o1:=⟨_,rfl⟩
 obtain ⟨s2,jW⟩:∃s2,s2=s1.kE ⟨-1-(q:Int),(q:Int),true,(s.turns.length:Int)-1⟩:=⟨_,rfl⟩
 have oK:Fo s1:=by rw [mK];exact nM.qJ
 have Bz:s1.jT.length<1000000:=by rw [mK];exact tu
 have vt:=FI oK.wf (-1-(q:Int)) (q:Int) true Bz;rw [show s1.turns=s.turns by rw [mK];rfl] at vt;rw [← mK];rw [← jW] at vt ⊢;have oz:Fo s2:=by rw [jW];exact oK.kE Bz
 have IL:s2.jV=s.jV:=by rw [jW,mK];rfl
 obtain ⟨s3,lV⟩:∃s3,s3=s2.uA (s.jV.length-1) q:=⟨_,rfl⟩
 rw [← lV];have sv:Fo s3:=by rw [lV];exact oz.uA
 obtain ⟨uy,qv⟩:=hD.out.Br sv (by rw [lV,jW,mK];exact ht) hl ⟨rfl,rfl⟩ rfl rfl (by rw [lV,jW,mK];show s.after.length≤_;omega);have kq:=oK.wf;have lj:=oz.wf;have mD:=sv.wf;obtain ⟨an,ZM⟩:∃an,an=s.jV.length-1:=⟨_,rfl⟩
 rw [← ZM] at lV;have XW:an<s2.jV.length:=by rw [IL];omega
 have oh:IntKind.i64.wrap ((s2.jV.length:Int)-1)=an:=by rw [IL,nP ae ae];omega
 have hwq:IntKind.i64.wrap (-1-(q:Int)) = -1-(q:Int):=nP ae ae;have zH:=Hid.mk lV;have oL:=Hid.mk mK;have auK:=Hid.mk ng;clear jW lV mK ow mJ oz oK sv IL ZM ng hz;obtain ⟨g1,g2,g3,g4,g5⟩:=hw.k ht;obtain ⟨e1,e2,e3,e4,e5⟩:=hw.oD ht hl;simp only at e1 e2 e5;have qC:m<t.jC:=ae;have mV:=(hw.lv t (dx ht)).2.1;have nq:i<lc.steps.length:=(dt jP).1;have pG:(lc.steps.map ki)[i]?=some (ki ⟨8,v,w,(q:Int),tk,vs⟩):=aB;have pS:IntKind.i64.wrap ((t.jC:Int)-1)=m:=ax;have nt:Hid (0≤la→IntKind.i64.wrap (-1-la)=jR la k):=⟨fun h=>ak⟩
 have rh:=Hid.mk hm;clear hm;refine jS.i2 [(0,jI),(1,.int k)] 2 475 NN eX (kv s) ?_;refine jx ?_;refine jB.p2 (qc (T:=[kS]) (q:=0) (l:=⟨lc,la,i,lf⟩) aa aa rfl) ?_;show jB _ _ _ _ _ ⟨_,RH s++[kj ⟨lc,la,i,lf⟩]⟩;refine jx ?_;refine jG.join ⟨[(0,jI),(1,.int k),(5,.int m),(6,.ptr NN 1 0 0),(7,.ptr (NN+1) 1 0 0),(8,.int (jR la k))],RH s++[kj ⟨lc,la,i,lf⟩,j7 ⟨8,v,w,(q:Int),tk,vs⟩]⟩ ?_ ?_
 ·by_cases kJ:0≤la
  ·have kb:decide (la≥0)=true:=jf kJ;refine j8 ?_ kb rfl;refine jx ?_;rw [nt.out kJ];exact .wf
  ·have kb:decide (la≥0)=false:=je kJ;refine jK ?_ kb rfl;refine jx ?_;rw [show jR la k=(k:Int) by unfold jR;rw [iZ kJ]];exact .wf
 refine jx ?_;repeat (refine jK ?_ rfl rfl;refine jx ?_)
 repeat (first|(refine j8 ?_ rfl rfl;refine jx ?_)|(refine jK ?_ rfl rfl;refine jx ?_))
 refine jB.p2 (Cu (x:=⟨lc,la,i,lf⟩) (f:=fr) (vs:=vs) hw kX lH wh.out mf hb (CH e1 e2) rfl aa aa) ?_;rw [auK.out];refine jx ?_;refine jK ?_ rfl rfl;refine jx ?_;refine mi (k:=9) follows (hr:=?_);refine jx ?_;refine jB.q2 (vG (e:=o1) (es:=os.map .int) aa aa) ?_;refine jx ?_;refine jB.q2 (w8 (l:=s.kr) (q:=q) aa aa aa oT) ?_;refine jx ?_;refine jB.p2 (PX (o:=q) (v:=o1) aa aa oT) ?_;rw [← oL.out];refine jx ?_;refine cF vt kq lj ?_;refine jx ?_;refine mi (k:=12) follows (hr:=?_);refine jx ?_;refine jB.q2 (w8 (l:=s2.jV) (q:=an) aa aa aa XW) ?_;refine jx ?_;refine jB.p2 (Wx (o:=an) (v:=q) aa aa XW) ?_;rw [← zH.out];refine jx ?_;refine cF uy mD qv.fo.wf ?_;refine jx ?_;exact Rf.kY.ref [kj ⟨lc,la,i,lf⟩,j7 ⟨8,v,w,(q:Int),tk,vs⟩] qv.fo.wf (vs:=[.bool true]) ag rfl rfl (.pu (.base _))
theorem ZN {x:Nat} (h:x<256):IntKind.u8.wrap (x:Int)=(x:Int):=by
 have:IntKind.u8.wrap (x:Int)=(x:Int) % 256:=rfl;rw [this];omega
def xt (n:Nat):ByteArray:=⟨(Lib.decDigits n).toArray⟩
theorem Uq (n:Nat):xt n=va n:=by unfold xt va;rw [Lib.itoa_nonneg]
theorem Ur {n:Nat} (h:n≤1000000):(xt n).size≤21:=by rw [Uq];exact Fw ae ae
theorem VJ {H:List jy} {ρ:Operand→AV} {x:Operand} {c:Nat} (hx:ρ x=.jA [.base (.int .u8 c)]):QL Tryd.prog H ρ (.convert 167 9 x) (.base (.string ⟨[UInt8.ofNat c].toArray⟩)):=
 adP (l:=[(c:Int)]) hx (.pu (.jA fun e he d hd=>by
  rw [dz] at he;subst he;simp only [AV.cells,dz] at hd;subst hd;exact .base _)) Tryd.underlying167 Tryd.underlying5 Tryd.underlying9
theorem VK:∀n:Nat,n≤1000000→Fn Tryd.prog 116 [.int n] (.base (.string (xt n))):=by
 intro n
 induction n using Nat.strongRecOn with
 | _ n ih =>
   intro hn;refine Fn.nZ [(0,.int n)] 1 20 Tryd.func116 ag rfl rfl rfl rfl rfl ?_;have Dj:=Hid.mk ih;clear ih;refine jx ?_;by_cases h:n<10
   ·have kq:IntKind.i64.wrap (48+(n:Int))=((48+n:Nat):Int):=aW;have lj:=ZN (x:=48+n) ae;refine j8 ?_ (jf ae) rfl;refine jx ?_;refine jB.q2 (VJ (c:=48+n) (by simp +decide only [go_sem,kq,lj]<;>rfl)) ?_;refine jx ?_;exact kO.data (vs:=[.base (.string (xt n))]) (by
     have e:xt n=⟨[UInt8.ofNat (48+n)].toArray⟩:=by unfold xt;rw [Lib.decDigits_one h]
     rw [e];rfl) rfl (.base _)
   ·have BX:IntKind.i64.wrap ((n:Int).tdiv 10)=((n / 10:Nat):Int):=by
     rw [show (n:Int).tdiv 10=((n / 10:Nat):Int) from rfl];exact nP ae ae
    have pS:(n:Int).tmod 10=((n % 10:Nat):Int):=rfl;have kq:IntKind.i64.wrap (48+((n % 10:Nat):Int))=((48+n % 10:Nat):Int):=aW;have lj:=ZN (x:=48+n % 10) ae;have ic:=Dj.out (n / 10) ae ae;have hz:=Ur (n:=n / 10) ae;refine jK ?_ (je ae) rfl;refine jx ?_;refine mi (k:=10) follows (hr:=?_);refine jx ?_;refine oQ ic ?_;refine jx ?_;refine jB.q2 (VJ (c:=48+n % 10) (by simp +decide only [go_sem,pS,kq,lj]<;>rfl)) ?_;refine jx ?_;refine jB.q2 (Hu (a:=xt (n / 10)) (b:=⟨[UInt8.ofNat (48+n % 10)].toArray⟩) aa aa (by have:(⟨[UInt8.ofNat (48+n % 10)].toArray⟩:ByteArray).size=1:=rfl;omega)) ?_;refine jx ?_;exact kO.data (vs:=[.base (.string (xt n))]) (by
     have e:xt n=xt (n / 10)++⟨[UInt8.ofNat (48+n % 10)].toArray⟩:=by
      unfold xt;rw [Lib.decDigits,dif_neg h];apply ByteArray.ext;simp
     rw [e];rfl) rfl (.base _)
theorem Us (n:Int) (h0:-1000000≤n) (h1:n≤1000000):Fn Tryd.prog 96 [.int n] (.base (.string (va n))):=by
 refine Fn.nZ [(0,.int n)] 1 11 Tryd.func96 ag rfl rfl rfl rfl rfl ?_;refine jx ?_;by_cases h:n<0
 ·obtain ⟨u,hu⟩:∃u:Nat,-n=u:=⟨n.natAbs,ae⟩
  have ic:=VK u ae;have hz:=Ur (n:=u) ae;have IM:IntKind.i64.wrap (0-n)=u:=aW;refine j8 ?_ (jf h) rfl;refine jx ?_;refine oQ ic ?_;refine jx ?_;refine jB.q2 (Hu (a:=⟨#[45]⟩) (b:=xt u) aa aa (by have:(⟨#[45]⟩:ByteArray).size=1:=rfl;omega)) ?_;refine jx ?_;exact kO.data (vs:=[.base (.string (va n))]) (by
   have e:va n=⟨#[45]⟩++xt u:=by
    have hn:n = -(u:Int):=ae;rw [hn];unfold va xt;rw [Lib.itoa_neg u ae];apply ByteArray.ext;simp
   rw [e];rfl) rfl (.base _)
 ·obtain ⟨u,rfl⟩:∃u:Nat,n=u:=⟨n.toNat,ae⟩
  have ic:=VK u ae;refine jK ?_ (je h) rfl;refine jx ?_;refine oQ ic ?_;refine jx ?_;rw [Uq];exact kO.data (vs:=[.base (.string (va u))]) rfl rfl (.base _)
def jz.pM (s:jz) (x:ByteArray):jz:={ s with lines:=s.lines++[x] }
theorem akH {s:jz} {x:ByteArray}:((RH s).set (ix .ln) ⟨9,1,(s.lines++[x]).map fun x=>.base (.string x)⟩).set (ix .rn) (lE (s.pM x))=RH (s.pM x):=by
 refine vz (s:=s) (s':=s.pM x) [(.ln,_),(.rn,_)] (vF ⟨Aq,rfl⟩ ⟨mc,rfl⟩) fun a ha=>?_;cases a<;>first|rfl|simp at ha
theorem Fo.pM {s:jz} (h:Fo s) {x:ByteArray} (hb:s.lines.length<1000000):Fo (s.pM x):=
 ⟨⟨h.wf.nT,h.wf.nF,h.wf.lv,by obtain ⟨a1,a2,a3,a4⟩:=h.wf.sz;exact ⟨a1,a2,by simp [jz.pM];omega,a4⟩⟩,h.tk⟩
theorem aqX {S:jz→Nat→jz} {f:Nat} {s:jz} {k m i:Nat} {t:km} {l:lM} {v w nn tk:Int} {q:Nat} {vs:List Int} (h:Dk S f s k m i t l ⟨4,v,w,nn,tk,vs⟩) {fr:List Int×List Int} (kX:s.jY[l.fr]?=some fr) (lH:fr.1.length=l.code.vars.toNat) {ob:Nat} {x:Int} (hv:mW fr.1 v) (hb:mO fr.1 [v]=true) (pt:fr.1.getD v.toNat 0=(ob:Int)) (hx:s.ml[ob]?=some x) (Nw:-1000000≤x∧x≤1000000) (tu:s.jT.length<1000000) (IN:s.lines.length<1000000):jS Tryd.prog 72 [jI,.int k] (RH s) (.bool true) (RH (mM S ((s.kE ⟨jR l.jM k,(ob:Int),false,(s.turns.length:Int)-1⟩).pM (xk k x)) k)):=by
 obtain ⟨ow,mJ⟩:=h.next;have hD:=Hid.mk h;have hw:=h.fo.wf;obtain ⟨⟨ht,hm,hl,hi,jP⟩,nM,j6,pf,pZ,my,p9,kW⟩:=h;obtain ⟨lc,la,ls,lf⟩:=l;simp only at hi jP kW;subst hi;simp only at kX lH;have nN:=hw.sz.2.2.2.2.1;have kV:∀x∈[v],mW fr.1 x:=fun x hx=>aU;have A1:lX fr.1 [v]=[(ob:Int)]:=bK;obtain ⟨s2,jW⟩:∃s2,s2=s.kE ⟨jR la k,(ob:Int),false,(s.turns.length:Int)-1⟩:=⟨_,rfl⟩
 have vt:=FI hw (jR la k) (ob:Int) false tu;rw [← jW] at vt ⊢;have oz:Fo s2:=by rw [jW];exact nM.kE tu
 have vS:s2.ml[ob]?=some x:=by rw [jW];exact hx
 have auL:s2.lines.length<1000000:=by rw [jW];exact IN
 have yD:ob<s2.ml.length:=(dt vS).1;have yV:(s2.ml.map AV.int)[ob]?=some (.int x):=by rw [dE,vS];rfl
 obtain ⟨ln,sW⟩:∃ln,ln=xk k x:=⟨_,rfl⟩
 rw [← sW];obtain ⟨s3,lV⟩:∃s3,s3=s2.pM ln:=⟨_,rfl⟩
 rw [← lV];have sv:Fo s3:=by rw [lV];exact oz.pM auL
 obtain ⟨uy,qv⟩:=hD.out.Br sv (by rw [lV,jW];exact ht) hl ⟨rfl,rfl⟩ rfl rfl (by rw [lV,jW];show s.after.length≤_;omega);obtain ⟨H1,xM⟩:∃H1,H1=(RH s2).set (ix .ln) ⟨9,1,(s2.lines++[ln]).map fun x=>.base (.string x)⟩:=⟨_,rfl⟩
 have lH1:H1.length=NN:=by rw [xM,qG,kv]
 have aH1:H1[ix .rn]?=some (lE s2):=cB;have bH1:H1[ix .ck]?=some (jD s2.ml):=cB;have sQ:H1.set (ix .rn) (vO s2.p s2.tasks.length s2.kr.length s2.ml.length (s2.lines.length+1) s2.jT.length s2.turns.length s2.jV.length s2.after.length s2.at')=RH s3:=by
  have hr:lE s3=vO s2.p s2.tasks.length s2.kr.length s2.ml.length (s2.lines.length+1) s2.jT.length s2.turns.length s2.jV.length s2.after.length s2.at':=by
   rw [lV];simp only [lE,jz.pM,dK,dO]
  rw [xM,← hr,lV];exact akH
 have lj:=oz.wf;have mD:=sv.wf;have XX:k<1000:=by have:=vb ht;have:=hw.nT;omega
 have zH:=Hid.mk lV;have auM:=Hid.mk sW;have Kj:=Hid.mk xM;clear jW lV sW xM ow mJ oz sv hx vS;obtain ⟨g1,g2,g3,g4,g5⟩:=hw.k ht;obtain ⟨e1,e2,e3,e4,e5⟩:=hw.oD ht hl;simp only at e1 e2 e5;have qC:m<t.jC:=ae;have mV:=(hw.lv t (dx ht)).2.1;have nq:i<lc.steps.length:=(dt jP).1;have pG:(lc.steps.map ki)[i]?=some (ki ⟨4,v,w,nn,tk,vs⟩):=aB;have pS:IntKind.i64.wrap ((t.jC:Int)-1)=m:=ax;have nt:Hid (0≤la→IntKind.i64.wrap (-1-la)=jR la k):=⟨fun h=>ak⟩
 have rh:=Hid.mk hm;clear hm;refine jS.i2 [(0,jI),(1,.int k)] 2 475 NN eX (kv s) ?_;refine jx ?_;refine jB.p2 (qc (T:=[kS]) (q:=0) (l:=⟨lc,la,i,lf⟩) aa aa rfl) ?_;show jB _ _ _ _ _ ⟨_,RH s++[kj ⟨lc,la,i,lf⟩]⟩;refine jx ?_;refine jG.join ⟨[(0,jI),(1,.int k),(5,.int m),(6,.ptr NN 1 0 0),(7,.ptr (NN+1) 1 0 0),(8,.int (jR la k))],RH s++[kj ⟨lc,la,i,lf⟩,j7 ⟨4,v,w,nn,tk,vs⟩]⟩ ?_ ?_
 ·by_cases kJ:0≤la
  ·have kb:decide (la≥0)=true:=jf kJ;refine j8 ?_ kb rfl;refine jx ?_;rw [nt.out kJ];exact .wf
  ·have kb:decide (la≥0)=false:=je kJ;refine jK ?_ kb rfl;refine jx ?_;rw [show jR la k=(k:Int) by unfold jR;rw [iZ kJ]];exact .wf
 refine jx ?_;repeat (refine jK ?_ rfl rfl;refine jx ?_)
 repeat (first|(refine j8 ?_ rfl rfl;refine jx ?_)|(refine jK ?_ rfl rfl;refine jx ?_))
 refine jB.p2 (Cu (x:=⟨lc,la,i,lf⟩) (f:=fr) (vs:=[v]) hw kX lH kV ah hb (CH e1 e2) rfl aa aa) ?_;rw [A1];refine jx ?_;refine jK ?_ rfl rfl;refine jx ?_;refine mi (k:=8) follows (hr:=?_);refine jx ?_;refine jB.q2 (vG (e:=ob) (es:=[]) aa aa) ?_;refine jx ?_;refine cF vt hw lj ?_;refine jx ?_;refine jK ?_ rfl rfl;refine jx ?_;refine qK (k:=21) [none,none,none,none,none,none,none,none,none,none,none,none,none,none,none,none,none,none,none,none,some 0] (fun c=>match c with
  | 0=>RH s2++[kj ⟨lc,la,i,lf⟩,j7 ⟨4,v,w,nn,tk,vs⟩]
  | _=>H1++[kj ⟨lc,la,i,lf⟩,j7 ⟨4,v,w,nn,tk,vs⟩]) 1 follows ?_
 repeat (first|refine gS ?_|refine gT ?_|refine gU ?_|refine gV ?_)
 refine ko.q1 rfl rfl (fun c _=>DO (Us k ae ae) rfl rfl aa ah (.inl rfl)) ?_;refine ko.q1 (v:=.base (.string (va k++AD))) rfl rfl (fun c _=>Hu (a:=va k) (b:=AD) aa rfl (by have:AD.size=1:=rfl;have:=Fw (n:=(k:Int)) ae ae;omega)) ?_;repeat (first|refine gS ?_|refine gT ?_|refine gU ?_|refine gV ?_)
 refine ko.q1 (v:=(AV.int ob).kN 0) rfl rfl (fun c _=>vG (e:=ob) (es:=[]) aa aa) ?_;repeat (first|refine gS ?_|refine gT ?_|refine gU ?_|refine gV ?_)
 refine gI ?_ rfl rfl (w8 (l:=s2.ml) (q:=ob) aa aa aa yD) (w8 (l:=s2.ml) (q:=ob) aa aa aa yD);repeat (first|refine gS ?_|refine gT ?_|refine gU ?_|refine gV ?_)
 refine ko.q1 rfl rfl (fun c _=>DO (Us x ae ae) rfl rfl aa ah (.inl rfl)) ?_;refine ko.q1 (v:=.base (.string ln)) rfl rfl (fun c _=>by
  rw [auM.out];exact Hu (a:=va k++AD) (b:=va x) aa aa (by have:AD.size=1:=rfl;have:=Fw (n:=(k:Int)) ae ae;have:=Fw Nw.1 Nw.2;simp only [ByteArray.size_append];omega)) ?_
 refine ko.q1 (v:=.jA [.base (.string ln)]) rfl rfl (fun c _=>DX im ZP az ag az aC aC rfl) ?_;refine ko.p1 (v:=.own (ix .ln) (s2.lines.length+1) 0 (s2.lines.length+1)) rfl rfl (fun kB pb=>?_) ?_
 ·have h1:=tX (P:=Tryd.prog) (ρ:=kB) (H:=RH s2++[kj ⟨lc,la,i,lf⟩,j7 ⟨4,v,w,nn,tk,vs⟩]) (b:=ix .ln) (tot:=s2.lines.length) (es:=[.base (.string ln)]) (blk:=⟨9,1,s2.lines.map fun x=>.base (.string x)⟩) ((pb (.tmp 225) ai).trans aa) ((pb (.tmp 240) ai).trans aa) (by rw [mZ (kv s2) Aq];exact nj s2 .ln Aq) ah im ZQ rfl rfl ah (fun e he=>aw) aj aj;rw [o7 (kv s2) Aq] at h1;have he:H1=(RH s2).set (ix .ln) ⟨9,1,s2.lines.map (fun x=>.base (.string x))++[.base (.string ln)]⟩:=by rw [Kj.out];simp
  show PL _ _ _ _ _ (H1++[kj ⟨lc,la,i,lf⟩,j7 ⟨4,v,w,nn,tk,vs⟩]);rw [he];exact h1
 refine ko.nil ?_;show jB _ _ _ _ _ ⟨_,H1++[kj ⟨lc,la,i,lf⟩,j7 ⟨4,v,w,nn,tk,vs⟩]⟩;refine jx ?_;refine cF uy mD qv.fo.wf ?_;refine jx ?_;exact Rf.kY.ref [kj ⟨lc,la,i,lf⟩,j7 ⟨4,v,w,nn,tk,vs⟩] qv.fo.wf (vs:=[.bool true]) ag rfl rfl (.pu (.base _))
def jz.l8 (s:jz) (f:List Int×List Int):jz:={ s with jY:=s.jY++[f] }
theorem FA {s:jz} {f:List Int×List Int}:(s.l8 f).jY[s.jY.length]?=some f:=by simp [jz.l8]
theorem Ju {s:jz} {f:List Int×List Int} {j:Nat} (h:j≠s.jY.length):(s.l8 f).jY[j]?=s.jY[j]?:=by
 unfold jz.l8;simp only;rcases eE j s.jY.length with h1|h1
 ·exact dA h1
 ·rw [dT aj,dT h1]
theorem U1 {s:jz} {f:List Int×List Int} {j:Nat} (hj:j=s.jY.length) (h1:ix (.kz j)<NN) (h2:ix (.lg j)<NN):((RH s).set (ix (.kz j)) (jD f.1)).set (ix (.lg j)) (jD f.2)=RH (s.l8 f):=by
 subst hj;refine vz (s:=s) (s':=s.l8 f) [(.kz s.jY.length,_),(.lg s.jY.length,_)] (vF ⟨h1,by simp only [blk];rw [FA]⟩ ⟨h2,by simp only [blk];rw [FA]⟩) fun a ha=>?_;simp only [ef,ez,dC,dB,jd,jl] at ha;cases a with
 | lg j=>simp only [blk];rw [Ju fun e=>ha.2 bP]
 | kz j=>simp only [blk];rw [Ju fun e=>ha.1 bP]
 | _=>rfl
theorem WF.l8 {s:jz} (hw:WF s) {f:List Int×List Int} (h:s.jY.length<MM):WF (s.l8 f):=by
 refine ⟨hw.nT,by simp [jz.l8];omega,fun t ht=>?_,hw.sz⟩;obtain ⟨a1,a2,a3,a4,a5⟩:=hw.lv t ht;refine ⟨a1,a2,a3,a4,fun l hl=>?_⟩;obtain ⟨g,hg,b⟩:=a5 l hl;exact ⟨g,by rw [Ju (by have:=(dt hg).1;omega)];exact hg,b⟩
theorem Fo.l8 {s:jz} (h:Fo s) {f:List Int×List Int} (hM:s.jY.length<MM):Fo (s.l8 f):=⟨h.wf.l8 hM,h.tk⟩
theorem Hr {s:jz} {f f':List Int×List Int} {j:Nat} (hj:j=s.jY.length):(s.l8 f).nY j f'=s.l8 f':=by subst hj;simp [jz.l8,jz.nY]
theorem MD {L T:List jy} {ρ:Operand→AV} {x y:Operand} {a:Nm} {n:Nat} (ha:ix a<NN) (hl:L.length=NN) (he:L[ix a]?=some (jD [])) (hn:n≤1000) (hr:∀q,NN≤q→∀b∈L++T,kI (Nb q (ix a)) b) (KR:∀b∈L++T,kI (fun b=>b<(L++T).length) b) (hx:ρ x=.int n) (hy:ρ y=.int n) :
 PL Tryd.prog (L++T) ρ (.makeSlice 25 x y) (uw (ix a) n) (L.set (ix a) (jD (List.replicate n 0))++T):=by
 have h1:=JA (P:=Tryd.prog) (H:=L++T) (ρ:=ρ) (n:=n) (m:=n) hx hy dG ug D5 ag ae (fy _) ae ae;rw [dF] at h1;have hz:List.replicate n (AV.int 0)=(List.replicate n (0:Int)).map AV.int:=ah;rw [hz] at h1;cases n with
 | zero =>
   have h2:=PL.Kf h1 rfl KR;show PL _ _ _ _ _ (L.set (ix a) (jD [])++_);rw [FB he];exact h2
 | succ m =>
   have h2:=PL.xX h1 (p:=ix a) (blk0:=jD []) (by rw [mZ hl ha];exact he) rfl ah rE (hr _ (by simp [hl])) mI.Bv;rw [o7 hl ha] at h2;exact h2
abbrev su:jy:=⟨112,7,[]⟩
theorem Cq {P:Nat→Prop}:kI P kS:=fun e he c hc=>by
 rw [dz] at he;subst he;simp only [AV.cells,dC,dB,jd] at hc;rcases hc with rfl|rfl|rfl|rfl|rfl|rfl|rfl<;>exact .pu (.base _)
theorem J0 {P:Nat→Prop} {c:Cd} {X:jy} (hX:kI P X):∀b∈[kP c,kS,X],kI P b:=fun b hb=>by
 simp only [dC,dB,jd] at hb;rcases hb with rfl|rfl|rfl
 ·exact DY
 ·exact Cq
 ·exact hX
theorem PU {s:jz} {T:List jy} {ρ:Operand→AV} {x y:Operand} {j q n:Nat} {f:List Int×List Int} {v:Int} (hf:s.jY[j]?=some f) (hj:ix (.lg j)<NN) (hx:ρ x=.ptr (ix (.lg j)) n q 0) (hn:f.2.length=n) (hy:ρ y=.int v) (hq:q<f.2.length):PL Tryd.prog (RH s++T) ρ (.store 3 x y) .bad (RH (s.nY j (f.1,f.2.set q v))++T):=by
 have h:=xc (P:=Tryd.prog) (H:=RH s++T) (ρ:=ρ) (f:=AV.int) (l:=f.2) (b:=ix (.lg j)) (tot:=n) (i:=q) (ty:=3) (sz:=1) v hx hy (by rw [mZ (kv s) hj,nj s _ hj];simp only [blk];rw [hf]) hn hq ny rfl rfl;rw [o7 (kv s) hj] at h;rw [← ahE hf hj];exact h
theorem kY.atL {rs:List ResultVar} {n:Nat} {d:AV} {s':jz} {E:Env} {H:List jy} {vs:List AV} (T:List jy) (hw:WF s') (hv:o6 Tryd.prog ⟨E,H⟩ rs=some vs) (hH:H=RH s'++T) (hd:mL (pre NN) H (rG vs) d):kY Tryd.prog rs ⟨n,NN⟩ d (RH s') ⟨E,H⟩:=by
 have hl:=kv s';refine ⟨_,vs,pre NN,id,.refl _,hv,.pre (by rw [hH];simp [hl]) (dD _) hl fun j b1 b2 h1 h2=>?_,hd⟩;have hj:=(dt h2).1;simp only at h1;rw [hH,dA hj,h2] at h1;injection h1 with h1;subst h1;refine ⟨rfl,rfl,rfl,fun i e e2 h3 h4=>?_⟩;rw [h3] at h4;injection h4 with h4;subst h4;refine ⟨rfl,fun k c c2 h5 h6=>?_⟩;rw [h5] at h6;injection h6 with h6;subst h6;exact (rO hw b2 (dx h2) e (dx h3) c (dx h5)).tB fun b hb=>rF hb
def nJ (F:List Int) (i:Nat):List Int:=F.take i++List.replicate (F.length-i) 0
theorem L6 {F:List Int} {i:Nat} (h:i≤F.length):(nJ F i).length=F.length:=by unfold nJ;simp;omega
theorem LZ (F:List Int):nJ F 0=List.replicate F.length 0:=by simp [nJ]
theorem L7 (F:List Int):nJ F F.length=F:=by simp [nJ]
theorem Hs {F:List Int} {i:Nat} {x:Int} (h:F[i]?=some x):(nJ F i).set i x=nJ F (i+1):=by
 have hi:i<F.length:=(dt h).1;obtain ⟨m,hm⟩:∃m,F.length-i=m+1:=⟨F.length-i-1,ae⟩
 have hl:(F.take i).length=i:=dj;unfold nJ;rw [hm,show F.length-(i+1)=m by omega,eY _ _ ae,hl,eT,fQ,fV,fH,h];simp
theorem ahF {s:jz} (hw:WF s) {c:Cd} {vs:List Int} {a:Int} (nH:0≤c.vars) (lI:c.vars≤1000) (kV:(vs.length:Int)≤c.vars) (hM:s.jY.length<MM) (mh:c.steps.length≤1000) :
 jS Tryd.prog 63 [kx c,.int a,.jA (vs.map .int)] (RH s) (nD ⟨c,a,0,s.jY.length⟩) (RH (s.l8 (vs++List.replicate (c.vars.toNat-vs.length) (-1),List.replicate c.steps.length (-1)))):=by
 obtain ⟨cp,cv,cs⟩:=c;simp only at nH lI kV mh ⊢;obtain ⟨nv,rfl⟩:∃nv:Nat,cv=nv:=⟨_,(dP nH).symm⟩
 obtain ⟨J,hJ⟩:∃J,J=s.jY.length:=⟨_,rfl⟩
 have EO:J<MM:=ae;have pY:ix (.lg J)<NN:=mq EO;have pE:ix (.kz J)<NN:=mq EO;rw [← hJ,dF];have Db:(RH s)[ix (.kz J)]?=some (jD []):=by rw [nj s _ pE];simp only [blk];rw [dT ae]
 have Dc:(RH s)[ix (.lg J)]?=some (jD []):=by rw [nj s _ pY];simp only [blk];rw [dT ae]
 have lO:ix (.kz J)≠ix (.lg J):=fun e=>by have:=sg e;cases this
 obtain ⟨zv,xC⟩:∃zv,zv=jD (List.replicate nv 0):=⟨_,rfl⟩
 obtain ⟨zc,yP⟩:∃zc,zc=jD (List.replicate cs.length 0):=⟨_,rfl⟩
 have GK:∀ {P:Nat→Prop},kI P zv:=by rw [xC];exact rE
 have GL:∀ {P:Nat→Prop},kI P zc:=by rw [yP];exact rE
 obtain ⟨L1,pe⟩:∃L1,L1=(RH s).set (ix (.kz J)) zv:=⟨_,rfl⟩
 obtain ⟨L2,oC⟩:∃L2,L2=(RH s).set (ix (.lg J)) zc:=⟨_,rfl⟩
 obtain ⟨L3,qh⟩:∃L3,L3=L1.set (ix (.lg J)) zc:=⟨_,rfl⟩
 have Ia:L3=L2.set (ix (.kz J)) zv:=by rw [qh,pe,oC];exact List.set_comm _ _ lO
 have l1:L1.length=NN:=by rw [pe,qG,kv]
 have l2:L2.length=NN:=by rw [oC,qG,kv]
 have l3:L3.length=NN:=by rw [qh,qG,l1]
 have l0:(RH s).length=NN:=kv s;have q1:L1[ix (.lg J)]?=some (jD []):=by rw [pe,dS lO];exact Dc
 have q2:L2[ix (.kz J)]?=some (jD []):=by rw [oC,dS lO.symm];exact Db
 have n0:∀ {nm:Nm},¬sH s nm→∀q,NN≤q→∀b∈RH s,kI (Nb q (ix nm)) b:=fun h q hq=>Qi hw h hq;have n1:∀ {nm:Nm},¬sH s nm→∀q,NN≤q→∀b∈L1,kI (Nb q (ix nm)) b:=fun h q hq=>by rw [pe];exact yx (n0 h q hq) GK
 have n2:∀ {nm:Nm},¬sH s nm→∀q,NN≤q→∀b∈L2,kI (Nb q (ix nm)) b:=fun h q hq=>by rw [oC];exact yx (n0 h q hq) GL
 have m0:∀b∈RH s,kI (·<NN) b:=rO hw;have m1:∀b∈L1,kI (·<NN) b:=by rw [pe];exact yx m0 GK
 have m2:∀b∈L2,kI (·<NN) b:=by rw [oC];exact yx m0 GL
 have dv:¬sH s (.kz J):=by show ¬J<_;omega
 have dc:¬sH s (.lg J):=by show ¬J<_;omega
 have AW:∀(L:List jy) (X:jy) (ρ:Operand→AV) (x y:Operand),L.length=NN→L[ix (.kz J)]?=some (jD [])→(∀q,NN≤q→∀b∈L,kI (Nb q (ix (.kz J))) b)→(∀b∈L,kI (·<NN) b)→(∀ {P:Nat→Prop},kI P X)→ρ x=.int nv→ρ y=.int nv→PL Tryd.prog (L++[kP ⟨cp,nv,cs⟩,kS,X]) ρ (.makeSlice 25 x y) (uw (ix (.kz J)) nv) (L.set (ix (.kz J)) zv++[kP ⟨cp,nv,cs⟩,kS,X]):=fun L X ρ x y hl he hn hm hX h1 h2=>by
  rw [xC];exact MD pE hl he ae (fun q hq=>vZ (hn q hq) (J0 hX)) (vZ (fun b hb=>(hm b hb).mono fun i hi=>dq) (J0 hX)) h1 h2
 have AX:∀(L:List jy) (X:jy) (ρ:Operand→AV) (x y:Operand),L.length=NN→L[ix (.lg J)]?=some (jD [])→(∀q,NN≤q→∀b∈L,kI (Nb q (ix (.lg J))) b)→(∀b∈L,kI (·<NN) b)→(∀ {P:Nat→Prop},kI P X)→ρ x=.int cs.length→ρ y=.int cs.length→PL Tryd.prog (L++[kP ⟨cp,nv,cs⟩,kS,X]) ρ (.makeSlice 25 x y) (uw (ix (.lg J)) cs.length) (L.set (ix (.lg J)) zc++[kP ⟨cp,nv,cs⟩,kS,X]):=fun L X ρ x y hl he hn hm hX h1 h2=>by
  rw [yP];exact MD pY hl he ae (fun q hq=>vZ (hn q hq) (J0 hX)) (vZ (fun b hb=>(hm b hb).mono fun i hi=>dq) (J0 hX)) h1 h2
 have sQ:L3=RH (s.l8 (List.replicate nv 0,List.replicate cs.length 0)):=by
  rw [qh,pe,xC,yP];exact U1 (f:=(List.replicate nv 0,List.replicate cs.length 0)) hJ pE pY
 have Eh:=Hid.mk pe;have Ei:=Hid.mk oC;have F5:=Hid.mk qh;have F6:=Hid.mk Ia;have J1:=Hid.mk sQ;have BT:=Hid.mk hJ;have QI:=Hid.mk xC;have QJ:=Hid.mk yP;clear pe oC qh Ia sQ hJ xC yP;refine jS.i2 [(0,kx ⟨cp,nv,cs⟩),(1,.int a),(2,.jA (vs.map .int))] 3 55 NN Tryd.func63 (kv s) ?_;refine jG.seq ?_;refine jG.join ⟨[(3,.ptr NN 1 0 0),(6,.ptr (NN+1) 1 0 0),(1,.int a),(2,.jA (vs.map .int))],RH s++[kP ⟨cp,nv,cs⟩,kS]⟩ ?_ ?_
 ·with_reducible apply zR
  ·refine ⟨rfl,rfl,?_⟩;simp +decide only [go_sem,List.map];rfl
  refine jB.p1 (v:=.ptr NN 1 0 0) (H':=RH s++[kP ⟨cp,nv,cs⟩]) rfl rfl (by
   have h:=xW (P:=Tryd.prog) (H:=RH s) (ρ:=ev [(0,kx ⟨cp,nv,cs⟩),(1,AV.int a),(2,.jA (vs.map .int))]) (el:=68) (x:=.tmp 0) (v:=kx ⟨cp,nv,cs⟩) rfl rfl;rw [kv] at h;exact h) ?_
  refine jB.p1 (v:=.ptr (NN+1) 1 0 0) (H':=RH s++[kP ⟨cp,nv,cs⟩,kS]) rfl rfl (by
   have h:=wD (P:=Tryd.prog) (ρ:=ev (mF [(0,kx ⟨cp,nv,cs⟩),(1,AV.int a),(2,.jA (vs.map .int))] (some 3) (.ptr NN 1 0 0))) (H:=RH s++[kP ⟨cp,nv,cs⟩]) (el:=112) DV rfl;have e:(RH s++[kP ⟨cp,nv,cs⟩]).length=NN+1:=cV;rw [e,eA] at h;exact h) ?_
  refine jx ?_;exact .wf
 refine jx ?_;refine jG.weaken (s2:=⟨[(3,.ptr NN 1 0 0),(6,.ptr (NN+1) 1 0 0),(1,.int a),(2,.jA (vs.map .int))],RH s++[kP ⟨cp,nv,cs⟩,kS,su]⟩) ((Wk.wf (E2:=[(3,.ptr NN 1 0 0),(6,.ptr (NN+1) 1 0 0),(1,.int a),(2,.jA (vs.map .int))]) (H2:=RH s++[kP ⟨cp,nv,cs⟩,kS])).trans (by
  have h:=Wk.pad (n:=⟨55,NN⟩) (E:=[(3,.ptr NN 1 0 0),(6,.ptr (NN+1) 1 0 0),(1,.int a),(2,.jA (vs.map .int))]) (H:=RH s++[kP ⟨cp,nv,cs⟩,kS]) (by
   intro q hq;simp only [dC,dB,jd] at hq;rcases hq with rfl|rfl|rfl|rfl<;>exact Le.refl _) [su] ah
  rw [eA] at h;exact h)) ?_
 refine IB (k:=11) [none,none,none,none,some 0,none,none,none,some 1,none,some 2] [[0,1,2,3,4,5,6,7],[0,1,2,3,4,5,6,7],[0,1,2,3,4,5,6,7],[0,2,4,6],[0,2,4,6],[0,1,2,3,4,5,6,7],[0,1,2,3,4,5,6,7],[0,1,4,5],[0,1,4,5],[3,7],[0,1,2,3]] (fun S=>match S with
  | 0=>RH s++[kP ⟨cp,nv,cs⟩,kS,su]
  | 1=>L1++[kP ⟨cp,nv,cs⟩,kS,su]
  | 2=>L2++[kP ⟨cp,nv,cs⟩,kS,su]
  | 3=>L3++[kP ⟨cp,nv,cs⟩,kS,su]
  | 4=>RH s++[kP ⟨cp,nv,cs⟩,kS,kS]
  | 5=>L1++[kP ⟨cp,nv,cs⟩,kS,kS]
  | 6=>L2++[kP ⟨cp,nv,cs⟩,kS,kS]
  | _=>L3++[kP ⟨cp,nv,cs⟩,kS,kS]) 3 follows ?_
 repeat refine gM ?_
 refine nA.p1 (v:=uw (ix (.kz J)) nv) rfl rfl (fun S hS kB h=>by
  have hx:kB (.tmp 13)=.int nv:=(h (.tmp 13) au).trans rfl;simp only [dC,dB,jd] at hS;rcases hS with rfl|rfl|rfl|rfl
  ·have h1:=AW (RH s) su kB (.tmp 13) (.tmp 13) l0 Db (n0 dv) m0 .nil hx hx;rw [← Eh.out] at h1;exact h1
  ·have h1:=AW L2 su kB (.tmp 13) (.tmp 13) l2 q2 (n2 dv) m2 .nil hx hx;rw [← F6.out] at h1;exact h1
  ·have h1:=AW (RH s) kS kB (.tmp 13) (.tmp 13) l0 Db (n0 dv) m0 Cq hx hx;rw [← Eh.out] at h1;exact h1
  ·have h1:=AW L2 kS kB (.tmp 13) (.tmp 13) l2 q2 (n2 dv) m2 Cq hx hx;rw [← F6.out] at h1;exact h1) ?_
 repeat refine gM ?_
 refine nA.p1 (v:=uw (ix (.lg J)) cs.length) rfl rfl (fun S hS kB h=>by
  have hx:kB (.tmp 17)=.int cs.length:=(h (.tmp 17) au).trans rfl;simp only [dC,dB,jd] at hS;rcases hS with rfl|rfl|rfl|rfl
  ·have h1:=AX (RH s) su kB (.tmp 17) (.tmp 17) l0 Dc (n0 dc) m0 .nil hx hx;rw [← Ei.out] at h1;exact h1
  ·have h1:=AX L1 su kB (.tmp 17) (.tmp 17) l1 q1 (n1 dc) m1 .nil hx hx;rw [← F5.out] at h1;exact h1
  ·have h1:=AX (RH s) kS kB (.tmp 17) (.tmp 17) l0 Dc (n0 dc) m0 Cq hx hx;rw [← Ei.out] at h1;exact h1
  ·have h1:=AX L1 kS kB (.tmp 17) (.tmp 17) l1 q1 (n1 dc) m1 Cq hx hx;rw [← F5.out] at h1;exact h1) ?_
 refine nA.q1 (v:=.agg [.int cp,.int nv,.jA (cs.map ki),.int a,.int 0,uw (ix (.kz J)) nv,uw (ix (.lg J)) cs.length]) rfl rfl (fun S _=>DN WY DV (by
  simp +decide only [List.map,go_sem];cases nv<;>cases cs.length<;>rfl)) ?_
 refine nA.p1 (v:=.ptr (NN+2) 1 0 0) rfl rfl (fun S hS kB h=>by
  have key:∀L:List jy,L.length=NN→PL Tryd.prog (L++[kP ⟨cp,nv,cs⟩,kS,su]) kB (.alloc 112) (.ptr (NN+2) 1 0 0) (L++[kP ⟨cp,nv,cs⟩,kS,kS]):=fun L hl=>by
   have h1:=T8 (P:=Tryd.prog) (ρ:=kB) (H:=L++[kP ⟨cp,nv,cs⟩,kS,su]) (b:=NN+2) (blk0:=su) (el:=112) (by rw [vx hl];rfl) rfl DV rfl az;rw [wE hl] at h1;exact h1
  simp only [dC,dB,jd] at hS;rcases hS with rfl|rfl|rfl|rfl
  ·exact key _ l0
  ·exact key _ l1
  ·exact key _ l2
  ·exact key _ l3) ?_
 refine nA.nil ?_;show jB _ _ _ _ _ ⟨_,L3++[kP ⟨cp,nv,cs⟩,kS,kS]⟩;rw [J1.out];refine jB.p2 (qc (T:=[kP ⟨cp,nv,cs⟩,kS,kS]) (q:=2) (l:=⟨⟨cp,nv,cs⟩,a,0,J⟩) rfl rfl rfl) ?_;show jB _ _ _ _ _ ⟨_,RH (s.l8 (List.replicate nv 0,List.replicate cs.length 0))++[kP ⟨cp,nv,cs⟩,kS,kj ⟨⟨cp,nv,cs⟩,a,0,J⟩]⟩;obtain ⟨T,hT⟩:∃T,T=[kP ⟨cp,nv,cs⟩,kS,kj ⟨⟨cp,nv,cs⟩,a,0,J⟩]:=⟨_,rfl⟩
 obtain ⟨F,hF⟩:∃F,Hid (F=vs++List.replicate (nv-vs.length) (-1)):=⟨_,⟨rfl⟩⟩
 obtain ⟨G,hG⟩:∃G:List Int,Hid (G=List.replicate cs.length (-1)):=⟨_,⟨rfl⟩⟩
 have KS:F.length=nv:=by rw [hF.out];simp;omega
 have KT:G.length=cs.length:=by rw [hG.out];simp
 rw [← hF.out,← hG.out];have xI:List.replicate nv 0=nJ F 0:=by rw [LZ,KS]
 have wZ:List.replicate cs.length 0=nJ G 0:=by rw [LZ,KT]
 rw [xI,wZ];have Dd:Hid (J=s.jY.length):=BT;have kX:∀f:List Int×List Int,(s.l8 f).jY[J]?=some f:=fun f=>by rw [Dd.out];exact FA
 have mg:∀f:List Int×List Int,WF (s.l8 f):=fun f=>hw.l8 hM;have yK:((nv:Nat):Int).toNat=nv:=dF nv;clear hT T;clear xI wZ Eh Ei F5 F6 J1 BT QI QJ AW AX n0 n1 n2 m0 m1 m2 q1 q2 l0 l1 l2 l3 GK GL Db Dc lO;refine jx ?_;refine jG.loop (J:=fun i:Nat=>i≤nv) (fun i=>⟨[(2,.jA (vs.map .int)),(6,.ptr (NN+1) 1 0 0),(7,.ptr (NN+2) 1 0 0),(8,.int i)],RH (s.l8 (nJ F i,nJ G 0))++[kP ⟨cp,nv,cs⟩,kS,kj ⟨⟨cp,nv,cs⟩,a,0,J⟩]⟩) (fun i=>nv-i) 0 (dL _) .wf ?_;rintro i hi;obtain ⟨V,hV⟩:∃V,V=nJ F i:=⟨_,rfl⟩
 obtain ⟨si,pv⟩:∃si,si=s.l8 (V,nJ G 0):=⟨_,rfl⟩
 rw [← hV,← pv];have sV:V.length=nv:=by rw [hV,L6 ae,KS]
 have tS:si.jY[J]?=some (V,nJ G 0):=by rw [pv];exact kX _
 have nr:WF si:=by rw [pv];exact mg _
 have sW:=ME (H:=RH si++[kP ⟨cp,nv,cs⟩,kS,kj ⟨⟨cp,nv,cs⟩,a,0,J⟩]) (b:=ix (.kz J)) (l:=V) (n:=nv) (by rw [mZ (kv si) pE,nj _ _ pE];simp only [blk];rw [tS]) sV;simp +decide only [go_sem] at sW;have De:=Hid.mk hV;have wg:=Hid.mk pv;clear hV pv;refine jx ?_;by_cases hd:i<nv
 ·have kb:decide ((i:Int)<(nv:Int))=true:=jf ae;obtain ⟨y,hy⟩:∃y,V[i]?=some y:=⟨_,dy ae⟩
  have xJ:V[i]?=some y∧V.length=nv:=⟨hy,sV⟩
  obtain ⟨u1,tT⟩:∃u1,u1=si.nY J (V.set i (-1),nJ G 0):=⟨_,rfl⟩
  have xz:u1.jY[J]?=some (V.set i (-1),nJ G 0):=by rw [tT];exact Cr tS
  have Kh:u1=s.l8 (V.set i (-1),nJ G 0):=by rw [tT,wg.out,Hr Dd.out]
  have KU:(V.set i (-1))[i]?=some (-1)∧(V.set i (-1)).length=nv:=⟨ee ae,by rw [dW,sV]⟩
  have F7:=Hid.mk tT;have J2:=Hid.mk Kh;clear tT Kh;refine j8 ?_ rfl aa;refine jx ?_;refine jB.p2 (FO (f:=(V,nJ G 0)) (q:=i) (n:=nv) (v:=-1) tS pE aa sV aa (by show i<V.length;omega)) ?_;rw [← F7.out];clear sW xJ;refine jx ?_;by_cases hg:i<vs.length
  ·have mo:decide ((i:Int)<(vs.length:Int))=true:=jf ae;have tP:nth 0 vs (i:Int)=vs[i]:=uP hg;have Df:F[i]?=some vs[i]:=by rw [hF.out,dA hg,dy hg]
   have e:u1.nY J ((V.set i (-1)).set i vs[i],nJ G 0)=s.l8 (nJ F (i+1),nJ G 0):=by
    rw [J2.out,Hr Dd.out,List.set_set,De.out,Hs Df]
   generalize vs[i]=x at tP Df e;refine j8 ?_ mo rfl;refine jx ?_;refine mi (k:=7) follows (hr:=?_);refine jx ?_;refine jB.p2 (FO (f:=(V.set i (-1),nJ G 0)) (q:=i) (n:=nv) (v:=x) xz pE aa KU.2 aa (by rw [KU.2];exact hd)) ?_;rw [e];refine jx ?_;rw [l6 ae];exact ⟨i+1,ae,ae,.wf⟩
  ·have mo:decide ((i:Int)<(vs.length:Int))=false:=je ae;have Df:F[i]?=some (-1):=by
    rw [hF.out,dJ ae,fk,ja ae]
   have e:u1=s.l8 (nJ F (i+1),nJ G 0):=by
    rw [J2.out,De.out,Hs Df]
   refine jK ?_ mo rfl;rw [e];refine jx ?_;rw [l6 ae];exact ⟨i+1,ae,ae,.wf⟩
 have kb:decide ((i:Int)<(nv:Int))=false:=je ae;have KV:V=F:=by rw [De.out,show i=F.length by omega,L7]
 refine jK ?_ rfl aa;refine jx ?_;rw [wg.out,KV];clear sW tS nr De wg KV sV hi hd kb;refine jG.loop (J:=fun i:Nat=>i≤cs.length) (fun i=>⟨[(6,.ptr (NN+1) 1 0 0),(7,.ptr (NN+2) 1 0 0),(9,.int i)],RH (s.l8 (F,nJ G i))++[kP ⟨cp,nv,cs⟩,kS,kj ⟨⟨cp,nv,cs⟩,a,0,J⟩]⟩) (fun i=>cs.length-i) 0 (dL _) .wf ?_;rintro i hi;obtain ⟨V,hV⟩:∃V,Hid (V=nJ G i):=⟨_,⟨rfl⟩⟩
 obtain ⟨si,pv⟩:∃si,Hid (si=s.l8 (F,V)):=⟨_,⟨rfl⟩⟩
 rw [← hV.out,← pv.out];have sV:V.length=cs.length:=by rw [hV.out,L6 ae,KT]
 have tS:si.jY[J]?=some (F,V):=by rw [pv.out];exact kX _
 have nr:WF si:=by rw [pv.out];exact mg _
 have sW:=ME (H:=RH si++[kP ⟨cp,nv,cs⟩,kS,kj ⟨⟨cp,nv,cs⟩,a,0,J⟩]) (b:=ix (.lg J)) (l:=V) (n:=cs.length) (by rw [mZ (kv si) pY,nj _ _ pY];simp only [blk];rw [tS]) sV;simp +decide only [go_sem] at sW;refine jx ?_;by_cases hd:i<cs.length
 ·have kb:decide ((i:Int)<(cs.length:Int))=true:=jf ae;obtain ⟨y,hy⟩:∃y,V[i]?=some y:=⟨_,dy ae⟩
  have xJ:V[i]?=some y∧V.length=cs.length:=⟨hy,sV⟩
  have GM:G[i]?=some (-1):=by rw [hG.out,fk,ja hd]
  have e:si.nY J (F,V.set i (-1))=s.l8 (F,nJ G (i+1)):=by rw [pv.out,Hr Dd.out,hV.out,Hs GM]
  refine j8 ?_ rfl aa;refine jx ?_;refine jB.p2 (PU (f:=(F,V)) (q:=i) (n:=cs.length) (v:=-1) tS pY aa sV aa (by show i<V.length;omega)) ?_;rw [e];clear sW xJ;refine jx ?_;rw [l6 ae];exact ⟨i+1,ae,ae,.wf⟩
 have kb:decide ((i:Int)<(cs.length:Int))=false:=je ae;have R6:V=G:=by rw [hV.out,show i=G.length by omega,L7]
 refine jK ?_ rfl aa;refine jx ?_;refine jB.p2 (qc (T:=[kP ⟨cp,nv,cs⟩,kS,kj ⟨⟨cp,nv,cs⟩,a,0,J⟩]) (q:=1) (l:=⟨⟨cp,nv,cs⟩,a,0,J⟩) aa aa rfl) ?_;show jB _ _ _ _ _ ⟨_,RH si++[kP ⟨cp,nv,cs⟩,kj ⟨⟨cp,nv,cs⟩,a,0,J⟩,kj ⟨⟨cp,nv,cs⟩,a,0,J⟩]⟩;have e:si=s.l8 (F,G):=by rw [pv.out,R6]
 rw [e];refine jx ?_;have kn:=fun b (hb:b<NN)=>rF hb;exact kY.atL [kP ⟨cp,nv,cs⟩,kj ⟨⟨cp,nv,cs⟩,a,0,J⟩,kj ⟨⟨cp,nv,cs⟩,a,0,J⟩] (mg _) (vs:=[nD ⟨⟨cp,nv,cs⟩,a,0,J⟩]) (by show o6 _ _ [.cell 6 112]=_;simp +decide only [o6,xV,zx,uB,go_sem, *]<;>rfl) rfl (.F2 ⟨.pu (.base _),.pu (.base _),.pu (zl _),.pu (.base _),.pu (.base _),(DQ (S:=(·<NN)) pE).tB kn,(DQ (S:=(·<NN)) pY).tB kn,trivial⟩)
def KW (s:jz):Nm→Prop
 | .lU k=>∃t,s.tasks[k]?=some t∧t.kids≠[]
 | .kg k=>∃t,s.tasks[k]?=some t∧t.turns≠[]
 | a=>sH s a
def Ud (s:jz) (b:Nat):Prop:=∃a,KW s a∧b=ix a
theorem ajV {s:jz} {a:Nm} (h:KW s a):sH s a:=by
 cases a<;>first|exact h|(obtain ⟨t,ht,_⟩:=h;exact (dt ht).1)
theorem Ud.lt {s:jz} (hw:WF s) {b:Nat} (h:Ud s b):b<NN:=by
 obtain ⟨a,hd,rfl⟩:=h;exact mq (tY hw (ajV hd))
theorem U2 {S:Nat→Prop} {k:Nat} {t:km} (h1:S (ix (.jH k))) (h2:t.kids≠[]→S (ix (.lU k))) (h3:t.turns≠[]→S (ix (.kg k))):∀c∈(oI k t).cells,mR S c:=fun c hc=>by
 simp only [AV.cells,dC,dB,jd] at hc;rcases hc with rfl|rfl|rfl|rfl|rfl|rfl|rfl|rfl|rfl|rfl|rfl
 ·exact .own h1
 ·exact .pu (.base _)
 ·exact .pu (.base _)
 ·exact .pu (.base _)
 ·exact .pu (.base _)
 ·exact .pu (.base _)
 ·exact .pu (.base _)
 ·exact .pu (.base _)
 ·exact .pu (.base _)
 ·cases hk:t.kids with
  | nil=>exact .pu (.base _)
  | cons a l=>exact .own (h2 (by rw [hk];simp))
 ·cases hk:t.turns with
  | nil=>exact .pu (.base _)
  | cons a l=>exact .own (h3 (by rw [hk];simp))
theorem ajW {s:jz} (hw:WF s) (a:Nm):kI (Ud s) (blk s a):=by
 have hi:∀l:List Int,kI (Ud s) (jD l):=fun l=>rE;cases a with
 | rn =>
   refine .one fun c hc=>?_;simp only [dC,dB,jd] at hc;rcases hc with rfl|rfl|rfl|rfl|rfl|rfl|rfl|rfl|rfl|rfl|rfl|rfl
   ·exact .pu ah
   ·exact .pu ah
   ·exact .pu (.base _)
   ·exact .own ⟨.tk,trivial,rfl⟩
   ·exact .own ⟨.ob,trivial,rfl⟩
   ·exact .own ⟨.ck,trivial,rfl⟩
   ·exact .own ⟨.ln,trivial,rfl⟩
   ·exact .own ⟨.ac,trivial,rfl⟩
   ·exact .own ⟨.tn,trivial,rfl⟩
   ·exact .own ⟨.at',trivial,rfl⟩
   ·exact .own ⟨.en,trivial,rfl⟩
   ·exact .pu (.base _)
 | tk =>
   intro e he c hc;simp only [blk,uI] at he;obtain ⟨k,hk⟩:=eC he;rw [fh] at hk;cases ht:s.tasks[k]? with
   | none=>rw [ht] at hk;cases hk
   | some t =>
     rw [ht] at hk;have hl:k<s.tasks.length:=(dt ht).1;injection hk with hk;subst hk;exact U2 ⟨.jH k,hl,rfl⟩ (fun h=>⟨.lU k,⟨t,ht,h⟩,rfl⟩) (fun h=>⟨.kg k,⟨t,ht,h⟩,rfl⟩) c hc
 | ln =>
   exact .map fun x _ c hc=>bj
 | ac =>
   exact .map fun x _ c hc=>by
    simp only [oJ,AV.cells,dC,dB,jd] at hc;rcases hc with rfl|rfl|rfl|rfl<;>exact .pu (.base _)
 | en =>
   exact .map fun x _ c hc=>by
    simp only [qH,AV.cells,dC,dB,jd] at hc;rcases hc with rfl|rfl<;>exact .pu (.base _)
 | jH k =>
   simp only [blk];split
   ·rename_i t ht;refine .map fun l hl c hc=>?_;obtain ⟨f,hf,_⟩:=(hw.lv t (dx ht)).2.2.2.2 l hl;have hj:l.fr<s.jY.length:=(dt hf).1;exact HD (S:=Ud s) ⟨.kz l.fr,hj,rfl⟩ ⟨.lg l.fr,hj,rfl⟩ c hc
   ·exact .nil
 | lU k=>simp only [blk];split<;>exact hi _
 | kg k=>simp only [blk];split<;>exact hi _
 | lg k=>simp only [blk];split<;>exact hi _
 | kz k=>simp only [blk];split<;>exact hi _
 | _=>exact hi _
theorem Wq {s:jz} (hw:WF s) {a:Nm} (ha:¬KW s a) {q:Nat} (hq:NN≤q):∀b∈RH s,kI (Nb q (ix a)) b:=fun b hb=>by
 unfold RH hp at hb;obtain ⟨i,_,rfl⟩:=eI.1 hb;exact (ajW hw _).mono fun i hi=>⟨fun e=>by obtain ⟨a',h1,h2⟩:=hi;rw [e] at h2;rw [sg h2] at ha;exact ha h1,by have:=hi.lt hw;omega⟩
theorem amV {s:jz} {k:Nat} {t:km} (ht:s.tasks[k]?=some t) (h:t.kids=[]):¬KW s (.lU k):=by
 rintro ⟨u,hu,h2⟩;rw [ht] at hu;injection hu with hu;subst hu;exact h2 h
theorem amW {s:jz} {k:Nat} {t:km} (ht:s.tasks[k]?=some t) (h:t.turns=[]):¬KW s (.kg k):=by
 rintro ⟨u,hu,h2⟩;rw [ht] at hu;injection hu with hu;subst hu;exact h2 h
theorem ahG {k:Nat} {l:List Int} {x:Int}:CP k (l++[x])=.own (ix (.kg k)) (l.length+1) 0 (l.length+1):=by
 cases l with
 | nil=>rfl
 | cons a l=>simp [CP]
theorem Vz {s:jz} {a:Nm} {l:List Int} {x:Int} (ha:ix a<NN) (hb:(RH s)[ix a]?=some (jD l)) (hl:l.length≤10000000) (hn:l=[]→∀q,NN≤q→∀b∈RH s,kI (Nb q (ix a)) b) {T:List jy} (hT:∀q,NN≤q→q=NN+T.length→∀b∈T,kI (Nb q (ix a)) b) {ρ:Operand→AV} {y z:Operand} (ED:l=[]→ρ y=kD) (Nw:l≠[]→ρ y=.own (ix a) l.length 0 l.length) (hz:ρ z=.jA [.int x]) :
 PL Tryd.prog (RH s++T) ρ (.call { callee:=.builtin .append,args:=#[y,z],argTypes:=#[25,25] }) (.own (ix a) (l.length+1) 0 (l.length+1)) ((RH s).set (ix a) (jD (l++[x]))++T):=by
 cases hk:l with
 | nil =>
   rw [hk] at hb;have h1:=OC (P:=Tryd.prog) (H:=RH s++T) (es:=[.int x]) (ED hk) hz dG ug (fun e he=>aw) ah ah;have h2:=PL.xX h1 (p:=ix a) (blk0:=jD []) (by rw [mZ (kv s) ha];exact hb) rfl ah (fun e he c hc=>by
    rw [dz] at he;subst he;simp only [AV.cells,dz] at hc;subst hc;exact .pu (.base _)) (vZ (hn hk _ cV) (hT _ cV cV)) mI.Bv
   rw [o7 (kv s) ha] at h2;exact h2
 | cons c l' =>
   have h1:=Ao (H:=RH s++T) (ρ:=ρ) (b:=ix a) (l:=l) (v:=x) (Nw (by rw [hk];simp)) hz (by rw [mZ (kv s) ha];exact hb) hl;rw [o7 (kv s) ha] at h1;rw [← hk];exact h1
theorem amX {s:jz} {k:Nat} {t:km} {x:Int} (ht:s.tasks[k]?=some t) (hk:ix (.lU k)<NN):((RH s).set (ix (.lU k)) (jD (t.kids++[x]))).set (ix .tk) ⟨94,11,(uI s.tasks).set k (oI k { t with kids:=t.kids++[x] })⟩=RH (s.jF k { t with kids:=t.kids++[x] }):=by
 refine vz (s:=s) (s':=s.jF k { t with kids:=t.kids++[x] }) [(.lU k,_),(.tk,_)] (vF ⟨hk,bm⟩ ⟨sj,by rw [JC];rfl⟩) fun a ha=>?_;simp only [ef,ez,dC,dB,jd,jl] at ha;by_cases e2:a=.jH k
 ·subst e2;simp only [blk];rw [lq ht,ht]
 by_cases e4:a=.kg k
 ·subst e4;simp only [blk];rw [lq ht,ht]
 exact FC ha.2 e2 ha.1 e4
theorem amY {s:jz} {k:Nat} {t:km} {x:Int} (ht:s.tasks[k]?=some t) (hk:ix (.kg k)<NN):((RH s).set (ix (.kg k)) (jD (t.turns++[x]))).set (ix .tk) ⟨94,11,(uI s.tasks).set k (oI k { t with turns:=t.turns++[x] })⟩=RH (s.jF k { t with turns:=t.turns++[x] }):=by
 refine vz (s:=s) (s':=s.jF k { t with turns:=t.turns++[x] }) [(.kg k,_),(.tk,_)] (vF ⟨hk,bm⟩ ⟨sj,by rw [JC];rfl⟩) fun a ha=>?_;simp only [ef,ez,dC,dB,jd,jl] at ha;by_cases e2:a=.jH k
 ·subst e2;simp only [blk];rw [lq ht,ht]
 by_cases e3:a=.lU k
 ·subst e3;simp only [blk];rw [lq ht,ht]
 exact FC ha.2 e2 e3 ha.1
theorem amZ {s:jz} (hw:WF s) {c:Cd} {vs:List Int} {a:Int} (nH:0≤c.vars) (lI:c.vars≤1000) (kV:(vs.length:Int)≤c.vars) (hM:s.jY.length<MM) (mh:c.steps.length≤1000) {T:List jy} {ρ:Operand→AV} {cl:Call} {fx:Operand} (h1:cl.callee=.value fx) (h2:ρ fx=.j9 63 []) (h3:cl.args.toList.map ρ++[]=[kx c,.int a,.jA (vs.map .int)]) :
 PL Tryd.prog (RH s++T) ρ (.call cl) (nD ⟨c,a,0,s.jY.length⟩) (RH (s.l8 (vs++List.replicate (c.vars.toNat-vs.length) (-1),List.replicate c.steps.length (-1)))++T):=by
 have lj:WF (s.l8 (vs++List.replicate (c.vars.toNat-vs.length) (-1),List.replicate c.steps.length (-1))):=hw.l8 hM;have rW:∀b,b<NN→ro (List.range NN) b=some b:=fun b hb=>bo;refine zg (ahF hw nH lI kV hM mh) (.pre (kv s) (kv _) (rO hw) (rO lj)) h1 h2 (by
  rw [h3];exact ⟨.pu (Cp c),.pu (.base _),.pu (l7 _),trivial⟩) (Mx (x:=⟨c,a,0,s.jY.length⟩) (mq hM) (mq hM) fun b hb=>Cj hb)
def mN (c:Cd) (j:Nat) (prio par:Int) (canc:Bool):km:=⟨[⟨c,-1,0,j⟩],1,prio,par,canc,1,false,false,-1,-1,[],[]⟩
def jz.lJ (s:jz) (t:km):jz:={ s with tasks:=s.tasks++[t] }
theorem Ct {s:jz} {t:km}:(s.lJ t).tasks[s.tasks.length]?=some t:=by simp [jz.lJ]
theorem Cl {s:jz} {t:km} {k:Nat} (h:k<s.tasks.length):(s.lJ t).tasks[k]?=s.tasks[k]?:=by
 unfold jz.lJ;simp only;exact dA h
theorem OX {s:jz} {t:km} {k:Nat} (h:s.tasks.length<k):(s.lJ t).tasks[k]?=none∧s.tasks[k]?=none:=by
 unfold jz.lJ;simp only;exact ⟨dT aj,dT ae⟩
theorem ajX {s:jz} {t:km} {k:Nat} (hk:k=s.tasks.length) (h1:ix (.jH k)<NN) (h2:t.kids=[]) (h3:t.turns=[]):(((RH s).set (ix (.jH k)) (tt t.jH)).set (ix .tk) (qB (s.tasks++[t]))).set (ix .rn) (lE (s.lJ t))=RH (s.lJ t):=by
 subst hk;refine vz (s:=s) (s':=s.lJ t) [(.jH s.tasks.length,_),(.tk,_),(.rn,_)] (fun p hp=>?_) fun a ha=>?_
 ·simp only [dC,dB,jd] at hp;rcases hp with rfl|rfl|rfl
  ·exact ⟨h1,by simp only [blk];rw [Ct]⟩
  ·exact ⟨sj,rfl⟩
  ·exact ⟨mc,rfl⟩
 ·simp only [ef,ez,dC,dB,jd,jl] at ha;have key:∀j:Nat,j<s.tasks.length∨j=s.tasks.length∨s.tasks.length<j:=fun j=>ae;cases a with
  | tk=>exact absurd rfl ha.2.1
  | rn=>exact absurd rfl ha.2.2
  | jH j =>
    simp only [blk];rcases key j with h|h|h
    ·rw [Cl h]
    ·subst h;exact absurd rfl ha.1
    ·obtain ⟨e1,e2⟩:=OX (t:=t) h;rw [e1,e2]
  | lU j =>
    simp only [blk];rcases key j with h|h|h
    ·rw [Cl h]
    ·subst h;rw [Ct,dT (dD _)];simp only [h2]
    ·obtain ⟨e1,e2⟩:=OX (t:=t) h;rw [e1,e2]
  | kg j =>
    simp only [blk];rcases key j with h|h|h
    ·rw [Cl h]
    ·subst h;rw [Ct,dT (dD _)];simp only [h3]
    ·obtain ⟨e1,e2⟩:=OX (t:=t) h;rw [e1,e2]
  | _=>rfl
theorem Fo.lJ {s:jz} (h:Fo s) {t:km} (h0:s.tasks.length<32) (h1:R7 (s.tasks.length+1) s.tasks.length t) (h2:t.jH.length≤1000∧t.kids.length≤1000∧t.turns.length≤1000000) (h3:∀l∈t.jH,XB s l):Fo (s.lJ t):=by
 have hl:(s.lJ t).tasks.length=s.tasks.length+1:=by simp [jz.lJ]
 refine ⟨⟨by rw [hl];omega,h.wf.nF,fun u hu=>?_,h.wf.sz⟩,fun k u hu=>?_⟩
 ·rcases eg.1 hu with hu|hu
  ·exact h.wf.lv u hu
  ·rw [dz] at hu;subst hu;exact ⟨h1.pos.2,h2.1,h2.2.1,h2.2.2,h3⟩
 ·rw [hl];have hk:k<s.tasks.length+1:=by rw [← hl];exact (dt hu).1
  by_cases e:k<s.tasks.length
  ·rw [Cl e] at hu;have g:=h.tk k u hu;exact ⟨g.par,fun c hc=>by obtain ⟨j,a1,a2,a3⟩:=g.kids c hc;exact ⟨j,a1,a2,ae⟩,g.pos,g.pF,g.GN⟩
  ·have e:k=s.tasks.length:=ae;subst e;rw [Ct] at hu;injection hu with hu;subst hu;exact h1
def qj (c:Cd) (gv:List Int):List Int×List Int:=(gv++List.replicate (c.vars.toNat-gv.length) (-1),List.replicate c.steps.length (-1))
def qm (s:jz) (c:Cd) (prio par:Int) (gv:List Int):jz:=
 if 0≤par then ((s.l8 (qj c gv)).lJ (mN c s.jY.length prio par (jJ s par.toNat).canc)).jF par.toNat { jJ s par.toNat with kids:=(jJ s par.toNat).kids++[(s.tasks.length:Int)] }
 else (s.l8 (qj c gv)).lJ (mN c s.jY.length prio par false)
theorem VA {s:jz} (h:Fo s) {c:Cd} {prio par:Int} {gv:List Int} (nH:0≤c.vars) (lI:c.vars≤1000) (kV:(gv.length:Int)≤c.vars) (hM:s.jY.length<MM) (mh:c.steps.length≤1000) (rX:s.tasks.length<32) (hp:par = -1∨∃p:Nat,par=(p:Int)∧p<s.tasks.length∧(jJ s p).kids.length≤900) (b:Bool):Fo ((s.l8 (qj c gv)).lJ (mN c s.jY.length prio par b)):=by
 have h1:Fo (s.l8 (qj c gv)):=h.l8 hM;have hlen:(s.l8 (qj c gv)).tasks.length=s.tasks.length:=rfl;refine h1.lJ (by rw [hlen];exact rX) ⟨?_,fun x hx=>(by cases hx),⟨Nat.one_pos,dD _⟩,fun l hl=>?_,fun e=>?_⟩ ⟨by show 1≤1000;omega,by show 0≤1000;omega,by show 0≤1000000;omega⟩ fun l hl=>?_
 ·rcases hp with e|⟨p,e,h2,_⟩
  ·exact .inl e
  ·exact .inr ⟨p,e,by rw [hlen];exact h2⟩
 ·rw [show (mN c s.jY.length prio par b).jH=[⟨c,-1,0,s.jY.length⟩] from rfl,dz] at hl;subst hl;exact ⟨fy _,by show (0:Int)≤(c.steps.length:Int);omega⟩
 ·exact absurd e dr
 ·rw [show (mN c s.jY.length prio par b).jH=[⟨c,-1,0,s.jY.length⟩] from rfl,dz] at hl;subst hl;exact ⟨qj c gv,FA,by show (gv++_).length=_;simp;omega,by show (List.replicate _ _).length=_;simp,lI,mh⟩
theorem Jr {s:jz} (h:Fo s) {c:Cd} {prio par:Int} {gv:List Int} (nH:0≤c.vars) (lI:c.vars≤1000) (kV:(gv.length:Int)≤c.vars) (hM:s.jY.length<MM) (mh:c.steps.length≤1000) (rX:s.tasks.length<32) (hp:par = -1∨∃p:Nat,par=(p:Int)∧p<s.tasks.length∧(jJ s p).kids.length≤900):Fo (qm s c prio par gv):=by
 have hlen:(s.l8 (qj c gv)).tasks.length=s.tasks.length:=rfl;have key:=VA h (prio:=prio) nH lI kV hM mh rX hp;unfold qm;split
 ·rename_i h0;obtain ⟨p,R8,h2,h3⟩:∃p:Nat,par=(p:Int)∧p<s.tasks.length∧(jJ s p).kids.length≤900:=by
   rcases hp with e|e
   ·omega
   ·exact e
  subst R8;rw [dF];have hk:=key (jJ s p).canc;have ht:((s.l8 (qj c gv)).lJ (mN c s.jY.length prio (p:Int) (jJ s p).canc)).tasks[p]?=some (jJ s p):=by
   rw [Cl (by rw [hlen];exact h2)];exact tH h2
  have g:=hk.tk p _ ht;have gw:=hk.wf.lv _ (dx ht);have nL:((s.l8 (qj c gv)).lJ (mN c s.jY.length prio (p:Int) (jJ s p).canc)).tasks.length=s.tasks.length+1:=by simp [jz.lJ,hlen]
  refine hk.jF ⟨g.par,fun x hx=>?_,g.pos,g.pF,g.GN⟩ gw.2.1 (by show ((jJ s p).kids++[_]).length≤_;rw [dK,dO];omega) gw.2.2.2.1 gw.2.2.2.2;rcases eg.1 hx with hx|hx
  ·exact g.kids x hx
  ·rw [dz] at hx;subst hx;exact ⟨s.tasks.length,rfl,h2,by rw [nL];omega⟩
 ·exact key false
theorem R9 {H:List jy} {ρ:Operand→AV} {x i:Operand} {L:List Cd} {q:Nat} {c:Cd} (hx:ρ x=.jA (L.map kx)) (hi:ρ i=.int q) (h:L[q]?=some c):QL Tryd.prog H ρ (.indexAddr 22 x i) ((kx c).kN 0):=
 wC hx hi eO ae (e:=kx c) (by rw [dF,dE,h];rfl) ag
abbrev mG (k:Nat) (t:km):jy:=⟨94,11,[oI k t]⟩
abbrev MQ:jy:=⟨94,11,[(.agg [.base (.slice none 0 0),.base (.int .i64 (0)),.base (.int .i64 (0)),.base (.bool false),.base (.int .i64 (0)),.base (.bool false),.base (.bool false),.base (.int .i64 (0)),.base (.int .i64 (0)),.base (.slice none 0 0),.base (.slice none 0 0)])]⟩
theorem Qj (k:Nat) (t:km):ru (oI k t)=true:=by
 unfold oI;cases h1:t.kids<;>cases h2:t.turns<;>rfl
section
variable {H:List jy} {ρ:Operand→AV}
theorem atM {x:Operand} {k:Nat} {t:km} (hx:ρ x=oI k t):QL Tryd.prog H ρ (.buildSlice 48 1 #[(0,x)]) (.jA [oI k t]):=
 Al az Tryd.underlying48 MR ag az (by
  show zy 11 1 [(0,ρ x)]=true;rw [hx];exact (er _ _).mpr ⟨rfl,dU.2 fun p hp=>by
   rw [dz] at hp;subst hp;exact (er _ _).mpr ⟨rfl,Qj k t⟩⟩) (by show [ρ x]=_;rw [hx]) rfl
theorem atN {x y:Operand} {l:List km} {t:km} (hs:ρ x=.own (ix .tk) l.length 0 l.length) (hy:ρ y=.jA [oI l.length t]) (hb:H[ix .tk]?=some (qB l)) (hl:l.length≤1000) :
 PL Tryd.prog H ρ (.call { callee:=.builtin .append,args:=#[x,y],argTypes:=#[48,48] }) (.own (ix .tk) (l.length+1) 0 (l.length+1)) (H.set (ix .tk) (qB (l++[t]))):=by
 have h1:=tX (P:=Tryd.prog) (H:=H) (ρ:=ρ) (b:=ix .tk) (tot:=l.length) (es:=[oI l.length t]) (blk:=qB l) hs hy hb (FG l) Tryd.underlying48 atO rfl rfl ah (fun e he=>by rw [dz] at he;subst he;exact ⟨rfl,Qj _ _⟩) aj aj;have he:(qB (l++[t]))=⟨(qB l).ty,(qB l).sz,(qB l).es++[oI l.length t]⟩:=by simp only [ajY]
 rw [he];exact h1
theorem anA {x y:Operand} {b k:Nat} {t:km} {c0 c1 c2 c3 c4 c5 c6 c7 c8 c9 yU:AV} (hx:ρ x=.ptr b 1 0 0) (hy:ρ y=oI k t) (hb:H[b]?=some ⟨94,11,[.agg [c0,c1,c2,c3,c4,c5,c6,c7,c8,c9,yU]]⟩):PL Tryd.prog H ρ (.store 94 x y) .bad (H.set b (mG k t)):=
 qP (P:=Tryd.prog) (t:=94) (blk:=⟨94,11,[.agg [c0,c1,c2,c3,c4,c5,c6,c7,c8,c9,yU]]⟩) (v:=oI k t) (e':=oI k t) hx hy hb rfl rfl MR (Qj k t) rfl
end
theorem Jv {s:jz} (h:Fo s) {ci:Nat} {c:Cd} {prio par:Int} {gv:List Int} (hc:s.p.kT[ci]?=some c) (nH:0≤c.vars) (lI:c.vars≤1000) (kV:(gv.length:Int)≤c.vars) (hM:s.jY.length<MM) (mh:c.steps.length≤1000) (rX:s.tasks.length<32) (hp:par = -1∨∃p:Nat,par=(p:Int)∧p<s.tasks.length∧(jJ s p).kids.length≤900) :
 jS Tryd.prog 47 [jI,.int ci,.int prio,.int par,.jA (gv.map .int)] (RH s) (.int s.tasks.length) (RH (qm s c prio par gv)):=by
 have hw:=h.wf;have XC:=Jr h (prio:=prio) nH lI kV hM mh rX hp;obtain ⟨R,hR⟩:∃R,Hid (R=qm s c prio par gv):=⟨_,⟨rfl⟩⟩
 rw [← hR.out] at XC ⊢;obtain ⟨K,hK⟩:∃K,Hid (K=s.tasks.length):=⟨_,⟨rfl⟩⟩
 obtain ⟨J,hJ⟩:∃J,Hid (J=s.jY.length):=⟨_,⟨rfl⟩⟩
 have hKM:K<MM:=by have:=vB;have:=hK.out;omega
 have xK:ix (.jH K)<NN:=mq hKM;have EO:J<MM:=by rw [hJ.out];exact hM
 have pE:ix (.kz J)<NN:=mq EO;have pY:ix (.lg J)<NN:=mq EO;obtain ⟨s1,j6⟩:∃s1,Hid (s1=s.l8 (qj c gv)):=⟨_,⟨rfl⟩⟩
 have kq:WF s1:=by rw [j6.out];exact hw.l8 hM
 have lr:s1.tasks=s.tasks:=by rw [j6.out];rfl
 have Ny:=fun (ρ:Operand→AV) (cl:Call) (fx:Operand) h1 h2 h3=>amZ hw (c:=c) (vs:=gv) (a:=-1) nH lI kV hM mh (T:=[]) (ρ:=ρ) (cl:=cl) (fx:=fx) h1 h2 h3;rw [← hJ.out] at Ny;simp only [fC] at Ny;have XD:∀(ρ:Operand→AV) (cl:Call) (fx:Operand),cl.callee=.value fx→ρ fx=.j9 63 []→cl.args.toList.map ρ++[]=[kx c,.int (-1),.jA (gv.map .int)]→PL Tryd.prog (RH s) ρ (.call cl) (nD ⟨c,-1,0,J⟩) (RH s1):=fun ρ cl fx h1 h2 h3=>by rw [j6.out];exact Ny ρ cl fx h1 h2 (by simpa using h3)
 obtain ⟨L,hL⟩:∃L,Hid (L=(RH s1).set (ix (.jH K)) (tt [⟨c,-1,0,J⟩])):=⟨_,⟨rfl⟩⟩
 have lL:L.length=NN:=by rw [hL.out,qG,kv]
 have aL:L[ix .rn]?=some (lE s1):=by rw [hL.out,qQ (kv s1) xK,iZ ah];exact nj s1 .rn mc
 have bL:L[ix .tk]?=some (qB s.tasks):=by rw [hL.out,qQ (kv s1) xK,iZ ah,nj s1 .tk sj];simp only [blk];rw [lr]
 clear Ny;have xH:∀ρ:Operand→AV,PL Tryd.prog L ρ (.alloc 94) (.ptr NN 1 0 0) (L++[MQ]):=fun ρ=>by
  have h:=wD (P:=Tryd.prog) (ρ:=ρ) (H:=L) (el:=94) Wr rfl;rw [lL] at h;exact h
 have jP:∀(ρ:Operand→AV) (x y:Operand),ρ x=.ptr NN 1 0 0→ρ y=oI K (mN c J prio par false)→PL Tryd.prog (L++[MQ]) ρ (.store 94 x y) .bad (L++[mG K (mN c J prio par false)]):=fun ρ x y hx hy=>by
  have h:=anA (H:=L++[MQ]) hx hy ct;rw [show (L++[MQ]).set NN (mG K (mN c J prio par false))=L++[mG K (mN c J prio par false)] by rw [eY _ _ ae,lL,eT];rfl] at h;exact h
 refine jS.i2 [(0,jI),(1,.int ci),(2,.int prio),(3,.int par),(4,.jA (gv.map .int))] 5 75 NN Tryd.func47 (kv s) ?_;have xB:=Hid.mk hp;clear hp;have Zj:(RH s1)[ix (.jH K)]?=some (tt []):=by rw [nj s1 _ xK];simp only [blk];rw [lr,dT (by have:=hK.out;omega)]
 have Zk:¬sH s1 (.jH K):=by show ¬K<_;rw [lr];have:=hK.out;omega
 have Zl:Nb (RH s1).length (ix (.jH K)) (ix (.kz J)):=⟨fun e=>(by have:=sg e;cases this),by rw [kv];exact Nat.ne_of_lt pE⟩
 have AY:Nb (RH s1).length (ix (.jH K)) (ix (.lg J)):=⟨fun e=>(by have:=sg e;cases this),by rw [kv];exact Nat.ne_of_lt pY⟩
 have XE:∀(ρ:Operand→AV) (x:Operand),ρ x=nD ⟨c,-1,0,J⟩→PL Tryd.prog (RH s1) ρ (.buildSlice 92 1 #[(0,x)]) (.own (ix (.jH K)) 1 0 1) L:=fun ρ x hx=>by
  have h1:=OB (P:=Tryd.prog) (H:=RH s1) (ρ:=ρ) (t:=92) (el:=112) (len:=1) (size:=7) (parts:=#[(0,x)]) (es:=[nD ⟨c,-1,0,J⟩]) az gH MF ag az (by
   show zy 7 1 [(0,ρ x)]=true;rw [hx];exact (er _ _).mpr ⟨rfl,dU.2 fun p hp=>by
    rw [dz] at hp;subst hp;exact (er _ _).mpr ⟨rfl,HV _⟩⟩) (by show [ρ x]=_;rw [hx]) rfl
  have h2:=PL.xX h1 (p:=ix (.jH K)) (blk0:=tt []) Zj rfl ah (fun e he d hd=>by
   rw [dz] at he;subst he;exact HD (S:=Nb (RH s1).length (ix (.jH K))) (l:=⟨c,-1,0,J⟩) Zl AY d hd) (Qi kq Zk (by rw [kv];exact dD _)) mI.Bv
  rw [hL.out];exact h2
 refine jx ?_;refine jB.q2 (R9 (L:=s.p.kT) (q:=ci) aa aa hc) ?_;refine jx ?_;refine jB.p2 (XD _ _ _ rfl aa aa) ?_;refine jB.p2 (XE _ _ rfl) ?_;clear XE XD Zj Zk Zl AY;refine jB.q1 (v:=oI K (mN c J prio par false)) rfl rfl (DN atP Wr aa) ?_;refine jB.p2 (xH _) ?_;refine jB.p2 (jP _ (.tmp 11) (.tmp 26) rfl rfl) ?_;clear xH jP;obtain ⟨b,hb⟩:∃b,Hid (b=if 0≤par then (jJ s par.toNat).canc else false):=⟨_,⟨rfl⟩⟩
 refine jx ?_;refine jG.join ⟨[(0,jI),(3,.int par),(11,.ptr NN 1 0 0)],L++[mG K (mN c J prio par b)]⟩ ?_ ?_
 ·rcases xB.out with e|⟨p,e,nG,GO⟩
  ·have hd:decide (par≥0)=false:=je ae;refine jK ?_ hd rfl;refine jx ?_;rw [show b=false by rw [hb.out,iZ ae]];exact .wf
  ·subst e;have hd:decide ((p:Int)≥0)=true:=jf ae;have ns:=tH nG;obtain ⟨tp,Bw⟩:∃tp,Hid (tp=jJ s p):=⟨_,⟨rfl⟩⟩
   rw [← Bw.out] at ns;have pC:b=tp.canc:=by rw [hb.out,ja ae,dF,Bw.out]
   subst pC;have gp:=DZ ns;obtain ⟨X,hX⟩:∃X,Hid (X=mG K (mN c J prio p false)):=⟨_,⟨rfl⟩⟩
   rw [← hX.out];have aX:(L++[X])[ix .rn]?=some (lE s1):=by rw [mZ lL mc];exact aL
   have bX:(L++[X])[ix .tk]?=some (qB s.tasks):=by rw [mZ lL sj];exact bL
   have cX:(L++[X])[NN]?=some X:=ct;have MS:s1.tasks.length=s.tasks.length:=by rw [lr]
   have dX:X.es.length=1:=by rw [hX.out];rfl
   have jP:∀(ρ:Operand→AV) (x y:Operand),ρ x=.ptr NN 1 0 3→ρ y=.base (.bool tp.canc)→PL Tryd.prog (L++[X]) ρ (.store 4 x y) .bad (L++[mG K (mN c J prio p tp.canc)]):=fun ρ x y hx hy=>by
    have h:=qP (P:=Tryd.prog) (H:=L++[X]) (t:=4) (blk:=X) (e:=oI K (mN c J prio p false)) (e':=oI K (mN c J prio p tp.canc)) hx hy cX dX (by rw [hX.out];rfl) KX rfl rfl (by rw [hX.out];exact (by decide:94<pj));rw [show (L++[X]).set NN { X with es:=X.es.set 0 (oI K (mN c J prio p tp.canc)) }=L++[mG K (mN c J prio p tp.canc)] by rw [eY _ _ ae,lL,eT,hX.out];rfl] at h;exact h
   have atQ:=Hid.mk jP;clear jP;refine j8 ?_ hd rfl;refine jx ?_;refine jB.p2 (atQ.out _ _ _ aa aa) ?_;refine jx ?_;exact .wf
 obtain ⟨N,hN⟩:∃N,Hid (N=mN c J prio par b):=⟨_,⟨rfl⟩⟩
 rw [← hN.out];have aX:(L++[mG K N])[ix .rn]?=some (lE s1):=by rw [mZ lL mc];exact aL
 have bX:(L++[mG K N])[ix .tk]?=some (qB s.tasks):=by rw [mZ lL sj];exact bL
 have cX:(L++[mG K N])[NN]?=some (mG K N):=ct;have MS:s1.tasks.length=s.tasks.length:=by rw [lr]
 refine jx ?_;refine qK (k:=8) [none,none,none,none,none,none,none,some 0] (fun q=>match q with
  | 0=>L++[mG K N]
  | _=>L.set (ix .tk) (qB (s.tasks++[N]))++[mG K N]) 1 follows ?_
 repeat (first|refine gS ?_|refine gT ?_|refine gU ?_|refine gV ?_)
 refine ko.q1 (v:=.jA [oI K N]) rfl rfl (fun _ _=>atM aa) ?_;refine ko.p1 (v:=.own (ix .tk) (s.tasks.length+1) 0 (s.tasks.length+1)) rfl rfl (fun kB pb=>by
  have h:=atN (H:=L++[mG K N]) (ρ:=kB) (x:=.tmp 42) (y:=.tmp 44) (l:=s.tasks) (t:=N) ((pb (.tmp 42) ai).trans aa) (by rw [← hK.out];exact (pb (.tmp 44) ai).trans aa) bX ae;rw [o7 lL sj] at h;exact h) ?_
 refine ko.nil ?_;show jB _ _ _ _ _ ⟨_,L.set (ix .tk) (qB (s.tasks++[N]))++[mG K N]⟩;obtain ⟨L2,oC⟩:∃L2,Hid (L2=L.set (ix .tk) (qB (s.tasks++[N]))):=⟨_,⟨rfl⟩⟩
 have lL2:L2.length=NN:=by rw [oC.out,qG,lL]
 have aX2:(L2++[mG K N])[ix .rn]?=some (lE s1):=by rw [mZ lL2 mc,oC.out,dS (fun e=>by have:=sg e;cases this)];exact aL
 rw [← oC.out];have bX2:L2[ix .tk]?=some (qB (s.tasks++[N])):=by rw [oC.out,ee (by rw [lL];exact sj)]
 have dX2:(s.tasks++[N]).length=s.tasks.length+1:=ah;obtain ⟨s2,jW⟩:∃s2,Hid (s2=s1.lJ N):=⟨_,⟨rfl⟩⟩
 have hrn:Hid (L2.set (ix .rn) (lE s2)=RH s2):=⟨by
  rw [oC.out,hL.out,jW.out,show tt [⟨c,-1,0,J⟩]=tt N.jH by rw [hN.out];rfl,← lr];exact ajX (by rw [lr];exact hK.out) xK (by rw [hN.out];rfl) (by rw [hN.out];rfl)⟩
 have sD:IntKind.i64.wrap (((s.tasks.length+1:Nat):Int)-1)=(K:Int):=by rw [nP ae ae];have:=hK.out;omega
 have ov:s2.tasks=s.tasks++[N]:=by rw [jW.out];show s1.tasks++_=_;rw [lr]
 have tR:Hid (lE s2=vO s1.p (s.tasks.length+1) s1.kr.length s1.ml.length s1.lines.length s1.jT.length s1.turns.length s1.jV.length s1.after.length s1.at'):=⟨by rw [jW.out];show vO _ (List.length (_++[_])) _ _ _ _ _ _ _ _=_;rw [dK,lr];rfl⟩
 have MT:=Hid.mk ov;clear ov;refine jx ?_;rw [show L2.set (ix .rn) (vO s1.p (s.tasks.length+1) s1.kr.length s1.ml.length s1.lines.length s1.jT.length s1.turns.length s1.jV.length s1.after.length s1.at')=RH s2 by rw [← tR.out,hrn.out]];have lj:WF s2:=by rw [jW.out,j6.out,hN.out,hJ.out];exact (VA h nH lI kV hM mh rX xB.out b).wf
 refine jG.join ⟨[(0,jI),(12,.int K)],RH R++[mG K N]⟩ ?_ ?_
 ·rcases xB.out with e|⟨p,e,nG,GO⟩
  ·have hd:decide (par≥0)=false:=je ae;refine jK ?_ hd rfl;refine jx ?_;rw [show R=s2 by rw [hR.out,jW.out,j6.out,hN.out,hb.out,hJ.out];unfold qm;rw [iZ ae,iZ ae]];exact .wf
  ·subst e;have hd:decide ((p:Int)≥0)=true:=jf ae;obtain ⟨tp,Bw⟩:∃tp,Hid (tp=jJ s p):=⟨_,⟨rfl⟩⟩
   have ns:s2.tasks[p]?=some tp:=by rw [MT.out,dA nG,Bw.out];exact tH nG
   obtain ⟨g1,g2,g3,g4,g5⟩:=lj.k ns;have sI:R=s2.jF p { tp with kids:=tp.kids++[(K:Int)] }:=by
    rw [hR.out,jW.out,j6.out,hN.out,hb.out,hJ.out,hK.out,Bw.out];unfold qm;rw [ja ae,ja ae,dF]
   rw [sI];have atS:=Hid.mk sI;clear sI;obtain ⟨L3,qh⟩:∃L3,Hid (L3=(RH s2).set (ix (.lU p)) (jD (tp.kids++[(K:Int)]))):=⟨_,⟨rfl⟩⟩
   have EP:L3.length=NN:=by rw [qh.out,qG,kv]
   have Sa:(L3++[mG K N])[ix .rn]?=some (lE s2):=by rw [mZ EP mc,qh.out,qQ (kv s2) g2,iZ ah];exact nj s2 .rn mc
   have Nz:(L3++[mG K N])[ix .tk]?=some (qB s2.tasks):=by rw [mZ EP sj,qh.out,qQ (kv s2) g2,iZ ah];exact nj s2 .tk sj
   have hNb:∀q,NN≤q→kI (Nb q (ix (.lU p))) (mG K N):=fun q hq e he d hd=>by
    rw [dz] at he;subst he;refine U2 (S:=Nb q (ix (.lU p))) ⟨fun e=>(by have:=sg e;cases this),ae⟩ (fun e=>absurd (by rw [hN.out];rfl) e) (fun e=>absurd (by rw [hN.out];rfl) e) d hd
   refine j8 ?_ hd rfl;refine jx ?_;refine qK (k:=16) [none,none,none,none,none,none,none,none,none,none,none,none,none,none,none,some 0] (fun q=>match q with
    | 0=>RH s2++[mG K N]
    | _=>L3++[mG K N]) 1 follows ?_
   repeat (first|refine gS ?_|refine gT ?_|refine gU ?_|refine gV ?_)
   refine ko.q1 (v:=.jA [.int K]) rfl rfl (fun _ _=>CQ aa) ?_;refine ko.p1 (v:=.own (ix (.lU p)) (tp.kids.length+1) 0 (tp.kids.length+1)) rfl rfl (fun kB pb=>by
    have hx:kB (.tmp 68)=xq p tp.kids:=(pb (.tmp 68) ai).trans aa;have h:=Vz (s:=s2) (a:=.lU p) (l:=tp.kids) (x:=K) (T:=[mG K N]) (ρ:=kB) (y:=.tmp 68) (z:=.tmp 70) g2 (by rw [nj s2 _ g2];simp only [blk];rw [ns]) (by have:=(lj.lv tp (dx ns)).2.2.1;omega) (fun e q hq=>Wq lj (amV ns e) hq) (fun q hq _=>JP (hNb q hq)) (fun e=>by rw [hx,e];rfl) (fun e=>by rw [hx];cases hk:tp.kids with|nil=>exact absurd hk e|cons a l=>rfl) ((pb (.tmp 70) ai).trans aa);rw [← qh.out] at h;exact h) ?_
   refine ko.nil ?_;show jB _ _ _ _ _ ⟨_,L3++[mG K N]⟩;have zQ:∀(ρ:Operand→AV) (x y:Operand),ρ x=.ptr (ix .tk) s2.tasks.length p 9→ρ y=.own (ix (.lU p)) (tp.kids.length+1) 0 (tp.kids.length+1)→PL Tryd.prog (L3++[mG K N]) ρ (.store 25 x y) .bad (RH (s2.jF p { tp with kids:=tp.kids++[(K:Int)] })++[mG K N]):=fun ρ x y hx hy=>by
    have h:=qP (P:=Tryd.prog) (H:=L3++[mG K N]) (t:=25) (blk:=qB s2.tasks) (e':=oI p { tp with kids:=tp.kids++[(K:Int)] }) hx hy Nz (FG _) (DZ ns) Ej rfl (by simp only [oI,U3];rfl);rw [o7 EP sj] at h;rw [← amX ns g2,← qh.out];exact h
   have F8:=Hid.mk zQ;clear zQ;refine jx ?_;refine jB.p2 (F8.out _ _ _ aa aa) ?_;refine jx ?_;exact .wf
 refine jx ?_;rw [← hK.out];exact Rf.kY.ref [mG K N] XC.wf (vs:=[.int K]) ag rfl rfl (.pu (.base _))
def zF (s:jz) (k:Nat) (c:Cd) (n:Int) (gv:List Int) (lf i:Nat) (fr:List Int×List Int):jz:=((qm s c n k gv).nY lf (fr.1,fr.2.set i s.tasks.length)).nw ((s.turns.length:Int)-1,2000+(s.tasks.length:Int))
theorem Ua {s:jz} {c:Cd} {n:Int} {p:Int} {gv:List Int}:(qm s c n p gv).jY=s.jY++[qj c gv]:=by unfold qm;split<;>rfl
theorem OY {s:jz} {c:Cd} {n:Int} {k:Nat} {t:km} {gv:List Int} (ht:s.tasks[k]?=some t):(qm s c n k gv).tasks=(s.tasks++[mN c s.jY.length n k t.canc]).set k { t with kids:=t.kids++[(s.tasks.length:Int)] }∧(qm s c n k gv).turns=s.turns∧(qm s c n k gv).after=s.after∧(qm s c n k gv).p=s.p:=by
 unfold qm;rw [ja ae,dF,oO ht];exact ⟨rfl,rfl,rfl,rfl⟩
def xr (S:jz→Nat→jz) (s:jz) (K:Nat) (c:Cd):jz:=if c.steps.length=0 then sJ S s K false else s
theorem apV {S:jz→Nat→jz} {f:Nat} {s:jz} {k m i:Nat} {t:km} {l:lM} {v w nn tk:Int} {q:Nat} {vs:List Int} (h:Dk S f s k m i t l ⟨6,v,w,nn,(q:Int),vs⟩) {fr:List Int×List Int} (kX:s.jY[l.fr]?=some fr) (lH:fr.1.length=l.code.vars.toNat) (kV:∀x∈vs,mW fr.1 x) (mf:vs.length≤1000000) (hb:mO fr.1 vs=false):jS Tryd.prog 72 [jI,.int k] (RH s) (.bool false) (RH (s)):=by
 obtain ⟨ow,mJ⟩:=h.next;have hD:=Hid.mk h;have hw:=h.fo.wf;obtain ⟨⟨ht,hm,hl,hi,jP⟩,nM,j6,pf,pZ,my,p9,kW⟩:=h;obtain ⟨lc,la,ls,lf⟩:=l;simp only at hi jP kW;subst hi;simp only at kX lH;have nN:=hw.sz.2.2.2.2.1;have wh:=Hid.mk kV;clear kV;obtain ⟨g1,g2,g3,g4,g5⟩:=hw.k ht;obtain ⟨e1,e2,e3,e4,e5⟩:=hw.oD ht hl;simp only at e1 e2 e5;have qC:m<t.jC:=ae;have mV:=(hw.lv t (dx ht)).2.1;have nq:i<lc.steps.length:=(dt jP).1;have pG:(lc.steps.map ki)[i]?=some (ki ⟨6,v,w,nn,(q:Int),vs⟩):=aB;have pS:IntKind.i64.wrap ((t.jC:Int)-1)=m:=ax;have nt:Hid (0≤la→IntKind.i64.wrap (-1-la)=jR la k):=⟨fun h=>ak⟩
 have rh:=Hid.mk hm;clear hm;refine jS.i2 [(0,jI),(1,.int k)] 2 475 NN eX (kv s) ?_;refine jx ?_;refine jB.p2 (qc (T:=[kS]) (q:=0) (l:=⟨lc,la,i,lf⟩) aa aa rfl) ?_;show jB _ _ _ _ _ ⟨_,RH s++[kj ⟨lc,la,i,lf⟩]⟩;refine jx ?_;refine jG.join ⟨[(0,jI),(1,.int k),(5,.int m),(6,.ptr NN 1 0 0),(7,.ptr (NN+1) 1 0 0),(8,.int (jR la k))],RH s++[kj ⟨lc,la,i,lf⟩,j7 ⟨6,v,w,nn,(q:Int),vs⟩]⟩ ?_ ?_
 ·by_cases kJ:0≤la
  ·have kb:decide (la≥0)=true:=jf kJ;refine j8 ?_ kb rfl;refine jx ?_;rw [nt.out kJ];exact .wf
  ·have kb:decide (la≥0)=false:=je kJ;refine jK ?_ kb rfl;refine jx ?_;rw [show jR la k=(k:Int) by unfold jR;rw [iZ kJ]];exact .wf
 refine jx ?_;repeat (refine jK ?_ rfl rfl;refine jx ?_)
 repeat (first|(refine j8 ?_ rfl rfl;refine jx ?_)|(refine jK ?_ rfl rfl;refine jx ?_))
 refine jB.p2 (FH (x:=⟨lc,la,i,lf⟩) (f:=fr) (vs:=vs) hw kX lH wh.out mf hb rfl aa aa) ?_;refine jx ?_;refine j8 ?_ rfl rfl;refine jx ?_;exact Rf.kY.ref [kj ⟨lc,la,i,lf⟩,j7 ⟨6,v,w,nn,(q:Int),vs⟩] hw (vs:=[.bool false]) ag rfl rfl (.pu (.base _))
theorem apW {S:jz→Nat→jz} {f:Nat} {s:jz} {k m i:Nat} {t:km} {l:lM} {v w nn tk:Int} {q:Nat} {vs:List Int} (h:Dk S f s k m i t l ⟨6,v,w,nn,(q:Int),vs⟩) {fr:List Int×List Int} (kX:s.jY[l.fr]?=some fr) (lH:fr.1.length=l.code.vars.toNat) (kV:∀x∈vs,mW fr.1 x) (mf:vs.length≤1000000) (hb:mO fr.1 vs=true) (rX:32≤s.tasks.length):jS Tryd.prog 72 [jI,.int k] (RH s) (.bool false) (RH (s)):=by
 obtain ⟨ow,mJ⟩:=h.next;have hD:=Hid.mk h;have hw:=h.fo.wf;obtain ⟨⟨ht,hm,hl,hi,jP⟩,nM,j6,pf,pZ,my,p9,kW⟩:=h;obtain ⟨lc,la,ls,lf⟩:=l;simp only at hi jP kW;subst hi;simp only at kX lH;have nN:=hw.sz.2.2.2.2.1;have wh:=Hid.mk kV;clear kV;obtain ⟨g1,g2,g3,g4,g5⟩:=hw.k ht;obtain ⟨e1,e2,e3,e4,e5⟩:=hw.oD ht hl;simp only at e1 e2 e5;have qC:m<t.jC:=ae;have mV:=(hw.lv t (dx ht)).2.1;have nq:i<lc.steps.length:=(dt jP).1;have pG:(lc.steps.map ki)[i]?=some (ki ⟨6,v,w,nn,(q:Int),vs⟩):=aB;have pS:IntKind.i64.wrap ((t.jC:Int)-1)=m:=ax;have nt:Hid (0≤la→IntKind.i64.wrap (-1-la)=jR la k):=⟨fun h=>ak⟩
 have rh:=Hid.mk hm;clear hm;refine jS.i2 [(0,jI),(1,.int k)] 2 475 NN eX (kv s) ?_;refine jx ?_;refine jB.p2 (qc (T:=[kS]) (q:=0) (l:=⟨lc,la,i,lf⟩) aa aa rfl) ?_;show jB _ _ _ _ _ ⟨_,RH s++[kj ⟨lc,la,i,lf⟩]⟩;refine jx ?_;refine jG.join ⟨[(0,jI),(1,.int k),(5,.int m),(6,.ptr NN 1 0 0),(7,.ptr (NN+1) 1 0 0),(8,.int (jR la k))],RH s++[kj ⟨lc,la,i,lf⟩,j7 ⟨6,v,w,nn,(q:Int),vs⟩]⟩ ?_ ?_
 ·by_cases kJ:0≤la
  ·have kb:decide (la≥0)=true:=jf kJ;refine j8 ?_ kb rfl;refine jx ?_;rw [nt.out kJ];exact .wf
  ·have kb:decide (la≥0)=false:=je kJ;refine jK ?_ kb rfl;refine jx ?_;rw [show jR la k=(k:Int) by unfold jR;rw [iZ kJ]];exact .wf
 refine jx ?_;repeat (refine jK ?_ rfl rfl;refine jx ?_)
 repeat (first|(refine j8 ?_ rfl rfl;refine jx ?_)|(refine jK ?_ rfl rfl;refine jx ?_))
 refine jB.p2 (Cu (x:=⟨lc,la,i,lf⟩) (f:=fr) (vs:=vs) hw kX lH wh.out mf hb (CH e1 e2) rfl aa aa) ?_;have hd:decide ((s.tasks.length:Int)≥32)=true:=jf ae;refine jx ?_;refine j8 ?_ aa rfl;refine jx ?_;exact Rf.kY.ref [kj ⟨lc,la,i,lf⟩,j7 ⟨6,v,w,nn,(q:Int),vs⟩] hw (vs:=[.bool false]) ag rfl rfl (.pu (.base _))
theorem apX {S:jz→Nat→jz} {f:Nat} {s:jz} {k m i:Nat} {t:km} {l:lM} {v w nn tk:Int} {q:Nat} {vs:List Int} (h:Dk S f s k m i t l ⟨6,v,w,nn,(q:Int),vs⟩) {fr:List Int×List Int} (kX:s.jY[l.fr]?=some fr) (lH:fr.1.length=l.code.vars.toNat) (kV:∀x∈vs,mW fr.1 x) (mf:vs.length≤1000000) (hb:mO fr.1 vs=true) {c:Cd} (hc:s.p.kT[q]?=some c) (nH:0≤c.vars) (lI:c.vars≤1000) (Ib:((lX fr.1 vs).length:Int)≤c.vars) (hM:s.jY.length<MM) (mh:c.steps.length≤1000) (rX:s.tasks.length<32) (o0:t.kids.length≤900) (hKf:s.tasks.length<f) (NA:fr.2.length=l.code.steps.length) {t4:km} (tU:(xr S (zF s k c nn (lX fr.1 vs) l.fr i fr) s.tasks.length c).tasks[k]?=some t4) (Zm:t4.jH=t.jH) (Zn:t4.jC=t.jC) (Zo:t4.state=t.state) (KY:(xr S (zF s k c nn (lX fr.1 vs) l.fr i fr) s.tasks.length c).after.length≤s.after.length+1001):jS Tryd.prog 72 [jI,.int k] (RH s) (.bool true) (RH (mM S (xr S (zF s k c nn (lX fr.1 vs) l.fr i fr) s.tasks.length c) k)):=by
 obtain ⟨ow,mJ⟩:=h.next;have hD:=Hid.mk h;have hw:=h.fo.wf;obtain ⟨⟨ht,hm,hl,hi,jP⟩,nM,j6,pf,pZ,my,p9,kW⟩:=h;obtain ⟨lc,la,ls,lf⟩:=l;simp only at hi jP kW;subst hi;simp only at kX lH NA tU KY ⊢;have nN:=hw.sz.2.2.2.2.1;have wh:=Hid.mk kV;clear kV;obtain ⟨gv,IC⟩:∃gv,Hid (gv=lX fr.1 vs):=⟨_,⟨rfl⟩⟩
 rw [← IC.out] at Ib tU KY ⊢;have AZ:(k:Int) = -1∨∃p:Nat,(k:Int)=(p:Int)∧p<s.tasks.length∧(jJ s p).kids.length≤900:=.inr ⟨k,rfl,vb ht,by rw [oO ht];exact o0⟩;have ID:=Jv nM (ci:=q) (prio:=nn) (par:=(k:Int)) hc nH lI Ib hM mh rX AZ;have oK:=Jr nM (prio:=nn) (par:=(k:Int)) nH lI Ib hM mh rX AZ;obtain ⟨KZ,NB,IE,NC⟩:=OY (c:=c) (n:=nn) (gv:=gv) ht;have K0:=Ua (s:=s) (c:=c) (n:=nn) (p:=(k:Int)) (gv:=gv);obtain ⟨s1,mK⟩:∃s1,Hid (s1=qm s c nn k gv):=⟨_,⟨rfl⟩⟩
 rw [← mK.out] at ID oK KZ NB IE NC K0;have QK:lf<s.jY.length:=(dt kX).1;have Bx:s1.jY[lf]?=some fr:=by rw [K0,dA QK];exact kX
 obtain ⟨y,hy⟩:∃y,fr.2[i]?=some y:=⟨_,dy (by have:=(dt jP).1;omega)⟩
 have xJ:fr.2[i]?=some y∧fr.2.length=lc.steps.length:=⟨hy,NA⟩
 obtain ⟨s2,jW⟩:∃s2,Hid (s2=s1.nY lf (fr.1,fr.2.set i s.tasks.length)):=⟨_,⟨rfl⟩⟩
 have oz:Fo s2:=by rw [jW.out];exact oK.nY Bx rfl ah
 have Ek:s2.after.length<1000000000:=by rw [jW.out];show s1.after.length<_;rw [IE,fZ] at *;omega
 obtain ⟨tm,n9⟩:∃tm,Hid (tm=(s.turns.length:Int)-1):=⟨_,⟨rfl⟩⟩
 obtain ⟨s3,lV⟩:∃s3,Hid (s3=s2.nw (tm,2000+(s.tasks.length:Int))):=⟨_,⟨rfl⟩⟩
 have sv:Fo s3:=by rw [lV.out];exact oz.nw Ek
 have XF:zF s k c nn gv lf i fr=s3:=by rw [lV.out,jW.out,mK.out,n9.out];rfl
 rw [XF] at tU KY ⊢;have xL:=Hv oz.wf tm (2000+(s.tasks.length:Int)) Ek;rw [← lV.out] at xL;have F9:=HN (s.tasks.length:Int) ae ae;have K1:s2.turns=s.turns:=by rw [jW.out];exact NB
 have Zp:s3.p=s.p:=by rw [lV.out,jW.out];exact NC
 have Se:s3.tasks[s.tasks.length]?=some (mN c s.jY.length nn k t.canc):=by
  rw [lV.out,jW.out];show s1.tasks[_]?=_;rw [KZ,dS (by have:=vb ht;omega),dJ (dD _),eT];rfl
 have El:Fo (xr S s3 s.tasks.length c):=by
  unfold xr;split
  ·exact (DL pZ sv (vb Se) false bd).fo
  ·exact sv
 have uW:=DR pZ my sv Se hKf false bd;obtain ⟨uy,qv⟩:=hD.out.Br El tU (by rw [Zm];exact hl) ⟨rfl,rfl⟩ Zn Zo KY;obtain ⟨s4,ox⟩:∃s4,Hid (s4=xr S s3 s.tasks.length c):=⟨_,⟨rfl⟩⟩
 rw [← ox.out] at El uy qv ⊢;have kq:=oK.wf;have lj:=oz.wf;have mD:=sv.wf;have qD:=El.wf;have oh:IntKind.i64.wrap ((s2.turns.length:Int)-1)=tm:=by rw [K1,n9.out];exact nP ae ae
 have lC:=Hid.mk hc;have zW:Hid (s3.p.kT[q]?=some c):=⟨by rw [Zp];exact hc⟩
 clear ow mJ oK oz sv El KZ NB IE NC K0 K1 Zp Se tU Zm Zn Zo KY AZ hc XF;obtain ⟨g1,g2,g3,g4,g5⟩:=hw.k ht;obtain ⟨e1,e2,e3,e4,e5⟩:=hw.oD ht hl;simp only at e1 e2 e5;have qC:m<t.jC:=ae;have mV:=(hw.lv t (dx ht)).2.1;have nq:i<lc.steps.length:=(dt jP).1;have pG:(lc.steps.map ki)[i]?=some (ki ⟨6,v,w,nn,(q:Int),vs⟩):=aB;have pS:IntKind.i64.wrap ((t.jC:Int)-1)=m:=ax;have nt:Hid (0≤la→IntKind.i64.wrap (-1-la)=jR la k):=⟨fun h=>ak⟩
 have rh:=Hid.mk hm;clear hm;refine jS.i2 [(0,jI),(1,.int k)] 2 475 NN eX (kv s) ?_;refine jx ?_;refine jB.p2 (qc (T:=[kS]) (q:=0) (l:=⟨lc,la,i,lf⟩) aa aa rfl) ?_;show jB _ _ _ _ _ ⟨_,RH s++[kj ⟨lc,la,i,lf⟩]⟩;refine jx ?_;refine jG.join ⟨[(0,jI),(1,.int k),(5,.int m),(6,.ptr NN 1 0 0),(7,.ptr (NN+1) 1 0 0),(8,.int (jR la k))],RH s++[kj ⟨lc,la,i,lf⟩,j7 ⟨6,v,w,nn,(q:Int),vs⟩]⟩ ?_ ?_
 ·by_cases kJ:0≤la
  ·have kb:decide (la≥0)=true:=jf kJ;refine j8 ?_ kb rfl;refine jx ?_;rw [nt.out kJ];exact .wf
  ·have kb:decide (la≥0)=false:=je kJ;refine jK ?_ kb rfl;refine jx ?_;rw [show jR la k=(k:Int) by unfold jR;rw [iZ kJ]];exact .wf
 refine jx ?_;repeat (refine jK ?_ rfl rfl;refine jx ?_)
 repeat (first|(refine j8 ?_ rfl rfl;refine jx ?_)|(refine jK ?_ rfl rfl;refine jx ?_))
 refine jB.p2 (Cu (x:=⟨lc,la,i,lf⟩) (f:=fr) (vs:=vs) hw kX lH wh.out mf hb (CH e1 e2) rfl aa aa) ?_;have hd:decide ((s.tasks.length:Int)≥32)=false:=je ae;rw [← IC.out];refine jx ?_;refine jK ?_ aa rfl;refine jx ?_;refine cF ID hw kq ?_ (hR:=⟨.ptr mc,.pu (.base _),.pu (.base _),.pu (.base _),.pu (l7 _),trivial⟩);refine jx ?_;refine jB.p2 (PU (f:=fr) (q:=i) (n:=lc.steps.length) (v:=s.tasks.length) Bx e2 aa NA aa (by rw [NA];exact nq)) ?_;rw [← jW.out];refine jx ?_;refine mi (k:=9) follows (hr:=?_);refine jx ?_;refine oQ F9 ?_;refine jx ?_;refine cF xL lj mD ?_;refine jx ?_;refine mi (k:=12) follows (hr:=?_);refine jx ?_;refine jB.q2 (R9 (L:=s3.p.kT) (q:=q) aa aa zW.out) ?_;refine jx ?_;by_cases h0:c.steps.length=0
 ·have mo:decide ((c.steps.length:Int)=0)=true:=jf ae;have e4:s4=sJ S s3 s.tasks.length false:=by rw [ox.out,xr,ja h0]
  rw [← e4] at uW;clear h0;refine j8 ?_ aa rfl;have e4':=Hid.mk e4;clear e4;refine jx ?_;refine cF uW mD qD ?_;refine jx ?_;refine cF uy qD qv.fo.wf ?_;refine jx ?_;exact Rf.kY.ref [kj ⟨lc,la,i,lf⟩,j7 ⟨6,v,w,nn,(q:Int),vs⟩] qv.fo.wf (vs:=[.bool true]) ag rfl rfl (.pu (.base _))
 have mo:decide ((c.steps.length:Int)=0)=false:=je ae;have e4:s3=s4:=by rw [ox.out,xr,iZ h0]
 refine jK ?_ aa rfl;rw [e4];refine jx ?_;refine cF uy qD qv.fo.wf ?_;refine jx ?_;exact Rf.kY.ref [kj ⟨lc,la,i,lf⟩,j7 ⟨6,v,w,nn,(q:Int),vs⟩] qv.fo.wf (vs:=[.bool true]) ag rfl rfl (.pu (.base _))
theorem MG {P:Nat→Prop} {vs:List Int} {c:Cd} {X:jy} (hX:kI P X):∀b∈[jD vs,kP c,kS,X],kI P b:=fun b hb=>by
 rcases dC.1 hb with rfl|hb
 ·exact rE
 ·exact J0 hX b hb
theorem kY.apY {rs:List ResultVar} {n:Nat} {d:AV} {s':jz} {E:Env} {H:List jy} {X:jy} {vs:List AV} (T:List jy) (hX:kI (·<NN) X) (hw:WF s') (hv:o6 Tryd.prog ⟨E,H⟩ rs=some vs) (hH:H=RH s'++X::T) (hd:mL (pre (NN+1)) H (rG vs) d):kY Tryd.prog rs ⟨n,NN+1⟩ d (RH s'++[X]) ⟨E,H⟩:=by
 have hl:(RH s'++[X]).length=NN+1:=cV;have hH:H=(RH s'++[X])++T:=by rw [hH];simp
 refine ⟨_,vs,pre (NN+1),id,.refl _,hv,.pre (by rw [hH,dK];omega) (dD _) hl fun j b1 b2 h1 h2=>?_,hd⟩;have hj:=(dt h2).1;simp only at h1;rw [hH,dA hj,h2] at h1;injection h1 with h1;subst h1;have hr:kI (·<NN) b2:=by
  rcases eg.1 (dx h2) with h|h
  ·exact rO hw _ h
  ·rw [dz] at h;subst h;exact hX
 refine ⟨rfl,rfl,rfl,fun i e e2 h3 h4=>?_⟩;rw [h3] at h4;injection h4 with h4;subst h4;refine ⟨rfl,fun k c c2 h5 h6=>?_⟩;rw [h5] at h6;injection h6 with h6;subst h6;exact (hr e (dx h3) c (dx h5)).tB fun b hb=>rF ae
theorem afM {s:jz} (hw:WF s) {c:Cd} {vs:List Int} {a:Int} (nH:0≤c.vars) (lI:c.vars≤1000) (kV:(vs.length:Int)≤c.vars) (Zq:0<vs.length) (hM:s.jY.length<MM) (mh:c.steps.length≤1000) :
 jS Tryd.prog 63 [kx c,.int a,.own NN vs.length 0 vs.length] (RH s++[jD vs]) (nD ⟨c,a,0,s.jY.length⟩) (RH (s.l8 (vs++List.replicate (c.vars.toNat-vs.length) (-1),List.replicate c.steps.length (-1)))++[jD vs]):=by
 obtain ⟨cp,cv,cs⟩:=c;simp only at nH lI kV mh ⊢;obtain ⟨nv,rfl⟩:∃nv:Nat,cv=nv:=⟨_,(dP nH).symm⟩
 obtain ⟨J,hJ⟩:∃J,J=s.jY.length:=⟨_,rfl⟩
 have EO:J<MM:=ae;have pY:ix (.lg J)<NN:=mq EO;have pE:ix (.kz J)<NN:=mq EO;rw [← hJ,dF];have Db:(RH s)[ix (.kz J)]?=some (jD []):=by rw [nj s _ pE];simp only [blk];rw [dT ae]
 have Dc:(RH s)[ix (.lg J)]?=some (jD []):=by rw [nj s _ pY];simp only [blk];rw [dT ae]
 have lO:ix (.kz J)≠ix (.lg J):=fun e=>by have:=sg e;cases this
 obtain ⟨zv,xC⟩:∃zv,zv=jD (List.replicate nv 0):=⟨_,rfl⟩
 obtain ⟨zc,yP⟩:∃zc,zc=jD (List.replicate cs.length 0):=⟨_,rfl⟩
 have GK:∀ {P:Nat→Prop},kI P zv:=by rw [xC];exact rE
 have GL:∀ {P:Nat→Prop},kI P zc:=by rw [yP];exact rE
 obtain ⟨L1,pe⟩:∃L1,L1=(RH s).set (ix (.kz J)) zv:=⟨_,rfl⟩
 obtain ⟨L2,oC⟩:∃L2,L2=(RH s).set (ix (.lg J)) zc:=⟨_,rfl⟩
 obtain ⟨L3,qh⟩:∃L3,L3=L1.set (ix (.lg J)) zc:=⟨_,rfl⟩
 have Ia:L3=L2.set (ix (.kz J)) zv:=by rw [qh,pe,oC];exact List.set_comm _ _ lO
 have l1:L1.length=NN:=by rw [pe,qG,kv]
 have l2:L2.length=NN:=by rw [oC,qG,kv]
 have l3:L3.length=NN:=by rw [qh,qG,l1]
 have l0:(RH s).length=NN:=kv s;have q1:L1[ix (.lg J)]?=some (jD []):=by rw [pe,dS lO];exact Dc
 have q2:L2[ix (.kz J)]?=some (jD []):=by rw [oC,dS lO.symm];exact Db
 have n0:∀ {nm:Nm},¬sH s nm→∀q,NN≤q→∀b∈RH s,kI (Nb q (ix nm)) b:=fun h q hq=>Qi hw h hq;have n1:∀ {nm:Nm},¬sH s nm→∀q,NN≤q→∀b∈L1,kI (Nb q (ix nm)) b:=fun h q hq=>by rw [pe];exact yx (n0 h q hq) GK
 have n2:∀ {nm:Nm},¬sH s nm→∀q,NN≤q→∀b∈L2,kI (Nb q (ix nm)) b:=fun h q hq=>by rw [oC];exact yx (n0 h q hq) GL
 have m0:∀b∈RH s,kI (·<NN) b:=rO hw;have m1:∀b∈L1,kI (·<NN) b:=by rw [pe];exact yx m0 GK
 have m2:∀b∈L2,kI (·<NN) b:=by rw [oC];exact yx m0 GL
 have dv:¬sH s (.kz J):=by show ¬J<_;omega
 have dc:¬sH s (.lg J):=by show ¬J<_;omega
 have AW:∀(L:List jy) (X:jy) (ρ:Operand→AV) (x y:Operand),L.length=NN→L[ix (.kz J)]?=some (jD [])→(∀q,NN≤q→∀b∈L,kI (Nb q (ix (.kz J))) b)→(∀b∈L,kI (·<NN) b)→(∀ {P:Nat→Prop},kI P X)→ρ x=.int nv→ρ y=.int nv→PL Tryd.prog (L++[jD vs,kP ⟨cp,nv,cs⟩,kS,X]) ρ (.makeSlice 25 x y) (uw (ix (.kz J)) nv) (L.set (ix (.kz J)) zv++[jD vs,kP ⟨cp,nv,cs⟩,kS,X]):=fun L X ρ x y hl he hn hm hX h1 h2=>by
  rw [xC];exact MD pE hl he ae (fun q hq=>vZ (hn q hq) (MG hX)) (vZ (fun b hb=>(hm b hb).mono fun i hi=>dq) (MG hX)) h1 h2
 have AX:∀(L:List jy) (X:jy) (ρ:Operand→AV) (x y:Operand),L.length=NN→L[ix (.lg J)]?=some (jD [])→(∀q,NN≤q→∀b∈L,kI (Nb q (ix (.lg J))) b)→(∀b∈L,kI (·<NN) b)→(∀ {P:Nat→Prop},kI P X)→ρ x=.int cs.length→ρ y=.int cs.length→PL Tryd.prog (L++[jD vs,kP ⟨cp,nv,cs⟩,kS,X]) ρ (.makeSlice 25 x y) (uw (ix (.lg J)) cs.length) (L.set (ix (.lg J)) zc++[jD vs,kP ⟨cp,nv,cs⟩,kS,X]):=fun L X ρ x y hl he hn hm hX h1 h2=>by
  rw [yP];exact MD pY hl he ae (fun q hq=>vZ (hn q hq) (MG hX)) (vZ (fun b hb=>(hm b hb).mono fun i hi=>dq) (MG hX)) h1 h2
 have sQ:L3=RH (s.l8 (List.replicate nv 0,List.replicate cs.length 0)):=by
  rw [qh,pe,xC,yP];exact U1 (f:=(List.replicate nv 0,List.replicate cs.length 0)) hJ pE pY
 have Eh:=Hid.mk pe;have Ei:=Hid.mk oC;have F5:=Hid.mk qh;have F6:=Hid.mk Ia;have J1:=Hid.mk sQ;have BT:=Hid.mk hJ;have QI:=Hid.mk xC;have QJ:=Hid.mk yP;clear pe oC qh Ia sQ hJ xC yP;refine jS.i2 [(0,kx ⟨cp,nv,cs⟩),(1,.int a),(2,.own NN vs.length 0 vs.length)] 3 55 (NN+1) Tryd.func63 cV ?_;refine jG.seq ?_;refine jG.join ⟨[(3,.ptr (NN+1) 1 0 0),(6,.ptr (NN+2) 1 0 0),(1,.int a),(2,.own NN vs.length 0 vs.length)],RH s++[jD vs,kP ⟨cp,nv,cs⟩,kS]⟩ ?_ ?_
 ·with_reducible apply zR
  ·refine ⟨rfl,rfl,?_⟩;simp +decide only [go_sem,List.map];rfl
  refine jB.p1 (v:=.ptr (NN+1) 1 0 0) (H':=RH s++[jD vs,kP ⟨cp,nv,cs⟩]) rfl rfl (by
   have h:=xW (P:=Tryd.prog) (H:=RH s++[jD vs]) (ρ:=ev [(0,kx ⟨cp,nv,cs⟩),(1,AV.int a),(2,.own NN vs.length 0 vs.length)]) (el:=68) (x:=.tmp 0) (v:=kx ⟨cp,nv,cs⟩) rfl rfl;rw [show (RH s++[jD vs]).length=NN+1 by simp [kv],eA] at h;exact h) ?_
  refine jB.p1 (v:=.ptr (NN+2) 1 0 0) (H':=RH s++[jD vs,kP ⟨cp,nv,cs⟩,kS]) rfl rfl (by
   have h:=wD (P:=Tryd.prog) (ρ:=ev (mF [(0,kx ⟨cp,nv,cs⟩),(1,AV.int a),(2,.own NN vs.length 0 vs.length)] (some 3) (.ptr (NN+1) 1 0 0))) (H:=RH s++[jD vs,kP ⟨cp,nv,cs⟩]) (el:=112) DV rfl;rw [show (RH s++[jD vs,kP ⟨cp,nv,cs⟩]).length=NN+2 by simp [kv],eA] at h;exact h) ?_
  refine jx ?_;exact .wf
 refine jx ?_;refine jG.weaken (s2:=⟨[(3,.ptr (NN+1) 1 0 0),(6,.ptr (NN+2) 1 0 0),(1,.int a),(2,.own NN vs.length 0 vs.length)],RH s++[jD vs,kP ⟨cp,nv,cs⟩,kS,su]⟩) ((Wk.wf (E2:=[(3,.ptr (NN+1) 1 0 0),(6,.ptr (NN+2) 1 0 0),(1,.int a),(2,.own NN vs.length 0 vs.length)]) (H2:=RH s++[jD vs,kP ⟨cp,nv,cs⟩,kS])).trans (by
  have h:=Wk.pad (n:=⟨55,NN+1⟩) (E:=[(3,.ptr (NN+1) 1 0 0),(6,.ptr (NN+2) 1 0 0),(1,.int a),(2,.own NN vs.length 0 vs.length)]) (H:=RH s++[jD vs,kP ⟨cp,nv,cs⟩,kS]) (by
   intro q hq;simp only [dC,dB,jd] at hq;rcases hq with rfl|rfl|rfl|rfl<;>exact Le.refl _) [su] ah
  rw [eA] at h;exact h)) ?_
 refine IB (k:=11) [none,none,none,none,some 0,none,none,none,some 1,none,some 2] [[0,1,2,3,4,5,6,7],[0,1,2,3,4,5,6,7],[0,1,2,3,4,5,6,7],[0,2,4,6],[0,2,4,6],[0,1,2,3,4,5,6,7],[0,1,2,3,4,5,6,7],[0,1,4,5],[0,1,4,5],[3,7],[0,1,2,3]] (fun S=>match S with
  | 0=>RH s++[jD vs,kP ⟨cp,nv,cs⟩,kS,su]
  | 1=>L1++[jD vs,kP ⟨cp,nv,cs⟩,kS,su]
  | 2=>L2++[jD vs,kP ⟨cp,nv,cs⟩,kS,su]
  | 3=>L3++[jD vs,kP ⟨cp,nv,cs⟩,kS,su]
  | 4=>RH s++[jD vs,kP ⟨cp,nv,cs⟩,kS,kS]
  | 5=>L1++[jD vs,kP ⟨cp,nv,cs⟩,kS,kS]
  | 6=>L2++[jD vs,kP ⟨cp,nv,cs⟩,kS,kS]
  | _=>L3++[jD vs,kP ⟨cp,nv,cs⟩,kS,kS]) 3 follows ?_
 repeat refine gM ?_
 refine nA.p1 (v:=uw (ix (.kz J)) nv) rfl rfl (fun S hS kB h=>by
  have hx:kB (.tmp 13)=.int nv:=(h (.tmp 13) au).trans rfl;simp only [dC,dB,jd] at hS;rcases hS with rfl|rfl|rfl|rfl
  ·have h1:=AW (RH s) su kB (.tmp 13) (.tmp 13) l0 Db (n0 dv) m0 .nil hx hx;rw [← Eh.out] at h1;exact h1
  ·have h1:=AW L2 su kB (.tmp 13) (.tmp 13) l2 q2 (n2 dv) m2 .nil hx hx;rw [← F6.out] at h1;exact h1
  ·have h1:=AW (RH s) kS kB (.tmp 13) (.tmp 13) l0 Db (n0 dv) m0 Cq hx hx;rw [← Eh.out] at h1;exact h1
  ·have h1:=AW L2 kS kB (.tmp 13) (.tmp 13) l2 q2 (n2 dv) m2 Cq hx hx;rw [← F6.out] at h1;exact h1) ?_
 repeat refine gM ?_
 refine nA.p1 (v:=uw (ix (.lg J)) cs.length) rfl rfl (fun S hS kB h=>by
  have hx:kB (.tmp 17)=.int cs.length:=(h (.tmp 17) au).trans rfl;simp only [dC,dB,jd] at hS;rcases hS with rfl|rfl|rfl|rfl
  ·have h1:=AX (RH s) su kB (.tmp 17) (.tmp 17) l0 Dc (n0 dc) m0 .nil hx hx;rw [← Ei.out] at h1;exact h1
  ·have h1:=AX L1 su kB (.tmp 17) (.tmp 17) l1 q1 (n1 dc) m1 .nil hx hx;rw [← F5.out] at h1;exact h1
  ·have h1:=AX (RH s) kS kB (.tmp 17) (.tmp 17) l0 Dc (n0 dc) m0 Cq hx hx;rw [← Ei.out] at h1;exact h1
  ·have h1:=AX L1 kS kB (.tmp 17) (.tmp 17) l1 q1 (n1 dc) m1 Cq hx hx;rw [← F5.out] at h1;exact h1) ?_
 refine nA.q1 (v:=.agg [.int cp,.int nv,.jA (cs.map ki),.int a,.int 0,uw (ix (.kz J)) nv,uw (ix (.lg J)) cs.length]) rfl rfl (fun S _=>DN WY DV (by
  simp +decide only [List.map,go_sem];cases nv<;>cases cs.length<;>rfl)) ?_
 refine nA.p1 (v:=.ptr (NN+3) 1 0 0) rfl rfl (fun S hS kB h=>by
  have key:∀L:List jy,L.length=NN→PL Tryd.prog (L++[jD vs,kP ⟨cp,nv,cs⟩,kS,su]) kB (.alloc 112) (.ptr (NN+3) 1 0 0) (L++[jD vs,kP ⟨cp,nv,cs⟩,kS,kS]):=fun L hl=>by
   have h1:=T8 (P:=Tryd.prog) (ρ:=kB) (H:=L++[jD vs,kP ⟨cp,nv,cs⟩,kS,su]) (b:=NN+3) (blk0:=su) (el:=112) (by rw [vx hl];rfl) rfl DV rfl az;rw [wE hl] at h1;exact h1
  simp only [dC,dB,jd] at hS;rcases hS with rfl|rfl|rfl|rfl
  ·exact key _ l0
  ·exact key _ l1
  ·exact key _ l2
  ·exact key _ l3) ?_
 refine nA.nil ?_;show jB _ _ _ _ _ ⟨_,L3++[jD vs,kP ⟨cp,nv,cs⟩,kS,kS]⟩;rw [J1.out];refine jB.p2 (qc (T:=[jD vs,kP ⟨cp,nv,cs⟩,kS,kS]) (q:=3) (l:=⟨⟨cp,nv,cs⟩,a,0,J⟩) rfl rfl rfl) ?_;show jB _ _ _ _ _ ⟨_,RH (s.l8 (List.replicate nv 0,List.replicate cs.length 0))++[jD vs,kP ⟨cp,nv,cs⟩,kS,kj ⟨⟨cp,nv,cs⟩,a,0,J⟩]⟩;obtain ⟨T,hT⟩:∃T,T=[jD vs,kP ⟨cp,nv,cs⟩,kS,kj ⟨⟨cp,nv,cs⟩,a,0,J⟩]:=⟨_,rfl⟩
 obtain ⟨F,hF⟩:∃F,Hid (F=vs++List.replicate (nv-vs.length) (-1)):=⟨_,⟨rfl⟩⟩
 obtain ⟨G,hG⟩:∃G:List Int,Hid (G=List.replicate cs.length (-1)):=⟨_,⟨rfl⟩⟩
 have KS:F.length=nv:=by rw [hF.out];simp;omega
 have KT:G.length=cs.length:=by rw [hG.out];simp
 rw [← hF.out,← hG.out];have xI:List.replicate nv 0=nJ F 0:=by rw [LZ,KS]
 have wZ:List.replicate cs.length 0=nJ G 0:=by rw [LZ,KT]
 rw [xI,wZ];have Dd:Hid (J=s.jY.length):=BT;have kX:∀f:List Int×List Int,(s.l8 f).jY[J]?=some f:=fun f=>by rw [Dd.out];exact FA
 have mg:∀f:List Int×List Int,WF (s.l8 f):=fun f=>hw.l8 hM;have yK:((nv:Nat):Int).toNat=nv:=dF nv;clear hT T;clear xI wZ Eh Ei F5 F6 J1 BT QI QJ AW AX n0 n1 n2 m0 m1 m2 q1 q2 l0 l1 l2 l3 GK GL Db Dc lO;refine jx ?_;refine jG.loop (J:=fun i:Nat=>i≤nv) (fun i=>⟨[(2,.own NN vs.length 0 vs.length),(6,.ptr (NN+2) 1 0 0),(7,.ptr (NN+3) 1 0 0),(8,.int i)],RH (s.l8 (nJ F i,nJ G 0))++[jD vs,kP ⟨cp,nv,cs⟩,kS,kj ⟨⟨cp,nv,cs⟩,a,0,J⟩]⟩) (fun i=>nv-i) 0 (dL _) .wf ?_;rintro i hi;obtain ⟨V,hV⟩:∃V,V=nJ F i:=⟨_,rfl⟩
 obtain ⟨si,pv⟩:∃si,si=s.l8 (V,nJ G 0):=⟨_,rfl⟩
 rw [← hV,← pv];have sV:V.length=nv:=by rw [hV,L6 ae,KS]
 have tS:si.jY[J]?=some (V,nJ G 0):=by rw [pv];exact kX _
 have nr:WF si:=by rw [pv];exact mg _
 have sW:=ME (H:=RH si++[jD vs,kP ⟨cp,nv,cs⟩,kS,kj ⟨⟨cp,nv,cs⟩,a,0,J⟩]) (b:=ix (.kz J)) (l:=V) (n:=nv) (by rw [mZ (kv si) pE,nj _ _ pE];simp only [blk];rw [tS]) sV;simp +decide only [go_sem] at sW;have De:=Hid.mk hV;have wg:=Hid.mk pv;clear hV pv;refine jx ?_;by_cases hd:i<nv
 ·have kb:decide ((i:Int)<(nv:Int))=true:=jf ae;obtain ⟨y,hy⟩:∃y,V[i]?=some y:=⟨_,dy ae⟩
  have xJ:V[i]?=some y∧V.length=nv:=⟨hy,sV⟩
  obtain ⟨u1,tT⟩:∃u1,u1=si.nY J (V.set i (-1),nJ G 0):=⟨_,rfl⟩
  have xz:u1.jY[J]?=some (V.set i (-1),nJ G 0):=by rw [tT];exact Cr tS
  have Kh:u1=s.l8 (V.set i (-1),nJ G 0):=by rw [tT,wg.out,Hr Dd.out]
  have KU:(V.set i (-1))[i]?=some (-1)∧(V.set i (-1)).length=nv:=⟨ee ae,by rw [dW,sV]⟩
  have F7:=Hid.mk tT;have J2:=Hid.mk Kh;clear tT Kh;refine j8 ?_ rfl aa;refine jx ?_;refine jB.p2 (FO (f:=(V,nJ G 0)) (q:=i) (n:=nv) (v:=-1) tS pE aa sV aa (by show i<V.length;omega)) ?_;rw [← F7.out];clear sW xJ;refine jx ?_;by_cases hg:i<vs.length
  ·have mo:decide ((i:Int)<(vs.length:Int))=true:=jf ae;have tP:nth 0 vs (i:Int)=vs[i]:=uP hg;have Df:F[i]?=some vs[i]:=by rw [hF.out,dA hg,dy hg]
   have e:u1.nY J ((V.set i (-1)).set i vs[i],nJ G 0)=s.l8 (nJ F (i+1),nJ G 0):=by
    rw [J2.out,Hr Dd.out,List.set_set,De.out,Hs Df]
   have hvi:(vs.map AV.int)[i]?=some (.int vs[i]):=by rw [dE,dy hg];rfl
   have atT:vs[i]?=some vs[i]∧vs.length=vs.length:=⟨dy hg,rfl⟩
   generalize vs[i]=x at tP Df e hvi atT;refine j8 ?_ mo rfl;refine jx ?_;refine mi (k:=7) follows (hr:=?_);refine jx ?_;refine jB.q2 (w8 (l:=vs) (b:=NN) (q:=i) aa aa aa hg) ?_;refine jx ?_;refine jB.p2 (FO (f:=(V.set i (-1),nJ G 0)) (q:=i) (n:=nv) (v:=x) xz pE aa KU.2 aa (by rw [KU.2];exact hd)) ?_;rw [e];refine jx ?_;rw [l6 ae];exact ⟨i+1,ae,ae,.wf⟩
  ·have mo:decide ((i:Int)<(vs.length:Int))=false:=je ae;have Df:F[i]?=some (-1):=by
    rw [hF.out,dJ ae,fk,ja ae]
   have e:u1=s.l8 (nJ F (i+1),nJ G 0):=by
    rw [J2.out,De.out,Hs Df]
   refine jK ?_ mo rfl;rw [e];refine jx ?_;rw [l6 ae];exact ⟨i+1,ae,ae,.wf⟩
 have kb:decide ((i:Int)<(nv:Int))=false:=je ae;have KV:V=F:=by rw [De.out,show i=F.length by omega,L7]
 refine jK ?_ rfl aa;refine jx ?_;rw [wg.out,KV];clear sW tS nr De wg KV sV hi hd kb;refine jG.loop (J:=fun i:Nat=>i≤cs.length) (fun i=>⟨[(6,.ptr (NN+2) 1 0 0),(7,.ptr (NN+3) 1 0 0),(9,.int i)],RH (s.l8 (F,nJ G i))++[jD vs,kP ⟨cp,nv,cs⟩,kS,kj ⟨⟨cp,nv,cs⟩,a,0,J⟩]⟩) (fun i=>cs.length-i) 0 (dL _) .wf ?_;rintro i hi;obtain ⟨V,hV⟩:∃V,Hid (V=nJ G i):=⟨_,⟨rfl⟩⟩
 obtain ⟨si,pv⟩:∃si,Hid (si=s.l8 (F,V)):=⟨_,⟨rfl⟩⟩
 rw [← hV.out,← pv.out];have sV:V.length=cs.length:=by rw [hV.out,L6 ae,KT]
 have tS:si.jY[J]?=some (F,V):=by rw [pv.out];exact kX _
 have nr:WF si:=by rw [pv.out];exact mg _
 have sW:=ME (H:=RH si++[jD vs,kP ⟨cp,nv,cs⟩,kS,kj ⟨⟨cp,nv,cs⟩,a,0,J⟩]) (b:=ix (.lg J)) (l:=V) (n:=cs.length) (by rw [mZ (kv si) pY,nj _ _ pY];simp only [blk];rw [tS]) sV;simp +decide only [go_sem] at sW;refine jx ?_;by_cases hd:i<cs.length
 ·have kb:decide ((i:Int)<(cs.length:Int))=true:=jf ae;obtain ⟨y,hy⟩:∃y,V[i]?=some y:=⟨_,dy ae⟩
  have xJ:V[i]?=some y∧V.length=cs.length:=⟨hy,sV⟩
  have GM:G[i]?=some (-1):=by rw [hG.out,fk,ja hd]
  have e:si.nY J (F,V.set i (-1))=s.l8 (F,nJ G (i+1)):=by rw [pv.out,Hr Dd.out,hV.out,Hs GM]
  refine j8 ?_ rfl aa;refine jx ?_;refine jB.p2 (PU (f:=(F,V)) (q:=i) (n:=cs.length) (v:=-1) tS pY aa sV aa (by show i<V.length;omega)) ?_;rw [e];clear sW xJ;refine jx ?_;rw [l6 ae];exact ⟨i+1,ae,ae,.wf⟩
 have kb:decide ((i:Int)<(cs.length:Int))=false:=je ae;have R6:V=G:=by rw [hV.out,show i=G.length by omega,L7]
 refine jK ?_ rfl aa;refine jx ?_;refine jB.p2 (qc (T:=[jD vs,kP ⟨cp,nv,cs⟩,kS,kj ⟨⟨cp,nv,cs⟩,a,0,J⟩]) (q:=2) (l:=⟨⟨cp,nv,cs⟩,a,0,J⟩) aa aa rfl) ?_;show jB _ _ _ _ _ ⟨_,RH si++[jD vs,kP ⟨cp,nv,cs⟩,kj ⟨⟨cp,nv,cs⟩,a,0,J⟩,kj ⟨⟨cp,nv,cs⟩,a,0,J⟩]⟩;have e:si=s.l8 (F,G):=by rw [pv.out,R6]
 rw [e];refine jx ?_;have kn:=fun b (hb:b<NN)=>rF (k:=NN+1) (Nat.lt_succ_of_lt hb);exact kY.apY [kP ⟨cp,nv,cs⟩,kj ⟨⟨cp,nv,cs⟩,a,0,J⟩,kj ⟨⟨cp,nv,cs⟩,a,0,J⟩] rE (mg _) (vs:=[nD ⟨⟨cp,nv,cs⟩,a,0,J⟩]) (by show o6 _ _ [.cell 6 112]=_;simp +decide only [o6,xV,zx,uB,go_sem, *]<;>rfl) rfl (.F2 ⟨.pu (.base _),.pu (.base _),.pu (zl _),.pu (.base _),.pu (.base _),(DQ (S:=(·<NN)) pE).tB kn,(DQ (S:=(·<NN)) pY).tB kn,trivial⟩)
end Go.Ab.Rf
set_option maxHeartbeats 4000000
namespace Go.Ab
open Go Go.Ab Go.Proofs Go.Ab.Ty
def F0:Nat→Prop:=fun _=>False
theorem ahT {x y:Nat→Prop}:∀(ks:List Int) (s:jv) (e:Nat),(∀z∈ks,∃c:Nat,∃t,z=(c:Int)∧s.tasks[c]?=some t∧∃o,s.ends[c]?=some o∧(3≤t.state→∃j,o=some j)) →
 (o8 s e ks).1.tasks=s.tasks∧(o8 s e ks).1.ends=s.ends∧(o8 s e ks).1.calls=s.calls ∧
 ((o8 s e ks).2.2=true→∀(c:Nat) u,(c:Int)∈ks→s.tasks[c]?=some u→3≤u.state)∧((o8 s e ks).2.2=false→∃c:Nat,∃u,(c:Int)∈ks∧s.tasks[c]?=some u∧u.state<3):=by
 intro ks
 induction ks with
 | nil=>intro s e _;exact ⟨rfl,rfl,rfl,(fun _ c u h=>dh),(fun h=>dh)⟩
 | cons k ks ih =>
   intro s e hk;obtain ⟨c,t,rfl,h1,o,h2,h3⟩:=hk k ah;simp only [o8,dF,h1,h2];by_cases h4:3≤t.state
   ·obtain ⟨j,rfl⟩:=h3 h4;simp only;rw [ja h4];obtain ⟨a1,a2,a3,a4,a5⟩:=ih (s.ld (oH (s.jE.getD e []) (s.jE.getD j []))) s.jE.length (fun z hz=>hk z (by simp [hz]));refine ⟨a1,a2,a3,fun h c' u hc hu=>?_,fun h=>?_⟩
    ·rcases dC.1 hc with hc|hc
     ·have:c'=c:=ae;subst this;rw [h1] at hu;injection hu with hu;subst hu;exact h4
     ·exact a4 h c' u hc hu
    ·obtain ⟨c',u,b1,b2,b3⟩:=a5 h;exact ⟨c',u,by simp [b1],b2,b3⟩
   ·have key:∀o,(match o with|some x=>if 3≤t.state then o8 (s.ld (oH (s.jE.getD e []) (s.jE.getD x []))) s.jE.length ks else (s,e,false)|none=>(s,e,false):jv×Nat×Bool)=(s,e,false):=fun o=>by
     cases o with
     | none=>rfl
     | some x=>simp only;rw [iZ h4]
    have e1:o8 s e ((c:Int)::ks)=(s,e,false):=by
     simp only [o8,dF,h1,h2];cases o with
     | none=>rfl
     | some x=>simp only;rw [iZ h4]
    simp only [o8,dF,h1,h2] at e1;rw [e1];exact ⟨rfl,rfl,rfl,(fun h=>dh),fun _=>⟨c,t,ah,h1,ae⟩⟩
theorem L0 {s:jv} {c:Cd} {vs a:List Int} {prio par:Int} {canc:Bool} (hl:s.ends.length=s.tasks.length) (hp:par<0∨∃p:Nat,∃u,par=(p:Int)∧s.tasks[p]?=some u∧u.ending=0∧u.waits<0) :
 ∃tn o,(oU s c vs a prio par canc).tasks=s.tasks++[tn]∧(oU s c vs a prio par canc).ends=s.ends++[o]∧(oU s c vs a prio par canc).calls=s.calls++[lQ c vs (-1)] ∧
  tn.jZ=[s.calls.length]∧tn.jC=1∧tn.prio=prio∧tn.canc=canc∧tn.par=par∧tn.kids=[]∧tn.kg=[]∧tn.waits = -1∧tn.has = -1∧((tn.state=1∧tn.ending=0∧c.steps.length≠0)∨(tn.state=3∧tn.ending=3∧c.steps.length=0∧∃j,o=some j)):=by
 unfold oU;split
 ·rename_i h0;obtain ⟨S,hS⟩:∃S,S=(zw s c vs a prio par canc).jF s.tasks.length (j9 (mN s.calls.length prio canc par s.jE.length) 3):=⟨_,rfl⟩
  have qg:S.tasks=s.tasks++[j9 (mN s.calls.length prio canc par s.jE.length) 3]:=by rw [hS];simp [jv.jF,zw,jv.lJ,jv.ld,jv.kF]
  have SM:S.ends=s.ends++[none]:=by rw [hS];rfl
  have SQ:S.calls=s.calls++[lQ c vs (-1)]:=by rw [hS];rfl
  rw [← hS];have hn:S.tasks[s.tasks.length]?=some (j9 (mN s.calls.length prio canc par s.jE.length) 3):=by rw [qg];simp
  obtain ⟨S2,my⟩:∃S2,S2=(S.oa s.tasks.length s.jE.length).jF s.tasks.length { j9 (mN s.calls.length prio canc par s.jE.length) 3 with state:=3 }:=⟨_,rfl⟩
  have K1:S2.tasks=s.tasks++[{ j9 (mN s.calls.length prio canc par s.jE.length) 3 with state:=3 }]:=by
   rw [my];show S.tasks.set _ _=_;rw [qg];simp
  have e2e:S2.ends=s.ends++[some s.jE.length]:=by
   rw [my];show S.ends.set _ _=_;rw [SM,← hl];simp
  have e2c:S2.calls=s.calls++[lQ c vs (-1)]:=by rw [my];exact SQ
  have key:oe (s.tasks.length+1) S s.tasks.length=S2:=by
   simp only [oe,hn];rw [iZ (by simp [j9])];simp only [o8,j9,mN];rcases hp with hp|⟨p,u,rfl,hu,h1,h2⟩
   ·refine (ja hp).trans ?_;rw [my];rfl
   ·refine (iZ ae).trans ?_;have nG:p<s.tasks.length:=(dt hu).1;have IQ:S.tasks[p]?=some u:=by rw [qg,dA nG];exact hu
    simp only [dF,IQ];refine (iZ ae).trans ?_;obtain ⟨f,hf⟩:∃f,s.tasks.length=f+1:=⟨s.tasks.length-1,ae⟩
    have e3:(S.oa s.tasks.length s.jE.length).jF s.tasks.length { j9 (mN s.calls.length prio canc p s.jE.length) 3 with state:=3 }=S2:=by rw [my]
    simp only [j9,mN] at e3;rw [e3,hf];have avP:S2.tasks[p]?=some u:=by rw [K1,dA nG];exact hu
    simp only [oe,avP];rw [ja (.inl h1)]
  rw [key];exact ⟨_,_,K1,e2e,e2c,rfl,rfl,rfl,rfl,rfl,rfl,rfl,rfl,rfl,.inr ⟨rfl,rfl,h0,_,rfl⟩⟩
 ·rename_i h0;exact ⟨_,_,rfl,rfl,rfl,rfl,rfl,rfl,rfl,rfl,rfl,rfl,rfl,rfl,.inl ⟨rfl,rfl,h0⟩⟩
theorem aiE {s:jv} {l:List Int}:∀(m:Nat) (x:Int),x∈(qa s l m).2→∃i:Nat,x=(i:Int)∧i<m∧∃t,s.tasks[i]?=some t∧t.state=1∧yG s i=false:=by
 intro m
 induction m with
 | zero=>intro x h;simp [qa] at h
 | succ m ih =>
   intro x h;simp only [qa] at h;have up:(∃i:Nat,x=(i:Int)∧i<m∧∃t,s.tasks[i]?=some t∧t.state=1∧yG s i=false)→∃i:Nat,x=(i:Int)∧i<m+1∧∃t,s.tasks[i]?=some t∧t.state=1∧yG s i=false:=by
    rintro ⟨i,a,b,c⟩;exact ⟨i,a,ae,c⟩
   split at h
   ·rename_i t ht;split at h
    ·exact up (ih x h)
    ·rename_i hs;have h1:t.state=1:=Classical.byContradiction fun e=>hs (.inl e);have h2:yG s m=false:=by
      cases e:yG s m with
      | false=>rfl
      | true=>exact absurd (.inr e) hs
     split at h
     ·rw [dz] at h;exact ⟨m,h,ae,t,ht,h1,h2⟩
     ·split at h
      ·exact up (ih x h)
      ·rcases eg.1 h with h|h
       ·exact up (ih x h)
       ·rw [dz] at h;exact ⟨m,h,ae,t,ht,h1,h2⟩
   ·exact up (ih x h)
theorem uS.nx {s:jv} {n j:Nat} {t:jQ} {c:kh} {st:kG} {l:Lk} {k i:Nat} (h:uS s n t j c st l k i):N2 s n=some (j,c,st):=
 Nx.f ⟨h.ht,⟨i,h.hs,h.hj⟩,h.hc,⟨c.pc.toNat,(dP h.pc.1).symm,h.es⟩⟩
theorem afZ:∀(ks:List Int) (s:jv) (e:Nat),(o8 s e ks).1.tasks=s.tasks:=by
 intro ks
 induction ks with
 | nil=>intro s e;rfl
 | cons k ks ih =>
   intro s e;simp only [o8];split
   ·split
    ·exact ih _ _
    ·rfl
   ·rfl
theorem agA (s:jv) (p:Nat) (tp:jQ) (e:Nat):(qT s p tp e).tasks.length=s.tasks.length:=by
 unfold qT tL;split
 ·split
  ·simp [jv.jF,jv.ld,jv.o9]
  ·simp [jv.jF,jv.o9]
 ·simp [jv.jF,jv.o9]
theorem UD {S:jv→Nat→jv} (hS:∀s n,(S s n).tasks.length=s.tasks.length) (s:jv) (n j:Nat):(sK S s n j).tasks.length=s.tasks.length:=by
 unfold sK;cases ht:s.tasks[n]? with
 | none=>rfl
 | some t =>
   cases hc:s.calls[j]? with
   | none=>rfl
   | some c =>
     simp only;split
     ·rw [hS,lY];rfl
     ·rw [lY];rfl
theorem TZ:∀(f:Nat) (s:jv) (n:Nat),(oe f s n).tasks.length=s.tasks.length:=by
 intro f
 induction f with
 | zero=>intro s n;rfl
 | succ f ih =>
   intro s n;simp only [oe];split
   ·rfl
   ·rename_i t ht;split
    ·rfl
    ·have hk:=afZ t.kids s t.jX;split
     ·rename_i s1 e he;rw [he] at hk;simp only at hk;rw [hk]
     ·rename_i s1 e he;rw [he] at hk;simp only at hk;have h2:((s1.oa n e).jF n { t with state:=t.ending }).tasks.length=s.tasks.length:=by rw [lY];show s1.tasks.length=_;rw [hk]
      split
      ·exact h2
      ·split
       ·rw [hk]
       ·split
        ·rw [UD ih,agA,h2]
        ·rw [ih,h2]
theorem agB (s:jv) (n:Nat):(sL s n).tasks.length=s.tasks.length:=by
 unfold sL;split
 ·rw [TZ,lY];exact vy
 ·rfl
theorem aiD {s:jv} (h:GG s) (nN:s.turns.length<2000) {n j:Nat} {t:jQ} {c:kh} {st:kG} {l:Lk} {k i:Nat} (hT:uS s n t j c st l k i) (h1:t.state=1) :
 (tM s n j c st).turns=s.turns++[(n:Int)]∧s.tasks.length≤(tM s n j c st).tasks.length:=by
 obtain ⟨hi,hg,hz⟩:=h;obtain ⟨hK,kW⟩:=hT.tok hi hg hz h1;have GZ:=vB;have rm:=hz.ck;obtain ⟨t9,od,yY⟩:=Jz hK kW ae ae;have hZ:=DS s n c st;obtain ⟨vu,DA⟩:=LW s n c st;have yB:lZ (rz s n c st) c st=lZ s c st:=JF od c st;unfold tM;obtain ⟨s9,oE⟩:∃s9,s9=rz s n c st:=⟨_,rfl⟩
 rw [← oE] at od hZ vu DA yB ⊢;have B6:=od.iv;have G4:=hZ.gi hg;have qF:=od.tk;have oF:uS s9 n t9 j c st l k i:=hT.zs hZ.p hZ.calls qF od.vV.1 od.vV.2.1;have px:Tok 80000 s9 n j t9 c st:=hK.cs od ae;have N3:s9.jL.length≤200:=by rw [hZ.jL];exact hz.ob
 have Ra:s9.p.mb.toNat≤s9.jL.length:=by rw [hZ.jL,hZ.p];exact hz.ao
 have G5:jJ s9 n=t9:=oG qF;rw [G5];cases ni:lZ s c st with
 | false =>
   rw [ja rfl];exact ⟨by rw [(FF s9 n).turns,vu],by rw [agB,hZ.tl];exact dD _⟩
 | true =>
   rw [iZ ah];have hS:uK s9 n j t9 c st:={ px.cs (Cs.refl B6 qF) (k':=40000) ae with can:=by rw [yB];exact ni,bh:=yY }
   have qO:=Ve G4 N3 Ra hS oF (time:=s.turns.length);obtain ⟨r,hr⟩:∃r,r=kR s9 n j t9 c st s.turns.length:=⟨_,rfl⟩
   rw [← hr] at qO ⊢;obtain ⟨rb,pJ⟩:=r;have d0:=qO.turns;have d4:=qO.tl;simp only at d0 d4;have d5:s.tasks.length≤pJ.tasks.length:=by
    rw [d4,hZ.tl];split<;>omega
   cases rb with
   | false=>rw [ja rfl];exact ⟨by rw [d0,vu],d5⟩
   | true =>
     rw [iZ ah];unfold tg;simp only;obtain ⟨oN,sx⟩:∃oN,oN=if 0≤c.jM∧st.op≠12∧st.op≠9∧c.pc≠(c.code.steps.length:Int)-1 then tw pJ n c.jM else pJ:=⟨_,rfl⟩
     rw [← sx];have e1:oN.turns=pJ.turns:=by rw [sx];split<;>rfl
     have e2:oN.tasks.length=pJ.tasks.length:=by rw [sx];split;exact lY;rfl
     refine ⟨?_,?_⟩
     ·rw [(Hy (fun s n=>Fy _ s n) oN n j).turns,e1,d0,vu]
     ·rw [UD (TZ _),e2];exact d5
structure TH (s:jv) (n j:Nat) (t:jQ) (c:kh) (st:kG) (l:Lk) (k i:Nat):Prop where
 gg:GG s
 tn:s.turns.length<2000
 top:uS s n t j c st l k i
 sY:t.state=1
 tr:∀x∈s.turns,0≤x∧x<(s.tasks.length:Int)
theorem VV (s:jv):∃u,nf s={ s with used:=u }:=by
 unfold nf;split
 ·exact ⟨s.used,rfl⟩
 ·split
  ·exact ⟨_,rfl⟩
  ·exact ⟨s.used,rfl⟩
structure RJ (s:jv):Prop where
 gg:GG s
 tn:∀x∈s.turns,0≤x∧x<(s.tasks.length:Int)
 t0:0<s.tasks.length
theorem afX {s:jv} (h:GG s) (hr:rv s≠[]):∃(n j:Nat) (t:jQ) (c:kh) (st:kG) (l:Lk) (k i:Nat),xR s=(n:Int)∧uS (nf s) n t j c st l k i∧t.state=1∧vc (nf s) (xR s).toNat=tM (nf s) n j c st:=by
 obtain ⟨n,hn,_,t,ht,h1,h2⟩:=aiE _ _ (VZ hr);have hG:=Mr h;obtain ⟨e1,e2⟩:=O6 s;have nk:(nf s).tasks[n]?=some t:=by rw [e1];exact ht
 obtain ⟨j,c,st,l,k,i,hT⟩:=JJ hG.iv hG.gi nk h1;exact ⟨n,j,t,c,st,l,k,i,hn,hT,h1,by rw [hn,dF];exact hT.vc⟩
theorem akX {p:Tk} {sched:List Int} {cd:Cd} (hG:GG (vI p sched cd)) (hT:(vI p sched cd).turns=[]):RJ (vI p sched cd):=by
 refine ⟨hG,(by rw [hT];intro x hx;cases hx),?_⟩;unfold vI;obtain ⟨tn,o,a1,_⟩:=L0 (s:=mA p sched (p.mb.toNat+cd.params.toNat) p.mb.toNat (List.replicate (p.mb.toNat+1) m32)) (c:=cd) (vs:=mT p.mb.toNat cd.params.toNat) (a:=m32) (prio:=0) (par:=-1) (canc:=false) rfl (.inl ae);rw [a1];simp
def Ni (s:jv) (n:Nat) (c:kh) (st:kG) (time:Int):List Acc:=
 if st.op=2 then (if 0≤(nX s (lz c st.w)).2 then [⟨jR c n,lz c st.w,false,time⟩] else [⟨jR c n,lz c st.w,false,time⟩,⟨jR c n,lz c st.w,true,time⟩])
 else if st.op=3 then [⟨jR c n,lz c st.v,true,time⟩]
 else if st.op=4 then [⟨jR c n,lz c st.v,false,time⟩]
 else if st.op=5 then [⟨jR c n,lz c st.v,true,time⟩]
 else if st.op=8 then [⟨-1-(st.n.toNat:Int),st.n.toNat,true,time⟩]
 else []
theorem agV {s:jv} {n:Nat} {c:kh} {st:kG} {time:Int}:∀x∈Ni s n c st time,x.time=time:=by
 intro x hx;unfold Ni at hx
 (repeat' split at hx)<;>simp only [dC,dB,jd] at hx
 ·rw [hx]
 ·rcases hx with rfl|rfl<;>rfl
 all_goals rw [hx]
theorem afF (s:jv) (n j:Nat) (t:jQ) (c:kh) (st:kG) (time:Int):(kR s n j t c st time).2.jT=s.jT++Ni s n c st time∧(kR s n j t c st time).2.turns=s.turns∧(kR s n j t c st time).2.kK=s.kK:=by
 have h6:=Hw s (po s.p.kT st.task) (lN c st.vars) (s.jE.getD t.jX []) st.n n t.canc;have vM:=FF s n;unfold kR Ni;by_cases h1:st.op=1
 ·rw [ja h1,iZ ae,iZ ae,iZ ae,iZ ae,iZ ae];exact ⟨(fC _).symm,rfl,rfl⟩
 rw [iZ h1];by_cases h2:st.op=2
 ·rw [ja h2,ja h2];split
  ·exact ⟨rfl,rfl,rfl⟩
  ·exact ⟨eA _ [_] [_],rfl,rfl⟩
 rw [iZ h2,iZ h2];by_cases h3:st.op=3
 ·rw [ja h3,ja h3];exact ⟨rfl,rfl,rfl⟩
 rw [iZ h3,iZ h3];by_cases h4:st.op=4
 ·rw [ja h4,ja h4];exact ⟨rfl,rfl,rfl⟩
 rw [iZ h4,iZ h4];by_cases h5:st.op=5
 ·rw [ja h5,ja h5];exact ⟨rfl,rfl,rfl⟩
 rw [iZ h5,iZ h5];by_cases h8:st.op=8
 ·rw [iZ ae,iZ ae,ja h8,ja h8];exact ⟨rfl,rfl,rfl⟩
 rw [iZ h8,iZ h8,fC];by_cases Lj:st.op=6
 ·rw [ja Lj];exact ⟨h6.jT,h6.turns,h6.kK⟩
 rw [iZ Lj];split
 ·split<;>exact ⟨rfl,rfl,rfl⟩
 split
 ·split<;>exact ⟨rfl,rfl,rfl⟩
 split
 ·exact ⟨rfl,rfl,rfl⟩
 split
 ·split
  ·exact ⟨vM.jT,vM.turns,vM.kK⟩
  ·exact ⟨rfl,rfl,rfl⟩
 ·exact ⟨rfl,rfl,rfl⟩
theorem aeO {s:jv} {n j:Nat} {c:kh} {st:kG}:(∃l,(tM s n j c st).jT=s.jT++l∧∀x∈l,x.time=s.turns.length)∧(tM s n j c st).turns=s.turns++[(n:Int)]∧(tM s n j c st).kK.length=s.kK.length+1:=by
 have hZ:=DS s n c st;obtain ⟨vu,DA⟩:=LW s n c st;unfold tM;obtain ⟨s9,oE⟩:∃s9,s9=rz s n c st:=⟨_,rfl⟩
 rw [← oE] at hZ vu DA ⊢;split
 ·have hF:=FF s9 n;exact ⟨⟨[],by rw [hF.jT,hZ.jT,fC],fun x hx=>by cases hx⟩,by rw [hF.turns,vu],by rw [hF.kK,DA]⟩
 obtain ⟨a1,a2,a3⟩:=afF s9 n j (jJ s9 n) c st s.turns.length;obtain ⟨r,hr⟩:∃r,r=kR s9 n j (jJ s9 n) c st s.turns.length:=⟨_,rfl⟩
 rw [← hr] at a1 a2 a3 ⊢;have b1:∃l,r.2.jT=s.jT++l∧∀x∈l,x.time=s.turns.length:=⟨_,by rw [a1,hZ.jT],agV⟩
 split
 ·exact ⟨b1,by rw [a2,vu],by rw [a3,DA]⟩
 unfold tg;obtain ⟨oN,sx⟩:∃oN,oN=if 0≤c.jM∧st.op≠12∧st.op≠9∧c.pc≠(c.code.steps.length:Int)-1 then tw r.2 n c.jM else r.2:=⟨_,rfl⟩
 rw [← sx];have e1:oN.turns=r.2.turns∧oN.kK=r.2.kK∧oN.jT=r.2.jT:=by rw [sx];split<;>exact ⟨rfl,rfl,rfl⟩
 have hF:=Hy (fun s n=>Fy (n+1) s n) oN n j;have hF:=Hy (S:=oe (n+1)) (fun s m=>Fy (n+1) s m) oN n j;obtain ⟨l,b2,b3⟩:=b1;exact ⟨⟨l,by rw [hF.jT,e1.2.2,b2],b3⟩,by rw [hF.turns,e1.1,a2,vu],by rw [hF.kK,e1.2.1,a3,DA]⟩
end Go.Ab
