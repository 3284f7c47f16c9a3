/- Part. -/
import Derived.Test.YthgicbkdckpeaaaDoorG12
set_option linter.unusedSimpArgs false
set_option linter.unusedVariables false
set_option maxHeartbeats 4000000
namespace Go.Ab.Rf
open Go Go.Ab Go.Proofs Go.Ab.Ty
def jz.jF (s:jz) (k:Nat) (t:km):jz:={ s with tasks:=s.tasks.set k t }
theorem lq {s:jz} {k:Nat} {t t':km} (ht:s.tasks[k]?=some t):(s.jF k t').tasks[k]?=some t':=by
 unfold jz.jF;simp only;rw [ee (dt ht).1]
theorem mw {s:jz} {k j:Nat} {t':km} (h:k≠j):(s.jF k t').tasks[j]?=s.tasks[j]?:=by
 unfold jz.jF;simp only;rw [dS h]
theorem lY {s:jz} {k:Nat} {t':km}:(s.jF k t').tasks.length=s.tasks.length:=dW
theorem FC {s:jz} {k:Nat} {t':km} {a:Nm} (h0:a≠.tk) (h2:a≠.jH k) (h3:a≠.lU k) (h4:a≠.kg k):blk (s.jF k t') a=blk s a:=by
 cases a with
 | jH j=>simp only [blk];rw [mw fun e=>h2 bP]
 | lU j=>simp only [blk];rw [mw fun e=>h3 bP]
 | kg j=>simp only [blk];rw [mw fun e=>h4 bP]
 | rn=>simp only [blk,lE,jz.jF,dW]
 | tk=>exact absurd rfl h0
 | _=>rfl
theorem wM {s':jz} {a:Nm} {A:jy} (h1:ix a<NN∧A=blk s' a):∀p∈[(a,A)],ix p.1<NN∧p.2=blk s' p.1:=fun p hp=>by
 rw [dz] at hp;subst hp;exact h1
theorem vF {s':jz} {a b:Nm} {A B:jy} (h1:ix a<NN∧A=blk s' a) (h2:ix b<NN∧B=blk s' b):∀p∈[(a,A),(b,B)],ix p.1<NN∧p.2=blk s' p.1:=fun p hp=>by
 simp only [dC,dB,jd] at hp;rcases hp with rfl|rfl
 ·exact h1
 ·exact h2
theorem VB {s:jz} {k:Nat} {t t':km} (ht:s.tasks[k]?=some t) (h1:t'.jH=t.jH) (h2:t'.kids=t.kids) (h3:t'.turns=t.turns):(RH s).set (ix .tk) ⟨94,11,(uI s.tasks).set k (oI k t')⟩=RH (s.jF k t'):=by
 refine vz (s:=s) (s':=s.jF k t') [(.tk,_)] (wM ⟨sj,by rw [JC];rfl⟩) fun a ha=>?_;simp only [ef,ez,dz] at ha;by_cases e2:a=.jH k
 ·subst e2;simp only [blk];rw [lq ht,ht];simp only [h1]
 by_cases e3:a=.lU k
 ·subst e3;simp only [blk];rw [lq ht,ht];simp only [h2]
 by_cases e4:a=.kg k
 ·subst e4;simp only [blk];rw [lq ht,ht];simp only [h3]
 exact FC ha e2 e3 e4
theorem WF.jF {s:jz} (hw:WF s) {k:Nat} {t t':km} (ht:s.tasks[k]?=some t) (h1:t'.jH=t.jH) (h2:t'.kids=t.kids) (h3:t'.turns=t.turns) (h4:t'.jC≤t.jC):WF (s.jF k t'):=by
 refine ⟨by rw [lY];exact hw.nT,hw.nF,fun u hu=>?_,hw.sz⟩;rcases eu hu with hu|rfl
 ·exact hw.lv u hu
 ·obtain ⟨a1,a2,a3,a4,a5⟩:=hw.lv t (dx ht);exact ⟨by rw [h1];omega,by rw [h1];exact a2,by rw [h2];exact a3,by rw [h3];exact a4,by rw [h1];exact a5⟩
theorem WF.k {s:jz} (hw:WF s) {k:Nat} {t:km} (ht:s.tasks[k]?=some t):ix (.jH k)<NN∧ix (.lU k)<NN∧ix (.kg k)<NN∧k<s.tasks.length∧(uI s.tasks)[k]?=some (oI k t):=by
 have hk:k<s.tasks.length:=(dt ht).1;exact ⟨mq (tY hw (a:=.jH k) hk),mq (tY hw (a:=.lU k) hk),mq (tY hw (a:=.kg k) hk),hk,DZ ht⟩
section
variable {H:List jy} {ρ:Operand→AV}
theorem A0 {x i:Operand} {l:List km} {k:Nat} (hx:ρ x=.own (ix .tk) l.length 0 l.length) (hi:ρ i=.int k) (hb:H[ix .tk]?=some (qB l)) (hk:k<l.length):QL Tryd.prog H ρ (.indexAddr 48 x i) (.ptr (ix .tk) l.length k 0):=
 lu hx hi Tryd.underlying48 hb (FG l) hk MR
theorem ND {x i:Operand} {l:List lM} {k n len:Nat} (hx:ρ x=.own (ix (.jH k)) l.length 0 len) (hi:ρ i=.int n) (hb:H[ix (.jH k)]?=some (tt l)) (hn:n<len):QL Tryd.prog H ρ (.indexAddr 92 x i) (.ptr (ix (.jH k)) l.length n 0):=
 lu hx hi gH hb ah hn MF
theorem NF {x i:Operand} {L:List kG} {q:Nat} {st:kG} (hx:ρ x=.jA (L.map ki)) (hi:ρ i=.int q) (h:(L.map ki)[q]?=some (ki st)):QL Tryd.prog H ρ (.indexAddr 66 x i) ((ki st).kN 0):=
 wC hx hi fg ae (e:=ki st) h ag
theorem Cv {s:jz} {ty:TypeId} {x y:Operand} {k off:Nat} {t t':km} {v:AV} (ht:s.tasks[k]?=some t) (hx:ρ x=.ptr (ix .tk) s.tasks.length k off) (hy:ρ y=v) (kA:lW Tryd.prog ty=some v.cells.length) (hc:ru v=true) (jP:BK (oI k t) off v.cells=some (oI k t')) (h1:t'.jH=t.jH) (h2:t'.kids=t.kids) (h3:t'.turns=t.turns) :
 PL Tryd.prog (RH s) ρ (.store ty x y) .bad (RH (s.jF k t')):=by
 have h:=qP (P:=Tryd.prog) (H:=RH s) (t:=ty) (blk:=qB s.tasks) hx hy (nj s .tk sj) (FG _) (DZ ht) kA hc jP;rw [← VB ht h1 h2 h3];exact h
theorem JQ {s:jz} {T:List jy} {ty:TypeId} {x y:Operand} {k off:Nat} {t t':km} {v:AV} (ht:s.tasks[k]?=some t) (hx:ρ x=.ptr (ix .tk) s.tasks.length k off) (hy:ρ y=v) (kA:lW Tryd.prog ty=some v.cells.length) (hc:ru v=true) (jP:BK (oI k t) off v.cells=some (oI k t')) (h1:t'.jH=t.jH) (h2:t'.kids=t.kids) (h3:t'.turns=t.turns) :
 PL Tryd.prog (RH s++T) ρ (.store ty x y) .bad (RH (s.jF k t')++T):=by
 have h:=qP (P:=Tryd.prog) (H:=RH s++T) (t:=ty) (blk:=qB s.tasks) hx hy (by rw [mZ (kv s) sj];exact nj s .tk sj) (FG _) (DZ ht) kA hc jP;rw [o7 (kv s) sj] at h;rw [← VB ht h1 h2 h3];exact h
end
section
variable {p q:Prop}
theorem pw (h:q) (k:Hid q→p:=by intro xn;(repeat (first|(with_reducible first|apply zs|apply zN|apply z1|apply z2|apply z3|apply z4|apply z5|apply z6|refine z7 rfl ?_|apply zb|apply zk|apply zr|apply ze|apply y1|apply y2|apply y3|apply y4)|((with_reducible apply zR);(refine ⟨rfl,rfl,?_⟩;simp +decide only [go_sem, *,List.map];rfl))|((with_reducible apply zG);(simp +decide only [go_sem, *];rfl);(simp +decide only [go_sem, *];(repeat simp +decide only [go_sem, *]);rfl))|(refine zp rfl rfl (xW aD rfl) ?_)|(refine zp rfl rfl (wD aI rfl) ?_)|(refine zp rfl rfl (qP aD aD aD bU bU ag bU bU) ?_)|(refine zq rfl rfl (qi rfl rfl aI aN ag) ?_)|(refine zq rfl rfl (qo rfl rfl aI rfl aN bn) ?_)|(refine zq rfl rfl (qw 0 _ rfl rfl bz aN bn) ?_)|(refine zq rfl rfl (qb aI aI az ag aO aO bU) ?_)|(refine zq rfl rfl (qn rfl rfl) ?_)|(refine zq rfl rfl (qx rfl rfl) ?_)|(refine zq rfl rfl (A0 rfl rfl aa bM) ?_)|(refine zq rfl rfl (ND rfl rfl aa bM) ?_)|(refine zq rfl rfl (NF rfl rfl bM) ?_)));exact xn.out):p:=k ⟨h⟩
end
theorem HN (t:Int) (h:-1000000≤t) (h2:t≤1000000):Fn Tryd.prog 71 [.int t] (.int (2000+t)):=by
 refine Fn.nZ [(0,.int t)] 1 5 Tryd.func71 ag rfl rfl rfl rfl rfl ?_;refine pw ?_;rw [nP (x:=2000+t) ae ae];exact kO.data rfl rfl (.base _)
theorem yv {s:jz} (hw:WF s) {k:Nat} {t:km} (ht:s.tasks[k]?=some t):jS Tryd.prog 44 [jI,.int k] (RH s) (.bool (decide (2<t.state))) (RH s):=by
 obtain ⟨g1,g2,g3,g4,g5⟩:=hw.k ht;refine jS.i2 [(0,jI),(1,.int k)] 2 14 NN Tryd.func44 (kv s) ?_;refine pw ?_;exact kY.same (vs:=[.bool (decide (t.state>2))]) ag rfl rfl
section
variable {n:Fr} {HS:Nat→List jy} {o:lx} {l:List lx} {sl:List (Option Nat)} {E:Env} {v:AV} {K:Env→Prop} {x i:Operand} {L:List km} {k:Nat}
theorem Dg {H:List jy} {ρ:Operand→AV} (hx:ρ x=.own (ix .tk) L.length 0 L.length) (hi:ρ i=.int k) (hb:H[ix .tk]?.map (·.es.length)=some L.length∧H[ix .tk]?.map (·.sz)=some 11) (hk:k<L.length):QL Tryd.prog H ρ (.indexAddr 48 x i) (.ptr (ix .tk) L.length k 0):=by
 obtain ⟨b1,b2⟩:=hb;cases hb:H[ix .tk]? with
 | none=>rw [hb] at b1;cases b1
 | some B =>
   rw [hb] at b1 b2;injection b1 with b1;injection b2 with b2;have b2:B.sz=11:=b2;exact lu hx hi Tryd.underlying48 hb b1 hk (by rw [b2];exact MR)
theorem gI (hr:ko Tryd.prog n HS 1 l sl K (mF E o.dst v)) (hg:o.g=none) (hd:mB n o.dst=true) (h0:QL Tryd.prog (HS 0) (ev E) o.op v) (h1:QL Tryd.prog (HS 1) (ev E) o.op v):ko Tryd.prog n HS 1 (o::l) (none::sl) K E:=
 .q1 hg hd (fun c hc=>cL) hr
theorem gT (hr:ko Tryd.prog n HS 1 l sl K (mF E o.dst (.ptr (ix .tk) L.length k 0))) (hg:o.g=none:=by rfl) (hd:mB n o.dst=true:=by rfl) (ho:o.op=.indexAddr 48 x i:=by rfl) (hx:ev E x=.own (ix .tk) L.length 0 L.length:=by rfl) (hi:ev E i=.int k:=by rfl) (h0:(HS 0)[ix .tk]?=some (qB L):=by (simp +decide only [go_sem, *]<;>rfl)) (h1:(HS 1)[ix .tk]?=some (qB L):=by (simp +decide only [go_sem, *]<;>rfl)) (hk:k<L.length:=by assumption):ko Tryd.prog n HS 1 (o::l) (none::sl) K E:=
 gI hr hg hd (by rw [ho];exact A0 hx hi h0 hk) (by rw [ho];exact A0 hx hi h1 hk)
theorem gU {L:List lM} {len q:Nat} (hr:ko Tryd.prog n HS 1 l sl K (mF E o.dst (.ptr (ix (.jH k)) L.length q 0))) (hg:o.g=none:=by rfl) (hd:mB n o.dst=true:=by rfl) (ho:o.op=.indexAddr 92 x i:=by rfl) (hx:ev E x=.own (ix (.jH k)) L.length 0 len:=by rfl) (hi:ev E i=.int q:=by rfl) (h0:(HS 0)[ix (.jH k)]?=some (tt L):=by (simp +decide only [go_sem, *]<;>rfl)) (h1:(HS 1)[ix (.jH k)]?=some (tt L):=by (simp +decide only [go_sem, *]<;>rfl)) (hk:q<len:=by assumption):ko Tryd.prog n HS 1 (o::l) (none::sl) K E:=
 gI hr hg hd (by rw [ho];exact ND hx hi h0 hk) (by rw [ho];exact ND hx hi h1 hk)
theorem gV {L:List kG} {q:Nat} {st:kG} (hr:ko Tryd.prog n HS 1 l sl K (mF E o.dst ((ki st).kN 0))) (hg:o.g=none:=by rfl) (hd:mB n o.dst=true:=by rfl) (ho:o.op=.indexAddr 66 x i:=by rfl) (hx:ev E x=.jA (L.map ki):=by rfl) (hi:ev E i=.int q:=by rfl) (h:(L.map ki)[q]?=some (ki st):=by assumption):ko Tryd.prog n HS 1 (o::l) (none::sl) K E:=
 gI hr hg hd (by rw [ho];exact NF hx hi h) (by rw [ho];exact NF hx hi h)
theorem gI3 (hr:ko Tryd.prog n HS 3 l sl K (mF E o.dst v)) (hg:o.g=none) (hd:mB n o.dst=true) (h0:QL Tryd.prog (HS 0) (ev E) o.op v) (h1:QL Tryd.prog (HS 1) (ev E) o.op v) (h2:QL Tryd.prog (HS 2) (ev E) o.op v) (h3:QL Tryd.prog (HS 3) (ev E) o.op v):ko Tryd.prog n HS 3 (o::l) (none::sl) K E:=
 .q1 hg hd (fun c hc=>by rcases (by omega:c=0∨c=1∨c=2∨c=3) with h|h|h|h<;>subst h<;>assumption) hr
theorem Sf (hr:ko Tryd.prog n HS 3 l sl K (mF E o.dst (.ptr (ix .tk) L.length k 0))) (hg:o.g=none:=by rfl) (hd:mB n o.dst=true:=by rfl) (ho:o.op=.indexAddr 48 x i:=by rfl) (hx:ev E x=.own (ix .tk) L.length 0 L.length:=by rfl) (hi:ev E i=.int k:=by rfl) (h0:(HS 0)[ix .tk]?.map (·.es.length)=some L.length∧(HS 0)[ix .tk]?.map (·.sz)=some 11:=by (constructor<;>simp +decide only [go_sem,eJ, *])) (h1:(HS 1)[ix .tk]?.map (·.es.length)=some L.length∧(HS 1)[ix .tk]?.map (·.sz)=some 11:=by (constructor<;>simp +decide only [go_sem,eJ, *])) (h2:(HS 2)[ix .tk]?.map (·.es.length)=some L.length∧(HS 2)[ix .tk]?.map (·.sz)=some 11:=by (constructor<;>simp +decide only [go_sem,eJ, *])) (h3:(HS 3)[ix .tk]?.map (·.es.length)=some L.length∧(HS 3)[ix .tk]?.map (·.sz)=some 11:=by (constructor<;>simp +decide only [go_sem,eJ, *])) (hk:k<L.length:=by assumption):ko Tryd.prog n HS 3 (o::l) (none::sl) K E:=
 gI3 hr hg hd (by rw [ho];exact Dg hx hi h0 hk) (by rw [ho];exact Dg hx hi h1 hk) (by rw [ho];exact Dg hx hi h2 hk) (by rw [ho];exact Dg hx hi h3 hk)
theorem tV {P:Program} (hr:ko P n HS 2 l sl K (mF E o.dst v)) (hg:o.g=none:=by rfl) (hd:mB n o.dst=true:=by rfl) (h0:qe P (HS 0) (ev E) o.op=some v:=by (simp +decide only [go_sem, *]<;>rfl)) (h1:qe P (HS 1) (ev E) o.op=some v:=by (simp +decide only [go_sem, *]<;>rfl)) (h2:qe P (HS 2) (ev E) o.op=some v:=by (simp +decide only [go_sem, *]<;>rfl)):ko P n HS 2 (o::l) (none::sl) K E:=
 .q1 hg hd (fun c hc=>by rcases (by omega:c=0∨c=1∨c=2) with h|h|h<;>subst h<;>exact HL bM) hr
theorem Sg {P:Program} (hr:ko P n HS 3 l sl K (mF E o.dst v)) (hg:o.g=none:=by rfl) (hd:mB n o.dst=true:=by rfl) (h0:qe P (HS 0) (ev E) o.op=some v:=by (simp +decide only [go_sem, *]<;>rfl)) (h1:qe P (HS 1) (ev E) o.op=some v:=by (simp +decide only [go_sem, *]<;>rfl)) (h2:qe P (HS 2) (ev E) o.op=some v:=by (simp +decide only [go_sem, *]<;>rfl)) (h3:qe P (HS 3) (ev E) o.op=some v:=by (simp +decide only [go_sem, *]<;>rfl)):ko P n HS 3 (o::l) (none::sl) K E:=
 .q1 hg hd (fun c hc=>by rcases (by omega:c=0∨c=1∨c=2∨c=3) with h|h|h|h<;>subst h<;>exact HL bM) hr
end
def Ki {α:Type} (f:α→Prop):List α→Prop
 | []=>True
 | x::l=>f x∧Ki f l
theorem Ki.at {α:Type} {f:α→Prop}:∀ {l:List α},Ki f l→∀x∈l,f x
 | [],_,x,hx=>by cases hx
 | y::l,h,x,hx=>by
   rcases dC.1 hx with rfl|hx
   ·exact h.1
   ·exact Ki.at h.2 x hx
section
variable {n:Fr} {HS:Nat→List jy} {o:lx} {l:List lx} {sl:List (Option Nat)} {b:List Nat} {bl:List (List Nat)} {E:Env} {v:AV} {K:Env→Prop} {P:Program}
theorem gM (hr:nA P n HS l sl bl K (mF E o.dst v)) (hg:o.g=none:=by rfl) (hd:mB n o.dst=true:=by rfl) (h:Ki (fun S=>qe P (HS S) (ev E) o.op=some v) b:=by (repeat' apply And.intro)<;>first|exact trivial|(simp +decide only [go_sem, *]<;>rfl)):nA P n HS (o::l) (none::sl) (b::bl) K E:=
 .q1 hg hd (fun S hS=>HL (h.at S hS)) hr
theorem IB {id k:Nat} {ops:Array Oper} {D:List (Option Tmp)} {l1 l2:List lx} {Q:Exit→ku→Prop} {s:ku} (sl:List (Option Nat)) (bl:List (List Nat)) (HS:Nat→List jy) (m:Nat) (hm:P.follows .mixedOrders=true) (h1:nA P n HS l1 sl bl (fun E'=>jB P n false l2 (Q .normal) ⟨E',HS (2 ^ m-1)⟩) s.env)
 (h:Bt ops k D l1 l2:=by (refine ⟨rfl,rfl,ag,az,?_,?_⟩;(simp +decide only [go_sem,List.map,List.take];rfl);(simp +decide only [go_sem,List.map,List.drop];rfl)))
 (hg:JO sl bl ops k m=true:=by kernel_rfl) (h0:HS 0=s.H:=by rfl):jG P n (.region id ops true) Q s:=.amS sl bl HS m hm h hg h0 h1
end
section
variable {H:List jy} {ρ:Operand→AV}
theorem CQ {x:Operand} {v:Int} (hx:ρ x=.int v):QL Tryd.prog H ρ (.buildSlice 25 1 #[(0,x)]) (.jA [.int v]):=
 DX dG ny az ag az (by simp only [List.map];rw [hx];rfl) (by simp only [List.map];rw [hx]) rfl
theorem Ao {s x:Operand} {b:Nat} {l:List Int} {v:Int} (hs:ρ s=.own b l.length 0 l.length) (hx:ρ x=.jA [.int v]) (hb:H[b]?=some (jD l)) (hl:l.length≤10000000) :
 PL Tryd.prog H ρ (.call { callee:=.builtin .append,args:=#[s,x],argTypes:=#[25,25] }) (.own b (l.length+1) 0 (l.length+1)) (H.set b (jD (l++[v]))):=by
 have h1:=tX (P:=Tryd.prog) (H:=H) (ρ:=ρ) (b:=b) (tot:=l.length) (es:=[.int v]) (blk:=jD l) hs hx hb ah dG ug rfl rfl ah (fun e he=>aw) aj aj;have he:(jD (l++[v]))=⟨(jD l).ty,(jD l).sz,(jD l).es++[.int v]⟩:=ah;rw [he];exact h1
end
def jz.nw (s:jz) (x:Int×Int):jz:={ s with after:=s.after++[x] }
def jz.kE (s:jz) (x:Acc):jz:={ s with jT:=s.jT++[x] }
def jz.ll (s:jz) (n:Int):jz:={ s with kr:=s.kr++[-1],ml:=s.ml++[n] }
theorem akA {s:jz} {x:Int×Int}:((RH s).set (ix .en) (IF (s.after++[x]))).set (ix .rn) (lE (s.nw x))=RH (s.nw x):=by
 refine vz (s:=s) (s':=s.nw x) [(.en,_),(.rn,_)] (vF ⟨mq trivial,rfl⟩ ⟨mc,rfl⟩) fun a ha=>?_;cases a<;>first|rfl|simp at ha
theorem akB {s:jz} {x:Acc}:((RH s).set (ix .ac) ⟨73,4,(s.jT++[x]).map oJ⟩).set (ix .rn) (lE (s.kE x))=RH (s.kE x):=by
 refine vz (s:=s) (s':=s.kE x) [(.ac,_),(.rn,_)] (vF ⟨Cz,rfl⟩ ⟨mc,rfl⟩) fun a ha=>?_;cases a<;>first|rfl|simp at ha
theorem anB {s:jz} {n:Int}:(((RH s).set (ix .ob) (jD (s.kr++[-1]))).set (ix .ck) (jD (s.ml++[n]))).set (ix .rn) (lE (s.ll n))=RH (s.ll n):=by
 refine vz (s:=s) (s':=s.ll n) [(.ob,_),(.ck,_),(.rn,_)] (fun p hp=>?_) fun a ha=>?_
 ·simp only [dC,dB,jd] at hp;rcases hp with rfl|rfl|rfl
  ·exact ⟨Bp,rfl⟩
  ·exact ⟨zo,rfl⟩
  ·exact ⟨mc,rfl⟩
 ·cases a<;>first|rfl|simp at ha
theorem WF.nw {s:jz} (hw:WF s) {x:Int×Int} (h:s.after.length<1000000000):WF (s.nw x):=
 ⟨hw.nT,hw.nF,hw.lv,by obtain ⟨a1,a2,a3,a4,a5,a6,a7⟩:=hw.sz;exact ⟨a1,a2,a3,a4,a5,a6,by simp [jz.nw];omega⟩⟩
theorem WF.kE {s:jz} (hw:WF s) {x:Acc} (h:s.jT.length<1000000):WF (s.kE x):=
 ⟨hw.nT,hw.nF,hw.lv,by obtain ⟨a1,a2,a3,a4,a5,a6,a7⟩:=hw.sz;exact ⟨a1,a2,a3,by simp [jz.kE];omega,a5,a6,a7⟩⟩
theorem WF.ll {s:jz} (hw:WF s) {n:Int} (h:s.kr.length<1000000):WF (s.ll n):=
 ⟨hw.nT,hw.nF,hw.lv,by obtain ⟨a1,a2,a3,a4,a5,a6,a7⟩:=hw.sz;exact ⟨by simp [jz.ll];omega,by simp [jz.ll];omega,a3,a4,a5,a6,a7⟩⟩
theorem Hv {s:jz} (hw:WF s) (a b:Int) (hb:s.after.length<1000000000):jS Tryd.prog 69 [jI,.int a,.int b] (RH s) (.ky []) (RH (s.nw (a,b))):=by
 refine jS.i2 [(0,jI),(1,.int a),(2,.int b)] 3 18 NN Tryd.func69 (kv s) ?_;have lF:=akA (s:=s) (x:=(a,b));have hr:lE (s.nw (a,b))=vO s.p s.tasks.length s.kr.length s.ml.length s.lines.length s.jT.length s.turns.length s.jV.length (s.after.length+1) s.at':=by
  simp only [lE,jz.nw,dK,dO]
 rw [hr] at lF;have HX:=Hid.mk lF;clear lF hr;refine pw ?_;refine jB.q2 (afJ (cs:=[.int a,.int b]) Tryd.underlying63 ny anC (by simp only [afK];rfl)) ?_;refine pw ?_;have kA:=hw.sz.2.2.2.2.2.2;refine jB.p2 (tX (b:=ix .en) (tot:=s.after.length) (es:=[qH (a,b)]) (blk:=IF s.after) aa aa aa ah Tryd.underlying49 atU rfl rfl ah (fun e he=>aw) aj aj) ?_;have he:(⟨63,2,s.after.map qH++[qH (a,b)]⟩:jy)=IF (s.after++[(a,b)]):=ah;rw [he];refine pw ?_;exact kY.same (vs:=[]) ar rfl HX.out
theorem Ck {s:jz} (hw:WF s) (n:Int) (hb:s.kr.length<1000000):jS Tryd.prog 46 [jI,.int n] (RH s) (.int s.kr.length) (RH (s.ll n)):=by
 refine jS.i2 [(0,jI),(1,.int n)] 2 30 NN Tryd.func46 (kv s) ?_;refine pw ?_;obtain ⟨H1,xM⟩:∃H1,H1=(RH s).set (ix .ob) (jD (s.kr++[-1])):=⟨_,rfl⟩
 obtain ⟨H2,sG⟩:∃H2,H2=H1.set (ix .ck) (jD (s.ml++[n])):=⟨_,rfl⟩
 obtain ⟨H3,yR⟩:∃H3,H3=H2.set (ix .rn) (vO s.p s.tasks.length (s.kr.length+1) s.ml.length s.lines.length s.jT.length s.turns.length s.jV.length s.after.length s.at'):=⟨_,rfl⟩
 have l1:H1.length=NN:=by rw [xM,qG,kv]
 have l2:H2.length=NN:=by rw [sG,qG,l1]
 have l3:H3.length=NN:=by rw [yR,qG,l2]
 have a1:H1[ix .rn]?=some (lE s):=cB;have a2:H2[ix .rn]?=some (lE s):=by rw [sG,qQ l1 zo,iZ az,a1]
 have a3:H3[ix .rn]?=some (vO s.p s.tasks.length (s.kr.length+1) s.ml.length s.lines.length s.jT.length s.turns.length s.jV.length s.after.length s.at'):=by rw [yR,qQ l2 mc,ja rfl]
 have b0:(RH s)[ix .rn]?=some (lE s):=nj s .rn mc;have b1:H1[ix .ck]?=some (jD s.ml):=by rw [xM,qQ (kv s) Bp,iZ az];exact nj s .ck zo
 have sQ:H3.set (ix .rn) (vO s.p s.tasks.length (s.kr.length+1) (s.ml.length+1) s.lines.length s.jT.length s.turns.length s.jV.length s.after.length s.at')=RH (s.ll n):=by
  have hr:lE (s.ll n)=vO s.p s.tasks.length (s.kr.length+1) (s.ml.length+1) s.lines.length s.jT.length s.turns.length s.jV.length s.after.length s.at':=by
   simp only [lE,jz.ll,dK,dO]
  rw [yR,sG,xM,List.set_set,← hr];exact anB
 have Kj:=Hid.mk xM;have atV:=Hid.mk sG;have atW:=Hid.mk yR;clear xM sG yR;refine IB (k:=18) [none,none,none,none,none,none,none,some 0,none,none,none,none,none,none,some 1,none,none,some 2] [[0,1,2,3,4,5,6,7],[0,1,2,3,4,5,6,7],[0,1,2,3,4,5,6,7],[0,1,2,3,4,5,6,7],[0,1,2,3,4,5,6,7],[0,2],[0,2,4,6],[0],[0,1,2,3,4,5,6,7],[0,1,2,3,4,5,6,7],[0,1,2,3,4,5,6,7],[0,1],[0,1,2,3,4,5,6,7],[0,1,4,5],[1],[0,1,2,3,4,5,6,7],[0,1,2,3],[3]] (fun S=>match S with
  | 0=>RH s
  | 1=>H1
  | 2=>RH s
  | 3=>H2
  | _=>H3) 3 follows ?_
 repeat refine gM ?_
 refine nA.q1 rfl rfl (fun S _=>CQ rfl) ?_;refine nA.p1 rfl rfl (fun S hS kB h=>by
  rw [dz] at hS;subst hS;have h1:=Ao (H:=RH s) (ρ:=kB) (b:=ix .ob) (l:=s.kr) (v:=-1) ((h (.tmp 10) ai).trans rfl) ((h (.tmp 11) ai).trans rfl) (nj s .ob Bp) ae;rw [← Kj.out] at h1;exact h1) ?_
 repeat refine gM ?_
 refine nA.q1 rfl rfl (fun S _=>CQ rfl) ?_;refine nA.p1 rfl rfl (fun S hS kB h=>by
  rw [dz] at hS;subst hS;have h1:=Ao (H:=H1) (ρ:=kB) (b:=ix .ck) (l:=s.ml) (v:=n) ((h (.tmp 16) ai).trans rfl) ((h (.tmp 18) ai).trans rfl) b1 (by have:=hw.sz.2.1;omega);rw [← atV.out] at h1;exact h1) ?_
 repeat refine gM ?_
 refine nA.p1 (v:=.bad) rfl rfl (fun S hS kB h=>by
  rw [dz] at hS;subst hS;have h1:=qP (P:=Tryd.prog) (ρ:=kB) (t:=25) (H:=H2) (b:=ix .rn) (tot:=1) (i:=0) (off:=4) (blk:=lE s) (e':=.agg [.jA (s.p.kT.map kx),.jA (s.p.methods.map kx),.int s.p.mb,.own (ix .tk) s.tasks.length 0 s.tasks.length,.own (ix .ob) (s.kr.length+1) 0 (s.kr.length+1),.own (ix .ck) s.ml.length 0 s.ml.length,.own (ix .ln) s.lines.length 0 s.lines.length,.own (ix .ac) s.jT.length 0 s.jT.length,.own (ix .tn) s.turns.length 0 s.turns.length,.own (ix .at') s.jV.length 0 s.jV.length,.own (ix .en) s.after.length 0 s.after.length,.int s.at']) ((h (.tmp 21) au).trans rfl) ((h (.tmp 12) au).trans rfl) a2 rfl rfl Ej rfl rfl;have h2:H2.set (ix .rn) { lE s with es:=(lE s).es.set 0 (.agg [.jA (s.p.kT.map kx),.jA (s.p.methods.map kx),.int s.p.mb,.own (ix .tk) s.tasks.length 0 s.tasks.length,.own (ix .ob) (s.kr.length+1) 0 (s.kr.length+1),.own (ix .ck) s.ml.length 0 s.ml.length,.own (ix .ln) s.lines.length 0 s.lines.length,.own (ix .ac) s.jT.length 0 s.jT.length,.own (ix .tn) s.turns.length 0 s.turns.length,.own (ix .at') s.jV.length 0 s.jV.length,.own (ix .en) s.after.length 0 s.after.length,.int s.at']) }=H3:=atW.out.symm;rw [h2] at h1;exact h1) ?_
 refine nA.nil ?_;show jB _ _ _ _ _ ⟨_,H3⟩;refine pw ?_;have hl:IntKind.i64.wrap (((s.ll n).kr.length:Int)-1)=s.kr.length:=by
  rw [show (s.ll n).kr.length=s.kr.length+1 by simp [jz.ll],nP ae ae];omega
 rw [hl];exact kY.same (vs:=[.int s.kr.length]) ag rfl rfl
theorem FI {s:jz} (hw:WF s) (who o:Int) (w:Bool) (hb:s.jT.length<1000000):jS Tryd.prog 95 [jI,.int who,.int o,.base (.bool w)] (RH s) (.ky []) (RH (s.kE (⟨who,o,w,(s.turns.length:Int)-1⟩:Acc))):=by
 refine jS.i2 [(0,jI),(1,.int who),(2,.int o),(3,.base (.bool w))] 4 27 NN Tryd.func95 (kv s) ?_;obtain ⟨tm,n9⟩:∃tm,tm=(s.turns.length:Int)-1:=⟨_,rfl⟩
 have oh:IntKind.i64.wrap ((s.turns.length:Int)-1)=tm:=by have:=hw.sz.2.2.2.2.1;rw [n9];exact nP ae ae
 rw [← n9];obtain ⟨H1,xM⟩:∃H1,H1=(RH s).set (ix .ac) ⟨73,4,(s.jT++[(⟨who,o,w,tm⟩:Acc)]).map oJ⟩:=⟨_,rfl⟩
 have l1:H1.length=NN:=by rw [xM,qG,kv]
 have a1:H1[ix .rn]?=some (lE s):=cB;have a2:H1[ix .tn]?=some (jD s.turns):=cB;have sQ:H1.set (ix .rn) (vO s.p s.tasks.length s.kr.length s.ml.length s.lines.length (s.jT.length+1) s.turns.length s.jV.length s.after.length s.at')=RH (s.kE ⟨who,o,w,tm⟩):=by
  have hr:lE (s.kE ⟨who,o,w,tm⟩)=vO s.p s.tasks.length s.kr.length s.ml.length s.lines.length (s.jT.length+1) s.turns.length s.jV.length s.after.length s.at':=by
   simp only [lE,jz.kE,dK,dO]
  rw [xM,← hr];exact akB
 have Kj:=Hid.mk xM;have QM:=Hid.mk n9;clear xM n9;refine qK (k:=17) [none,none,none,none,none,none,none,none,none,none,none,none,none,none,none,none,some 0] (fun k=>match k with
  | 0=>RH s
  | _=>H1) 1 follows ?_
 repeat (first|refine gS ?_|refine gT ?_|refine gU ?_|refine gV ?_)
 refine ko.q1 (v:=oJ ⟨who,o,w,tm⟩) rfl rfl (fun c _=>DN XG Wu aC) ?_;refine ko.q1 (v:=.jA [oJ ⟨who,o,w,tm⟩]) rfl rfl (fun c _=>DX Tryd.underlying30 XH az ag az aC aC rfl) ?_;refine ko.p1 (v:=.own (ix .ac) (s.jT.length+1) 0 (s.jT.length+1)) rfl rfl (fun kB h=>?_) ?_
 ·have h1:=tX (P:=Tryd.prog) (ρ:=kB) (H:=RH s) (b:=ix .ac) (tot:=s.jT.length) (es:=[oJ ⟨who,o,w,tm⟩]) (blk:=⟨73,4,s.jT.map oJ⟩) ((h (.tmp 12) ai).trans aa) ((h (.tmp 23) ai).trans aa) (nj s .ac Cz) ah Tryd.underlying30 XI rfl rfl ah (fun e he=>aw) aj aj;have he:H1=(RH s).set (ix .ac) ⟨73,4,s.jT.map oJ++[oJ ⟨who,o,w,tm⟩]⟩:=by rw [Kj.out];simp
  show PL _ _ _ _ _ H1;rw [he];exact h1
 refine ko.nil ?_;show jB _ _ _ _ _ ⟨_,H1⟩;refine pw ?_;exact kY.same (vs:=[]) ar rfl sQ
def GQ:List AV→Prop
 | []=>True
 | a::l=>mR (·<NN) a∧GQ l
theorem GQ.mem:∀ {l:List AV},GQ l→∀a∈l,mR (·<NN) a
 | [],_,a,ha=>by cases ha
 | b::l,h,a,ha=>by
   rcases dC.1 ha with rfl|ha
   ·exact h.1
   ·exact GQ.mem h.2 a ha
section
variable {n:Fr} {o:lx} {l:List lx} {E:Env} {K:ku→Prop} {cl:Call} {fx:Operand} {f:FuncId} {al:List AV} {d:AV} {s s':jz} {T:List jy}
theorem cF (i:jS Tryd.prog f al (RH s) d (RH s')) (hw:WF s) (tC:WF s') (hr:jB Tryd.prog n false l K ⟨mF E o.dst d,RH s'++T⟩) (hg:o.g=none:=by rfl) (hd:mB n o.dst=true:=by rfl) (ho:o.op=.call cl:=by rfl) (hc:cl.callee=.value fx:=by rfl)
 (hf:ev E fx=.j9 f []:=by (simp +decide only [go_sem, *]<;>rfl)) (ha:cl.args.toList.map (ev E)++[]=al:=by (simp +decide only [go_sem,List.map, *]<;>rfl)) (hR:GQ al:=by (repeat (first|exact trivial|refine ⟨.ptr mc,?_⟩|refine ⟨.pu (.base _),?_⟩|refine ⟨.pu ah,?_⟩))) (hD:mR (·<NN) d:=by (first|exact .pu (.base _)|exact .pu ah|exact .pu (.ky ah))):jB Tryd.prog n false (o::l) K ⟨E,RH s++T⟩:=
 jB.p1 hg hd (by rw [ho];exact Mf hw tC i hc hf ha hR.mem hD) hr
theorem vP (i:jS Tryd.prog f al (RH s) d (RH s')) (hw:WF s) (tC:WF s') (hr:jB Tryd.prog n false l K ⟨mF E o.dst d,RH s'⟩) (hg:o.g=none:=by rfl) (hd:mB n o.dst=true:=by rfl) (ho:o.op=.call cl:=by rfl) (hc:cl.callee=.value fx:=by rfl)
 (hf:ev E fx=.j9 f []:=by (simp +decide only [go_sem, *]<;>rfl)) (ha:cl.args.toList.map (ev E)++[]=al:=by (simp +decide only [go_sem,List.map, *]<;>rfl)) (hR:GQ al:=by (repeat (first|exact trivial|refine ⟨.ptr mc,?_⟩|refine ⟨.pu (.base _),?_⟩|refine ⟨.pu ah,?_⟩))) (hD:mR (·<NN) d:=by (first|exact .pu (.base _)|exact .pu ah|exact .pu (.ky ah))):jB Tryd.prog n false (o::l) K ⟨E,RH s⟩:=
 jB.p1 hg hd (by rw [ho];have h:=Mf (T:=[]) hw tC i hc hf ha hR.mem hD;simpa using h) hr
variable {t:Tmp} {want:Bool} {L:List Bool}
theorem IG (i:jS Tryd.prog f al (RH s) d (RH s')) (hw:WF s) (tC:WF s') (hr:jB Tryd.prog n false l K ⟨mF E o.dst d,RH s'++T⟩) (hg:o.g=some (t,want):=by rfl) (hd:mB n o.dst=true:=by rfl) (hb:ve want (lk E t)=some L:=by (simp +decide only [go_sem, *]<;>rfl)) (hL:oR L=true:=by (simp +decide only [go_sem,oR, *])) (ho:o.op=.call cl:=by rfl) (hc:cl.callee=.value fx:=by rfl)
 (hf:stripL L (ev E fx)=.j9 f []:=by (simp +decide only [go_sem, *]<;>rfl)) (ha:cl.args.toList.map (fun x=>stripL L (ev E x))++[]=al:=by (simp +decide only [go_sem,List.map, *]<;>rfl)) (hR:GQ al:=by (repeat (first|exact trivial|refine ⟨.ptr mc,?_⟩|refine ⟨.pu (.base _),?_⟩|refine ⟨.pu ah,?_⟩))) (hD:mR (·<NN) d:=by (first|exact .pu (.base _)|exact .pu ah|exact .pu (.ky ah))):jB Tryd.prog n false (o::l) K ⟨E,RH s++T⟩:=
 jB.Nl hg hd hb hL (by rw [ho];exact Mf hw tC i hc hf ha hR.mem hD) hr
end
structure Dh (s:jz) (k:Nat) (t:km) (m:Nat) (l:lM) (i:Nat) (st:kG):Prop where
 ht:s.tasks[k]?=some t
 hm:t.jC=m+1
 hl:t.jH[m]?=some l
 hi:l.step=i
 jP:l.code.steps[i]?=some st
abbrev kj (l:lM):jy:=⟨112,7,[nD l]⟩
abbrev kS:jy:=⟨112,7,[(.agg [.base (.int .i64 (0)),.base (.int .i64 (0)),.base (.slice none 0 0),.base (.int .i64 (0)),.base (.int .i64 (0)),.base (.slice none 0 0),.base (.slice none 0 0)])]⟩
abbrev j7 (st:kG):jy:=⟨70,6,[ki st]⟩
abbrev ER:jy:=⟨70,6,[(.agg [.base (.int .i64 (0)),.base (.int .i64 (0)),.base (.int .i64 (0)),.base (.int .i64 (0)),.base (.int .i64 (0)),.base (.slice none 0 0)])]⟩
theorem WF.oD {s:jz} (hw:WF s) {k m:Nat} {t:km} {l:lM} (ht:s.tasks[k]?=some t) (hl:t.jH[m]?=some l):ix (.kz l.fr)<NN∧ix (.lg l.fr)<NN∧(t.jH.map nD)[m]?=some (nD l)∧m<t.jH.length∧l.code.steps.length≤1000:=by
 obtain ⟨f,hf,a1,a2,a3,a4⟩:=(hw.lv t (dx ht)).2.2.2.2 l (dx hl);have hj:l.fr<s.jY.length:=(dt hf).1;exact ⟨mq (tY hw (a:=.kz l.fr) hj),mq (tY hw (a:=.lg l.fr) hj),by rw [dE,hl];rfl,(dt hl).1,a4⟩
theorem HV (l:lM):ru (nD l)=true:=by
 unfold nD;cases h1:l.code.vars.toNat<;>cases h2:l.code.steps.length<;>rfl
theorem anD {H:List jy} {ρ:Operand→AV} {x y:Operand} {b:Nat} {l:lM} {c1 c2 c3 c4 c5 c6 c7:AV} (hx:ρ x=.ptr b 1 0 0) (hy:ρ y=nD l) (hb:H[b]?=some ⟨112,7,[.agg [c1,c2,c3,c4,c5,c6,c7]]⟩):PL Tryd.prog H ρ (.store 112 x y) .bad (H.set b (kj l)):=
 qP (P:=Tryd.prog) (t:=112) (blk:=⟨112,7,[.agg [c1,c2,c3,c4,c5,c6,c7]]⟩) (v:=nD l) (e':=nD l) hx hy hb rfl rfl MF (HV l) rfl
theorem qc {s:jz} {T:List jy} {ρ:Operand→AV} {x y:Operand} {q:Nat} {l:lM} {c1 c2 c3 c4 c5 c6 c7:AV} (hx:ρ x=.ptr (NN+q) 1 0 0) (hy:ρ y=nD l) (hb:T[q]?=some ⟨112,7,[.agg [c1,c2,c3,c4,c5,c6,c7]]⟩):PL Tryd.prog (RH s++T) ρ (.store 112 x y) .bad (RH s++T.set q (kj l)):=by
 have h:=anD (H:=RH s++T) hx hy (by rw [vx (kv s)];exact hb);rwa [wE (kv s)] at h
theorem akC {s:jz} {T:List jy} {ρ:Operand→AV} {x y:Operand} {q:Nat} {st:kG} {c1 c2 c3 c4 c5 c6:AV} (hx:ρ x=.ptr (NN+q) 1 0 0) (hy:ρ y=ki st) (hb:T[q]?=some ⟨70,6,[.agg [c1,c2,c3,c4,c5,c6]]⟩):PL Tryd.prog (RH s++T) ρ (.store 70 x y) .bad (RH s++T.set q (j7 st)):=by
 have h:=qP (P:=Tryd.prog) (t:=70) (H:=RH s++T) (blk:=⟨70,6,[.agg [c1,c2,c3,c4,c5,c6]]⟩) (v:=ki st) (e':=ki st) hx hy (by rw [vx (kv s)];exact hb) rfl rfl MU rfl rfl;rwa [wE (kv s)] at h
theorem HE {s:jz} (hw:WF s) {k m i:Nat} {t:km} {l:lM} {st:kG} (h:Dh s k t m l i st):jS Tryd.prog 68 [jI,.int k] (RH s) (.ky [ki st,.int l.jM]) (RH s):=by
 obtain ⟨ht,hm,hl,hi,jP⟩:=h;obtain ⟨lc,la,ls,lf⟩:=l;simp only at hi jP;subst hi;obtain ⟨g1,g2,g3,g4,g5⟩:=hw.k ht;obtain ⟨e1,e2,e3,e4,e5⟩:=hw.oD ht hl;simp only at e1 e2 e5;have qC:m<t.jC:=ae;have j6:=(hw.lv t (dx ht)).2.1;have nq:i<lc.steps.length:=(dt jP).1;have pG:(lc.steps.map ki)[i]?=some (ki st):=aB;have pS:IntKind.i64.wrap ((t.jC:Int)-1)=m:=ax;have rh:=Hid.mk hm;clear hm;refine jS.i2 [(0,jI),(1,.int k)] 2 36 NN Tryd.func68 (kv s) ?_;refine pw ?_;refine qK (k:=21) [none,none,none,none,none,none,none,none,none,none,none,none,none,none,none,none,none,none,none,none,some 0] (fun c=>match c with
  | 0=>RH s++[ER]
  | _=>RH s++[ER,kS]) 1 follows ?_
 repeat (first|refine gS ?_|refine gT ?_|refine gU ?_|refine gV ?_)
 refine ko.p1 (v:=.ptr (NN+1) 1 0 0) rfl rfl (fun kB h=>?_) ?_
 ·have h1:=wD (P:=Tryd.prog) (ρ:=kB) (H:=RH s++[ER]) (el:=112) DV rfl;have e:(RH s++[ER]).length=NN+1:=cV;rw [e,eA] at h1;exact h1
 refine ko.nil ?_;show jB _ _ _ _ _ ⟨_,RH s++[ER,kS]⟩;refine jB.p2 (qc (T:=[ER,kS]) (q:=1) (l:=⟨lc,la,i,lf⟩) aa aa rfl) ?_;refine pw ?_;refine qK (k:=10) [none,none,none,none,none,none,none,none,none,some 0] (fun c=>match c with
  | 0=>RH s++[ER,kj ⟨lc,la,i,lf⟩]
  | _=>RH s++[j7 st,kj ⟨lc,la,i,lf⟩]) 1 follows ?_
 repeat (first|refine gS ?_|refine gT ?_|refine gU ?_|refine gV ?_)
 refine ko.p1 (v:=.bad) rfl rfl (fun kB h=>?_) ?_
 ·exact akC (T:=[ER,kj ⟨lc,la,i,lf⟩]) (q:=0) (st:=st) ((h (.tmp 4) au).trans aa) ((h (.tmp 33) au).trans aa) rfl
 refine ko.nil ?_;show jB _ _ _ _ _ ⟨_,RH s++[j7 st,kj ⟨lc,la,i,lf⟩]⟩;refine pw ?_;exact Rf.kY.ref [j7 st,kj ⟨lc,la,i,lf⟩] hw (vs:=[ki st,.int la]) (by show o6 _ _ [.cell 4 70,.tmp 5]=_;simp +decide only [o6,xV,zx,uB,go_sem, *]<;>rfl) rfl rfl (.pu (by
  refine .ky fun c hc=>?_;simp only [dC,dB,jd] at hc;rcases hc with rfl|rfl
  ·exact JB st
  ·exact .base _))
def Si:km:=⟨[],0,0,-1,false,0,false,false,-1,-1,[],[]⟩
def jJ (s:jz) (i:Nat):km:=s.tasks.getD i Si
theorem oO {s:jz} {i:Nat} {t:km} (h:s.tasks[i]?=some t):jJ s i=t:=by unfold jJ;rw [dI,h];rfl
theorem tH {s:jz} {i:Nat} (h:i<s.tasks.length):s.tasks[i]?=some (jJ s i):=by unfold jJ;rw [dI,dy h];rfl
def D6 (s:jz) (k:Nat) (a:Int) (i:Nat):Bool:=bif bif bif (i:Int) !=(k:Int) then decide (0≤a) else false then decide ((jJ s i).has=a) else false then !decide (2<(jJ s i).state) else false
def busy (s:jz) (k:Nat) (a:Int) (n:Nat):Bool:=(List.range n).any (D6 s k a)
theorem Uo {s:jz} {k n:Nat} {a:Int}:busy s k a (n+1)=(busy s k a n||D6 s k a n):=by
 unfold busy;rw [gE,List.any_append];simp
theorem ahJ {s:jz} (hw:WF s) {k:Nat} {t:km} (ht:s.tasks[k]?=some t) (h:t.state≠1):jS Tryd.prog 66 [jI,.int k] (RH s) (.bool false) (RH s):=by
 obtain ⟨g1,g2,g3,g4,g5⟩:=hw.k ht;refine jS.i2 [(0,jI),(1,.int k)] 2 62 NN Tryd.func66 (kv s) ?_;refine pw ?_;refine j8 ?_ (by simp [h]) rfl;refine pw ?_;exact kY.same (vs:=[.bool false]) ag rfl rfl
theorem ahK {s:jz} (hw:WF s) {k m i:Nat} {t:km} {l:lM} {st:kG} (h:Dh s k t m l i st) (h1:t.state=1):jS Tryd.prog 66 [jI,.int k] (RH s) (.bool (!busy s k (if st.op=8 then st.n else l.jM) s.tasks.length)) (RH s):=by
 have W4:=HE hw h;obtain ⟨g1,g2,g3,g4,g5⟩:=hw.k h.ht;have sR:=hw.nT;obtain ⟨N,hN⟩:∃N,N=s.tasks.length:=⟨_,rfl⟩
 obtain ⟨a,ha⟩:∃a,a=if st.op=8 then st.n else l.jM:=⟨_,rfl⟩
 rw [← ha];have wA:=fun j hj=>yv hw (tH (s:=s) (i:=j) hj);refine jS.i2 [(0,jI),(1,.int k)] 2 62 NN Tryd.func66 (kv s) ?_;refine pw ?_;refine jK ?_ (by simp [h1]) rfl;refine pw ?_;refine vP W4 hw hw ?_ (hD:=.pu (.ky ah));refine pw ?_;refine jG.join ⟨[(0,jI),(1,.int k),(6,.int a)],RH s++[j7 st]⟩ ?_ ?_
 ·refine kL (fun h8=>?_) (fun h8=>?_)
  ·simp at h8;refine pw ?_;rw [ha,ja h8,← h8];exact .wf
  simp at h8;refine pw ?_;rw [ha,iZ h8];exact .wf
 clear ha W4 h g1 g2 g3 g5;refine pw ?_;refine jG.loop (J:=fun i:Nat=>i≤s.tasks.length∧busy s k a i=false) (fun i=>⟨[(0,jI),(1,.int k),(6,.int a),(7,.int i)],RH s++[j7 st]⟩) (fun i=>s.tasks.length-i) 0 ⟨dL _,rfl⟩ .wf ?_;rintro i ⟨hi,hb⟩;refine pw ?_;by_cases hd:i<s.tasks.length
 ·have kb:decide ((i:Int)<(s.tasks.length:Int))=true:=jf ae;have nh:=tH hd;obtain ⟨g1,g2,g3,g4',g5⟩:=hw.k nh;have mo:decide ((i:Int)<(s.tasks.length:Int))=true:=kb;have io:=wA i hd;refine j8 ?_ rfl aa;refine pw ?_;refine uf (h:=fun hg=>A0 (l:=s.tasks) (k:=i) aa aa aa bM) (hr:=?_);refine pw ?_;have yO:busy s k a (i+1)=D6 s k a i:=by rw [Uo,hb,Bool.false_or]
  have BU:D6 s k a i=bif (bif bif (i:Int) !=(k:Int) then decide (a≥0) else false then decide ((jJ s i).has=a) else false) then !decide ((jJ s i).state>2) else false:=rfl;rw [BU] at yO;clear BU;generalize (bif bif (i:Int) !=(k:Int) then decide (a≥0) else false then decide ((jJ s i).has=a) else false)=G at *;cases G with
  | false =>
    refine wu (.bool false) ?_ (hx:=by simp [oR]);refine pw ?_;refine jK ?_ rfl rfl;refine pw ?_;rw [l6 ae];exact ⟨i+1,⟨ae,yO⟩,ae,.wf⟩
  | true =>
    refine IG io hw hw ?_;refine pw ?_;refine kL (fun hq=>?_) (fun hq=>?_)
    ·have zY:busy s k a s.tasks.length=true:=by
      have h1:D6 s k a i=true:=by rw [Uo,hb,Bool.false_or] at yO;rw [yO];exact hq
      unfold busy;rw [eS];exact ⟨i,eU.2 hd,h1⟩
     rw [zY];refine pw ?_;exact Rf.kY.ref [j7 st] hw (vs:=[.bool false]) ag rfl rfl (.pu (.base _))
    ·refine pw ?_;rw [l6 ae];exact ⟨i+1,⟨ae,by rw [yO];exact hq⟩,ae,.wf⟩
 ·have kb:decide ((i:Int)<(s.tasks.length:Int))=false:=je ae;refine jK ?_ rfl aa;refine pw ?_;rw [show s.tasks.length=i by omega,hb];exact Rf.kY.ref [j7 st] hw (vs:=[.bool true]) ag rfl rfl (.pu (.base _))
def uz (s:jz) (k i:Nat):Bool:=bif bif decide ((jJ s i).state=2) then !(jJ s i).closing else false then decide ((jJ s i).waits=(k:Int)) else false
def qI (s:jz):Nat→Nat→Int
 | 0,k=>(jJ s k).prio
 | f+1,k=>(List.range s.tasks.length).foldl (fun n i=>if uz s k i=true then max n (qI s f i) else n) (jJ s k).prio
def By (s:jz) (f k i:Nat):Int:=(List.range i).foldl (fun n i=>if uz s k i=true then max n (qI s f i) else n) (jJ s k).prio
theorem Up {s:jz} {f k i:Nat}:By s f k (i+1)=if uz s k i=true then max (By s f k i) (qI s f i) else By s f k i:=by
 unfold By;rw [gE,ik];rfl
theorem afN {s:jz} (hw:WF s) (mr:∀k i,i<s.tasks.length→uz s k i=true→i<k):∀f k:Nat,k<f→k<s.tasks.length→jS Tryd.prog 67 [jI,.int k] (RH s) (.int (qI s f k)) (RH s):=by
 intro f
 induction f with
 | zero=>intro k h;omega
 | succ f ih =>
   intro k pf hk;have sR:=hw.nT;obtain ⟨g1,g2,g3,g4,g5⟩:=hw.k (tH hk);refine jS.i2 [(0,jI),(1,.int k)] 2 62 NN Tryd.func67 (kv s) ?_;refine pw ?_;refine jG.loop (J:=fun i:Nat=>i≤s.tasks.length) (fun i=>⟨[(0,jI),(1,.int k),(5,.int (By s f k i)),(6,.int i)],RH s⟩) (fun i=>s.tasks.length-i) 0 (dL _) .wf ?_;rintro i hi;refine pw ?_;by_cases hd:i<s.tasks.length
   ·have kb:decide ((i:Int)<(s.tasks.length:Int))=true:=jf ae;have nh:=tH hd;obtain ⟨g1,g2,g3,g4',g5⟩:=hw.k nh;refine j8 ?_ rfl aa;refine pw ?_;refine uf (h:=fun hg=>A0 (l:=s.tasks) (k:=i) aa aa aa bM) (hr:=?_);refine pw ?_;refine uf (h:=fun hg=>A0 (l:=s.tasks) (k:=i) aa aa aa bM) (hr:=?_);refine pw ?_;cases kq:uz s k i with
    | false =>
      have e:By s f k (i+1)=By s f k i:=by rw [Up,kq];rfl
      refine jK ?_ kq rfl;refine pw ?_;rw [l6 ae,← e];exact ⟨i+1,ae,ae,.wf⟩
    | true =>
      have e:By s f k (i+1)=max (By s f k i) (qI s f i):=by rw [Up,kq];rfl
      have oj:=mr k i hd kq;have ihi:=ih i ae hd;refine j8 ?_ kq rfl;refine pw ?_;refine vP ihi hw hw ?_;refine pw ?_;rw [l6 ae,← e];exact ⟨i+1,ae,ae,.wf⟩
   ·have kb:decide ((i:Int)<(s.tasks.length:Int))=false:=je ae;refine jK ?_ rfl aa;refine pw ?_;rw [show i=s.tasks.length by omega];exact kY.same (vs:=[.int (By s f k s.tasks.length)]) ag rfl rfl
section
variable {H:List jy} {ρ:Operand→AV}
theorem ixK {x i:Operand} {l:List Int} {k q:Nat} {c:Int} (hx:ρ x=xq k l) (hi:ρ i=.int q) (hb:H[ix (.lU k)]?=some (jD l)) (h:l[q]?=some c):QL Tryd.prog H ρ (.indexAddr 25 x i) (.ptr (ix (.lU k)) l.length q 0):=
 lu (hx.trans (Mg h)) hi dG hb ah (dt h).1 ny
theorem ixR {x i:Operand} {l:List Int} {k q:Nat} {c:Int} (hx:ρ x=CP k l) (hi:ρ i=.int q) (hb:H[ix (.kg k)]?=some (jD l)) (h:l[q]?=some c):QL Tryd.prog H ρ (.indexAddr 25 x i) (.ptr (ix (.kg k)) l.length q 0):=
 lu (hx.trans (ahI h)) hi dG hb ah (dt h).1 ny
theorem Sj {x i:Operand} {l:List Int} {b n q:Nat} {c:Int} (hx:ρ x=uw b n) (hi:ρ i=.int q) (hb:H[b]?=some (jD l)) (h:l[q]?=some c∧l.length=n):QL Tryd.prog H ρ (.indexAddr 25 x i) (.ptr b n q 0):=by
 have hq:q<n:=by have:=(dt h.1).1;omega
 exact lu (hx.trans (ahH ae)) hi dG hb (by simp [h.2]) hq ny
end
section
variable {p q:Prop}
theorem jx (h:q) (k:Hid q→p:=by intro xn;(repeat (first|(with_reducible first|apply zs|apply zN|apply z1|apply z2|apply z3|apply z4|apply z5|apply z6|refine z7 rfl ?_|apply zb|apply zk|apply zr|apply ze|apply y1|apply y2|apply y3|apply y4)|((with_reducible apply zR);(refine ⟨rfl,rfl,?_⟩;simp +decide only [go_sem, *,List.map];rfl))|((with_reducible apply zG);(simp +decide only [go_sem, *];rfl);(simp +decide only [go_sem, *];(repeat simp +decide only [go_sem, *]);rfl))|(refine zp rfl rfl (xW aD rfl) ?_)|(refine zp rfl rfl (wD aI rfl) ?_)|(refine zp rfl rfl (qP aD aD aD bU bU ag bU bU) ?_)|(refine zq rfl rfl (qi rfl rfl aI aN ag) ?_)|(refine zq rfl rfl (qo rfl rfl aI rfl aN bn) ?_)|(refine zq rfl rfl (qw 0 _ rfl rfl bz aN bn) ?_)|(refine zq rfl rfl (qb aI aI az ag aO aO bU) ?_)|(refine zq rfl rfl (qn rfl rfl) ?_)|(refine zq rfl rfl (qx rfl rfl) ?_)|(refine zq rfl rfl (A0 rfl rfl aa bM) ?_)|(refine zq rfl rfl (ND rfl rfl aa bM) ?_)|(refine zq rfl rfl (NF rfl rfl bM) ?_)|(refine zq rfl rfl (ixK rfl rfl aa bM) ?_)|(refine zq rfl rfl (ixR rfl rfl aa bM) ?_)|(refine zq rfl rfl (Sj rfl rfl aa bM) ?_)));exact xn.out):p:=k ⟨h⟩
end
def lZ:Nat→jz→Nat→jz
 | 0,s,_=>s
 | f+1,s,k=>(jJ s k).kids.foldl (fun s c=>lZ f s c.toNat) (s.jF k { jJ s k with canc:=true })
structure Cn (s s':jz):Prop where
 eq:s'={ s with tasks:=s'.tasks }
 len:s'.tasks.length=s.tasks.length
 tk:∀(k:Nat) (t:km),s.tasks[k]?=some t→∃b,s'.tasks[k]?=some { t with canc:=b }
theorem Cn.refl (s:jz):Cn s s:=⟨rfl,rfl,fun k t h=>⟨t.canc,h⟩⟩
theorem Cn.trans {a b c:jz} (h1:Cn a b) (h2:Cn b c):Cn a c:=
 ⟨by rw [h2.eq,h1.eq],h2.len.trans h1.len,fun k t h=>by
  obtain ⟨x,hx⟩:=h1.tk k t h;obtain ⟨y,hy⟩:=h2.tk k _ hx;exact ⟨y,hy⟩⟩
theorem Cn.set {s:jz} {k:Nat} {t:km} {b:Bool} (ht:s.tasks[k]?=some t):Cn s (s.jF k { t with canc:=b }):=
 ⟨rfl,lY,fun j u hu=>by
  by_cases e:k=j
  ·subst e;rw [ht] at hu;injection hu with hu;subst hu;exact ⟨b,lq ht⟩
  ·exact ⟨u.canc,by rw [mw e,hu]⟩⟩
theorem Cn.back {s s':jz} (h:Cn s s') {k:Nat} {u:km} (hu:s'.tasks[k]?=some u):∃t,s.tasks[k]?=some t∧u={ t with canc:=u.canc }:=by
 have hk:k<s.tasks.length:=by rw [← h.len];exact (dt hu).1
 obtain ⟨b,hb⟩:=h.tk k _ (dy hk);rw [hu] at hb;injection hb with hb;exact ⟨_,dy hk,by rw [hb]⟩
theorem Cn.wf {s s':jz} (h:Cn s s') (hw:WF s):WF s':=by
 have hf:s'.jY=s.jY:=by rw [h.eq]
 refine ⟨by rw [h.len];exact hw.nT,by rw [hf];exact hw.nF,fun u hu=>?_,by rw [h.eq];exact hw.sz⟩;obtain ⟨k,hk⟩:=eC hu;obtain ⟨t,ht,e⟩:=h.back hk;have:=hw.lv t (dx ht);rw [e,hf];exact this
def w9 (s:jz):Prop:=∀(k:Nat) (t:km),s.tasks[k]?=some t→∀c∈t.kids,∃j:Nat,c=j∧k<j∧j<s.tasks.length
theorem Cn.yk {s s':jz} (h:Cn s s') (hk:w9 s):w9 s':=fun k u hu c hc=>by
 obtain ⟨t,ht,e⟩:=h.back hu;rw [e] at hc;rw [h.len];exact hk k t ht c hc
theorem Pc {f:jz→Int→jz}:∀ {l:List Int} {s:jz},(∀s' c,Cn s s'→c∈l→Cn s' (f s' c))→Cn s (l.foldl f s)
 | [],s,_=>.refl s
 | c::l,s,h=>by
   have h1:=h s c (.refl s) ah;exact h1.trans (Pc fun s' c' hs hc=>h s' c' (h1.trans hs) (by simp [hc]))
theorem JD:∀(f:Nat) (s:jz) (k:Nat),w9 s→k<s.tasks.length→Cn s (lZ f s k):=by
 intro f
 induction f with
 | zero=>intro s k _ _;exact .refl s
 | succ f ih =>
   intro s k hk pR;have ht:=tH pR;have h1:Cn s (s.jF k { jJ s k with canc:=true }):=.set ht;unfold lZ;refine h1.trans (Pc fun s' c hs hc=>?_);obtain ⟨j,rfl,h2,h3⟩:=hk k _ ht c hc;exact ih s' _ (hs.yk (h1.yk hk)) (by rw [hs.len,h1.len];omega)
theorem Js:∀(f:Nat) (s:jz) (k:Nat),WF s→w9 s→k<s.tasks.length→s.tasks.length-k≤f→jS Tryd.prog 64 [jI,.int k] (RH s) (.ky []) (RH (lZ f s k)):=by
 intro f
 induction f with
 | zero=>intro s k _ _ h1 h2;omega
 | succ f ih =>
   intro s k hw hk pR hf;have ht:=tH pR;obtain ⟨t,Di⟩:∃t,t=jJ s k:=⟨_,rfl⟩
   obtain ⟨R,hR⟩:∃R,R=lZ (f+1) s k:=⟨_,rfl⟩
   rw [← hR];unfold lZ at hR;rw [← Di] at ht hR;obtain ⟨s1,j6⟩:∃s1,s1=s.jF k { t with canc:=true }:=⟨_,rfl⟩
   have h1:Cn s s1:=by rw [j6];exact .set ht
   rw [← j6] at hR;have lr:s1.tasks[k]?=some { t with canc:=true }:=by rw [j6];exact lq ht
   obtain ⟨g1,g2,g3,g4,g5⟩:=hw.k ht;have atX:=(hw.lv t (dx ht)).2.2.1;refine jS.i2 [(0,jI),(1,.int k)] 2 38 NN Tryd.func64 (kv s) ?_;refine jx ?_;refine jB.p2 (Cv (t':={ t with canc:=true }) (v:=.base (.bool true)) ht aa aa KX rfl rfl rfl rfl rfl) ?_;rw [← j6];have oL:=Hid.mk j6;have ES:=Hid.mk hR;have atY:=Hid.mk Di;clear j6 hR Di g5 g4;refine jx ?_;refine jG.loop (J:=fun x:Nat×jz=>x.1≤t.kids.length∧x.2=(t.kids.take x.1).foldl (fun s c=>lZ f s c.toNat) s1∧Cn s1 x.2) (fun x=>⟨[(0,jI),(1,.int k),(4,.int x.1)],RH x.2⟩) (fun x=>t.kids.length-x.1) (0,s1) ⟨dL _,ah,.refl _⟩ .wf ?_;rintro ⟨i,si⟩ ⟨hi,pv,ni⟩;simp only at hi pv ni ⊢;have nr:WF si:=ni.wf (h1.wf hw);obtain ⟨b,nh⟩:=ni.tk k _ lr;obtain ⟨ti,CR⟩:∃ti:km,ti={ t with canc:=b }:=⟨_,rfl⟩
   have Sk:ti.kids=t.kids:=by rw [CR]
   have Kk:si.tasks[k]?=some ti:=by rw [nh,CR]
   obtain ⟨g1,g2,g3,g4,g5⟩:=nr.k Kk;have oY:=D7 (H:=RH si) (k:=k) (l:=t.kids) (by rw [nj _ _ g2];simp only [blk,Kk,Sk]);simp +decide only [go_sem] at oY;have wg:=Hid.mk pv;have apZ:=Hid.mk CR;clear pv nh CR;refine jx ?_;by_cases hd:i<t.kids.length
   ·have kb:decide ((i:Int)<(t.kids.length:Int))=true:=jf ae;obtain ⟨c,hc⟩:∃c,t.kids[i]?=some c:=⟨_,dy hd⟩
    have vQ:(t.kids.map AV.int)[i]?=some (.int c):=cW;obtain ⟨j,hj,h2,h3⟩:=hk k t ht c (dx hc);have pP:j<si.tasks.length:=by rw [ni.len,h1.len];exact h3
    have o0:=ni.yk (h1.yk hk);have Sl:=ih si j nr o0 pP (by rw [ni.len,h1.len];omega);have sE:=JD f si j o0 pP;have atZ:=Hid.mk o0;clear o0;refine j8 ?_ rfl aa;refine jx ?_;refine vP Sl nr (sE.wf nr) ?_;refine jx ?_;rw [l6 ae];refine ⟨(i+1,lZ f si j),⟨bp,?_,ni.trans sE⟩,bp,.wf⟩;simp only;rw [fH,hc,ik,← wg.out,hj];simp
   ·have kb:decide ((i:Int)<(t.kids.length:Int))=false:=je ae;refine jK ?_ rfl aa;refine jx ?_;have e:si=R:=by rw [ES.out,wg.out,fP ae]
    rw [e];exact kY.same (vs:=[]) ag rfl rfl
def lv0:lM:=⟨⟨0,0,[]⟩,-1,0,0⟩
def l9 (t:km) (m:Nat):lM:=t.jH.getD m lv0
theorem OZ {t:km} {m:Nat} (h:m<t.jH.length):t.jH[m]?=some (l9 t m):=by unfold l9;rw [dI,dy h];rfl
theorem zh {t:km} {m:Nat} {l:lM} (h:t.jH[m]?=some l):l9 t m=l:=by unfold l9;rw [dI,h];rfl
def sX (s:jz) (c:Int):Bool:=decide (2<(jJ s c.toNat).state)
def oS (s:jz) (ks:List Int):jz:=ks.foldl (fun s c=>lZ s.tasks.length s c.toNat) s
def vi (t:km) (e:Bool):km:={ t with ended:=e,closing:=true,state:=2,waits:=-1 }
def sJ (S:jz→Nat→jz) (s:jz) (k:Nat) (e:Bool):jz:=
 S (if e=true then oS (s.jF k (vi (jJ s k) e)) (jJ s k).kids else s.jF k (vi (jJ s k) e)) k
def rR (t:km):Nat→Option Nat
 | 0=>if (l9 t 0).step<(l9 t 0).code.steps.length then some 0 else none
 | m+1=>if (l9 t (m+1)).step<(l9 t (m+1)).code.steps.length then some (m+1) else rR t m
def tJ (S:jz→Nat→jz) (s:jz) (k:Nat):jz:=match rR (jJ s k) ((jJ s k).jC-1) with
 | some m=>s.jF k { jJ s k with jC:=m+1 }
 | none=>sJ S (s.jF k { jJ s k with jC:=1 }) k false
def pK (t:km):km:={ t with jH:=t.jH.set (t.jC-1) { l9 t (t.jC-1) with step:=(l9 t (t.jC-1)).step+1 } }
def mM (S:jz→Nat→jz) (s:jz) (k:Nat):jz:=tJ S (s.jF k (pK (jJ s k))) k
def tO (s:jz) (k:Nat) (t:km):jz:=match t.turns.getLast? with
 | some x=>s.nw (x,2000+k)
 | none=>s
def uQ (s:jz) (k:Nat) (ks:List Int):jz:=ks.foldl (fun s c=>s.nw (2000+c,2000+k)) s
def lh:Nat→jz→Nat→jz
 | 0,s,_=>s
 | f+1,s,k =>
   let t:=jJ s k
   if t.kids.any (fun c=>!sX s c)=true then s else
   let s3:=uQ (tO (s.jF k { t with state:=if t.ended=true then 4 else 3 }) k t) k t.kids
   if t.par<0∨(jJ s3 t.par.toNat).state≠2 then s3
   else if (jJ s3 t.par.toNat).closing=true then lh f s3 t.par.toNat
   else if (jJ s3 t.par.toNat).waits=(k:Int) then mM (lh f) (s3.jF t.par.toNat { jJ s3 t.par.toNat with waits:=-1,state:=1 }) t.par.toNat
   else s3
structure R7 (N:Nat) (k:Nat) (t:km):Prop where
 par:t.par = -1∨∃p:Nat,t.par=(p:Int)∧p<k
 kids:∀c∈t.kids,∃j:Nat,c=j∧k<j∧j<N
 pos:0<t.jC∧t.jC≤t.jH.length
 pF:∀l∈t.jH,0≤l.step∧l.step≤l.code.steps.length
 GN:t.state=2→t.closing=false→(l9 t (t.jC-1)).step<(l9 t (t.jC-1)).code.steps.length
structure Fo (s:jz):Prop where
 wf:WF s
 tk:∀(k:Nat) (t:km),s.tasks[k]?=some t→R7 s.tasks.length k t
theorem Fo.yk {s:jz} (h:Fo s):w9 s:=fun k t ht=>(h.tk k t ht).kids
def XB (s:jz) (l:lM):Prop:=∃f,s.jY[l.fr]?=some f∧f.1.length=l.code.vars.toNat∧f.2.length=l.code.steps.length∧l.code.vars≤1000∧l.code.steps.length≤1000
theorem Fo.jF {s:jz} (h:Fo s) {k:Nat} {t':km} (h1:R7 s.tasks.length k t') (h2:t'.jH.length≤1000) (h3:t'.kids.length≤1000) (h4:t'.turns.length≤1000000) (h5:∀l∈t'.jH,XB s l):Fo (s.jF k t'):=by
 refine ⟨⟨by rw [lY];exact h.wf.nT,h.wf.nF,fun u hu=>?_,h.wf.sz⟩,fun j u hu=>?_⟩
 ·rcases eu hu with hu|rfl
  ·exact h.wf.lv u hu
  ·exact ⟨h1.pos.2,h2,h3,h4,h5⟩
 ·rw [lY];by_cases e:k=j
  ·subst e;have hk:k<s.tasks.length:=by have:=(dt hu).1;rwa [lY] at this
   rw [lq (dy hk)] at hu;injection hu with hu;subst hu;exact h1
  ·rw [mw e] at hu;exact h.tk j u hu
theorem Fo.xj {s:jz} (h:Fo s) {k:Nat} {t t':km} (ht:s.tasks[k]?=some t) (h1:t'.jH=t.jH) (h2:t'.kids=t.kids) (h3:t'.turns=t.turns) (h4:t'.par=t.par) (h5:0<t'.jC∧t'.jC≤t.jC) (h6:t'.state=2→t'.closing=false→(l9 t' (t'.jC-1)).step<(l9 t' (t'.jC-1)).code.steps.length):Fo (s.jF k t'):=by
 have g:=h.tk k t ht;obtain ⟨a1,a2,a3,a4,a5⟩:=h.wf.lv t (dx ht);refine h.jF ⟨by rw [h4];exact g.par,by rw [h2];exact g.kids,⟨h5.1,by rw [h1];omega⟩,by rw [h1];exact g.pF,h6⟩ (by rw [h1];exact a2) (by rw [h2];exact a3) (by rw [h3];exact a4) (by rw [h1];exact a5)
theorem Fo.nw {s:jz} (h:Fo s) {x:Int×Int} (hb:s.after.length<1000000000):Fo (s.nw x):=⟨h.wf.nw hb,h.tk⟩
theorem Cn.fo {s s':jz} (h:Cn s s') (hf:Fo s):Fo s':=⟨h.wf hf.wf,fun k u hu=>by
 obtain ⟨t,ht,e⟩:=h.back hu;have g:=hf.tk k t ht;rw [e,h.len];exact ⟨g.par,g.kids,g.pos,g.pF,g.GN⟩⟩
theorem VC {s:jz} (hk:w9 s) {ks:List Int} (h:∀c∈ks,c.toNat<s.tasks.length):Cn s (oS s ks):=
 Pc fun s' c hs hc=>JD _ s' _ (hs.yk hk) (by rw [hs.len];exact h c hc)
theorem Pd {k:Nat}:∀ {ks:List Int} {s:jz},(uQ s k ks).after.length=s.after.length+ks.length∧(uQ s k ks).tasks=s.tasks
 | [],s=>⟨rfl,rfl⟩
 | c::ks,s=>by
   have:=Pd (k:=k) (ks:=ks) (s:=s.nw (2000+c,2000+k));unfold uQ at this ⊢;rw [fD];refine ⟨by rw [this.1];simp [jz.nw];omega,by rw [this.2];rfl⟩
theorem U4 {s:jz} {k:Nat} {t:km}:(tO s k t).after.length≤s.after.length+1∧(tO s k t).tasks=s.tasks:=by
 unfold tO;split
 ·exact ⟨by simp [jz.nw],rfl⟩
 ·exact ⟨ae,rfl⟩
theorem Fo.tO {s:jz} (h:Fo s) {k:Nat} {t:km} (hb:s.after.length<1000000000):Fo (tO s k t):=by
 unfold Rf.tO;split
 ·exact h.nw hb
 ·exact h
theorem Fo.uQ {k:Nat}:∀ {ks:List Int} {s:jz},Fo s→s.after.length+ks.length≤1000000000→Fo (uQ s k ks)
 | [],s,h,_=>h
 | c::ks,s,h,hb=>by
   simp only [ff] at hb;exact Fo.uQ (ks:=ks) (h.nw ae) (by simp [jz.nw];omega)
structure Kp (b:Nat) (s s':jz):Prop where
 fo:Fo s'
 len:s'.tasks.length=s.tasks.length
 af:s'.after.length≤s.after.length+b
def ET (S:jz→Nat→jz) (f:Nat):Prop:=∀(s:jz) (k:Nat),Fo s→k<s.tasks.length→s.after.length+1001*f≤1000000000→Kp (1001*f) s (S s k)
theorem vb {s:jz} {k:Nat} {t:km} (h:s.tasks[k]?=some t):k<s.tasks.length:=(dt h).1
theorem VD {s:jz} (h:Fo s) {k:Nat} {t:km} (e:Bool) (ht:s.tasks[k]?=some t):Fo (s.jF k (vi t e)):=
 h.xj ht rfl rfl rfl rfl ⟨(h.tk k t ht).pos.1,dD _⟩ (fun _ e=>by cases e)
theorem VE {s:jz} (h:Fo s) {k:Nat} {t:km} (ht:s.tasks[k]?=some t):∀c∈t.kids,c.toNat<s.tasks.length:=fun c hc=>by
 obtain ⟨j,rfl,h1,h2⟩:=(h.tk k t ht).kids c hc;simpa using h2
theorem DL {S:jz→Nat→jz} {f:Nat} (hS:ET S f) {s:jz} (h:Fo s) {k:Nat} (hk:k<s.tasks.length) (e:Bool) (hb:s.after.length+1001*f≤1000000000):Kp (1001*f) s (sJ S s k e):=by
 have ht:=tH hk;have h1:=VD h e ht;unfold sJ;cases e with
 | false =>
   rw [iZ ah];have:=hS _ k h1 (by rw [lY];exact hk) hb;exact ⟨this.fo,by rw [this.len,lY],this.af⟩
 | true =>
   rw [ja rfl];have hc:=VC h1.yk (ks:=(jJ s k).kids) (fun c hc=>by rw [lY];exact VE h ht c hc);have ha:(oS (s.jF k (vi (jJ s k) true)) (jJ s k).kids).after=s.after:=by rw [hc.eq];rfl
   have:=hS _ k (hc.fo h1) (by rw [hc.len,lY];exact hk) (by rw [ha];exact hb);exact ⟨this.fo,by rw [this.len,hc.len,lY],by have:=this.af;rw [ha] at this;exact this⟩
theorem Pv {t:km}:∀ {n m:Nat},rR t n=some m→m≤n∧(l9 t m).step<(l9 t m).code.steps.length
 | 0,m,h=>by
   unfold rR at h;split at h
   ·rename_i e;injection h with h;subst h;exact ⟨dD _,e⟩
   ·cases h
 | n+1,m,h=>by
   unfold rR at h;split at h
   ·rename_i e;injection h with h;subst h;exact ⟨dD _,e⟩
   ·have:=Pv h;exact ⟨ae,this.2⟩
theorem O0 {S:jz→Nat→jz} {f:Nat} (hS:ET S f) {s:jz} (h:Fo s) {k:Nat} (hk:k<s.tasks.length) (jP:(jJ s k).state≠2) (hb:s.after.length+1001*f≤1000000000):Kp (1001*f) s (tJ S s k):=by
 have ht:=tH hk;have g:=h.tk k _ ht;unfold tJ;split
 ·rename_i m hm;obtain ⟨h1,h2⟩:=Pv hm;exact ⟨h.xj ht rfl rfl rfl rfl ⟨Nat.succ_pos _,by have:=g.pos.1;show m+1≤_;omega⟩ (fun _ _=>h2),lY,by show s.after.length≤_;omega⟩
 ·have h1:Fo (s.jF k { jJ s k with jC:=1 }):=by
   refine h.jF ⟨g.par,g.kids,⟨Nat.one_pos,by have:=g.pos;show 1≤(jJ s k).jH.length;omega⟩,g.pF,?_⟩ (h.wf.lv _ (dx ht)).2.1 (h.wf.lv _ (dx ht)).2.2.1 (h.wf.lv _ (dx ht)).2.2.2.1 (h.wf.lv _ (dx ht)).2.2.2.2;exact fun e=>absurd e jP
  have:=DL hS h1 (k:=k) (by rw [lY];exact hk) false hb;exact ⟨this.fo,by rw [this.len,lY],this.af⟩
theorem Mh {s:jz} (h:Fo s) {k:Nat} {t:km} (ht:s.tasks[k]?=some t) (jP:t.state≠2) (kn:(l9 t (t.jC-1)).step<(l9 t (t.jC-1)).code.steps.length):Fo (s.jF k (pK t)):=by
 have g:=h.tk k _ ht;have gw:=h.wf.lv _ (dx ht);have hp:=g.pos;have qU:=OZ (t:=t) (m:=t.jC-1) ae;have hl:∀l∈t.jH.set (t.jC-1) { l9 t (t.jC-1) with step:=(l9 t (t.jC-1)).step+1 },l∈t.jH∨l={ l9 t (t.jC-1) with step:=(l9 t (t.jC-1)).step+1 }:=fun l hl=>eu hl;refine h.jF ⟨g.par,g.kids,⟨hp.1,by show t.jC≤(t.jH.set _ _).length;rw [dW];exact hp.2⟩,fun l hm=>?_,fun e=>absurd e jP⟩ (by show (t.jH.set _ _).length≤_;rw [dW];exact gw.2.1) gw.2.2.1 gw.2.2.2.1 fun l hm=>?_
 ·rcases hl l hm with hm|rfl
  ·exact g.pF l hm
  ·have:=g.pF _ (dx qU);exact ⟨by show 0≤(l9 t (t.jC-1)).step+1;omega,by show (l9 t (t.jC-1)).step+1≤_;show (l9 t (t.jC-1)).step+1≤((l9 t (t.jC-1)).code.steps.length:Int);omega⟩
 ·rcases hl l hm with hm|rfl
  ·exact gw.2.2.2.2 l hm
  ·obtain ⟨f,a⟩:=gw.2.2.2.2 _ (dx qU);exact ⟨f,a⟩
theorem Jw {S:jz→Nat→jz} {f:Nat} (hS:ET S f) {s:jz} (h:Fo s) {k:Nat} {t:km} (ht:s.tasks[k]?=some t) (jP:t.state≠2) (kn:(l9 t (t.jC-1)).step<(l9 t (t.jC-1)).code.steps.length) (hb:s.after.length+1001*f≤1000000000):Kp (1001*f) s (mM S s k):=by
 have h1:=Mh h ht jP kn;unfold mM;rw [oO ht];have:=O0 hS h1 (k:=k) (by rw [lY];exact vb ht) (by rw [oO (lq ht)];exact jP) hb;exact ⟨this.fo,by rw [this.len,lY],this.af⟩
theorem Bj:∀f:Nat,ET (lh f) f:=by
 intro f
 induction f with
 | zero=>intro s k h _ _;exact ⟨h,rfl,fj _ _⟩
 | succ f ih =>
   intro s k h hk hb;rw [fZ] at hb ⊢;have ht:=tH hk;have g:=h.tk k _ ht;have pR:=(h.wf.lv _ (dx ht)).2.2.1;unfold lh;simp only;split
   ·exact ⟨h,rfl,ae⟩
   obtain ⟨t,Di⟩:∃t,t=jJ s k:=⟨_,rfl⟩
   rw [← Di] at ht g pR ⊢;obtain ⟨s1,j6⟩:∃s1,s1=s.jF k { t with state:=if t.ended=true then 4 else 3 }:=⟨_,rfl⟩
   obtain ⟨s3,lV⟩:∃s3,s3=uQ (tO s1 k t) k t.kids:=⟨_,rfl⟩
   rw [← j6,← lV];have h1:Fo s1:=by
    rw [j6];refine h.xj ht rfl rfl rfl rfl ⟨g.pos.1,dD _⟩ fun e=>?_;have e:(if t.ended=true then (4:Int) else 3)=2:=e;split at e<;>omega
   have e1:s1.after=s.after∧s1.tasks.length=s.tasks.length:=⟨by rw [j6];rfl,by rw [j6,lY]⟩
   have e2:=U4 (s:=s1) (k:=k) (t:=t);have e3:=Pd (k:=k) (ks:=t.kids) (s:=tO s1 k t);have h3:Fo s3:=by rw [lV];exact Fo.uQ (h1.tO (by rw [e1.1];omega)) (by rw [e1.1] at e2;omega)
   rw [← lV] at e3;have l3:s3.tasks.length=s.tasks.length:=by rw [e3.2,e2.2,e1.2]
   have a3:s3.after.length≤s.after.length+1001:=by rw [e3.1];have:=e2.1;rw [e1.1] at this;omega
   have hA:s3.after.length≤s.after.length+(1001*f+1001*1):=fI a3 (Nat.add_le_add_left (Nat.le_add_left _ _) _);clear e2 e3;split
   ·exact ⟨h3,l3,hA⟩
   rename_i hc;rw [jl] at hc;obtain ⟨p,hp,GO⟩:∃p:Nat,t.par=(p:Int)∧p<k:=by
    rcases g.par with e|e
    ·exact absurd (by omega:t.par<0) hc.1
    ·exact e
   rw [hp,dF] at hc ⊢;have nG:p<s3.tasks.length:=ae;have ns:=tH nG;have MV:(jJ s3 p).state=2:=by
    by_cases e:(jJ s3 p).state=2
    ·exact e
    ·exact absurd e hc.2
   split
   ·have:=ih s3 p h3 nG ae;exact ⟨this.fo,by rw [this.len,l3],by have:=this.af;omega⟩
   rename_i lK;split
   ·have gp:=h3.tk p _ ns;have hw:=gp.GN MV (by simpa using lK);have h4:Fo (s3.jF p { jJ s3 p with waits:=-1,state:=1 }):=h3.xj ns rfl rfl rfl rfl ⟨gp.pos.1,dD _⟩ fun e=>absurd e dr;have:=Jw ih h4 (lq ns) dr hw (by show s3.after.length+_≤_;omega);exact ⟨this.fo,by rw [this.len,lY,l3],fI this.af (by show s3.after.length+1001*f≤s.after.length+(1001*f+1001*1);omega)⟩
   ·exact ⟨h3,l3,hA⟩
def EU (S:jz→Nat→jz) (f:Nat):Prop:=∀(s:jz) (k:Nat),Fo s→k<s.tasks.length→k<f→s.after.length+1001*f≤1000000000→jS Tryd.prog 65 [jI,.int k] (RH s) (.ky []) (RH (S s k))
theorem u7 {s:jz} {k:Nat} {a b:km}:(s.jF k a).jF k b=s.jF k b:=by simp [jz.jF]
theorem DR {S:jz→Nat→jz} {f:Nat} (hS:ET S f) (BV:EU S f) {s:jz} (h:Fo s) {k:Nat} {t:km} (ht:s.tasks[k]?=some t) (pf:k<f) (e:Bool) (hb:s.after.length+1001*f≤1000000000) :
 jS Tryd.prog 48 [jI,.int k,.base (.bool e)] (RH s) (.ky []) (RH (sJ S s k e)):=by
 have hw:=h.wf;have mJ:=DL hS h (vb ht) e hb;obtain ⟨R,hR⟩:∃R,R=sJ S s k e:=⟨_,rfl⟩
 rw [← hR] at mJ ⊢;unfold sJ at hR;rw [oO ht] at hR;obtain ⟨s1,j6⟩:∃s1,s1=s.jF k { t with ended:=e }:=⟨_,rfl⟩
 obtain ⟨s2,jW⟩:∃s2,s2=s1.jF k { t with ended:=e,closing:=true }:=⟨_,rfl⟩
 obtain ⟨s3,lV⟩:∃s3,s3=s2.jF k { t with ended:=e,closing:=true,state:=2 }:=⟨_,rfl⟩
 obtain ⟨s4,ox⟩:∃s4,s4=s3.jF k (vi t e):=⟨_,rfl⟩
 have lr:s1.tasks[k]?=some { t with ended:=e }:=by rw [j6];exact lq ht
 have ov:s2.tasks[k]?=some { t with ended:=e,closing:=true }:=by rw [jW];exact lq lr
 have rl:s3.tasks[k]?=some { t with ended:=e,closing:=true,state:=2 }:=by rw [lV];exact lq ov
 have tU:s4.tasks[k]?=some (vi t e):=by rw [ox];exact lq rl
 have l1:s1.tasks.length=s.tasks.length:=by rw [j6,lY]
 have l2:s2.tasks.length=s.tasks.length:=by rw [jW,lY,l1]
 have l3:s3.tasks.length=s.tasks.length:=by rw [lV,lY,l2]
 have l4:s4.tasks.length=s.tasks.length:=by rw [ox,lY,l3]
 have Kl:s4=s.jF k (vi t e):=by rw [ox,lV,jW,j6];simp only [u7]
 have h4:Fo s4:=by rw [Kl];exact VD h e ht
 rw [← Kl] at hR;have yl:s4.after.length+1001*f≤1000000000:=by rw [Kl];exact hb
 obtain ⟨g1,g2,g3,g4,g5⟩:=hw.k ht;have atX:=(hw.lv t (dx ht)).2.2.1;have aqA:=VE h ht;refine jS.i2 [(0,jI),(1,.int k),(2,.base (.bool e))] 3 66 NN Tryd.func48 (kv s) ?_;have oL:=Hid.mk j6;have pz:=Hid.mk jW;have zH:=Hid.mk lV;have MW:=Hid.mk ox;have ES:=Hid.mk hR;have ka:=Hid.mk yl;have hk4:=Hid.mk Kl;clear j6 jW lV ox hR yl hb Kl;refine jG.seq ?_;refine qK (k:=30) [none,none,none,none,none,none,none,none,none,none,none,none,none,none,none,none,none,none,none,none,none,none,none,some 0,none,none,some 1,none,none,some 2] (fun c=>match c with
  | 0=>RH s
  | 1=>RH s1
  | 2=>RH s2
  | _=>RH s3) 3 follows ?_
 repeat (first|refine Sg ?_|refine Sf ?_)
 refine ko.p1 (v:=.bad) rfl rfl (fun kB pb=>by
  have h1:=Cv (s:=s) (ρ:=kB) (ty:=4) (t:=t) (t':={ t with ended:=e }) (v:=.base (.bool e)) ht ((pb (.tmp 29) au).trans aa) ((pb (.tmp 27) au).trans aa) KX rfl rfl rfl rfl rfl;rw [← oL.out] at h1;exact h1) ?_
 repeat (first|refine Sg ?_|refine Sf ?_)
 refine ko.p1 (v:=.bad) rfl rfl (fun kB pb=>by
  have h1:=Cv (s:=s1) (ρ:=kB) (ty:=4) (t':={ t with ended:=e,closing:=true }) (v:=.base (.bool true)) lr ((pb (.tmp 31) au).trans aa) ((pb (.const (.bool true)) au).trans rfl) KX rfl rfl rfl rfl rfl;rw [← pz.out] at h1;exact h1) ?_
 repeat (first|refine Sg ?_|refine Sf ?_)
 refine ko.p1 (v:=.bad) rfl rfl (fun kB pb=>by
  have h1:=Cv (s:=s2) (ρ:=kB) (ty:=3) (t':={ t with ended:=e,closing:=true,state:=2 }) (v:=.int 2) ov ((pb (.tmp 33) au).trans aa) ((pb (.const (.int .i64 2)) au).trans rfl) ny rfl rfl rfl rfl rfl;rw [← zH.out] at h1;exact h1) ?_
 refine ko.nil ?_;show jB _ _ _ _ _ ⟨_,RH s3⟩;refine jB.q2 (Dg (L:=s.tasks) (k:=k) aa aa cC bM) ?_;refine jx ?_;refine jB.p2 (Cv (t':=vi t e) (v:=.int (-1)) rl aa aa ny rfl rfl rfl rfl rfl) ?_;rw [← MW.out];have qD:=h4.wf;clear lr ov rl l1 l2 l3 g4 g5;obtain ⟨g1,g2,g3,g4,g5⟩:=qD.k tU;obtain ⟨s5,uh⟩:∃s5,s5=if e=true then oS s4 t.kids else s4:=⟨_,rfl⟩
 have Sm:Cn s4 s5:=by
  rw [uh];split
  ·exact VC h4.yk fun c hc=>by rw [l4];exact aqA c hc
  ·exact .refl _
 have h5:Fo s5:=Sm.fo h4;have XJ:=BV s5 k h5 (by rw [Sm.len,l4];exact vb ht) pf (by rw [show s5.after=s4.after by rw [Sm.eq]];exact ka.out);have sI:R=S s5 k:=by rw [ES.out,uh]
 rw [← sI] at XJ;have auA:=Hid.mk qD;have Km:=Hid.mk uh;have atS:=Hid.mk sI;clear qD uh sI;refine jx ?_;refine jG.join ⟨[(0,jI),(1,.int k)],RH s5⟩ ?_ ?_
 ·cases e with
  | false =>
    refine jK ?_ rfl rfl;refine jx ?_;rw [show s5=s4 by rw [Km.out];rfl];exact .wf
  | true =>
    have XK:=h4.yk;have aqB:=Hid.mk XK;clear XK;refine j8 ?_ rfl rfl;refine jx ?_;refine jG.loop (J:=fun x:Nat×jz=>x.1≤t.kids.length∧x.2=(t.kids.take x.1).foldl (fun s c=>lZ s.tasks.length s c.toNat) s4∧Cn s4 x.2) (fun x=>⟨[(0,jI),(1,.int k),(6,.int x.1)],RH x.2⟩) (fun x=>t.kids.length-x.1) (0,s4) ⟨dL _,ah,.refl _⟩ .wf ?_;rintro ⟨i,si⟩ ⟨hi,pv,ni⟩;simp only at hi pv ni ⊢;have nr:WF si:=ni.wf auA.out;obtain ⟨b,nh⟩:=ni.tk k _ tU;obtain ⟨ti,CR⟩:∃ti:km,ti={ vi t true with canc:=b }:=⟨_,rfl⟩
    have Sk:ti.kids=t.kids:=by rw [CR];rfl
    have Kk:si.tasks[k]?=some ti:=by rw [nh,CR]
    clear g1 g2 g3 g4 g5;obtain ⟨g1,g2,g3,g4,g5⟩:=nr.k Kk;have oY:=D7 (H:=RH si) (k:=k) (l:=t.kids) (by rw [nj _ _ g2];simp only [blk,Kk,Sk]);simp +decide only [go_sem] at oY;have wg:=Hid.mk pv;have apZ:=Hid.mk CR;clear pv nh CR;refine jx ?_;by_cases hd:i<t.kids.length
    ·have kb:decide ((i:Int)<(t.kids.length:Int))=true:=jf ae;obtain ⟨c,hc⟩:∃c,t.kids[i]?=some c:=⟨_,dy hd⟩
     have vQ:(t.kids.map AV.int)[i]?=some (.int c):=cW;obtain ⟨j,hj,h2,h3⟩:=h.yk k t ht c (dx hc);have pP:j<si.tasks.length:=by rw [ni.len,l4];exact h3
     have o0:=ni.yk aqB.out;have Sl:=Js si.tasks.length si j nr o0 pP ae;have sE:=JD si.tasks.length si j o0 pP;have atZ:=Hid.mk o0;clear o0;refine j8 ?_ rfl aa;refine jx ?_;refine vP Sl nr (sE.wf nr) ?_;refine jx ?_;rw [l6 ae];refine ⟨(i+1,lZ si.tasks.length si j),⟨bp,?_,ni.trans sE⟩,bp,.wf⟩;simp only;rw [fH,hc,ik,← wg.out,hj];simp
    ·have kb:decide ((i:Int)<(t.kids.length:Int))=false:=je ae;refine jK ?_ rfl aa;refine jx ?_;have e5:si=s5:=by rw [Km.out,ja rfl,wg.out,fP ae];rfl
     rw [e5];exact .wf
 refine jx ?_;refine vP XJ h5.wf mJ.fo.wf ?_;refine jx ?_;exact kY.same (vs:=[]) ag rfl rfl
theorem W5 {n:Nat} {R:jz} (hw:WF R) {T2:List jy} {E E2:Env} (h:C2 (RH R++T2) NN E E2):Wk ⟨n,NN⟩ ⟨E,RH R++T2⟩ ⟨E2,RH R⟩:=
 .MA NN (dD _) (List.take_left' (kv R)) h fun blk hb e he c hc=>(rO hw blk hb e he c hc).tB fun b hb=>rF hb
theorem Wv {n:Nat} {R:jz} (hw:WF R) {T T2:List jy} {E E2:Env} (hT:∀b∈T,kI (·<NN) b) (h:C2 (RH R++(T++T2)) (NN+T.length) E E2):Wk ⟨n,NN⟩ ⟨E,RH R++(T++T2)⟩ ⟨E2,RH R++T⟩:=
 .MA (NN+T.length) (fj _ _) (by rw [← eA];exact List.take_left' cV) h fun blk hb e he c hc=>by
  have h1:kI (·<NN) blk:=(eg.1 hb).elim (rO hw blk) (hT blk);exact (h1 e he c hc).tB fun b hb=>rF ae
theorem Jt {s:jz} {k:Nat} {t:km} (ht:s.tasks[k]?=some t):s.jF k t=s:=by
 obtain ⟨h1,h2⟩:=dt ht;unfold jz.jF;rw [← h2,gh]
theorem VF {t:km} {m:Nat} (h:(l9 t m).step<(l9 t m).code.steps.length):rR t m=some m:=by
 cases m<;>(unfold rR;rw [ja h])
theorem afO {t:km} {m:Nat} (h:¬(l9 t (m+1)).step<(l9 t (m+1)).code.steps.length):rR t (m+1)=rR t m:=by
 rw [rR,iZ h]
theorem afP {t:km} (h:¬(l9 t 0).step<(l9 t 0).code.steps.length):rR t 0=none:=by
 rw [rR,iZ h]
theorem U5 {S:jz→Nat→jz} {f:Nat} (hS:ET S f) (BV:EU S f) {s:jz} (h:Fo s) {k:Nat} {t:km} (ht:s.tasks[k]?=some t) (jP:t.state≠2) (pf:k<f) (hb:s.after.length+1001*f≤1000000000) :
 jS Tryd.prog 97 [jI,.int k] (RH s) (.ky []) (RH (tJ S s k)):=by
 have g:=h.tk k t ht;have gw:=h.wf.lv t (dx ht);have uJ:tJ S s k=match rR t (t.jC-1) with
  | some m=>s.jF k { t with jC:=m+1 }
  | none=>sJ S (s.jF k { t with jC:=1 }) k false:=by unfold tJ;rw [oO ht]<;>rfl
 obtain ⟨R,hR⟩:∃R,R=tJ S s k:=⟨_,rfl⟩
 rw [← hR];rw [← hR] at uJ;have hF:∀m,m<t.jC→Fo (s.jF k { t with jC:=m+1 }):=fun m hm=>h.xj ht rfl rfl rfl rfl ⟨Nat.succ_pos _,hm⟩ fun e=>absurd e jP;have tN:=g.pos;have Kn:=g.pF;have h0:s=s.jF k { t with jC:=t.jC-1+1 }:=by
  rw [show t.jC-1+1=t.jC by omega];exact (Jt ht).symm
 have XL:=Hid.mk uJ;have NG:=Hid.mk hF;have ka:=Hid.mk hb;clear uJ hF hb hR g gw;refine jS.i2 [(0,jI),(1,.int k)] 2 57 NN Tryd.func97 (kv s) ?_;obtain ⟨s0,pB⟩:∃s0,s0=s:=⟨_,rfl⟩
 refine jx ?_;refine jG.loop (J:=fun m:Nat=>m<t.jC∧rR t (t.jC-1)=rR t m) (fun m=>⟨[(0,jI),(1,.int k)],RH (s.jF k { t with jC:=m+1 })⟩) (fun m=>m) (t.jC-1) ⟨ae,rfl⟩ (by rw [← h0];exact .wf) ?_;rintro m ⟨hm,hp⟩;obtain ⟨sm,NH⟩:∃sm,sm=s.jF k { t with jC:=m+1 }:=⟨_,rfl⟩
 obtain ⟨tm,n9⟩:∃tm:km,tm={ t with jC:=m+1 }:=⟨_,rfl⟩
 have GR:=NG.out m hm;rw [← NH] at GR ⊢;have Ic:sm.tasks[k]?=some tm:=by rw [NH,n9];exact lq ht
 have mV:tm.jC=m+1:=by rw [n9]
 have Sn:tm.jH=t.jH:=by rw [n9]
 have pS:=GR.wf;obtain ⟨g1,g2,g3,g4,g5⟩:=pS.k Ic;obtain ⟨x,hx⟩:∃x,x=l9 t m:=⟨_,rfl⟩
 have yV:t.jH[m]?=some x:=by rw [hx];exact OZ ae
 obtain ⟨e1,e2,e3,e4,e5⟩:=pS.oD Ic (m:=m) (l:=x) (by rw [Sn];exact yV);rw [Sn] at e3 e4;have Bu:=Kn x (dx yV);have j6:=(pS.lv tm (dx Ic)).2.1;rw [Sn] at j6;have oh:IntKind.i64.wrap (((m+1:Nat):Int)-1)=m:=aW;have qC:m<m+1:=ae;have XM:=Hid.mk GR;have Ko:=Hid.mk NH;have QM:=Hid.mk n9;have mH:=Hid.mk hx;have h0':=Hid.mk h0;have xB:=Hid.mk hp;clear GR NH n9 hx h0 hp;refine jx ?_;refine jB.p2 (qc (T:=[kS]) (q:=0) (l:=x) aa aa rfl) ?_;show jB _ _ _ _ _ ⟨_,RH sm++[kj x]⟩;refine jx ?_;by_cases kn:x.step<(x.code.steps.length:Int)
 ·have kb:decide (x.step<(x.code.steps.length:Int))=true:=jf kn;refine j8 ?_ kb rfl;refine jx ?_;have e:R=sm:=by
   rw [XL.out,xB.out,VF (by rw [← mH.out];exact kn)];exact Ko.out.symm
  rw [e];exact Rf.kY.ref [kj x] pS (vs:=[]) ag rfl rfl (.pu (.ky ah))
 ·have kb:decide (x.step<(x.code.steps.length:Int))=false:=je kn;refine jK ?_ kb rfl;refine jx ?_;cases m with
  | zero =>
    have uW:=DR hS BV XM.out Ic pf false (by rw [Ko.out];exact ka.out);have mJ:=DL hS XM.out (vb Ic) false (by rw [Ko.out];exact ka.out);have e:R=sJ S sm k false:=by
     rw [XL.out,xB.out,afP (by rw [← mH.out];exact kn),Ko.out]
    rw [← e] at uW mJ;refine j8 ?_ rfl rfl;refine jx ?_;refine cF uW pS mJ.fo.wf ?_;refine jx ?_;exact Rf.kY.ref [kj x] mJ.fo.wf (vs:=[]) ag rfl rfl (.pu (.ky ah))
  | succ m =>
    have mo:decide (((m+1+1:Nat):Int)=1)=false:=je ae;refine jK ?_ mo rfl;refine jx ?_;refine mi (k:=16) follows (hr:=?_);refine jx ?_;refine jB.q2 (OD (b:=ix (.jH k)) (l:=0) (h:=m+1) (blk:=tt t.jH) aa gH aa ah (by simp [vp,lk,go_sem]) (by simp +decide only [vp,go_sem, *]<;>rfl) (dL _) ae ag) ?_;refine jx ?_;refine jB.p2 (JQ (T:=[kj x]) (t:=tm) (t':={ tm with jC:=m+1 }) (v:=.own (ix (.jH k)) tm.jH.length 0 (m+1)) Ic aa aa XN rfl rfl rfl rfl rfl) ?_;have e:sm.jF k { tm with jC:=m+1 }=s.jF k { t with jC:=m+1 }:=by rw [Ko.out,QM.out,u7]
    rw [e];have K2:=(NG.out m ae).wf;clear g1 g2 g3 g4 g5 e1 e2 e3 e4 e5;refine jx ?_;refine ⟨m,⟨ae,?_⟩,ae,W5 K2 ⟨.ptr mc,.pu (.base _),trivial⟩⟩;rw [xB.out,afO (by rw [← mH.out];exact kn)]
theorem Ww {s:jz} {k m:Nat} {t:km} {l':lM} (ht:s.tasks[k]?=some t) (hk:ix (.jH k)<NN):(RH s).set (ix (.jH k)) ⟨112,7,(t.jH.map nD).set m (nD l')⟩=RH (s.jF k { t with jH:=t.jH.set m l' }):=by
 refine vz (s:=s) (s':=s.jF k { t with jH:=t.jH.set m l' }) [(.jH k,_)] (wM ⟨hk,by simp only [blk];rw [lq ht];simp only [tt,fJ]⟩) fun a ha=>?_;simp only [ef,ez,dz] at ha;by_cases e1:a=.tk
 ·subst e1;simp only [blk,qB];have h1:uI (s.jF k { t with jH:=t.jH.set m l' }).tasks=uI s.tasks:=by
   unfold jz.jF;simp only;rw [← JC];have h2:oI k { t with jH:=t.jH.set m l' }=oI k t:=by simp only [oI,dW]
   rw [h2];obtain ⟨q1,q2⟩:=dt (DZ ht);rw [← q2];exact gh q1
  rw [h1]
 by_cases e3:a=.lU k
 ·subst e3;simp only [blk];rw [lq ht,ht]
 by_cases e4:a=.kg k
 ·subst e4;simp only [blk];rw [lq ht,ht]
 exact FC e1 ha e3 e4
theorem akD {s:jz} {ρ:Operand→AV} {ty:TypeId} {x y:Operand} {k m off:Nat} {t:km} {l l':lM} {v:AV} (ht:s.tasks[k]?=some t) (hk:ix (.jH k)<NN) (hl:t.jH[m]?=some l) (hx:ρ x=.ptr (ix (.jH k)) t.jH.length m off) (hy:ρ y=v) (kA:lW Tryd.prog ty=some v.cells.length) (hc:ru v=true) (jP:BK (nD l) off v.cells=some (nD l')) :
 PL Tryd.prog (RH s) ρ (.store ty x y) .bad (RH (s.jF k { t with jH:=t.jH.set m l' })):=by
 have h:=qP (P:=Tryd.prog) (H:=RH s) (t:=ty) (blk:=tt t.jH) (i:=m) hx hy (by rw [nj _ _ hk];simp only [blk];rw [ht]) ah (by rw [dE,hl];rfl) kA hc jP;rw [← Ww ht hk];exact h
theorem HF {S:jz→Nat→jz} {f:Nat} (hS:ET S f) (BV:EU S f) {s:jz} (h:Fo s) {k:Nat} {t:km} (ht:s.tasks[k]?=some t) (jP:t.state≠2) (kn:(l9 t (t.jC-1)).step<(l9 t (t.jC-1)).code.steps.length) (pf:k<f) (hb:s.after.length+1001*f≤1000000000) :
 jS Tryd.prog 93 [jI,.int k] (RH s) (.ky []) (RH (mM S s k)):=by
 have g:=h.tk k t ht;have hw:=h.wf;have gw:=hw.lv t (dx ht);have mJ:=Jw hS h ht jP kn hb;obtain ⟨m,hm⟩:∃m,t.jC=m+1:=⟨t.jC-1,by have:=g.pos;omega⟩
 obtain ⟨x,hx⟩:∃x,x=l9 t m:=⟨_,rfl⟩
 have qC:m<t.jH.length:=by have:=g.pos;omega
 have yV:t.jH[m]?=some x:=by rw [hx];exact OZ qC
 have ui:=Mh h ht jP kn;have zY:pK t={ t with jH:=t.jH.set m { x with step:=x.step+1 } }:=by unfold pK;rw [hm,eM,hx]
 have il:=U5 hS BV ui (lq ht) (by exact jP) pf (by exact hb);have he:mM S s k=tJ S (s.jF k (pK t)) k:=by unfold mM;rw [oO ht]
 rw [← he] at il;obtain ⟨R,hR⟩:∃R,R=mM S s k:=⟨_,rfl⟩
 rw [← hR] at il mJ ⊢;have pG:=g.pF x (dx yV);have hlx:=(hw.oD ht yV)
 obtain ⟨e1,e2,e3,e4,e5⟩:=hlx;obtain ⟨g1,g2,g3,g4,g5⟩:=hw.k ht;have j6:=gw.2.1;have oh:IntKind.i64.wrap (((m+1:Nat):Int)-1)=m:=aW;have hwx:IntKind.i64.wrap (x.step+1)=x.step+1:=nP ae ae;have IH:m<m+1:=ae;have QN:=Hid.mk zY;have mH:=Hid.mk hx;have tC:=Hid.mk hw;clear zY hx he hR;refine jS.i2 [(0,jI),(1,.int k)] 2 33 NN Tryd.func93 (kv s) ?_;refine jx ?_;refine jB.p2 (akD (m:=m) (l:=x) (l':={ x with step:=x.step+1 }) (v:=.int (x.step+1)) ht g1 yV aa aa ny rfl rfl) ?_;rw [← QN.out];refine jx ?_;refine vP il ui.wf mJ.fo.wf ?_;refine jx ?_;exact kY.same (vs:=[]) ag rfl rfl
section
variable {n:Fr} {HS:Nat→List jy} {o:lx} {l:List lx} {sl:List (Option Nat)} {E:Env} {v:AV} {K:Env→Prop} {x i:Operand} {L:List km} {k:Nat}
theorem Zr (hr:ko Tryd.prog n HS 1 l sl K (mF E o.dst (.ptr (ix .tk) L.length k 0))) (hg:o.g=none:=by rfl) (hd:mB n o.dst=true:=by rfl) (ho:o.op=.indexAddr 48 x i:=by rfl) (hx:ev E x=.own (ix .tk) L.length 0 L.length:=by rfl) (hi:ev E i=.int k:=by rfl) (h0:(HS 0)[ix .tk]?.map (·.es.length)=some L.length∧(HS 0)[ix .tk]?.map (·.sz)=some 11:=by (constructor<;>simp +decide only [go_sem,eJ, *])) (h1:(HS 1)[ix .tk]?.map (·.es.length)=some L.length∧(HS 1)[ix .tk]?.map (·.sz)=some 11:=by (constructor<;>simp +decide only [go_sem,eJ, *])) (hk:k<L.length:=by assumption):ko Tryd.prog n HS 1 (o::l) (none::sl) K E:=
 gI hr hg hd (by rw [ho];exact Dg hx hi h0 hk) (by rw [ho];exact Dg hx hi h1 hk)
end
theorem O4:∀f:Nat,EU (lh f) f:=by
 intro f
 induction f with
 | zero=>intro s k _ _ h;omega
 | succ f ih =>
   intro s k h hk pf hb;rw [fZ] at hb;have hw:=h.wf;have ht:=tH hk;have g:=h.tk k _ ht;have sR:=hw.nT;have mJ:=Bj (f+1) s k h hk (by rw [fZ];exact hb);obtain ⟨R,hR⟩:∃R,R=lh (f+1) s k:=⟨_,rfl⟩
   rw [← hR] at mJ ⊢;unfold lh at hR;simp only at hR;obtain ⟨t,Di⟩:∃t,t=jJ s k:=⟨_,rfl⟩
   rw [← Di] at ht g hR;obtain ⟨g1,g2,g3,g4,g5⟩:=hw.k ht;have EF:=hw.lv _ (dx ht);have pR:=EF.2.2.1;have re:=EF.2.2.2.1;have oY:=D7 (H:=RH s) (k:=k) (l:=t.kids) (by rw [nj _ _ g2];simp only [blk,ht]);simp +decide only [go_sem] at oY;have ES:=Hid.mk hR;have atY:=Hid.mk Di;have ka:=Hid.mk hb;have Dj:=Hid.mk ih;clear hR Di hb ih;have wA:=fun j (hj:j<s.tasks.length)=>yv hw (tH hj);refine jS.i2 [(0,jI),(1,.int k)] 2 172 NN Tryd.func65 (kv s) ?_;refine jx ?_;refine jG.loop (J:=fun i:Nat=>i≤t.kids.length∧∀c∈t.kids.take i,sX s c=true) (fun i=>⟨[(0,jI),(1,.int k),(4,.int i)],RH s⟩) (fun i=>t.kids.length-i) 0 ⟨dL _,ah⟩ .wf ?_;rintro i ⟨hi,ou⟩;refine jx ?_;by_cases hd:i<t.kids.length
   ·have kb:decide ((i:Int)<(t.kids.length:Int))=true:=jf ae;obtain ⟨c,hc⟩:∃c,t.kids[i]?=some c:=⟨_,dy hd⟩
    have vQ:(t.kids.map AV.int)[i]?=some (.int c):=cW;obtain ⟨j,hj,h2,h3⟩:=g.kids c (dx hc);have io:=wA j h3;have EV:sX s c=decide (2<(jJ s j).state):=by rw [hj];rfl
    have XO:=Hid.mk EV;clear EV;refine j8 ?_ rfl aa;refine jx ?_;refine vP io hw hw ?_;refine jx ?_;refine kL (fun hq=>?_) (fun hq=>?_)
    ·have e:R=s:=by
      rw [ES.out,ja];rw [eS];exact ⟨c,dx hc,by rw [XO.out];exact hq⟩
     rw [e];refine jx ?_;exact kY.same (vs:=[]) ag rfl rfl
    ·refine jx ?_;rw [l6 ae];refine ⟨i+1,⟨ae,fun x hx=>?_⟩,ae,.wf⟩;rw [fH,hc] at hx;rcases eg.1 hx with hx|hx
     ·exact ou x hx
     ·simp at hx;subst hx;rw [XO.out];simpa using hq
   have kb:decide ((i:Int)<(t.kids.length:Int))=false:=je ae;refine jK ?_ rfl aa;refine jx ?_;have W6:∀c∈t.kids,sX s c=true:=by rw [fP ae] at ou;exact ou
   have rY:R=(let s3:=uQ (tO (s.jF k { t with state:=if t.ended=true then 4 else 3 }) k t) k t.kids
    if t.par<0∨(jJ s3 t.par.toNat).state≠2 then s3
    else if (jJ s3 t.par.toNat).closing=true then lh f s3 t.par.toNat
    else if (jJ s3 t.par.toNat).waits=(k:Int) then mM (lh f) (s3.jF t.par.toNat { jJ s3 t.par.toNat with waits:=-1,state:=1 }) t.par.toNat
    else s3):=by
    rw [ES.out,iZ];rw [eS];rintro ⟨c,hc,hq⟩;rw [W6 c hc] at hq;cases hq
   have rY:=Hid.mk rY;clear ou W6 hd kb hi;obtain ⟨u1,tT⟩:∃u1,u1=s.jF k { t with state:=3 }:=⟨_,rfl⟩
   have So:u1.tasks[k]?=some { t with state:=3 }:=by rw [tT];exact lq ht
   obtain ⟨t1,Ga⟩:∃t1:km,t1={ t with state:=if t.ended=true then 4 else 3 }:=⟨_,rfl⟩
   obtain ⟨s1,j6⟩:∃s1,s1=s.jF k t1:=⟨_,rfl⟩
   have lr:s1.tasks[k]?=some t1:=by rw [j6];exact lq ht
   have oK:Fo s1:=by
    rw [j6,Ga];refine h.xj ht rfl rfl rfl rfl ⟨g.pos.1,dD _⟩ fun e=>?_;have e:(if t.ended=true then (4:Int) else 3)=2:=e;split at e<;>omega
   have Zt:s1.tasks.length=s.tasks.length:=by rw [j6,lY]
   have Sp:s1.after=s.after:=by rw [j6];rfl
   refine jB.p2 (Cv (t':={ t with state:=3 }) (v:=.int 3) ht aa aa ny rfl rfl rfl rfl rfl) ?_;rw [← tT];have Zu:WF u1:=by rw [tT];exact hw.jF ht rfl rfl rfl (dD _)
   clear g1 g2 g3 g4 g5 oY;obtain ⟨g1,g2,g3,g4,g5⟩:=Zu.k So;have F7:=Hid.mk tT;have oL:=Hid.mk j6;have HY:=Hid.mk Ga;have MS:=Hid.mk lr;have auB:=Hid.mk Zt;clear tT j6 Ga lr Zt;refine jx ?_;refine jG.join ⟨[(0,jI),(1,.int k)],RH s1⟩ ?_ ?_
   ·cases het:t.ended with
    | false =>
      refine jK ?_ rfl rfl;refine jx ?_;rw [show s1=u1 by rw [oL.out,F7.out,HY.out,het];rfl];exact .wf
    | true =>
      refine j8 ?_ rfl rfl;refine jx ?_;refine jB.p2 (Cv (t':={ t with state:=4 }) (v:=.int 4) So aa aa ny rfl rfl rfl rfl rfl) ?_;rw [show u1.jF k { t with state:=4 }=s1 by rw [oL.out,F7.out,HY.out,het,u7];rfl];refine jx ?_;exact .wf
   clear g1 g2 g3 g4 g5 So Zu F7;have lr:=MS.out;have kq:=oK.wf;obtain ⟨g1,g2,g3,g4,g5⟩:=kq.k lr;have K3:t1.kids=t.kids:=by rw [HY.out]
   have auC:t1.turns=t.turns:=by rw [HY.out]
   have aDn:t1.par=t.par:=by rw [HY.out]
   have rW:=W0 (H:=RH s1) (k:=k) (l:=t.turns) (by rw [nj _ _ g3];simp only [blk,lr,auC]);simp +decide only [go_sem] at rW;have Ql:=Hid.mk oK;clear oK MS;refine jx ?_;obtain ⟨s2,jW⟩:∃s2,s2=tO s1 k t:=⟨_,rfl⟩
   have pz:=Hid.mk jW;clear jW;have oz:Fo s2:=by rw [pz.out];exact Ql.out.tO (by have:=ka.out;rw [Sp];omega)
   have Qm:=Hid.mk oz;clear oz;refine jG.join ⟨[(0,jI),(1,.int k)],RH s2⟩ ?_ ?_
   ·by_cases hn:t.turns.length=0
    ·have kb:decide ((t.turns.length:Int)>0)=false:=je ae;refine jK ?_ kb rfl;refine jx ?_;have e:s2=s1:=by
      rw [pz.out];unfold tO;rw [dQ hn];rfl
     rw [e];exact .wf
    ·obtain ⟨q,hq⟩:∃q,t.turns.length=q+1:=⟨t.turns.length-1,ae⟩
     have kb:decide ((t.turns.length:Int)>0)=true:=jf ae;obtain ⟨x,hx⟩:∃x,t.turns[q]?=some x:=⟨_,dy ae⟩
     have hxi:(t.turns.map AV.int)[q]?=some (.int x):=aZ;have oh:IntKind.i64.wrap ((t.turns.length:Int)-1)=q:=by rw [hq,nP ae ae];omega
     have Gb:s2=s1.nw (x,2000+k):=by
      rw [pz.out];unfold tO;rw [List.getLast?_eq_getElem?,hq,eM,hx]
     have F9:=HN (k:Int) ae ae;have xL:=Hv kq x (2000+k) (by have:=ka.out;rw [Sp];omega);rw [← Gb] at xL;have aqC:=Hid.mk Gb;have C4:=Hid.mk hq;clear Gb hq;refine j8 ?_ kb rfl;refine jx ?_;refine mi (k:=15) follows (hr:=?_);refine jx ?_;refine oQ F9 ?_;refine jx ?_;refine vP xL kq Qm.out.wf ?_;refine jx ?_;exact .wf
   clear g1 g2 g3 g4 g5 rW;have EW:=U4 (s:=s1) (k:=k) (t:=t);rw [← pz.out,Sp] at EW;have ov:s2.tasks[k]?=some t1:=by rw [EW.2];exact lr
   have nL:s2.tasks.length=s.tasks.length:=by rw [EW.2,auB.out]
   have EW:=Hid.mk EW;have lj:=Qm.out.wf;have aDo:=Hid.mk lj;clear lj kq lr;refine jx ?_;refine jG.loop (J:=fun x:Nat×jz=>x.1≤t.kids.length∧x.2=uQ s2 k (t.kids.take x.1)) (fun x=>⟨[(0,jI),(1,.int k),(6,.int x.1)],RH x.2⟩) (fun x=>t.kids.length-x.1) (0,s2) ⟨dL _,by simp [uQ]⟩ .wf ?_;rintro ⟨i,si⟩ ⟨hi,pv⟩;simp only at hi pv ⊢;have K4:=Pd (k:=k) (ks:=t.kids.take i) (s:=s2);rw [← pv] at K4;have tS:Fo si:=by
    rw [pv];exact Fo.uQ Qm.out (by have:=EW.out.1;have:=ka.out;rw [eQ];omega)
   have BU:i<t.kids.length→si.after.length<1000000000:=fun hd=>by
    rw [K4.1,eQ];have:=EW.out.1;have:=ka.out;omega
   have BU:=Hid.mk BU;have nh:si.tasks[k]?=some t1:=by rw [K4.2];exact ov
   have nr:=tS.wf;obtain ⟨g1,g2,g3,g4,g5⟩:=nr.k nh;have oY:=D7 (H:=RH si) (k:=k) (l:=t.kids) (by rw [nj _ _ g2];simp only [blk,nh,K3]);simp +decide only [go_sem] at oY;have wg:=Hid.mk pv;have XP:=Hid.mk K4;have Gc:=Hid.mk tS;clear pv K4 tS;refine jx ?_;by_cases hd:i<t.kids.length
   ·have kb:decide ((i:Int)<(t.kids.length:Int))=true:=jf ae;obtain ⟨c,hc⟩:∃c,t.kids[i]?=some c:=⟨_,dy hd⟩
    have vQ:(t.kids.map AV.int)[i]?=some (.int c):=cW;obtain ⟨j,hj,h2,h3⟩:=g.kids c (dx hc);have F9:=HN (k:Int) ae ae;have Qn:=HN c ae ae;have BU:=BU.out hd;have xL:=Hv nr (2000+c) (2000+k) BU;have mC:=Hid.mk hj;clear hj;refine j8 ?_ rfl aa;refine jx ?_;refine oQ Qn ?_;refine jx ?_;refine oQ F9 ?_;refine jx ?_;refine vP xL nr (nr.nw BU) ?_;refine jx ?_;rw [l6 ae];refine ⟨(i+1,si.nw (2000+c,2000+k)),⟨bp,?_⟩,bp,.wf⟩;simp only;rw [fH,hc];unfold uQ;rw [ik];rw [wg.out];rfl
   have kb:decide ((i:Int)<(t.kids.length:Int))=false:=je ae;refine jK ?_ rfl aa;refine jx ?_;have lV:si=uQ (tO (s.jF k { t with state:=if t.ended=true then 4 else 3 }) k t) k t.kids:=by
    rw [wg.out,fP ae,pz.out,oL.out,HY.out]
   have GU:=rY.out;simp only at GU;rw [← lV] at GU;have GU:=Hid.mk GU;have K5:si.after.length+1001*f≤1000000000:=by
    rw [XP.out.1,eQ];have:=EW.out.1;have:=ka.out;omega
   have K5:=Hid.mk K5;clear hd kb BU wg rY lV hi;by_cases wY:t.par<0
   ·have e:R=si:=by rw [GU.out,ja (.inl wY)]
    rw [e];have hdt:decide (t.par<0)=true:=jf wY;refine wu ((oI k t1).kN 0) ?_ (hx:=by simp [oR,wY]);refine jx ?_;refine j8 ?_ (by simp [hdt]) rfl;refine jx ?_;exact kY.same (vs:=[]) ag rfl rfl
   obtain ⟨p,hp,GO⟩:∃p:Nat,t.par=(p:Int)∧p<k:=by
    rcases g.par with e|e
    ·exact absurd (by omega:t.par<0) wY
    ·exact e
   have nG:p<si.tasks.length:=by rw [XP.out.2,nL];omega
   have ns:=tH nG;obtain ⟨tp,Bw⟩:∃tp,tp=jJ si p:=⟨_,rfl⟩
   have K6:=GU.out;rw [hp,dF,← Bw] at K6;rw [← Bw] at ns;have Zv:=Gc.out.tk p _ ns;have K6:=Hid.mk K6;have aCR:=Hid.mk Bw;have XQ:=Hid.mk Zv;clear Bw Zv g1 g2 g3 g4 g5 oY GU;obtain ⟨g1,g2,g3,g4,g5⟩:=nr.k ns;have Zw:decide ((p:Int)<0)=false:=je ae;have II:R=if (p:Int)<0∨tp.state≠2 then si else if tp.closing=true then lh f si p else if tp.waits=(k:Int) then mM (lh f) (si.jF p { tp with waits:=-1,state:=1 }) p else si:=K6.out
   have II:=Hid.mk II;clear K6;rw [hp];refine uf (h:=fun hg=>A0 (l:=si.tasks) (k:=p) aa aa aa bM) (hr:=?_);refine jx ?_;by_cases jW:tp.state=2
   ·refine jK ?_ (by simp [Zw,jW]) rfl;refine jx ?_;cases lK:tp.closing with
    | true =>
      have Zx:=Dj.out si p Gc.out nG ae K5.out;have XR:=Bj f si p Gc.out nG K5.out;have e:R=lh f si p:=by
       rw [II.out,iZ (by simp [jW]),ja lK]
      rw [← e] at Zx XR;refine j8 ?_ rfl rfl;refine jx ?_;refine vP Zx nr XR.fo.wf ?_;refine jx ?_;exact kY.same (vs:=[]) ag rfl rfl
    | false =>
      refine jK ?_ rfl rfl;refine jx ?_;by_cases sD:tp.waits=(k:Int)
      ·have mo:decide (tp.waits=(k:Int))=true:=jf sD;refine j8 ?_ mo rfl;refine jx ?_;obtain ⟨v1,lI⟩:∃v1,v1=si.jF p { tp with waits:=-1 }:=⟨_,rfl⟩
       obtain ⟨v2,oM⟩:∃v2,v2=si.jF p { tp with waits:=-1,state:=1 }:=⟨_,rfl⟩
       have QO:v1.tasks[p]?=some { tp with waits:=-1 }:=by rw [lI];exact lq ns
       have lv1:v1.tasks.length=si.tasks.length:=by rw [lI,lY]
       have Kq:v1.jF p { tp with waits:=-1,state:=1 }=v2:=by rw [lI,oM,u7]
       have XS:v2.tasks[p]?=some { tp with waits:=-1,state:=1 }:=by rw [oM];exact lq ns
       have mr:=XQ.out.GN jW lK;have Dl:Fo v2:=by
        rw [oM];exact Gc.out.xj ns rfl rfl rfl rfl ⟨XQ.out.pos.1,dD _⟩ fun e=>absurd e dr
       have Sq:v2.after.length+1001*f≤1000000000:=by rw [oM];exact K5.out
       have ow:=HF (Bj f) Dj.out Dl XS dr mr ae Sq;have QP:=Jw (Bj f) Dl XS dr mr Sq;have e:R=mM (lh f) v2 p:=by
        rw [II.out,iZ (by simp [jW]),iZ (by simp [lK]),ja sD,oM]
       rw [← e] at ow QP;have QQ:=Dl.wf;have hkw:=QP.fo.wf;have QR:=Hid.mk lI;have auD:=Hid.mk oM;have Qo:=Hid.mk Kq;clear lI oM Kq mr Dl Sq QP e;refine qK (k:=13) [none,none,none,none,none,none,none,none,none,none,none,none,some 0] (fun c=>match c with
        | 0=>RH si
        | _=>RH v1) 1 follows ?_
       repeat (first|refine gS ?_|refine Zr ?_)
       refine ko.p1 (v:=.bad) rfl rfl (fun kB pb=>by
        have h1:=Cv (s:=si) (ρ:=kB) (ty:=3) (t:=tp) (t':={ tp with waits:=-1 }) (v:=.int (-1)) ns ((pb (.tmp 166) au).trans aa) ((pb (.const (.int .i64 (-1))) au).trans rfl) ny rfl rfl rfl rfl rfl;rw [← QR.out] at h1;exact h1) ?_
       refine ko.nil ?_;show jB _ _ _ _ _ ⟨_,RH v1⟩;refine jB.q2 (Dg (L:=si.tasks) (k:=p) aa aa cC bM) ?_;refine jx ?_;refine jB.p2 (Cv (t':={ tp with waits:=-1,state:=1 }) (v:=.int 1) QO aa aa ny rfl rfl rfl rfl rfl) ?_;rw [Qo.out];refine jx ?_;refine vP ow QQ hkw ?_;refine jx ?_;exact kY.same (vs:=[]) ag rfl rfl
      ·have mo:decide (tp.waits=(k:Int))=false:=je sD;refine jK ?_ mo rfl;refine jx ?_;have e:R=si:=by
        rw [II.out,iZ (by simp [jW]),iZ (by simp [lK]),iZ sD]
       rw [e];exact kY.same (vs:=[]) ag rfl rfl
   ·refine j8 ?_ (by simp [Zw,jW]) rfl;refine jx ?_;have e:R=si:=by rw [II.out,ja (.inr jW)]
    rw [e];exact kY.same (vs:=[]) ag rfl rfl
noncomputable def IJ (b:Nat):Option Nat:=if b<NN then some b else if b=NN+1 then some NN else none
theorem PW {b:Nat} (h:b<NN):IJ b=some b:=ja h
theorem VG:IJ (NN+1)=some NN:=by unfold IJ;rw [iZ ae,ja rfl]
theorem kY.auE {rs:List ResultVar} {n:Nat} {d:AV} {s':jz} {E:Env} {H:List jy} {vs:List AV} {l:List Int} {B:jy} (T:List jy) (hw:WF s') (hv:o6 Tryd.prog ⟨E,H⟩ rs=some vs) (hH:H=RH s'++(B::jD l::T)) (hd:mL IJ H (rG vs) d):kY Tryd.prog rs ⟨n,NN⟩ d (RH s'++[jD l]) ⟨E,H⟩:=by
 have hl:=kv s';refine ⟨_,vs,IJ,fun j=>if j<NN then j else NN+1,.refl _,hv,⟨fun b h=>PW h,fun j hj=>?_,fun b j hb h=>?_,fun j b1 b2 h1 h2=>?_⟩,hd⟩
 ·simp only [dK,hl,dO] at hj;simp only;split
  ·rename_i e;exact ⟨by rw [hH];simp [hl];omega,PW e⟩
  ·exact ⟨by rw [hH];simp [hl],by rw [VG];congr 1;omega⟩
 ·unfold IJ at h;simp only [dK,hl,dO];split at h
  ·rename_i e;injection h with h;subst h;exact ⟨ja e,ae⟩
  ·split at h
   ·rename_i e1 e2;injection h with h;subst h;subst e2;exact ⟨iZ (Nat.lt_irrefl _),ae⟩
   ·cases h
 ·simp only at h1;have hr:b1=b2∧kI (·<NN) b2:=by
   by_cases e:j<NN
   ·rw [ja e,hH,dA ae] at h1;rw [dA ae] at h2;rw [h1] at h2;injection h2 with h2;subst h2;exact ⟨rfl,rO hw b1 (dx h1)⟩
   ·have hj:=(dt h2).1;simp only [dK,hl,dO] at hj;have ej:j=NN:=ae;subst ej;rw [iZ (Nat.lt_irrefl _),hH,dJ ae,hl,show NN+1-NN=1 by omega] at h1;rw [dJ ae,hl,eT] at h2;injection h1 with h1;injection h2 with h2;subst h1;subst h2;exact ⟨rfl,rE⟩
  obtain ⟨rfl,hr⟩:=hr;refine ⟨rfl,rfl,rfl,fun i e e2 h3 h4=>?_⟩;rw [h3] at h4;injection h4 with h4;subst h4;refine ⟨rfl,fun k c c2 h5 h6=>?_⟩;rw [h5] at h6;injection h6 with h6;subst h6;exact (hr e (dx h3) c (dx h5)).tB fun b hb=>PW hb
def mO (vars vs:List Int):Bool:=!(vs.any fun v=>decide (vars.getD v.toNat 0<0))
def lX (vars vs:List Int):List Int:=vs.map fun v=>vars.getD v.toNat 0
def mW (vars:List Int) (v:Int):Prop:=0≤v∧v.toNat<vars.length
theorem Hx {vars vs:List Int}:(lX vars vs).length=vs.length:=by simp [lX]
theorem afQ {vars vs:List Int} {i:Nat} (h:i<vs.length):lX vars (vs.take (i+1))=lX vars (vs.take i)++[vars.getD vs[i].toNat 0]:=by
 unfold lX;rw [fu h,fY];rfl
theorem Ub {s:jz} (hw:WF s) {x:lM} {f:List Int×List Int} (hf:s.jY[x.fr]?=some f) (lH:f.1.length=x.code.vars.toNat) {vs:List Int} (kV:∀v∈vs,mW f.1 v) (hl:vs.length≤1000000) :
 (mO f.1 vs=true→jS Tryd.prog 94 [nD x,.jA (vs.map .int)] (RH s) (.ky [.own NN (lX f.1 vs).length 0 (lX f.1 vs).length,.bool true]) (RH s++[jD (lX f.1 vs)])) ∧
 (mO f.1 vs=false→jS Tryd.prog 94 [nD x,.jA (vs.map .int)] (RH s) (.ky [kD,.bool false]) (RH s)):=by
 have hj:x.fr<s.jY.length:=(dt hf).1;have lI:ix (.kz x.fr)<NN:=mq (tY hw (a:=.kz x.fr) hj);have oM:ix (.lg x.fr)<NN:=mq (tY hw (a:=.lg x.fr) hj);have key:∀(D:AV) (HR:List jy),(mO f.1 vs=true→D=.ky [.own NN (lX f.1 vs).length 0 (lX f.1 vs).length,.bool true]∧HR=RH s++[jD (lX f.1 vs)])→(mO f.1 vs=false→D=.ky [kD,.bool false]∧HR=RH s)→jS Tryd.prog 94 [nD x,.jA (vs.map .int)] (RH s) D HR:=by
  intro D HR hT hF;refine jS.i2 [(0,nD x),(1,.jA (vs.map .int))] 2 35 NN Tryd.func94 (kv s) ?_;have GV:=Hid.mk hT;have NG:=Hid.mk hF;have wh:=Hid.mk kV;clear hT hF kV;refine jG.seq ?_;refine jG.join ⟨[(1,.jA (vs.map .int)),(2,.ptr NN 1 0 0)],RH s++[kj x]⟩ ?_ ?_
  ·refine jx ?_;refine jB.p2 (xW (el:=112) aa (HV x)) ?_;refine jx ?_;exact .wf
  refine jx ?_;have Zy:∀b∈RH s++[kj x],kI (·<NN) b:=fun b hb=>by
   rcases eg.1 hb with hb|hb
   ·exact rO hw b hb
   ·rw [dz] at hb;subst hb;exact .one (HD lI oM)
  refine jG.weaken (Wk.rQ (E2:=[(1,.jA (vs.map .int)),(2,.ptr NN 1 0 0),(6,.own (NN+1) 0 0 0),(7,.int 0)]) (H2:=RH s++[kj x]) 3 1 (.rf (S:=(·<NN)) Zy) ⟨.pu (l7 _),.ptr,.nil cV,.pu (.base _),trivial⟩) ?_;refine jG.loop (J:=fun i:Nat=>i≤vs.length∧mO f.1 (vs.take i)=true) (fun i=>⟨[(1,.jA (vs.map .int)),(2,.ptr NN 1 0 0),(6,.own (NN+1) i 0 i),(7,.int i)],RH s++[kj x,jD (lX f.1 (vs.take i))]⟩) (fun i=>vs.length-i) 0 ⟨dL _,rfl⟩ (by
   show Wk _ ⟨_,RH s++[kj x]++[_]⟩ _;rw [eA];exact .wf) ?_
  rintro i ⟨hi,pt⟩;have QS:=Hid.mk pt;clear pt Zy;refine jx ?_;by_cases hd:i<vs.length
  ·have kb:decide ((i:Int)<(vs.length:Int))=true:=jf ae;have tP:nth 0 vs (i:Int)=vs[i]:=uP hd;obtain ⟨h1,h2⟩:=wh.out _ (ey hd);obtain ⟨y,GX⟩:∃y,f.1.getD vs[i].toNat 0=y:=⟨_,rfl⟩
   have pg:lX f.1 (vs.take (i+1))=lX f.1 (vs.take i)++[y]:=by rw [afQ hd,GX]
   have tE:(lX f.1 (vs.take i)).length=i:=by rw [Hx,eQ];omega
   have hy:f.1[vs[i].toNat]?=some y:=by rw [← GX,dI,dy h2];rfl
   have XT:mO f.1 (vs.take (i+1))=!decide (y<0):=by
    have:=QS.out;unfold mO at this ⊢;rw [fu hd,List.any_append];simp only [Bool.not_eq_true'] at this;rw [this];simp only [List.any_cons,List.any_nil,Bool.or_false,Bool.false_or,GX]
   have XU:decide (y<0)=true→mO f.1 vs=false:=fun e=>by
    unfold mO;rw [Bool.not_eq_false',eS];exact ⟨vs[i],ey hd,by rw [GX];exact e⟩
   obtain ⟨v,hv⟩:∃v:Nat,vs[i]=v:=⟨_,(dP h1).symm⟩
   rw [hv] at tP hy h2;simp only [dF] at hy h2;have hyi:(f.1.map AV.int)[v]?=some (.int y):=cy;have xJ:f.1[v]?=some y∧f.1.length=x.code.vars.toNat:=⟨hy,lH⟩
   obtain ⟨A,hA⟩:∃A,A=lX f.1 (vs.take i):=⟨_,rfl⟩
   rw [← hA] at tE pg ⊢;have aqD:=Hid.mk XT;have aqE:=Hid.mk XU;have AB:=Hid.mk pg;clear GX hv hA QS XT XU pg;refine j8 ?_ rfl aa;refine jx ?_;refine mi (k:=6) follows (hr:=?_);refine jx ?_;refine kL (fun Sr=>?_) (fun Sr=>?_)
   ·obtain ⟨eD,eH⟩:=NG.out (aqE.out Sr);rw [eD,eH];clear eD eH;refine jx ?_;exact Rf.kY.ref [kj x,jD A] hw (vs:=[kD,.bool false]) aV rfl rfl (.pu (.ky ah))
   ·have pH:(RH s++[kj x,jD A])[NN+1]?=some (jD A):=by rw [vx (kv s)];rfl
    refine jx ?_;refine mi (k:=10) follows (hr:=?_);refine jx ?_;refine jB.p2 (Ao (b:=NN+1) (l:=A) (v:=y) (by rw [tE];simp +decide only [go_sem, *]<;>rfl) aa pH ae) ?_;rw [wE (kv s),tE];clear pH;refine jx ?_;rw [l6 ae];refine ⟨i+1,⟨ae,?_⟩,ae,?_⟩
    ·rw [aqD.out,Sr];rfl
    ·rw [AB.out];exact .wf
  have kb:decide ((i:Int)<(vs.length:Int))=false:=je ae;have auF:mO f.1 vs=true:=by have:=QS.out;rw [fP ae] at this;exact this
  obtain ⟨eD,eH⟩:=GV.out auF;rw [eD,eH];have lT:i=vs.length:=ae;have tE:(lX f.1 vs).length=i:=by rw [Hx];omega
  rw [tE,fP ae];clear lT eD eH;refine jK ?_ rfl aa;refine jx ?_;exact kY.auE (B:=kj x) (l:=lX f.1 vs) [] hw (vs:=[.own (NN+1) i 0 i,.bool true]) aV rfl (.Az ⟨.own VG,.pu (.base _),trivial⟩)
 exact ⟨fun h=>key _ _ (fun _=>⟨rfl,rfl⟩) fun e=>(by rw [h] at e;cases e),fun h=>key _ _ (fun e=>(by rw [h] at e;cases e)) fun _=>⟨rfl,rfl⟩⟩
structure Dk (S:jz→Nat→jz) (f:Nat) (s:jz) (k m i:Nat) (t:km) (l:lM) (st:kG):Prop where
 top:Dh s k t m l i st
 fo:Fo s
 s1:t.state=1
 kf:k<f
 S1:ET S f
 S2:EU S f
 af:s.after.length+1001*(f+1)≤1000000000
 ac:l.jM<1000
theorem Dk.oD {S:jz→Nat→jz} {f:Nat} {s:jz} {k m i:Nat} {t:km} {l:lM} {st:kG} (h:Dk S f s k m i t l st):l9 t (t.jC-1)=l∧l.step<l.code.steps.length:=by
 have h1:=h.top.hl;refine ⟨zh (by rw [h.top.hm];exact h1),?_⟩;have:=(dt h.top.jP).1;rw [h.top.hi];omega
theorem Dk.next {S:jz→Nat→jz} {f:Nat} {s:jz} {k m i:Nat} {t:km} {l:lM} {st:kG} (h:Dk S f s k m i t l st):jS Tryd.prog 93 [jI,.int k] (RH s) (.ky []) (RH (mM S s k))∧Kp (1001*f) s (mM S s k):=by
 have hf:=h.af;rw [fZ] at hf;have h2:(l9 t (t.jC-1)).step<(l9 t (t.jC-1)).code.steps.length:=by rw [h.oD.1];exact h.oD.2
 exact ⟨HF h.S1 h.S2 h.fo h.top.ht (by rw [h.s1];omega) h2 h.kf ae,Jw h.S1 h.fo h.top.ht (by rw [h.s1];omega) h2 ae⟩
def jR (a:Int) (k:Nat):Int:=if 0≤a then -1-a else k
theorem auG {S:jz→Nat→jz} {f:Nat} {s:jz} {k m i:Nat} {t:km} {l:lM} {v w nn tk:Int} {vs:List Int} (h:Dk S f s k m i t l ⟨12,v,w,nn,tk,vs⟩):jS Tryd.prog 72 [jI,.int k] (RH s) (.bool true) (RH (mM S s k)):=by
 obtain ⟨ow,mJ⟩:=h.next;have hw:=h.fo.wf;obtain ⟨⟨ht,hm,hl,hi,jP⟩,nM,j6,pf,pZ,my,p9,kW⟩:=h;obtain ⟨lc,la,ls,lf⟩:=l;simp only at hi jP kW;subst hi;obtain ⟨g1,g2,g3,g4,g5⟩:=hw.k ht;obtain ⟨e1,e2,e3,e4,e5⟩:=hw.oD ht hl;simp only at e1 e2 e5;have qC:m<t.jC:=ae;have mV:=(hw.lv t (dx ht)).2.1;have nq:i<lc.steps.length:=(dt jP).1;have pG:(lc.steps.map ki)[i]?=some (ki ⟨12,v,w,nn,tk,vs⟩):=aB;have pS:IntKind.i64.wrap ((t.jC:Int)-1)=m:=ax;have nt:Hid (0≤la→IntKind.i64.wrap (-1-la)=jR la k):=⟨fun h=>ak⟩
 have rh:=Hid.mk hm;clear hm;refine jS.i2 [(0,jI),(1,.int k)] 2 475 NN eX (kv s) ?_;refine jx ?_;refine jB.p2 (qc (T:=[kS]) (q:=0) (l:=⟨lc,la,i,lf⟩) aa aa rfl) ?_;show jB _ _ _ _ _ ⟨_,RH s++[kj ⟨lc,la,i,lf⟩]⟩;refine jx ?_;refine jG.join ⟨[(0,jI),(1,.int k),(5,.int m),(6,.ptr NN 1 0 0),(7,.ptr (NN+1) 1 0 0),(8,.int (jR la k))],RH s++[kj ⟨lc,la,i,lf⟩,j7 ⟨12,v,w,nn,tk,vs⟩]⟩ ?_ ?_
 ·by_cases kJ:0≤la
  ·have kb:decide (la≥0)=true:=jf kJ;refine j8 ?_ kb rfl;refine jx ?_;rw [nt.out kJ];exact .wf
  ·have kb:decide (la≥0)=false:=je kJ;refine jK ?_ kb rfl;refine jx ?_;rw [show jR la k=(k:Int) by unfold jR;rw [iZ kJ]];exact .wf
 refine jx ?_;repeat (refine jK ?_ rfl rfl;refine jx ?_)
 refine cF ow hw mJ.fo.wf ?_;refine jx ?_;exact Rf.kY.ref [kj ⟨lc,la,i,lf⟩,j7 ⟨12,v,w,nn,tk,vs⟩] mJ.fo.wf (vs:=[.bool true]) ag rfl rfl (.pu (.base _))
theorem Dk.of {S:jz→Nat→jz} {f:Nat} {s s':jz} {k m i:Nat} {t t':km} {l:lM} {st:kG} (h:Dk S f s k m i t l st) (nM:Fo s') (ht:s'.tasks[k]?=some t') (h1:t'.jH=t.jH) (h2:t'.jC=t.jC) (h3:t'.state=t.state) (h4:s'.after.length+1001*(f+1)≤1000000000):Dk S f s' k m i t' l st:=
 ⟨⟨ht,by rw [h2];exact h.top.hm,by rw [h1];exact h.top.hl,h.top.hi,h.top.jP⟩,nM,by rw [h3];exact h.s1,h.kf,h.S1,h.S2,h4,h.ac⟩
theorem aqF {S:jz→Nat→jz} {f:Nat} {s:jz} {k m i:Nat} {t:km} {l:lM} {v w nn tk:Int} {q:Nat} {vs:List Int} (h:Dk S f s k m i t l ⟨11,v,w,nn,tk,vs⟩) (hc:t.canc=true):jS Tryd.prog 72 [jI,.int k] (RH s) (.bool false) (RH (s)):=by
 obtain ⟨ow,mJ⟩:=h.next;have hD:=Hid.mk h;have hw:=h.fo.wf;obtain ⟨⟨ht,hm,hl,hi,jP⟩,nM,j6,pf,pZ,my,p9,kW⟩:=h;obtain ⟨lc,la,ls,lf⟩:=l;simp only at hi jP kW;subst hi;obtain ⟨g1,g2,g3,g4,g5⟩:=hw.k ht;obtain ⟨e1,e2,e3,e4,e5⟩:=hw.oD ht hl;simp only at e1 e2 e5;have qC:m<t.jC:=ae;have mV:=(hw.lv t (dx ht)).2.1;have nq:i<lc.steps.length:=(dt jP).1;have pG:(lc.steps.map ki)[i]?=some (ki ⟨11,v,w,nn,tk,vs⟩):=aB;have pS:IntKind.i64.wrap ((t.jC:Int)-1)=m:=ax;have nt:Hid (0≤la→IntKind.i64.wrap (-1-la)=jR la k):=⟨fun h=>ak⟩
 have rh:=Hid.mk hm;clear hm;refine jS.i2 [(0,jI),(1,.int k)] 2 475 NN eX (kv s) ?_;refine jx ?_;refine jB.p2 (qc (T:=[kS]) (q:=0) (l:=⟨lc,la,i,lf⟩) aa aa rfl) ?_;show jB _ _ _ _ _ ⟨_,RH s++[kj ⟨lc,la,i,lf⟩]⟩;refine jx ?_;refine jG.join ⟨[(0,jI),(1,.int k),(5,.int m),(6,.ptr NN 1 0 0),(7,.ptr (NN+1) 1 0 0),(8,.int (jR la k))],RH s++[kj ⟨lc,la,i,lf⟩,j7 ⟨11,v,w,nn,tk,vs⟩]⟩ ?_ ?_
 ·by_cases kJ:0≤la
  ·have kb:decide (la≥0)=true:=jf kJ;refine j8 ?_ kb rfl;refine jx ?_;rw [nt.out kJ];exact .wf
  ·have kb:decide (la≥0)=false:=je kJ;refine jK ?_ kb rfl;refine jx ?_;rw [show jR la k=(k:Int) by unfold jR;rw [iZ kJ]];exact .wf
 refine jx ?_;repeat (refine jK ?_ rfl rfl;refine jx ?_)
 refine j8 ?_ rfl rfl;refine jx ?_;refine j8 ?_ rfl rfl;refine jx ?_;exact Rf.kY.ref [kj ⟨lc,la,i,lf⟩,j7 ⟨11,v,w,nn,tk,vs⟩] hw (vs:=[.bool false]) ag rfl rfl (.pu (.base _))
theorem aqG {S:jz→Nat→jz} {f:Nat} {s:jz} {k m i:Nat} {t:km} {l:lM} {v w nn tk:Int} {q:Nat} {vs:List Int} (h:Dk S f s k m i t l ⟨11,v,w,nn,tk,vs⟩) (hc:t.canc=false):jS Tryd.prog 72 [jI,.int k] (RH s) (.bool true) (RH (mM S s k)):=by
 obtain ⟨ow,mJ⟩:=h.next;have hD:=Hid.mk h;have hw:=h.fo.wf;obtain ⟨⟨ht,hm,hl,hi,jP⟩,nM,j6,pf,pZ,my,p9,kW⟩:=h;obtain ⟨lc,la,ls,lf⟩:=l;simp only at hi jP kW;subst hi;obtain ⟨g1,g2,g3,g4,g5⟩:=hw.k ht;obtain ⟨e1,e2,e3,e4,e5⟩:=hw.oD ht hl;simp only at e1 e2 e5;have qC:m<t.jC:=ae;have mV:=(hw.lv t (dx ht)).2.1;have nq:i<lc.steps.length:=(dt jP).1;have pG:(lc.steps.map ki)[i]?=some (ki ⟨11,v,w,nn,tk,vs⟩):=aB;have pS:IntKind.i64.wrap ((t.jC:Int)-1)=m:=ax;have nt:Hid (0≤la→IntKind.i64.wrap (-1-la)=jR la k):=⟨fun h=>ak⟩
 have rh:=Hid.mk hm;clear hm;refine jS.i2 [(0,jI),(1,.int k)] 2 475 NN eX (kv s) ?_;refine jx ?_;refine jB.p2 (qc (T:=[kS]) (q:=0) (l:=⟨lc,la,i,lf⟩) aa aa rfl) ?_;show jB _ _ _ _ _ ⟨_,RH s++[kj ⟨lc,la,i,lf⟩]⟩;refine jx ?_;refine jG.join ⟨[(0,jI),(1,.int k),(5,.int m),(6,.ptr NN 1 0 0),(7,.ptr (NN+1) 1 0 0),(8,.int (jR la k))],RH s++[kj ⟨lc,la,i,lf⟩,j7 ⟨11,v,w,nn,tk,vs⟩]⟩ ?_ ?_
 ·by_cases kJ:0≤la
  ·have kb:decide (la≥0)=true:=jf kJ;refine j8 ?_ kb rfl;refine jx ?_;rw [nt.out kJ];exact .wf
  ·have kb:decide (la≥0)=false:=je kJ;refine jK ?_ kb rfl;refine jx ?_;rw [show jR la k=(k:Int) by unfold jR;rw [iZ kJ]];exact .wf
 refine jx ?_;repeat (refine jK ?_ rfl rfl;refine jx ?_)
 refine j8 ?_ rfl rfl;refine jx ?_;refine jK ?_ rfl rfl;refine jx ?_;refine cF ow hw mJ.fo.wf ?_;refine jx ?_;exact Rf.kY.ref [kj ⟨lc,la,i,lf⟩,j7 ⟨11,v,w,nn,tk,vs⟩] mJ.fo.wf (vs:=[.bool true]) ag rfl rfl (.pu (.base _))
theorem auH {S:jz→Nat→jz} {f:Nat} {s:jz} {k m i:Nat} {t:km} {l:lM} {v w nn tk:Int} {q:Nat} {vs:List Int} (h:Dk S f s k m i t l ⟨10,v,w,(q:Int),tk,vs⟩) {fr:List Int×List Int} {j:Nat} (kX:s.jY[l.fr]?=some fr) (hq:fr.2[q]?=some (j:Int)) (lH:fr.2.length=l.code.steps.length) (hj:j<s.tasks.length):jS Tryd.prog 72 [jI,.int k] (RH s) (.bool true) (RH (mM S (lZ s.tasks.length s j) k)):=by
 obtain ⟨ow,mJ⟩:=h.next;have hD:=Hid.mk h;have hw:=h.fo.wf;obtain ⟨⟨ht,hm,hl,hi,jP⟩,nM,j6,pf,pZ,my,p9,kW⟩:=h;obtain ⟨lc,la,ls,lf⟩:=l;simp only at hi jP kW;subst hi;simp only at kX lH;have ni:=JD s.tasks.length s j nM.yk hj;have ica:=Js s.tasks.length s j hw nM.yk hj ae;obtain ⟨b,KM⟩:=ni.tk k t ht;obtain ⟨uy,qv⟩:=(hD.out.of (ni.fo nM) KM rfl rfl rfl (by rw [show (lZ s.tasks.length s j).after=s.after by rw [ni.eq]];exact p9)).next;have Zz:=ni.wf hw;have ZH:(fr.2.map AV.int)[q]?=some (.int j):=by rw [dE,hq];rfl
 have ZL:fr.2[q]?=some (j:Int)∧fr.2.length=lc.steps.length:=⟨hq,lH⟩
 have aDp:=Hid.mk KM;clear KM ow mJ;obtain ⟨g1,g2,g3,g4,g5⟩:=hw.k ht;obtain ⟨e1,e2,e3,e4,e5⟩:=hw.oD ht hl;simp only at e1 e2 e5;have qC:m<t.jC:=ae;have mV:=(hw.lv t (dx ht)).2.1;have nq:i<lc.steps.length:=(dt jP).1;have pG:(lc.steps.map ki)[i]?=some (ki ⟨10,v,w,(q:Int),tk,vs⟩):=aB;have pS:IntKind.i64.wrap ((t.jC:Int)-1)=m:=ax;have nt:Hid (0≤la→IntKind.i64.wrap (-1-la)=jR la k):=⟨fun h=>ak⟩
 have rh:=Hid.mk hm;clear hm;refine jS.i2 [(0,jI),(1,.int k)] 2 475 NN eX (kv s) ?_;refine jx ?_;refine jB.p2 (qc (T:=[kS]) (q:=0) (l:=⟨lc,la,i,lf⟩) aa aa rfl) ?_;show jB _ _ _ _ _ ⟨_,RH s++[kj ⟨lc,la,i,lf⟩]⟩;refine jx ?_;refine jG.join ⟨[(0,jI),(1,.int k),(5,.int m),(6,.ptr NN 1 0 0),(7,.ptr (NN+1) 1 0 0),(8,.int (jR la k))],RH s++[kj ⟨lc,la,i,lf⟩,j7 ⟨10,v,w,(q:Int),tk,vs⟩]⟩ ?_ ?_
 ·by_cases kJ:0≤la
  ·have kb:decide (la≥0)=true:=jf kJ;refine j8 ?_ kb rfl;refine jx ?_;rw [nt.out kJ];exact .wf
  ·have kb:decide (la≥0)=false:=je kJ;refine jK ?_ kb rfl;refine jx ?_;rw [show jR la k=(k:Int) by unfold jR;rw [iZ kJ]];exact .wf
 refine jx ?_;repeat (refine jK ?_ rfl rfl;refine jx ?_)
 refine j8 ?_ rfl rfl;refine jx ?_;refine j8 ?_ ?_ rfl;rotate_left
 ·first|rfl|exact jf ae
 refine jx ?_;refine cF ica hw Zz ?_;refine jx ?_;refine cF uy Zz qv.fo.wf ?_;refine jx ?_;exact Rf.kY.ref [kj ⟨lc,la,i,lf⟩,j7 ⟨10,v,w,(q:Int),tk,vs⟩] qv.fo.wf (vs:=[.bool true]) ag rfl rfl (.pu (.base _))
theorem Dk.Br {S:jz→Nat→jz} {f:Nat} {s s':jz} {k m i:Nat} {t t':km} {l l':lM} {st:kG} (h:Dk S f s k m i t l st) (nM:Fo s') (ht:s'.tasks[k]?=some t') (h1:t'.jH[m]?=some l') (EM:l'.code=l.code∧l'.step=l.step) (h2:t'.jC=t.jC) (h3:t'.state=t.state) (h4:s'.after.length≤s.after.length+1001):jS Tryd.prog 93 [jI,.int k] (RH s') (.ky []) (RH (mM S s' k))∧Kp (1001*f) s' (mM S s' k):=by
 have hf:=h.af;rw [fZ] at hf;have hl:l9 t' (t'.jC-1)=l':=zh (by rw [h2,h.top.hm];exact h1);have h5:(l9 t' (t'.jC-1)).step<(l9 t' (t'.jC-1)).code.steps.length:=by rw [hl,EM.1,EM.2];exact h.oD.2
 exact ⟨HF h.S1 h.S2 nM ht (by rw [h3,h.s1];omega) h5 h.kf ae,Jw h.S1 nM ht (by rw [h3,h.s1];omega) h5 ae⟩
theorem aqH {S:jz→Nat→jz} {f:Nat} {s:jz} {k m i:Nat} {t:km} {l:lM} {v w nn tk:Int} {q:Nat} {vs:List Int} (h:Dk S f s k m i t l ⟨7,v,w,(q:Int),tk,vs⟩) {fr:List Int×List Int} {j:Nat} (kX:s.jY[l.fr]?=some fr) (hq:fr.2[q]?=some (j:Int)) (lH:fr.2.length=l.code.steps.length) (hj:j<s.tasks.length) (EV:(jJ s j).state≤2):jS Tryd.prog 72 [jI,.int k] (RH s) (.bool true) (RH (s.jF k { t with state:=2,waits:=(j:Int) })):=by
 obtain ⟨ow,mJ⟩:=h.next;have hD:=Hid.mk h;have hw:=h.fo.wf;obtain ⟨⟨ht,hm,hl,hi,jP⟩,nM,j6,pf,pZ,my,p9,kW⟩:=h;obtain ⟨lc,la,ls,lf⟩:=l;simp only at hi jP kW;subst hi;simp only at kX lH;have Ss:=tH hj;have wA:=yv hw Ss;have ZH:(fr.2.map AV.int)[q]?=some (.int j):=by rw [dE,hq];rfl
 have ZL:fr.2[q]?=some (j:Int)∧fr.2.length=lc.steps.length:=⟨hq,lH⟩
 have nN:=hw.sz.2.2.2.2.1;have QT:decide (2<(jJ s j).state)=false:=je ae;obtain ⟨v1,lI⟩:∃v1,v1=s.jF k { t with state:=2 }:=⟨_,rfl⟩
 obtain ⟨v2,oM⟩:∃v2,v2=s.jF k { t with state:=2,waits:=(j:Int) }:=⟨_,rfl⟩
 rw [← oM];have QO:v1.tasks[k]?=some { t with state:=2 }:=by rw [lI];exact lq ht
 have lv1:v1.tasks.length=s.tasks.length:=by rw [lI,lY]
 have Kq:v1.jF k { t with state:=2,waits:=(j:Int) }=v2:=by rw [lI,oM,u7]
 have QQ:WF v2:=by rw [oM];exact hw.jF ht rfl rfl rfl (dD _)
 have QR:=Hid.mk lI;have auD:=Hid.mk oM;have Qo:=Hid.mk Kq;clear lI oM Kq;obtain ⟨g1,g2,g3,g4,g5⟩:=hw.k ht;obtain ⟨e1,e2,e3,e4,e5⟩:=hw.oD ht hl;simp only at e1 e2 e5;have qC:m<t.jC:=ae;have mV:=(hw.lv t (dx ht)).2.1;have nq:i<lc.steps.length:=(dt jP).1;have pG:(lc.steps.map ki)[i]?=some (ki ⟨7,v,w,(q:Int),tk,vs⟩):=aB;have pS:IntKind.i64.wrap ((t.jC:Int)-1)=m:=ax;have nt:Hid (0≤la→IntKind.i64.wrap (-1-la)=jR la k):=⟨fun h=>ak⟩
 have rh:=Hid.mk hm;clear hm;refine jS.i2 [(0,jI),(1,.int k)] 2 475 NN eX (kv s) ?_;refine jx ?_;refine jB.p2 (qc (T:=[kS]) (q:=0) (l:=⟨lc,la,i,lf⟩) aa aa rfl) ?_;show jB _ _ _ _ _ ⟨_,RH s++[kj ⟨lc,la,i,lf⟩]⟩;refine jx ?_;refine jG.join ⟨[(0,jI),(1,.int k),(5,.int m),(6,.ptr NN 1 0 0),(7,.ptr (NN+1) 1 0 0),(8,.int (jR la k))],RH s++[kj ⟨lc,la,i,lf⟩,j7 ⟨7,v,w,(q:Int),tk,vs⟩]⟩ ?_ ?_
 ·by_cases kJ:0≤la
  ·have kb:decide (la≥0)=true:=jf kJ;refine j8 ?_ kb rfl;refine jx ?_;rw [nt.out kJ];exact .wf
  ·have kb:decide (la≥0)=false:=je kJ;refine jK ?_ kb rfl;refine jx ?_;rw [show jR la k=(k:Int) by unfold jR;rw [iZ kJ]];exact .wf
 refine jx ?_;repeat (refine jK ?_ rfl rfl;refine jx ?_)
 refine j8 ?_ rfl rfl;refine jx ?_;refine IG wA hw hw ?_;refine jx ?_;refine j8 ?_ ?_ rfl;rotate_left
 ·simp +decide [QT]
 refine jx ?_;refine qK (k:=14) [none,none,none,none,none,none,none,none,none,none,none,none,none,some 0] (fun c=>match c with
  | 0=>RH s++[kj ⟨lc,la,i,lf⟩,j7 ⟨7,v,w,(q:Int),tk,vs⟩]
  | _=>RH v1++[kj ⟨lc,la,i,lf⟩,j7 ⟨7,v,w,(q:Int),tk,vs⟩]) 1 follows ?_
 repeat (first|refine gS ?_|refine Zr ?_)
 refine ko.p1 (v:=.bad) rfl rfl (fun kB pb=>by
  have h1:=JQ (s:=s) (T:=[kj ⟨lc,la,i,lf⟩,j7 ⟨7,v,w,(q:Int),tk,vs⟩]) (ρ:=kB) (ty:=3) (t:=t) (t':={ t with state:=2 }) (v:=.int 2) ht ((pb (.tmp 330) au).trans aa) ((pb (.const (.int .i64 2)) au).trans rfl) ny rfl rfl rfl rfl rfl;rw [← QR.out] at h1;exact h1) ?_
 refine ko.nil ?_;show jB _ _ _ _ _ ⟨_,RH v1++[kj ⟨lc,la,i,lf⟩,j7 ⟨7,v,w,(q:Int),tk,vs⟩]⟩;refine jB.q2 (Dg (L:=s.tasks) (k:=k) aa aa cC bM) ?_;refine jx ?_;refine jB.p2 (JQ (T:=[kj ⟨lc,la,i,lf⟩,j7 ⟨7,v,w,(q:Int),tk,vs⟩]) (t':={ t with state:=2,waits:=(j:Int) }) (v:=.int j) QO aa aa ny rfl rfl rfl rfl rfl) ?_;rw [Qo.out];refine jx ?_;exact Rf.kY.ref [kj ⟨lc,la,i,lf⟩,j7 ⟨7,v,w,(q:Int),tk,vs⟩] QQ (vs:=[.bool true]) ag rfl rfl (.pu (.base _))
theorem aqI {S:jz→Nat→jz} {f:Nat} {s:jz} {k m i:Nat} {t:km} {l:lM} {v w nn tk:Int} {q:Nat} {vs:List Int} (h:Dk S f s k m i t l ⟨7,v,w,(q:Int),tk,vs⟩) {fr:List Int×List Int} {j:Nat} (kX:s.jY[l.fr]?=some fr) (hq:fr.2[q]?=some (j:Int)) (lH:fr.2.length=l.code.steps.length) (hj:j<s.tasks.length) (EV:2<(jJ s j).state):jS Tryd.prog 72 [jI,.int k] (RH s) (.bool true) (RH (mM S (s.nw (2000+(j:Int),(s.turns.length:Int)-1)) k)):=by
 obtain ⟨ow,mJ⟩:=h.next;have hD:=Hid.mk h;have hw:=h.fo.wf;obtain ⟨⟨ht,hm,hl,hi,jP⟩,nM,j6,pf,pZ,my,p9,kW⟩:=h;obtain ⟨lc,la,ls,lf⟩:=l;simp only at hi jP kW;subst hi;simp only at kX lH;have Ss:=tH hj;have wA:=yv hw Ss;have ZH:(fr.2.map AV.int)[q]?=some (.int j):=by rw [dE,hq];rfl
 have ZL:fr.2[q]?=some (j:Int)∧fr.2.length=lc.steps.length:=⟨hq,lH⟩
 have nN:=hw.sz.2.2.2.2.1;have QT:decide (2<(jJ s j).state)=true:=jf EV;have Ek:s.after.length<1000000000:=by rw [fZ] at p9;omega
 obtain ⟨s2,jW⟩:∃s2,s2=s.nw (2000+(j:Int),(s.turns.length:Int)-1):=⟨_,rfl⟩
 rw [← jW];obtain ⟨tm,n9⟩:∃tm,tm=(s.turns.length:Int)-1:=⟨_,rfl⟩
 have oh:IntKind.i64.wrap ((s.turns.length:Int)-1)=tm:=by rw [n9];exact nP ae ae
 have xL:=Hv hw (2000+(j:Int)) tm Ek;rw [n9,← jW,← n9] at xL;have F9:=HN (j:Int) ae (by have:=hw.nT;omega);have oz:Fo s2:=by rw [jW];exact nM.nw Ek
 obtain ⟨uy,qv⟩:=hD.out.Br oz (by rw [jW];exact ht) hl ⟨rfl,rfl⟩ rfl rfl (by rw [jW];simp [jz.nw]);have lj:=oz.wf;have pz:=Hid.mk jW;have QM:=Hid.mk n9;clear jW n9 ow mJ oz;obtain ⟨g1,g2,g3,g4,g5⟩:=hw.k ht;obtain ⟨e1,e2,e3,e4,e5⟩:=hw.oD ht hl;simp only at e1 e2 e5;have qC:m<t.jC:=ae;have mV:=(hw.lv t (dx ht)).2.1;have nq:i<lc.steps.length:=(dt jP).1;have pG:(lc.steps.map ki)[i]?=some (ki ⟨7,v,w,(q:Int),tk,vs⟩):=aB;have pS:IntKind.i64.wrap ((t.jC:Int)-1)=m:=ax;have nt:Hid (0≤la→IntKind.i64.wrap (-1-la)=jR la k):=⟨fun h=>ak⟩
 have rh:=Hid.mk hm;clear hm;refine jS.i2 [(0,jI),(1,.int k)] 2 475 NN eX (kv s) ?_;refine jx ?_;refine jB.p2 (qc (T:=[kS]) (q:=0) (l:=⟨lc,la,i,lf⟩) aa aa rfl) ?_;show jB _ _ _ _ _ ⟨_,RH s++[kj ⟨lc,la,i,lf⟩]⟩;refine jx ?_;refine jG.join ⟨[(0,jI),(1,.int k),(5,.int m),(6,.ptr NN 1 0 0),(7,.ptr (NN+1) 1 0 0),(8,.int (jR la k))],RH s++[kj ⟨lc,la,i,lf⟩,j7 ⟨7,v,w,(q:Int),tk,vs⟩]⟩ ?_ ?_
 ·by_cases kJ:0≤la
  ·have kb:decide (la≥0)=true:=jf kJ;refine j8 ?_ kb rfl;refine jx ?_;rw [nt.out kJ];exact .wf
  ·have kb:decide (la≥0)=false:=je kJ;refine jK ?_ kb rfl;refine jx ?_;rw [show jR la k=(k:Int) by unfold jR;rw [iZ kJ]];exact .wf
 refine jx ?_;repeat (refine jK ?_ rfl rfl;refine jx ?_)
 refine j8 ?_ rfl rfl;refine jx ?_;refine IG wA hw hw ?_;refine jx ?_;refine jK ?_ ?_ rfl;rotate_left
 ·simp +decide [QT]
 refine jx ?_;refine j8 ?_ ?_ rfl;rotate_left
 ·first|rfl|exact jf ae
 refine jx ?_;refine mi (k:=9) follows (hr:=?_);refine jx ?_;refine oQ F9 ?_;refine jx ?_;refine cF xL hw lj ?_;refine jx ?_;refine cF uy lj qv.fo.wf ?_;refine jx ?_;exact Rf.kY.ref [kj ⟨lc,la,i,lf⟩,j7 ⟨7,v,w,(q:Int),tk,vs⟩] qv.fo.wf (vs:=[.bool true]) ag rfl rfl (.pu (.base _))
theorem Mx {r:Nat→Option Nat} {H:List jy} {x:lM} (h1:ix (.kz x.fr)<NN) (h2:ix (.lg x.fr)<NN) (hr:∀b,b<NN→r b=some b):mI r H (nD x) (nD x):=
 .F2 ⟨.pu (.base _),.pu (.base _),.pu (zl _),.pu (.base _),.pu (.base _),(DQ (S:=(·<NN)) h1).mv hr,(DQ (S:=(·<NN)) h2).mv hr,trivial⟩
section
variable {s:jz} {x:lM} {f:List Int×List Int} {vs:List Int} {T:List jy} {ρ:Operand→AV} {cl:Call} {fx:Operand}
theorem W7 (hw:WF s) (hf:s.jY[x.fr]?=some f):ix (.kz x.fr)<NN∧ix (.lg x.fr)<NN:=by
 have hj:x.fr<s.jY.length:=(dt hf).1;exact ⟨mq (tY hw (a:=.kz x.fr) hj),mq (tY hw (a:=.lg x.fr) hj)⟩
theorem VH (hw:WF s) (hf:s.jY[x.fr]?=some f) (lH:f.1.length=x.code.vars.toNat) (kV:∀v∈vs,mW f.1 v) (hl:vs.length≤1000000) (hb:mO f.1 vs=true) (h1:cl.callee=.value fx) (h2:ρ fx=.j9 94 []) (h3:cl.args.toList.map ρ++[]=[nD x,.jA (vs.map .int)]) :
 PL Tryd.prog (RH s++T) ρ (.call cl) (.ky [.own (RH s++T).length (lX f.1 vs).length 0 (lX f.1 vs).length,.bool true]) (RH s++T++[jD (lX f.1 vs)]):=by
 obtain ⟨k1,k2⟩:=W7 hw hf;have rW:∀b,b<NN→ro (List.range NN) b=some b:=fun b hb=>bo;refine zg ((Ub hw hf lH kV hl).1 hb) (.QU (kv s) (rO hw) rE) h1 h2 (by
  rw [h3];exact ⟨Mx k1 k2 rW,(mR.pu (S:=(·<NN)) (l7 _)).mv rW,trivial⟩) (.Az ⟨.own ?_,.pu (.base _),trivial⟩)
 unfold rb;rw [fm,iZ (Nat.lt_irrefl _)];simp
theorem Cu (hw:WF s) (hf:s.jY[x.fr]?=some f) (lH:f.1.length=x.code.vars.toNat) (kV:∀v∈vs,mW f.1 v) (hl:vs.length≤1000000) (hb:mO f.1 vs=true) (hT:∀b∈T,kI (·<NN) b) (h1:cl.callee=.value fx) (h2:ρ fx=.j9 94 []) (h3:cl.args.toList.map ρ++[]=[nD x,.jA (vs.map .int)]) :
 PL Tryd.prog (RH s++T) ρ (.call cl) (.ky [.jA ((lX f.1 vs).map .int),.bool true]) (RH s++T):=by
 refine PL.WW (VH hw hf lH kV hl hb h1 h2 h3) rfl (fun b blk hb=>?_) (.Az ⟨pX.vE (ty:=3) (sz:=1) (dD _) ah rfl (fun x _ c hc=>aH),.pu (.base _),trivial⟩);refine kI.mv (S:=(·<NN)) ?_ fun i hi=>PT (by simp [kv];omega);rcases eg.1 (dx hb) with h|h
 ·exact rO hw _ h
 ·exact hT _ h
theorem FH (hw:WF s) (hf:s.jY[x.fr]?=some f) (lH:f.1.length=x.code.vars.toNat) (kV:∀v∈vs,mW f.1 v) (hl:vs.length≤1000000) (hb:mO f.1 vs=false) (h1:cl.callee=.value fx) (h2:ρ fx=.j9 94 []) (h3:cl.args.toList.map ρ++[]=[nD x,.jA (vs.map .int)]) :
 PL Tryd.prog (RH s++T) ρ (.call cl) (.ky [kD,.bool false]) (RH s++T):=by
 obtain ⟨k1,k2⟩:=W7 hw hf;have rW:∀b,b<NN→ro (List.range NN) b=some b:=fun b hb=>bo;exact zg ((Ub hw hf lH kV hl).2 hb) (.pre (kv s) (kv s) (rO hw) (rO hw)) h1 h2 (by
  rw [h3];exact ⟨Mx k1 k2 rW,(mR.pu (S:=(·<NN)) (l7 _)).mv rW,trivial⟩) (.pu (.ky ah))
end
theorem VI {x:lM} (h1:ix (.kz x.fr)<NN) (h2:ix (.lg x.fr)<NN):kI (·<NN) (kj x):=.one (HD h1 h2)
theorem D0 {st:kG} {P:Nat→Prop}:kI P (j7 st):=.one fun c hc=>by
 simp only [dC,dB,jd] at hc;rcases hc with rfl|rfl|rfl|rfl|rfl|rfl<;>first|exact .pu (.base _)|exact .pu (l7 _)
theorem CH {x:lM} {st:kG} (h1:ix (.kz x.fr)<NN) (h2:ix (.lg x.fr)<NN):∀b∈[kj x,j7 st],kI (·<NN) b:=fun b hb=>by
 simp only [dC,dB,jd] at hb;rcases hb with rfl|rfl
 ·exact VI h1 h2
 ·exact D0
def jz.qJ (s:jz) (o:Nat) (v:Int):jz:={ s with kr:=s.kr.set o v }
def jz.wi (s:jz) (o:Nat) (v:Int):jz:={ s with ml:=s.ml.set o v }
def jz.nY (s:jz) (j:Nat) (f:List Int×List Int):jz:={ s with jY:=s.jY.set j f }
theorem akE {s:jz} {o:Nat} {v:Int}:(RH s).set (ix .ob) (jD (s.kr.set o v))=RH (s.qJ o v):=by
 refine vz (s:=s) (s':=s.qJ o v) [(.ob,_)] (wM ⟨Bp,rfl⟩) fun a ha=>?_;simp only [ef,ez,dz] at ha;cases a<;>first|exact absurd rfl ha|rfl|(simp only [blk,lE,jz.qJ,dW])
theorem akF {s:jz} {o:Nat} {v:Int}:(RH s).set (ix .ck) (jD (s.ml.set o v))=RH (s.wi o v):=by
 refine vz (s:=s) (s':=s.wi o v) [(.ck,_)] (wM ⟨zo,rfl⟩) fun a ha=>?_;simp only [ef,ez,dz] at ha;cases a<;>first|exact absurd rfl ha|rfl|(simp only [blk,lE,jz.wi,dW])
theorem Cr {s:jz} {j:Nat} {f f':List Int×List Int} (h:s.jY[j]?=some f):(s.nY j f').jY[j]?=some f':=by
 unfold jz.nY;simp only;rw [ee (dt h).1]
theorem FJ {s:jz} {j i:Nat} {f':List Int×List Int} (h:j≠i):(s.nY j f').jY[i]?=s.jY[i]?:=by
 unfold jz.nY;simp only;rw [dS h]
theorem ahL {s:jz} {j:Nat} {f:List Int×List Int} {l:List Int} (h:s.jY[j]?=some f) (hj:ix (.kz j)<NN):(RH s).set (ix (.kz j)) (jD l)=RH (s.nY j (l,f.2)):=by
 refine vz (s:=s) (s':=s.nY j (l,f.2)) [(.kz j,_)] (wM ⟨hj,by simp only [blk];rw [Cr h]⟩) fun a ha=>?_;simp only [ef,ez,dz] at ha;cases a with
 | kz i=>simp only [blk];rw [FJ fun e=>ha bP]
 | lg i =>
   simp only [blk];by_cases e:j=i
   ·subst e;rw [Cr h,h]
   ·rw [FJ e]
 | _=>rfl
theorem ahE {s:jz} {j:Nat} {f:List Int×List Int} {l:List Int} (h:s.jY[j]?=some f) (hj:ix (.lg j)<NN):(RH s).set (ix (.lg j)) (jD l)=RH (s.nY j (f.1,l)):=by
 refine vz (s:=s) (s':=s.nY j (f.1,l)) [(.lg j,_)] (wM ⟨hj,by simp only [blk];rw [Cr h]⟩) fun a ha=>?_;simp only [ef,ez,dz] at ha;cases a with
 | lg i=>simp only [blk];rw [FJ fun e=>ha bP]
 | kz i =>
   simp only [blk];by_cases e:j=i
   ·subst e;rw [Cr h,h]
   ·rw [FJ e]
 | _=>rfl
theorem Fo.qJ {s:jz} (h:Fo s) {o:Nat} {v:Int}:Fo (s.qJ o v):=
 ⟨⟨h.wf.nT,h.wf.nF,h.wf.lv,by obtain ⟨a1,a2,a3⟩:=h.wf.sz;exact ⟨by simp [jz.qJ];exact a1,by simp [jz.qJ];exact a2,a3⟩⟩,h.tk⟩
theorem Fo.wi {s:jz} (h:Fo s) {o:Nat} {v:Int}:Fo (s.wi o v):=
 ⟨⟨h.wf.nT,h.wf.nF,h.wf.lv,by obtain ⟨a1,a2,a3⟩:=h.wf.sz;exact ⟨a1,by simp [jz.wi];exact a2,a3⟩⟩,h.tk⟩
theorem Fo.kE {s:jz} (h:Fo s) {x:Acc} (hb:s.jT.length<1000000):Fo (s.kE x):=⟨h.wf.kE hb,h.tk⟩
theorem Fo.ll {s:jz} (h:Fo s) {n:Int} (hb:s.kr.length<1000000):Fo (s.ll n):=⟨h.wf.ll hb,h.tk⟩
theorem Fo.nY {s:jz} (h:Fo s) {j:Nat} {f f':List Int×List Int} (hf:s.jY[j]?=some f) (h1:f'.1.length=f.1.length) (h2:f'.2.length=f.2.length):Fo (s.nY j f'):=by
 refine ⟨⟨h.wf.nT,by simp [jz.nY];exact h.wf.nF,fun t ht=>?_,h.wf.sz⟩,h.tk⟩;obtain ⟨a1,a2,a3,a4,a5⟩:=h.wf.lv t ht;refine ⟨a1,a2,a3,a4,fun l hl=>?_⟩;obtain ⟨g,hg,b1,b2,b3⟩:=a5 l hl;by_cases e:j=l.fr
 ·subst e;rw [hf] at hg;injection hg with hg;subst hg;exact ⟨f',Cr hf,by rw [h1];exact b1,by rw [h2];exact b2,b3⟩
 ·exact ⟨g,by rw [FJ e];exact hg,b1,b2,b3⟩
section
variable {s:jz} {T:List jy} {ρ:Operand→AV} {x y:Operand}
theorem w8 {H:List jy} {i:Operand} {b q:Nat} {l:List Int} (hx:ρ x=.own b l.length 0 l.length) (hi:ρ i=.int q) (hb:H[b]?=some (jD l)) (hq:q<l.length):QL Tryd.prog H ρ (.indexAddr 25 x i) (.ptr b l.length q 0):=
 lu hx hi dG hb ah hq ny
theorem vG {H:List jy} {i:Operand} {e:Int} {es:List AV} (hx:ρ x=.jA (.int e::es)) (hi:ρ i=.int 0):QL Tryd.prog H ρ (.indexAddr 25 x i) ((AV.int e).kN 0):=
 wC hx hi dG (fy _) rfl ny
theorem PX {o:Nat} {v:Int} (hx:ρ x=.ptr (ix .ob) s.kr.length o 0) (hy:ρ y=.int v) (ho:o<s.kr.length):PL Tryd.prog (RH s++T) ρ (.store 3 x y) .bad (RH (s.qJ o v)++T):=by
 have h:=xc (P:=Tryd.prog) (H:=RH s++T) (ρ:=ρ) (f:=AV.int) (l:=s.kr) (b:=ix .ob) (tot:=s.kr.length) (i:=o) (ty:=3) (sz:=1) v hx hy (by rw [mZ (kv s) Bp];exact nj s .ob Bp) rfl ho ny rfl rfl;rw [o7 (kv s) Bp] at h;rw [← akE];exact h
theorem anE {o:Nat} {v:Int} (hx:ρ x=.ptr (ix .ck) s.ml.length o 0) (hy:ρ y=.int v) (ho:o<s.ml.length):PL Tryd.prog (RH s++T) ρ (.store 3 x y) .bad (RH (s.wi o v)++T):=by
 have h:=xc (P:=Tryd.prog) (H:=RH s++T) (ρ:=ρ) (f:=AV.int) (l:=s.ml) (b:=ix .ck) (tot:=s.ml.length) (i:=o) (ty:=3) (sz:=1) v hx hy (by rw [mZ (kv s) zo];exact nj s .ck zo) rfl ho ny rfl rfl;rw [o7 (kv s) zo] at h;rw [← akF];exact h
theorem FO {j q n:Nat} {f:List Int×List Int} {v:Int} (hf:s.jY[j]?=some f) (hj:ix (.kz j)<NN) (hx:ρ x=.ptr (ix (.kz j)) n q 0) (hn:f.1.length=n) (hy:ρ y=.int v) (hq:q<f.1.length):PL Tryd.prog (RH s++T) ρ (.store 3 x y) .bad (RH (s.nY j (f.1.set q v,f.2))++T):=by
 have h:=xc (P:=Tryd.prog) (H:=RH s++T) (ρ:=ρ) (f:=AV.int) (l:=f.1) (b:=ix (.kz j)) (tot:=n) (i:=q) (ty:=3) (sz:=1) v hx hy (by rw [mZ (kv s) hj,nj s _ hj];simp only [blk];rw [hf]) hn hq ny rfl rfl;rw [o7 (kv s) hj] at h;rw [← ahL hf hj];exact h
end
theorem aqJ {S:jz→Nat→jz} {f:Nat} {s:jz} {k m i:Nat} {t:km} {l:lM} {v w nn tk:Int} {q:Nat} {vs:List Int} (h:Dk S f s k m i t l ⟨5,v,w,nn,tk,vs⟩) {fr:List Int×List Int} (kX:s.jY[l.fr]?=some fr) (lH:fr.1.length=l.code.vars.toNat) (hv:mW fr.1 v) (hb:mO fr.1 [v]=false):jS Tryd.prog 72 [jI,.int k] (RH s) (.bool false) (RH (s)):=by
 obtain ⟨ow,mJ⟩:=h.next;have hD:=Hid.mk h;have hw:=h.fo.wf;obtain ⟨⟨ht,hm,hl,hi,jP⟩,nM,j6,pf,pZ,my,p9,kW⟩:=h;obtain ⟨lc,la,ls,lf⟩:=l;simp only at hi jP kW;subst hi;simp only at kX lH;have nN:=hw.sz.2.2.2.2.1;have kV:∀x∈[v],mW fr.1 x:=fun x hx=>aU;obtain ⟨g1,g2,g3,g4,g5⟩:=hw.k ht;obtain ⟨e1,e2,e3,e4,e5⟩:=hw.oD ht hl;simp only at e1 e2 e5;have qC:m<t.jC:=ae;have mV:=(hw.lv t (dx ht)).2.1;have nq:i<lc.steps.length:=(dt jP).1;have pG:(lc.steps.map ki)[i]?=some (ki ⟨5,v,w,nn,tk,vs⟩):=aB;have pS:IntKind.i64.wrap ((t.jC:Int)-1)=m:=ax;have nt:Hid (0≤la→IntKind.i64.wrap (-1-la)=jR la k):=⟨fun h=>ak⟩
 have rh:=Hid.mk hm;clear hm;refine jS.i2 [(0,jI),(1,.int k)] 2 475 NN eX (kv s) ?_;refine jx ?_;refine jB.p2 (qc (T:=[kS]) (q:=0) (l:=⟨lc,la,i,lf⟩) aa aa rfl) ?_;show jB _ _ _ _ _ ⟨_,RH s++[kj ⟨lc,la,i,lf⟩]⟩;refine jx ?_;refine jG.join ⟨[(0,jI),(1,.int k),(5,.int m),(6,.ptr NN 1 0 0),(7,.ptr (NN+1) 1 0 0),(8,.int (jR la k))],RH s++[kj ⟨lc,la,i,lf⟩,j7 ⟨5,v,w,nn,tk,vs⟩]⟩ ?_ ?_
 ·by_cases kJ:0≤la
  ·have kb:decide (la≥0)=true:=jf kJ;refine j8 ?_ kb rfl;refine jx ?_;rw [nt.out kJ];exact .wf
  ·have kb:decide (la≥0)=false:=je kJ;refine jK ?_ kb rfl;refine jx ?_;rw [show jR la k=(k:Int) by unfold jR;rw [iZ kJ]];exact .wf
 refine jx ?_;repeat (refine jK ?_ rfl rfl;refine jx ?_)
 repeat (first|(refine j8 ?_ rfl rfl;refine jx ?_)|(refine jK ?_ rfl rfl;refine jx ?_))
 refine jB.p2 (FH (x:=⟨lc,la,i,lf⟩) (f:=fr) (vs:=[v]) hw kX lH kV ah hb rfl aa aa) ?_;refine jx ?_;refine j8 ?_ rfl rfl;refine jx ?_;exact Rf.kY.ref [kj ⟨lc,la,i,lf⟩,j7 ⟨5,v,w,nn,tk,vs⟩] hw (vs:=[.bool false]) ag rfl rfl (.pu (.base _))
theorem aqK {S:jz→Nat→jz} {f:Nat} {s:jz} {k m i:Nat} {t:km} {l:lM} {v w nn tk:Int} {q:Nat} {vs:List Int} (h:Dk S f s k m i t l ⟨4,v,w,nn,tk,vs⟩) {fr:List Int×List Int} (kX:s.jY[l.fr]?=some fr) (lH:fr.1.length=l.code.vars.toNat) (hv:mW fr.1 v) (hb:mO fr.1 [v]=false):jS Tryd.prog 72 [jI,.int k] (RH s) (.bool false) (RH (s)):=by
 obtain ⟨ow,mJ⟩:=h.next;have hD:=Hid.mk h;have hw:=h.fo.wf;obtain ⟨⟨ht,hm,hl,hi,jP⟩,nM,j6,pf,pZ,my,p9,kW⟩:=h;obtain ⟨lc,la,ls,lf⟩:=l;simp only at hi jP kW;subst hi;simp only at kX lH;have nN:=hw.sz.2.2.2.2.1;have kV:∀x∈[v],mW fr.1 x:=fun x hx=>aU;obtain ⟨g1,g2,g3,g4,g5⟩:=hw.k ht;obtain ⟨e1,e2,e3,e4,e5⟩:=hw.oD ht hl;simp only at e1 e2 e5;have qC:m<t.jC:=ae;have mV:=(hw.lv t (dx ht)).2.1;have nq:i<lc.steps.length:=(dt jP).1;have pG:(lc.steps.map ki)[i]?=some (ki ⟨4,v,w,nn,tk,vs⟩):=aB;have pS:IntKind.i64.wrap ((t.jC:Int)-1)=m:=ax;have nt:Hid (0≤la→IntKind.i64.wrap (-1-la)=jR la k):=⟨fun h=>ak⟩
 have rh:=Hid.mk hm;clear hm;refine jS.i2 [(0,jI),(1,.int k)] 2 475 NN eX (kv s) ?_;refine jx ?_;refine jB.p2 (qc (T:=[kS]) (q:=0) (l:=⟨lc,la,i,lf⟩) aa aa rfl) ?_;show jB _ _ _ _ _ ⟨_,RH s++[kj ⟨lc,la,i,lf⟩]⟩;refine jx ?_;refine jG.join ⟨[(0,jI),(1,.int k),(5,.int m),(6,.ptr NN 1 0 0),(7,.ptr (NN+1) 1 0 0),(8,.int (jR la k))],RH s++[kj ⟨lc,la,i,lf⟩,j7 ⟨4,v,w,nn,tk,vs⟩]⟩ ?_ ?_
 ·by_cases kJ:0≤la
  ·have kb:decide (la≥0)=true:=jf kJ;refine j8 ?_ kb rfl;refine jx ?_;rw [nt.out kJ];exact .wf
  ·have kb:decide (la≥0)=false:=je kJ;refine jK ?_ kb rfl;refine jx ?_;rw [show jR la k=(k:Int) by unfold jR;rw [iZ kJ]];exact .wf
 refine jx ?_;repeat (refine jK ?_ rfl rfl;refine jx ?_)
 repeat (first|(refine j8 ?_ rfl rfl;refine jx ?_)|(refine jK ?_ rfl rfl;refine jx ?_))
 refine jB.p2 (FH (x:=⟨lc,la,i,lf⟩) (f:=fr) (vs:=[v]) hw kX lH kV ah hb rfl aa aa) ?_;refine jx ?_;refine j8 ?_ rfl rfl;refine jx ?_;exact Rf.kY.ref [kj ⟨lc,la,i,lf⟩,j7 ⟨4,v,w,nn,tk,vs⟩] hw (vs:=[.bool false]) ag rfl rfl (.pu (.base _))
theorem aqL {S:jz→Nat→jz} {f:Nat} {s:jz} {k m i:Nat} {t:km} {l:lM} {v w nn tk:Int} {q:Nat} {vs:List Int} (h:Dk S f s k m i t l ⟨5,v,w,nn,tk,vs⟩) {fr:List Int×List Int} (kX:s.jY[l.fr]?=some fr) (lH:fr.1.length=l.code.vars.toNat) {ob:Nat} (hv:mW fr.1 v) (hb:mO fr.1 [v]=true) (pt:fr.1.getD v.toNat 0=(ob:Int)) (oT:ob<s.kr.length) (tu:s.jT.length<1000000):jS Tryd.prog 72 [jI,.int k] (RH s) (.bool true) (RH (mM S ((s.kE ⟨jR l.jM k,(ob:Int),true,(s.turns.length:Int)-1⟩).wi ob nn) k)):=by
 obtain ⟨ow,mJ⟩:=h.next;have hD:=Hid.mk h;have hw:=h.fo.wf;obtain ⟨⟨ht,hm,hl,hi,jP⟩,nM,j6,pf,pZ,my,p9,kW⟩:=h;obtain ⟨lc,la,ls,lf⟩:=l;simp only at hi jP kW;subst hi;simp only at kX lH;have nN:=hw.sz.2.2.2.2.1;have kV:∀x∈[v],mW fr.1 x:=fun x hx=>aU;have A1:lX fr.1 [v]=[(ob:Int)]:=bK;obtain ⟨s2,jW⟩:∃s2,s2=s.kE ⟨jR la k,(ob:Int),true,(s.turns.length:Int)-1⟩:=⟨_,rfl⟩
 have vt:=FI hw (jR la k) (ob:Int) true tu;rw [← jW] at vt ⊢;have oz:Fo s2:=by rw [jW];exact nM.kE tu
 obtain ⟨uy,qv⟩:=hD.out.Br (s':=s2.wi ob nn) oz.wi (by rw [jW];exact ht) hl ⟨rfl,rfl⟩ rfl rfl (by rw [jW];show s.after.length≤_;omega);have lj:=oz.wf;have mD:=oz.wi (o:=ob) (v:=nn) |>.wf;have yD:ob<s2.ml.length:=by rw [jW];show ob<s.ml.length;have:=hw.sz.2.1;omega
 have pz:=Hid.mk jW;clear jW ow mJ oz;obtain ⟨g1,g2,g3,g4,g5⟩:=hw.k ht;obtain ⟨e1,e2,e3,e4,e5⟩:=hw.oD ht hl;simp only at e1 e2 e5;have qC:m<t.jC:=ae;have mV:=(hw.lv t (dx ht)).2.1;have nq:i<lc.steps.length:=(dt jP).1;have pG:(lc.steps.map ki)[i]?=some (ki ⟨5,v,w,nn,tk,vs⟩):=aB;have pS:IntKind.i64.wrap ((t.jC:Int)-1)=m:=ax;have nt:Hid (0≤la→IntKind.i64.wrap (-1-la)=jR la k):=⟨fun h=>ak⟩
 have rh:=Hid.mk hm;clear hm;refine jS.i2 [(0,jI),(1,.int k)] 2 475 NN eX (kv s) ?_;refine jx ?_;refine jB.p2 (qc (T:=[kS]) (q:=0) (l:=⟨lc,la,i,lf⟩) aa aa rfl) ?_;show jB _ _ _ _ _ ⟨_,RH s++[kj ⟨lc,la,i,lf⟩]⟩;refine jx ?_;refine jG.join ⟨[(0,jI),(1,.int k),(5,.int m),(6,.ptr NN 1 0 0),(7,.ptr (NN+1) 1 0 0),(8,.int (jR la k))],RH s++[kj ⟨lc,la,i,lf⟩,j7 ⟨5,v,w,nn,tk,vs⟩]⟩ ?_ ?_
 ·by_cases kJ:0≤la
  ·have kb:decide (la≥0)=true:=jf kJ;refine j8 ?_ kb rfl;refine jx ?_;rw [nt.out kJ];exact .wf
  ·have kb:decide (la≥0)=false:=je kJ;refine jK ?_ kb rfl;refine jx ?_;rw [show jR la k=(k:Int) by unfold jR;rw [iZ kJ]];exact .wf
 refine jx ?_;repeat (refine jK ?_ rfl rfl;refine jx ?_)
 repeat (first|(refine j8 ?_ rfl rfl;refine jx ?_)|(refine jK ?_ rfl rfl;refine jx ?_))
 refine jB.p2 (Cu (x:=⟨lc,la,i,lf⟩) (f:=fr) (vs:=[v]) hw kX lH kV ah hb (CH e1 e2) rfl aa aa) ?_;rw [A1];refine jx ?_;refine jK ?_ rfl rfl;refine jx ?_;refine mi (k:=8) follows (hr:=?_);refine jx ?_;refine jB.q2 (vG (e:=ob) (es:=[]) aa aa) ?_;refine jx ?_;refine cF vt hw lj ?_;refine jx ?_;refine j8 ?_ rfl rfl;refine jx ?_;refine mi (k:=9) follows (hr:=?_);refine jx ?_;refine jB.q2 (vG (e:=ob) (es:=[]) aa aa) ?_;refine jx ?_;refine jB.q2 (w8 (l:=s2.ml) (q:=ob) aa aa aa yD) ?_;refine jx ?_;refine jB.p2 (anE (o:=ob) (v:=nn) aa aa yD) ?_;refine jx ?_;refine cF uy mD qv.fo.wf ?_;refine jx ?_;exact Rf.kY.ref [kj ⟨lc,la,i,lf⟩,j7 ⟨5,v,w,nn,tk,vs⟩] qv.fo.wf (vs:=[.bool true]) ag rfl rfl (.pu (.base _))
theorem auI {H:List jy} {ρ:Operand→AV} {x i:Operand} {e:Int} {q:Nat} {es:List AV} (hx:ρ x=.jA es) (hi:ρ i=.int q) (he:es[q]?=some (.int e)):QL Tryd.prog H ρ (.indexAddr 25 x i) ((AV.int e).kN 0):=
 wC hx hi dG ae (by simpa using he) ny
theorem aqM {S:jz→Nat→jz} {f:Nat} {s:jz} {k m i:Nat} {t:km} {l:lM} {v w nn tk:Int} {q:Nat} {vs:List Int} (h:Dk S f s k m i t l ⟨3,v,w,nn,tk,vs⟩) {fr:List Int×List Int} (kX:s.jY[l.fr]?=some fr) (lH:fr.1.length=l.code.vars.toNat) (hv:mW fr.1 v) (oM:mW fr.1 w) (hb:mO fr.1 [v,w]=false):jS Tryd.prog 72 [jI,.int k] (RH s) (.bool false) (RH (s)):=by
 obtain ⟨ow,mJ⟩:=h.next;have hD:=Hid.mk h;have hw:=h.fo.wf;obtain ⟨⟨ht,hm,hl,hi,jP⟩,nM,j6,pf,pZ,my,p9,kW⟩:=h;obtain ⟨lc,la,ls,lf⟩:=l;simp only at hi jP kW;subst hi;simp only at kX lH;have nN:=hw.sz.2.2.2.2.1;have kV:∀x∈[v,w],mW fr.1 x:=fun x hx=>by
  simp only [dC,dB,jd] at hx;rcases hx with rfl|rfl
  ·exact hv
  ·exact oM
 obtain ⟨g1,g2,g3,g4,g5⟩:=hw.k ht;obtain ⟨e1,e2,e3,e4,e5⟩:=hw.oD ht hl;simp only at e1 e2 e5;have qC:m<t.jC:=ae;have mV:=(hw.lv t (dx ht)).2.1;have nq:i<lc.steps.length:=(dt jP).1;have pG:(lc.steps.map ki)[i]?=some (ki ⟨3,v,w,nn,tk,vs⟩):=aB;have pS:IntKind.i64.wrap ((t.jC:Int)-1)=m:=ax;have nt:Hid (0≤la→IntKind.i64.wrap (-1-la)=jR la k):=⟨fun h=>ak⟩
 have rh:=Hid.mk hm;clear hm;refine jS.i2 [(0,jI),(1,.int k)] 2 475 NN eX (kv s) ?_;refine jx ?_;refine jB.p2 (qc (T:=[kS]) (q:=0) (l:=⟨lc,la,i,lf⟩) aa aa rfl) ?_;show jB _ _ _ _ _ ⟨_,RH s++[kj ⟨lc,la,i,lf⟩]⟩;refine jx ?_;refine jG.join ⟨[(0,jI),(1,.int k),(5,.int m),(6,.ptr NN 1 0 0),(7,.ptr (NN+1) 1 0 0),(8,.int (jR la k))],RH s++[kj ⟨lc,la,i,lf⟩,j7 ⟨3,v,w,nn,tk,vs⟩]⟩ ?_ ?_
 ·by_cases kJ:0≤la
  ·have kb:decide (la≥0)=true:=jf kJ;refine j8 ?_ kb rfl;refine jx ?_;rw [nt.out kJ];exact .wf
  ·have kb:decide (la≥0)=false:=je kJ;refine jK ?_ kb rfl;refine jx ?_;rw [show jR la k=(k:Int) by unfold jR;rw [iZ kJ]];exact .wf
 refine jx ?_;repeat (refine jK ?_ rfl rfl;refine jx ?_)
 repeat (first|(refine j8 ?_ rfl rfl;refine jx ?_)|(refine jK ?_ rfl rfl;refine jx ?_))
 refine jB.p2 (FH (x:=⟨lc,la,i,lf⟩) (f:=fr) (vs:=[v,w]) hw kX lH kV ah hb rfl aa aa) ?_;refine jx ?_;refine j8 ?_ rfl rfl;refine jx ?_;exact Rf.kY.ref [kj ⟨lc,la,i,lf⟩,j7 ⟨3,v,w,nn,tk,vs⟩] hw (vs:=[.bool false]) ag rfl rfl (.pu (.base _))
theorem aqN {S:jz→Nat→jz} {f:Nat} {s:jz} {k m i:Nat} {t:km} {l:lM} {v w nn tk:Int} {q:Nat} {vs:List Int} (h:Dk S f s k m i t l ⟨3,v,w,nn,tk,vs⟩) {fr:List Int×List Int} (kX:s.jY[l.fr]?=some fr) (lH:fr.1.length=l.code.vars.toNat) {ob o2:Nat} (hv:mW fr.1 v) (oM:mW fr.1 w) (hb:mO fr.1 [v,w]=true) (pt:fr.1.getD v.toNat 0=(ob:Int)) (K7:fr.1.getD w.toNat 0=(o2:Int)) (oT:ob<s.kr.length) (tu:s.jT.length<1000000):jS Tryd.prog 72 [jI,.int k] (RH s) (.bool true) (RH (mM S ((s.qJ ob o2).kE ⟨jR l.jM k,(ob:Int),true,(s.turns.length:Int)-1⟩) k)):=by
 obtain ⟨ow,mJ⟩:=h.next;have hD:=Hid.mk h;have hw:=h.fo.wf;obtain ⟨⟨ht,hm,hl,hi,jP⟩,nM,j6,pf,pZ,my,p9,kW⟩:=h;obtain ⟨lc,la,ls,lf⟩:=l;simp only at hi jP kW;subst hi;simp only at kX lH;have nN:=hw.sz.2.2.2.2.1;have kV:∀x∈[v,w],mW fr.1 x:=fun x hx=>by
  simp only [dC,dB,jd] at hx;rcases hx with rfl|rfl
  ·exact hv
  ·exact oM
 have A1:lX fr.1 [v,w]=[(ob:Int),(o2:Int)]:=by unfold lX;rw [ef,ef,ez,pt,K7]
 obtain ⟨s1,mK⟩:∃s1,s1=s.qJ ob o2:=⟨_,rfl⟩
 obtain ⟨s2,jW⟩:∃s2,s2=s1.kE ⟨jR la k,(ob:Int),true,(s.turns.length:Int)-1⟩:=⟨_,rfl⟩
 have oK:Fo s1:=by rw [mK];exact nM.qJ
 have Bz:s1.jT.length<1000000:=by rw [mK];exact tu
 have vt:=FI oK.wf (jR la k) (ob:Int) true Bz;rw [show s1.turns=s.turns by rw [mK];rfl] at vt;rw [← mK];rw [← jW] at vt ⊢;have oz:Fo s2:=by rw [jW];exact oK.kE Bz
 obtain ⟨uy,qv⟩:=hD.out.Br oz (by rw [jW,mK];exact ht) hl ⟨rfl,rfl⟩ rfl rfl (by rw [jW,mK];show s.after.length≤_;omega);have kq:=oK.wf;have lj:=oz.wf;have pz:=Hid.mk jW;have oL:=Hid.mk mK;clear jW mK ow mJ oz oK;obtain ⟨g1,g2,g3,g4,g5⟩:=hw.k ht;obtain ⟨e1,e2,e3,e4,e5⟩:=hw.oD ht hl;simp only at e1 e2 e5;have qC:m<t.jC:=ae;have mV:=(hw.lv t (dx ht)).2.1;have nq:i<lc.steps.length:=(dt jP).1;have pG:(lc.steps.map ki)[i]?=some (ki ⟨3,v,w,nn,tk,vs⟩):=aB;have pS:IntKind.i64.wrap ((t.jC:Int)-1)=m:=ax;have nt:Hid (0≤la→IntKind.i64.wrap (-1-la)=jR la k):=⟨fun h=>ak⟩
 have rh:=Hid.mk hm;clear hm;refine jS.i2 [(0,jI),(1,.int k)] 2 475 NN eX (kv s) ?_;refine jx ?_;refine jB.p2 (qc (T:=[kS]) (q:=0) (l:=⟨lc,la,i,lf⟩) aa aa rfl) ?_;show jB _ _ _ _ _ ⟨_,RH s++[kj ⟨lc,la,i,lf⟩]⟩;refine jx ?_;refine jG.join ⟨[(0,jI),(1,.int k),(5,.int m),(6,.ptr NN 1 0 0),(7,.ptr (NN+1) 1 0 0),(8,.int (jR la k))],RH s++[kj ⟨lc,la,i,lf⟩,j7 ⟨3,v,w,nn,tk,vs⟩]⟩ ?_ ?_
 ·by_cases kJ:0≤la
  ·have kb:decide (la≥0)=true:=jf kJ;refine j8 ?_ kb rfl;refine jx ?_;rw [nt.out kJ];exact .wf
  ·have kb:decide (la≥0)=false:=je kJ;refine jK ?_ kb rfl;refine jx ?_;rw [show jR la k=(k:Int) by unfold jR;rw [iZ kJ]];exact .wf
 refine jx ?_;repeat (refine jK ?_ rfl rfl;refine jx ?_)
 repeat (first|(refine j8 ?_ rfl rfl;refine jx ?_)|(refine jK ?_ rfl rfl;refine jx ?_))
 refine jB.p2 (Cu (x:=⟨lc,la,i,lf⟩) (f:=fr) (vs:=[v,w]) hw kX lH kV ah hb (CH e1 e2) rfl aa aa) ?_;rw [A1];refine jx ?_;refine jK ?_ rfl rfl;refine jx ?_;refine mi (k:=10) follows (hr:=?_);refine jx ?_;refine jB.q2 (vG (e:=ob) (es:=[.int o2]) aa aa) ?_;refine jx ?_;refine jB.q2 (auI (e:=o2) (q:=1) aa aa rfl) ?_;refine jx ?_;refine jB.q2 (w8 (l:=s.kr) (q:=ob) aa aa aa oT) ?_;refine jx ?_;refine jB.p2 (PX (o:=ob) (v:=o2) aa aa oT) ?_;rw [← oL.out];refine jx ?_;refine jB.q2 (vG (e:=ob) (es:=[.int o2]) aa aa) ?_;refine jx ?_;refine cF vt kq lj ?_;refine jx ?_;refine cF uy lj qv.fo.wf ?_;refine jx ?_;exact Rf.kY.ref [kj ⟨lc,la,i,lf⟩,j7 ⟨3,v,w,nn,tk,vs⟩] qv.fo.wf (vs:=[.bool true]) ag rfl rfl (.pu (.base _))
end Go.Ab.Rf
