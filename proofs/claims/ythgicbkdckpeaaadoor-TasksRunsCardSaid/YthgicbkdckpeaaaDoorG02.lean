/- Part. -/
import Derived.Maps.AppendAt
import Derived.ProofKit
import Derived.OpenShut
import Derived.ChangeKeysEq
import Derived.Test.YthgicbkdckpeaaaDoorG01
set_option linter.unusedSimpArgs false
set_option linter.unusedVariables false
namespace Go.Ab
open Go Go.RowKit
section
variable {P:Program} {H:List jy} {ρ:Operand→AV}
theorem Vt {c:Call} {fx:Operand} {f:FuncId} {caps:List AV} {d:AV} (hc:c.callee=.value fx)
 (hf:ρ fx=.j9 f caps) (hp:∀a∈c.args.toList.map ρ++caps,Pu a) {m:List (Nat×Obj)} (h:qY P m f (c.args.toList.map ρ++caps) d) (hm:Ar m ρ:=by exact .inl rfl):QL P H ρ (.call c) d:=
 fun o ho=>amF ho hc hf hp h hm
theorem HL {op:Op} {v:AV} (h:qe P H ρ op=some v):QL P H ρ op v:=fun o ho=>LX (by rw [ho];exact h)
theorem QL.ql {op:Op} {v:AV}
 (h:∀(w0:nd) (O:Nat→Prop) (ι:Nat→Option Nat) (a:Act) (w:World),lA w0 O ι H w →
   (∀x,x∈op.operands→VR w (OO O ι H) ι H (ρ x) (a.eval x))→∀o:Oper,o.op=op→∃u,(execOp a.eval o).run P w=.ok (.value u) w∧VR w (OO O ι H) ι H v u):QL P H ρ op v:=
 fun o ho=>Ey.ql fun w0 O ι a w hs hv=>h w0 O ι a w hs (by rw [← ho];exact hv) o ho
theorem Am {w:World} {t:TypeId} {n:Nat} (h:lW P t=some n):(sizeOf t).run P w=.ok n w:=by
 unfold lW at h;cases hi:P.info? t with
 | none=>simp [hi] at h
 | some i=>simp [hi] at h;simp [sizeOf,typeInfo,hi,h]
theorem add_eq (a:Addr) (n:Nat) (h:a.spot=none):a.add n=⟨a.block,a.off+n,none⟩:=by
 unfold Addr.add;split
 ·rename_i h0;cases a;simp_all
 ·rfl
theorem wC {t el:TypeId} {x i:Operand} {k:IntKind} {n:Int} {es:List AV} {e:AV} (hx:ρ x=.jA es) (hi:ρ i=.base (.int k n)) (ht:P.underlying t=some (.slice el))
 (h0:0≤n) (he:es[n.toNat]?=some e) (kA:lW P el=some e.cells.length):QL P H ρ (.indexAddr t x i) (.kN e 0):=by
 refine QL.ql fun w0 O ι a w hs hv o ho=>?_;have h1:=hv x au;have h2:=hv i au;rw [hx] at h1;rw [hi] at h2;have h2:=h2.nO;generalize hX:a.eval x=X at h1;have kn:n.toNat<es.length:=(dt he).1;cases h1 with
 | sn=>simp at kn
 | jA es ad m cap s val hn nQ so hlen ry hc qy =>
   have rJ:e∈es:=dx he;have ma:=hlen e rJ;have rB:=ry e rJ;refine ⟨.pointer (some (ad.add (n.toNat*e.cells.length))),?_,?_⟩
   ·have hb:0≤n∧n<(m:Int):=⟨h0,ae⟩
    simp only [execOp,ho,hX,h2,Instr.indexAt,LU,jg ht,Am kA,dR,dV,dN,Sem.run_ite,ja hb]
   ·rw [add_eq _ _ rB];refine .kN e 0 _ (val n.toNat) rfl (dL _) (fun j c hj=>?_) fun j c hj=>qy _ _ _ _ he hj;have:=hc _ _ _ _ he hj;rw [ma];exact this
theorem TM {t el:TypeId} {x i:Operand} {k:IntKind} {n:Int} {b tot off len:Nat} {blk:jy} (hx:ρ x=.own b tot off len) (hi:ρ i=.base (.int k n)) (ht:P.underlying t=some (.slice el))
 (hb:H[b]?=some blk) (zE:blk.es.length=tot) (h0:0≤n) (hn:n<len) (kA:lW P el=some blk.sz):QL P H ρ (.indexAddr t x i) (.ptr b tot (off+n.toNat) 0):=by
 refine QL.ql fun w0 O ι a w hs hv o ho=>?_;have h1:=hv x au;have h2:=hv i au;rw [hx] at h1;rw [hi] at h2;have h2:=h2.nO;generalize hX:a.eval x=X at h1;cases h1 with
 | uq b tot off len kH a n c ka kn=>rw [hb] at ka;cases ka;omega
 | tI b kH ka he oX=>omega
 | own b tot off len kH y m cap ad ka nk oX Is hl nQ ha =>
   rw [hb] at ka;cases ka;obtain ⟨rfl,_,cc,cty,cfz,pO,_⟩:=ha (.inl ae);refine ⟨.pointer (some ⟨y,off*blk.sz+n.toNat*blk.sz,none⟩),?_,?_⟩
   ·have AQ:0≤n∧n<(m:Int):=⟨h0,ae⟩
    have CL:=add_eq ⟨y,off*blk.sz,none⟩ (n.toNat*blk.sz) rfl;simp only [execOp,ho,hX,h2,Instr.indexAt,LU,jg ht,Am kA,dR,dV,dN,Sem.run_ite,ja AQ,CL]
   ·rw [← fK];exact .ptr b tot (off+n.toNat) 0 blk y hb nk oX ⟨cc,cty,cfz,pO⟩
def vp (ρ:Operand→AV) (d:Nat):Option Operand→Option Nat
 | none=>some d
 | some x=>match ρ x with
   | .base (.int _ n)=>if 0≤n then some n.toNat else none
   | _=>none
theorem LQ {w:World} {k:IntKind} {n:Int} {y:Nat} {code:BoundsCode} (h0:0≤n) (h:n≤y):(Instr.sliceBound (.int k n) y code).run P w=.ok n.toNat w:=by
 simp only [Instr.sliceBound,LU,dR,dN,Sem.run_ite,ja (And.intro h0 h),dV]
theorem LP {w:World} {a:Act} {O:Nat→Prop} {ι:Nat→Option Nat} {isSl:Bool} {len cap l h:Nat} {lo hi:Option Operand} (hv:∀x,(lo=some x∨hi=some x)→VR w O ι H (ρ x) (a.eval x))
 (qZ:vp ρ 0 lo=some l) (uU:vp ρ len hi=some h) (It:l≤h) (hc:h≤cap):(Instr.sliceBounds isSl len cap (lo.map a.eval) (hi.map a.eval) none).run P w=.ok (l,h,cap) w:=by
 have hl:∀x,lo=some x→∃k n,a.eval x=.int k n∧0≤n∧l=n.toNat:=by
  intro x hx;subst hx;simp only [vp] at qZ;split at qZ
  ·rename_i k n pb;split at qZ
   ·rename_i h0;injection qZ with qZ;have:=hv x (.inl rfl);rw [pb] at this;exact ⟨k,n,this.nO,h0,qZ.symm⟩
   ·cases qZ
  ·cases qZ
 have hh:∀x,hi=some x→∃k n,a.eval x=.int k n∧0≤n∧h=n.toNat:=by
  intro x hx;subst hx;simp only [vp] at uU;split at uU
  ·rename_i k n pb;split at uU
   ·rename_i h0;injection uU with uU;have:=hv x (.inr rfl);rw [pb] at this;exact ⟨k,n,this.nO,h0,uU.symm⟩
   ·cases uU
  ·cases uU
 unfold Instr.sliceBounds;cases hi with
 | none =>
   simp only [vp] at uU;injection uU with uU;cases lo with
   | none =>
     simp only [vp] at qZ;injection qZ with qZ;subst qZ;subst uU;simp only [fR,dR,dV,dN]
   | some x =>
     obtain ⟨k,n,h1,h2,h3⟩:=hl x rfl;subst uU;subst h3;simp only [fR,eJ,dR,dV,dN,h1,LQ h2 (show n≤(len:Int) by omega)]
 | some y =>
   obtain ⟨k',n',pd,BI,BJ⟩:=hh y rfl;subst BJ;cases lo with
   | none =>
     simp only [vp] at qZ;injection qZ with qZ;subst qZ;simp only [fR,eJ,dR,dV,dN,pd,LQ BI (show n'≤(cap:Int) by omega)]
   | some x =>
     obtain ⟨k,n,h1,h2,h3⟩:=hl x rfl;subst h3;simp only [eJ,dR,dV,dN,h1,pd,LQ BI (show n'≤(cap:Int) by omega),LQ h2 (show n≤(n'.toNat:Int) by omega)]
theorem adJ {t el:TypeId} {x:Operand} {lo hi:Option Operand} {es:List AV} {l h sz:Nat} (hx:ρ x=.jA es) (ht:P.underlying t=some (.slice el)) (qZ:vp ρ 0 lo=some l) (uU:vp ρ es.length hi=some h)
 (It:l≤h) (hh:h≤es.length) (kA:lW P el=some sz) (rC:∀e∈es,e.cells.length=sz):QL P H ρ (.slice t x lo hi none) (.jA ((es.drop l).take (h-l))):=by
 refine QL.ql fun w0 O ι a w hs hv o ho=>?_;have h1:=hv x au;have oM:∀y,(lo=some y∨hi=some y)→VR w (OO O ι H) ι H (ρ y) (a.eval y):=by
  rintro y (rfl|rfl)<;>exact hv y au
 rw [hx] at h1;generalize hX:a.eval x=X at h1;cases h1 with
 | sn =>
   simp only [gR] at uU hh;have hr:=LP (P:=P) (cap:=0) (isSl:=true) oM qZ uU It ae;have:l=0:=ae;have:h=0:=ae;subst l;subst h;refine ⟨.slice none 0 0,?_,by simpa using VR.sn⟩;simp only [execOp,ho,hX,Instr.sliceAt,jg ht,Instr.slice,fR,hr,Am kA,dR,dV,dN,jb,iq]
 | jA es ad m cap s val hn nQ so hlen ry hc qy =>
   subst hn;have hr:=LP (P:=P) (cap:=cap) (isSl:=true) oM qZ uU It ae;have rJ:∀e,e∈(es.drop l).take (h-l)→e∈es:=fun e he=>List.mem_of_mem_drop (List.mem_of_mem_take he);have qU:∀i e,((es.drop l).take (h-l))[i]?=some e→es[l+i]?=some e:=by
    intro i e he;rw [fL] at he;split at he
    ·rwa [fU] at he
    ·cases he
   by_cases lK:cap=l
   ·refine ⟨.slice (some ad) (h-l) (cap-l),?_,?_⟩
    ·simp only [execOp,ho,hX,Instr.sliceAt,jg ht,Instr.slice,fR,hr,Am kA,dR,dV,dN,ja lK]
    ·have:(es.drop l).take (h-l)=[]:=aj;rw [this];exact .jA [] ad _ _ 0 (fun _ _=>undef) aj ae (by have:0≤maxLen:=dL _;omega) ah ah ah ah
   ·refine ⟨.slice (some (ad.add (l*sz))) (h-l) (cap-l),?_,?_⟩
    ·simp only [execOp,ho,hX,Instr.sliceAt,jg ht,Instr.slice,fR,hr,Am kA,dR,dV,dN,iZ lK,eJ]
    ·refine .jA _ _ _ _ sz (fun i j=>val (l+i) j) aj ae ae (fun e he=>rC e (rJ e he)) (fun e he=>?_) (fun i j e c he hj=>?_) fun i j e c he hj=>qy _ _ _ _ (qU i e he) hj
     ·rw [add_eq _ _ (ry e (rJ e he))]
     ·have vL:=qU i e he;have ma:s=sz:=by rw [← hlen e (dx vL),rC e (dx vL)]
      have:=hc _ _ _ _ vL hj;rw [add_eq _ _ (ry e (dx vL))];rw [ma,fK,← Nat.add_assoc] at this;exact this
end
attribute [go_sem] mu cv batch FP qe ev lk mF HJ stripL wa ve pU gc uB MN PN PO Pm wI P5 PQ fresh xV o6 zx rG AV.cells vp
theorem aeH (n:Fr):mB n none=true:=rfl
theorem asQ (k:Nat):(OfNat.ofNat k:Fr).n=k:=rfl
theorem asR (k:Nat):(OfNat.ofNat k:Fr).m=0:=rfl
attribute [go_sem] asQ asR
theorem aeI (n:Fr) (t:Nat):mB n (some t)=decide (t<n.n):=by
 rw [gW];simp [mB]
attribute [go_sem] aeH aeI
section
variable {P:Program} {n:Fr} {K:ku→Prop} {Q:Exit→ku→Prop} {s:ku}
theorem jB.go {q:Bool} {o:lx} {l r:List lx} {s0 s1:ku} (h:FP P n o s=some s0) (h2:Go.Ab.batch P n l s0=(r,s1)) (hr:jB P n q r K s1):jB P n q (o::l) K s:=
 jB.batch (l:=o::l) (by simp only [Ab.batch,h];exact h2) hr
def asS (ops:Array Oper) (D:List (Option Tmp)) (l:List lx):Prop:=ops.toList.map (·.dst)=D∧ops.toList.all (wQ D)=true∧ops.toList.map (pU D)=l
theorem jG.ajJ {id:Nat} {ops:Array Oper} {D:List (Option Tmp)} {l:List lx} (h:asS ops D l) (hr:jB P n false l (Q .normal) s):jG P n (.region id ops false) Q s:=jG.region h.1 h.2.1 h.2.2 hr
def Bt (ops:Array Oper) (k:Nat) (D:List (Option Tmp)) (l1 l2:List lx):Prop:=
 ops.toList.map (·.dst)=D∧ops.toList.all (wQ D)=true∧JM D ops k=true∧k≤ops.size∧(ops.toList.take k).map (pU D)=l1∧(ops.toList.drop k).map (pU D)=l2
theorem jG.apK {id:Nat} {ops:Array Oper} {D:List (Option Tmp)} {k:Nat} {l1 l2:List lx} (hm:P.follows .mixedOrders=true) (h:Bt ops k D l1 l2)
 (hr:jB P n true l1 (fun s1=>jB P n false l2 (Q .normal) s1) s):jG P n (.region id ops true) Q s:=jG.draw hm h.1 h.2.1 h.2.2.1 h.2.2.2.1 h.2.2.2.2.1 h.2.2.2.2.2 hr
theorem ajK (h:K s):xY K Q .normal s:=h
theorem ajL (h:Q .ret s):xY K Q .ret s:=h
theorem ajM {id:Nat} (h:Q (.exit id) s):xY K Q (.exit id) s:=h
theorem amH {id:Nat} (h:Q .normal s):Bs id Q .normal s:=h
theorem amI {id:Nat} (h:Q .ret s):Bs id Q .ret s:=h
theorem amJ {id:Nat} (h:Q .normal s):Bs id Q (.exit id) s:=by simpa [Bs] using h
theorem amK {id EC:Nat} (lO:(EC==id)=false) (h:Q (.exit EC) s):Bs id Q (.exit EC) s:=by
 simp only [Bs];rw [iZ (by simpa using lO)];exact h
theorem amL {rs:List ResultVar} {d:AV} (h:kO P rs d s):FZ P rs d .normal s:=h
theorem amM {rs:List ResultVar} {d:AV} (h:kO P rs d s):FZ P rs d .ret s:=h
theorem kO.data {rs:List ResultVar} {d:AV} {vs:List AV} (h:o6 P s rs=some vs) (he:rG vs=d) (hp:Pu d):kO P rs d s:=⟨vs,h,by rw [he];exact .pu hp⟩
theorem kO.tB {rs:List ResultVar} {d:AV} {vs:List AV} (h:o6 P s rs=some vs) (hp:pX s.H 0 (rG vs) d):kO P rs d s:=⟨vs,h,hp⟩
end
def C1 (E:Env):Env→Prop
 | []=>True
 | (t,v)::r=>Le (lk E t) v∧C1 E r
theorem C1.all {E:Env}:∀ {E2:Env},C1 E E2→∀p∈E2,Le (lk E p.1) p.2
 | [],_,p,h=>dh
 | (t,v)::r,⟨h1,h2⟩,p,h=>by
   rcases dC.1 h with rfl|h
   ·exact h1
   ·exact C1.all h2 p h
theorem Wk.sr {n:Fr} {E E2:Env} {H:List jy} (h:C1 E E2):Wk n ⟨E,H⟩ ⟨E2,H⟩:=.env h.all
theorem ajN (a:AV):Le a a=True:=by simp [Le.refl]
theorem amN (a:AV):Le a .bad=True:=by simp [Le.bad]
theorem apL (a:AV):Le (.under true a) a=True:=by simp [Le.T5]
attribute [go_sem] C1 ajN amN apL
def C2 (H:List jy) (k:Nat) (E:Env):Env→Prop
 | []=>True
 | (t,v)::r=>pX H k (lk E t) v∧C2 H k E r
theorem C2.all {H:List jy} {k:Nat} {E:Env}:∀ {E2:Env},C2 H k E E2→∀p∈E2,pX H k (lk E p.1) p.2
 | [],_,p,h=>dh
 | (t,v)::r,⟨h1,h2⟩,p,h=>by
   rcases dC.1 h with rfl|h
   ·exact h1
   ·exact C2.all h2 p h
theorem Wk.MA {n:Fr} {E E2:Env} {H H2:List jy} (k:Nat) (hm:n.m≤k) (h2:H.take k=H2) (h:C2 H k E E2) (hc:∀blk∈H2,∀e∈blk.es,∀c∈e.cells,pX H k c c):Wk n ⟨E,H⟩ ⟨E2,H2⟩:=by
 subst h2;exact .trim k hm h.all hc
theorem Wk.Qa {nn:Nat} {E E2:Env} {H H2:List jy} (k:Nat) (h2:H.take k=H2) (h:C2 H k E E2) (hc:∀blk∈H2,∀e∈blk.es,∀c∈e.cells,pX H k c c):Wk (OfNat.ofNat nn) ⟨E,H⟩ ⟨E2,H2⟩:=.MA k (dL _) h2 h hc
theorem Wk.refl {n:Fr} (s:ku):Wk n s s:=fun w0 O ι a w h=>⟨ι,h⟩
theorem Wk.trans {n:Fr} {s s2 s3:ku} (h:Wk n s s2) (h2:Wk n s2 s3):Wk n s s3:=fun w0 O ι a w hs=>by
 obtain ⟨jO,h3⟩:=h w0 O ι a w hs;exact h2 w0 O jO a w h3
theorem nP {x:Int} (h1:-9223372036854775808≤x) (h2:x≤9223372036854775807):IntKind.i64.wrap x=x:=by
 exact IntWalk.i64_in _ ⟨h1,h2⟩
theorem l6 {n:Nat} (h:n<9223372036854775807):IntKind.i64.wrap ((n:Int)+1)=((n+1:Nat):Int):=by
 rw [nP ae ae];rfl
theorem Fn.nZ {P:Program} {f:FuncId} {fn:Func} {c:Code} {args:List AV} {d:AV} (E:Env) (m n:Nat) (hf:P.funcs[f]?=some fn) (hn:(fn.name == "runtime.NumGoroutine")=false) (hb:fn.body=some c)
 (hm:args.length=m) (yK:fn.ntmps=n) (ha:Nat.ble m n=true) (hE:args.zipIdx.map (fun (a,i)=>(i,a))=E)
 (h:jG P (OfNat.ofNat n) c (FZ P fn.results.toList d) ⟨E,[]⟩):Fn P f args d:=by
 refine Fn.intro hf hn hb cK ?_;rw [hE,yK];exact h
theorem qY.nZ {P:Program} {mm:List (Nat×Obj)} {f:FuncId} {fn:Func} {c:Code} {args:List AV} {d:AV} (E:Env) (m n:Nat) (hf:P.funcs[f]?=some fn) (hn:(fn.name == "runtime.NumGoroutine")=false) (hb:fn.body=some c)
 (hm:args.length=m) (yK:fn.ntmps=n) (ha:Nat.ble m n=true) (hE:args.zipIdx.map (fun (a,i)=>(i,a))=E)
 (h:jG P (OfNat.ofNat n) c (FZ P fn.results.toList d) ⟨E++[(mu,.mem mm)],[]⟩) (yJ:Nat.ble n mu=true:=by rfl):qY P mm f args d:=by
 refine qY.intro hf hn hb cK ?_ (by rw [yK];exact Nat.le_of_ble_eq_true yJ);rw [hE,yK];exact h
def At:AV→Bool
 | .base v=>v.oneCell'
 | .jA _ | .own _ _ _ _ | .ptr _ _ _ _ | .kN _ _ | .j9 _ _ | .n5 _=>true
 | _=>false
attribute [go_sem] At Value.oneCell'
section
variable {P:Program} {w w':World} {w0:nd} {O:Nat→Prop} {ι:Nat→Option Nat} {H:List jy} {u:Value}
theorem VR.one {c:AV} (h:At c=true) (hv:VR w O ι H c u):u.oneCell'=true∧u.cells=#[u]:=by
 cases hv<;>first
  | (exact ⟨rfl,rfl⟩)
  | (simp [At] at h;done)
  | (cases u<;>simp_all [At,Value.oneCell',Value.cells])
def ru (v:AV):Bool:=match v with
 | .agg cs=>cs.all At
 | v=>At v
theorem VR.cells {v:AV} (h:ru v=true) (hv:VR w O ι H v u):u.cells.size=v.cells.length∧(∀(j:Nat) (c:AV) (x:Value),v.cells[j]?=some c→u.cells[j]?=some x→VR w O ι H c x)∧∀x∈u.cells,x.oneCell'=true:=by
 cases v with
 | agg cs =>
   obtain ⟨arr,rfl,h1,h2⟩:=hv.Co;refine ⟨h1,h2,fun x hx=>?_⟩;obtain ⟨j,hj,rfl⟩:=Array.mem_iff_getElem.1 hx;have mC:j<cs.length:=by rw [← h1];exact hj
   have hc:cs[j]?=some cs[j]:=dy mC;have hu:arr[j]?=some arr[j]:=dM hj;exact (VR.one (du h _ (ey mC)) (h2 j _ _ hc hu)).1
 | _ =>
   obtain ⟨h1,h2⟩:=VR.one (c:=_) (by simpa [ru] using h) hv;rw [h2];refine ⟨rfl,fun j c x hc hx=>?_,fun x hx=>?_⟩
   ·cases j with
    | zero =>
      simp only [AV.cells,gQ,fA] at hc;simp at hx;subst hc;subst hx;exact hv
    | succ j=>simp [AV.cells] at hc
   ·simp at hx;subst hx;exact h1
def rU (ι:Nat→Option Nat) (b x:Nat):Nat→Option Nat:=fun b'=>if b'=b then some x else ι b'
theorem vw (ι:Nat→Option Nat) (b x:Nat):rU ι b x b=some x:=ja rfl
theorem xd {ι:Nat→Option Nat} {b b' x:Nat} (h:b'≠b):rU ι b x b'=ι b':=iZ h
theorem lA.Xv (hs:lA w0 O ι H w) (blk:jy) (c:Array Value) (ob:Obj) (pt:Bn ob=some (c,blk.ty)) (wd:World) (RO:Below w.heap.size w wd) (kA:wd.heap.size=w.heap.size) (h1:blk.es.length*blk.sz≤c.size) (h2:∀e∈blk.es,e.cells.length=blk.sz)
 (h3:∀(i j:Nat) (e d:AV),blk.es[i]?=some e→e.cells[j]?=some d→∃u,c[i*blk.sz+j]?=some u∧VR w (OO O ι H) ι H d u) :
 lA w0 O (rU ι H.length w.heap.size) (H++[blk]) (wd.alloc ob) ∧
 mj w (OO O ι H) ι H (wd.alloc ob) (OO O (rU ι H.length w.heap.size) (H++[blk])) (rU ι H.length w.heap.size) (H++[blk]):=by
 have hb:Below w.heap.size w (wd.alloc ob):=RO.alloc ae _;have hold:∀x,O x→x<w.heap.size:=hs.rS;have hinv:∀b x,b<(H++[blk]).length→rU ι H.length w.heap.size b=some x→(b=H.length∧x=w.heap.size)∨(b<H.length∧ι b=some x):=by
  intro b x hb hx;by_cases e:b=H.length
  ·subst e;rw [vw] at hx;injection hx with hx;exact .inl ⟨rfl,hx.symm⟩
  ·rw [xd e] at hx;exact .inr ⟨by simp at hb;omega,hx⟩
 have Av:∀b x,b<H.length→ι b=some x→x<w.heap.size:=fun b x hb hx=>(hs.heap b _ x (dy hb) hx).2.lt;have g:mj w (OO O ι H) ι H (wd.alloc ob) (OO O (rU ι H.length w.heap.size) (H++[blk])) (rU ι H.length w.heap.size) (H++[blk]):=by
  refine ⟨fun p u _ h=>by rw [hb.block p (vY h)];exact h,fun p u h hc=>?_,fun b bk h=>?_,fun b x bk C3 c' ty fz h1 h2 _ hi h=>?_⟩
  ·rintro (ho|⟨b,lR,hx⟩)
   ·exact h (.inl ho)
   ·rcases hinv b _ lR hx with ⟨_,e⟩|⟨h4,h5⟩
    ·have:=vY hc;omega
    ·exact h (.inr ⟨b,h4,h5⟩)
  ·have kn:=(dt h).1;exact ⟨bk,by rw [dA kn];exact h,dD _,fun _=>⟨rfl,xd ae⟩⟩
  ·have kn:x<w.heap.size:=Av b x (dt h1).1 hi;exact ⟨c',ty,fz,by rw [hb.block x kn];exact h,rfl⟩
 refine ⟨⟨fun b bk x h hx=>?_,fun b bk h hx=>?_,fun b b' x h h' hx mH=>?_,hs.below.step hb,fun x hx=>eZ (hs.rS x hx) hb.size,fun x b hO lR hx=>?_,hs.pn.trans g.grow⟩,g⟩
 ·rcases hinv b x (dt h).1 hx with ⟨rfl,rfl⟩|⟨h4,h5⟩
  ·rw [dJ (dD _)] at h;simp at h;subst h;refine ⟨.inl hs.below.size,c,?_,h1,h2,fun i j e d he hd=>?_⟩
   ·rw [← kA,rowAt,jr wd _];exact pt
   ·obtain ⟨u,hu,hv⟩:=h3 i j e d he hd;exact ⟨u,hu,hv.mono g⟩
  ·rw [dA h4] at h;obtain ⟨h6,h7⟩:=hs.heap b bk x h h5;exact ⟨h6,h7.mono g (hb.block x h7.lt)⟩
 ·by_cases e:b=H.length
  ·subst e;rw [vw] at hx;cases hx
  ·have kn:b<H.length:=by have:=(dt h).1;simp at this;omega
   rw [dA kn] at h;rw [xd e] at hx;exact hs.sq b bk h hx
 ·rcases hinv b x h hx with ⟨rfl,rfl⟩|⟨h4,h5⟩
  ·rcases hinv b' _ h' mH with ⟨rfl,_⟩|⟨h6,h7⟩
   ·rfl
   ·have:=Av b' _ h6 h7;omega
  ·rcases hinv b' x h' mH with ⟨rfl,rfl⟩|⟨h6,h7⟩
   ·have:=Av b _ h4 h5;omega
   ·exact hs.inj b b' x h4 h6 h5 h7
 ·rcases hinv b x lR hx with ⟨_,e⟩|⟨h4,h5⟩
  ·have:=hs.rS x hO;omega
  ·exact hs.qp x b hO h4 h5
theorem lA.new (hs:lA w0 O ι H w) (blk:jy) (c:Array Value) (hmt:blk.ty<pj) (wd:World) (RO:Below w.heap.size w wd) (kA:wd.heap.size=w.heap.size) (h1:blk.es.length*blk.sz≤c.size) (h2:∀e∈blk.es,e.cells.length=blk.sz)
 (h3:∀(i j:Nat) (e d:AV),blk.es[i]?=some e→e.cells[j]?=some d→∃u,c[i*blk.sz+j]?=some u∧VR w (OO O ι H) ι H d u) :
 lA w0 O (rU ι H.length w.heap.size) (H++[blk]) (wd.alloc (.cells c blk.ty)) ∧
 mj w (OO O ι H) ι H (wd.alloc (.cells c blk.ty)) (OO O (rU ι H.length w.heap.size) (H++[blk])) (rU ι H.length w.heap.size) (H++[blk]):=
 hs.Xv blk c (.cells c blk.ty) (by simp [Bn,hmt]) wd RO kA h1 h2 h3
theorem PL.ql {ρ:Operand→AV} {op:Op} {v:AV} {H':List jy}
 (h:∀(w0:nd) (O:Nat→Prop) (ι:Nat→Option Nat) (a:Act) (w:World),lA w0 O ι H w→(∀x,VR w (OO O ι H) ι H (ρ x) (a.eval x))→∀o:Oper,o.op=op →
   ∃u w' jU nx,(execOp a.eval o).run P w=.ok nx w'∧(nx=.value u∨(nx=.skip∧u=undef))∧lA w0 O jU H' w'∧mj w (OO O ι H) ι H w' (OO O jU H') jU H'∧VR w' (OO O jU H') jU H' v u):PL P H ρ op v H':=by
 intro o ho w0 O ι a w hs hv K Q hK;obtain ⟨u,w',jU,nx,hr,tP,h1,h2,h3⟩:=h w0 O ι a w hs hv o ho;unfold Oper.wp;rw [hr];rcases tP with rfl|⟨rfl,rfl⟩
 ·exact hK u w' jU h1 h2 h3
 ·exact hK undef w' jU h1 h2 h3
theorem xW {ρ:Operand→AV} {el:TypeId} {x:Operand} {v:AV} (hx:ρ x=v) (hc:ru v=true) (hmt:el<pj:=by decide):PL P H ρ (.box el x) (.ptr H.length 1 0 0) (H++[⟨el,v.cells.length,[v]⟩]):=by
 refine PL.ql fun w0 O ι a w hs hv o ho=>?_;have h1:=hv x;rw [hx] at h1;obtain ⟨h2,h3,_⟩:=h1.cells hc;have rH:∀(i j:Nat) (e d:AV),[v][i]?=some e→e.cells[j]?=some d→∃u,(a.eval x).cells[i*v.cells.length+j]?=some u∧VR w (OO O ι H) ι H d u:=by
  intro i j e d he hd;cases i with
  | zero =>
    simp at he;subst he;have hj:j<(a.eval x).cells.size:=de;exact ⟨_,cf,h3 j d _ hd (dM hj)⟩
  | succ i=>simp at he
 obtain ⟨h4,h5⟩:=hs.new ⟨el,v.cells.length,[v]⟩ (a.eval x).cells hmt w (Below.refl _ _) rfl (by simp [h2]) ah rH;refine ⟨.pointer (some ⟨w.heap.size,0,none⟩),_,_,_,?_,.inl rfl,h4,h5,?_⟩
 ·simp only [execOp,ho,Instr.box,newVar,newRow,dR,jo,gr,dV,dN]
 ·have:=VR.ptr (w:=w.alloc (.cells (a.eval x).cells el)) (O:=OO O (rU ι H.length w.heap.size) (H++[⟨el,v.cells.length,[v]⟩])) (ι:=rU ι H.length w.heap.size) (H:=H++[⟨el,v.cells.length,[v]⟩])
   H.length 1 0 0 ⟨el,v.cells.length,[v]⟩ w.heap.size ah rfl (vw _ _ _) ⟨_,_,_,jr w _⟩
  simpa using this
def qd (P:Program) (t:TypeId):Option AV:=((P.info? t).bind (·.zero)).map cv
theorem Fz {t:TypeId} {z:AV} (h:qd P t=some z):∃zv,(zeroValue t).run P w=.ok zv w∧z=cv zv:=by
 unfold qd at h;cases hi:P.info? t with
 | none=>simp [hi] at h
 | some i =>
   cases hz:i.zero with
   | none=>simp [hi,hz] at h
   | some zv=>simp [hi,hz] at h;exact ⟨zv,by simp [zeroValue,typeInfo,hi,hz],h.symm⟩
theorem wD {ρ:Operand→AV} {el:TypeId} {z:AV} (hz:qd P el=some z) (hc:ru z=true) (hmt:el<pj:=by decide):PL P H ρ (.alloc el) (.ptr H.length 1 0 0) (H++[⟨el,z.cells.length,[z]⟩]):=by
 refine PL.ql fun w0 O ι a w hs hv o ho=>?_;obtain ⟨zv,hr,rfl⟩:=Fz (w:=w) hz;obtain ⟨h2,h3,_⟩:=(VR.cv w (OO O ι H) ι H zv).cells hc;have rH:∀(i j:Nat) (e d:AV),[cv zv][i]?=some e→e.cells[j]?=some d→∃u,zv.cells[i*(cv zv).cells.length+j]?=some u∧VR w (OO O ι H) ι H d u:=by
  intro i j e d he hd;cases i with
  | zero =>
    simp at he;subst he;have hj:j<zv.cells.size:=de;exact ⟨_,cf,h3 j d _ hd (dM hj)⟩
  | succ i=>simp at he
 obtain ⟨h4,h5⟩:=hs.new ⟨el,(cv zv).cells.length,[cv zv]⟩ zv.cells hmt w (Below.refl _ _) rfl (by simp [h2]) ah rH;refine ⟨.pointer (some ⟨w.heap.size,0,none⟩),_,_,_,?_,.inl rfl,h4,h5,?_⟩
 ·simp only [execOp,ho,Instr.alloc,newVar,newRow,hr,dR,jo,gr,dV,dN]
 ·have:=VR.ptr (w:=w.alloc (.cells zv.cells el)) (O:=OO O (rU ι H.length w.heap.size) (H++[⟨el,(cv zv).cells.length,[cv zv]⟩])) (ι:=rU ι H.length w.heap.size) (H:=H++[⟨el,(cv zv).cells.length,[cv zv]⟩])
   H.length 1 0 0 ⟨el,(cv zv).cells.length,[cv zv]⟩ w.heap.size ah rfl (vw _ _ _) ⟨_,_,_,jr w _⟩
  simpa using this
end
def BK (e:AV) (off:Nat) (vs:List AV):Option AV:=
 match e with
 | .agg cs=>if off+vs.length≤cs.length then some (.agg (match vs with
   | [c]=>cs.set off c
   | vs=>if off=0∧vs.length=cs.length then vs else cs.take off++vs++cs.drop (off+vs.length))) else none
 | _=>match off,vs with
   | 0,[c]=>if At c then some c else none
   | _,_=>none
theorem Uk {e e':AV} {off:Nat} {vs:List AV} (h:BK e off vs=some e'):off+vs.length≤e.cells.length∧e'.cells.length=e.cells.length ∧
 ∀(j:Nat) (d:AV),e'.cells[j]?=some d→if off≤j∧j<off+vs.length then vs[j-off]?=some d else e.cells[j]?=some d:=by
 unfold BK at h;split at h
 ·rename_i cs;split at h
  ·rename_i hle;injection h with h;subst h;refine ⟨hle,?_,?_⟩
   ·split
    ·simp [AV.cells]
    ·split
     ·rename_i h2;exact h2.2
     ·simp only [AV.cells,dK,eQ,gb];omega
   ·intro j d hd;split at hd
    ·rename_i c;simp only [AV.cells,dO] at hd hle ⊢;rw [eN] at hd;by_cases e:off=j
     ·subst e;rw [ja rfl,ja ae] at hd;rw [ja ae];simpa using hd
     ·rw [iZ e] at hd;rw [iZ ae];exact hd
    ·split at hd
     ·rename_i h2;obtain ⟨rfl,h3⟩:=h2;simp only [AV.cells] at hd ⊢;have hj:=(dt hd).1;rw [ja ae];simpa using hd
     ·simp only [AV.cells] at hd ⊢;rw [fN,fN] at hd;simp only [dK,eQ] at hd;by_cases h1:j<off
      ·rw [ja ae,ja ae,fL,ja h1] at hd;rw [iZ ae];exact hd
      ·by_cases h2:j<off+vs.length
       ·rw [ja ae,iZ ae] at hd;rw [ja ⟨ae,h2⟩,← hd];congr 1;omega
       ·rw [iZ ae,fU] at hd;rw [iZ ae,← hd];congr 1;omega
  ·cases h
 ·rename_i lO;split at h
  ·rename_i c;split at h
   ·rename_i hc;injection h with h;subst h;have Y7:e.cells=[e]:=by cases e<;>first|rfl|(exact absurd rfl (lO _))
    have pO:c.cells=[c]:=by cases c<;>first|rfl|(simp [At] at hc)
    refine ⟨by simp [Y7],by rw [Y7,pO];rfl,fun j d hd=>?_⟩;rw [pO] at hd;cases j with
    | zero=>simp at hd;subst hd;simp
    | succ j=>simp at hd
   ·cases h
  ·cases h
section
variable {P:Program} {w w':World} {w0:nd} {O:Nat→Prop} {ι:Nat→Option Nat} {H:List jy} {u:Value}
theorem Jm (x:Nat):∀(vs:List Value) (o:Nat) (w:World) (c:Array Value) (ty:TypeId) (fz:Nat×Nat),w.heap[x]?=some (.cells c ty fz)→o+vs.length≤c.size →
 ∃c',(w.setCells x o vs).heap[x]?=some (.cells c' ty fz)∧c'.size=c.size∧∀j,c'[j]?=if o≤j∧j<o+vs.length then vs[j-o]? else c[j]?
 | [],o,w,c,ty,fz,h,_=>⟨c,h,rfl,fun j=>by rw [iZ ah]⟩
 | v::r,o,w,c,ty,fz,h,hl=>by
   have h1:(w.setCell ⟨x,o,none⟩ v).heap[x]?=some (.cells (c.setIfInBounds o v) ty fz):=by
    simp [World.setCell,Array.getElem?_modify,h]
   simp only [ff] at hl;obtain ⟨c',h2,h3,h4⟩:=Jm x r (o+1) _ _ ty fz h1 aj;refine ⟨c',h2,by simpa using h3,fun j=>?_⟩;rw [h4 j];by_cases e:j=o
   ·subst e;rw [iZ ae,ja ah,dZ,ja rfl,ja ae];simp
   ·by_cases h5:o+1≤j∧j<o+1+r.length
    ·rw [ja h5,ja aj,show j-o=(j-(o+1))+1 by omega];rfl
    ·rw [iZ h5,iZ aj,dZ,iZ ae]
theorem Jk (x:Nat):∀(vs:List Value) (o:Nat) (w:World) (k:Nat),k≠x→(w.setCells x o vs).heap[k]?=w.heap[k]?
 | [],_,_,_,_=>rfl
 | v::r,o,w,k,h=>by
   rw [World.setCells,Jk x r (o+1) _ k h];exact Below.heap_setCell w ⟨x,o,none⟩ v k h
theorem Jl (B x:Nat) (hx:B≤x):∀(vs:List Value) (o:Nat) (w:World),Below B w (w.setCells x o vs)
 | [],_,w=>Below.refl _ _
 | v::r,o,w=>((Below.refl B w).setCell (p:=⟨x,o,none⟩) hx v).trans (Jl B x hx r (o+1) _)
theorem lA.set (hs:lA w0 O ι H w) {b x:Nat} {blk blk2:jy} (hb:H[b]?=some blk) (hi:ι b=some x) (Y8:blk2.sz=blk.sz) (h2t:blk2.ty=blk.ty) (Nn:blk2.es.length=blk.es.length) (tC:Below x w w') (F1:∀k,k≠x→w'.heap[k]?=w.heap[k]?)
 {c c':Array Value} (hc:rowAt w x=some (c,blk.ty)) (lC:rowAt w' x=some (c',blk.ty)) (mh:c'.size=c.size) (pO:∀c ty fz,w.heap[x]?=some (.cells c ty fz)→∃c' wo AL,w'.heap[x]?=some (.cells c' wo AL)∧c'.size=c.size) (he:∀e∈blk2.es,e.cells.length=blk2.sz)
 (hv:∀(i j:Nat) (e d:AV),blk2.es[i]?=some e→e.cells[j]?=some d→∃u,c'[i*blk2.sz+j]?=some u∧VR w (OO O ι H) ι H d u) :
 lA w0 O ι (H.set b blk2) w'∧mj w (OO O ι H) ι H w' (OO O ι (H.set b blk2)) ι (H.set b blk2):=by
 have lR:b<H.length:=(dt hb).1;have qU:∀b' bk,(H.set b blk2)[b']?=some bk→(b'=b∧bk=blk2)∨(b'≠b∧H[b']?=some bk):=by
  intro b' bk h;rw [eN] at h;by_cases e:b=b'
  ·subst e;rw [ja rfl,ja lR] at h;injection h with h;exact .inl ⟨rfl,h.symm⟩
  ·rw [iZ e] at h;exact .inr ⟨fun e'=>e e'.symm,h⟩
 have wT:∀y,OO O ι (H.set b blk2) y↔OO O ι H y:=fun y=>by unfold OO nR;simp
 have Xw:w0.w.heap.size≤x∨w0.S x:=(hs.heap b blk x hb hi).1;have g:mj w (OO O ι H) ι H w' (OO O ι (H.set b blk2)) ι (H.set b blk2):=by
  refine ⟨fun p u h rH=>?_,fun p u h _ h'=>h ((wT _).1 h'),fun b' bk h=>?_,fun b' y bk C3 c1 ty fz h1 h2 _ oX h=>?_⟩
  ·have:p≠x:=fun e=>h (.inr ⟨b,lR,by rw [e];exact hi⟩);rw [F1 _ this];exact rH
  ·by_cases e:b'=b
   ·subst e;rw [hb] at h;injection h with h;subst h;exact ⟨blk2,by simp [lR],ae,fun _=>⟨Y8,rfl⟩⟩
   ·exact ⟨bk,by rw [dS (fun e'=>e e'.symm)];exact h,dD _,fun _=>⟨rfl,rfl⟩⟩
  ·by_cases e:y=x
   ·subst e;exact pO _ _ _ h
   ·exact ⟨c1,ty,fz,by rw [F1 y e];exact h,rfl⟩
 refine ⟨⟨fun b' bk y h hy=>?_,fun b' bk h hy=>?_,fun b1 b2 y h1 h2=>hs.inj b1 b2 y (by simpa using h1) (by simpa using h2),hs.below.change tC.os tC.tape tC.output tC.size (fun k _ hk=>by
  rcases Classical.em (k=x) with e|e
  ·rw [e];exact Xw
  ·exact absurd (F1 k e) hk),
  fun y hy=>eZ (hs.rS y hy) tC.size,fun y b1 hO h1=>hs.qp y b1 hO (by simpa using h1),hs.pn.trans g.grow⟩,g⟩
 ·rcases qU b' bk h with ⟨rfl,rfl⟩|⟨lO,h'⟩
  ·rw [hi] at hy;injection hy with hy;subst hy;obtain ⟨_,c0,l5,Xx,_,_⟩:=hs.heap b' blk x hb hi;rw [hc] at l5;injection l5 with l5;injection l5 with l5 _;subst l5;refine ⟨Xw,c',by rw [h2t];exact lC,by rw [Nn,Y8,mh];exact Xx,he,fun i j e d hie KI=>?_⟩;obtain ⟨u,hu,uE⟩:=hv i j e d hie KI;exact ⟨u,hu,uE.mono g⟩
  ·obtain ⟨h3,h4⟩:=hs.heap b' bk y h' hy;have Y9:y≠x:=fun e=>lO (hs.inj b' b y (dt h').1 lR hy (by rw [e];exact hi));exact ⟨h3,h4.mono g (F1 y Y9)⟩
 ·rcases qU b' bk h with ⟨rfl,rfl⟩|⟨lO,h'⟩
  ·rw [hi] at hy;cases hy
  ·exact hs.sq b' bk h' hy
theorem Jp {i j n s:Nat} (hi:i<n) (hj:j<s):i*s+j<n*s:=by
 have:(i+1)*s≤n*s:=eW s hi;rw [fK] at this;omega
theorem Wg {i j s:Nat} (hj:j<s):(i*s+j) / s=i∧(i*s+j) % s=j:=by
 have hs:0<s:=ae;constructor
 ·rw [Nat.mul_comm,Nat.mul_add_div hs,Nat.div_eq_of_lt hj];rfl
 ·rw [Nat.mul_comm,Nat.mul_add_mod,Nat.mod_eq_of_lt hj]
theorem qP {ρ:Operand→AV} {t:TypeId} {x y:Operand} {b tot i off:Nat} {blk:jy} {e e' v:AV} (hx:ρ x=.ptr b tot i off) (hy:ρ y=v) (hb:H[b]?=some blk) (ht:blk.es.length=tot) (he:blk.es[i]?=some e)
 (kA:lW P t=some v.cells.length) (hc:ru v=true) (jP:BK e off v.cells=some e') (hmt:blk.ty<pj:=by first|decide|exact apI rfl):PL P H ρ (.store t x y) .bad (H.set b { blk with es:=blk.es.set i e' }):=by
 refine PL.ql fun w0 O ι a w hs hv o ho=>?_;have h1:=hv x;rw [hx] at h1;have h2:=hv y;rw [hy] at h2;obtain ⟨z,hi,hX,mQ⟩:=h1.HA hs hb ht he;have sS:∃c ty fz,w.heap[z]?=some (.cells c ty fz):=by
  obtain ⟨y,kH,f1,f2,f3,f4,f5⟩:=h1.OP (by simp [fresh,hb,ht]);rw [hi] at f1;injection f1 with f1;subst f1;exact f5
 obtain ⟨h3,h4,h5⟩:=h2.cells hc;obtain ⟨h6,h7,h8⟩:=Uk jP;obtain ⟨RP,c,rV,lK,wJ,Aw⟩:=hs.heap b blk z hb hi;have rV:=Jo rV sS hmt;have nq:i<blk.es.length:=(dt he).1;have Xy:e.cells.length=blk.sz:=wJ e (dx he);have Wb:i*blk.sz+off+v.cells.length≤c.size:=by
  have:(i+1)*blk.sz≤blk.es.length*blk.sz:=eW _ nq;rw [fK] at this;omega
 have Pq:∀j,j<c.size→w.cell? ⟨z,j,none⟩=c[j]?:=fun j hj=>by simp [World.cell?,rV]
 have ub:(storeVar t ⟨z,i*blk.sz+off,none⟩ (a.eval y)).run P w=.ok () (w.setCells z (i*blk.sz+off) (a.eval y).cells.toList):=by
  have hl:(a.eval y).cells.toList.length=v.cells.length:=by simpa using h3
  have:=run_storeCells_cells (P:=P) z (i*blk.sz+off) (a.eval y).cells.toList 0 w
   (fun j hj=>by rw [Pq _ ae,dM (show i*blk.sz+off+0+j<c.size by omega)];rfl)
   (fun j hj=>by simp [World.frozen?,rV]) (fun v hv=>h5 v (by simpa using hv))
  unfold lW at kA;cases hq:P.info? t with
  | none=>simp [hq] at kA
  | some ii =>
    simp [hq] at kA;simp only [fq] at this;have lO:¬((a.eval y).cells.size≠ii.size):=ae;simp only [storeVar,sizeOf,typeInfo,dR,run_program,dN,hq,dV,Sem.run_ite,iZ lO,this]
 obtain ⟨c',lC,CM,mC⟩:=Jm z (a.eval y).cells.toList (i*blk.sz+off) w c blk.ty (0,0) rV (by simp [h3];omega);obtain ⟨h9,uF⟩:=hs.set (blk2:={ blk with es:=blk.es.set i e' }) hb hi rfl rfl ah (Jl z z (dD _) _ _ _) (fun k hk=>Jk z _ _ _ k hk) (Ci rV hmt) (Ci lC hmt) CM (fun c1 AM RQ h=>ba)
  (fun e1 wq=>by
    rcases eu wq with h|h
    ·exact wJ e1 h
    ·rw [h,h7];exact Xy)
  (fun i1 j1 e1 d1 oB tQ=>by
    simp only at oB ⊢;rw [eN] at oB;have aDi:j1<blk.sz:=by
     by_cases e:i=i1
     ·subst e;rw [ja rfl,ja nq] at oB;injection oB with oB;subst oB;rw [← Xy,← h7];exact (dt tQ).1
     ·rw [iZ e] at oB;rw [← wJ e1 (dx oB)];exact (dt tQ).1
    by_cases e:i=i1
    ·subst e;rw [ja rfl,ja nq] at oB;injection oB with oB;subst oB;have vM:=h8 j1 d1 tQ;rw [mC];simp only [fv,dY];by_cases yL:off≤j1∧j1<off+v.cells.length
     ·rw [ja yL] at vM;rw [ja ae];have kn:j1-off<(a.eval y).cells.size:=ae;refine ⟨_,by rw [show i*blk.sz+j1-(i*blk.sz+off)=j1-off by omega];exact dM kn,h4 _ _ _ vM (dM kn)⟩
     ·rw [iZ yL] at vM;rw [iZ ae];exact Aw i j1 e d1 he vM
    ·rw [iZ e] at oB;rw [mC,iZ]
     ·exact Aw i1 j1 e1 d1 oB tQ
     ·simp only [fv];intro aDj;rcases eE i i1 with h|h
      ·have:(i+1)*blk.sz≤i1*blk.sz:=eW _ h;rw [fK] at this;omega
      ·have:(i1+1)*blk.sz≤i*blk.sz:=eW _ ae;rw [fK] at this;omega)
 refine ⟨undef,_,ι,.skip,?_,.inr ⟨rfl,rfl⟩,h9,uF,.bad _⟩;simp only [execOp,ho,hX,Instr.storeAt,Instr.sureAddr,dR,dV,dN,ub]
end
section
variable {P:Program} {w w':World} {w0:nd} {O:Nat→Prop} {ι:Nat→Option Nat} {H:List jy} {u:Value}
def Ka (w:World) (O:Nat→Prop) (ι:Nat→Option Nat) (H:List jy) (cs:List AV) (arr:Array Value):Prop:=
 arr.size=cs.length∧∀(j:Nat) (c:AV) (u:Value),cs[j]?=some c→arr[j]?=some u→VR w O ι H c u
theorem UT (off:Nat):∀(l:List Value) (k:Nat) (cs:Array Value),off+k+l.length≤cs.size →
 ((l.zipIdx k).foldl (fun cs (c,j)=>cs.setIfInBounds (off+j) c) cs).size=cs.size ∧
 ∀j,((l.zipIdx k).foldl (fun cs (c,j)=>cs.setIfInBounds (off+j) c) cs)[j]?=if off+k≤j∧j<off+k+l.length then l[j-(off+k)]? else cs[j]?
 | [],k,cs,_=>⟨rfl,fun j=>by rw [iZ ah];rfl⟩
 | v::l,k,cs,h=>by
   simp only [ff] at h;obtain ⟨h1,h2⟩:=UT off l (k+1) (cs.setIfInBounds (off+k) v) aj;simp only [iz,fD];refine ⟨by rw [h1];simp,fun j=>?_⟩;rw [h2 j];by_cases e:j=off+k
   ·subst e;rw [iZ ae,ja ah,dZ,ja rfl,ja ae];simp
   ·by_cases h3:off+(k+1)≤j∧j<off+(k+1)+l.length
    ·rw [ja h3,ja aj,show j-(off+k)=(j-(off+(k+1)))+1 by omega];rfl
    ·rw [iZ h3,iZ aj,dZ,iZ ae]
theorem Ul (off:Nat) (vs cs:Array Value) (h:off+vs.size≤cs.size) :
 (vs.zipIdx.foldl (fun cs (c,j)=>cs.setIfInBounds (off+j) c) cs).size=cs.size ∧
 ∀j,(vs.zipIdx.foldl (fun cs (c,j)=>cs.setIfInBounds (off+j) c) cs)[j]?=if off≤j∧j<off+vs.size then vs[j-off]? else cs[j]?:=by
 have:=UT off vs.toList 0 cs cb;rw [← Array.foldl_toList,Array.toList_zipIdx];simpa using this
def D3 (pl:List (Nat×Nat)) (cs:List AV):List (Nat×AV)→Option (List AV)
 | []=>some cs
 | (i,v)::r=>match pl[i]? with
   | some (off,size)=>if v.cells.length=size∧ru v=true then match BK (.agg cs) off v.cells with
     | some (.agg vq)=>D3 pl vq r
     | _=>none else none
   | none=>none
theorem OQ {pl:List (Nat×Nat)} {place:Nat→Option (Nat×Nat)} (nG:∀i x,pl[i]?=some x→place i=some x):∀(ps:List (Nat×AV)) (qs:List (Nat×Value)) (cs vq:List AV) (arr:Array Value),
 ps.length=qs.length→(∀(j:Nat) p q,ps[j]?=some p→qs[j]?=some q→p.1=q.1∧VR w O ι H p.2 q.2)→Ka w O ι H cs arr→D3 pl cs ps=some vq →
 ∃wc,Instr.fill place arr qs=some wc∧Ka w O ι H vq wc
 | [],[],cs,vq,arr,_,_,hr,h=>by
   simp only [D3] at h;injection h with h;subst h;exact ⟨arr,rfl,hr⟩
 | (i,v)::ps,(i',u)::qs,cs,vq,arr,hl,hp,hr,h=>by
   obtain ⟨h1,h2⟩:=hp 0 _ _ rfl rfl;simp only at h1 h2;subst h1;simp only [D3] at h;split at h
   ·rename_i off size AR;split at h
    ·rename_i hv;obtain ⟨kV,RR⟩:=hv;split at h
     ·rename_i No jP;obtain ⟨h3,h4,_⟩:=h2.cells RR;obtain ⟨h5,h6,h7⟩:=Uk jP
      replace h5:off+v.cells.length≤cs.length:=h5
      replace h6:No.length=cs.length:=h6
      replace h7:∀(j:Nat) (d:AV),No[j]?=some d→if off≤j∧j<off+v.cells.length then v.cells[j-off]?=some d else cs[j]?=some d:=h7
      have Qw:off+u.cells.size≤arr.size:=by rw [hr.1];omega
      obtain ⟨h8,h9⟩:=Ul off u.cells arr Qw;have yM:Ka w O ι H No (u.cells.zipIdx.foldl (fun cs (c,j)=>cs.setIfInBounds (off+j) c) arr):=by
       refine ⟨by rw [h8,hr.1,h6],fun j c x hc hx=>?_⟩;have uF:=h7 j c hc;rw [h9 j] at hx;by_cases vM:off≤j∧j<off+v.cells.length
       ·rw [ja vM] at uF;rw [ja ae] at hx;exact h4 _ _ _ uF hx
       ·rw [iZ vM] at uF;rw [iZ ae] at hx;exact hr.2 _ _ _ uF hx
      obtain ⟨wc,yL,h13⟩:=OQ nG ps qs No vq _ (by simpa using hl) (fun j p q xB C4=>hp (j+1) p q (by simpa using xB) (by simpa using C4)) yM h;refine ⟨wc,?_,h13⟩;rw [Instr.fill,nG i _ AR];simp only;rw [iZ (by simp only [Bool.or_eq_true,jn];omega)];exact yL
     ·cases h
    ·cases h
   ·cases h
def placesOf (P:Program) (t:TypeId):Option (List (Nat×Nat)):=
 match P.underlying t with
 | some (.struct fs)=>fs.toList.mapM fun f=>(lW P f.type).map fun n=>(f.offset,n)
 | _=>none
theorem T6:∀(fs:List Field) (pl:List (Nat×Nat)),(fs.mapM fun f=>(lW P f.type).map fun n=>(f.offset,n))=some pl→(fs.mapM (m:=Sem) fun f=>do pure (f.offset,← sizeOf f.type)).run P w=.ok pl w
 | [],pl,h=>by simp at h;subst h;rfl
 | f::fs,pl,h=>by
   rw [List.mapM_cons] at h ⊢;cases hz:lW P f.type with
   | none=>simp [hz] at h
   | some n =>
     cases hm:fs.mapM fun f=>(lW P f.type).map fun n=>(f.offset,n) with
     | none=>simp [hz,hm] at h
     | some pl' =>
       simp [hz,hm] at h;subst h;simp only [dR,Am hz,dN,dV,T6 fs pl' hm]
theorem DN {ρ:Operand→AV} {t:TypeId} {parts:Array (Nat×Operand)} {pl:List (Nat×Nat)} {zs cs:List AV} (hp:placesOf P t=some pl) (hz:qd P t=some (.agg zs))
 (h:D3 pl zs (parts.toList.map fun (i,x)=>(i,ρ x))=some cs):QL P H ρ (.build t parts) (.agg cs):=by
 refine QL.ql fun w0 O ι a w hs hv o ho=>?_;obtain ⟨zv,hr,xC⟩:=Fz (w:=w) hz;unfold placesOf at hp;split at hp
 ·rename_i fs hu;have h1:=T6 (P:=P) (w:=w) fs.toList pl hp;have Qx:Ka w (OO O ι H) ι H zs zv.cells:=by
   have nH:=VR.cv w (OO O ι H) ι H zv;rw [← xC] at nH;obtain ⟨arr,rfl,h2,h3⟩:=nH.Co;exact ⟨h2,h3⟩
  obtain ⟨wc,h2,h3⟩:=OQ (place:=(pl.toArray[·]?)) (fun i x hx=>by simpa using hx) (parts.toList.map fun (i,x)=>(i,ρ x)) (parts.toList.map fun (i,x)=>(i,a.eval x)) zs cs zv.cells ah
   (fun j p q hp hq=>by
     simp only [dE,eL] at hp hq;obtain ⟨⟨i,x⟩,hx,rfl⟩:=hp;obtain ⟨y,hy,rfl⟩:=hq;rw [hx] at hy;injection hy with hy;subst hy;refine ⟨rfl,hv x ?_⟩;have:(i,x)∈parts:=by rw [dY] at hx;exact fw hx
     simp only [Op.operands,iy,eI];exact ⟨(i,x),by simpa using this,rfl⟩) Qx h
  refine ⟨.agg wc,?_,.agg _ _ h3.1 h3.2⟩;have h4:(Array.mapM (m:=Sem) (fun f=>do pure (f.offset,← sizeOf f.type)) fs).run P w=.ok pl.toArray w:=by
   rw [Array.mapM_eq_mapM_toList];simp only [Sem.run_map,h1,dN]
  have h5:(parts.map fun (i,x)=>(i,a.eval x)).toList=parts.toList.map fun (i,x)=>(i,a.eval x):=ah;simp only [execOp,ho,Instr.build,hr,dR,dN,jg hu,h4,h5,h2,dV]
 ·cases hp
attribute [go_sem] D3 BK
theorem UU (size:Nat):∀(us:List Value) (k:Nat) (arr:Array Value),(∀u∈us,u.cells.size=size)→(k+us.length)*size≤arr.size →
 ∃wc,Instr.fill (fun i=>some (i*size,size)) arr ((us.zipIdx k).map fun (u,i)=>(i,u))=some wc∧wc.size=arr.size ∧
  (∀j,j<k*size→wc[j]?=arr[j]?)∧∀(i j:Nat) (u:Value),us[i]?=some u→j<size→wc[(k+i)*size+j]?=u.cells[j]?
 | [],k,arr,_,_=>⟨arr,rfl,rfl,fun _ _=>rfl,fun i j u h=>bQ⟩
 | v::us,k,arr,hs,hl=>by
   have kV:v.cells.size=size:=hs v ah;simp only [ff] at hl;have Qw:k*size+v.cells.size≤arr.size:=by
    have:(k+1)*size≤(k+(us.length+1))*size:=eW _ ae;rw [fK,Nat.one_mul] at this;omega
   obtain ⟨h1,h2⟩:=Ul (k*size) v.cells arr Qw;obtain ⟨wc,h3,h4,h5,h6⟩:=UU size us (k+1) (v.cells.zipIdx.foldl (fun cs (c,j)=>cs.setIfInBounds (k*size+j) c) arr) (fun u hu=>hs u (by simp [hu])) (by rw [h1,show k+1+us.length=k+(us.length+1) by omega];exact hl);refine ⟨wc,?_,h4.trans h1,fun j hj=>?_,fun i j u hi hj=>?_⟩
   ·simp only [iz,ef,Instr.fill];rw [iZ (by simp only [Bool.or_eq_true,jn];omega)];exact h3
   ·have:k*size≤(k+1)*size:=eW _ ae;rw [h5 j ae,h2 j,iZ ae]
   ·cases i with
    | zero =>
      simp at hi;subst hi;have kn:k*size+j<(k+1)*size:=by rw [fK,Nat.one_mul];omega
      rw [fq,h5 _ kn,h2,ja ae]
      congr 1;omega
    | succ i =>
      have:=h6 i j u (by simpa using hi) hj;rw [show k+(i+1)=k+1+i by omega];exact this
end
section
variable {P:Program} {w w':World} {w0:nd} {O:Nat→Prop} {ι:Nat→Option Nat} {H:List jy} {u:Value}
def zy (size:Nat) (len:Nat) (ps:List (Nat×AV)):Bool:=
 (ps.map (·.1)==List.range len)&&ps.all fun p=>p.2.cells.length==size&&ru p.2
theorem TO {ρ:Operand→AV} {a:Act} {t el:TypeId} {len size:Nat} {parts:Array (Nat×Operand)} (hv:∀p∈parts,VR w O ι H (ρ p.2) (a.eval p.2)) (ht:P.underlying t=some (.slice el)) (kA:lW P el=some size)
 (hz:(qd P el).map (fun z=>z.cells.length)=some size) (hlen:len*size≤16777216)
 (hp:zy size len (parts.toList.map fun (i,x)=>(i,ρ x))=true) :
 ∃c:Array Value,(Instr.buildSlice t len (parts.map fun (i,x)=>(i,a.eval x))).run P w=.ok (.slice (some ⟨w.heap.size,0,none⟩) len len) (w.alloc (.cells c el))∧c.size=len*size∧parts.size=len ∧
  ∀(i j:Nat) (p:Nat×Operand) (d:AV),parts[i]?=some p→(ρ p.2).cells[j]?=some d→(ρ p.2).cells.length=size∧ru (ρ p.2)=true∧∃u,c[i*size+j]?=some u∧VR w O ι H d u:=by
 unfold zy at hp;simp only [er,jk,List.map_map,List.all_map] at hp;obtain ⟨h1,h2⟩:=hp;have FQ:parts.size=len:=by
  have:=jj List.length h1;simpa using this
 have asT:∀(i:Nat) p,parts[i]?=some p→p.1=i:=by
  intro i p hi;have nq:i<parts.size:=(eP.1 hi).1;have:=jj (·[i]?) h1;simp only [dE,dY,hi,eJ,eV (show i<len by omega),Function.comp] at this;injection this
 have og:∀p∈parts,(ρ p.2).cells.length=size∧ru (ρ p.2)=true:=by
  intro p hp;have:=du h2 p (by simpa using hp);simpa using this
 obtain ⟨us,uD⟩:∃us,us=parts.toList.map fun (i,x)=>a.eval x:=⟨_,rfl⟩
 have Wh:(parts.map fun (i,x)=>(i,a.eval x)).toList=us.zipIdx.map fun (u,i)=>(i,u):=by
  subst uD;apply fG;intro i;simp only [Array.toList_map,dE,List.getElem?_zipIdx,dY];cases hi:parts[i]? with
  | none=>rfl
  | some p=>obtain ⟨q,x⟩:=p;simp [← asT i _ hi]
 have asU:∀u∈us,u.cells.size=size:=by
  subst uD;intro u hu;obtain ⟨p,hp,rfl⟩:=eI.1 hu;have xB:p∈parts:=by simpa using hp
  obtain ⟨h3,h4⟩:=og p xB;rw [← h3];exact ((hv p xB).cells h4).1
 have asV:us.length=len:=by subst uD;simpa using FQ
 cases RS:qd P el with
 | none=>simp [RS] at hz
 | some z =>
 simp only [RS,eJ,fA] at hz;obtain ⟨zv,Iu,_⟩:=Fz (P:=P) (w:=w) RS;obtain ⟨zs,Np⟩:∃zs:Array Value,(len*size=0∧zs=#[])∨(len*size≠0∧zs=zv.cells):=by
  by_cases h0:len*size=0
  ·exact ⟨#[],.inl ⟨h0,rfl⟩⟩
  ·exact ⟨zv.cells,.inr ⟨h0,rfl⟩⟩
 obtain ⟨wc,h3,h4,_,h6⟩:=UU size us 0 ((Array.range (len*size)).map (zs[· % zs.size]!)) asU (by simp [asV]);refine ⟨wc,?_,by rw [h4];simp,FQ,fun i j p d hi hd=>?_⟩
 ·have J8:¬(len*size>2 ^ 24):=ae;simp only [Instr.buildSlice,jg ht,dR,dN,Am kA,Sem.run_ite,iZ J8,dV];rcases Np with ⟨h0,rfl⟩|⟨h0,rfl⟩
  ·rw [ja h0];simp only [Wh,h3,newRow,dR,jo,gr,dV,dN]
  ·rw [iZ h0];simp only [Iu,dN,Wh,h3,newRow,dR,jo,gr,dV]
 ·have xB:p∈parts:=fw hi;obtain ⟨h7,h8⟩:=og p xB;obtain ⟨h9,uF,_⟩:=(hv p xB).cells h8;have hj:j<size:=by rw [← h7];exact (dt hd).1
  have hui:us[i]?=some (a.eval p.2):=by subst uD;rw [dE,dY,hi];rfl
  have pY:j<(a.eval p.2).cells.size:=ae;refine ⟨h7,h8,_,?_,uF j d _ hd (dM pY)⟩;have:=h6 i j _ hui hj;rw [ft] at this;rw [this];exact dM pY
theorem adC {t:TypeId} {len:Nat} {parts:Array (Nat×Operand)} {p:Nat×Operand} (h:p∈parts):p.2∈(Op.buildSlice t len parts).operands:=by
 simp only [Op.operands,iy,eI];exact ⟨p,cb,rfl⟩
theorem OB {ρ:Operand→AV} {t el:TypeId} {len size:Nat} {parts:Array (Nat×Operand)} {es:List AV} (tN:0<size) (ht:P.underlying t=some (.slice el)) (kA:lW P el=some size) (hz:(qd P el).map (fun z=>z.cells.length)=some size) (hlen:len*size≤16777216)
 (hp:zy size len (parts.toList.map fun (i,x)=>(i,ρ x))=true) (rC:(parts.toList.map fun (i,x)=>ρ x)=es) (hle:es.length=len) (hmt:el<pj:=by decide) :
 PL P H ρ (.buildSlice t len parts) (.own H.length len 0 len) (H++[⟨el,size,es⟩]):=by
 refine PL.ql fun w0 O ι a w hs hv o ho=>?_;obtain ⟨c,hr,mh,qA,hc⟩:=TO (P:=P) (ρ:=ρ) (a:=a) (w:=w) (fun p _=>hv p.2) ht kA hz hlen hp;have ra:∀(i:Nat) e,es[i]?=some e→∃p,parts[i]?=some p∧e=ρ p.2:=by
  intro i e hi;subst rC;rw [dE,dY] at hi;cases hq:parts[i]? with
  | none=>simp [hq] at hi
  | some p=>simp [hq] at hi;exact ⟨p,rfl,hi.symm⟩
 have Qy:∀e∈es,e.cells.length=size:=by
  intro e he;obtain ⟨i,hi,rfl⟩:=eF.1 he;obtain ⟨p,xD,yN⟩:=ra i _ (dy hi);unfold zy at hp;simp only [er,List.all_map] at hp;have:=du hp.2 p (by have:=fw xD;simpa using this);rw [yN];simp at this;exact this.1
 obtain ⟨h4,h5⟩:=hs.new ⟨el,size,es⟩ c hmt w (Below.refl _ _) rfl (by simp [mh,hle]) Qy (fun i j e d hi hd=>by
  obtain ⟨p,xD,rfl⟩:=ra i e hi;exact (hc i j p d xD hd).2.2)
 refine ⟨.slice (some ⟨w.heap.size,0,none⟩) len len,_,_,.value _,?_,.inl rfl,h4,h5,?_⟩
 ·simp only [execOp,ho,hr,dR,dN,dV]
 ·refine .own _ _ _ _ ⟨el,size,es⟩ w.heap.size _ _ _ ah hle (vw _ _ _) rfl ae (dD _) fun _=>⟨by rw [gj],?_,c,el,(0,0),jr w _,by rw [ft,mh]⟩
  have:=Nat.le_mul_of_pos_right len tN;simp only [maxLen];omega
theorem Al {ρ:Operand→AV} {t el:TypeId} {len size:Nat} {parts:Array (Nat×Operand)} {es:List AV} (tN:0<size) (ht:P.underlying t=some (.slice el)) (kA:lW P el=some size) (hz:(qd P el).map (fun z=>z.cells.length)=some size) (hlen:len*size≤16777216)
 (hp:zy size len (parts.toList.map fun (i,x)=>(i,ρ x))=true) (rC:(parts.toList.map fun (i,x)=>ρ x)=es) (hle:es.length=len) :
 QL P H ρ (.buildSlice t len parts) (.jA es):=by
 intro o ho w0 O ι a w hs hv K Q hK;rw [ho] at hv;obtain ⟨c,hr,mh,qA,hc⟩:=TO (P:=P) (ρ:=ρ) (a:=a) (w:=w) (fun p hp=>hv p.2 (.inl (adC hp))) ht kA hz hlen hp;have ra:∀(i:Nat) e,es[i]?=some e→∃p,parts[i]?=some p∧e=ρ p.2:=by
  intro i e hi;subst rC;rw [dE,dY] at hi;cases hq:parts[i]? with
  | none=>simp [hq] at hi
  | some p=>simp [hq] at hi;exact ⟨p,rfl,hi.symm⟩
 have Qy:∀e∈es,e.cells.length=size:=by
  intro e he;obtain ⟨i,hi,rfl⟩:=eF.1 he;obtain ⟨p,xD,yN⟩:=ra i _ (dy hi);unfold zy at hp;simp only [er,List.all_map] at hp;have:=du hp.2 p (by have:=fw xD;simpa using this);rw [yN];simp at this;exact this.1
 have hb:Below w.heap.size w (w.alloc (.cells c el)):=(Below.refl _ _).alloc (dD _) _;have g:=mj.quiet hs hb;have xm:¬OO O ι H w.heap.size:=by
  rintro (h|⟨b,hb,hx⟩)
  ·have:=hs.rS _ h;have:=hs.below.size;omega
  ·have:=(hs.heap b _ _ (dy hb) hx).2.lt;omega
 have ub:(execOp a.eval o).run P w=.ok (.value (.slice (some ⟨w.heap.size,0,none⟩) len len)) (w.alloc (.cells c el)):=by
  simp only [execOp,ho,hr,dR,dN,dV]
 unfold Oper.wp;rw [ub];have pq:∀(i j:Nat) (e d:AV),es[i]?=some e→e.cells[j]?=some d→∃u,(w.alloc (.cells c el)).cell? ⟨w.heap.size,0+i*size+j,none⟩=some u∧VR (w.alloc (.cells c el)) (OO O ι H) ι H d u:=by
  intro i j e d hi hd;obtain ⟨p,xD,rfl⟩:=ra i e hi;obtain ⟨_,_,u,hu,uE⟩:=hc i j p d xD hd;exact ⟨u,by rw [World.cell?_alloc_new,ft];exact hu,uE.mono g⟩
 have apM:len≤maxLen:=by
  have:=Nat.le_mul_of_pos_right len tN;simp only [maxLen];omega
 refine hK _ _ (.jA es _ len len size (fun i j=>((w.alloc (.cells c el)).cell? ⟨w.heap.size,0+i*size+j,none⟩).getD undef) hle.symm (dD _) apM Qy (fun _ _=>rfl) (fun i j e d hi hd=>?_) fun i j e d hi hd=>?_) hb
 ·obtain ⟨u,hu,_⟩:=pq i j e d hi hd;exact ⟨xm,by simp only [hu,eR]⟩
 ·obtain ⟨u,hu,uE⟩:=pq i j e d hi hd;simpa only [hu,eR] using uE
end
def tD (P:Program) (e:TypeId) (size bytes:Nat):Bool:=
 match P.info? e with
 | some i=>match i.zero with
   | some z=>i.size==size&&i.bytes==bytes&&z.cells.size==size&&Nat.blt 0 size&&Nat.blt e pj
   | none=>false
 | none=>false
theorem An {P:Program} {e:TypeId} {size bytes:Nat} (h:tD P e size bytes=true):∃i z,P.info? e=some i∧i.zero=some z∧i.size=size∧i.bytes=bytes∧z.cells.size=size∧0<size∧e<pj:=by
 unfold tD at h;split at h
 ·rename_i i hi;split at h
  ·rename_i z hz;simp only [er,jk,Nat.blt_eq] at h;exact ⟨i,z,hi,hz,h.1.1.1.1,h.1.1.1.2,h.1.1.2,h.1.2,h.2⟩
  ·cases h
 ·cases h
section
variable {P:Program} {w w':World} {w0:nd} {O:Nat→Prop} {ι:Nat→Option Nat} {H:List jy} {u:Value}
theorem OH {t ty el:TypeId} {size bytes:Nat} (ht:P.underlying t=some (.slice el)) (mQ:tD P el size bytes=true) {base:Nat} {v:Value} {n:Nat} {xs:List Value} (Qz:w.ownsRow base el size v n xs) (Qb:base≤w.heap.size)
 {es:List AV} {X:Value} (hX:VR w O ι H (.jA es) X) (hm:1≤es.length) (rC:∀e∈es,e.cells.length=size∧ru e=true) (hb:(n+es.length)*bytes≤140737488355328) (Nq:n+es.length≤maxLen) :
 ∃v' w' news,(Builtin.append_ #[t,t] ty #[v,X]).run P w=.ok v' w'∧w'.ownsRow base el size v' (n+es.length) (xs++news)∧w.grownBy w' v.ownBlock∧(v'.ownBlock=v.ownBlock∨v'.ownBlock=some w.heap.size)∧news.length=es.length*size∧v'≠.slice none 0 0 ∧
  ∀(i j:Nat) (e d:AV),es[i]?=some e→e.cells[j]?=some d→∃u,news[i*size+j]?=some u∧VR w O ι H d u:=by
 obtain ⟨i0,z,h1,h2,h3,h4,h5,h6,_⟩:=An mQ;cases hX with
 | sn=>simp at hm
 | jA es a m cap s val hn nQ so hlen ry hc hv =>
   subst hn;have h0:∃e,e∈es:=⟨es[0],ey _⟩
   obtain ⟨e0,wU⟩:=h0;have hs:s=size:=by rw [← hlen e0 wU];exact (rC e0 wU).1
   subst hs;have rB:=ry e0 wU;have pq:∀q,q<es.length*s→∃(e d:AV),es[q / s]?=some e∧e.cells[q % s]?=some d:=by
    intro q hq;have RT:q / s<es.length:=(Nat.div_lt_iff_lt_mul h6).2 hq;have AO:q % s<s:=Nat.mod_lt _ h6;refine ⟨es[q / s],_,dy RT,dy (by rw [hlen _ (ey _)];exact AO)⟩
   have Qc:∀j u,((List.range (es.length*s)).map fun q=>val (q / s) (q % s))[j]?=some u→w.cell? (a.add j)=some u:=by
    intro j u hj;rw [dE] at hj;have pP:j<es.length*s:=by
     rcases eE j (es.length*s) with h|h
     ·exact h
     ·rw [dT cb] at hj;simp at hj
    rw [eV pP] at hj;simp at hj;subst hj;obtain ⟨e,d,he,hd⟩:=pq j pP;have:=(hc _ _ _ _ he hd).2;rw [add_eq _ _ rB];rwa [Nat.add_assoc,show j / s*s+j % s=j by rw [Nat.mul_comm];exact Nat.div_add_mod j s] at this
   have Ax:∀u∈(List.range (es.length*s)).map fun q=>val (q / s) (q % s),u.oneCell'=true:=by
    intro u hu;obtain ⟨q,hq,rfl⟩:=eI.1 hu;obtain ⟨e,d,he,hd⟩:=pq q (by simpa using hq);have og:=(rC e (dx he)).2;have kb:At d=true:=by
     cases e with
     | agg cs=>exact du og d (dx hd)
     | _ =>
       cases C4:q % s with
       | zero=>rw [C4] at hd;simp only [AV.cells,gQ,fA] at hd;subst hd;simpa [ru] using og
       | succ k=>rw [C4] at hd;simp [AV.cells] at hd
    exact (VR.one kb (hv _ _ _ _ he hd)).1
   obtain ⟨v',w',hr,k1,k2,k3,k4⟩:=run_append_own_at (P:=P) w base t ty el i0 z s bytes ht h1 h2 h3 h4 h5 h6 v n xs Qz a es.length cap _ ah Qc Ax Nq hb Qb;refine ⟨v',w',_,hr,k1,k2,k4,ah,fun e=>by have:=(k3.1 e).2;omega,fun i j e d he hd=>?_⟩;have hi:i<es.length:=(dt he).1;have hj:j<s:=by rw [← hlen e (dx he)];exact (dt hd).1
   refine ⟨val i j,?_,hv _ _ _ _ he hd⟩;have hq:i*s+j<es.length*s:=Jp hi hj;rw [dE,eV hq];obtain ⟨e1,e2⟩:=Wg (i:=i) hj;simp [e1,e2]
theorem Pr (hs:lA w0 O ι H w) {b tot:Nat} {blk:jy} {v:Value} (hb:H[b]?=some blk) (ht:blk.es.length=tot) (hv:VR w (OO O ι H) ι H (.own b tot 0 tot) v) (kA:0<blk.sz) (hmt:blk.ty<pj) :
 ∃xs,w.ownsRow 0 blk.ty blk.sz v tot xs∧v.ownBlock=ι b ∧
  (∀(i j:Nat) (e d:AV),blk.es[i]?=some e→e.cells[j]?=some d→∃u,xs[i*blk.sz+j]?=some u∧VR w (OO O ι H) ι H d u)∧(v=.slice none 0 0∨∃x cap,v=.slice (some ⟨x,0,none⟩) tot cap):=by
 cases hv with
 | uq b tot off len kH a n c ka kn=>rw [hb] at ka;cases ka;omega
 | tI b kH ka he hi =>
   rw [hb] at ka;cases ka;exact ⟨[],⟨ah,.inl ⟨rfl,rfl⟩⟩,by rw [hi];rfl,fun i j e d h=>by rw [he] at h;simp at h,.inl rfl⟩
 | own b tot off len kH x n cap a ka nk hi hn hl nQ ha =>
   rw [hb] at ka;cases ka;obtain ⟨rfl,wS,c,ty,fz,hc,rT⟩:=ha (.inr rfl);obtain ⟨ED,c0,l5,lK,wJ,Aw⟩:=hs.heap b blk x hb hi;have l5:=Jo l5 ⟨c,ty,fz,hc⟩ hmt;rw [hc] at l5;injection l5 with l5;injection l5 with h1 h2 h3;subst h1;subst h2;subst h3;rw [ft] at rT;rw [gj];subst hn;refine ⟨c.toList.take (n*blk.sz),⟨?_,.inr ⟨x,cap,c,rfl,dL _,hc,nQ,wS,rT.symm,rfl⟩⟩,by rw [hi];rfl,fun i j e d he hd=>?_,.inr ⟨x,cap,rfl⟩⟩
   ·simp only [eQ,fv];have:n*blk.sz≤cap*blk.sz:=eW _ nQ;omega
   ·obtain ⟨u,hu,uE⟩:=Aw i j e d he hd;refine ⟨u,?_,uE⟩;have oX:i<n:=by rw [← nk];exact (dt he).1
    have mC:j<blk.sz:=by rw [← wJ e (dx he)];exact (dt hd).1
    rw [fL,ja (Jp oX mC),dY];exact hu
theorem lA.grow (hs:lA w0 O ι H w) {b tot m:Nat} {blk:jy} {es:List AV} (hb:H[b]?=some blk) (ht:blk.es.length=tot) (hmt:blk.ty<pj) (hm:1≤es.length) (rC:∀e∈es,e.cells.length=blk.sz) {v v':Value} (Za:v.ownBlock=ι b)
 {xs news:List Value} (wV:xs.length=tot*blk.sz) (hxs:∀(i j:Nat) (e d:AV),blk.es[i]?=some e→e.cells[j]?=some d→∃u,xs[i*blk.sz+j]?=some u∧VR w (OO O ι H) ι H d u)
 (Qc:∀(i j:Nat) (e d:AV),es[i]?=some e→e.cells[j]?=some d→∃u,news[i*blk.sz+j]?=some u∧VR w (OO O ι H) ι H d u)
 (hold:∀e∈blk.es,e.cells.length=blk.sz)
 (Qz:w'.ownsRow 0 blk.ty blk.sz v' (tot+es.length) (xs++news)) (hg:w.grownBy w' v.ownBlock) (pq:v'.ownBlock=v.ownBlock∨v'.ownBlock=some w.heap.size) :
 ∃jU,lA w0 O jU (H.set b { blk with es:=blk.es++es }) w'∧mj w (OO O ι H) ι H w' (OO O jU (H.set b { blk with es:=blk.es++es })) jU (H.set b { blk with es:=blk.es++es }) ∧
  VR w' (OO O jU (H.set b { blk with es:=blk.es++es })) jU (H.set b { blk with es:=blk.es++es }) (.own b (tot+es.length) 0 (tot+es.length)) v':=by
 have lR:b<H.length:=(dt hb).1;obtain ⟨hlen,apN⟩:=Qz;rcases apN with ⟨_,h0⟩|⟨g,cap,cur,rfl,EB,Zb,WT,apO,Xz,apP⟩
 ·omega
 have hvg:(Value.slice (some ⟨g,0,none⟩) (tot+es.length) cap).ownBlock=some g:=rfl;rw [hvg] at pq;have EF:g=w.heap.size∨ι b=some g:=by
  rcases pq with h|h
  ·exact .inr (by rw [← Za];exact h.symm)
  ·injection h with h;exact .inl h
 have Av:∀b' x,b'<H.length→ι b'=some x→x<w.heap.size:=fun b' x ka hx=>(hs.heap b' _ x (dy ka) hx).2.lt;obtain ⟨H2,sG⟩:∃H2,H2=H.set b { blk with es:=blk.es++es }:=⟨_,rfl⟩
 rw [← sG];have qU:∀b' bk,H2[b']?=some bk→(b'=b∧bk={ blk with es:=blk.es++es })∨(b'≠b∧H[b']?=some bk):=by
  intro b' bk h;rw [sG,eN] at h;by_cases e:b=b'
  ·subst e;rw [ja rfl,ja lR] at h;injection h with h;exact .inl ⟨rfl,h.symm⟩
  ·rw [iZ e] at h;exact .inr ⟨fun e'=>e e'.symm,h⟩
 have FR:H2.length=H.length:=by rw [sG];simp
 have MB:∀k,k<w.heap.size→ι b≠some k→w'.heap[k]?=w.heap[k]?:=fun k hk lO=>hg.block k hk (by rw [Za];exact fun e=>lO e.symm);have wT:∀y,OO O (rU ι b g) H2 y→OO O ι H y∨y=w.heap.size:=by
  rintro y (h|⟨b',ka,hx⟩)
  ·exact .inl (.inl h)
  ·rw [FR] at ka;by_cases e:b'=b
   ·subst e;rw [vw] at hx;injection hx with hx;subst hx;rcases EF with h|h
    ·exact .inr h
    ·exact .inl (.inr ⟨b',ka,h⟩)
   ·rw [xd e] at hx;exact .inl (.inr ⟨b',ka,hx⟩)
 have gs:mj w (OO O ι H) ι H w' (OO O (rU ι b g) H2) (rU ι b g) H2:=by
  refine ⟨fun p u h rH=>?_,fun p u h rH h'=>?_,fun b' bk h=>?_,fun b' y bk C3 c1 ty fz h1 h2 h3 oX h=>?_⟩
  ·rw [MB p (vY rH) fun e=>h (.inr ⟨b,lR,e⟩)];exact rH
  ·rcases wT _ h' with h'|h'
   ·exact h h'
   ·have:=vY rH;omega
  ·by_cases e:b'=b
   ·subst e;rw [hb] at h;injection h with h;subst h;exact ⟨{ blk with es:=blk.es++es },by rw [sG];simp [lR],ah,fun he=>by simp at he;subst he;simp at hm⟩
   ·exact ⟨bk,by rw [sG,dS (fun e'=>e e'.symm)];exact h,dD _,fun _=>⟨rfl,xd e⟩⟩
  ·rcases qU b' C3 h2 with ⟨rfl,rfl⟩|⟨lO,BI⟩
   ·rw [hb] at h1;injection h1 with h1;subst h1;simp at h3;subst h3;simp at hm
   ·have kn:=Av b' y (dt BI).1 oX;exact ⟨c1,ty,fz,by rw [MB y kn fun e=>lO (hs.inj b' b y (dt BI).1 lR oX e)];exact h,rfl⟩
 refine ⟨rU ι b g,⟨fun b' bk y h hy=>?_,fun b' bk h hy=>?_,fun b1 b2 y h1 h2 EG C5=>?_,?_,fun y hy=>eZ (hs.rS y hy) hg.size,fun y b1 hO h1 hy=>?_,hs.pn.trans gs.grow⟩,gs,?_⟩
 ·rcases qU b' bk h with ⟨rfl,rfl⟩|⟨lO,h'⟩
  ·rw [vw] at hy;injection hy with hy;subst hy;refine ⟨EF.elim (fun h=>.inl (by rw [h];exact hs.below.size)) fun h=>(hs.heap _ blk g hb h).1,cur,Ci Zb hmt,?_,fun e he=>?_,fun i j e d he hd=>?_⟩
   ·simp only [dK];rw [Xz,ht];exact eW _ WT
   ·rcases eg.1 he with h|h
    ·exact hold e h
    ·exact rC e h
   ·simp only at he ⊢;have hj:j<blk.sz:=by
     rcases eg.1 (dx he) with h|h
     ·rw [← hold e h];exact (dt hd).1
     ·rw [← rC e h];exact (dt hd).1
    have nq:i<tot+es.length:=by have:=(dt he).1;simp at this;omega
    have hc:cur[i*blk.sz+j]?=(xs++news)[i*blk.sz+j]?:=by
     rw [← apP,fL,ja (Jp nq hj),dY]
    rw [hc,fN];by_cases hi:i<tot
    ·rw [dA ae] at he;obtain ⟨u,hu,uE⟩:=hxs i j e d he hd;exact ⟨u,by rw [ja (by rw [wV];exact Jp hi hj)];exact hu,uE.mono gs⟩
    ·rw [dJ ae,ht] at he;obtain ⟨u,hu,uE⟩:=Qc (i-tot) j e d he hd;have RK:tot*blk.sz≤i*blk.sz:=eW _ ae;refine ⟨u,?_,uE.mono gs⟩;rw [iZ (by rw [wV];omega),wV,show i*blk.sz+j-tot*blk.sz=(i-tot)*blk.sz+j by rw [Nat.sub_mul];omega];exact hu
  ·rw [xd lO] at hy;obtain ⟨h3,h4⟩:=hs.heap b' bk y h' hy;exact ⟨h3,h4.mono gs (MB y h4.lt fun e=>lO (hs.inj b' b y (dt h').1 lR hy e))⟩
 ·rcases qU b' bk h with ⟨rfl,rfl⟩|⟨lO,h'⟩
  ·rw [vw] at hy;cases hy
  ·rw [xd lO] at hy;exact hs.sq b' bk h' hy
 ·rw [FR] at h1 h2;by_cases e1:b1=b
  ·by_cases e2:b2=b
   ·rw [e1,e2]
   ·subst e1;rw [vw] at EG;injection EG with EG;subst EG;rw [xd e2] at C5;rcases EF with h|h
    ·have:=Av b2 _ h2 C5;omega
    ·exact hs.inj b1 b2 g h1 h2 h C5
  ·rw [xd e1] at EG;by_cases e2:b2=b
   ·subst e2;rw [vw] at C5;injection C5 with C5;subst C5;rcases EF with h|h
    ·have:=Av b1 _ h1 EG;omega
    ·exact hs.inj b1 b2 g h1 h2 EG h
   ·rw [xd e2] at C5;exact hs.inj b1 b2 y h1 h2 EG C5
 ·refine hs.below.change hg.os hg.tape hg.output hg.size fun k hk lO=>?_;by_cases e:ι b=some k
  ·exact (hs.heap b blk k hb e).1
  ·exact absurd (MB k hk e) lO
 ·rw [FR] at h1;by_cases e:b1=b
  ·subst e;rw [vw] at hy;injection hy with hy;subst hy;rcases EF with h|h
   ·have:=hs.rS _ hO;omega
   ·exact hs.qp _ _ hO h1 h
  ·rw [xd e] at hy;exact hs.qp y b1 hO h1 hy
 ·refine .own b _ 0 _ { blk with es:=blk.es++es } g _ cap _ (by rw [sG];simp [lR]) (by simp [ht]) (vw _ _ _) rfl ae WT fun _=>⟨by rw [gj],apO,cur,blk.ty,(0,0),Zb,by rw [ft];exact Xz.symm⟩
theorem Hq {ρ:Operand→AV} {a:Act} {o:Oper} {s x:Operand} {t:TypeId} {v':Value} (ho:o.op=.call { callee:=.builtin .append,args:=#[s,x],argTypes:=#[t,t] })
 (hr:(Builtin.append_ #[t,t] o.type #[a.eval s,a.eval x]).run P w=.ok v' w'):(execOp a.eval o).run P w=.ok (.value v') w':=by
 simp only [execOp,ho,resolve,invoke,builtin,dR,dV,dN,gz,ef,ez,hr]
theorem tX {ρ:Operand→AV} {s x:Operand} {t el:TypeId} {b tot size bytes:Nat} {blk:jy} {es:List AV} (xE:ρ s=.own b tot 0 tot) (hx:ρ x=.jA es) (hb:H[b]?=some blk) (zE:blk.es.length=tot)
 (ht:P.underlying t=some (.slice el)) (mQ:tD P el size bytes=true) (RU:blk.ty=el) (yO:blk.sz=size) (hm:1≤es.length) (rC:∀e∈es,e.cells.length=size∧ru e=true) (AQ:(tot+es.length)*bytes≤140737488355328) (Nq:tot+es.length≤140737488355328) :
 PL P H ρ (.call { callee:=.builtin .append,args:=#[s,x],argTypes:=#[t,t] }) (.own b (tot+es.length) 0 (tot+es.length)) (H.set b { blk with es:=blk.es++es }):=by
 refine PL.ql fun w0 O ι a w hs hv o ho=>?_;subst RU;subst yO;have h1:=hv s;rw [xE] at h1;have h2:=hv x;rw [hx] at h2;obtain ⟨tN,hmt⟩:0<blk.sz∧blk.ty<pj:=by obtain ⟨_,_,_,_,_,_,_,h⟩:=An mQ;exact h
 obtain ⟨xs,k1,k2,k3,_⟩:=Pr hs hb zE h1 tN hmt;obtain ⟨v',w',news,r1,r2,r3,r4,r5,r6,r7⟩:=OH (P:=P) (ty:=o.type) ht mQ k1 (dL _) h2 hm rC AQ (by simp only [maxLen];omega);have hold:∀e∈blk.es,e.cells.length=blk.sz:=by
  intro e he;cases hi:ι b with
  | none=>rw [hs.sq b blk hb hi] at he;simp at he
  | some y=>obtain ⟨_,_,_,_,h,_⟩:=hs.heap b blk y hb hi;exact h e he
 obtain ⟨jU,g1,g2,g3⟩:=hs.grow (m:=0) hb zE hmt hm (fun e he=>(rC e he).1) k2 k1.1 k3 r7 hold r2 r3 r4;exact ⟨v',w',jU,_,Hq (ρ:=ρ) ho r1,.inl rfl,g1,g2,g3⟩
end
section
variable {P:Program} {w w':World} {w0:nd} {O:Nat→Prop} {ι:Nat→Option Nat} {H:List jy} {u:Value}
theorem mj.trans {w1 w2 w3:World} {O1 O2 O3:Nat→Prop} {ι1 jO pN:Nat→Option Nat} {H1 H2 H3:List jy} (g:mj w1 O1 ι1 H1 w2 O2 jO H2) (k:mj w2 O2 jO H2 w3 O3 pN H3):mj w1 O1 ι1 H1 w3 O3 pN H3:=by
 refine ⟨fun p u h hc=>k.obj p u (g.Ec p u h hc) (g.obj p u h hc),fun p u h hc=>k.Ec p u (g.Ec p u h hc) (g.obj p u h hc),fun b blk h=>?_,fun b x blk asW c ty fz h1 h3 hl hi h=>?_⟩
 ·obtain ⟨b2,h2,l2,e2⟩:=g.blk b blk h;obtain ⟨b3,h3,l3,e3⟩:=k.blk b b2 h2;refine ⟨b3,h3,fI l2 l3,fun e=>?_⟩;obtain ⟨a1,a2⟩:=e2 ae;obtain ⟨a3,a4⟩:=e3 ae;exact ⟨a3.trans a1,a4.trans a2⟩
 ·obtain ⟨b2,h2,l2,e2⟩:=g.blk b blk h1;obtain ⟨b3,BJ,l3,e3⟩:=k.blk b b2 h2;rw [h3] at BJ;injection BJ with BJ;subst BJ;obtain ⟨a1,a2⟩:=e2 ae;obtain ⟨c2,t2,f2,k1,k2⟩:=g.size b x blk b2 c ty fz h1 h2 ae hi h;obtain ⟨c3,t3,f3,k3,k4⟩:=k.size b x b2 asW c2 t2 f2 h2 h3 ae (a2.trans hi) k1;exact ⟨c3,t3,f3,k3,k4.trans k2⟩
theorem lA.nil (hs:lA w0 O ι H w) (ty sz:Nat):∃jO,lA w0 O jO (H++[⟨ty,sz,[]⟩]) w∧mj w (OO O ι H) ι H w (OO O jO (H++[⟨ty,sz,[]⟩])) jO (H++[⟨ty,sz,[]⟩])∧jO H.length=none:=by
 let jO:Nat→Option Nat:=fun b=>if b=H.length then none else ι b
 have kn:∀b blk,H[b]?=some blk→(H++[⟨ty,sz,[]⟩])[b]?=some blk∧jO b=ι b:=fun b blk hb=>by
  have:b<H.length:=(dt hb).1;exact ⟨by rw [dA this];exact hb,iZ ae⟩
 have hinv:∀b x,b<(H++[(⟨ty,sz,[]⟩:jy)]).length→jO b=some x→b<H.length∧ι b=some x:=fun b x hb hx=>by
  simp only [dK,dO] at hb;by_cases e:b=H.length
  ·simp [jO,e] at hx
  ·exact ⟨ae,by simpa [jO,e] using hx⟩
 have wT:∀x,OO O jO (H++[⟨ty,sz,[]⟩]) x→OO O ι H x:=by
  rintro x (h|⟨b,hb,hx⟩)
  ·exact .inl h
  ·obtain ⟨h1,h2⟩:=hinv b x hb hx;exact .inr ⟨b,h1,h2⟩
 have g:mj w (OO O ι H) ι H w (OO O jO (H++[⟨ty,sz,[]⟩])) jO (H++[⟨ty,sz,[]⟩]):=
  ⟨fun _ _ _ h=>h,fun _ _ h _ h'=>h (wT _ h'),fun b blk hb=>⟨blk,(kn b blk hb).1,dD _,fun _=>⟨rfl,(kn b blk hb).2⟩⟩,
   fun b x blk kH c ty fz _ _ _ _ h=>⟨c,ty,fz,h,rfl⟩⟩
 have P9:∀b blk x,(H++[(⟨ty,sz,[]⟩:jy)])[b]?=some blk→jO b=some x→H[b]?=some blk∧ι b=some x:=fun b blk x hb hx=>by
  obtain ⟨h1,h2⟩:=hinv b x (dt hb).1 hx;rw [dA h1] at hb;exact ⟨hb,h2⟩
 refine ⟨jO,⟨fun b blk x hb hx=>?_,fun b blk hb hx=>?_,fun b b' x hb ka hx mH=>?_,hs.below,hs.rS,fun x b hO hb hx=>?_,hs.pn.trans g.grow⟩,g,ja rfl⟩
 ·obtain ⟨h1,h2⟩:=P9 b blk x hb hx;obtain ⟨h3,h4⟩:=hs.heap b blk x h1 h2;exact ⟨h3,h4.mono g rfl⟩
 ·by_cases e:b<H.length
  ·rw [dA e] at hb;exact hs.sq b blk hb (by rw [← (kn b blk hb).2];exact hx)
  ·rw [dJ ae] at hb;cases hd:b-H.length with
   | zero=>rw [hd] at hb;simp at hb;subst hb;rfl
   | succ m=>rw [hd] at hb;simp at hb
 ·obtain ⟨h1,h2⟩:=hinv b x hb hx;obtain ⟨h3,h4⟩:=hinv b' x ka mH;exact hs.inj b b' x h1 h3 h2 h4
 ·obtain ⟨h1,h2⟩:=hinv b x hb hx;exact hs.qp x b hO h1 h2
theorem adD {t ty el:TypeId} {size bytes:Nat} (ht:P.underlying t=some (.slice el)) (mQ:tD P el size bytes=true) {X:Value} (hX:VR w O ι H (.jA []) X) :
 (Builtin.append_ #[t,t] ty #[.slice none 0 0,X]).run P w=.ok (.slice none 0 0) w:=by
 obtain ⟨i0,z,h1,h2,h3,h4,h5,h6,_⟩:=An mQ;cases hX with
 | sn=>simp [Builtin.append_,jg ht,sizeOf,typeInfo,h1,Builtin.lenOf,Builtin.firstCells]
 | jA es a n cap s val hn nQ so hlen ry hc hv =>
   simp at hn;subst hn;simp [Builtin.append_,jg ht,sizeOf,typeInfo,h1,Builtin.lenOf,Builtin.firstCells,loadCells,loadCellsFrom]
theorem OC {ρ:Operand→AV} {s x:Operand} {t el:TypeId} {size bytes:Nat} {es:List AV} (xE:ρ s=.base (.slice none 0 0)) (hx:ρ x=.jA es)
 (ht:P.underlying t=some (.slice el)) (mQ:tD P el size bytes=true) (rC:∀e∈es,e.cells.length=size∧ru e=true) (AQ:es.length*bytes≤140737488355328) (Nq:es.length≤140737488355328) :
 PL P H ρ (.call { callee:=.builtin .append,args:=#[s,x],argTypes:=#[t,t] }) (.own H.length es.length 0 es.length) (H++[⟨el,size,es⟩]):=by
 refine PL.ql fun w0 O ι a w hs hv o ho=>?_;have h1:=hv s;rw [xE] at h1;have h1:=h1.nO;have h2:=hv x;rw [hx] at h2;obtain ⟨jO,s2,g2,hn⟩:=hs.nil el size;obtain ⟨tN,hmt⟩:0<size∧el<pj:=by obtain ⟨_,_,_,_,_,_,_,h⟩:=An mQ;exact h
 have MC:(H++[(⟨el,size,[]⟩:jy)])[H.length]?=some ⟨el,size,[]⟩:=ah;rcases gZ es.length with h0|hm
 ·have:es=[]:=dQ h0;subst this;have hr:=adD (P:=P) (ty:=o.type) ht mQ h2;rw [← h1] at hr;exact ⟨.slice none 0 0,w,jO,_,by rw [Hq (ρ:=ρ) ho hr,h1],.inl rfl,s2,g2,.tI _ ⟨el,size,[]⟩ MC rfl hn⟩
 ·have C6:VR w (OO O jO (H++[⟨el,size,[]⟩])) jO (H++[⟨el,size,[]⟩]) (.own H.length 0 0 0) (.slice none 0 0):=.tI _ ⟨el,size,[]⟩ MC rfl hn;obtain ⟨xs,k1,k2,k3,_⟩:=Pr s2 MC rfl C6 tN hmt;obtain ⟨v',w',news,r1,r2,r3,r4,r5,r6,r7⟩:=OH (P:=P) (ty:=o.type) ht mQ k1 (dL _) (h2.mono g2) hm rC (by show (0+es.length)*bytes≤_;rw [ft];exact AQ) (by show 0+es.length≤_;simp only [maxLen];omega);obtain ⟨jU,g3,g4,g5⟩:=s2.grow (m:=0) MC rfl hmt hm (fun e he=>(rC e he).1) k2 k1.1 k3 r7 ah r2 r3 r4;have lF:(H++[(⟨el,size,[]⟩:jy)]).set H.length { (⟨el,size,[]⟩:jy) with es:=[]++es }=H++[⟨el,size,es⟩]:=ah;simp only at lF;rw [lF] at g3 g4 g5
  replace g5:VR w' _ jU _ (.own H.length (0+es.length) 0 (0+es.length)) v':=g5
  rw [ft] at g5;rw [← h1] at r1;exact ⟨v',w',jU,_,Hq (ρ:=ρ) ho r1,.inl rfl,g3,g2.trans g4,g5⟩
theorem JA {ρ:Operand→AV} {t el:TypeId} {l c:Operand} {k k':IntKind} {n m:Int} {z:AV} {size bytes:Nat} (hl:ρ l=.base (.int k n)) (hc:ρ c=.base (.int k' m)) (ht:P.underlying t=some (.slice el)) (mQ:tD P el size bytes=true)
 (hz:qd P el=some z) (yP:ru z=true) (h0:0≤n) (hnm:n≤m) (AQ:m*bytes≤140737488355328) (hm:m≤140737488355328) :
 PL P H ρ (.makeSlice t l c) (.own H.length n.toNat 0 n.toNat) (H++[⟨el,size,List.replicate n.toNat z⟩]):=by
 refine PL.ql fun w0 O ι a w hs hv o ho=>?_;have h1:=hv l;rw [hl] at h1;have h1:=h1.nO;have h2:=hv c;rw [hc] at h2;have h2:=h2.nO;obtain ⟨i0,Zc,k1,k2,k3,k4,k5,k6,hmt⟩:=An mQ;obtain ⟨zv,Iu,rfl⟩:=Fz (w:=w) hz;have EH:zv=Zc:=by
  have:(zeroValue el).run P w=.ok Zc w:=by simp [zeroValue,typeInfo,k1,k2]
  rw [Iu] at this;injection this
 subst EH;obtain ⟨zs,Np⟩:∃zs:Array Value,(m.toNat*size=0∧zs=#[])∨(m.toNat*size≠0∧zs=zv.cells):=by
  by_cases h0:m.toNat*size=0
  ·exact ⟨#[],.inl ⟨h0,rfl⟩⟩
  ·exact ⟨zv.cells,.inr ⟨h0,rfl⟩⟩
 obtain ⟨arr,qt⟩:∃arr:Array Value,arr=(Array.range (m.toNat*size)).map (zs[· % zs.size]!):=⟨_,rfl⟩
 have ub:(Instr.makeSlice t (.int k n) (.int k' m)).run P w=.ok (.slice (some ⟨w.heap.size,0,none⟩) n.toNat m.toNat) (w.alloc (.cells arr el)):=by
  have kq:IntKind.i64.wrap n=n:=nP ae ae;have lj:IntKind.i64.wrap m=m:=nP ae ae;have xF:(bytes:Int)*m=m*bytes:=Int.mul_comm _ _;have uV:((decide (m<0)||decide ((bytes:Int)*m>2 ^ 48))||decide (n<0)||decide (n>m))=false:=by
   simp only [Bool.or_eq_false_iff,decide_eq_false_iff_not];refine ⟨⟨⟨ae,by rw [xF];omega⟩,ae⟩,ae⟩
  unfold Instr.makeSlice;simp only [dR,jg ht,dN,asInt,LU,dV,typeInfo,run_program,k1,kq,lj,k4];simp only [uV,eG,jc,dR,dV,dN,run_askRoom,sizeOf,typeInfo,run_program,k1,k3];rcases Np with ⟨e0,rfl⟩|⟨e0,rfl⟩
  ·rw [ja e0];simp only [dV,dN,newRow,dR,jo,gr,qt]
  ·rw [iZ e0];simp only [dR,Iu,dV,dN,newRow,jo,gr,qt]
 obtain ⟨c1,c2,_⟩:=(VR.cv w (OO O ι H) ι H zv).cells yP;have rH:∀(i j:Nat) (e d:AV),(List.replicate n.toNat (cv zv))[i]?=some e→e.cells[j]?=some d→∃u,arr[i*size+j]?=some u∧VR w (OO O ι H) ι H d u:=by
  intro i j e d he hd;rw [fk] at he;split at he
  ·rename_i hi;injection he with he;subst he;have hj:j<size:=by rw [← k5,c1];exact (dt hd).1
   have hq:i*size+j<m.toNat*size:=Jp ae hj;have Zd:j<zv.cells.size:=ae;rcases Np with ⟨e0,_⟩|⟨e0,rfl⟩
   ·omega
   ·refine ⟨zv.cells[j],?_,c2 j d _ hd (dM Zd)⟩;subst qt;rw [fE,dM (by simpa using hq)];obtain ⟨_,e2⟩:=Wg (i:=i) hj;simp only [eJ,Array.getElem_range,k5,e2];rw [getElem!_pos zv.cells j Zd]
  ·cases he
 have hlen:∀e∈List.replicate n.toNat (cv zv),e.cells.length=size:=by
  intro e he;rw [(List.mem_replicate.1 he).2,← c1];exact k5
 obtain ⟨h4,h5⟩:=hs.new ⟨el,size,List.replicate n.toNat (cv zv)⟩ arr hmt w (Below.refl _ _) rfl (by simp only [eB,qt,Array.size_map,Array.size_range];exact eW _ ae) hlen rH;refine ⟨.slice (some ⟨w.heap.size,0,none⟩) n.toNat m.toNat,_,_,.value _,?_,.inl rfl,h4,h5,?_⟩
 ·simp only [execOp,ho,h1,h2,ub,dR,dN,dV]
 ·refine .own _ _ _ _ ⟨el,size,List.replicate n.toNat (cv zv)⟩ w.heap.size _ _ _ ah ah (vw _ _ _) rfl ae ae fun _=>⟨by rw [gj],by simp only [maxLen];omega,arr,el,(0,0),jr w _,by simp [qt]⟩
def rP (H:List jy) (a b:AV):Prop:=∀(w0:nd) (w:World) (O:Nat→Prop) (ι:Nat→Option Nat) (u:Value),lA w0 O ι H w→VR w (OO O ι H) ι H a u→VR w (fun _=>False) xy [] b u
theorem rP.pu {a:AV} (h:Pu a):rP H a a:=fun w0 w O ι u hs hu=>(h _ _ _ _ _ hu).uu fun _ hx=>hx.elim
theorem rP.own {b tot off len:Nat} {blk:jy} {ds:List AV} (h1:H[b]?=some blk) (ht:blk.es.length=tot) (hl:off+len≤tot) (AP:ds.length=len)
 (hd:∀(i:Nat) (e d:AV),i<len→blk.es[off+i]?=some e→ds[i]?=some d→e.cells.length=d.cells.length∧∀(j:Nat) (c c':AV),e.cells[j]?=some c→d.cells[j]?=some c'→rP H c c') :
 rP H (.own b tot off len) (.jA ds):=fun w0 w O ι u hs hu=>by
 cases hu with
 | uq b tot off len kH a n c pd h2=>rw [h1] at pd;cases pd;omega
 | tI b kH pd he hi =>
   have:ds=[]:=dQ AP;subst this;exact .sn
 | own b tot off len kH x n cap a pd nk hi hn qz nQ ha =>
   rw [h1] at pd;cases pd;obtain ⟨ED,c0,hc,mh,kA,mQ⟩:=hs.heap b blk x h1 hi;rcases gZ len with h0|tN
   ·have:ds=[]:=dQ ae;subst this;exact .jA [] a n cap 0 (fun _ _=>undef) aj ae (by have:0≤maxLen:=dL _;omega) ah ah ah ah
   ·obtain ⟨rfl,wS,c1,ty,fz,nU,rT⟩:=ha (.inl ae);have pq:∀(i j:Nat) (d c:AV),ds[i]?=some d→d.cells[j]?=some c→∃u,w.cell? ⟨x,off*blk.sz+i*blk.sz+j,none⟩=some u∧VR w (fun _=>False) xy [] c u:=by
     intro i j d c vj sE;have nq:i<len:=by rw [← AP];exact (dt vj).1
     have ra:blk.es[off+i]?=some (blk.es[off+i]' ae):=dy ae;obtain ⟨h3,h4⟩:=hd i _ d nq ra vj;have J9:j<(blk.es[off+i]' ae).cells.length:=by rw [h3];exact (dt sE).1
     obtain ⟨u,hu,hv⟩:=mQ (off+i) j _ _ ra (dy J9);obtain ⟨KF,KG,hc⟩:=Mc hc ⟨c1,ty,fz,nU⟩;refine ⟨u,?_,h4 j _ c (dy J9) sE w0 w O ι u hs hv⟩;rw [← fK];simpa [World.cell?,hc] using hu
    have P8:∀d∈ds,d.cells.length=blk.sz:=by
     intro d C0;obtain ⟨i,oX,vj⟩:=eF.1 C0;have Qv:ds[i]?=some d:=by rw [dy oX,vj]
     have ra:blk.es[off+i]?=some (blk.es[off+i]' ae):=dy ae;obtain ⟨h3,_⟩:=hd i _ d ae ra Qv;rw [← h3];exact kA _ (ey _)
    exact .jA ds _ n cap blk.sz (fun i j=>(w.cell? ⟨x,off*blk.sz+i*blk.sz+j,none⟩).getD undef) ae ae ae P8 (fun _ _=>rfl)
     (fun i j d c vj sE=>by obtain ⟨u,hu,_⟩:=pq i j d c vj sE;exact ⟨fun h=>h,by simp only [hu,eR]⟩)
     (fun i j d c vj sE=>by obtain ⟨u,hu,hv⟩:=pq i j d c vj sE;simpa only [hu,eR] using hv)
theorem rP.ptr {b tot i off:Nat} {blk:jy} {e d:AV} (h1:H[b]?=some blk) (ht:blk.es.length=tot) (he:blk.es[i]?=some e)
 (hl:e.cells.length=d.cells.length) (h:∀(j:Nat) (c c':AV),e.cells[j]?=some c→d.cells[j]?=some c'→rP H c c'):rP H (.ptr b tot i off) (.kN d off):=fun w0 w O ι u hs hu=>by
 obtain ⟨x,hi,rfl,mQ⟩:=hu.HA hs h1 ht he;have pq:∀(j:Nat) (c:AV),d.cells[j]?=some c→∃u,w.cell? ⟨x,i*blk.sz+j,none⟩=some u∧VR w (fun _=>False) xy [] c u:=by
  intro j c hj;have mC:j<e.cells.length:=by rw [hl];exact (dt hj).1
  obtain ⟨u,hu,hv⟩:=mQ j _ (dy mC);exact ⟨u,hu,h j _ c (dy mC) hj w0 w O ι u hs hv⟩
 refine .kN d off ⟨x,i*blk.sz+off,none⟩ (fun j=>(w.cell? ⟨x,i*blk.sz+j,none⟩).getD undef) rfl ah (fun j c hj=>?_) fun j c hj=>?_
 ·obtain ⟨u,hu,_⟩:=pq j c hj;exact ⟨fun h=>h,by simp only [eM];rw [hu];rfl⟩
 ·obtain ⟨u,hu,hv⟩:=pq j c hj;simpa only [hu,eR] using hv
def Sc (d:AV):Prop:=∀(w w':World) (O O':Nat→Prop) (ι:Nat→Option Nat) (H:List jy) (u:Value),VR w O xy [] d u→VR w' O' ι H d u
theorem Sc.base (v:Value):Sc (.base v):=fun _ _ _ _ _ _ _ h=>by cases h;exact .base _
theorem agZ {ρ:Operand→AV} {c:Call} {fx:Operand} {f:FuncId} {caps args:List AV} {d:AV} (hc:c.callee=.value fx)
 (hf:ρ fx=.j9 f caps) (hl:(c.args.toList.map ρ++caps).length=args.length) (hp:∀(j:Nat) (a b:AV),(c.args.toList.map ρ++caps)[j]?=some a→args[j]?=some b→rP H a b) (hd:Sc d) {m:List (Nat×Obj)} (h:qY P m f args d) (hm:Ar m ρ:=by exact .inl rfl):QL P H ρ (.call c) d:=by
 intro o ho w0 O ι a w hs hv K Q hK;rw [ho] at hv;obtain ⟨⟨fn,h1,h2,h3⟩,h4⟩:=h;have rJ:∀y,y=fx∨y∈c.args→y∈(Op.call c).operands:=by
  intro y hy;simp only [Op.operands,Call.operands,hc,Array.mem_append,iy,dz];exact hy
 have h5:=hv fx (.inl (rJ _ (.inl rfl)));rw [hf] at h5;generalize hX:a.eval fx=X at h5;cases h5 with
 | j9 f caps arr hlen nQ =>
 have CB:∀(j:Nat) (x:AV) (u:Value),(c.args.toList.map ρ++caps)[j]?=some x→(c.args.map a.eval++arr)[j]?=some u→VR w (OO O ι H) ι H x u:=by
  intro j x u hx hu;rw [fN] at hx;rw [Array.getElem?_append] at hu;simp only [eo,fv,Array.size_map] at hx hu;split at hx
  ·rename_i hj;rw [ja hj] at hu;simp only [dE,fE,dY,eL] at hx hu;obtain ⟨y,hy,rfl⟩:=hx;obtain ⟨z,hz,rfl⟩:=hu;rw [hy] at hz;cases hz;exact hv y (.inl (rJ _ (.inr (fw hy))))
  ·rename_i hj;rw [iZ hj] at hu;exact nQ _ _ _ hx hu
 have ub:(execOp a.eval o).run P w=.ok (.enter f (c.args.map a.eval++arr)) w:=by
  unfold execOp;rw [ho];simp only [resolve,hc,Deferred.ofValue,hX,dR,dV,dN,invoke,gC,Hp h1 h2 h3]
 unfold Oper.wp;rw [ub,Oper.upon_enter];have mV:(c.args.map a.eval++arr).size=(c.args.toList.map ρ++caps).length:=by simp [hlen]
 refine (h4 w (fun _=>False) (c.args.map a.eval++arr) (fun p hp=>⟨id,(hm.get (hv _ (.inr rfl)) p hp).2⟩) (fun _ h=>h.elim) (mV.trans hl) fun j x u hx hu=>?_).mono ?_
 ·have hj:j<(c.args.toList.map ρ++caps).length:=by rw [hl];exact (dt hx).1
  have hy:=dy hj;exact hp j _ x hy hx w0 w O ι u hs (CB j _ u hy hu)
 ·rintro e w' ⟨v,rfl,Ez,ka⟩;exact hK v w' (hd _ _ _ _ _ _ _ Ez) ka
end
end Go.Ab
namespace Go.Ab
open Go Go.RowKit Go.ChangeShapes Go.WideShapes Go.ChangeAt
def wK (agg:Bool) (part:List AV):AV:=if agg then .agg part else part.getD 0 .bad
def Sh (P:Program):Nat→TypeId→List AV→Prop
 | 0,_,_=>False
 | f+1,t,as=>match P.underlying t with
   | some .bool=>∃b,as=[.bool b]
   | some (.int k)=>∃n,as=[.base (.int k n)]∧k.min≤n∧n≤k.max
   | some .string=>∃s:ByteArray,as=[.base (.string s)]∧s.size≤maxLen
   | some (.slice e)=>∃(parts:List (List AV)),as=[.jA (parts.map (wK (mE P e==some true)))]∧parts.length≤maxLen∧∀p∈parts,p.length=P.cellsOf e∧Sh P f e p
   | some (.struct fs)=>∃parts:List (List AV),parts.length=fs.size∧as=parts.flatten∧∀(i:Nat) (fd:Field) (p:List AV),fs[i]?=some fd→parts[i]?=some p→p.length=P.cellsOf fd.type∧Sh P f fd.type p
   | some (.array n e)=>∃parts:List (List AV),parts.length=n∧as=parts.flatten∧∀p∈parts,p.length=P.cellsOf e∧Sh P f e p
   | _=>False
def JW (P:Program):List Field→Nat→Nat→Bool
 | [],off,tot=>off==tot
 | f::fs,off,tot=>f.offset==off&&JW P fs (off+P.cellsOf f.type) tot
def Md (P:Program) (S:List TypeId):Bool:=
 S.all fun t=>match P.underlying t with
  | some .bool|some (.int _)|some .string=>P.cellsOf t==1
  | some (.slice e)=>S.contains e&&Nat.blt 0 (P.cellsOf e)&&P.cellsOf t==1
  | some (.struct fs)=>fs.toList.all (fun f=>S.contains f.type)&&JW P fs.toList 0 (P.cellsOf t)
  | some (.array n e)=>S.contains e&&n*P.cellsOf e==P.cellsOf t
  | _=>false
abbrev KK:Nat→Prop:=fun _=>False
section
variable {H:Type} {enc:TypeId×Value→H} {P:Program} {w:World} {spare:Nat→Bool} {held:Bool}
def yQ (w:World) (as:List AV) (cs:List Value):Prop:=as.length=cs.length∧∀(j:Nat) (a:AV) (u:Value),as[j]?=some a→cs[j]?=some u→VR w KK xy [] a u
theorem yQ.append {as bs:List AV} {cs ds:List Value} (h:yQ w as cs) (k:yQ w bs ds):yQ w (as++bs) (cs++ds):=by
 refine ⟨by simp [h.1,k.1],fun j a u ha hu=>?_⟩;rw [fN] at ha hu;rw [h.1] at ha;split at ha
 ·rename_i hj;rw [ja hj] at hu;exact h.2 j a u ha hu
 ·rename_i hj;rw [iZ hj] at hu;exact k.2 _ a u ha hu
theorem T7 {agg:Bool} {p:List AV} (h:agg=true∨(∃c,p=[c]∧PM c=false)):(wK agg p).cells=p:=by
 rcases h with rfl|⟨c,rfl,hc⟩
 ·rfl
 ·cases agg with
  | true=>rfl
  | false=>show c.cells=[c];cases c<;>first|rfl|(simp [PM] at hc)
theorem Sh.one {f:Nat} {t:TypeId} {p:List AV} (h:Sh P f t p) (ha:mE P t≠some true):∃c,p=[c]∧PM c=false:=by
 cases f with
 | zero=>exact h.elim
 | succ f =>
   unfold Sh at h;unfold mE at ha;split at h
   ·obtain ⟨b,rfl⟩:=h;exact ⟨_,rfl,rfl⟩
   ·obtain ⟨n,rfl,_⟩:=h;exact ⟨_,rfl,rfl⟩
   ·obtain ⟨s,rfl,_⟩:=h;exact ⟨_,rfl,rfl⟩
   ·obtain ⟨ps,rfl,_⟩:=h;exact ⟨_,rfl,rfl⟩
   ·rename_i hu;simp [hu] at ha
   ·rename_i hu;simp [hu] at ha
   ·exact h.elim
theorem Sh.UW {f:Nat} {t:TypeId} {p:List AV} (h:Sh P f t p):(wK (mE P t==some true) p).cells=p:=by
 by_cases ha:mE P t=some true
 ·exact T7 (.inl cw)
 ·exact T7 (.inr (h.one ha))
theorem TV {f:Nat}:∀(fs:List Field) (off tot:Nat) (cs:List Value),JW P fs off tot=true→cs.length=tot→off≤tot →
 (∀fd∈fs,∃as,yQ w as ((cs.drop fd.offset).take (P.cellsOf fd.type))∧as.length=P.cellsOf fd.type∧Sh P f fd.type as) →
 ∃parts:List (List AV),parts.length=fs.length∧yQ w parts.flatten (cs.drop off)∧∀(i:Nat) (fd:Field) (p:List AV),fs[i]?=some fd→parts[i]?=some p→p.length=P.cellsOf fd.type∧Sh P f fd.type p
 | [],off,tot,cs,ht,hl,ho,h=>by
   simp only [JW,jk] at ht;subst ht;exact ⟨[],rfl,by rw [ga ae];exact ⟨rfl,ah⟩,ah⟩
 | fd::fs,off,tot,cs,ht,hl,ho,h=>by
   simp only [JW,er,jk] at ht;obtain ⟨xG,lr⟩:=ht;obtain ⟨as,h1,h2,h3⟩:=h fd ah;subst xG;have hlen:=h1.1;rw [h2,eQ,gb] at hlen;obtain ⟨parts,k1,k2,k3⟩:=TV fs (fd.offset+P.cellsOf fd.type) tot cs lr hl ae (fun RV h'=>h RV (by simp [h']));refine ⟨as::parts,by simp [k1],?_,fun i RV p hi hp=>?_⟩
   ·have:=h1.append k2;rw [← List.drop_drop] at this;rw [List.take_append_drop] at this;simpa using this
   ·cases i with
    | zero=>simp at hi hp;subst hi;subst hp;exact ⟨h2,h3⟩
    | succ i=>exact k3 i RV p (by simpa using hi) (by simpa using hp)
theorem TW {f n:Nat} {e:TypeId} {s:Nat}:∀(m k:Nat) (cs:List Value),cs.length=n*s→k+m=n →
 (∀i,i<n→∃as,yQ w as ((cs.drop (i*s)).take s)∧as.length=s∧Sh P f e as) →
 ∃parts:List (List AV),parts.length=m∧yQ w parts.flatten (cs.drop (k*s))∧∀p∈parts,p.length=s∧Sh P f e p
 | 0,k,cs,hl,hk,h=>⟨[],rfl,by rw [ga (by rw [hl];exact eW _ ae)];exact ⟨rfl,ah⟩,ah⟩
 | m+1,k,cs,hl,hk,h=>by
   obtain ⟨as,h1,h2,h3⟩:=h k ae;obtain ⟨parts,k1,k2,k3⟩:=TW m (k+1) cs hl ae h;refine ⟨as::parts,by simp [k1],?_,fun p hp=>?_⟩
   ·have:=h1.append k2;rw [fK,Nat.one_mul,← List.drop_drop,List.take_append_drop] at this;simpa using this
   ·rcases dC.1 hp with rfl|hp
    ·exact ⟨h2,h3⟩
    ·exact k3 p hp
theorem ajO {S:List TypeId} (hS:Md P S=true):∀(fuel:Nat) (t:TypeId) (cs:List Value) (x:DataW H×List MemPlace),t∈S→DataW.trod enc P w 0 spare held fuel t cs=some x →
 ∃as,yQ w as cs∧as.length=P.cellsOf t∧Sh P fuel t as:=by
 intro fuel
 induction fuel with
 | zero=>intro t cs x _ h;simp [DataW.trod] at h
 | succ fuel ih =>
   intro t cs x ht h;have qg:=du hS t ht;have Ax:∀(a:AV) (u:Value),VR w KK xy [] a u→yQ w [a] [u]:=fun a u hv=>⟨rfl,fun j b v hb Ez=>by
    cases j with
    | zero=>simp at hb Ez;subst hb;subst Ez;exact hv
    | succ j=>simp at hb⟩
   split at qg
   ·rename_i hu;obtain ⟨b,rfl,_⟩:=DataW.trod_bool hu h;exact ⟨[.bool b],Ax _ _ (.base _),(jk.1 qg).symm,by unfold Sh;rw [hu];exact ⟨b,rfl⟩⟩
   ·rename_i k hu;obtain ⟨n,rfl,_,mg⟩:=DataW.trod_int hu h;refine ⟨[.base (.int k n)],Ax _ _ (.base _),(jk.1 qg).symm,by unfold Sh;rw [hu];simp only [Lit.wf,er,jn] at mg;exact ⟨n,rfl,mg.1,mg.2⟩⟩
   ·rename_i hu;obtain ⟨s,rfl,_,hs⟩:=DataW.trod_string hu h;exact ⟨[.base (.string s)],Ax _ _ (.base _),(jk.1 qg).symm,by unfold Sh;rw [hu];exact ⟨s,rfl,hs⟩⟩
   ·rename_i e hu;simp only [er,Nat.blt_eq,jk] at qg;obtain ⟨⟨GC,tN⟩,Nr⟩:=qg;have GC:e∈S:=by simpa using GC
    rcases DataW.trod_slice hu h with ⟨rfl,_⟩|⟨a,len,cap,elems,rest,n,hn,rfl,_,hb,hl,hm,hlen,mQ,_,_⟩
    ·exact ⟨[.jA []],Ax _ _ .sn,Nr.symm,by unfold Sh;rw [hu];exact ⟨[],rfl,ah,ah⟩⟩
    ·have Is:n=fuel:=ae;subst Is;have hex:∀i,i<len→∃(vq:List Value) (as:List AV),w.cells? 0 (a.add (i*P.cellsOf e)) (P.cellsOf e)=some vq∧yQ w as vq∧as.length=P.cellsOf e∧Sh P n e as:=by
      intro i hi;have h1:=mQ i hi;have h2:elems[i]?=some elems[i]:=dy ae;rw [h2,Option.bind_eq_some_iff] at h1;obtain ⟨vq,h3,h4⟩:=h1;obtain ⟨as,h5,h6,h7⟩:=ih e vq _ GC h4;exact ⟨vq,as,h3,h5,h6,h7⟩
     let g:Nat→List AV:=fun i=>if hi:i<len then Classical.choose (Classical.choose_spec (hex i hi)) else []
     have hg:∀i,i<len→∃vq,w.cells? 0 (a.add (i*P.cellsOf e)) (P.cellsOf e)=some vq∧yQ w (g i) vq∧(g i).length=P.cellsOf e∧Sh P n e (g i):=by
      intro i hi;simp only [g,dif_pos hi];exact ⟨_,Classical.choose_spec (Classical.choose_spec (hex i hi))⟩
     have rB:0<len→a.spot=none:=by
      intro h0;obtain ⟨vq,h3,_⟩:=hg 0 h0;obtain ⟨_,qz,hc⟩:=World.cells?_some h3;have:=hc 0 tN;have hex:∃u,w.cell? a=some u:=⟨vq[0],by
       rw [gj] at this;have e1:(a.add 0).add 0=a:=by simp [Addr.add]
       rw [e1] at this;rw [this];exact dy ae⟩
      obtain ⟨u,hu⟩:=hex;unfold World.cell? at hu;split at hu
      ·split at hu
       ·cases hu
       ·rename_i hs;simpa using hs
      ·cases hu
     refine ⟨[.jA (((List.range len).map g).map (wK (mE P e==some true)))],Ax _ _ ?_,Nr.symm,?_⟩
     ·have KL:∀i x,(((List.range len).map g).map (wK (mE P e==some true)))[i]?=some x→i<len∧x=wK (mE P e==some true) (g i):=by
       intro i x hx;simp only [dE,eL] at hx;obtain ⟨p,⟨q,hq,rfl⟩,rfl⟩:=hx;have hi:i<len:=by
        rcases eE i len with h'|h'
        ·exact h'
        ·rw [dT (by simpa using h')] at hq;cases hq
       rw [eV hi] at hq;injection hq with hq;subst hq;exact ⟨hi,rfl⟩
      have pq:∀(i j:Nat) (x c:AV),(((List.range len).map g).map (wK (mE P e==some true)))[i]?=some x→x.cells[j]?=some c→∃u,w.cell? ⟨a.block,a.off+i*P.cellsOf e+j,none⟩=some u∧VR w KK xy [] c u:=by
       intro i j x c hx hc;obtain ⟨hi,rfl⟩:=KL i x hx;obtain ⟨vq,h3,h4,h5,h6⟩:=hg i hi;rw [h6.UW] at hc;obtain ⟨_,qz,rH⟩:=World.cells?_some h3;have hj:j<P.cellsOf e:=by rw [← h5];exact (dt hc).1
       have h7:=rH j hj;have Kb:=rB ae;rw [add_eq a _ Kb,add_eq _ _ rfl,dy ae] at h7;exact ⟨_,h7,h4.2 j c _ hc (dy ae)⟩
      refine .jA _ a len cap (P.cellsOf e) (fun i j=>(w.cell? ⟨a.block,a.off+i*P.cellsOf e+j,none⟩).getD undef) ah hl ae (fun x hx=>?_) (fun x hx=>?_) (fun i j x c hx hc=>?_) fun i j x c hx hc=>?_
      ·obtain ⟨i,hi,rfl⟩:=eF.1 hx;obtain ⟨h8,h9⟩:=KL i _ (dy hi);obtain ⟨_,_,_,h5,h6⟩:=hg i h8;rw [h9,h6.UW,h5]
      ·obtain ⟨i,hi,rfl⟩:=eF.1 hx;obtain ⟨h8,_⟩:=KL i _ (dy hi);exact rB ae
      ·obtain ⟨u,hu,_⟩:=pq i j x c hx hc;exact ⟨fun h=>h,by rw [hu];rfl⟩
      ·obtain ⟨u,hu,hv⟩:=pq i j x c hx hc;simpa only [hu,eR] using hv
     ·unfold Sh;rw [hu];refine ⟨(List.range len).map g,rfl,aj,fun p hp=>?_⟩;obtain ⟨i,hi,rfl⟩:=eI.1 hp;obtain ⟨_,_,_,h5,h6⟩:=hg i (by simpa using hi);exact ⟨h5,h6⟩
   ·rename_i fs hu;simp only [er] at qg;obtain ⟨hfS,re⟩:=qg;obtain ⟨xs,n,hn,_,hl,wV,hf⟩:=DataW.trod_struct hu h;have Is:n=fuel:=ae;subst Is;obtain ⟨parts,k1,k2,k3⟩:=TV (f:=n) fs.toList 0 (P.cellsOf t) cs re hl (dL _) (fun fd hfd=>by
     obtain ⟨i,hi,rfl⟩:=eF.1 hfd;have zQ:fs[i]?=some fs.toList[i]:=by rw [← dY];exact dy hi
     have h1:=hf i _ zQ;rw [dy (show i<xs.length by rw [wV];simpa using hi)] at h1;have rJ:fs.toList[i].type∈S:=by
      have:=du hfS _ (ey hi);simpa using this
     exact ih _ _ _ rJ h1)
    rw [List.drop_zero] at k2;refine ⟨parts.flatten,k2,by rw [k2.1,hl],?_⟩;unfold Sh;rw [hu];exact ⟨parts,by simpa using k1,rfl,fun i fd p hi hp=>k3 i fd p (by rw [dY];exact hi) hp⟩
   ·rename_i n e hu;simp only [er,jk] at qg;obtain ⟨GC,Nr⟩:=qg;have GC:e∈S:=by simpa using GC
    obtain ⟨xs,m,hm,_,hl,wV,hf⟩:=DataW.trod_array hu h;have rh:m=fuel:=ae;subst rh;obtain ⟨parts,k1,k2,k3⟩:=TW (f:=m) (n:=n) (e:=e) (s:=P.cellsOf e) n 0 cs (by rw [hl,Nr]) ae (fun i hi=>by
     have h1:=hf i hi;rw [dy (show i<xs.length by omega)] at h1;exact ih _ _ _ GC h1)
    rw [gj,List.drop_zero] at k2;refine ⟨parts.flatten,k2,by rw [k2.1,hl],?_⟩;unfold Sh;rw [hu];exact ⟨parts,k1,rfl,k3⟩
   ·cases qg
def EI (P:Program) (t:TypeId) (a:AV):Prop:=∃fuel p,Sh P fuel t p∧p.length=P.cellsOf t∧a=wK (mE P t==some true) p
theorem amO {S:List TypeId} (hS:Md P S=true) {t:TypeId} {v:Value} {base:Nat} {d:DataW H} {ps:List MemPlace} (ht:t∈S) (og:Value.okWide P w .any base t v) (h:DataW.Trod enc P w 0 spare held t v d ps) :
 ∃a,VR w KK xy [] a v∧EI P t a:=by
 obtain ⟨fuel,h⟩:=h;obtain ⟨as,h1,h2,h3⟩:=ajO hS fuel t _ _ ht h;refine ⟨wK (mE P t==some true) as,?_,fuel,as,h3,h2,rfl⟩;unfold Value.okWide at og;by_cases ha:mE P t=some true
 ·have hv:∃cs,v=.agg cs:=by
   unfold mE at ha;split at ha
   ·rename_i hu;rw [hu] at og;obtain ⟨cs,rfl,_⟩:=og;exact ⟨cs,rfl⟩
   ·rename_i hu;rw [hu] at og;obtain ⟨cs,rfl,_⟩:=og;exact ⟨cs,rfl⟩
   ·cases ha
   ·cases ha
  obtain ⟨cs,rfl⟩:=hv;simp only [Value.cells] at h1;rw [show wK (mE P t==some true) as=.agg as by simp [wK,ha]];exact .agg as cs (by have:=h1.1;simp at this;exact this.symm) fun j c u hc hu=>h1.2 j c u hc (by simpa using hu)
 ·obtain ⟨c,rfl,hc⟩:=h3.one ha;have hlen:=h1.1;have RR:v.cells=#[v]:=by
   have qg:=du hS t ht;split at qg
   ·rename_i hu;obtain ⟨x,rfl,_⟩:=open_bool hu og ⟨fuel,h⟩;rfl
   ·rename_i k hu;obtain ⟨x,rfl,_⟩:=open_int hu og ⟨fuel,h⟩;rfl
   ·rename_i hu;obtain ⟨x,rfl,_⟩:=ChangeMaps.open_string hu og ⟨fuel,h⟩;rfl
   ·rename_i e hu;obtain ⟨a0,len,cap,rfl⟩:=okWide_slice hu og;rfl
   ·rename_i fs hu;exact absurd (by simp [mE,hu]) ha
   ·rename_i n e hu;exact absurd (by simp [mE,hu]) ha
   ·cases qg
  rw [show wK (mE P t==some true) [c]=c by simp [wK,ha]];exact h1.2 0 c v rfl (by rw [RR];rfl)
theorem Vu {S:List TypeId} (hS:Md P S=true) {base:Nat}:∀(ts:List TypeId) (vs:List Value) (ds:List (DataW H)) (ps:List MemPlace),(∀t∈ts,t∈S)→(∀(j:Nat) t v,ts[j]?=some t→vs[j]?=some v→Value.okWide P w .any base t v) →
 DataW.TrodAll enc P w 0 spare held ts vs ds ps→vs.length=ts.length∧∃as:List AV,yQ w as vs∧∀(j:Nat) t a,ts[j]?=some t→as[j]?=some a→EI P t a
 | [],[],[],ps,_,_,_=>⟨rfl,[],⟨rfl,ah⟩,ah⟩
 | t::ts,v::vs,d::ds,ps,GD,og,h=>by
   obtain ⟨p,q,h1,h2,_⟩:=h;obtain ⟨hl,as,h3,h4⟩:=Vu hS ts vs ds q (fun t ht=>GD t (by simp [ht])) (fun j t v ht hv=>og (j+1) t v (by simpa using ht) (by simpa using hv)) h2;obtain ⟨a,h5,h6⟩:=amO hS (GD t ah) (og 0 t v rfl rfl) h1;refine ⟨by simp [hl],a::as,⟨by simp [h3.1],fun j b u hb hu=>?_⟩,fun j t' b nk hb=>?_⟩
   ·cases j with
    | zero=>simp at hb hu;subst hb;subst hu;exact h5
    | succ j=>exact h3.2 j b u (by simpa using hb) (by simpa using hu)
   ·cases j with
    | zero=>simp at nk hb;subst nk;subst hb;exact h6
    | succ j=>exact h4 j t' b (by simpa using nk) (by simpa using hb)
 | [],[],_::_,_,_,_,h=>h.elim
 | [],_::_,_,_,_,_,h=>h.elim
 | _::_,[],_,_,_,_,h=>h.elim
 | _::_,_::_,[],_,_,_,h=>h.elim
theorem TQ (hl:laidOutB P=true) {w':World} (hb:Below w.heap.size w w'):∀(ts:List TypeId) (vs:List Value) (ds:List (DataW H)) (ps:List MemPlace),(∀t∈ts,P.readableRec t=true∧t<P.types.size)→(∀x∈ps,x.block<w.heap.size) →
 DataW.TrodAll enc P w 0 (fun _=>true) true ts vs ds ps→DataW.TrodAll enc P w' 0 (fun b=>decide (b<w.heap.size)) true ts vs ds ps
 | [],[],[],ps,_,_,h=>h
 | t::ts,v::vs,d::ds,ps,GD,kn,h=>by
   obtain ⟨p,q,h1,h2,rfl⟩:=h;obtain ⟨k1,k2⟩:=GD t ah;exact ⟨p,q,Below.trod hl k1 k2 h1 hb fun x hx=>kn x (by simp [hx]),TQ hl hb ts vs ds q (fun t ht=>GD t (by simp [ht])) (fun x hx=>kn x (by simp [hx])) h2,rfl⟩
 | [],[],_::_,_,_,_,h=>h.elim
 | [],_::_,_,_,_,_,h=>h.elim
 | _::_,[],_,_,_,_,h=>h.elim
 | _::_,_::_,[],_,_,_,h=>h.elim
theorem adH {m:List (Nat×Obj)} {f:FuncId} {fn:Func} {s:ChangeSpec} {S:List TypeId} {tb:TypeId} (hl:laidOutB P=true) (hS:Md P S=true) (we:fn.params.toList.all (fun t=>S.contains t&&P.readableRec t&&Nat.blt t P.types.size)=true)
 (H6:fn.resultTypes=#[tb]) (KM:P.underlying tb=some .bool) (xE:s.vars=[]) (Qd:∀(ds:List (DataW H)),ds.length=fn.params.size→s.fn H ds={ results:=[.lit (.bool true)],args:=ds })
 (hFn:∀as:List AV,as.length=fn.params.size→(∀(j:Nat) t a,fn.params[j]?=some t→as[j]?=some a→EI P t a)→qY P m f as (.bool true))
 (W:World) (base:Nat) (args:Array Value) (ds gs:List (DataW H)) (before:List MemPlace)
 (Ay:∀(j:Nat) t v,fn.params[j]?=some t→args[j]?=some v→Value.okWide P W .any base t v)
 (hW:DataW.Whole enc P fn.params.toList s.vars false W args.toList ds gs before) :
 (∀p∈m,W.heap[p.1]?=some p.2)→Calls P f args W fun e W'=>∃v,e=.returned v∧s.post enc P fn false true false false W args v W':=by
 intro hm;have Ze:=hW;obtain ⟨p,q,hA,hV,rfl,hfz,RW⟩:=hW;rw [xE] at hV;obtain ⟨rfl,rfl⟩:=trodVars_none hV;have hp:∀t∈fn.params.toList,t∈S∧P.readableRec t=true∧t<P.types.size:=by
  intro t ht;have:=du we t ht;simp only [er,Nat.blt_eq] at this;exact ⟨by simpa using this.1.1,this.1.2,this.2⟩
 obtain ⟨hlen,as,h1,h2⟩:=Vu hS fn.params.toList args.toList ds p (fun t ht=>(hp t ht).1) (fun j t v ht hv=>Ay j t v (by rwa [dY] at ht) (by rwa [dY] at hv)) hA;have xH:as.length=fn.params.size:=by rw [h1.1,hlen];simp
 have AP:ds.length=fn.params.size:=by
  have:∀(ts:List TypeId) (vs:List Value) (ds:List (DataW H)) (ps:List MemPlace),DataW.TrodAll enc P W 0 (fun _=>true) true ts vs ds ps→ds.length=ts.length:=by
   intro ts
   induction ts with
   | nil=>intro vs ds ps h;match vs,ds,h with | [],[],_=>rfl
   | cons t ts ih =>
     intro vs ds ps h
     match vs,ds,h with
     | v::vs,d::ds,⟨p,q,_,h2,_⟩=>simp [ih vs ds q h2]
  rw [this _ _ _ _ hA];simp
 obtain ⟨_,hF⟩:=hFn as xH fun j t a ht ha=>h2 j t a (by rw [dY];exact ht) ha;refine (hF W KK args (fun p hp=>⟨id,hm p hp⟩) (fun _ h=>h.elim) (by rw [xH];simpa using hlen) fun j a u ha hu=>h1.2 j a u ha (by rw [dY];exact hu)).mono ?_;rintro e W' ⟨v,rfl,hv,hb⟩;have hv:=hv.nO;subst hv;have kn:∀x∈p,x.block<W.heap.size:=fun x hx=>by simpa using Ze.lt x (by simp [hx])
 refine ⟨_,rfl,ds++[],[],p++[],[],p++[],[],?_,?_,?_,?_,hb.frame _,fun h=>dh⟩
 ·simpa using Ze
 ·rw [Qd _ (by simpa using AP),H6];exact trodAll_mk1 (shut_bool KM true)
 ·rw [Qd _ (by simpa using AP)];simpa using TQ hl hb fn.params.toList args.toList ds p (fun t ht=>(hp t ht).2) kn hA
 ·rw [Qd _ (by simpa using AP),xE];rfl
end
end Go.Ab
namespace Go.Ab
open Go Go.RowKit
section
variable {P:Program} {n:Fr} {K:ku→Prop} {Q:Exit→ku→Prop} {s:ku}
theorem jG.CD {c:Code} (t:Nat) {es:List AV} (h:lk s.env t=.jA es) (k:es.length≤9223372036854775807→jG P n c Q s):jG P n c Q s:=by
 intro w0 O ι a w hs;have h1:=hs.oV t;rw [h] at h1;refine k ?_ w0 O ι a w hs;generalize a.tmps.getD t undef=X at h1;cases h1 with
 | sn=>simp
 | jA es a n cap s val hn nQ so hlen ry hc hv=>simp only [maxLen] at so;omega
theorem l7 (l:List Int):Pu (.jA (l.map .int)):=.jA fun e he c hc=>by
 obtain ⟨x,_,rfl⟩:=eI.1 he;simp [AV.cells] at hc;subst hc;exact .base _
end
end Go.Ab
namespace Go.Ab
attribute [go_sem] if_true if_false and_true true_and and_self
theorem cast_zero:((0:Nat):Int)=0:=rfl
theorem ahA:((1:Nat):Int)=1:=rfl
attribute [go_sem] cast_zero ahA
attribute [go_sem] List.set_cons_zero List.set_cons_succ List.cons_append List.nil_append List.length_cons List.length_nil List.getElem?_cons_zero List.getElem?_cons_succ List.take_succ_cons List.take_zero List.drop_succ_cons List.drop_zero
open Go Go.RowKit
section
variable {P:Program} {H:List jy}
theorem rP.j9 {f:FuncId} {cs ds:List AV} (hl:cs.length=ds.length) (h:∀(j:Nat) (c d:AV),cs[j]?=some c→ds[j]?=some d→rP H c d):rP H (.j9 f cs) (.j9 f ds):=fun w0 w O ι u hs hu=>by
 cases hu with
 | j9 f cs arr hlen hh =>
 refine .j9 f ds arr (hlen.trans hl) fun j d u hd hu=>?_;have hj:j<cs.length:=aR;exact h j _ d (dy hj) hd w0 w O ι u hs (hh j _ u (dy hj) hu)
def xi (H:List jy):List AV→List AV→Prop
 | [],[]=>True
 | a::l,b::m=>rP H a b∧xi H l m
 | _,_=>False
theorem xi.len:∀ {l m:List AV},xi H l m→l.length=m.length
 | [],[],_=>rfl
 | _::l,_::m,h=>by simp [xi.len h.2]
theorem xi.get:∀ {l m:List AV},xi H l m→∀(j:Nat) (a b:AV),l[j]?=some a→m[j]?=some b→rP H a b
 | _::l,_::m,h,0,a,b,h1,h2=>bZ
 | _::l,_::m,h,j+1,a,b,h1,h2=>xi.get h.2 j a b h1 h2
theorem UX {ρ:Operand→AV} {c:Call} {fx:Operand} {f:FuncId} {caps args:List AV} {d:AV} (hc:c.callee=.value fx)
 (hf:ρ fx=.j9 f caps) (hl:xi H (c.args.toList.map ρ++caps) args) (hd:Sc d) {m:List (Nat×Obj)} (h:qY P m f args d) (hm:Ar m ρ:=by exact .inl rfl):QL P H ρ (.call c) d:=
 agZ hc hf hl.len hl.get hd h hm
theorem rP.kN {b tot i off:Nat} {blk:jy} {e d:AV} (h1:H[b]?=some blk) (ht:blk.es.length=tot) (he:blk.es[i]?=some e)
 (hl:xi H e.cells d.cells):rP H (.ptr b tot i off) (.kN d off):=.ptr h1 ht he hl.len hl.get
theorem rP.asX {f:FuncId} {cs ds:List AV} (h:xi H cs ds):rP H (.j9 f cs) (.j9 f ds):=.j9 h.len h.get
theorem HM {α:Type} {ρ:Operand→AV} {t el:TypeId} {x i:Operand} {k:IntKind} {n:Int} {l:List α} {f:α→AV} (hx:ρ x=.jA (l.map f)) (hi:ρ i=.base (.int k n)) (ht:P.underlying t=some (.slice el))
 (h0:0≤n) (he:n.toNat<l.length) (kA:lW P el=some (f l[n.toNat]).cells.length):QL P H ρ (.indexAddr t x i) (.kN (f (l[n.toNat]'he)) 0):=
 wC hx hi ht h0 (by rw [dE,dy he];rfl) kA
end
theorem jG.Wi {P:Program} {n:Fr} {Q:Exit→ku→Prop} {s:ku} {c:Code} (t:Nat) {a:AV} {Ψ:Prop} (ha:lk s.env t=a) (h:∀(w:World) (O:Nat→Prop) (ι:Nat→Option Nat) (H:List jy) (u:Value),VR w O ι H a u→Ψ)
 (k:Ψ→jG P n c Q s):jG P n c Q s:=by
 intro w0 O ι a w hs;have h1:=hs.oV t;rw [ha] at h1;exact k (h _ _ _ _ _ h1) w0 O ι a w hs
theorem VR.Ps {w:World} {O:Nat→Prop} {ι:Nat→Option Nat} {H:List jy} {es:List AV} {u:Value} (h:VR w O ι H (.jA es) u):es.length≤9223372036854775807:=by
 cases h with
 | sn=>simp
 | jA es a n cap s val hn nQ so hlen ry hc hv=>simp only [maxLen] at so;omega
theorem VR.amP {w:World} {O:Nat→Prop} {ι:Nat→Option Nat} {H:List jy} {es:List AV} {u:Value} (h:VR w O ι H (.jA es) u) {e c:AV} (he:e∈es) {j:Nat} (hj:e.cells[j]?=some c):∃v,VR w O ι H c v:=by
 cases h with
 | sn=>cases he
 | jA es a n cap s val hn nQ so hlen ry hc hv =>
   obtain ⟨i,hi,rfl⟩:=eF.1 he;exact ⟨_,hv i j _ c (dy hi) hj⟩
theorem VR.Wj {w:World} {O:Nat→Prop} {ι:Nat→Option Nat} {H:List jy} {cs:List AV} {u:Value} (h:VR w O ι H (.agg cs) u) {c:AV} {j:Nat} (hj:cs[j]?=some c):∃v,VR w O ι H c v:=by
 cases h with
 | agg cs arr hlen hh =>
   have:j<arr.size:=by rw [hlen];exact (dt hj).1
   exact ⟨_,hh j c _ hj (dM this)⟩
end Go.Ab
namespace Go.Ab
attribute [go_sem] decide_true decide_false cond_true cond_false eq_self
open Go Go.RowKit
attribute [go_sem] Int.natCast_nonneg Int.toNat_natCast
section
variable {P:Program} {H:List jy} {α:Type} {f:α→AV} {l:List α}
theorem TS {ρ:Operand→AV} {t el:TypeId} {x y:Operand} {k:IntKind} {n:Int} {sz:Nat} (hx:ρ x=.jA (l.map f)) (hy:ρ y=.base (.int k n)) (ht:P.underlying t=some (.slice el)) (h0:0≤n)
 (hh:n.toNat≤l.length) (kA:lW P el=some sz) (rC:∀e,(f e).cells.length=sz):QL P H ρ (.slice t x none (some y) none) (.jA ((l.take n.toNat).map f)):=by
 have:=adJ (P:=P) (H:=H) (lo:=none) (hi:=some y) (l:=0) (h:=n.toNat) hx ht rfl (by simp [vp,hy,h0]) (dL _) (by simpa using hh) kA (by simpa using fun e _=>rC e);simpa [List.map_take] using this
end
section
variable {P:Program} {H:List jy}
theorem DO {ρ:Operand→AV} {c:Call} {fx:Operand} {f:FuncId} {caps as:List AV} {d:AV} {m:List (Nat×Obj)} (h:qY P m f as d) (hc:c.callee=.value fx)
 (hf:ρ fx=.j9 f caps) (ha:c.args.toList.map ρ++caps=as) (hp:∀a∈as,Pu a) (hm:Ar m ρ:=by exact .inl rfl):QL P H ρ (.call c) d:=
 Vt hc hf (by rw [ha];exact hp) (by rw [ha];exact h) hm
end
attribute [simp] Pu.base l7
def nth {α:Type} (d:α) (l:List α) (n:Int):α:=(l[n.toNat]?).getD d
theorem uP {α:Type} {d:α} {l:List α} {n:Nat} (h:n<l.length):nth d l n=l[n]:=by simp [nth,h]
theorem Vv {α:Type} {d:α} {l:List α} {n:Int} (h:n.toNat<l.length):nth d l n=l[n.toNat]:=by simp [nth,h]
section
variable {P:Program} {H:List jy}
theorem uN {α:Type} {ρ:Operand→AV} {t el:TypeId} {x i:Operand} {k:IntKind} {n:Int} {l:List α} {f:α→AV} (d:α) (hx:ρ x=.jA (l.map f)) (hi:ρ i=.base (.int k n)) (ht:P.underlying t=some (.slice el))
 (h0:0≤n) (he:n<l.length) (kA:lW P el=some (f (nth d l n)).cells.length):QL P H ρ (.indexAddr t x i) (.kN (f (nth d l n)) 0):=by
 have vL:n.toNat<l.length:=ae;rw [Vv vL] at kA ⊢;exact HM hx hi ht h0 vL kA
end
end Go.Ab
namespace Go.Ab
attribute [go_sem] Nat.zero_add Nat.add_zero
theorem asY (a b:Int):(a==b)=decide (a=b):=by by_cases h:a=b<;>simp [h]
theorem asZ (a b:Bool):(a==b)=decide (a=b):=by cases a<;>cases b<;>rfl
attribute [go_sem] asY asZ
theorem kO.bool {P:Program} {s:ku} {rs:List ResultVar} {b b':Bool} (h:o6 P s rs=some [AV.bool b']) (he:b'=true↔b=true):kO P rs (.bool b) s:=
 kO.data h (by rw [gW.2 he];rfl) (.base _)
theorem jG.join {P:Program} {n:Fr} {c d:Code} {Q:Exit→ku→Prop} {s:ku} (S2:ku) (h1:jG P n c (xY (fun s'=>Wk n s' S2) Q) s) (h2:jG P n d Q S2):jG P n c (xY (jG P n d Q) Q) s:=
 h1.mono fun e s' hq=>by
  cases e with
  | normal=>exact h2.weaken hq
  | _=>exact hq
theorem Wk.atA {n:Fr} {E E2:Env} {H H2:List jy} (hH:H=H2) (h:C1 E E2):Wk n ⟨E,H⟩ ⟨E2,H2⟩:=by subst hH;exact .sr h
@[simp] theorem aBG (x:Int):Pu (.jA [.int x]):=l7 [x]
@[simp] theorem aBH (x y:Int):Pu (.jA [.int x,.int y]):=l7 [x,y]
theorem xi.pu {H:List jy}:∀ {cs:List AV},(∀c∈cs,Pu c)→xi H cs cs
 | [],_=>trivial
 | c::l,h=>⟨.pu (h c ah),xi.pu fun x hx=>h x (by simp [hx])⟩
open Go Go.RowKit
section
variable {P:Program} {n:Fr} {w w':World} {w0:nd} {O:Nat→Prop} {ι jU:Nat→Option Nat} {H H':List jy} {u:Value}
def Ns (P:Program) (H:List jy) (ρ:Operand→AV) (op:Op) (v:AV) (H':List jy):Prop:=∀kB:Operand→AV,(∀x∈op.operands,kB x=ρ x)→PL P H kB op v H'
theorem rK.atB {f:Nat→AV} {a:Act} {d:Option Tmp} {v:AV} (h:rK n w0 O f H ι a w) (hs:lA w0 O jU H' w') (g:mj w (OO O ι H) ι H w' (OO O jU H') jU H')
 (hv:VR w' (OO O jU H') jU H' v u) (hd:mB n d=true):rK n w0 O (qq f d v) H' jU (a.put d u) w':=by
 cases d with
 | none=>exact ⟨hs,h.defers,h.size,h.hand,fun t=>by
    show VR _ _ _ _ (if none=some t then v else f t) _;rw [iZ ah];exact (h.oV t).mono g⟩
 | some d =>
   have KH:d<a.tmps.size:=by rw [h.size];simpa [mB] using hd
   refine ⟨hs,h.defers,by simp [Act.put,h.size],h.hand,fun t=>?_⟩;rw [Pp t KH];unfold qq;by_cases e:d=t
   ·subst e;simpa using hv
   ·simpa [e] using (h.oV t).mono g
structure CE (P:Program) (n:Fr) (H:List jy) (f:Nat→AV) (o:lx) (v:AV) (H':List jy):Prop where
 hg:o.g=none
 hd:mB n o.dst=true
 h:Ns P H (wR f) o.op v H'
theorem CE.run {ops:Array Oper} {D:List (Option Tmp)} {i:Nat} {o:Oper} (ho:ops[i]?=some o) {f f':Nat→AV} {v:AV}
 (h:CE P n H f (pU D o) v H') (hf:∀t∈Bh D o,f' t=f t) {a:Act} (hs:rK n w0 O f' H ι a w) {K:Act→World→Prop} {Q:Exit→Act→World→Prop}
 (hK:∀jU a' w',rK n w0 O (qq f' o.dst v) H' jU a' w'→K a' w'):wpOp P ops Q i K a w:=by
 have vK:∀x∈o.op.operands,wR f' x=wR f x:=by
  intro x hx;cases x with
  | tmp t=>exact hf t bH
  | _=>rfl
 have hg:=LV h.hg;simp only [wpOp,ho,Region.wanted,hg,jb];exact .inl (h.h (wR f') vK o rfl w0 O ι a w hs.mP (fun x=>hs.ops x) _ _ fun u w' jU h1 h2 h3=>hK jU _ w' (hs.atB h1 h2 h3 h.hd))
structure Um (st:Nat→Option Nat) (ops:Array Oper) (k m:Nat):Prop where
 one:∀i j c,i<k→j<k→st i=some c→st j=some c→i=j
 lt:∀i c,i<k→st i=some c→c<m
 chain:∀i o c c',i<k→ops[i]?=some o→st i=some c→c'<c→∃j,j<k∧st j=some c'∧xU o j=true
 all:∀c,c<m→∃j,j<k∧st j=some c
def JN (st:List (Option Nat)) (ops:Array Oper) (k m:Nat):Bool:=
 let is:=List.range k
 (is.all fun i=>is.all fun j=>match st.getD i none,st.getD j none with|some c,some c'=>i==j||c !=c'|_,_=>true) &&
 (is.all fun i=>match st.getD i none with|some c=>decide (c<m)&&((List.range c).all fun c'=>is.any fun j=>st.getD j none==some c'&&(match ops[i]? with|some o=>xU o j|none=>false))|none=>true) &&
 ((List.range m).all fun c=>is.any fun j=>st.getD j none==some c)
theorem adK {st:List (Option Nat)} {ops:Array Oper} {k m:Nat} (h:JN st ops k m=true):Um (fun i=>st.getD i none) ops k m:=by
 unfold JN at h;simp only [er] at h;obtain ⟨⟨h1,h2⟩,h3⟩:=h;have m1:∀ {i:Nat},i<k→i∈List.range k:=fun h=>cb;refine ⟨fun i j c hi hj e1 e2=>?_,fun i c hi e=>?_,fun i o c c' hi ho e hc=>?_,fun c hc=>?_⟩
 ·have:=du (du h1 i (m1 hi)) j (m1 hj);simp only [e1,e2] at this;simpa using this
 ·have:=du h2 i (m1 hi);simp only [e,er] at this;simpa using this.1
 ·have:=du h2 i (m1 hi);simp only [e,er] at this;obtain ⟨j,hj,hx⟩:=eS.1 (du this.2 c' (by simpa using hc));simp only [er,jk,ho] at hx;exact ⟨j,db,hx.1,hx.2⟩
 ·obtain ⟨j,hj,hx⟩:=eS.1 (du h3 c (by simpa using hc));exact ⟨j,db,by simpa using hx⟩
theorem aeJ {ops:Array Oper} {D:List (Option Tmp)} {k:Nat} (hD:ops.toList.map (·.dst)=D) (rL:ops.toList.all (wQ D)=true) (hf:Ht D ops k) {st:Nat→Option Nat} {m0:Nat} {HS:Nat→List jy} (wW:Um st ops k m0) (hk:k≤ops.size) {q:Bool} {s1 s':ku} {O:Nat→Prop}
 {g:Nat→Nat→AV} {vs:Nat→AV} (vf:g k=lk s1.env) (jP:∀i o,ops[i]?=some o→i<k→((st i=none∧∀c,c≤m0→xg P n (HS c) (g i) (pU D o) (vs i))∨∃c,st i=some c∧CE P n (HS c) (g i) (pU D o) (vs i) (HS (c+1)))∧g (i+1)=qq (g i) o.dst (vs i)) (JX:HS m0=s1.H)
 (ht:Tr P n q ((ops.toList.drop k).map (pU D)) s1 s') :
 ∀(fuel:Nat) (L:Array Bool) (U:List Nat) (ι:Nat→Option Nat) (c0:Nat) (a:Act) (w:World),c0≤m0→(∀j c,j<k→st j=some c→(L.getD j false=true↔c<c0))→L.size=ops.size→(∀j,j<k→(L.getD j false=false↔j∈U))→U.length+(ops.size-k)≤fuel→(∀j,k≤j→L.getD j false=false)→Cx ops L→rK n w0 O (mix D k (g 0) (g k) L) (HS c0) ι a w →
  wpAny P .any ops (vA w0 O n s') fuel L a w:=by
 have vk:∀(i:Nat) (o:Oper),ops[i]?=some o→D[i]?=some o.dst:=fun i o ho=>bI;have xh:∀t i j,i≤j→j≤k→(∀m,i≤m→m<j→D[m]?≠some (some t))→g j t=g i t:=by
  intro t i j sC;obtain ⟨d,rfl⟩:=gP sC;clear sC
  induction d with
  | zero=>intro _ _;rfl
  | succ d ih =>
    intro Gv mU;generalize KI:i+d=j at ih;have sC:i≤j:=ae;rw [show i+(d+1)=j+1 by omega] at Gv mU ⊢;have ho:ops[j]?=some ops[j]:=dM ae;rw [(jP j _ ho ae).2];unfold qq;rw [iZ (fun e=>mU j sC ae (by rw [vk j _ ho,e]))];exact ih ae fun m hm RM=>mU m hm ae
 have oh:∀j o d,ops[j]?=some o→j<k→o.dst=some d→g k d=vs j∧∀i,j<i→i≤k→g i d=vs j:=by
  intro j o d ho hj hd;have h1:g (j+1) d=vs j:=cU;have h2:∀i,j<i→i≤k→g i d=vs j:=fun i hi oj=>by
   rw [xh d (j+1) i hi oj fun m hm Nk e=>hf.one j m d hj ae ae (by rw [vk j o ho,hd]) e];exact h1
  exact ⟨h2 k hj (dD _),h2⟩
 intro fuel;have FW:∀(L:Array Bool) (ι:Nat→Option Nat) (a:Act) (w:World),L.size=ops.size→(∀j,k≤j→L.getD j false=false)→rK n w0 O (mix D k (g 0) (g k) L) s1.H ι a w→(∀j,j<k→L.getD j false=true)→SR n w0 O s1 ι a w:=by
  intro L ι a w kA hL hs ou;refine ⟨hs.mP,hs.defers,hs.size,hs.hand,fun t=>?_⟩;have h1:=hs.oV t;have h2:mix D k (g 0) (g k) L t=lk s1.env t:=by
   rw [← vf];by_cases hex:∃j,j<k∧D[j]?=some (some t)
   ·obtain ⟨j,hj,hd⟩:=hex;exact uO hj (ou j hj) hd
   ·rw [uM (fun j hj _ hd=>hex ⟨j,hj,hd⟩)];exact (xh t 0 k (dL _) (dD _) fun m _ hm hd=>hex ⟨m,hm,hd⟩).symm
  rwa [h2] at h1
 have As:∀(L:Array Bool) (ι:Nat→Option Nat) (c0:Nat) (a:Act) (w:World) (fuel:Nat),c0≤m0→(∀j c,j<k→st j=some c→(L.getD j false=true↔c<c0))→L.size=ops.size→(∀j,k≤j→L.getD j false=false)→rK n w0 O (mix D k (g 0) (g k) L) (HS c0) ι a w→(∀j,j<k→L.getD j false=true)→ops.size≤k+fuel →
  wpAny P .any ops (vA w0 O n s') fuel L a w:=by
  intro L ι c0 a w fuel l5 qV kA hL hs ou xz;have xF:c0=m0:=by
   rcases eE c0 m0 with h|h
   ·obtain ⟨j,hj,he⟩:=wW.all c0 h;have:=(qV j c0 hj he).1 (ou j hj);omega
   ·omega
  rw [xF,JX] at hs;refine LY hD rL hf fuel k s1 L ι a w (dD _) hk xz kA (fun j hj=>?_) ht (FW L ι a w kA hL hs ou);rcases eE j k with h|h
  ·rw [ou j h];simp [h]
  ·rw [hL j h];simp;omega
 induction fuel with
 | zero =>
   intro L U ι c0 a w l5 qV kA hU hc hL lK hs;have sM:U=[]:=dQ ae;subst sM;exact As L ι c0 a w 0 l5 qV kA hL hs (fun j hj=>by
    cases h:L.getD j false with
    | true=>rfl
    | false=>exact absurd ((hU j hj).1 h) ah) ae
 | succ fuel ih =>
   intro L U ι c0 a w l5 qV kA hU hc hL lK hs;by_cases ou:∀j,j<k→L.getD j false=true
   ·exact As L ι c0 a w _ l5 qV kA hL hs ou ae
   ·have qU:∀i,i<ops.size→L.getD i true=L.getD i false:=fun i hi=>aQ;refine ⟨fun sM=>?_,fun i hi=>?_⟩
    ·exfalso;have hex:∃j,j<k∧L.getD j false=false:=by
      rcases Classical.em (∃j,j<k∧L.getD j false=false) with h|h
      ·exact h
      ·exact absurd (fun j hj=>by
        cases h':L.getD j false with
        | true=>rfl
        | false=>exact absurd ⟨j,hj,h'⟩ h) ou
     obtain ⟨j,hj,AN⟩:=hex;have FX:∀m,(∃j,j<m∧j<k∧L.getD j false=false)→∃j,j<k∧L.getD j false=false∧∀i,i<j→L.getD i false=true:=by
      intro m
      induction m with
      | zero=>rintro ⟨j,h,_⟩;omega
      | succ m Gw =>
        rintro ⟨j,h1,h2,h3⟩;by_cases h:∃j,j<m∧j<k∧L.getD j false=false
        ·exact Gw h
        ·refine ⟨j,h2,h3,fun i hi=>?_⟩;cases h':L.getD i false with
         | true=>rfl
         | false=>exact absurd ⟨i,ae,ae,h'⟩ h
     obtain ⟨j,hj,AN,qZ⟩:=FX (j+1) ⟨j,ae,hj,AN⟩;have:j∈Region.ready .any ops L:=mem_ready.2 ⟨ops[j],dM ae,dn,fun e he hb=>qZ _ (hf.down j _ (dM ae) e he hb)⟩;rw [sM] at this;cases this
    ·obtain ⟨o,ho,h1,h2⟩:=mem_ready.1 hi;have Gx:i<ops.size:=(eP.1 ho).1;rw [qU i Gx] at h1;have oj:i<k:=by
      rcases eE i k with h|h
      ·exact h
      ·exact absurd (fun j hj=>Fv lK 8 (hf.tail i o ho h j ae) h2) ou
     obtain ⟨h3,h4⟩:=jP i o ho oj;have DW:∀t∈Bh D o,mix D k (g 0) (g k) L t=g i t:=fun t Gy=>by
      by_cases hex:∃j,j<k∧D[j]?=some (some t)
      ·obtain ⟨j,hj,hd⟩:=hex;obtain ⟨h5,h6⟩:=hf.reads i o ho oj t Gy j hj hd;have xA:ops[j]?=some ops[j]:=dM ae;have yI:ops[j].dst=some t:=by have:=vk j _ xA;rw [hd] at this;injection this with this;exact this.symm
       rw [uO hj (Ch h6 h2) hd,(oh j _ t xA hj yI).1,(oh j _ t xA hj yI).2 i h5 ae]
      ·rw [uM (fun j hj _ hd=>hex ⟨j,hj,hd⟩)];exact (xh t 0 i (dL _) ae fun m _ hm hd=>hex ⟨m,ae,hd⟩).symm
     have Gz:i∈U:=(hU i oj).1 h1;have wX:∀(jU:Nat→Option Nat) (c1:Nat) (a':Act) (w':World),c1≤m0→(∀j c,j<k→st j=some c→((L.setIfInBounds i true).getD j false=true↔c<c1))→rK n w0 O (qq (mix D k (g 0) (g k) L) o.dst (vs i)) (HS c1) jU a' w' →
      wpAny P .any ops (vA w0 O n s') fuel (L.setIfInBounds i true) a' w':=by
      intro jU c1 a' w' nU Bu ma;refine ih (L.setIfInBounds i true) (U.filter (· !=i)) jU c1 a' w' nU Bu (by simp [kA]) (fun j hj=>?_) ?_ (fun j hj=>?_) (lK.set ho ae h2) ?_
      ·simp only [dH,dZ,List.mem_filter];by_cases e:i=j
       ·subst e;simp [show i<L.size by omega]
       ·have:=hU j hj;simp only [dH] at this;simp only [e,jc,this,bne_iff_ne,ne_eq];exact ⟨fun h=>⟨h,fun h'=>e h'.symm⟩,fun h=>h.1⟩
      ·have:(U.filter (· !=i)).length<U.length:=by
        have h7:=fO (l:=U) (p:=(· !=i));exact h7.2 ⟨i,Gz,ah⟩
       omega
      ·simp only [dH,dZ];have:=hL j hj;simp only [dH] at this;rw [iZ ae];exact this
      ·have wS:mix D k (g 0) (g k) (L.setIfInBounds i true)=qq (mix D k (g 0) (g k) L) o.dst (vs i):=by
        funext t
        unfold qq;by_cases e:o.dst=some t
        ·rw [ja e,uO oj bR (by rw [vk i o ho,e]),(oh i o t ho oj e).1]
        ·rw [iZ e];have yz:∀j,D[j]?=some (some t)→(L.setIfInBounds i true).getD j false=L.getD j false:=by
          intro j hd;have lO:i≠j:=fun e'=>bF;simp only [dH,dZ,lO,jc]
         by_cases hex:∃j,j<k∧L.getD j false=true∧D[j]?=some (some t)
         ·obtain ⟨j,hj,hl,hd⟩:=hex;rw [uO hj hl hd,uO hj (by rw [yz j hd];exact hl) hd]
         ·rw [uM (fun j hj hl hd=>hex ⟨j,hj,hl,hd⟩),uM (fun j hj hl hd=>hex ⟨j,hj,by rw [← yz j hd];exact hl,hd⟩)]
       rw [wS];exact ma
     have lF:∀j,(L.setIfInBounds i true).getD j false=if i=j then true else L.getD j false:=fun j=>by
      simp only [dH,dZ];by_cases e:i=j
      ·subst e;simp [show i<L.size by omega]
      ·simp [e]
     have Kc:=du rL o bB;rcases h3 with ⟨hn,h3⟩|⟨c,lC,h3⟩
     ·refine (h3 c0 l5).run hD ho Kc DW hs fun a' w' ma=>wX ι c0 a' w' l5 (fun j c hj he=>?_) ma;rw [lF,iZ (fun e=>by subst e;rw [hn] at he;cases he)];exact qV j c hj he
     ·have pO:c=c0:=by
       have h5:¬c<c0:=fun h=>by have:=(qV i c oj lC).2 h;rw [h1] at this;cases this
       rcases eE c0 c with h|h
       ·obtain ⟨j,hj,he,BL⟩:=wW.chain i o c c0 oj ho lC h;have:=(qV j c0 hj he).1 (Ch BL h2);omega
       ·omega
      subst pO;refine h3.run ho DW hs fun jU a' w' ma=>wX jU (c+1) a' w' (wW.lt i c oj lC) (fun j d hj he=>?_) ma;rw [lF];by_cases e:i=j
      ·subst e;rw [lC] at he;injection he with he;subst he;simp
      ·rw [iZ e,qV j d hj he];have:d≠c:=fun h=>e (wW.one i j c oj hj lC (h▸he));omega
inductive ue (P:Program) (n:Fr) (HS:Nat→List jy) (m:Nat):List lx→List (Option Nat)→Env→Env→Prop
 | nil (E:Env):ue P n HS m [] [] E E
 | q (o:lx) (l:List lx) (sl:List (Option Nat)) (E:Env) (v:AV) (E':Env) (h:∀c,c≤m→xg P n (HS c) (lk E) o v) (hr:ue P n HS m l sl (mF E o.dst v) E'):ue P n HS m (o::l) (none::sl) E E'
 | p (o:lx) (l:List lx) (sl:List (Option Nat)) (E:Env) (v:AV) (E':Env) (c:Nat) (h:CE P n (HS c) (lk E) o v (HS (c+1))) (hr:ue P n HS m l sl (mF E o.dst v) E'):ue P n HS m (o::l) (some c::sl) E E'
theorem ue.all {HS:Nat→List jy} {m:Nat}:∀ {l:List lx} {sl:List (Option Nat)} {E E':Env},ue P n HS m l sl E E'→∃(g:Nat→Nat→AV) (vs:Nat→AV),g 0=lk E∧g l.length=lk E' ∧
 ∀i o,l[i]?=some o→((sl.getD i none=none∧∀c,c≤m→xg P n (HS c) (g i) o (vs i))∨∃c,sl.getD i none=some c∧CE P n (HS c) (g i) o (vs i) (HS (c+1)))∧g (i+1)=qq (g i) o.dst (vs i)
 | _,_,E,_,.nil _=>⟨fun _=>lk E,fun _=>.bad,rfl,rfl,fun i o h=>bQ⟩
 | _,_,E,E',.q o l sl _ v _ h hr=>by
   obtain ⟨g,vs,h4,h5,h6⟩:=hr.all;refine ⟨fun i=>match i with|0=>lk E|i+1=>g i,fun i=>match i with|0=>v|i+1=>vs i,rfl,h5,fun i o' pV=>?_⟩;cases i with
   | zero =>
     simp at pV;subst pV;exact ⟨.inl ⟨rfl,h⟩,dk⟩
   | succ i=>exact h6 i o' (by simpa using pV)
 | _,_,E,E',.p o l sl _ v _ c h hr=>by
   obtain ⟨g,vs,h4,h5,h6⟩:=hr.all;refine ⟨fun i=>match i with|0=>lk E|i+1=>g i,fun i=>match i with|0=>v|i+1=>vs i,rfl,h5,fun i o' pV=>?_⟩;cases i with
   | zero =>
     simp at pV;subst pV;exact ⟨.inr ⟨c,rfl,h⟩,dk⟩
   | succ i=>exact h6 i o' (by simpa using pV)
theorem jG.apQ {id:Nat} {ops:Array Oper} {D:List (Option Tmp)} {k:Nat} {l1 l2:List lx} {Q:Exit→ku→Prop} {s:ku} (sl:List (Option Nat)) (HS:Nat→List jy) (m:Nat) (hm:P.follows .mixedOrders=true) (h:Bt ops k D l1 l2)
 (hg:JN sl ops k m=true) (h0:HS 0=s.H) {E':Env} (h1:ue P n HS m l1 sl s.env E') (hr:jB P n false l2 (Q .normal) ⟨E',HS m⟩):jG P n (.region id ops true) Q s:=by
 intro w0 O ι a w hs;obtain ⟨hD,rL,hf,hk,oA,nL⟩:=h;obtain ⟨s',h2,h3⟩:=hr;have key:(Code.region id ops true).wp P (vA w0 O n s') a w:=by
  refine wp_region_any hm ?_;obtain ⟨g,vs,EB,vf,jP⟩:=h1.all;have hlen:l1.length=k:=by rw [← oA];simp;omega
  rw [hlen] at vf;have hb:Below w.heap.size w { w with drawn:=w.drawn+1 }:=(Below.refl _ _).drew;refine aeJ (s1:=⟨E',HS m⟩) (st:=fun i=>sl.getD i none) hD rL (LR hf) (adK hg) hk (g:=g) (vs:=vs) vf (fun i o ho hi=>?_) rfl (by rw [nL];exact h2) ops.size _ (List.range k) ι 0 a _ (dL _) (fun j c hj hc=>?_) ah (fun j hj=>?_) aj (fun j hj=>?_) (fun j o' _ hj=>aY) ?_
  ·exact jP i (pU D o) bC
  ·simp only [dH,eK];split<;>simp
  ·simp [dH,hj,eK];split<;>rfl
  ·simp only [dH,eK];split<;>rfl
  ·rw [h0];refine ⟨hs.mP.quiet hb,hs.defers,hs.size,hs.hand,fun t=>?_⟩;have:mix D k (g 0) (g k) (Array.replicate ops.size false) t=lk s.env t:=by
    rw [uM,EB];intro j hj hl;simp only [dH,eK] at hl;split at hl<;>cases hl
   rw [this];exact (hs.oV t).mono (mj.quiet hs.mP hb)
 refine jh key ?_;rintro e a w ⟨rfl,jU,h⟩;exact ⟨s',jU,h3,h⟩
theorem ue.q1 {HS:Nat→List jy} {m:Nat} {o:lx} {l:List lx} {sl:List (Option Nat)} {E E':Env} {v:AV} (hg:o.g=none) (hd:mB n o.dst=true) (h:∀c,c≤m→QL P (HS c) (ev E) o.op v) (hr:ue P n HS m l sl (mF E o.dst v) E'):ue P n HS m (o::l) (none::sl) E E':=
 .q o l sl E v E' (fun c hc=>.q1 v hg hd (by rw [show wR (lk E)=ev E from funext fun x=>(HQ E x).symm];exact (h c hc).t)) hr
theorem ue.p1 {HS:Nat→List jy} {m:Nat} {o:lx} {l:List lx} {sl:List (Option Nat)} {E E':Env} {v:AV} {c:Nat} (hg:o.g=none) (hd:mB n o.dst=true) (h:Ns P (HS c) (ev E) o.op v (HS (c+1))) (hr:ue P n HS m l sl (mF E o.dst v) E'):ue P n HS m (o::l) (some c::sl) E E':=
 .p o l sl E v E' c ⟨hg,hd,by rw [show wR (lk E)=ev E from funext fun x=>(HQ E x).symm];exact h⟩ hr
end
theorem ue.RX {P:Program} {n:Fr} {HS:Nat→List jy} {o:lx} {l:List lx} {sl:List (Option Nat)} {E E':Env} {v:AV} (hg:o.g=none) (hd:mB n o.dst=true) (h0:qe P (HS 0) (ev E) o.op=some v) (h1:qe P (HS 1) (ev E) o.op=some v)
 (hr:ue P n HS 1 l sl (mF E o.dst v) E'):ue P n HS 1 (o::l) (none::sl) E E':=
 .q1 hg hd (fun c hc=>HL cL) hr
theorem ue.RY {P:Program} {n:Fr} {HS:Nat→List jy} {o:lx} {l:List lx} {sl:List (Option Nat)} {E E':Env} {v:AV} (hg:o.g=none) (hd:mB n o.dst=true) (h0:qe P (HS 0) (ev E) o.op=some v) (h1:qe P (HS 1) (ev E) o.op=some v) (h2:qe P (HS 2) (ev E) o.op=some v)
 (hr:ue P n HS 2 l sl (mF E o.dst v) E'):ue P n HS 2 (o::l) (none::sl) E E':=
 .q1 hg hd (fun c hc=>HL (by rcases (by omega:c=0∨c=1∨c=2) with h|h|h<;>subst h<;>assumption)) hr
def ko (P:Program) (n:Fr) (HS:Nat→List jy) (m:Nat) (l:List lx) (sl:List (Option Nat)) (K:Env→Prop) (E:Env):Prop:=∃E',ue P n HS m l sl E E'∧K E'
section
variable {P:Program} {n:Fr} {HS:Nat→List jy} {m:Nat} {o:lx} {l:List lx} {sl:List (Option Nat)} {E:Env} {v:AV} {K:Env→Prop}
theorem ko.nil (h:K E):ko P n HS m [] [] K E:=⟨E,.nil E,h⟩
theorem ko.q1 (hg:o.g=none) (hd:mB n o.dst=true) (h:∀c,c≤m→QL P (HS c) (ev E) o.op v) (hr:ko P n HS m l sl K (mF E o.dst v)):ko P n HS m (o::l) (none::sl) K E:=
 let ⟨E',h1,h2⟩:=hr;⟨E',.q1 hg hd h h1,h2⟩
theorem ko.p1 {c:Nat} (hg:o.g=none) (hd:mB n o.dst=true) (h:Ns P (HS c) (ev E) o.op v (HS (c+1))) (hr:ko P n HS m l sl K (mF E o.dst v)):ko P n HS m (o::l) (some c::sl) K E:=
 let ⟨E',h1,h2⟩:=hr;⟨E',.p1 hg hd h h1,h2⟩
theorem ko.RX (hg:o.g=none) (hd:mB n o.dst=true) (h0:qe P (HS 0) (ev E) o.op=some v) (h1:qe P (HS 1) (ev E) o.op=some v) (hr:ko P n HS 1 l sl K (mF E o.dst v)):ko P n HS 1 (o::l) (none::sl) K E:=
 let ⟨E',h3,h4⟩:=hr;⟨E',.RX hg hd h0 h1 h3,h4⟩
theorem ko.RY (hg:o.g=none) (hd:mB n o.dst=true) (h0:qe P (HS 0) (ev E) o.op=some v) (h1:qe P (HS 1) (ev E) o.op=some v) (h2:qe P (HS 2) (ev E) o.op=some v) (hr:ko P n HS 2 l sl K (mF E o.dst v)):ko P n HS 2 (o::l) (none::sl) K E:=
 let ⟨E',h3,h4⟩:=hr;⟨E',.RY hg hd h0 h1 h2 h3,h4⟩
theorem jG.apR {id:Nat} {ops:Array Oper} {D:List (Option Tmp)} {k:Nat} {l1 l2:List lx} {Q:Exit→ku→Prop} {s:ku} (sl:List (Option Nat)) (HS:Nat→List jy) (m:Nat) (hm:P.follows .mixedOrders=true) (h:Bt ops k D l1 l2)
 (hg:JN sl ops k m=true) (h0:HS 0=s.H) (h1:ko P n HS m l1 sl (fun E'=>jB P n false l2 (Q .normal) ⟨E',HS m⟩) s.env):jG P n (.region id ops true) Q s:=
 let ⟨E',h3,h4⟩:=h1;.apQ sl HS m hm h hg h0 h3 h4
end
def cut (ks:List Nat):Env→Env
 | []=>[]
 | (t,v)::r=>if t∈ks then cut ks r else (t,v)::cut (t::ks) r
def keys (E:Env):List Nat:=E.map (·.1)
theorem ajP (ks:List Nat):cut ks []=[]:=rfl
theorem ahB (ks:List Nat) (t:Nat) (v:AV) (r:Env):cut ks ((t,v)::r)=if t∈ks then cut ks r else (t,v)::cut (t::ks) r:=rfl
theorem keys_nil:keys []=[]:=rfl
theorem keys_cons (t:Nat) (v:AV) (r:Env):keys ((t,v)::r)=t::keys r:=rfl
attribute [go_sem] ajP ahB keys_nil keys_cons
section
variable {P:Program} {n:Fr} {Q:Exit→ku→Prop} {s:ku}
theorem jG.Qe {X:Type} (J:X→Prop) (pre:X→Env) (μ:X→Nat) {c:Code} (x0:X) (h0:J x0) (hw:Wk n s ⟨pre x0++cut (keys (pre x0)) s.env,s.H⟩)
 (hr:∀x,J x→jG P n c (xY (fun s'=>∃y,J y∧μ y<μ x∧Wk n s' ⟨pre y++cut (keys (pre y)) s.env,s.H⟩) Q) ⟨pre x++cut (keys (pre x)) s.env,s.H⟩):jG P n (.loop c) Q s:=
 jG.loop J (fun x=>⟨pre x++cut (keys (pre x)) s.env,s.H⟩) μ x0 h0 hw hr
end
section
variable {P:Program} {H:List jy} {ρ:Operand→AV}
theorem ajQ {α:Type} [Inhabited α] {t el:TypeId} {x i:Operand} {k:IntKind} {n:Int} {l:List α} {f:α→AV} (hx:ρ x=.jA (l.map f)) (hi:ρ i=.base (.int k n)) (ht:P.underlying t=some (.slice el))
 (h0:0≤n) (he:n<l.length) (kA:lW P el=some (f (nth default l n)).cells.length):QL P H ρ (.indexAddr t x i) (.kN (f (nth default l n)) 0):=
 uN default hx hi ht h0 he kA
theorem ajR {op:Op} {v:AV} (h:qe P H ρ op=some v):QL P H ρ op v:=fun o ho=>LX (by rw [ho];exact h)
theorem adU {α:Type} {t:TypeId} {x:Operand} {b tot i ty sz:Nat} {l:List α} {f:α→AV} {v:AV} (d:α) (n:Int) (hx:ρ x=.ptr b tot i 0) (hb:H[b]?=some ⟨ty,sz,l.map f⟩) (ht:l.length=tot)
 (hn:i=n.toNat) (hi:i<l.length) (BM:uB (mE P t) (lW P t) (f (nth d l n)) 0=some v):QL P H ρ (.load t x) v:=by
 refine ajR ?_;subst hn;have e:(l.map f)[n.toNat]?=some (f (nth d l n)):=by rw [dE,dy hi];simp [Vv hi]
 simp only [qe,hx,hb,eo,ht,jb,e,BM]
theorem xc {α:Type} {t:TypeId} {x y:Operand} {b tot i ty sz:Nat} {l:List α} {f:α→AV} (v:α) (hx:ρ x=.ptr b tot i 0) (hy:ρ y=f v) (hb:H[b]?=some ⟨ty,sz,l.map f⟩) (ht:l.length=tot)
 (hi:i<l.length) (kA:lW P t=some (f v).cells.length) (hc:ru (f v)=true) (jP:BK (f l[i]) 0 (f v).cells=some (f v)) (hmt:ty<pj:=by decide):PL P H ρ (.store t x y) .bad (H.set b ⟨ty,sz,(l.set i v).map f⟩):=by
 rw [fJ];exact qP (e:=f l[i]) hx hy hb (by simpa using ht) (by rw [dE,dy hi];rfl) kA hc jP hmt
end
theorem rP.vE {α:Type} {H:List jy} {b k ty sz:Nat} {l:List α} {f:α→AV} (h:H[b]?=some ⟨ty,sz,l.map f⟩) (hk:l.length=k) (hp:∀x∈l,∀c∈(f x).cells,Pu c):rP H (.own b k 0 k) (.jA (l.map f)):=
 .own h (by simpa using hk) ae (by simpa using hk) fun i e d hi he hd=>by
  simp only [ft] at he;rw [he] at hd;injection hd with hd;subst hd;refine ⟨rfl,fun j c c' hc lC=>?_⟩;rw [hc] at lC;injection lC with lC;subst lC;rw [dE,eL] at he;obtain ⟨x,hx,rfl⟩:=he;exact .pu (hp x (dx hx) c (dx hc))
theorem pX.vE {α:Type} {H:List jy} {b n k ty sz:Nat} {l:List α} {f:α→AV} (hk:k≤b) (h:H[b]?=some ⟨ty,sz,l.map f⟩) (hn:l.length=n) (hp:∀x∈l,∀c∈(f x).cells,Pu c):pX H k (.own b n 0 n) (.jA (l.map f)):=
 .jA hk h (by simpa using hn) ae (by simpa using hn) fun i e d hi he hd=>by
  simp only [ft] at he;rw [he] at hd;injection hd with hd;subst hd;refine ⟨rfl,fun j c c' hc lC=>?_⟩;rw [hc] at lC;injection lC with lC;subst lC;rw [dE,eL] at he;obtain ⟨x,hx,rfl⟩:=he;exact .pu (hp x (dx hx) c (dx hc))
def CN (H:List jy) (k:Nat):List AV→List AV→Prop
 | [],[]=>True
 | a::l,b::m=>pX H k a b∧CN H k l m
 | _,_=>False
theorem CN.len {H:List jy} {k:Nat}:∀ {l m:List AV},CN H k l m→l.length=m.length
 | [],[],_=>rfl
 | _::l,_::m,h=>by simp [CN.len h.2]
theorem CN.get {H:List jy} {k:Nat}:∀ {l m:List AV},CN H k l m→∀(j:Nat) (a b:AV),l[j]?=some a→m[j]?=some b→pX H k a b
 | _::l,_::m,h,0,a,b,h1,h2=>bZ
 | _::l,_::m,h,j+1,a,b,h1,h2=>CN.get h.2 j a b h1 h2
theorem pX.Az {H:List jy} {k:Nat} {cs ds:List AV} (h:CN H k cs ds):pX H k (.ky cs) (.ky ds):=.ky h.len h.get
theorem pX.F2 {H:List jy} {k:Nat} {cs ds:List AV} (h:CN H k cs ds):pX H k (.agg cs) (.agg ds):=.agg h.len h.get
end Go.Ab
namespace Go.Ab
theorem atC:(default:Int)=0:=rfl
attribute [go_sem] atC
open Go Go.RowKit
section
variable {P:Program} {H:List jy} {ρ:Operand→AV}
theorem amQ {x y:Operand} {ts:Array TypeId} {k:IntKind} {a b:Int} (hx:ρ x=.base (.int k a)) (hy:ρ y=.base (.int k b)):QL P H ρ (.call { callee:=.builtin .min,args:=#[x,y],argTypes:=ts }) (.base (.int k (min a b))):=by
 refine QL.ql fun w0 O ι A w hs hv o ho=>?_;have h1:=hv x ai;have h2:=hv y ai;rw [hx] at h1;rw [hy] at h2;have h1:=h1.nO;have h2:=h2.nO;refine ⟨.int k (if b<a then b else a),?_,by rw [show (if b<a then b else a)=min a b by omega];exact .base _⟩;simp only [execOp,ho,resolve,invoke,builtin,dR,dV,dN,gz,ef,ez,h1,h2,Builtin.min_,List.foldlM_cons,List.foldlM_nil,Builtin.min2]
theorem amR {x y:Operand} {ts:Array TypeId} {k:IntKind} {a b:Int} (hx:ρ x=.base (.int k a)) (hy:ρ y=.base (.int k b)):QL P H ρ (.call { callee:=.builtin .max,args:=#[x,y],argTypes:=ts }) (.base (.int k (max a b))):=by
 refine QL.ql fun w0 O ι A w hs hv o ho=>?_;have h1:=hv x ai;have h2:=hv y ai;rw [hx] at h1;rw [hy] at h2;have h1:=h1.nO;have h2:=h2.nO;refine ⟨.int k (if b>a then b else a),?_,by rw [show (if b>a then b else a)=max a b by omega];exact .base _⟩;simp only [execOp,ho,resolve,invoke,builtin,dR,dV,dN,gz,ef,ez,h1,h2,Builtin.max_,List.foldlM_cons,List.foldlM_nil,Builtin.max2]
end
section
variable {P:Program} {H:List jy} {ρ:Operand→AV}
end
section
variable {P:Program} {H:List jy} {ρ:Operand→AV}
theorem DX {t el:TypeId} {len size:Nat} {parts:Array (Nat×Operand)} {es:List AV} (ht:P.underlying t=some (.slice el)) (kA:lW P el=some size) (tN:0<size) (hz:(qd P el).map (fun z=>z.cells.length)=some size) (hlen:len*size≤16777216)
 (hp:zy size len (parts.toList.map fun (i,x)=>(i,ρ x))=true) (rC:(parts.toList.map fun (i,x)=>ρ x)=es) (hle:es.length=len) :
 QL P H ρ (.buildSlice t len parts) (.jA es):=Al tN ht kA hz hlen hp rC hle
end
attribute [go_sem] Nat.reduceAdd
abbrev zs:=@jG.seq
abbrev zN:=@jB.nil
abbrev z1:=@ajK
abbrev z2:=@ajL
abbrev z3:=@ajM
abbrev z4:=@amH
abbrev z5:=@amI
abbrev z6:=@amJ
abbrev z7:=@amK
abbrev zb:=@jG.block
abbrev zk:=@jG.skip
abbrev zr:=@jG.ret
abbrev ze:=@jG.exit
abbrev y1:=@amL
abbrev y2:=@amM
abbrev zR:=@jG.ajJ
abbrev zG:=@jB.go
abbrev zp:=@jB.p1
abbrev zq:=@jB.q1
section
variable {P:Program} {H:List jy} {ρ:Operand→AV}
theorem qi {α:Type} [Inhabited α] {t el:TypeId} {x i:Operand} {k:IntKind} {n:Int} {l:List α} {f:α→AV} (hx:ρ x=.jA (l.map f)) (hi:ρ i=.base (.int k n)) (ht:P.underlying t=some (.slice el))
 (h:0≤n∧n<l.length) (kA:lW P el=some (f (nth default l n)).cells.length):QL P H ρ (.indexAddr t x i) (.kN (f (nth default l n)) 0):=ajQ hx hi ht h.1 h.2 kA
theorem qo {t el:TypeId} {x i:Operand} {k:IntKind} {n:Int} {b tot off len:Nat} {blk:jy} (hx:ρ x=.own b tot off len) (hi:ρ i=.base (.int k n)) (ht:P.underlying t=some (.slice el))
 (hb:H[b]?=some blk) (h:blk.es.length=tot∧0≤n∧n<len) (kA:lW P el=some blk.sz):QL P H ρ (.indexAddr t x i) (.ptr b tot (off+n.toNat) 0):=TM hx hi ht hb h.1 h.2.1 h.2.2 kA
theorem qw {α:Type} {t:TypeId} {x:Operand} {b tot i ty sz:Nat} {l:List α} {f:α→AV} {v:AV} (d:α) (n:Int) (hx:ρ x=.ptr b tot i 0) (hb:H[b]?=some ⟨ty,sz,l.map f⟩) (hn:i=n.toNat) (h:l.length=tot∧i<l.length)
 (BM:uB (mE P t) (lW P t) (f (nth d l n)) 0=some v):QL P H ρ (.load t x) v:=adU d n hx hb h.1 hn h.2 BM
theorem qb {t el:TypeId} {len size:Nat} {parts:Array (Nat×Operand)} {es:List AV} (ht:P.underlying t=some (.slice el)) (kA:lW P el=some size) (h:0<size∧len*size≤16777216) (hz:(qd P el).map (fun z=>z.cells.length)=some size)
 (hp:zy size len (parts.toList.map fun (i,x)=>(i,ρ x))=true) (rC:(parts.toList.map fun (i,x)=>ρ x)=es) (hle:es.length=len) :
 QL P H ρ (.buildSlice t len parts) (.jA es):=Al h.1 ht kA hz h.2 hp rC hle
end
abbrev qn:=@amQ
abbrev qx:=@amR
end Go.Ab
