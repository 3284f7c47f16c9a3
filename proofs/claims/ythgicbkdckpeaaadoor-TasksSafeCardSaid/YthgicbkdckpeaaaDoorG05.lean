/- The evaluation's own set of equations, and small rules for use. -/
import Derived.Maps.AppendAt
import Derived.Test.YthgicbkdckpeaaaDoorG04
set_option linter.unusedSimpArgs false
set_option linter.unusedVariables false
namespace Go.Ab
open Go Go.RowKit
attribute [go_sem] memSlot cv batch qstep qfun ev lk putE stripA stripL wrapL gval lite gc ldE binF intBin strBin boolBin lenF pickF fieldF fresh resVal resVals ldPtr packA AV.cells bnd
theorem dstOk_none (n:Fr):dstOk n none=true:=rfl
theorem Fr_n (k:Nat):(OfNat.ofNat k:Fr).n=k:=rfl
theorem Fr_m (k:Nat):(OfNat.ofNat k:Fr).m=0:=rfl
attribute [go_sem] Fr_n Fr_m
theorem dstOk_some (n:Fr) (t:Nat):dstOk n (some t)=decide (t<n.n):=by
 rw [Bool.eq_iff_iff];simp [dstOk]
attribute [go_sem] dstOk_none dstOk_some
section
variable {P:Program} {n:Fr} {K:ASt→Prop} {Q:Exit→ASt→Prop} {s:ASt}
theorem ARun.go {q:Bool} {o:LOp} {l r:List LOp} {s0 s1:ASt} (h:qstep P n o s=some s0) (h2:Go.Ab.batch P n l s0=(r,s1)) (hr:ARun P n q r K s1):ARun P n q (o::l) K s:=
 ARun.batch (l:=o::l) (by simp only [Ab.batch,h];exact h2) hr
def RegL (ops:Array Oper) (D:List (Option Tmp)) (l:List LOp):Prop:=ops.toList.map (·.dst)=D∧ops.toList.all (gOk D)=true∧ops.toList.map (lite D)=l
theorem AWp.regionL {id:Nat} {ops:Array Oper} {D:List (Option Tmp)} {l:List LOp} (h:RegL ops D l) (hr:ARun P n false l (Q .normal) s):AWp P n (.region id ops false) Q s:=AWp.region h.1 h.2.1 h.2.2 hr
def RegD (ops:Array Oper) (k:Nat) (D:List (Option Tmp)) (l1 l2:List LOp):Prop:=
 ops.toList.map (·.dst)=D∧ops.toList.all (gOk D)=true∧drawOk D ops k=true∧k≤ops.size∧(ops.toList.take k).map (lite D)=l1∧(ops.toList.drop k).map (lite D)=l2
theorem AWp.drawL {id:Nat} {ops:Array Oper} {D:List (Option Tmp)} {k:Nat} {l1 l2:List LOp} (hm:P.follows .mixedOrders=true) (h:RegD ops k D l1 l2)
 (hr:ARun P n true l1 (fun s1=>ARun P n false l2 (Q .normal) s1) s):AWp P n (.region id ops true) Q s:=AWp.draw hm h.1 h.2.1 h.2.2.1 h.2.2.2.1 h.2.2.2.2.1 h.2.2.2.2.2 hr
theorem thenQ_n (h:K s):thenQ K Q .normal s:=h
theorem thenQ_r (h:Q .ret s):thenQ K Q .ret s:=h
theorem thenQ_e {id:Nat} (h:Q (.exit id) s):thenQ K Q (.exit id) s:=h
theorem blkQ_n {id:Nat} (h:Q .normal s):blkQ id Q .normal s:=h
theorem blkQ_r {id:Nat} (h:Q .ret s):blkQ id Q .ret s:=h
theorem blkQ_e {id:Nat} (h:Q .normal s):blkQ id Q (.exit id) s:=by simpa [blkQ] using h
theorem blkQ_o {id id':Nat} (hne:(id'==id)=false) (h:Q (.exit id') s):blkQ id Q (.exit id') s:=by
 simp only [blkQ];rw [if_neg (by simpa using hne)];exact h
theorem retQ_n {rs:List ResultVar} {d:AV} (h:Ret P rs d s):retQ P rs d .normal s:=h
theorem retQ_r {rs:List ResultVar} {d:AV} (h:Ret P rs d s):retQ P rs d .ret s:=h
theorem Ret.data {rs:List ResultVar} {d:AV} {vs:List AV} (h:resVals P s rs=some vs) (he:packA vs=d) (hp:Pu d):Ret P rs d s:=⟨vs,h,by rw [he];exact .pu hp⟩
theorem Ret.pub {rs:List ResultVar} {d:AV} {vs:List AV} (h:resVals P s rs=some vs) (hp:Pub s.H 0 (packA vs) d):Ret P rs d s:=⟨vs,h,hp⟩
end
def WkE (E:Env):Env→Prop
 | []=>True
 | (t,v)::r=>Le (lk E t) v∧WkE E r
theorem WkE.all {E:Env}:∀ {E2:Env},WkE E E2→∀p∈E2,Le (lk E p.1) p.2
 | [],_,p,h=>by cases h
 | (t,v)::r,⟨h1,h2⟩,p,h=>by
   rcases List.mem_cons.1 h with rfl|h
   ·exact h1
   ·exact WkE.all h2 p h
theorem Wk.env' {n:Fr} {E E2:Env} {H:List ABlk} (h:WkE E E2):Wk n ⟨E,H⟩ ⟨E2,H⟩:=.env h.all
theorem Le_self (a:AV):Le a a=True:=by simp [Le.refl]
theorem Le_bad (a:AV):Le a .bad=True:=by simp [Le.bad]
theorem Le_ut (a:AV):Le (.under true a) a=True:=by simp [Le.under_true]
attribute [go_sem] WkE Le_self Le_bad Le_ut
def WkP (H:List ABlk) (k:Nat) (E:Env):Env→Prop
 | []=>True
 | (t,v)::r=>Pub H k (lk E t) v∧WkP H k E r
theorem WkP.all {H:List ABlk} {k:Nat} {E:Env}:∀ {E2:Env},WkP H k E E2→∀p∈E2,Pub H k (lk E p.1) p.2
 | [],_,p,h=>by cases h
 | (t,v)::r,⟨h1,h2⟩,p,h=>by
   rcases List.mem_cons.1 h with rfl|h
   ·exact h1
   ·exact WkP.all h2 p h
theorem Wk.trimM {n:Fr} {E E2:Env} {H H2:List ABlk} (k:Nat) (hm:n.m≤k) (h2:H.take k=H2) (h:WkP H k E E2) (hc:∀blk∈H2,∀e∈blk.es,∀c∈e.cells,Pub H k c c):Wk n ⟨E,H⟩ ⟨E2,H2⟩:=by
 subst h2;exact .trim k hm h.all hc
theorem Wk.trim' {nn:Nat} {E E2:Env} {H H2:List ABlk} (k:Nat) (h2:H.take k=H2) (h:WkP H k E E2) (hc:∀blk∈H2,∀e∈blk.es,∀c∈e.cells,Pub H k c c):Wk (OfNat.ofNat nn) ⟨E,H⟩ ⟨E2,H2⟩:=.trimM k (Nat.zero_le _) h2 h hc
theorem Wk.refl {n:Fr} (s:ASt):Wk n s s:=fun w0 O ι a w h=>⟨ι,h⟩
theorem wrap_id {x:Int} (h1:-9223372036854775808≤x) (h2:x≤9223372036854775807):IntKind.i64.wrap x=x:=by
 exact IntWalk.i64_in _ ⟨h1,h2⟩
theorem wrap_succ {n:Nat} (h:n<9223372036854775807):IntKind.i64.wrap ((n:Int)+1)=((n+1:Nat):Int):=by
 rw [wrap_id (by omega) (by omega)];rfl
theorem Fn.intro' {P:Program} {f:FuncId} {fn:Func} {c:Code} {args:List AV} {d:AV} (E:Env) (m n:Nat) (hf:P.funcs[f]?=some fn) (hn:(fn.name == "runtime.NumGoroutine")=false) (hb:fn.body=some c)
 (hm:args.length=m) (hnt:fn.ntmps=n) (ha:Nat.ble m n=true) (hE:args.zipIdx.map (fun (a,i)=>(i,a))=E)
 (h:AWp P (OfNat.ofNat n) c (retQ P fn.results.toList d) ⟨E,[]⟩):Fn P f args d:=by
 refine Fn.intro hf hn hb (by rw [hm,hnt];exact Nat.le_of_ble_eq_true ha) ?_
 rw [hE,hnt];exact h
theorem FnM.intro' {P:Program} {mm:List (Nat × Obj)} {f:FuncId} {fn:Func} {c:Code} {args:List AV} {d:AV} (E:Env) (m n:Nat) (hf:P.funcs[f]?=some fn) (hn:(fn.name == "runtime.NumGoroutine")=false) (hb:fn.body=some c)
 (hm:args.length=m) (hnt:fn.ntmps=n) (ha:Nat.ble m n=true) (hE:args.zipIdx.map (fun (a,i)=>(i,a))=E)
 (h:AWp P (OfNat.ofNat n) c (retQ P fn.results.toList d) ⟨E++[(memSlot,.mem mm)],[]⟩) (hms:Nat.ble n memSlot=true:=by rfl):FnM P mm f args d:=by
 refine FnM.intro hf hn hb (by rw [hm,hnt];exact Nat.le_of_ble_eq_true ha) ?_ (by rw [hnt];exact Nat.le_of_ble_eq_true hms)
 rw [hE,hnt];exact h
end Go.Ab
namespace Go.Ab
open Go Go.RowKit
def isOne:AV→Bool
 | .base v=>v.oneCell'
 | .lst _ | .own _ _ _ _ | .ptr _ _ _ _ | .iptr _ _ | .clo _ _ | .mapv _=>true
 | _=>false
attribute [go_sem] isOne Value.oneCell'
section
variable {P:Program} {w w':World} {w0:Base} {O:Nat→Prop} {ι:Nat→Option Nat} {H:List ABlk} {u:Value}
theorem VR.one {c:AV} (h:isOne c=true) (hv:VR w O ι H c u):u.oneCell'=true∧u.cells=#[u]:=by
 cases hv<;>first
  | (exact ⟨rfl,rfl⟩)
  | (simp [isOne] at h;done)
  | (cases u<;>simp_all [isOne,Value.oneCell',Value.cells])
def okCells (v:AV):Bool:=match v with
 | .agg cs=>cs.all isOne
 | v=>isOne v
theorem VR.cells {v:AV} (h:okCells v=true) (hv:VR w O ι H v u):u.cells.size=v.cells.length∧(∀(j:Nat) (c:AV) (x:Value),v.cells[j]?=some c→u.cells[j]?=some x→VR w O ι H c x)∧∀x∈u.cells,x.oneCell'=true:=by
 cases v with
 | agg cs =>
   obtain ⟨arr,rfl,h1,h2⟩:=hv.agg_inv
   refine ⟨h1,h2,fun x hx=>?_⟩
   obtain ⟨j,hj,rfl⟩:=Array.mem_iff_getElem.1 hx
   have hj':j<cs.length:=by rw [← h1];exact hj
   have hc:cs[j]?=some cs[j]:=List.getElem?_eq_getElem hj'
   have hu:arr[j]?=some arr[j]:=Array.getElem?_eq_getElem hj
   exact (VR.one (List.all_eq_true.1 h _ (List.getElem_mem hj')) (h2 j _ _ hc hu)).1
 | _ =>
   obtain ⟨h1,h2⟩:=VR.one (c:=_) (by simpa [okCells] using h) hv
   rw [h2]
   refine ⟨rfl,fun j c x hc hx=>?_,fun x hx=>?_⟩
   ·cases j with
    | zero =>
      simp only [AV.cells,List.getElem?_cons_zero,Option.some.injEq] at hc
      simp at hx
      subst hc;subst hx;exact hv
    | succ j=>simp [AV.cells] at hc
   ·simp at hx;subst hx;exact h1
def upd (ι:Nat→Option Nat) (b x:Nat):Nat→Option Nat:=fun b'=>if b'=b then some x else ι b'
theorem upd_same (ι:Nat→Option Nat) (b x:Nat):upd ι b x b=some x:=if_pos rfl
theorem upd_other {ι:Nat→Option Nat} {b b' x:Nat} (h:b'≠b):upd ι b x b'=ι b':=if_neg h
theorem Sit.newO (hs:Sit w0 O ι H w) (blk:ABlk) (c:Array Value) (ob:Obj) (hob:objRow ob=some (c,blk.ty)) (wd:World) (hwd:Below w.heap.size w wd) (hsz:wd.heap.size=w.heap.size) (h1:blk.es.length*blk.sz≤c.size) (h2:∀e∈blk.es,e.cells.length=blk.sz)
 (h3:∀(i j:Nat) (e d:AV),blk.es[i]?=some e→e.cells[j]?=some d→∃u,c[i*blk.sz+j]?=some u∧VR w (OO O ι H) ι H d u) :
 Sit w0 O (upd ι H.length w.heap.size) (H++[blk]) (wd.alloc ob) ∧
 Goes w (OO O ι H) ι H (wd.alloc ob) (OO O (upd ι H.length w.heap.size) (H++[blk])) (upd ι H.length w.heap.size) (H++[blk]):=by
 have hb:Below w.heap.size w (wd.alloc ob):=hwd.alloc (by omega) _
 have hold:∀x,O x→x<w.heap.size:=hs.old
 have hinv:∀b x,b<(H++[blk]).length→upd ι H.length w.heap.size b=some x→(b=H.length∧x=w.heap.size)∨(b<H.length∧ι b=some x):=by
  intro b x hb hx
  by_cases e:b=H.length
  ·subst e;rw [upd_same] at hx;injection hx with hx;exact .inl ⟨rfl,hx.symm⟩
  ·rw [upd_other e] at hx;exact .inr ⟨by simp at hb;omega,hx⟩
 have hrng:∀b x,b<H.length→ι b=some x→x<w.heap.size:=fun b x hb hx=>(hs.heap b _ x (List.getElem?_eq_getElem hb) hx).2.lt
 have g:Goes w (OO O ι H) ι H (wd.alloc ob) (OO O (upd ι H.length w.heap.size) (H++[blk])) (upd ι H.length w.heap.size) (H++[blk]):=by
  refine ⟨fun p u _ h=>by rw [hb.block p (heap_lt h)];exact h,fun p u h hc=>?_,fun b bk h=>?_,fun b x bk bk' c' ty fz h1 h2 _ hi h=>?_⟩
  ·rintro (ho|⟨b,hbl,hx⟩)
   ·exact h (.inl ho)
   ·rcases hinv b _ hbl hx with ⟨_,e⟩|⟨h4,h5⟩
    ·have:=heap_lt hc;omega
    ·exact h (.inr ⟨b,h4,h5⟩)
  ·have hlt:=(List.getElem?_eq_some_iff.1 h).1
   exact ⟨bk,by rw [List.getElem?_append_left hlt];exact h,Nat.le_refl _,fun _=>⟨rfl,upd_other (by omega)⟩⟩
  ·have hlt:x<w.heap.size:=hrng b x (List.getElem?_eq_some_iff.1 h1).1 hi
   exact ⟨c',ty,fz,by rw [hb.block x hlt];exact h,rfl⟩
 refine ⟨⟨fun b bk x h hx=>?_,fun b bk h hx=>?_,fun b b' x h h' hx hx'=>?_,hs.below.step hb,fun x hx=>Nat.lt_of_lt_of_le (hs.old x hx) hb.size,fun x b hO hbl hx=>?_,hs.hist.trans g.grow⟩,g⟩
 ·rcases hinv b x (List.getElem?_eq_some_iff.1 h).1 hx with ⟨rfl,rfl⟩|⟨h4,h5⟩
  ·rw [List.getElem?_append_right (Nat.le_refl _)] at h
   simp at h;subst h
   refine ⟨.inl hs.below.size,c,?_,h1,h2,fun i j e d he hd=>?_⟩
   ·rw [← hsz,rowAt,heap_alloc_new wd _];exact hob
   ·obtain ⟨u,hu,hv⟩:=h3 i j e d he hd
    exact ⟨u,hu,hv.mono g⟩
  ·rw [List.getElem?_append_left h4] at h
   obtain ⟨h6,h7⟩:=hs.heap b bk x h h5
   exact ⟨h6,h7.mono g (hb.block x h7.lt)⟩
 ·by_cases e:b=H.length
  ·subst e;rw [upd_same] at hx;cases hx
  ·have hlt:b<H.length:=by have:=(List.getElem?_eq_some_iff.1 h).1;simp at this;omega
   rw [List.getElem?_append_left hlt] at h
   rw [upd_other e] at hx
   exact hs.empt b bk h hx
 ·rcases hinv b x h hx with ⟨rfl,rfl⟩|⟨h4,h5⟩
  ·rcases hinv b' _ h' hx' with ⟨rfl,_⟩|⟨h6,h7⟩
   ·rfl
   ·have:=hrng b' _ h6 h7;omega
  ·rcases hinv b' x h' hx' with ⟨rfl,rfl⟩|⟨h6,h7⟩
   ·have:=hrng b _ h4 h5;omega
   ·exact hs.inj b b' x h4 h6 h5 h7
 ·rcases hinv b x hbl hx with ⟨_,e⟩|⟨h4,h5⟩
  ·have:=hs.old x hO;omega
  ·exact hs.disj x b hO h4 h5
theorem Sit.new (hs:Sit w0 O ι H w) (blk:ABlk) (c:Array Value) (hmt:blk.ty<mapTy) (wd:World) (hwd:Below w.heap.size w wd) (hsz:wd.heap.size=w.heap.size) (h1:blk.es.length*blk.sz≤c.size) (h2:∀e∈blk.es,e.cells.length=blk.sz)
 (h3:∀(i j:Nat) (e d:AV),blk.es[i]?=some e→e.cells[j]?=some d→∃u,c[i*blk.sz+j]?=some u∧VR w (OO O ι H) ι H d u) :
 Sit w0 O (upd ι H.length w.heap.size) (H++[blk]) (wd.alloc (.cells c blk.ty)) ∧
 Goes w (OO O ι H) ι H (wd.alloc (.cells c blk.ty)) (OO O (upd ι H.length w.heap.size) (H++[blk])) (upd ι H.length w.heap.size) (H++[blk]):=
 hs.newO blk c (.cells c blk.ty) (by simp [objRow,hmt]) wd hwd hsz h1 h2 h3
theorem PL.of_run {ρ:Operand→AV} {op:Op} {v:AV} {H':List ABlk}
 (h:∀(w0:Base) (O:Nat→Prop) (ι:Nat→Option Nat) (a:Act) (w:World),Sit w0 O ι H w→(∀x,VR w (OO O ι H) ι H (ρ x) (a.eval x))→∀o:Oper,o.op=op →
   ∃u w' ι' nx,(execOp a.eval o).run P w=.ok nx w'∧(nx=.value u∨(nx=.skip∧u=undef))∧Sit w0 O ι' H' w'∧Goes w (OO O ι H) ι H w' (OO O ι' H') ι' H'∧VR w' (OO O ι' H') ι' H' v u):PL P H ρ op v H':=by
 intro o ho w0 O ι a w hs hv K Q hK
 obtain ⟨u,w',ι',nx,hr,hnx,h1,h2,h3⟩:=h w0 O ι a w hs hv o ho
 unfold Oper.wp
 rw [hr]
 rcases hnx with rfl|⟨rfl,rfl⟩
 ·exact hK u w' ι' h1 h2 h3
 ·exact hK undef w' ι' h1 h2 h3
theorem pl_box {ρ:Operand→AV} {el:TypeId} {x:Operand} {v:AV} (hx:ρ x=v) (hc:okCells v=true) (hmt:el<mapTy:=by decide):PL P H ρ (.box el x) (.ptr H.length 1 0 0) (H++[⟨el,v.cells.length,[v]⟩]):=by
 refine PL.of_run fun w0 O ι a w hs hv o ho=>?_
 have h1:=hv x
 rw [hx] at h1
 obtain ⟨h2,h3,_⟩:=h1.cells hc
 have hcell:∀(i j:Nat) (e d:AV),[v][i]?=some e→e.cells[j]?=some d→∃u,(a.eval x).cells[i*v.cells.length+j]?=some u∧VR w (OO O ι H) ι H d u:=by
  intro i j e d he hd
  cases i with
  | zero =>
    simp at he;subst he
    have hj:j<(a.eval x).cells.size:=by rw [h2];exact (List.getElem?_eq_some_iff.1 hd).1
    exact ⟨_,by rw [Nat.zero_mul,Nat.zero_add];exact Array.getElem?_eq_getElem hj,h3 j d _ hd (Array.getElem?_eq_getElem hj)⟩
  | succ i=>simp at he
 obtain ⟨h4,h5⟩:=hs.new ⟨el,v.cells.length,[v]⟩ (a.eval x).cells hmt w (Below.refl _ _) rfl (by simp [h2]) (by simp) hcell
 refine ⟨.pointer (some ⟨w.heap.size,0,none⟩),_,_,_,?_,.inl rfl,h4,h5,?_⟩
 ·simp only [execOp,ho,Instr.box,newVar,newRow,Sem.run_bind,run_newObj,World.alloc_eq,Sem.run_pure,Result.andThen_ok]
 ·have:=VR.ptr (w:=w.alloc (.cells (a.eval x).cells el)) (O:=OO O (upd ι H.length w.heap.size) (H++[⟨el,v.cells.length,[v]⟩])) (ι:=upd ι H.length w.heap.size) (H:=H++[⟨el,v.cells.length,[v]⟩])
   H.length 1 0 0 ⟨el,v.cells.length,[v]⟩ w.heap.size (by simp) rfl (upd_same _ _ _) ⟨_,_,_,heap_alloc_new w _⟩
  simpa using this
def zeroA (P:Program) (t:TypeId):Option AV:=((P.info? t).bind (·.zero)).map cv
theorem zero_run {t:TypeId} {z:AV} (h:zeroA P t=some z):∃zv,(zeroValue t).run P w=.ok zv w∧z=cv zv:=by
 unfold zeroA at h
 cases hi:P.info? t with
 | none=>simp [hi] at h
 | some i =>
   cases hz:i.zero with
   | none=>simp [hi,hz] at h
   | some zv=>simp [hi,hz] at h;exact ⟨zv,by simp [zeroValue,typeInfo,hi,hz],h.symm⟩
theorem pl_alloc {ρ:Operand→AV} {el:TypeId} {z:AV} (hz:zeroA P el=some z) (hc:okCells z=true) (hmt:el<mapTy:=by decide):PL P H ρ (.alloc el) (.ptr H.length 1 0 0) (H++[⟨el,z.cells.length,[z]⟩]):=by
 refine PL.of_run fun w0 O ι a w hs hv o ho=>?_
 obtain ⟨zv,hr,rfl⟩:=zero_run (w:=w) hz
 obtain ⟨h2,h3,_⟩:=(VR.cv w (OO O ι H) ι H zv).cells hc
 have hcell:∀(i j:Nat) (e d:AV),[cv zv][i]?=some e→e.cells[j]?=some d→∃u,zv.cells[i*(cv zv).cells.length+j]?=some u∧VR w (OO O ι H) ι H d u:=by
  intro i j e d he hd
  cases i with
  | zero =>
    simp at he;subst he
    have hj:j<zv.cells.size:=by rw [h2];exact (List.getElem?_eq_some_iff.1 hd).1
    exact ⟨_,by rw [Nat.zero_mul,Nat.zero_add];exact Array.getElem?_eq_getElem hj,h3 j d _ hd (Array.getElem?_eq_getElem hj)⟩
  | succ i=>simp at he
 obtain ⟨h4,h5⟩:=hs.new ⟨el,(cv zv).cells.length,[cv zv]⟩ zv.cells hmt w (Below.refl _ _) rfl (by simp [h2]) (by simp) hcell
 refine ⟨.pointer (some ⟨w.heap.size,0,none⟩),_,_,_,?_,.inl rfl,h4,h5,?_⟩
 ·simp only [execOp,ho,Instr.alloc,newVar,newRow,hr,Sem.run_bind,run_newObj,World.alloc_eq,Sem.run_pure,Result.andThen_ok]
 ·have:=VR.ptr (w:=w.alloc (.cells zv.cells el)) (O:=OO O (upd ι H.length w.heap.size) (H++[⟨el,(cv zv).cells.length,[cv zv]⟩])) (ι:=upd ι H.length w.heap.size) (H:=H++[⟨el,(cv zv).cells.length,[cv zv]⟩])
   H.length 1 0 0 ⟨el,(cv zv).cells.length,[cv zv]⟩ w.heap.size (by simp) rfl (upd_same _ _ _) ⟨_,_,_,heap_alloc_new w _⟩
  simpa using this
end
end Go.Ab
namespace Go.Ab
open Go Go.RowKit
def stE (e:AV) (off:Nat) (vs:List AV):Option AV:=
 match e with
 | .agg cs=>if off+vs.length≤cs.length then some (.agg (match vs with
   | [c]=>cs.set off c
   | vs=>if off=0∧vs.length=cs.length then vs else cs.take off++vs++cs.drop (off+vs.length))) else none
 | _=>match off,vs with
   | 0,[c]=>if isOne c then some c else none
   | _,_=>none
theorem stE_cells {e e':AV} {off:Nat} {vs:List AV} (h:stE e off vs=some e'):off+vs.length≤e.cells.length∧e'.cells.length=e.cells.length ∧
 ∀(j:Nat) (d:AV),e'.cells[j]?=some d→if off≤j∧j<off+vs.length then vs[j-off]?=some d else e.cells[j]?=some d:=by
 unfold stE at h
 split at h
 ·rename_i cs
  split at h
  ·rename_i hle
   injection h with h;subst h
   refine ⟨hle,?_,?_⟩
   ·split
    ·simp [AV.cells]
    ·split
     ·rename_i h2;exact h2.2
     ·simp only [AV.cells,List.length_append,List.length_take,List.length_drop];omega
   ·intro j d hd
    split at hd
    ·rename_i c
     simp only [AV.cells,List.length_singleton] at hd hle ⊢
     rw [List.getElem?_set] at hd
     by_cases e:off=j
     ·subst e
      rw [if_pos rfl,if_pos (by omega)] at hd
      rw [if_pos (by omega)];simpa using hd
     ·rw [if_neg e] at hd
      rw [if_neg (by omega)];exact hd
    ·split at hd
     ·rename_i h2
      obtain ⟨rfl,h3⟩:=h2
      simp only [AV.cells] at hd ⊢
      have hj:=(List.getElem?_eq_some_iff.1 hd).1
      rw [if_pos (by omega)];simpa using hd
     ·simp only [AV.cells] at hd ⊢
      rw [List.getElem?_append,List.getElem?_append] at hd
      simp only [List.length_append,List.length_take] at hd
      by_cases h1:j<off
      ·rw [if_pos (by omega),if_pos (by omega),List.getElem?_take,if_pos h1] at hd
       rw [if_neg (by omega)];exact hd
      ·by_cases h2:j<off+vs.length
       ·rw [if_pos (by omega),if_neg (by omega)] at hd
        rw [if_pos ⟨by omega,h2⟩,← hd];congr 1;omega
       ·rw [if_neg (by omega),List.getElem?_drop] at hd
        rw [if_neg (by omega),← hd];congr 1;omega
  ·cases h
 ·rename_i hne
  split at h
  ·rename_i c
   split at h
   ·rename_i hc
    injection h with h;subst h
    have hec:e.cells=[e]:=by cases e<;>first|rfl|(exact absurd rfl (hne _))
    have hcc:c.cells=[c]:=by cases c<;>first|rfl|(simp [isOne] at hc)
    refine ⟨by simp [hec],by rw [hec,hcc];rfl,fun j d hd=>?_⟩
    rw [hcc] at hd
    cases j with
    | zero=>simp at hd;subst hd;simp
    | succ j=>simp at hd
   ·cases h
  ·cases h
section
variable {P:Program} {w w':World} {w0:Base} {O:Nat→Prop} {ι:Nat→Option Nat} {H:List ABlk} {u:Value}
theorem heap_setCells (x:Nat):∀(vs:List Value) (o:Nat) (w:World) (c:Array Value) (ty:TypeId) (fz:Nat × Nat),w.heap[x]?=some (.cells c ty fz)→o+vs.length≤c.size →
 ∃c',(w.setCells x o vs).heap[x]?=some (.cells c' ty fz)∧c'.size=c.size∧∀j,c'[j]?=if o≤j∧j<o+vs.length then vs[j-o]? else c[j]?
 | [],o,w,c,ty,fz,h,_=>⟨c,h,rfl,fun j=>by rw [if_neg (by simp)]⟩
 | v::r,o,w,c,ty,fz,h,hl=>by
   have h1:(w.setCell ⟨x,o,none⟩ v).heap[x]?=some (.cells (c.setIfInBounds o v) ty fz):=by
    simp [World.setCell,Array.getElem?_modify,h]
   simp only [List.length_cons] at hl
   obtain ⟨c',h2,h3,h4⟩:=heap_setCells x r (o+1) _ _ ty fz h1 (by simp;omega)
   refine ⟨c',h2,by simpa using h3,fun j=>?_⟩
   rw [h4 j]
   by_cases e:j=o
   ·subst e
    rw [if_neg (by omega),if_pos (by simp),Array.getElem?_setIfInBounds,if_pos rfl,if_pos (by omega)]
    simp
   ·by_cases h5:o+1≤j∧j<o+1+r.length
    ·rw [if_pos h5,if_pos (by simp;omega),show j-o=(j-(o+1))+1 by omega];rfl
    ·rw [if_neg h5,if_neg (by simp;omega),Array.getElem?_setIfInBounds,if_neg (by omega)]
theorem heap_setCells_other (x:Nat):∀(vs:List Value) (o:Nat) (w:World) (k:Nat),k≠x→(w.setCells x o vs).heap[k]?=w.heap[k]?
 | [],_,_,_,_=>rfl
 | v::r,o,w,k,h=>by
   rw [World.setCells,heap_setCells_other x r (o+1) _ k h]
   exact Below.heap_setCell w ⟨x,o,none⟩ v k h
theorem below_setCells (B x:Nat) (hx:B≤x):∀(vs:List Value) (o:Nat) (w:World),Below B w (w.setCells x o vs)
 | [],_,w=>Below.refl _ _
 | v::r,o,w=>((Below.refl B w).setCell (p:=⟨x,o,none⟩) hx v).trans (below_setCells B x hx r (o+1) _)
theorem Sit.set (hs:Sit w0 O ι H w) {b x:Nat} {blk blk2:ABlk} (hb:H[b]?=some blk) (hi:ι b=some x) (h2s:blk2.sz=blk.sz) (h2t:blk2.ty=blk.ty) (h2l:blk2.es.length=blk.es.length) (hw':Below x w w') (hoth:∀k,k≠x→w'.heap[k]?=w.heap[k]?)
 {c c':Array Value} (hc:rowAt w x=some (c,blk.ty)) (hc':rowAt w' x=some (c',blk.ty)) (hcs:c'.size=c.size) (hcc:∀c ty fz,w.heap[x]?=some (.cells c ty fz)→∃c' ty' fz',w'.heap[x]?=some (.cells c' ty' fz')∧c'.size=c.size) (he:∀e∈blk2.es,e.cells.length=blk2.sz)
 (hv:∀(i j:Nat) (e d:AV),blk2.es[i]?=some e→e.cells[j]?=some d→∃u,c'[i*blk2.sz+j]?=some u∧VR w (OO O ι H) ι H d u) :
 Sit w0 O ι (H.set b blk2) w'∧Goes w (OO O ι H) ι H w' (OO O ι (H.set b blk2)) ι (H.set b blk2):=by
 have hbl:b<H.length:=(List.getElem?_eq_some_iff.1 hb).1
 have hget:∀b' bk,(H.set b blk2)[b']?=some bk→(b'=b∧bk=blk2)∨(b'≠b∧H[b']?=some bk):=by
  intro b' bk h
  rw [List.getElem?_set] at h
  by_cases e:b=b'
  ·subst e;rw [if_pos rfl,if_pos hbl] at h;injection h with h;exact .inl ⟨rfl,h.symm⟩
  ·rw [if_neg e] at h;exact .inr ⟨fun e'=>e e'.symm,h⟩
 have hOO:∀y,OO O ι (H.set b blk2) y↔OO O ι H y:=fun y=>by unfold OO rng;simp
 have hxlo:w0.w.heap.size≤x∨w0.S x:=(hs.heap b blk x hb hi).1
 have g:Goes w (OO O ι H) ι H w' (OO O ι (H.set b blk2)) ι (H.set b blk2):=by
  refine ⟨fun p u h hcell=>?_,fun p u h _ h'=>h ((hOO _).1 h'),fun b' bk h=>?_,fun b' y bk bk' c1 ty fz h1 h2 _ hi' h=>?_⟩
  ·have:p≠x:=fun e=>h (.inr ⟨b,hbl,by rw [e];exact hi⟩)
   rw [hoth _ this];exact hcell
  ·by_cases e:b'=b
   ·subst e
    rw [hb] at h;injection h with h;subst h
    exact ⟨blk2,by simp [hbl],by omega,fun _=>⟨h2s,rfl⟩⟩
   ·exact ⟨bk,by rw [List.getElem?_set_ne (fun e'=>e e'.symm)];exact h,Nat.le_refl _,fun _=>⟨rfl,rfl⟩⟩
  ·by_cases e:y=x
   ·subst e
    exact hcc _ _ _ h
   ·exact ⟨c1,ty,fz,by rw [hoth y e];exact h,rfl⟩
 refine ⟨⟨fun b' bk y h hy=>?_,fun b' bk h hy=>?_,fun b1 b2 y h1 h2=>hs.inj b1 b2 y (by simpa using h1) (by simpa using h2),hs.below.change hw'.os hw'.tape hw'.output hw'.size (fun k _ hk=>by
  rcases Classical.em (k=x) with e|e
  ·rw [e];exact hxlo
  ·exact absurd (hoth k e) hk),
  fun y hy=>Nat.lt_of_lt_of_le (hs.old y hy) hw'.size,fun y b1 hO h1=>hs.disj y b1 hO (by simpa using h1),hs.hist.trans g.grow⟩,g⟩
 ·rcases hget b' bk h with ⟨rfl,rfl⟩|⟨hne,h'⟩
  ·rw [hi] at hy;injection hy with hy;subst hy
   obtain ⟨_,c0,hc0,hsz0,_,_⟩:=hs.heap b' blk x hb hi
   rw [hc] at hc0;injection hc0 with hc0;injection hc0 with hc0 _;subst hc0
   refine ⟨hxlo,c',by rw [h2t];exact hc',by rw [h2l,h2s,hcs];exact hsz0,he,fun i j e d hie hjd=>?_⟩
   obtain ⟨u,hu,hvu⟩:=hv i j e d hie hjd
   exact ⟨u,hu,hvu.mono g⟩
  ·obtain ⟨h3,h4⟩:=hs.heap b' bk y h' hy
   have hyx:y≠x:=fun e=>hne (hs.inj b' b y (List.getElem?_eq_some_iff.1 h').1 hbl hy (by rw [e];exact hi))
   exact ⟨h3,h4.mono g (hoth y hyx)⟩
 ·rcases hget b' bk h with ⟨rfl,rfl⟩|⟨hne,h'⟩
  ·rw [hi] at hy;cases hy
  ·exact hs.empt b' bk h' hy
theorem mul_lt_of {i j n s:Nat} (hi:i<n) (hj:j<s):i*s+j<n*s:=by
 have:(i+1)*s≤n*s:=Nat.mul_le_mul_right s hi
 rw [Nat.add_mul] at this
 omega
theorem div_of {i j s:Nat} (hj:j<s):(i*s+j) / s=i∧(i*s+j) % s=j:=by
 have hs:0<s:=by omega
 constructor
 ·rw [Nat.mul_comm,Nat.mul_add_div hs,Nat.div_eq_of_lt hj];rfl
 ·rw [Nat.mul_comm,Nat.mul_add_mod,Nat.mod_eq_of_lt hj]
theorem pl_store {ρ:Operand→AV} {t:TypeId} {x y:Operand} {b tot i off:Nat} {blk:ABlk} {e e' v:AV} (hx:ρ x=.ptr b tot i off) (hy:ρ y=v) (hb:H[b]?=some blk) (ht:blk.es.length=tot) (he:blk.es[i]?=some e)
 (hsz:szTy P t=some v.cells.length) (hc:okCells v=true) (hst:stE e off v.cells=some e') (hmt:blk.ty<mapTy:=by first|decide|exact ltMap rfl):PL P H ρ (.store t x y) .bad (H.set b { blk with es:=blk.es.set i e' }):=by
 refine PL.of_run fun w0 O ι a w hs hv o ho=>?_
 have h1:=hv x;rw [hx] at h1
 have h2:=hv y;rw [hy] at h2
 obtain ⟨z,hi,hX,hel⟩:=h1.ptr_inv hs hb ht he
 have hcx:∃c ty fz,w.heap[z]?=some (.cells c ty fz):=by
  obtain ⟨y,blk',f1,f2,f3,f4,f5⟩:=h1.ptr_fresh (by simp [fresh,hb,ht])
  rw [hi] at f1;injection f1 with f1;subst f1;exact f5
 obtain ⟨h3,h4,h5⟩:=h2.cells hc
 obtain ⟨h6,h7,h8⟩:=stE_cells hst
 obtain ⟨hz0,c,hcz,hcl,hsz',hrow⟩:=hs.heap b blk z hb hi
 have hcz:=rowAt_inv hcz hcx hmt
 have hil:i<blk.es.length:=(List.getElem?_eq_some_iff.1 he).1
 have hesz:e.cells.length=blk.sz:=hsz' e (List.mem_of_getElem? he)
 have hrange:i*blk.sz+off+v.cells.length≤c.size:=by
  have:(i+1)*blk.sz≤blk.es.length*blk.sz:=Nat.mul_le_mul_right _ hil
  rw [Nat.add_mul] at this
  omega
 have hcellat:∀j,j<c.size→w.cell? ⟨z,j,none⟩=c[j]?:=fun j hj=>by simp [World.cell?,hcz]
 have hrun:(storeVar t ⟨z,i*blk.sz+off,none⟩ (a.eval y)).run P w=.ok () (w.setCells z (i*blk.sz+off) (a.eval y).cells.toList):=by
  have hl:(a.eval y).cells.toList.length=v.cells.length:=by simpa using h3
  have:=run_storeCells_cells (P:=P) z (i*blk.sz+off) (a.eval y).cells.toList 0 w
   (fun j hj=>by rw [hcellat _ (by omega),Array.getElem?_eq_getElem (show i*blk.sz+off+0+j<c.size by omega)];rfl)
   (fun j hj=>by simp [World.frozen?,hcz]) (fun v hv=>h5 v (by simpa using hv))
  unfold szTy at hsz
  cases hq:P.info? t with
  | none=>simp [hq] at hsz
  | some ii =>
    simp [hq] at hsz
    simp only [Nat.add_zero] at this
    have hne:¬((a.eval y).cells.size≠ii.size):=by omega
    simp only [storeVar,sizeOf,typeInfo,Sem.run_bind,run_program,Result.andThen_ok,hq,Sem.run_pure,Sem.run_ite,if_neg hne,this]
 obtain ⟨c',hc',hcs',hj'⟩:=heap_setCells z (a.eval y).cells.toList (i*blk.sz+off) w c blk.ty (0,0) hcz (by simp [h3];omega)
 obtain ⟨h9,h10⟩:=hs.set (blk2:={ blk with es:=blk.es.set i e' }) hb hi rfl rfl (by simp) (below_setCells z z (Nat.le_refl _) _ _ _) (fun k hk=>heap_setCells_other z _ _ _ k hk) (rowAt_cells hcz hmt) (rowAt_cells hc' hmt) hcs' (fun c1 ty1 fz1 h=>by rw [hcz] at h;injection h with h;injection h with h a b;subst h;exact ⟨c',_,_,hc',hcs'⟩)
  (fun e1 he1=>by
    rcases List.mem_or_eq_of_mem_set he1 with h|h
    ·exact hsz' e1 h
    ·rw [h,h7];exact hesz)
  (fun i1 j1 e1 d1 hi1 hj1=>by
    simp only at hi1 ⊢
    rw [List.getElem?_set] at hi1
    have hj1l:j1<blk.sz:=by
     by_cases e:i=i1
     ·subst e;rw [if_pos rfl,if_pos hil] at hi1;injection hi1 with hi1;subst hi1
      rw [← hesz,← h7];exact (List.getElem?_eq_some_iff.1 hj1).1
     ·rw [if_neg e] at hi1
      rw [← hsz' e1 (List.mem_of_getElem? hi1)];exact (List.getElem?_eq_some_iff.1 hj1).1
    by_cases e:i=i1
    ·subst e
     rw [if_pos rfl,if_pos hil] at hi1;injection hi1 with hi1;subst hi1
     have h11:=h8 j1 d1 hj1
     rw [hj']
     simp only [Array.length_toList,Array.getElem?_toList]
     by_cases h12:off≤j1∧j1<off+v.cells.length
     ·rw [if_pos h12] at h11
      rw [if_pos (by omega)]
      have hlt:j1-off<(a.eval y).cells.size:=by omega
      refine ⟨_,by rw [show i*blk.sz+j1-(i*blk.sz+off)=j1-off by omega];exact Array.getElem?_eq_getElem hlt,h4 _ _ _ h11 (Array.getElem?_eq_getElem hlt)⟩
     ·rw [if_neg h12] at h11
      rw [if_neg (by omega)]
      exact hrow i j1 e d1 he h11
    ·rw [if_neg e] at hi1
     rw [hj',if_neg]
     ·exact hrow i1 j1 e1 d1 hi1 hj1
     ·simp only [Array.length_toList]
      intro hcon
      rcases Nat.lt_or_ge i i1 with h|h
      ·have:(i+1)*blk.sz≤i1*blk.sz:=Nat.mul_le_mul_right _ h
       rw [Nat.add_mul] at this;omega
      ·have:(i1+1)*blk.sz≤i*blk.sz:=Nat.mul_le_mul_right _ (by omega)
       rw [Nat.add_mul] at this;omega)
 refine ⟨undef,_,ι,.skip,?_,.inr ⟨rfl,rfl⟩,h9,h10,.bad _⟩
 simp only [execOp,ho,hX,Instr.storeAt,Instr.sureAddr,Sem.run_bind,Sem.run_pure,Result.andThen_ok,hrun]
end
end Go.Ab
namespace Go.Ab
open Go Go.RowKit
section
variable {P:Program} {w w':World} {w0:Base} {O:Nat→Prop} {ι:Nat→Option Nat} {H:List ABlk} {u:Value}
def RelC (w:World) (O:Nat→Prop) (ι:Nat→Option Nat) (H:List ABlk) (cs:List AV) (arr:Array Value):Prop:=
 arr.size=cs.length∧∀(j:Nat) (c:AV) (u:Value),cs[j]?=some c→arr[j]?=some u→VR w O ι H c u
theorem fold_set (off:Nat):∀(l:List Value) (k:Nat) (cs:Array Value),off+k+l.length≤cs.size →
 ((l.zipIdx k).foldl (fun cs (c,j)=>cs.setIfInBounds (off+j) c) cs).size=cs.size ∧
 ∀j,((l.zipIdx k).foldl (fun cs (c,j)=>cs.setIfInBounds (off+j) c) cs)[j]?=if off+k≤j∧j<off+k+l.length then l[j-(off+k)]? else cs[j]?
 | [],k,cs,_=>⟨rfl,fun j=>by rw [if_neg (by simp)];rfl⟩
 | v::l,k,cs,h=>by
   simp only [List.length_cons] at h
   obtain ⟨h1,h2⟩:=fold_set off l (k+1) (cs.setIfInBounds (off+k) v) (by simp;omega)
   simp only [List.zipIdx_cons,List.foldl_cons]
   refine ⟨by rw [h1];simp,fun j=>?_⟩
   rw [h2 j]
   by_cases e:j=off+k
   ·subst e
    rw [if_neg (by omega),if_pos (by simp),Array.getElem?_setIfInBounds,if_pos rfl,if_pos (by omega)]
    simp
   ·by_cases h3:off+(k+1)≤j∧j<off+(k+1)+l.length
    ·rw [if_pos h3,if_pos (by simp;omega),show j-(off+k)=(j-(off+(k+1)))+1 by omega];rfl
    ·rw [if_neg h3,if_neg (by simp;omega),Array.getElem?_setIfInBounds,if_neg (by omega)]
theorem fold_setA (off:Nat) (vs cs:Array Value) (h:off+vs.size≤cs.size) :
 (vs.zipIdx.foldl (fun cs (c,j)=>cs.setIfInBounds (off+j) c) cs).size=cs.size ∧
 ∀j,(vs.zipIdx.foldl (fun cs (c,j)=>cs.setIfInBounds (off+j) c) cs)[j]?=if off≤j∧j<off+vs.size then vs[j-off]? else cs[j]?:=by
 have:=fold_set off vs.toList 0 cs (by simpa using h)
 rw [← Array.foldl_toList,Array.toList_zipIdx]
 simpa using this
def fillA (pl:List (Nat × Nat)) (cs:List AV):List (Nat × AV)→Option (List AV)
 | []=>some cs
 | (i,v)::r=>match pl[i]? with
   | some (off,size)=>if v.cells.length=size∧okCells v=true then match stE (.agg cs) off v.cells with
     | some (.agg cs')=>fillA pl cs' r
     | _=>none else none
   | none=>none
theorem fillA_run {pl:List (Nat × Nat)} {place:Nat→Option (Nat × Nat)} (hpl:∀i x,pl[i]?=some x→place i=some x):∀(ps:List (Nat × AV)) (qs:List (Nat × Value)) (cs cs':List AV) (arr:Array Value),
 ps.length=qs.length→(∀(j:Nat) p q,ps[j]?=some p→qs[j]?=some q→p.1=q.1∧VR w O ι H p.2 q.2)→RelC w O ι H cs arr→fillA pl cs ps=some cs' →
 ∃arr',Instr.fill place arr qs=some arr'∧RelC w O ι H cs' arr'
 | [],[],cs,cs',arr,_,_,hr,h=>by
   simp only [fillA] at h;injection h with h;subst h
   exact ⟨arr,rfl,hr⟩
 | (i,v)::ps,(i',u)::qs,cs,cs',arr,hl,hp,hr,h=>by
   obtain ⟨h1,h2⟩:=hp 0 _ _ rfl rfl
   simp only at h1 h2
   subst h1
   simp only [fillA] at h
   split at h
   ·rename_i off size hpi
    split at h
    ·rename_i hv
     obtain ⟨hvs,hvc⟩:=hv
     split at h
     ·rename_i cs1 hst
      obtain ⟨h3,h4,_⟩:=h2.cells hvc
      obtain ⟨h5,h6,h7⟩:=stE_cells hst
      replace h5:off+v.cells.length≤cs.length:=h5
      replace h6:cs1.length=cs.length:=h6
      replace h7:∀(j:Nat) (d:AV),cs1[j]?=some d→if off≤j∧j<off+v.cells.length then v.cells[j-off]?=some d else cs[j]?=some d:=h7
      have hfit:off+u.cells.size≤arr.size:=by rw [hr.1];omega
      obtain ⟨h8,h9⟩:=fold_setA off u.cells arr hfit
      have hr1:RelC w O ι H cs1 (u.cells.zipIdx.foldl (fun cs (c,j)=>cs.setIfInBounds (off+j) c) arr):=by
       refine ⟨by rw [h8,hr.1,h6],fun j c x hc hx=>?_⟩
       have h10:=h7 j c hc
       rw [h9 j] at hx
       by_cases h11:off≤j∧j<off+v.cells.length
       ·rw [if_pos h11] at h10
        rw [if_pos (by omega)] at hx
        exact h4 _ _ _ h10 hx
       ·rw [if_neg h11] at h10
        rw [if_neg (by omega)] at hx
        exact hr.2 _ _ _ h10 hx
      obtain ⟨arr',h12,h13⟩:=fillA_run hpl ps qs cs1 cs' _ (by simpa using hl) (fun j p q hp' hq'=>hp (j+1) p q (by simpa using hp') (by simpa using hq')) hr1 h
      refine ⟨arr',?_,h13⟩
      rw [Instr.fill,hpl i _ hpi]
      simp only
      rw [if_neg (by simp only [Bool.or_eq_true,decide_eq_true_eq];omega)]
      exact h12
     ·cases h
    ·cases h
   ·cases h
def placesOf (P:Program) (t:TypeId):Option (List (Nat × Nat)):=
 match P.underlying t with
 | some (.struct fs)=>fs.toList.mapM fun f=>(szTy P f.type).map fun n=>(f.offset,n)
 | _=>none
theorem places_run:∀(fs:List Field) (pl:List (Nat × Nat)),(fs.mapM fun f=>(szTy P f.type).map fun n=>(f.offset,n))=some pl→(fs.mapM (m:=Sem) fun f=>do pure (f.offset,← sizeOf f.type)).run P w=.ok pl w
 | [],pl,h=>by simp at h;subst h;rfl
 | f::fs,pl,h=>by
   rw [List.mapM_cons] at h ⊢
   cases hz:szTy P f.type with
   | none=>simp [hz] at h
   | some n =>
     cases hm:fs.mapM fun f=>(szTy P f.type).map fun n=>(f.offset,n) with
     | none=>simp [hz,hm] at h
     | some pl' =>
       simp [hz,hm] at h
       subst h
       simp only [Sem.run_bind,sizeOf_run hz,Result.andThen_ok,Sem.run_pure,places_run fs pl' hm]
theorem ql_build {ρ:Operand→AV} {t:TypeId} {parts:Array (Nat × Operand)} {pl:List (Nat × Nat)} {zs cs:List AV} (hp:placesOf P t=some pl) (hz:zeroA P t=some (.agg zs))
 (h:fillA pl zs (parts.toList.map fun (i,x)=>(i,ρ x))=some cs):QL P H ρ (.build t parts) (.agg cs):=by
 refine QL.of_run fun w0 O ι a w hs hv o ho=>?_
 obtain ⟨zv,hr,hzv⟩:=zero_run (w:=w) hz
 unfold placesOf at hp
 split at hp
 ·rename_i fs hu
  have h1:=places_run (P:=P) (w:=w) fs.toList pl hp
  have hrel:RelC w (OO O ι H) ι H zs zv.cells:=by
   have hv0:=VR.cv w (OO O ι H) ι H zv
   rw [← hzv] at hv0
   obtain ⟨arr,rfl,h2,h3⟩:=hv0.agg_inv
   exact ⟨h2,h3⟩
  obtain ⟨arr',h2,h3⟩:=fillA_run (place:=(pl.toArray[·]?)) (fun i x hx=>by simpa using hx) (parts.toList.map fun (i,x)=>(i,ρ x)) (parts.toList.map fun (i,x)=>(i,a.eval x)) zs cs zv.cells (by simp)
   (fun j p q hp hq=>by
     simp only [List.getElem?_map,Option.map_eq_some_iff] at hp hq
     obtain ⟨⟨i,x⟩,hx,rfl⟩:=hp
     obtain ⟨y,hy,rfl⟩:=hq
     rw [hx] at hy;injection hy with hy;subst hy
     refine ⟨rfl,hv x ?_⟩
     have:(i,x)∈parts:=by rw [Array.getElem?_toList] at hx;exact Array.mem_of_getElem? hx
     simp only [Op.operands,List.mem_toArray,List.mem_map]
     exact ⟨(i,x),by simpa using this,rfl⟩) hrel h
  refine ⟨.agg arr',?_,.agg _ _ h3.1 h3.2⟩
  have h4:(Array.mapM (m:=Sem) (fun f=>do pure (f.offset,← sizeOf f.type)) fs).run P w=.ok pl.toArray w:=by
   rw [Array.mapM_eq_mapM_toList]
   simp only [Sem.run_map,h1,Result.andThen_ok]
  have h5:(parts.map fun (i,x)=>(i,a.eval x)).toList=parts.toList.map fun (i,x)=>(i,a.eval x):=by simp
  simp only [execOp,ho,Instr.build,hr,Sem.run_bind,Result.andThen_ok,run_underlying hu,h4,h5,h2,Sem.run_pure]
 ·cases hp
attribute [go_sem] fillA stE
theorem fill_row (size:Nat):∀(us:List Value) (k:Nat) (arr:Array Value),(∀u∈us,u.cells.size=size)→(k+us.length)*size≤arr.size →
 ∃arr',Instr.fill (fun i=>some (i*size,size)) arr ((us.zipIdx k).map fun (u,i)=>(i,u))=some arr'∧arr'.size=arr.size ∧
  (∀j,j<k*size→arr'[j]?=arr[j]?)∧∀(i j:Nat) (u:Value),us[i]?=some u→j<size→arr'[(k+i)*size+j]?=u.cells[j]?
 | [],k,arr,_,_=>⟨arr,rfl,rfl,fun _ _=>rfl,fun i j u h=>by simp at h⟩
 | v::us,k,arr,hs,hl=>by
   have hvs:v.cells.size=size:=hs v (by simp)
   simp only [List.length_cons] at hl
   have hfit:k*size+v.cells.size≤arr.size:=by
    have:(k+1)*size≤(k+(us.length+1))*size:=Nat.mul_le_mul_right _ (by omega)
    rw [Nat.add_mul,Nat.one_mul] at this;omega
   obtain ⟨h1,h2⟩:=fold_setA (k*size) v.cells arr hfit
   obtain ⟨arr',h3,h4,h5,h6⟩:=fill_row size us (k+1) (v.cells.zipIdx.foldl (fun cs (c,j)=>cs.setIfInBounds (k*size+j) c) arr) (fun u hu=>hs u (by simp [hu])) (by rw [h1,show k+1+us.length=k+(us.length+1) by omega];exact hl)
   refine ⟨arr',?_,h4.trans h1,fun j hj=>?_,fun i j u hi hj=>?_⟩
   ·simp only [List.zipIdx_cons,List.map_cons,Instr.fill]
    rw [if_neg (by simp only [Bool.or_eq_true,decide_eq_true_eq];omega)]
    exact h3
   ·have:k*size≤(k+1)*size:=Nat.mul_le_mul_right _ (by omega)
    rw [h5 j (by omega),h2 j,if_neg (by omega)]
   ·cases i with
    | zero =>
      simp at hi;subst hi
      have hlt:k*size+j<(k+1)*size:=by rw [Nat.add_mul,Nat.one_mul];omega
      rw [Nat.add_zero,h5 _ hlt,h2,if_pos (by omega)]
      congr 1;omega
    | succ i =>
      have:=h6 i j u (by simpa using hi) hj
      rw [show k+(i+1)=k+1+i by omega]
      exact this
end
end Go.Ab
