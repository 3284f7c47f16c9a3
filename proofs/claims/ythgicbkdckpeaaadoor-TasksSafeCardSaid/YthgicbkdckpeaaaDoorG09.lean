/- Arrays of numbers, compared. -/
import Derived.ChangeKeysEq
import Derived.Test.YthgicbkdckpeaaaDoorG08
set_option linter.unusedSimpArgs false
set_option linter.unusedVariables false
namespace Go.Ab
open Go Go.RowKit
section
variable {P:Program} {H:List ABlk} {ρ:Operand→AV}
end
end Go.Ab
namespace Go.Ab
open Go Go.RowKit
section
variable {P:Program} {H:List ABlk} {ρ:Operand→AV}
theorem ql_bsl {t el:TypeId} {len size:Nat} {parts:Array (Nat × Operand)} {es:List AV} (ht:P.underlying t=some (.slice el)) (hsz:szTy P el=some size) (hpos:0<size) (hz:(zeroA P el).map (fun z=>z.cells.length)=some size) (hlen:len*size≤16777216)
 (hp:litOk size len (parts.toList.map fun (i,x)=>(i,ρ x))=true) (hes:(parts.toList.map fun (i,x)=>ρ x)=es) (hle:es.length=len) :
 QL P H ρ (.buildSlice t len parts) (.lst es):=ql_buildSlice hpos ht hsz hz hlen hp hes hle
end
end Go.Ab
namespace Go.Ab
open Go Go.RowKit
attribute [go_sem] Nat.reduceAdd
abbrev zs:=@AWp.seq
abbrev zN:=@ARun.nil
abbrev z1:=@thenQ_n
abbrev z2:=@thenQ_r
abbrev z3:=@thenQ_e
abbrev z4:=@blkQ_n
abbrev z5:=@blkQ_r
abbrev z6:=@blkQ_e
abbrev z7:=@blkQ_o
abbrev zb:=@AWp.block
abbrev zk:=@AWp.skip
abbrev zr:=@AWp.ret
abbrev ze:=@AWp.exit
abbrev y1:=@retQ_n
abbrev y2:=@retQ_r
abbrev zR:=@AWp.regionL
abbrev zG:=@ARun.go
abbrev zp:=@ARun.p1
abbrev zq:=@ARun.q1
end Go.Ab
namespace Go.Ab
open Go Go.RowKit
section
variable {P:Program} {H:List ABlk} {ρ:Operand→AV}
theorem qi {α:Type} [Inhabited α] {t el:TypeId} {x i:Operand} {k:IntKind} {n:Int} {l:List α} {f:α→AV} (hx:ρ x=.lst (l.map f)) (hi:ρ i=.base (.int k n)) (ht:P.underlying t=some (.slice el))
 (h:0≤n∧n<l.length) (hsz:szTy P el=some (f (nth default l n)).cells.length):QL P H ρ (.indexAddr t x i) (.iptr (f (nth default l n)) 0):=ql_idxI hx hi ht h.1 h.2 hsz
theorem qo {t el:TypeId} {x i:Operand} {k:IntKind} {n:Int} {b tot off len:Nat} {blk:ABlk} (hx:ρ x=.own b tot off len) (hi:ρ i=.base (.int k n)) (ht:P.underlying t=some (.slice el))
 (hb:H[b]?=some blk) (h:blk.es.length=tot∧0≤n∧n<len) (hsz:szTy P el=some blk.sz):QL P H ρ (.indexAddr t x i) (.ptr b tot (off+n.toNat) 0):=ql_indexAddr_own hx hi ht hb h.1 h.2.1 h.2.2 hsz
theorem qw {α:Type} {t:TypeId} {x:Operand} {b tot i ty sz:Nat} {l:List α} {f:α→AV} {v:AV} (d:α) (n:Int) (hx:ρ x=.ptr b tot i 0) (hb:H[b]?=some ⟨ty,sz,l.map f⟩) (hn:i=n.toNat) (h:l.length=tot∧i<l.length)
 (hld:ldE (aggTy P t) (szTy P t) (f (nth d l n)) 0=some v):QL P H ρ (.load t x) v:=ql_load_own d n hx hb h.1 hn h.2 hld
theorem qb {t el:TypeId} {len size:Nat} {parts:Array (Nat × Operand)} {es:List AV} (ht:P.underlying t=some (.slice el)) (hsz:szTy P el=some size) (h:0<size∧len*size≤16777216) (hz:(zeroA P el).map (fun z=>z.cells.length)=some size)
 (hp:litOk size len (parts.toList.map fun (i,x)=>(i,ρ x))=true) (hes:(parts.toList.map fun (i,x)=>ρ x)=es) (hle:es.length=len) :
 QL P H ρ (.buildSlice t len parts) (.lst es):=ql_buildSlice h.1 ht hsz hz h.2 hp hes hle
end
abbrev qn:=@ql_min
abbrev qx:=@ql_max
end Go.Ab
namespace Go.Ab
open Go Go.RowKit
structure Hid (q:Prop):Prop where
 out:q
section
variable {p q:Prop}
theorem goA (h:q) (k:Hid q→p:=by intro hq__;(repeat (first|(with_reducible first|apply zs|apply zN|apply z1|apply z2|apply z3|apply z4|apply z5|apply z6|refine z7 rfl ?_|apply zb|apply zk|apply zr|apply ze|apply y1|apply y2)|((with_reducible apply zR);(refine ⟨rfl,rfl,?_⟩;simp +decide only [go_sem,List.map];rfl))|((with_reducible apply zG);(simp +decide only [go_sem];rfl);(simp +decide only [go_sem];(repeat simp +decide only [go_sem]);rfl))|(refine zp rfl rfl (pl_box (by simp +decide only [go_sem];rfl) rfl) ?_)|(refine zp rfl rfl (pl_alloc (by simp only [go_sem];rfl) rfl) ?_)|(refine zp rfl rfl (pl_store (by simp +decide only [go_sem];rfl) (by simp +decide only [go_sem];rfl) (by simp +decide only [go_sem];rfl) (by rfl) (by rfl) (by kernel_rfl) (by rfl) (by rfl)) ?_)));exact hq__.out):p:=k ⟨h⟩
theorem goB (h:q) (k:Hid q→p:=by intro hq__;(repeat (first|(with_reducible first|apply zs|apply zN|apply z1|apply z2|apply z3|apply z4|apply z5|apply z6|refine z7 rfl ?_|apply zb|apply zk|apply zr|apply ze|apply y1|apply y2)|((with_reducible apply zR);(refine ⟨rfl,rfl,?_⟩;simp +decide only [go_sem,List.map];rfl))|((with_reducible apply zG);(simp +decide only [go_sem];rfl);(simp +decide only [go_sem];(repeat simp +decide only [go_sem]);rfl))|(refine zp rfl rfl (pl_box (by simp +decide only [go_sem];rfl) rfl) ?_)|(refine zp rfl rfl (pl_alloc (by simp only [go_sem];rfl) rfl) ?_)|(refine zp rfl rfl (pl_store (by simp +decide only [go_sem];rfl) (by simp +decide only [go_sem];rfl) (by simp +decide only [go_sem];rfl) (by rfl) (by rfl) (by kernel_rfl) (by rfl) (by rfl)) ?_)|(refine zq rfl rfl (qi rfl rfl (by simp only [go_sem];rfl) (by first|omega|(simp;omega)) (by kernel_rfl)) ?_)|(refine zq rfl rfl (qo rfl rfl (by simp only [go_sem];rfl) rfl (by first|omega|(simp;omega)) (by simp only [go_sem]<;>rfl)) ?_)|(refine zq rfl rfl (qw 0 _ rfl rfl (by first|rfl|(simp only [Nat.zero_add]<;>rfl)) (by first|omega|(simp;omega)) (by simp only [go_sem]<;>rfl)) ?_)|(refine zq rfl rfl (qb (by simp only [go_sem];rfl) (by simp only [go_sem];rfl) (by decide) (by kernel_rfl) (by simp +decide only [List.map,go_sem]<;>rfl) (by simp +decide only [List.map,go_sem]<;>rfl) (by rfl)) ?_)|(refine zq rfl rfl (qn rfl rfl) ?_)|(refine zq rfl rfl (qx rfl rfl) ?_)));exact hq__.out):p:=k ⟨h⟩
end
end Go.Ab
namespace Go.Ab
open Go Go.RowKit
def keepE (E:Env):List Nat→Env
 | []=>[]
 | t::r=>(t,lk E t)::keepE E r
theorem keepE_eq (E:Env):∀ts:List Nat,keepE E ts=ts.map fun t=>(t,lk E t)
 | []=>rfl
 | t::r=>by rw [keepE,keepE_eq E r];rfl
section
variable {P:Program} {n:Fr} {q:Bool} {l:List LOp} {o:LOp} {K:ASt→Prop} {Q:Exit→ASt→Prop} {s:ASt} {c:Code}
theorem gqA {t:Tmp} {want:Bool} {L:List Bool} {v:AV} (hg:o.g=some (t,want):=by rfl) (hd:dstOk n o.dst=true:=by rfl) (hb:gval want (lk s.env t)=some L:=by (simp +decide only [go_sem]<;>rfl))
 (h:allL L=true→QL P s.H (fun x=>stripL L (ev s.env x)) o.op v) (hr:ARun P n q l K ⟨putE s.env o.dst (wrapL L v),s.H⟩):ARun P n q (o::l) K s:=ARun.gl hg hd hb h hr
theorem gxA {t:Tmp} {want:Bool} {L:List Bool} (v:AV) (hr:ARun P n q l K ⟨putE s.env o.dst (wrapL L v),s.H⟩) (hg:o.g=some (t,want):=by rfl) (hd:dstOk n o.dst=true:=by rfl) (hb:gval want (lk s.env t)=some L:=by (simp +decide only [go_sem]<;>rfl))
 (hx:allL L=false:=by (simp +decide only [go_sem,allL,Bool.false_and,Bool.and_false])):ARun P n q (o::l) K s:=ARun.gl hg hd hb (fun h=>by rw [hx] at h;cases h) hr
theorem callA {cl:Call} {fx:Operand} {f:FuncId} {caps as:List AV} {d:AV} {mm:List (Nat × Obj)} (i:FnM P mm f as d) (hr:ARun P n q l K ⟨putE s.env o.dst d,s.H⟩) (hg:o.g=none:=by rfl) (hd:dstOk n o.dst=true:=by rfl) (ho:o.op=.call cl:=by rfl) (hc:cl.callee=.value fx:=by rfl)
 (hf:ev s.env fx=.clo f caps:=by (simp +decide only [go_sem]<;>rfl)) (ha:cl.args.toList.map (ev s.env)++caps=as:=by (simp +decide only [go_sem,List.map])) (hp:∀a∈as,Pu a:=by first|(simp [-List.map_take,-List.map_drop];done)|simp [-List.map_take,-List.map_drop, *]) (hm:MemIn mm (ev s.env):=by first|exact .inl rfl|exact .inr (by (simp +decide only [go_sem]<;>rfl))):ARun P n q (o::l) K s:=
 ARun.q1 hg hd (by rw [ho];exact ql_callC i hc hf ha hp hm) hr
theorem gcallA {t:Tmp} {want:Bool} {L:List Bool} {mm:List (Nat × Obj)} {cl:Call} {fx:Operand} {f:FuncId} {caps as:List AV} {d:AV} (hg:o.g=some (t,want):=by rfl) (hd:dstOk n o.dst=true:=by rfl) (hb:gval want (lk s.env t)=some L:=by (simp +decide only [go_sem]<;>rfl)) (ho:o.op=.call cl:=by rfl) (hc:cl.callee=.value fx:=by rfl)
 (i:allL L=true→FnM P mm f as d) (hf:stripL L (ev s.env fx)=.clo f caps:=by (simp +decide only [go_sem]<;>rfl)) (ha:cl.args.toList.map (fun x=>stripL L (ev s.env x))++caps=as:=by (simp +decide only [go_sem,List.map])) (hp:∀a∈as,Pu a:=by first|(simp [-List.map_take,-List.map_drop];done)|simp [-List.map_take,-List.map_drop, *])
 (hr:ARun P n q l K ⟨putE s.env o.dst (wrapL L d),s.H⟩) (hm:MemIn mm (fun x=>stripL L (ev s.env x)):=by first|exact .inl rfl|exact .inr (by (simp +decide only [go_sem]<;>rfl))):ARun P n q (o::l) K s:=
 ARun.gl hg hd hb (fun h=>by rw [ho];exact ql_callC (i h) hc hf ha hp hm) hr
theorem bslA {t el:TypeId} {len size:Nat} {parts:Array (Nat × Operand)} {es:List AV} (ht:P.underlying t=some (.slice el)) (hsz:szTy P el=some size) (hr:ARun P n q l K ⟨putE s.env o.dst (.lst es),s.H⟩) (hg:o.g=none:=by rfl) (hd:dstOk n o.dst=true:=by rfl) (ho:o.op=.buildSlice t len parts:=by rfl)
 (hpos:0<size:=by decide) (hz:(zeroA P el).map (fun z=>z.cells.length)=some size:=by kernel_rfl) (hlen:len*size≤16777216:=by decide)
 (hp:litOk size len (parts.toList.map fun (i,x)=>(i,ev s.env x))=true:=by (simp +decide only [List.map,go_sem]<;>rfl)) (hes:(parts.toList.map fun (i,x)=>ev s.env x)=es:=by (simp +decide only [List.map,go_sem]<;>rfl)) (hle:es.length=len:=by rfl):ARun P n q (o::l) K s:=
 ARun.q1 hg hd (by rw [ho];exact ql_buildSlice hpos ht hsz hz hlen hp hes hle) hr
theorem bldA {t:TypeId} {parts:Array (Nat × Operand)} {pl:List (Nat × Nat)} {zs cs:List AV} (hp:placesOf P t=some pl) (hz:zeroA P t=some (.agg zs)) (hr:ARun P n q l K ⟨putE s.env o.dst (.agg cs),s.H⟩) (hg:o.g=none:=by rfl) (hd:dstOk n o.dst=true:=by rfl) (ho:o.op=.build t parts:=by rfl)
 (h:fillA pl zs (parts.toList.map fun (i,x)=>(i,ev s.env x))=some cs:=by (simp +decide only [List.map,go_sem]<;>rfl)):ARun P n q (o::l) K s:=
 ARun.q1 hg hd (by rw [ho];exact ql_build hp hz h) hr
theorem drA {id k:Nat} {ops:Array Oper} {D:List (Option Tmp)} {l1 l2:List LOp} (hm:P.follows .mixedOrders=true)
 (h:RegD ops k D l1 l2:=by (refine ⟨rfl,rfl,by kernel_rfl,by decide,?_,?_⟩;(simp +decide only [go_sem,List.map,List.take];rfl);(simp +decide only [go_sem,List.map,List.drop];rfl)))
 (hr:ARun P n true l1 (fun s1=>ARun P n false l2 (Q .normal) s1) s):AWp P n (.region id ops true) Q s:=AWp.drawL hm h hr
theorem keA {E E':Env} {H:List ABlk} (ts:List Nat) (h:AWp P n c Q ⟨E',H⟩) (hE:keepE E ts=E':=by (simp +decide only [keepE,lk,putE,if_true,if_false,List.cons_append,List.nil_append,cut_nil,cut_cons,keys_nil,keys_cons]<;>rfl)):AWp P n c Q ⟨E,H⟩:=
 AWp.only ts (by rw [← keepE_eq,hE];exact h)
theorem ifA {b:Bool} {cc:Operand} {x y:Code} (ht:b=true→AWp P n x Q s) (hf:b=false→AWp P n y Q s) (hc:ev s.env cc=.base (.bool b):=by rfl):AWp P n (.cond cc x y) Q s:=AWp.cond hc ht hf
end
theorem Wk.wk {n:Fr} {E E2:Env} {H:List ABlk} (h:WkE E E2:=by first|(simp +decide only [go_sem];done)|(simp +decide only [go_sem];(repeat' apply And.intro)<;>exact Le.refl _)):Wk n ⟨E,H⟩ ⟨E2,H⟩:=.env' h
end Go.Ab
namespace Go.Ab
open Go Go.RowKit
def FnH (P:Program) (f:FuncId) (args:List AV) (H:List ABlk) (d:AV) (H':List ABlk):Prop:=
 (∃fn,P.funcs[f]?=some fn∧(fn.name == "runtime.NumGoroutine")=false∧fn.body.isNone=false) ∧
 ∀(w:World) (O:Nat→Prop) (ι:Nat→Option Nat) (vs:Array Value),Sit ⟨w,rng ι H,H,ι⟩ O ι H w→vs.size=args.length →
  (∀(j:Nat) (a:AV) (u:Value),args[j]?=some a→vs[j]?=some u→VR w (OO O ι H) ι H a u) →
  Calls P f vs w fun e w'=>∃v ι',e=.returned v∧Sit ⟨w,rng ι H,H,ι⟩ O ι' H' w'∧VR w' (OO O ι' H') ι' H' d v
def RetH (P:Program) (rs:List ResultVar) (n:Fr) (d:AV) (H':List ABlk) (s:ASt):Prop:=
 ∃s2 vs r q,Wk n s s2∧resVals P s2 rs=some vs∧Sel n.m r q s2.H H'∧PubR r s2.H (packA vs) d
def retHQ (P:Program) (rs:List ResultVar) (n:Fr) (d:AV) (H':List ABlk):Exit→ASt→Prop
 | .normal,s | .ret,s=>RetH P rs n d H' s
 | _,_=>False
section
variable {P:Program}
theorem lk_args:∀(l:List AV) (k t:Nat),lk ((l.zipIdx k).map fun (a,i)=>(i,a)) t=if k≤t then (l[t-k]?).getD .bad else .bad
 | [],k,t=>by simp [lk]
 | x::l,k,t=>by
   simp only [List.zipIdx_cons,List.map_cons,lk,lk_args l (k+1) t]
   split
   ·rename_i e;subst e;simp
   ·rename_i e
    by_cases hlt:k≤t
    ·rw [if_pos (by omega),if_pos hlt,show t-k=(t-(k+1))+1 by omega];rfl
    ·rw [if_neg (by omega),if_neg hlt]
theorem FnH.intro {f:FuncId} {fn:Func} {c:Code} {args:List AV} {d:AV} {H H':List ABlk} (hf:P.funcs[f]?=some fn) (hn:(fn.name == "runtime.NumGoroutine")=false) (hb:fn.body=some c) (ha:args.length≤fn.ntmps)
 (h:AWp P ⟨fn.ntmps,H.length⟩ c (retHQ P fn.results.toList ⟨fn.ntmps,H.length⟩ d H') ⟨args.zipIdx.map fun (a,i)=>(i,a),H⟩):FnH P f args H d H':=by
 refine ⟨⟨fn,hf,hn,by rw [hb];rfl⟩,fun w O ι vs hS hl hv=>?_⟩
 refine calls_of_wp hf hb ?_
 have hs:SR ⟨fn.ntmps,H.length⟩ ⟨w,rng ι H,H,ι⟩ O ⟨args.zipIdx.map fun (a,i)=>(i,a),H⟩ ι { tmps:=vs++Array.replicate (fn.ntmps-vs.size) undef,defers:=[] } w:=by
  refine ⟨hS,rfl,by simp;omega,rfl,fun t=>?_⟩
  show VR _ _ _ _ (lk (args.zipIdx.map fun (a,i)=>(i,a)) t) _
  rw [lk_args args 0 t]
  simp only [Nat.zero_le,if_true,Nat.sub_zero]
  cases ht:args[t]? with
  | none=>exact .bad _
  | some x =>
    have htl:t<args.length:=(List.getElem?_eq_some_iff.1 ht).1
    have hu:vs[t]?=some vs[t]:=Array.getElem?_eq_getElem (by omega)
    have h1:=hv t x _ ht hu
    rw [Array.getD_eq_getD_getElem?,Array.getElem?_append_left (by omega),hu]
    exact h1
 refine wp_mono (h _ O ι _ w hs) ?_
 have fin:∀(s':ASt) (ι':Nat→Option Nat) (a:Act) (w':World),RetH P fn.results.toList ⟨fn.ntmps,H.length⟩ d H' s'→SR ⟨fn.ntmps,H.length⟩ ⟨w,rng ι H,H,ι⟩ O s' ι' a w' →
  a.defers=[]∧∃v,(results fn a.tmps).run P w'=.ok v w'∧∃v' ι2,Ending.returned v=.returned v'∧Sit ⟨w,rng ι H,H,ι⟩ O ι2 H' w'∧VR w' (OO O ι2 H') ι2 H' d v':=by
  rintro s0 ι0 a w' ⟨s',rs,r,q,hw,h1,h2,h3⟩ hs0
  obtain ⟨ι',hs'⟩:=hw _ _ _ _ _ hs0
  obtain ⟨u,h4,h5⟩:=results_run hs' h1
  exact ⟨hs'.defers,u,h4,u,_,rfl,hs'.sit.sel hs'.hand h2,h3 H' _ w' O ι' _ u hs'.sit (h2.view ι') h5⟩
 rintro e a w' ⟨s',ι',h1,h2⟩
 cases e with
 | normal=>exact fin s' ι' a w' h1 h2
 | ret=>exact fin s' ι' a w' h1 h2
 | _=>exact h1.elim
theorem FnH.intro' {f:FuncId} {fn:Func} {c:Code} {args:List AV} {d:AV} {H H':List ABlk} (E:Env) (m n k:Nat) (hf:P.funcs[f]?=some fn) (hn:(fn.name == "runtime.NumGoroutine")=false) (hb:fn.body=some c)
 (hm:args.length=m) (hnt:fn.ntmps=n) (ha:Nat.ble m n=true) (hE:args.zipIdx.map (fun (a,i)=>(i,a))=E) (hk:H.length=k)
 (h:AWp P ⟨n,k⟩ c (retHQ P fn.results.toList ⟨n,k⟩ d H') ⟨E,H⟩):FnH P f args H d H':=by
 refine FnH.intro hf hn hb (by rw [hm,hnt];exact Nat.le_of_ble_eq_true ha) ?_
 rw [hE,hnt,hk];exact h
theorem retHQ_n {rs:List ResultVar} {m:Fr} {d:AV} {H':List ABlk} {s:ASt} (h:RetH P rs m d H' s):retHQ P rs m d H' .normal s:=h
theorem retHQ_r {rs:List ResultVar} {m:Fr} {d:AV} {H':List ABlk} {s:ASt} (h:RetH P rs m d H' s):retHQ P rs m d H' .ret s:=h
end
def Idx (r:Nat→Option Nat) (ι ι2:Nat→Option Nat) (H H2:List ABlk):Prop:=
 ∀(b j:Nat) (blk:ABlk),r b=some j→H[b]?=some blk→∃blk2,H2[j]?=some blk2∧blk2.es.length=blk.es.length∧blk2.sz=blk.sz∧ι2 j=ι b
def MvR (r:Nat→Option Nat) (H:List ABlk) (a b:AV):Prop:=∀(H2:List ABlk) (w:World) (O:Nat→Prop) (ι ι2:Nat→Option Nat) (u:Value),Idx r ι ι2 H H2→VR w O ι H a u→VR w O ι2 H2 b u
section
variable {r:Nat→Option Nat} {H:List ABlk}
theorem MvR.pu {a:AV} (h:Pu a):MvR r H a a:=fun H2 w O ι ι2 u v hu=>(h _ _ _ _ _ hu).back
theorem MvR.tup {cs ds:List AV} (hl:cs.length=ds.length) (h:∀(j:Nat) (c d:AV),cs[j]?=some c→ds[j]?=some d→MvR r H c d):MvR r H (.tup cs) (.tup ds):=fun H2 w O ι ι2 u v hu=>by
 obtain ⟨arr,rfl,h1,h2⟩:=hu.tup_inv
 refine .tup ds arr (h1.trans hl) fun j d u hd hu=>?_
 have hj:j<cs.length:=by rw [hl];exact (List.getElem?_eq_some_iff.1 hd).1
 exact h j _ d (List.getElem?_eq_getElem hj) hd H2 w O ι ι2 u v (h2 j _ u (List.getElem?_eq_getElem hj) hu)
theorem MvR.clo {f:FuncId} {cs ds:List AV} (hl:cs.length=ds.length) (h:∀(j:Nat) (c d:AV),cs[j]?=some c→ds[j]?=some d→MvR r H c d):MvR r H (.clo f cs) (.clo f ds):=fun H2 w O ι ι2 u v hu=>by
 cases hu with
 | clo f cs arr h1 h2 =>
 refine .clo f ds arr (h1.trans hl) fun j d u hd hu=>?_
 have hj:j<cs.length:=by rw [hl];exact (List.getElem?_eq_some_iff.1 hd).1
 exact h j _ d (List.getElem?_eq_getElem hj) hd H2 w O ι ι2 u v (h2 j _ u (List.getElem?_eq_getElem hj) hu)
theorem MvR.ptr {b j tot i off:Nat} (hb:r b=some j):MvR r H (.ptr b tot i off) (.ptr j tot i off):=fun H2 w O ι ι2 u v hu=>by
 cases hu with
 | stalePtr b tot i off blk a h1 h2 =>
   obtain ⟨blk2,e1,e2,e3,e4⟩:=v b j blk hb h1
   exact .stalePtr _ _ _ _ blk2 _ e1 (by omega)
 | ptr b tot i off blk x h1 ht hi hcx =>
   obtain ⟨blk2,e1,e2,e3,e4⟩:=v b j blk hb h1
   have:=VR.ptr (w:=w) (O:=O) j tot i off blk2 x e1 (e2.trans ht) (e4.trans hi) hcx
   rwa [e3] at this
theorem MvR.own {b j tot off len:Nat} (hb:r b=some j):MvR r H (.own b tot off len) (.own j tot off len):=fun H2 w O ι ι2 u v hu=>by
 cases hu with
 | staleOwn b tot off len blk a n c h1 h2 =>
   obtain ⟨blk2,e1,e2,e3,e4⟩:=v b j blk hb h1
   exact .staleOwn _ _ _ _ blk2 _ _ _ e1 (by omega)
 | ownNil b blk h1 he hi =>
   obtain ⟨blk2,e1,e2,e3,e4⟩:=v b j blk hb h1
   rw [he] at e2
   exact .ownNil j blk2 e1 (List.eq_nil_of_length_eq_zero e2) (e4.trans hi)
 | own b tot off len blk x n cap a h1 ht hi hn hl hcap ha =>
   obtain ⟨blk2,e1,e2,e3,e4⟩:=v b j blk hb h1
   exact .own _ _ _ _ blk2 x n cap a e1 (e2.trans ht) (e4.trans hi) hn hl hcap (by rw [e3];exact ha)
def MvL (r:Nat→Option Nat) (H:List ABlk):List AV→List AV→Prop
 | [],[]=>True
 | a::l,b::m=>MvR r H a b∧MvL r H l m
 | _,_=>False
theorem MvL.len:∀ {l m:List AV},MvL r H l m→l.length=m.length
 | [],[],_=>rfl
 | _::l,_::m,h=>by simp [MvL.len h.2]
theorem MvL.get:∀ {l m:List AV},MvL r H l m→∀(j:Nat) (a b:AV),l[j]?=some a→m[j]?=some b→MvR r H a b
 | _::l,_::m,h,0,a,b,h1,h2=>by cases h1;cases h2;exact h.1
 | _::l,_::m,h,j+1,a,b,h1,h2=>MvL.get h.2 j a b h1 h2
theorem MvR.tup' {cs ds:List AV} (h:MvL r H cs ds):MvR r H (.tup cs) (.tup ds):=.tup h.len h.get
end
def BlkMv (r:Nat→Option Nat) (H:List ABlk) (b b2:ABlk):Prop:=b2.ty=b.ty∧b2.sz=b.sz∧b2.es.length=b.es.length ∧
 ∀(i:Nat) (e e2:AV),b.es[i]?=some e→b2.es[i]?=some e2→e.cells.length=e2.cells.length∧∀(k:Nat) (c c2:AV),e.cells[k]?=some c→e2.cells[k]?=some c2→MvR r H c c2
theorem BlkMv.br {r:Nat→Option Nat} {H H2:List ABlk} {b b2:ABlk} (h:BlkMv r H b b2) {w:World} {O O2:Nat→Prop} {ι ι2:Nat→Option Nat} {x:Nat} (hO:∀y,O2 y↔O y) (v:Idx r ι ι2 H H2) (hr:BR w O ι H b x):BR w O2 ι2 H2 b2 x:=by
 obtain ⟨e1,e2,e3,e4⟩:=h
 obtain ⟨c,k2,k3,k4,k5⟩:=hr
 refine ⟨c,by rw [e1];exact k2,by rw [e2,e3];exact k3,fun e he=>?_,fun i k e2' d he hd=>?_⟩
 ·obtain ⟨i,hi',he'⟩:=List.mem_iff_getElem.1 he
  have hei:b.es[i]?=some (b.es[i]'(by omega)):=List.getElem?_eq_getElem (by omega)
  obtain ⟨f1,_⟩:=e4 i _ e hei (by rw [List.getElem?_eq_getElem hi',he'])
  rw [← f1,e2]
  exact k4 _ (List.getElem_mem _)
 ·have hil:i<b.es.length:=by rw [← e3];exact (List.getElem?_eq_some_iff.1 he).1
  have hei:b.es[i]?=some b.es[i]:=List.getElem?_eq_getElem hil
  obtain ⟨f1,f2⟩:=e4 i _ e2' hei he
  have hkl:k<b.es[i].cells.length:=by rw [f1];exact (List.getElem?_eq_some_iff.1 hd).1
  obtain ⟨u,hu,hv⟩:=k5 i k _ _ hei (List.getElem?_eq_getElem hkl)
  exact ⟨u,by rw [e2];exact hu,(f2 k _ d (List.getElem?_eq_getElem hkl) hd H2 w O ι ι2 u v hv).lessO fun y hy=>(hO y).1 hy⟩
end Go.Ab
namespace Go.Ab
open Go Go.RowKit
def ro (e:List Nat) (b:Nat):Option Nat:=e.findIdx? (·==b)
def rb (e:List Nat) (n:Nat) (j:Nat):Option Nat:=if j<e.length then e[j]? else some (n+(j-e.length))
theorem ro_some {e:List Nat} {b j:Nat} (h:ro e b=some j):e[j]?=some b:=by
 unfold ro at h
 rw [List.findIdx?_eq_some_iff_getElem] at h
 obtain ⟨hj,h1,_⟩:=h
 rw [List.getElem?_eq_getElem hj]
 simp at h1
 rw [h1]
structure CallE (e:List Nat) (HC H H' HC':List ABlk):Prop where
 one:e.Nodup
 len:e.length=H.length
 inn:∀(j b:Nat),e[j]?=some b→∃bc bk,HC[b]?=some bc∧H[j]?=some bk∧BlkMv (ro e) HC bc bk
 le:H.length≤H'.length
 len2:HC'.length=HC.length+(H'.length-H.length)
 stay:∀(b:Nat),b<HC.length→b∉e→HC'[b]?=HC[b]?
 out:∀(j c:Nat) (bk:ABlk),rb e HC.length j=some c→H'[j]?=some bk→∃bc,HC'[c]?=some bc∧BlkMv (rb e HC.length) H' bk bc
section
variable {P:Program} {HC:List ABlk}
theorem pl_callH {ρ:Operand→AV} {c:Call} {fx:Operand} {f:FuncId} {caps args:List AV} {d d':AV} {e:List Nat} {H H' HC':List ABlk} (hf:FnH P f args H d H') (hE:CallE e HC H H' HC') (hc:c.callee=.value fx)
 (hfx:ρ fx=.clo f caps) (ha:MvL (ro e) HC (c.args.toList.map ρ++caps) args) (hd:MvR (rb e HC.length) H' d d'):PL P HC ρ (.call c) d' HC':=by
 intro o ho w0 O ι a w hs hv K Q hK
 obtain ⟨⟨fn,g1,g2,g3⟩,g4⟩:=hf
 have h5:=hv fx
 rw [hfx] at h5
 generalize hX:a.eval fx=X at h5
 cases h5 with
 | clo f caps arr hlen hcap =>
 have hargs:∀(j:Nat) (x:AV) (u:Value),(c.args.toList.map ρ++caps)[j]?=some x→(c.args.map a.eval++arr)[j]?=some u→VR w (OO O ι HC) ι HC x u:=by
  intro j x u hx hu
  rw [List.getElem?_append] at hx
  rw [Array.getElem?_append] at hu
  simp only [List.length_map,Array.length_toList,Array.size_map] at hx hu
  split at hx
  ·rename_i hj
   rw [if_pos hj] at hu
   simp only [List.getElem?_map,Array.getElem?_map,Array.getElem?_toList,Option.map_eq_some_iff] at hx hu
   obtain ⟨y,hy,rfl⟩:=hx
   obtain ⟨z,hz,rfl⟩:=hu
   rw [hy] at hz;cases hz
   exact hv y
  ·rename_i hj
   rw [if_neg hj] at hu
   exact hcap _ _ _ hx hu
 have hrun:(execOp a.eval o).run P w=.ok (.enter f (c.args.map a.eval++arr)) w:=by
  unfold execOp
  rw [ho]
  simp only [resolve,hc,Deferred.ofValue,hX,Sem.run_bind,Sem.run_pure,Result.andThen_ok,invoke,Array.empty_append,callFunc_run g1 g2 g3]
 -- the callee's numbers
 let ι1:Nat→Option Nat:=fun j=>(e[j]?).bind ι
 have hι1:∀j b,e[j]?=some b→ι1 j=ι b:=fun j b h=>by simp [ι1,h]
 have hjlt:∀j,j<H.length→∃b,e[j]?=some b:=fun j hj=>⟨_,List.getElem?_eq_getElem (by rw [hE.len];exact hj)⟩
 have hblt:∀j b,e[j]?=some b→b<HC.length:=fun j b h=>by
  obtain ⟨bc,bk,h1,_⟩:=hE.inn j b h
  exact (List.getElem?_eq_some_iff.1 h1).1
 have huniq:∀i j b,e[i]?=some b→e[j]?=some b→i=j:=fun i j b h1 h2=>by
  obtain ⟨h1l,h1e⟩:=List.getElem?_eq_some_iff.1 h1
  obtain ⟨h2l,h2e⟩:=List.getElem?_eq_some_iff.1 h2
  exact (List.getElem_inj hE.one).1 (h1e.trans h2e.symm)
 have hlt:∀b x,b<HC.length→ι b=some x→x<w.heap.size:=fun b x hb hx=>(hs.heap b _ x (List.getElem?_eq_getElem hb) hx).2.lt
 have hrngI:∀x,rng ι1 H x↔∃j b,e[j]?=some b∧ι b=some x:=fun x=>by
  constructor
  ·rintro ⟨j,hj,hx⟩
   obtain ⟨b,hb⟩:=hjlt j hj
   exact ⟨j,b,hb,by rw [← hι1 j b hb];exact hx⟩
  ·rintro ⟨j,b,hb,hx⟩
   exact ⟨j,by rw [← hE.len];exact (List.getElem?_eq_some_iff.1 hb).1,by rw [hι1 j b hb];exact hx⟩
 let O1:Nat→Prop:=fun x=>OO O ι HC x∧¬rng ι1 H x
 have hOO1:∀x,OO O1 ι1 H x↔OO O ι HC x:=fun x=>by
  constructor
  ·rintro (h|h)
   ·exact h.1
   ·obtain ⟨j,b,hb,hx⟩:=(hrngI x).1 h
    exact .inr ⟨b,hblt j b hb,hx⟩
  ·intro h
   by_cases hr:rng ι1 H x
   ·exact .inr hr
   ·exact .inl ⟨h,hr⟩
 have hidx:Idx (ro e) ι ι1 HC H:=fun b j blk hr hb=>by
  have hj:=ro_some hr
  obtain ⟨bc,bk,k1,k2,k3,k4,k5,_⟩:=hE.inn j b hj
  rw [hb] at k1;injection k1 with k1;subst k1
  exact ⟨bk,k2,k5,k4,hι1 j b hj⟩
 have hS1:Sit ⟨w,rng ι1 H,H,ι1⟩ O1 ι1 H w:=by
  refine ⟨fun j bk x h1 h2=>⟨.inr ⟨j,(List.getElem?_eq_some_iff.1 h1).1,h2⟩,?_⟩,fun j bk h1 h2=>?_,fun i j x hi hj h1 h2=>?_,Bel.refl ..,fun x hx=>?_,fun x j hO hj hx=>hO.2 ⟨j,hj,hx⟩,.refl ..⟩
  ·obtain ⟨b,hb⟩:=hjlt j (List.getElem?_eq_some_iff.1 h1).1
   obtain ⟨bc,bk',k1,k2,k3⟩:=hE.inn j b hb
   rw [h1] at k2;injection k2 with k2;subst k2
   exact k3.br hOO1 hidx (hs.heap b bc x k1 (by rw [← hι1 j b hb];exact h2)).2
  ·obtain ⟨b,hb⟩:=hjlt j (List.getElem?_eq_some_iff.1 h1).1
   obtain ⟨bc,bk',k1,k2,k3,k4,k5,_⟩:=hE.inn j b hb
   rw [h1] at k2;injection k2 with k2;subst k2
   have:=hs.empt b bc k1 (by rw [← hι1 j b hb];exact h2)
   rw [this] at k5
   exact List.eq_nil_of_length_eq_zero k5
  ·obtain ⟨b,hb⟩:=hjlt i hi
   obtain ⟨b',hb'⟩:=hjlt j hj
   rw [hι1 i b hb] at h1;rw [hι1 j b' hb'] at h2
   have:=hs.inj b b' x (hblt i b hb) (hblt j b' hb') h1 h2
   subst this
   exact huniq i j b hb hb'
  ·rcases hx.1 with h|⟨b,hb,hx⟩
   ·exact hs.old x h
   ·exact hlt b x hb hx
 unfold Oper.wp
 rw [hrun,Oper.upon_enter]
 refine (g4 w O1 ι1 (c.args.map a.eval++arr) hS1 (by have:=ha.len;simp only [List.length_append,List.length_map,Array.length_toList] at this;simp [hlen,← this]) fun j x u hx hu=>?_).mono ?_
 ·have hj:j<(c.args.toList.map ρ++caps).length:=by rw [ha.len];exact (List.getElem?_eq_some_iff.1 hx).1
  have h1:=List.getElem?_eq_getElem hj
  exact (ha.get j _ x h1 hx H w _ ι ι1 u hidx (hargs j _ u h1 hu)).lessO fun y hy=>(hOO1 y).1 hy
 rintro ex w' ⟨v,ι2,rfl,hS2,hv2⟩
 -- back to the caller's numbers
 let ι3:Nat→Option Nat:=fun b=>match ro e b with
  | some j=>ι2 j
  | none=>if b<HC.length then ι b else ι2 (H.length+(b-HC.length))
 have hroE:∀j b,e[j]?=some b→ro e b=some j:=fun j b h=>by
  cases hr:ro e b with
  | none =>
    unfold ro at hr
    rw [List.findIdx?_eq_none_iff] at hr
    have:=hr b (List.mem_of_getElem? h)
    simp at this
  | some j'=>rw [huniq j' j b (ro_some hr) h]
 have hroN:∀b,b∉e→ro e b=none:=fun b h=>by
  cases hr:ro e b with
  | none=>rfl
  | some j=>exact absurd (List.mem_of_getElem? (ro_some hr)) h
 have i3e:∀j b,e[j]?=some b→ι3 b=ι2 j:=fun j b h=>by simp only [ι3,hroE j b h]
 have i3s:∀b,b<HC.length→b∉e→ι3 b=ι b:=fun b hb h=>by simp only [ι3,hroN b h,hb,if_true]
 have hmem:∀b,b∈e→b<HC.length:=fun b h=>by
  obtain ⟨j,hj⟩:=List.getElem?_of_mem h
  exact hblt j b hj
 have i3n:∀k,ι3 (HC.length+k)=ι2 (H.length+k):=fun k=>by
  simp only [ι3,hroN (HC.length+k) fun h=>by have:=hmem _ h;omega]
  rw [if_neg (by omega),Nat.add_sub_cancel_left]
 have hrb:∀j,j<H'.length→∃b,rb e HC.length j=some b∧ι3 b=ι2 j∧b<HC'.length:=fun j hj=>by
  unfold rb
  by_cases h:j<e.length
  ·rw [if_pos h,List.getElem?_eq_getElem h]
   have h1:=List.getElem?_eq_getElem h
   exact ⟨_,rfl,i3e j _ h1,by have:=hblt j _ h1;rw [hE.len2];omega⟩
  ·rw [if_neg h]
   refine ⟨_,rfl,?_,?_⟩
   ·rw [i3n,hE.len];congr 1;have:=hE.len;omega
   ·rw [hE.len2];have:=hE.len;omega
 have hidx3:Idx (rb e HC.length) ι2 ι3 H' HC':=fun j b bk hr hb=>by
  obtain ⟨bc,k1,k2,k3,k4,_⟩:=hE.out j b bk hr hb
  obtain ⟨b',h1,h2,_⟩:=hrb j (List.getElem?_eq_some_iff.1 hb).1
  rw [hr] at h1;injection h1 with h1;subst h1
  exact ⟨bc,k1,k4,k3,h2⟩
 -- every block of the caller is one that stayed, or one of the callee's
 have hwhat:∀b,b<HC'.length→(b<HC.length∧b∉e)∨∃j,j<H'.length∧rb e HC.length j=some b:=fun b hb=>by
  by_cases h:b<HC.length
  ·by_cases hbe:b∈e
   ·obtain ⟨j,hj⟩:=List.getElem?_of_mem hbe
    have hjl:=(List.getElem?_eq_some_iff.1 hj).1
    exact .inr ⟨j,by have:=hE.len;have:=hE.le;omega,by unfold rb;rw [if_pos hjl];exact hj⟩
   ·exact .inl ⟨h,hbe⟩
  ·have:=hE.len;have:=hE.len2;have:=hE.le
   exact .inr ⟨H.length+(b-HC.length),by omega,by unfold rb;rw [if_neg (by omega)];congr 1;omega⟩
 have hsz:w.heap.size≤w'.heap.size:=hS2.below.size
 have hblkW:∀x,x<w.heap.size→¬rng ι1 H x→w'.heap[x]?=w.heap[x]?:=fun x h1 h2=>hS2.below.block x h1 h2
 have hnew:∀j x,j<H'.length→ι2 j=some x→w.heap.size≤x∨rng ι1 H x:=fun j x hj hx=>(hS2.heap j _ x (List.getElem?_eq_getElem hj) hx).1
 have hstay:∀b x,b<HC.length→b∉e→ι b=some x→¬rng ι1 H x:=fun b x hb hbe hx hr=>by
  obtain ⟨j,b',hb',hx'⟩:=(hrngI x).1 hr
  have:=hs.inj b b' x hb (hblt j b' hb') hx hx'
  subst this
  exact hbe (List.mem_of_getElem? hb')
 have hOO3:∀x,OO O ι3 HC' x↔OO O1 ι2 H' x:=fun x=>by
  constructor
  ·rintro (h|⟨b,hb,hx⟩)
   ·refine .inl ⟨.inl h,fun hr=>?_⟩
    obtain ⟨j,b,hb,hx⟩:=(hrngI x).1 hr
    exact hs.disj x b h (hblt j b hb) hx
   ·rcases hwhat b hb with ⟨h1,h2⟩|⟨j,hj,hr⟩
    ·rw [i3s b h1 h2] at hx
     exact .inl ⟨.inr ⟨b,h1,hx⟩,hstay b x h1 h2 hx⟩
    ·obtain ⟨b',k1,k2,_⟩:=hrb j hj
     rw [hr] at k1;injection k1 with k1;subst k1
     exact .inr ⟨j,hj,by rw [← k2];exact hx⟩
  ·rintro (⟨h,hr⟩|⟨j,hj,hx⟩)
   ·rcases h with h|⟨b,hb,hx⟩
    ·exact .inl h
    ·have hbe:b∉e:=fun hbe=>by
      obtain ⟨j,hj⟩:=List.getElem?_of_mem hbe
      exact hr ((hrngI x).2 ⟨j,b,hj,hx⟩)
     exact .inr ⟨b,by rw [hE.len2];omega,by rw [i3s b hb hbe];exact hx⟩
   ·obtain ⟨b,k1,k2,k3⟩:=hrb j hj
    exact .inr ⟨b,k3,by rw [k2];exact hx⟩
 have g:Goes w (OO O ι HC) ι HC w' (OO O ι3 HC') ι3 HC':=by
  refine ⟨fun p u h hcell=>?_,fun p u h hcell h'=>?_,fun b blk h=>?_,fun b x blk blk' c1 ty fz h1 h2 h3 hi h=>?_⟩
  ·have hl:=heap_lt hcell
   rw [hblkW p hl fun hr=>?_]
   ·exact hcell
   ·obtain ⟨j,b,hb,hx⟩:=(hrngI _).1 hr
    exact h (.inr ⟨b,hblt j b hb,hx⟩)
  ·have hl:=heap_lt hcell
   rcases (hOO3 _).1 h' with h'|⟨j,hj,hx⟩
   ·exact h h'.1
   ·rcases hnew j _ hj hx with h1|h1
    ·omega
    ·obtain ⟨j',b,hb,hx'⟩:=(hrngI _).1 h1
     exact h (.inr ⟨b,hblt j' b hb,hx'⟩)
  ·have hb:=(List.getElem?_eq_some_iff.1 h).1
   by_cases hbe:b∈e
   ·obtain ⟨j,hj⟩:=List.getElem?_of_mem hbe
    obtain ⟨bc,bk,k1,k2,k3,k4,k5,_⟩:=hE.inn j b hj
    rw [h] at k1;injection k1 with k1;subst k1
    obtain ⟨bk2,f1,f2,f3⟩:=hS2.hist.blk j bk k2
    have hr:rb e HC.length j=some b:=by unfold rb;rw [if_pos (List.getElem?_eq_some_iff.1 hj).1];exact hj
    obtain ⟨bc2,m1,m2,m3,m4,_⟩:=hE.out j b bk2 hr f1
    refine ⟨bc2,m1,by omega,fun he=>?_⟩
    obtain ⟨n1,n2⟩:=f3 (by omega)
    exact ⟨by rw [m3,n1,k4],by rw [i3e j b hj,n2];exact hι1 j b hj⟩
   ·exact ⟨blk,by rw [hE.stay b hb hbe];exact h,Nat.le_refl _,fun _=>⟨rfl,i3s b hb hbe⟩⟩
  ·have hb:=(List.getElem?_eq_some_iff.1 h1).1
   by_cases hbe:b∈e
   ·obtain ⟨j,hj⟩:=List.getElem?_of_mem hbe
    obtain ⟨bc,bk,k1,k2,k3,k4,k5,_⟩:=hE.inn j b hj
    rw [h1] at k1;injection k1 with k1;subst k1
    obtain ⟨bk2,f1,f2,f3⟩:=hS2.hist.blk j bk k2
    have hr:rb e HC.length j=some b:=by unfold rb;rw [if_pos (List.getElem?_eq_some_iff.1 hj).1];exact hj
    obtain ⟨bc2,m1,m2,m3,m4,_⟩:=hE.out j b bk2 hr f1
    rw [h2] at m1;injection m1 with m1;subst m1
    exact hS2.hist.size j x bk bk2 c1 ty fz k2 f1 (by omega) ((hι1 j b hj).trans hi) h
   ·exact ⟨c1,ty,fz,by rw [hblkW x (hlt b x hb hi) (hstay b x hb hbe hi)];exact h,rfl⟩
 have hS3:Sit w0 O ι3 HC' w':=by
  refine ⟨fun b bk x h1 h2=>?_,fun b bk h1 h2=>?_,fun b b' x hb hb' h1 h2=>?_,?_,fun x hx=>Nat.lt_of_lt_of_le (hs.old x hx) hsz,fun x b hO hb hx=>?_,hs.hist.trans g.grow⟩
  ·have hb:=(List.getElem?_eq_some_iff.1 h1).1
   rcases hwhat b hb with ⟨k1,k2⟩|⟨j,hj,hr⟩
   ·rw [hE.stay b k1 k2] at h1
    rw [i3s b k1 k2] at h2
    obtain ⟨m1,m2⟩:=hs.heap b bk x h1 h2
    exact ⟨m1,m2.mono g (hblkW x m2.lt (hstay b x k1 k2 h2))⟩
   ·obtain ⟨b',k1,k2,_⟩:=hrb j hj
    rw [hr] at k1;injection k1 with k1;subst k1
    obtain ⟨bc,m1,m2⟩:=hE.out j b _ hr (List.getElem?_eq_getElem hj)
    rw [h1] at m1;injection m1 with m1;subst m1
    rw [k2] at h2
    obtain ⟨n1,n2⟩:=hS2.heap j _ x (List.getElem?_eq_getElem hj) h2
    refine ⟨?_,m2.br hOO3 hidx3 n2⟩
    rcases n1 with n1|n1
    ·exact .inl (Nat.le_trans hs.below.size n1)
    ·obtain ⟨j',b',hb',hx'⟩:=(hrngI x).1 n1
     exact (hs.heap b' _ x (List.getElem?_eq_getElem (hblt j' b' hb')) hx').1
  ·have hb:=(List.getElem?_eq_some_iff.1 h1).1
   rcases hwhat b hb with ⟨k1,k2⟩|⟨j,hj,hr⟩
   ·rw [hE.stay b k1 k2] at h1
    rw [i3s b k1 k2] at h2
    exact hs.empt b bk h1 h2
   ·obtain ⟨b',k1,k2,_⟩:=hrb j hj
    rw [hr] at k1;injection k1 with k1;subst k1
    obtain ⟨bc,m1,m2,m3,m4,_⟩:=hE.out j b _ hr (List.getElem?_eq_getElem hj)
    rw [h1] at m1;injection m1 with m1;subst m1
    rw [k2] at h2
    have:=hS2.empt j _ (List.getElem?_eq_getElem hj) h2
    rw [this] at m4
    exact List.eq_nil_of_length_eq_zero m4
  ·rcases hwhat b hb with ⟨k1,k2⟩|⟨j,hj,hr⟩<;>rcases hwhat b' hb' with ⟨k1',k2'⟩|⟨j',hj',hr'⟩
   ·rw [i3s b k1 k2] at h1;rw [i3s b' k1' k2'] at h2
    exact hs.inj b b' x k1 k1' h1 h2
   ·exfalso
    rw [i3s b k1 k2] at h1
    obtain ⟨b2,m1,m2,_⟩:=hrb j' hj'
    rw [hr'] at m1;injection m1 with m1;subst m1
    rw [m2] at h2
    rcases hnew j' x hj' h2 with n|n
    ·have:=hlt b x k1 h1;omega
    ·exact hstay b x k1 k2 h1 n
   ·exfalso
    rw [i3s b' k1' k2'] at h2
    obtain ⟨b2,m1,m2,_⟩:=hrb j hj
    rw [hr] at m1;injection m1 with m1;subst m1
    rw [m2] at h1
    rcases hnew j x hj h1 with n|n
    ·have:=hlt b' x k1' h2;omega
    ·exact hstay b' x k1' k2' h2 n
   ·obtain ⟨b2,m1,m2,_⟩:=hrb j hj
    rw [hr] at m1;injection m1 with m1;subst m1
    obtain ⟨b3,m1',m2',_⟩:=hrb j' hj'
    rw [hr'] at m1';injection m1' with m1';subst m1'
    rw [m2] at h1;rw [m2'] at h2
    have:=hS2.inj j j' x hj hj' h1 h2
    subst this
    rw [hr] at hr';injection hr' with hr'
  ·refine hs.below.change hS2.below.os hS2.below.tape hS2.below.output hsz fun k hk hne=>?_
   by_cases hr:rng ι1 H k
   ·obtain ⟨j,b,hb,hx⟩:=(hrngI k).1 hr
    exact (hs.heap b _ k (List.getElem?_eq_getElem (hblt j b hb)) hx).1
   ·exact absurd (hblkW k hk hr) hne
  ·rcases hwhat b hb with ⟨k1,k2⟩|⟨j,hj,hr⟩
   ·rw [i3s b k1 k2] at hx;exact hs.disj x b hO k1 hx
   ·obtain ⟨b',k1,k2,_⟩:=hrb j hj
    rw [hr] at k1;injection k1 with k1;subst k1
    rw [k2] at hx
    refine hS2.disj x j ⟨.inl hO,fun hr=>?_⟩ hj hx
    obtain ⟨j',b',hb',hx'⟩:=(hrngI x).1 hr
    exact hs.disj x b' hO (hblt j' b' hb') hx'
 exact hK v w' ι3 hS3 g ((hd HC' w' _ ι2 ι3 v hidx3 hv2).lessO fun y hy=>(hOO3 y).1 hy)
end
end Go.Ab
