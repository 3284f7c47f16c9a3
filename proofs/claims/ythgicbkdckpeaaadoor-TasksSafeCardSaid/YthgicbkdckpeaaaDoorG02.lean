/- Simple operations are sound; calls; indexes; slices. -/
import Derived.Test.YthgicbkdckpeaaaDoorG01
set_option linter.unusedSimpArgs false
set_option linter.unusedVariables false
namespace Go.Ab
open Go Go.RowKit
theorem asIntOf_run {P:Program} {w:World} {k:IntKind} {n:Int}:(asIntOf (.int k n)).run P w=.ok (k,n) w:=rfl
set_option maxHeartbeats 1000000 in
theorem qfun_sound {P:Program} {H:List ABlk} {ρ:Operand→AV} {o:Oper} {v:AV} (h:qfun P H ρ o.op=some v):QOp P H ρ o v:=by
 refine QOp.of_run fun w0 O ι a w hs hv=>?_
 obtain ⟨dst,op,ty,pos,after,guard⟩:=o
 simp only at h hv
 unfold qfun at h
 split at h
 ·rename_i x
  injection h with h;subst h
  exact ⟨_,rfl,hv x (by simp [Op.operands])⟩
 ·rename_i x
  injection h with h;subst h
  exact ⟨_,rfl,hv x (by simp [Op.operands])⟩
 · -- pick
   rename_i c x y
   split at h
   ·rename_i t hc
    have h1:=hv c (by simp [Op.operands]);rw [hc] at h1
    have h1:=h1.base_inv
    unfold pickF at h
    split at h
    ·rename_i p q hp hq
     injection h with h;subst h
     cases t with
     | true =>
       have h2:=(hv x (by simp [Op.operands])).strip (c:=true) rfl
       rw [hp] at h2
       have h2:=h2.base_inv
       exact ⟨.bool p,by simp [execOp,h1,asBool,h2],.base _⟩
     | false =>
       have h2:=(hv y (by simp [Op.operands])).strip (c:=!false) rfl
       rw [hq] at h2
       have h2:=h2.base_inv
       exact ⟨.bool q,by simp [execOp,h1,asBool,h2],.base _⟩
    ·cases h
   ·cases h
 · -- load
   rename_i t x
   split at h
   ·rename_i e off hx
    have h1:=hv x (by simp [Op.operands]);rw [hx] at h1
    obtain ⟨ad,h2,h3,h4,h5⟩:=h1.iptr_inv
    obtain ⟨u,hu,hvu⟩:=ldE_run (P:=P) h h5
    have hadd:(⟨ad.block,ad.off-off+off,none⟩:Addr)=ad:=by cases ad;simp_all
    rw [hadd] at hu
    exact ⟨u,by simp [execOp,h2,Instr.loadAt,Instr.sureAddr,hu],hvu⟩
   ·rename_i b tot i off hx
    have h1:=hv x (by simp [Op.operands]);rw [hx] at h1
    split at h
    ·rename_i blk hb
     split at h
     ·rename_i ht
      split at h
      ·rename_i e he
       obtain ⟨y,hy,h2,h3⟩:=h1.ptr_inv hs hb ht he
       obtain ⟨u,hu,hvu⟩:=ldE_run (P:=P) h h3
       exact ⟨u,by simp [execOp,h2,Instr.loadAt,Instr.sureAddr,hu],hvu⟩
      ·cases h
     ·cases h
    ·cases h
   ·cases h
 · -- fieldAddr
   rename_i s x f
   split at h
   ·rename_i n e off hn hx
    injection h with h;subst h
    have h1:=hv x (by simp [Op.operands]);rw [hx] at h1
    generalize hx':a.eval x=X at h1
    cases h1 with
    | iptr e off ad val hsp hoff hc hvv =>
    refine ⟨.pointer (some ⟨ad.block,ad.off+n,none⟩),?_,?_⟩
    ·have hr:=fieldPlace_run hn ad hsp (w:=w)
     simp only [execOp,hx',Sem.run_bind,hr,Result.andThen_ok,Sem.run_pure]
    ·exact .iptr e (off+n) _ val rfl (by simp;omega) (fun j c hj=>by have:=hc j c hj;rw [show ad.off+n-(off+n)=ad.off-off by omega];exact this) hvv
   ·rename_i n b tot i off hn hx
    split at h
    ·rename_i hf
     injection h with h;subst h
     have h1:=hv x (by simp [Op.operands]);rw [hx] at h1
     obtain ⟨y,blk,hi,hb,ht,h2,hcx⟩:=h1.ptr_fresh hf
     refine ⟨.pointer (some ⟨y,i*blk.sz+off+n,none⟩),by have hr:=fieldPlace_run hn ⟨y,i*blk.sz+off,none⟩ rfl (w:=w);simp only [execOp,h2,Sem.run_bind,hr,Result.andThen_ok,Sem.run_pure],?_⟩
     rw [Nat.add_assoc]
     exact .ptr b tot i (off+n) blk y hb ht hi hcx
    ·cases h
   ·cases h
 · -- field
   rename_i t x f
   split at h
   ·rename_i cs hx
    have h1:=hv x (by simp [Op.operands]);rw [hx] at h1
    obtain ⟨arr,h2,h3,h4⟩:=h1.agg_inv
    unfold fieldF at h
    split at h
    ·rename_i fs hu
     split at h
     ·rename_i fd hf
      obtain ⟨u,hr,hvu⟩:=part_run (P:=P) h3 h4 h
      exact ⟨u,by simp [execOp,h2,Instr.field,run_underlying hu,hf,asAgg,hr],hvu⟩
     ·cases h
    ·cases h
   ·cases h
 · -- binOp
   rename_i op t x y yt
   obtain ⟨u,h1,h2,h3⟩:=binF_run (X:=x) (Y:=y) h (hv x (by simp [Op.operands])) (hv y (by simp [Op.operands]))
   exact ⟨u,by simp [execOp,h1,h2],h3⟩
 ·rename_i t x
  split at h
  ·rename_i b hx
   injection h with h;subst h
   have h1:=hv x (by simp [Op.operands]);rw [hx] at h1
   have h1:=h1.base_inv
   exact ⟨_,by simp [execOp,h1,Op.unary],.base _⟩
  ·cases h
 ·rename_i t x
  split at h
  ·rename_i k n hx
   injection h with h;subst h
   have h1:=hv x (by simp [Op.operands]);rw [hx] at h1
   have h1:=h1.base_inv
   exact ⟨_,by simp only [execOp,h1,Op.unary,Op.intArith,Sem.run_bind,Sem.run_pure,Result.andThen_ok],.base _⟩
  ·cases h
 · -- extract
   rename_i x i
   split at h
   ·rename_i vs hx
    have h1:=hv x (by simp [Op.operands]);rw [hx] at h1
    obtain ⟨arr,h2,h3,h4⟩:=h1.tup_inv
    obtain ⟨u,hu⟩:=cells_getD h3 (List.getElem?_eq_some_iff.1 h).1
    exact ⟨u,by simp [execOp,h2,Instr.extract,hu],h4 _ _ _ h hu⟩
   ·cases h
 · -- nilCheck
   rename_i x
   split at h
   ·rename_i b tot i off hx
    split at h
    ·rename_i hf
     injection h with h;subst h
     have h1:=hv x (by simp [Op.operands]);rw [hx] at h1
     obtain ⟨y,blk,hi,hb,ht,h2⟩:=h1.ptr_fresh hf
     exact ⟨a.eval x,by simp [execOp,h2],h1⟩
    ·cases h
   ·rename_i e off hx
    injection h with h;subst h
    have h1:=hv x (by simp [Op.operands]);rw [hx] at h1
    obtain ⟨ad,h2,h3,h4,h5⟩:=h1.iptr_inv
    exact ⟨a.eval x,by simp [execOp,h2],h1⟩
   ·cases h
 · -- convert
   rename_i s d x
   split at h
   ·rename_i k n hx
    split at h
    ·rename_i sd k' hsd hd
     injection h with h;subst h
     have h1:=hv x (by simp [Op.operands]);rw [hx] at h1
     have h1:=h1.base_inv
     exact ⟨_,by simp [execOp,h1,convert,run_underlying hsd,run_underlying hd,Conv.intToInt],.base _⟩
    ·cases h
   ·cases h
 · -- makeFunc
   rename_i f first caps
   split at h
   case h_2=>cases h
   rename_i hfirst
   injection h with h;subst h
   have hfirst:first=#[]:=by cases first;simp_all
   subst hfirst
   refine ⟨.func (.func f) #[] (caps.map a.eval),by simp only [execOp,Instr.makeFunc,Sem.run_bind,Sem.run_pure,Result.andThen_ok,List.map_toArray,List.map_nil],?_⟩
   refine .clo _ _ _ (by simp) fun j c u hj hu=>?_
   simp only [List.getElem?_map,Array.getElem?_map,Array.getElem?_toList,Option.map_eq_some_iff] at hj hu
   obtain ⟨x,hx,rfl⟩:=hj
   obtain ⟨y,hy,rfl⟩:=hu
   rw [hx] at hy;cases hy
   exact hv x (by simp only [Op.operands,Array.empty_append];exact Array.mem_of_getElem? hx)
 · -- len
   rename_i cl
   split at h
   case h_2=>cases h
   rename_i x t h5 h6 h7
   obtain ⟨ce,as,ts⟩:=cl
   simp only at h5 h6 h7
   subst h5
   have h6:as=#[x]:=by cases as;simp_all
   have h7:ts=#[t]:=by cases ts;simp_all
   subst h6;subst h7
   obtain ⟨u,h1,h2⟩:=lenF_run (P:=P) (ty:=ty) h (hv x (by simp [Op.operands,Call.operands]))
   refine ⟨u,?_,h2⟩
   simp only [execOp,resolve,invoke,builtin,Sem.run_bind,Sem.run_pure,Result.andThen_ok,List.map_toArray,List.map_cons,List.map_nil,h1]
 ·cases h
end Go.Ab
namespace Go.Ab
open Go Go.RowKit
abbrev noB:Nat→Option Nat:=fun _=>none
def Pu (a:AV):Prop:=∀(w:World) (O:Nat→Prop) (ι:Nat→Option Nat) (H:List ABlk) (u:Value),VR w O ι H a u→VR w O noB [] a u
theorem VR.back {w:World} {O:Nat→Prop} {ι:Nat→Option Nat} {H:List ABlk} {a:AV} {u:Value} (h:VR w O noB [] a u):VR w O ι H a u:=
 h.mono ⟨fun _ _ _ h=>h,fun _ _ h _=>h,fun b blk h=>by simp at h,fun b x blk blk' c ty fz h=>by simp at h⟩
theorem VR.lessO {w:World} {O O':Nat→Prop} {ι:Nat→Option Nat} {H:List ABlk} {a:AV} {u:Value} (h:VR w O ι H a u) (hO:∀x,O' x→O x):VR w O' ι H a u:=
 h.mono ⟨fun _ _ _ h=>h,fun _ _ h _ h'=>h (hO _ h'),fun b blk h=>⟨blk,h,Nat.le_refl _,fun _=>⟨rfl,rfl⟩⟩,
  fun b x blk blk' c ty fz _ _ _ _ h=>⟨c,ty,fz,h,rfl⟩⟩
theorem Pu.base (v:Value):Pu (.base v):=fun w O ι H u h=>by cases h;exact .base _
theorem Pu.mem (cs:List (Nat × Obj)):Pu (.mem cs):=fun w O ι H u h=>by
 cases h with
 | mem _ _ h=>exact .mem cs u h
theorem Pu.lst {es:List AV} (h:∀e∈es,∀c∈e.cells,Pu c):Pu (.lst es):=fun w O ι H u hu=>by
 cases hu with
 | lnil=>exact .lnil
 | lst es a n cap s val hn hcap hmax hlen hspot hc hv =>
   exact .lst es a n cap s val hn hcap hmax hlen hspot hc fun i j e c he hj=>h e (List.mem_of_getElem? he) c (List.mem_of_getElem? hj) _ _ _ _ _ (hv i j e c he hj)
theorem Pu.agg {cs:List AV} (h:∀c∈cs,Pu c):Pu (.agg cs):=fun w O ι H u hu=>by
 cases hu with
 | agg cs arr hlen hh=>exact .agg cs arr hlen fun j c u hc hu=>h c (List.mem_of_getElem? hc) _ _ _ _ _ (hh j c u hc hu)
theorem Pu.tup {cs:List AV} (h:∀c∈cs,Pu c):Pu (.tup cs):=fun w O ι H u hu=>by
 cases hu with
 | tup cs arr hlen hh=>exact .tup cs arr hlen fun j c u hc hu=>h c (List.mem_of_getElem? hc) _ _ _ _ _ (hh j c u hc hu)
theorem Pu.clo {f:FuncId} {cs:List AV} (h:∀c∈cs,Pu c):Pu (.clo f cs):=fun w O ι H u hu=>by
 cases hu with
 | clo f cs arr hlen hh=>exact .clo f cs arr hlen fun j c u hc hu=>h c (List.mem_of_getElem? hc) _ _ _ _ _ (hh j c u hc hu)
theorem Pu.iptr {e:AV} {off:Nat} (h:∀c∈e.cells,Pu c):Pu (.iptr e off):=fun w O ι H u hu=>by
 cases hu with
 | iptr e off a val hs hoff hc hv=>exact .iptr e off a val hs hoff hc fun j c hj=>h c (List.mem_of_getElem? hj) _ _ _ _ _ (hv j c hj)
def FnM (P:Program) (m:List (Nat × Obj)) (f:FuncId) (args:List AV) (d:AV):Prop:=
 (∃fn,P.funcs[f]?=some fn∧(fn.name == "runtime.NumGoroutine")=false∧fn.body.isNone=false) ∧
 ∀(w:World) (O:Nat→Prop) (vs:Array Value),(∀p∈m,¬O p.1∧w.heap[p.1]?=some p.2)→(∀x,O x→x<w.heap.size)→vs.size=args.length →
  (∀(j:Nat) (a:AV) (u:Value),args[j]?=some a→vs[j]?=some u→VR w O noB [] a u) →
  Calls P f vs w fun e w'=>∃v,e=.returned v∧VR w' O noB [] d v∧Below w.heap.size w w'
abbrev Fn (P:Program) (f:FuncId) (args:List AV) (d:AV):Prop:=FnM P [] f args d
def MemIn (m:List (Nat × Obj)) (ρ:Operand→AV):Prop:=m=[]∨ρ (.tmp memSlot)=.mem m
theorem MemIn.get {m:List (Nat × Obj)} {ρ:Operand→AV} (h:MemIn m ρ) {w:World} {O:Nat→Prop} {ι:Nat→Option Nat} {H:List ABlk} {u:Value} (hv:VR w O ι H (ρ (.tmp memSlot)) u):∀p∈m,¬O p.1∧w.heap[p.1]?=some p.2:=by
 rcases h with rfl|h
 ·intro p hp;cases hp
 ·rw [h] at hv
  cases hv with
  | mem cs v h=>exact h
section
variable {P:Program} {w w':World} {w0:Base} {O:Nat→Prop} {ι:Nat→Option Nat} {H:List ABlk} {u:Value}
theorem Goes.quiet (hs:Sit w0 O ι H w) (hb:Below w.heap.size w w'):Goes w (OO O ι H) ι H w' (OO O ι H) ι H:=
 ⟨fun p u _ h=>by rw [hb.block p (heap_lt h)];exact h,fun _ _ h _=>h,
  fun b blk h=>⟨blk,h,Nat.le_refl _,fun _=>⟨rfl,rfl⟩⟩,
  fun b x blk blk' c ty fz h1 h2 _ hi h=>by
   have hlt:x<w.heap.size:=by
    rcases Nat.lt_or_ge x w.heap.size with h'|h'
    ·exact h'
    ·rw [Array.getElem?_eq_none h'] at h;cases h
   exact ⟨c,ty,fz,by rw [hb.block x hlt];exact h,rfl⟩⟩
theorem BR.mono {O':Nat→Prop} {ι':Nat→Option Nat} {H':List ABlk} {blk:ABlk} {x:Nat} (h:BR w O ι H blk x) (g:Goes w O ι H w' O' ι' H') (hx:w'.heap[x]?=w.heap[x]?):BR w' O' ι' H' blk x:=by
 obtain ⟨c,h1,h2,h3,h4⟩:=h.row
 exact ⟨c,(rowAt_same hx).trans h1,h2,h3,fun i j e d he hd=>by
  obtain ⟨u,hu,hv⟩:=h4 i j e d he hd
  exact ⟨u,hu,hv.mono g⟩⟩
theorem BR.lt {blk:ABlk} {x:Nat} (h:BR w O ι H blk x):x<w.heap.size:=by
 obtain ⟨c,h1,_⟩:=h.row
 exact rowAt_lt h1
theorem Sit.quiet (hs:Sit w0 O ι H w) (hb:Below w.heap.size w w'):Sit w0 O ι H w':=
 ⟨fun b blk x h1 h2=>by
  obtain ⟨h3,h4⟩:=hs.heap b blk x h1 h2
  exact ⟨h3,h4.mono (Goes.quiet hs hb) (hb.block x h4.lt)⟩,
  hs.empt,hs.inj,hs.below.step hb,fun x hx=>Nat.lt_of_lt_of_le (hs.old x hx) hb.size,hs.disj,hs.hist.trans (Goes.quiet hs hb).grow⟩
theorem callFunc_run {f:FuncId} {fn:Func} (hf:P.funcs[f]?=some fn) (hn:(fn.name == "runtime.NumGoroutine")=false) (hb:fn.body.isNone=false) (args:Array Value) :
 (callFunc f args).run P w=.ok (.enter f args) w:=by
 simp only [callFunc,Sem.run_bind,run_program,Result.andThen_ok,hf,hn,hb,Bool.false_eq_true,if_false,Sem.run_pure]
theorem q_call {ρ:Operand→AV} {o:Oper} {c:Call} {fx:Operand} {f:FuncId} {caps:List AV} {d:AV} (ho:o.op=.call c) (hc:c.callee=.value fx)
 (hf:ρ fx=.clo f caps) (hp:∀a∈c.args.toList.map ρ++caps,Pu a) {m:List (Nat × Obj)} (h:FnM P m f (c.args.toList.map ρ++caps) d) (hm:MemIn m ρ):QOp P H ρ o d:=by
 intro w0 O ι a w hs hv K Q hK
 obtain ⟨⟨fn,h1,h2,h3⟩,h4⟩:=h
 have hmem:∀y,y=fx∨y∈c.args→y∈o.op.operands:=by
  intro y hy
  rw [ho]
  simp only [Op.operands,Call.operands,hc,Array.mem_append,List.mem_toArray,List.mem_singleton]
  exact hy
 have h5:=hv fx (.inl (hmem _ (.inl rfl)))
 rw [hf] at h5
 generalize hX:a.eval fx=X at h5
 cases h5 with
 | clo f caps arr hlen hcap =>
 have hargs:∀(j:Nat) (x:AV) (u:Value),(c.args.toList.map ρ++caps)[j]?=some x→(c.args.map a.eval++arr)[j]?=some u→VR w (OO O ι H) ι H x u:=by
  intro j x u hx hu
  rw [List.getElem?_append] at hx
  rw [Array.getElem?_append] at hu
  simp only [List.length_map,Array.length_toList,Array.size_map] at hx hu
  split at hx
  ·rename_i hj
   rw [if_pos hj] at hu
   simp only [List.getElem?_map,Array.getElem?_map,Array.getElem?_toList,Option.map_eq_some_iff] at hx hu
   obtain ⟨y,hy,rfl⟩:=hx
   obtain ⟨z,hz,rfl⟩:=hu
   rw [hy] at hz;cases hz
   exact hv y (.inl (hmem _ (.inr (Array.mem_of_getElem? hy))))
  ·rename_i hj
   rw [if_neg hj] at hu
   exact hcap _ _ _ hx hu
 have hrun:(execOp a.eval o).run P w=.ok (.enter f (c.args.map a.eval++arr)) w:=by
  unfold execOp
  rw [ho]
  simp only [resolve,hc,Deferred.ofValue,hX,Sem.run_bind,Sem.run_pure,Result.andThen_ok,invoke,Array.empty_append,callFunc_run h1 h2 h3]
 unfold Oper.wp
 rw [hrun,Oper.upon_enter]
 refine (h4 w (OO O ι H) (c.args.map a.eval++arr) (hm.get (hv _ (.inr rfl))) ?_ (by simp [hlen]) fun j x u hx hu=>hp x (List.mem_of_getElem? hx) _ _ _ _ _ (hargs j x u hx hu)).mono ?_
 ·rintro x (hx|⟨b,hb,hx⟩)
  ·exact hs.old x hx
  ·have hbk:H[b]?=some H[b]:=List.getElem?_eq_getElem hb
   exact (hs.heap b _ x hbk hx).2.lt
 ·rintro e w' ⟨v,rfl,hv',hb'⟩
  exact hK v w' hv'.back hb'
end
end Go.Ab
namespace Go.Ab
open Go Go.RowKit
structure LOp where
 dst:Option Tmp
 op:Op
 g:Option (Tmp × Bool)
 ty:TypeId
def lite (D:List (Option Tmp)) (o:Oper):LOp:=
 ⟨o.dst,o.op,match o.guard with
  | none=>none
  | some (j,want)=>match D[j]? with
    | some (some t)=>some (t,want)
    | _=>some (1000000000,want),o.type⟩
def dstOk (n:Fr):Option Tmp→Bool
 | some t=>Nat.blt t n.n
 | none=>true
def gc (b want:Bool):Bool:=bif want then b else !b
theorem gc_eq (b want:Bool):(b==want)=gc b want:=by cases b<;>cases want<;>rfl
def gval (want:Bool):AV→Option (List Bool)
 | .base (.bool b)=>some [gc b want]
 | .under g a=>match gval want a with
   | some l=>some (g::l)
   | none=>none
 | _=>none
def putE (E:Env):Option Tmp→AV→Env
 | some t,v=>(t,v)::E
 | none,_=>E
def QL (P:Program) (H:List ABlk) (ρ:Operand→AV) (op:Op) (v:AV):Prop:=∀o:Oper,o.op=op→QOp P H ρ o v
def QLt (P:Program) (H:List ABlk) (ρ:Operand→AV) (op:Op) (ty:TypeId) (v:AV):Prop:=∀o:Oper,o.op=op→o.type=ty→QOp P H ρ o v
theorem QL.t {P:Program} {H:List ABlk} {ρ:Operand→AV} {op:Op} {ty:TypeId} {v:AV} (h:QL P H ρ op v):QLt P H ρ op ty v:=fun o ho _=>h o ho
def PL (P:Program) (H:List ABlk) (ρ:Operand→AV) (op:Op) (v:AV) (H':List ABlk):Prop:=
 ∀(o:Oper),o.op=op→∀(w0:Base) (O:Nat→Prop) (ι:Nat→Option Nat) (a:Act) (w:World),Sit w0 O ι H w →
  (∀x,VR w (OO O ι H) ι H (ρ x) (a.eval x)) →
  ∀(K:Act→World→Prop) (Q:Exit→Act→World→Prop),
   (∀u w' ι',Sit w0 O ι' H' w'→Goes w (OO O ι H) ι H w' (OO O ι' H') ι' H'→VR w' (OO O ι' H') ι' H' v u→K (a.put o.dst u) w')→o.wp P a w K Q
inductive Tr (P:Program) (n:Fr) (q:Bool):List LOp→ASt→ASt→Prop
 | nil (s:ASt):Tr P n q [] s s
 | q1 (o:LOp) (l:List LOp) (s:ASt) (v:AV) (s':ASt) (hg:o.g=none) (hd:dstOk n o.dst=true) (h:QLt P s.H (ev s.env) o.op o.ty v)
    (hr:Tr P n q l ⟨putE s.env o.dst v,s.H⟩ s'):Tr P n q (o::l) s s'
 | p1 (o:LOp) (l:List LOp) (s:ASt) (v:AV) (H':List ABlk) (s':ASt) (hq:q=false) (hg:o.g=none) (hd:dstOk n o.dst=true) (h:PL P s.H (ev s.env) o.op v H')
    (hr:Tr P n q l ⟨putE s.env o.dst v,H'⟩ s'):Tr P n q (o::l) s s'
 | gf (o:LOp) (l:List LOp) (s:ASt) (t:Tmp) (want b:Bool) (s':ASt) (hg:o.g=some (t,want)) (hd:dstOk n o.dst=true) (hb:lk s.env t=.base (.bool b)) (hw:gc b want=false)
    (hr:Tr P n q l ⟨putE s.env o.dst .bad,s.H⟩ s'):Tr P n q (o::l) s s'
 | gq (o:LOp) (l:List LOp) (s:ASt) (t:Tmp) (want:Bool) (L:List Bool) (v:AV) (s':ASt) (hg:o.g=some (t,want)) (hd:dstOk n o.dst=true) (hb:gval want (lk s.env t)=some L)
    (h:allL L=true→QL P s.H (fun x=>stripL L (ev s.env x)) o.op v)
    (hr:Tr P n q l ⟨putE s.env o.dst (wrapL L v),s.H⟩ s'):Tr P n q (o::l) s s'
 | gp (o:LOp) (l:List LOp) (s:ASt) (t:Tmp) (want:Bool) (L:List Bool) (v:AV) (H':List ABlk) (s':ASt) (hq:q=false) (hg:o.g=some (t,want)) (hd:dstOk n o.dst=true) (hb:gval want (lk s.env t)=some L)
    (hw:allL L=true) (h:PL P s.H (fun x=>stripL L (ev s.env x)) o.op v H')
    (hr:Tr P n q l ⟨putE s.env o.dst v,H'⟩ s'):Tr P n q (o::l) s s'
def qstep (P:Program) (n:Fr) (o:LOp) (s:ASt):Option ASt:=
 match dstOk n o.dst with
 | true=>match o.g with
   | none=>match qfun P s.H (ev s.env) o.op with
     | some v=>some ⟨putE s.env o.dst v,s.H⟩
     | none=>none
   | some (t,want)=>match gval want (lk s.env t) with
     | some L=>match qfun P s.H (fun x=>stripL L (ev s.env x)) o.op with
       | some v=>some ⟨putE s.env o.dst (wrapL L v),s.H⟩
       | none=>none
     | none=>none
 | false=>none
def batch (P:Program) (n:Fr):List LOp→ASt→List LOp × ASt
 | [],s=>([],s)
 | o::l,s=>match qstep P n o s with
   | some s1=>batch P n l s1
   | none=>(o::l,s)
theorem Tr.qstep {P:Program} {n:Fr} {q:Bool} {o:LOp} {l:List LOp} {s s1 s':ASt} (h:qstep P n o s=some s1) (hr:Tr P n q l s1 s'):Tr P n q (o::l) s s':=by
 unfold Ab.qstep at h
 split at h
 ·rename_i hd
  split at h
  ·rename_i hg
   split at h
   ·rename_i v hv
    injection h with h;subst h
    exact .q1 o l s v s' hg hd (fun o' ho' _=>qfun_sound (by rw [ho'];exact hv)) hr
   ·cases h
  ·rename_i t want hg
   split at h
   ·rename_i L hb
    split at h
    ·rename_i v hv
     injection h with h;subst h
     exact .gq o l s t want L v s' hg hd hb (fun _ o' ho'=>qfun_sound (by rw [ho'];exact hv)) hr
    ·cases h
   ·cases h
 ·cases h
theorem Tr.batch {P:Program} {n:Fr} {q:Bool} {s':ASt}:∀ {l r:List LOp} {s s1:ASt},batch P n l s=(r,s1)→Tr P n q r s1 s'→Tr P n q l s s'
 | [],r,s,s1,h,hr=>by cases h;exact hr
 | o::l,r,s,s1,h,hr=>by
   simp only [Ab.batch] at h
   split at h
   ·rename_i s2 h2
    exact .qstep h2 (Tr.batch h hr)
   ·cases h;exact hr
section
variable {P:Program} {n:Fr} {w w':World} {w0:Base} {O:Nat→Prop} {ι ι':Nat→Option Nat} {H H':List ABlk} {u:Value}
theorem QL.toP {ρ:Operand→AV} {op:Op} {v:AV} (h:QL P H ρ op v):PL P H ρ op v H:=
 fun o ho w0 O ι a w hs hv K Q hK=>h o ho w0 O ι a w hs (fun x _=>hv x) K Q fun u w' hu hb=>hK u w' ι (hs.quiet hb) (Goes.quiet hs hb) hu
theorem put_get {a:Act} {d:Tmp} {u:Value} (t:Nat) (hd:d<a.tmps.size):(a.put (some d) u).tmps.getD t undef=if d=t then u else a.tmps.getD t undef:=by
 simp only [Act.put,Array.getD_eq_getD_getElem?,Array.getElem?_setIfInBounds]
 split
 ·rename_i h;subst h;simp
 ·rfl
theorem SR.put {s:ASt} {a:Act} {d:Option Tmp} {v:AV} (h:SR n w0 O s ι a w) (hs:Sit w0 O ι' H' w') (g:Goes w (OO O ι s.H) ι s.H w' (OO O ι' H') ι' H')
 (hv:VR w' (OO O ι' H') ι' H' v u) (hd:dstOk n d=true):SR n w0 O ⟨putE s.env d v,H'⟩ ι' (a.put d u) w':=by
 cases d with
 | none=>exact ⟨hs,h.defers,h.size,h.hand,fun t=>(h.vals t).mono g⟩
 | some d =>
   have hd':d<a.tmps.size:=by rw [h.size];simpa [dstOk] using hd
   refine ⟨hs,h.defers,by simp [Act.put,h.size],h.hand,fun t=>?_⟩
   rw [put_get t hd']
   show VR _ _ _ _ (if d=t then v else lk s.env t) _
   split
   ·exact hv
   ·exact (h.vals t).mono g
theorem SR.ops {s:ASt} {a:Act} (h:SR n w0 O s ι a w) (x:Operand):VR w (OO O ι s.H) ι s.H (ev s.env x) (a.eval x):=VR.ev h.vals x
theorem yielded_of {ops:Array Oper} {D:List (Option Tmp)} (hD:ops.toList.map (·.dst)=D) {tmps:Array Value} {j:Nat} {t:Tmp} {b:Bool} (hj:D[j]?=some (some t)) (ht:t<tmps.size) (hb:tmps.getD t undef=.bool b) :
 yielded ops tmps j=some b:=by
 unfold yielded
 have h1:(ops[j]?).bind (·.dst)=some t:=by
  subst hD
  rw [List.getElem?_map,Array.getElem?_toList] at hj
  cases ho:ops[j]? with
  | none=>simp [ho] at hj
  | some o=>simp [ho] at hj;simp [hj]
 rw [h1]
 have h2:tmps[t]?=some (.bool b):=by
  rw [Array.getD_eq_getD_getElem?,Array.getElem?_eq_getElem ht] at hb
  rw [Array.getElem?_eq_getElem ht]
  simpa using hb
 simp [h2]
def gOk (D:List (Option Tmp)) (o:Oper):Bool:=
 match o.guard with
 | none=>true
 | some (j,_)=>match D[j]? with
   | some (some _)=>true
   | _=>false
theorem lite_g_none {D:List (Option Tmp)} {o:Oper} (h:(lite D o).g=none):o.guard=none:=by
 unfold lite at h
 simp only at h
 split at h
 ·assumption
 ·split at h<;>cases h
theorem lite_g_some {D:List (Option Tmp)} {o:Oper} {t:Tmp} {want:Bool} (hk:gOk D o=true) (h:(lite D o).g=some (t,want)):∃j,o.guard=some (j,want)∧D[j]?=some (some t):=by
 unfold gOk at hk
 unfold lite at h
 simp only at h
 split at h
 ·cases h
 ·rename_i j want' hg
  rw [hg] at hk
  simp only at hk
  split at h
  ·rename_i t' hj
   injection h with h;injection h with h1 h2;subst h1;subst h2
   exact ⟨j,hg,hj⟩
  ·rename_i hne
   split at hk
   ·rename_i x hx;exact absurd hx (hne _)
   ·cases hk
theorem bool_lt {a:Act} {t:Tmp} {b:Bool} (h:a.tmps.getD t undef=.bool b):t<a.tmps.size:=by
 rcases Nat.lt_or_ge t a.tmps.size with h'|h'
 ·exact h'
 ·rw [Array.getD_eq_getD_getElem?,Array.getElem?_eq_none h'] at h
  simp [undef] at h
theorem gval_key {w:World} {O:Nat→Prop} {ι:Nat→Option Nat} {H:List ABlk} {want:Bool}:∀(a:AV) (L:List Bool) (u:Value),gval want a=some L→VR w O ι H a u→(∃b,u=.bool b∧allL L=(b==want))∨(u=undef∧allL L=false)
 | .base v,L,u,hb,hv=>by
   have hv:=hv.base_inv
   cases v<;>simp only [gval,Option.some.injEq,reduceCtorEq] at hb
   subst hb
   exact .inl ⟨_,hv,by simp [allL,gc_eq]⟩
 | .under g a,L,u,hb,hv=>by
   simp only [gval] at hb
   split at hb
   ·rename_i l hl
    injection hb with hb;subst hb
    cases hv with
    | under c a v h0 h =>
    cases hc:g with
    | true =>
      rcases gval_key a l u hl (h hc) with ⟨b,h1,h2⟩|⟨h1,h2⟩
      ·exact .inl ⟨b,h1,by simp [allL,h2]⟩
      ·exact .inr ⟨h1,by simp [allL,h2]⟩
    | false=>exact .inr ⟨h0 hc,by simp [allL]⟩
   ·cases hb
 | .lst _,L,u,hb,hv=>by simp [gval] at hb
 | .agg _,L,u,hb,hv=>by simp [gval] at hb
 | .tup _,L,u,hb,hv=>by simp [gval] at hb
 | .iptr _ _,L,u,hb,hv=>by simp [gval] at hb
 | .own _ _ _ _,L,u,hb,hv=>by simp [gval] at hb
 | .ptr _ _ _ _,L,u,hb,hv=>by simp [gval] at hb
 | .clo _ _,L,u,hb,hv=>by simp [gval] at hb
 | .bad,L,u,hb,hv=>by simp [gval] at hb
 | .anyb,L,u,hb,hv=>by simp [gval] at hb
 | .view _ _ _ _ _,L,u,hb,hv=>by simp [gval] at hb
theorem gval_wanted {ops:Array Oper} {D:List (Option Tmp)} (hD:ops.toList.map (·.dst)=D) {tmps:Array Value} {j:Nat} {t:Tmp} {want:Bool} (hj:D[j]?=some (some t)) {o:Oper} (hg:o.guard=some (j,want)) {O:Nat→Prop} {ι:Nat→Option Nat} {H:List ABlk}
 {a:AV} {L:List Bool} (hb:gval want a=some L) (hv:VR w O ι H a (tmps.getD t undef)):Region.wanted o (yielded ops tmps)=allL L:=by
 rcases gval_key a L _ hb hv with ⟨b,h1,h2⟩|⟨h1,h2⟩
 ·have ht:t<tmps.size:=by
   rcases Nat.lt_or_ge t tmps.size with h'|h'
   ·exact h'
   ·rw [Array.getD_eq_getD_getElem?,Array.getElem?_eq_none h'] at h1
    simp [undef] at h1
  have hy:=yielded_of hD hj ht h1
  simp only [Region.wanted,hg,hy]
  rw [h2]
  cases b<;>cases want<;>rfl
 ·rw [h2]
  have hy:yielded ops tmps j=none:=by
   unfold yielded
   have e1:(ops[j]?).bind (·.dst)=some t:=by
    subst hD
    rw [List.getElem?_map,Array.getElem?_toList] at hj
    cases ho:ops[j]? with
    | none=>simp [ho] at hj
    | some o=>simp [ho] at hj;simp [hj]
   rw [e1]
   rw [Array.getD_eq_getD_getElem?] at h1
   simp only [Option.bind_some]
   cases ht:tmps[t]? with
   | none=>rfl
   | some u =>
     rw [ht] at h1
     simp only [Option.getD_some] at h1
     subst h1
     rfl
  simp only [Region.wanted,hg,hy]
  cases want<;>rfl
theorem Tr_one {q:Bool} {ops:Array Oper} {D:List (Option Tmp)} (hD:ops.toList.map (·.dst)=D) {i:Nat} {o:Oper} (ho:ops[i]?=some o) (hk:gOk D o=true) {l:List LOp} {s s':ASt}
 (h:Tr P n q (lite D o::l) s s'):∃s1,Tr P n q l s1 s'∧∀w0 O ι a w,SR n w0 O s ι a w→∀K Q,(∀ι' a' w',SR n w0 O s1 ι' a' w'→K a' w') →
   wpOp P ops Q i K a w:=by
 have key:∀(ρ:Operand→AV) (v:AV) (H':List ABlk),PL P s.H ρ o.op v H'→dstOk n o.dst=true→∀w0 O ι a w,SR n w0 O s ι a w→(∀x,VR w (OO O ι s.H) ι s.H (ρ x) (a.eval x))→∀(v':AV),
  (∀w O ι u,VR w O ι H' v u→VR w O ι H' v' u)→∀K Q,
  (∀ι' a' w',SR n w0 O ⟨putE s.env o.dst v',H'⟩ ι' a' w'→K a' w')→o.wp P a w K Q:=by
  intro ρ v H' hp hd w0 O ι a w hs hρ v' hv' K Q hK
  exact hp o rfl w0 O ι a w hs.sit hρ K Q fun u w' ι' h1 h2 h3=>hK ι' _ w' (hs.put h1 h2 (hv' _ _ _ _ h3) hd)
 cases h with
 | q1 o' l s v s' hg hd h hr =>
   refine ⟨_,hr,fun w0 O ι a w hs K Q hK=>?_⟩
   have hg:=lite_g_none hg
   simp only [wpOp,ho,Region.wanted,hg,if_true]
   exact .inl (h o rfl rfl w0 O ι a w hs.sit (fun x _=>hs.ops x) K Q fun u w' hu hb=>hK ι _ w' (hs.put (hs.sit.quiet hb) (Goes.quiet hs.sit hb) hu hd))
 | p1 o' l s v H' s' hq hg hd h hr =>
   refine ⟨_,hr,fun w0 O ι a w hs K Q hK=>?_⟩
   have hg:=lite_g_none hg
   simp only [wpOp,ho,Region.wanted,hg,if_true]
   exact .inl (key _ v H' h hd w0 O ι a w hs hs.ops v (fun _ _ _ _ h=>h) K Q hK)
 | gf o' l s t want b s' hg hd hb hw hr =>
   refine ⟨_,hr,fun w0 O ι a w hs K Q hK=>?_⟩
   obtain ⟨j,hg,hj⟩:=lite_g_some hk hg
   have hv:=hs.vals t;rw [hb] at hv
   have hv:=hv.base_inv
   have hy:=yielded_of hD hj (bool_lt hv) hv
   have hwant:Region.wanted o (yielded ops a.tmps)=false:=by
    simp only [Region.wanted,hg,hy]
    rw [← gc_eq] at hw
    cases b<;>cases want<;>simp_all
   simp only [wpOp,ho,hwant]
   exact hK ι _ w (hs.put hs.sit (Goes.quiet hs.sit (Below.refl _ _)) (.bad _) hd)
 | gq o' l s t want L v s' hg hd hb h hr =>
   refine ⟨_,hr,fun w0 O ι a w hs K Q hK=>?_⟩
   obtain ⟨j,hg,hj⟩:=lite_g_some hk hg
   have hwant:=gval_wanted hD hj hg hb (hs.vals t)
   cases hc:allL L with
   | true =>
     rw [hc] at hwant
     simp only [wpOp,ho,hwant,if_true]
     exact .inl (key _ v s.H (h hc).toP hd w0 O ι a w hs (fun x=>(hs.ops x).strips hc) (wrapL L v) (fun _ _ _ _ h=>h.wraps hc) K Q hK)
   | false =>
     rw [hc] at hwant
     simp only [wpOp,ho,hwant]
     exact hK ι _ w (hs.put hs.sit (Goes.quiet hs.sit (Below.refl _ _)) (.wrapsN hc) hd)
 | gp o' l s t want L v H' s' hq hg hd hb hw h hr =>
   refine ⟨_,hr,fun w0 O ι a w hs K Q hK=>?_⟩
   obtain ⟨j,hg,hj⟩:=lite_g_some hk hg
   have hwant:=gval_wanted hD hj hg hb (hs.vals t)
   rw [hw] at hwant
   simp only [wpOp,ho,hwant,if_true]
   exact .inl (key _ v H' h hd w0 O ι a w hs (fun x=>(hs.ops x).strips hw) v (fun _ _ _ _ h=>h) K Q hK)
def normQ (w0:Base) (O:Nat→Prop) (n:Fr) (s':ASt) (e:Exit) (a:Act) (w:World):Prop:=e=.normal∧∃ι',SR n w0 O s' ι' a w
theorem Tr_ops {ops:Array Oper} {D:List (Option Tmp)} (hD:ops.toList.map (·.dst)=D) (hk:ops.toList.all (gOk D)=true) {q:Bool}:∀(l:List Oper) (i:Nat) (s s':ASt),ops.toList.drop i=l→Tr P n q (l.map (lite D)) s s' →
 ∀w0 O ι a w,SR n w0 O s ι a w→wpOps P ops (normQ w0 O n s') (List.range' i l.length) a w
 | [],i,s,s',hl,h,w0,O,ι,a,w,hs=>by
   cases h
   exact ⟨rfl,ι,hs⟩
 | o::l,i,s,s',hl,h,w0,O,ι,a,w,hs=>by
   have ho:ops[i]?=some o:=by
    rw [← Array.getElem?_toList]
    have:=congrArg (·[0]?) hl
    simpa using this
   have hok:gOk D o=true:=List.all_eq_true.1 hk o (List.mem_of_mem_drop (by rw [hl];simp))
   have hl':ops.toList.drop (i+1)=l:=by
    rw [← List.drop_drop,hl];rfl
   obtain ⟨s1,h1,h2⟩:=Tr_one hD ho hok h
   simp only [List.length_cons,List.range'_succ,wpOps_cons]
   exact h2 w0 O ι a w hs _ _ fun ι' a' w' hs'=>Tr_ops hD hk l (i+1) s1 s' hl' h1 w0 O ι' a' w' hs'
end
end Go.Ab
