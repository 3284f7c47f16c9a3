/- Rules with less to write, for such calls and functions. -/
import Derived.Laws.BytesString
import Derived.Laws.Cells
import Derived.Lib.AppendStr
import Derived.Lib.UnsafeStr
import Derived.Lib.Builder
import Derived.Laws.Pointers
import Derived.MapKept
import Derived.Test.YthgicbkdckpeaaaDoorG09
import Derived.Test.YthgicbkdckpeaaaDoorG08
set_option linter.unusedSimpArgs false
set_option linter.unusedVariables false
namespace Go.Ab
open Go Go.RowKit
section
variable {P:Program} {n:Fr} {Q:Exit→ASt→Prop} {s:ASt}
end
section
variable {P:Program} {H:List ABlk} {ρ:Operand→AV}
theorem ql_eqnil_run {t yt:TypeId} {x y:Operand} {o:Oper} {A:Act} {w:World} {a:Option Addr} {l c:Nat} {b:Bool} (ho:o.op=.binOp .eql t x y yt) (hX:A.eval x=.slice a l c) (hY:A.eval y=.slice none 0 0)
 (he:(Op.equal t (.slice a l c) (.slice none 0 0)).run P w=.ok b w):(execOp A.eval o).run P w=.ok (.value (.bool b)) w:=by
 have hg:(eqGuard .eql t x y (.slice a l c) (.slice none 0 0)).run P w=.ok () w:=by
  unfold eqGuard
  rfl
 simp only [execOp,ho,hX,hY,Sem.run_bind,hg,Result.andThen_ok,binOp,he,Sem.run_pure]
end
def BlkPub (r:Nat→Option Nat) (H:List ABlk) (b b2:ABlk):Prop:=b2.ty=b.ty∧b2.sz=b.sz∧b2.es.length=b.es.length ∧
 ∀(i:Nat) (e e2:AV),b.es[i]?=some e→b2.es[i]?=some e2→e.cells.length=e2.cells.length∧∀(k:Nat) (c c2:AV),e.cells[k]?=some c→e2.cells[k]?=some c2→PubR r H c c2
theorem BlkPub.pu {r:Nat→Option Nat} {H:List ABlk} {b:ABlk} (h:∀e∈b.es,∀c∈e.cells,Pu c):BlkPub r H b b:=
 ⟨rfl,rfl,rfl,fun i e e2 h1 h2=>by
  rw [h1] at h2;injection h2 with h2;subst h2
  exact ⟨rfl,fun k c c2 h3 h4=>by
   rw [h3] at h4;injection h4 with h4;subst h4
   exact .pu (h e (List.mem_of_getElem? h1) c (List.mem_of_getElem? h3))⟩⟩
def PubRL (r:Nat→Option Nat) (H:List ABlk):List AV→List AV→Prop
 | [],[]=>True
 | a::l,b::m=>PubR r H a b∧PubRL r H l m
 | _,_=>False
theorem PubRL.len {r:Nat→Option Nat} {H:List ABlk}:∀ {l m:List AV},PubRL r H l m→l.length=m.length
 | [],[],_=>rfl
 | _::l,_::m,h=>by simp [PubRL.len h.2]
theorem PubRL.get {r:Nat→Option Nat} {H:List ABlk}:∀ {l m:List AV},PubRL r H l m→∀(j:Nat) (a b:AV),l[j]?=some a→m[j]?=some b→PubR r H a b
 | _::l,_::m,h,0,a,b,h1,h2=>by cases h1;cases h2;exact h.1
 | _::l,_::m,h,j+1,a,b,h1,h2=>PubRL.get h.2 j a b h1 h2
theorem PubR.tup' {r:Nat→Option Nat} {H:List ABlk} {cs ds:List AV} (h:PubRL r H cs ds):PubR r H (.tup cs) (.tup ds):=.tup h.len h.get
def SelB (r:Nat→Option Nat) (H:List ABlk):List Nat→List ABlk→Prop
 | [],[]=>True
 | b::sel,b2::H'=>(∃bk,H[b]?=some bk∧BlkPub r H bk b2)∧SelB r H sel H'
 | _,_=>False
theorem SelB.len {r:Nat→Option Nat} {H:List ABlk}:∀ {sel:List Nat} {H':List ABlk},SelB r H sel H'→sel.length=H'.length
 | [],[],_=>rfl
 | _::l,_::m,h=>by simp [SelB.len h.2]
theorem SelB.get {r:Nat→Option Nat} {H:List ABlk}:∀ {sel:List Nat} {H':List ABlk},SelB r H sel H'→∀(j b:Nat) (b2:ABlk),sel[j]?=some b→H'[j]?=some b2→∃bk,H[b]?=some bk∧BlkPub r H bk b2
 | _::l,_::m,h,0,b,b2,h1,h2=>by cases h1;cases h2;exact h.1
 | _::l,_::m,h,j+1,b,b2,h1,h2=>SelB.get h.2 j b b2 h1 h2
theorem ro_get {e:List Nat} (hn:e.Nodup) {j b:Nat} (h:e[j]?=some b):ro e b=some j:=by
 cases hr:ro e b with
 | none =>
   unfold ro at hr
   rw [List.findIdx?_eq_none_iff] at hr
   have:=hr b (List.mem_of_getElem? h)
   simp at this
 | some j' =>
   have h2:=ro_some hr
   obtain ⟨h1l,h1e⟩:=List.getElem?_eq_some_iff.1 h
   obtain ⟨h2l,h2e⟩:=List.getElem?_eq_some_iff.1 h2
   rw [(List.getElem_inj hn).1 (h1e.trans h2e.symm)]
theorem Sel.of {m:Nat} {H H2:List ABlk} (sel:List Nat) (hn:sel.Nodup) (hm:∀b,b<m→sel[b]?=some b) (hb:SelB (ro sel) H sel H2):Sel m (ro sel) (fun j=>sel.getD j 0) H H2:=by
 have hl:=hb.len
 have hg:∀j,j<H2.length→∃b,sel[j]?=some b∧sel.getD j 0=b:=fun j hj=>by
  have:j<sel.length:=by omega
  exact ⟨sel[j],List.getElem?_eq_getElem this,by simp [List.getD_eq_getElem?_getD,this]⟩
 refine ⟨fun b h=>ro_get hn (hm b h),fun j hj=>?_,fun b j hbl h=>?_,fun j bk b2 h1 h2=>?_⟩
 ·obtain ⟨b,h1,h2⟩:=hg j hj
  obtain ⟨bk,h3,_⟩:=hb.get j b _ h1 (List.getElem?_eq_getElem hj)
  rw [h2]
  exact ⟨(List.getElem?_eq_some_iff.1 h3).1,ro_get hn h1⟩
 ·have h1:=ro_some h
  have hj:=(List.getElem?_eq_some_iff.1 h1).1
  exact ⟨by rw [List.getD_eq_getElem?_getD,h1];rfl,by omega⟩
 ·have hj:=(List.getElem?_eq_some_iff.1 h2).1
  obtain ⟨b,h3,h4⟩:=hg j hj
  obtain ⟨bk',h5,h6⟩:=hb.get j b b2 h3 h2
  simp only [h4] at h1
  rw [h1] at h5;injection h5 with h5;subst h5
  exact h6
theorem Wk.selB {n:Fr} {H H2:List ABlk} {E E2:Env} (sel:List Nat) (hn:sel.Nodup) (hm:∀b,b<n.m→sel[b]?=some b) (hb:SelB (ro sel) H sel H2) (h:∀p∈E2,PubR (ro sel) H (lk E p.1) p.2):Wk n ⟨E,H⟩ ⟨E2,H2⟩:=Wk.sel (.of sel hn hm hb) h
def WkR (r:Nat→Option Nat) (H:List ABlk) (E:Env):Env→Prop
 | []=>True
 | (t,v)::l=>PubR r H (lk E t) v∧WkR r H E l
theorem WkR.all {r:Nat→Option Nat} {H:List ABlk} {E:Env}:∀ {E2:Env},WkR r H E E2→∀p∈E2,PubR r H (lk E p.1) p.2
 | [],_,p,h=>by cases h
 | (t,v)::l,⟨h1,h2⟩,p,h=>by
   rcases List.mem_cons.1 h with rfl|h
   ·exact h1
   ·exact WkR.all h2 p h
theorem PubR.ownM {r:Nat→Option Nat} {α:Type} {H:List ABlk} {b n ty sz:Nat} {l:List α} {f:α→AV} (hk:r b=none) (h:H[b]?=some ⟨ty,sz,l.map f⟩) (hn:l.length=n) (hp:∀x∈l,∀c∈(f x).cells,Pu c):PubR r H (.own b n 0 n) (.lst (l.map f)):=
 .lst hk h (by simpa using hn) (by omega) (by simpa using hn) fun i e d hi he hd=>by
  simp only [Nat.zero_add] at he
  rw [he] at hd;injection hd with hd;subst hd
  refine ⟨rfl,fun j c c' hc hc'=>?_⟩
  rw [hc] at hc';injection hc' with hc';subst hc'
  rw [List.getElem?_map,Option.map_eq_some_iff] at he
  obtain ⟨x,hx,rfl⟩:=he
  exact .pu (hp x (List.mem_of_getElem? hx) c (List.mem_of_getElem? hc))
abbrev y3:=@retHQ_n
abbrev y4:=@retHQ_r
end Go.Ab
namespace Go.Ab
open Go Go.RowKit
section
variable {P:Program} {H:List ABlk} {ρ:Operand→AV}
end
end Go.Ab
namespace Go.Ab
open Go Go.RowKit
section
variable {P:Program} {H:List ABlk} {ρ:Operand→AV}
end
end Go.Ab
namespace Go.Ab
open Go Go.RowKit
section
variable {P:Program} {H:List ABlk} {ρ:Operand→AV}
end
end Go.Ab
namespace Go.Ab
open Go Go.RowKit
abbrev AV.u8 (c:UInt8):AV:=.base (.int .u8 c.toNat)
section
variable {P:Program} {w w':World} {w0:Base} {O:Nat→Prop} {ι:Nat→Option Nat} {H:List ABlk} {u:Value}
theorem ql_addStr {ρ:Operand→AV} {t yt:TypeId} {x y:Operand} {a b:ByteArray} (hx:ρ x=.base (.string a)) (hy:ρ y=.base (.string b)) (h:a.size+b.size≤4611686018427387904):QL P H ρ (.binOp .add t x y yt) (.base (.string (a++b))):=by
 refine QL.of_run fun w0 O ι A w hs hv o ho=>?_
 have h1:=hv x (by simp [Op.operands]);rw [hx] at h1
 have h1:=h1.base_inv
 have h2:=hv y (by simp [Op.operands]);rw [hy] at h2
 have h2:=h2.base_inv
 have hg:(eqGuard .add t x y (.string a) (.string b)).run P w=.ok () w:=eqGuard_run (by simp) (by simp)
 have:¬(((a.size+b.size:Nat):Int)>IntKind.i64.max):=by
  simp only [IntKind.max,IntKind.signed,IntKind.bits];simp;omega
 refine ⟨.string (a++b),?_,.base _⟩
 simp only [execOp,ho,h1,h2,Sem.run_bind,hg,Result.andThen_ok,binOp,Op.stringOp,if_neg this,Sem.run_pure]
end
end Go.Ab
namespace Go.Ab
open Go Go.RowKit
section
variable {P:Program} {H:List ABlk} {ρ:Operand→AV}
end
end Go.Ab
namespace Go.Ab
open Go Go.RowKit
end Go.Ab
namespace Go.Ab
open Go Go.RowKit
def NilR (H:List ABlk) (a b:AV):Prop:=∀(H3:List ABlk) (w:World) (O:Nat→Prop) (ι ι2:Nat→Option Nat) (u:Value),Idx some ι ι2 H H3→(∃blk,H3[H.length]?=some blk∧blk.es=[])→ι2 H.length=none→VR w O ι H a u→VR w O ι2 H3 b u
theorem NilR.mv {H:List ABlk} {a b:AV} (h:MvR some H a b):NilR H a b:=fun H3 w O ι ι2 u v _ _ hu=>h H3 w O ι ι2 u v hu
theorem NilR.pu {H:List ABlk} {a:AV} (h:Pu a):NilR H a a:=.mv (.pu h)
theorem NilR.ptr {H:List ABlk} {b tot i off:Nat}:NilR H (.ptr b tot i off) (.ptr b tot i off):=.mv (.ptr rfl)
theorem NilR.own {H:List ABlk} {b tot off len:Nat}:NilR H (.own b tot off len) (.own b tot off len):=.mv (.own rfl)
theorem NilR.nil {H:List ABlk} {m:Nat} (hm:H.length=m):NilR H (.base (.slice none 0 0)) (.own m 0 0 0):=fun H3 w O ι ι2 u v ⟨blk,h1,h2⟩ h3 hu=>by
 subst hm
 have:=hu.base_inv;subst this
 exact .ownNil _ blk h1 h2 h3
def NilL (H:List ABlk):List AV→List AV→Prop
 | [],[]=>True
 | a::l,b::m=>NilR H a b∧NilL H l m
 | _,_=>False
theorem NilL.len {H:List ABlk}:∀ {l m:List AV},NilL H l m→l.length=m.length
 | [],[],_=>rfl
 | _::l,_::m,h=>by simp [NilL.len h.2]
theorem NilL.get {H:List ABlk}:∀ {l m:List AV},NilL H l m→∀(j:Nat) (a b:AV),l[j]?=some a→m[j]?=some b→NilR H a b
 | _::l,_::m,h,0,a,b,h1,h2=>by cases h1;cases h2;exact h.1
 | _::l,_::m,h,j+1,a,b,h1,h2=>NilL.get h.2 j a b h1 h2
def BlkNil (H:List ABlk) (b b2:ABlk):Prop:=b2.ty=b.ty∧b2.sz=b.sz∧b2.es.length=b.es.length ∧
 ∀(i:Nat) (e e2:AV),b.es[i]?=some e→b2.es[i]?=some e2→e.cells.length=e2.cells.length∧∀(k:Nat) (c c2:AV),e.cells[k]?=some c→e2.cells[k]?=some c2→NilR H c c2
theorem BlkNil.pu {H:List ABlk} {b:ABlk} (h:∀e∈b.es,∀c∈e.cells,Pu c):BlkNil H b b:=
 ⟨rfl,rfl,rfl,fun i e e2 h1 h2=>by
  rw [h1] at h2;injection h2 with h2;subst h2
  exact ⟨rfl,fun k c c2 h3 h4=>by
   rw [h3] at h4;injection h4 with h4;subst h4
   exact .pu (h e (List.mem_of_getElem? h1) c (List.mem_of_getElem? h3))⟩⟩
theorem BlkNil.one {H:List ABlk} {ty sz:Nat} {e e2:AV} (h:NilL H e.cells e2.cells):BlkNil H ⟨ty,sz,[e]⟩ ⟨ty,sz,[e2]⟩:=
 ⟨rfl,rfl,rfl,fun i x x2 h1 h2=>by
  cases i with
  | zero=>simp at h1 h2;subst h1;subst h2;exact ⟨h.len,h.get⟩
  | succ i=>simp at h1⟩
def NilB (H:List ABlk):List ABlk→List ABlk→Prop
 | [],[]=>True
 | a::l,b::m=>BlkNil H a b∧NilB H l m
 | _,_=>False
theorem NilB.len {H:List ABlk}:∀ {l m:List ABlk},NilB H l m→l.length=m.length
 | [],[],_=>rfl
 | _::l,_::m,h=>by simp [NilB.len h.2]
theorem NilB.get {H:List ABlk}:∀ {l m:List ABlk},NilB H l m→∀(j:Nat) (a b:ABlk),l[j]?=some a→m[j]?=some b→BlkNil H a b
 | _::l,_::m,h,0,a,b,h1,h2=>by cases h1;cases h2;exact h.1
 | _::l,_::m,h,j+1,a,b,h1,h2=>NilB.get h.2 j a b h1 h2
def NilE (H:List ABlk) (E:Env):Env→Prop
 | []=>True
 | (t,v)::l=>NilR H (lk E t) v∧NilE H E l
theorem NilE.all {H:List ABlk} {E:Env}:∀ {E2:Env},NilE H E E2→∀p∈E2,NilR H (lk E p.1) p.2
 | [],_,p,h=>by cases h
 | (t,v)::l,⟨h1,h2⟩,p,h=>by
   rcases List.mem_cons.1 h with rfl|h
   ·exact h1
   ·exact NilE.all h2 p h
theorem Wk.nilC {n:Fr} {E E2:Env} {H H2:List ABlk} (ty sz:Nat) (hB:NilB H H H2) (hE:NilE H E E2):Wk n ⟨E,H⟩ ⟨E2,H2++[⟨ty,sz,[]⟩]⟩:=fun w0 O ι a w hs=>by
 have hl:=hB.len
 obtain ⟨H3,hH3⟩:∃H3,H3=H2++[(⟨ty,sz,[]⟩:ABlk)]:=⟨_,rfl⟩
 rw [← hH3]
 let ι2:Nat→Option Nat:=fun b=>if b=H.length then none else ι b
 have hi2:∀b,b<H.length→ι2 b=ι b:=fun b hb=>if_neg (by omega)
 have hget:∀b blk,H[b]?=some blk→∃blk2,H3[b]?=some blk2∧BlkNil H blk blk2:=fun b blk hb=>by
  have hbl:=(List.getElem?_eq_some_iff.1 hb).1
  have h2:H2[b]?=some (H2[b]'(by omega)):=List.getElem?_eq_getElem (by omega)
  exact ⟨_,by rw [hH3,List.getElem?_append_left (by omega)];exact h2,hB.get b _ _ hb h2⟩
 have hinv:∀b x,b<H3.length→ι2 b=some x→b<H.length∧ι b=some x:=fun b x hb hx=>by
  rw [hH3] at hb
  simp only [List.length_append,List.length_singleton] at hb
  by_cases e:b=H.length
  ·simp [ι2,e] at hx
  ·exact ⟨by omega,by simpa [ι2,e] using hx⟩
 have hOO:∀x,OO O ι2 H3 x↔OO O ι H x:=fun x=>by
  constructor
  ·rintro (h|⟨b,hb,hx⟩)
   ·exact .inl h
   ·obtain ⟨h1,h2⟩:=hinv b x hb hx;exact .inr ⟨b,h1,h2⟩
  ·rintro (h|⟨b,hb,hx⟩)
   ·exact .inl h
   ·exact .inr ⟨b,by rw [hH3];simp;omega,by rw [hi2 b hb];exact hx⟩
 have v:Idx some ι ι2 H H3:=fun b j blk hr hb=>by
  injection hr with hr;subst hr
  obtain ⟨blk2,h1,h2,h3,h4,_⟩:=hget b blk hb
  exact ⟨blk2,h1,h4,h3,hi2 b (List.getElem?_eq_some_iff.1 hb).1⟩
 have hnew:∃blk,H3[H.length]?=some blk∧blk.es=[]:=⟨⟨ty,sz,[]⟩,by rw [hH3,hl];simp,rfl⟩
 have hnone:ι2 H.length=none:=if_pos rfl
 have conv:∀ {c c2:AV} {u:Value},NilR H c c2→VR w (OO O ι H) ι H c u→VR w (OO O ι2 H3) ι2 H3 c2 u:=fun h hu=>(h H3 w _ ι ι2 _ v hnew hnone hu).lessO fun x hx=>(hOO x).1 hx
 have hold:∀b blk2,H3[b]?=some blk2→b<H.length→∃blk,H[b]?=some blk∧BlkNil H blk blk2:=fun b blk2 h2 hb=>by
  have h1:=List.getElem?_eq_getElem hb
  obtain ⟨b2,h3,h4⟩:=hget b _ h1
  rw [h2] at h3;injection h3 with h3;subst h3
  exact ⟨_,h1,h4⟩
 refine ⟨ι2,⟨fun b blk2 x h2 hx=>?_,fun b blk2 h2 hx=>?_,fun b b' x hb hb' hx hx'=>?_,hs.sit.below,hs.sit.old,fun x b hO hb hx=>?_,?_⟩,hs.defers,hs.size,hs.hand,fun t=>?_⟩
 ·obtain ⟨h3,h4⟩:=hinv b x (List.getElem?_eq_some_iff.1 h2).1 hx
  obtain ⟨blk,h1,e1,e2,e3,e4⟩:=hold b blk2 h2 h3
  obtain ⟨k1,c,k2,k3,k4,k5⟩:=hs.sit.heap b blk x h1 h4
  refine ⟨k1,c,by rw [e1];exact k2,by rw [e2,e3];exact k3,fun e he=>?_,fun i k e2' d he hd=>?_⟩
  ·obtain ⟨i,hi',he'⟩:=List.mem_iff_getElem.1 he
   have hei:blk.es[i]?=some (blk.es[i]'(by omega)):=List.getElem?_eq_getElem (by omega)
   obtain ⟨f1,_⟩:=e4 i _ e hei (by rw [List.getElem?_eq_getElem hi',he'])
   rw [← f1,e2]
   exact k4 _ (List.getElem_mem _)
  ·have hil:i<blk.es.length:=by rw [← e3];exact (List.getElem?_eq_some_iff.1 he).1
   have hei:blk.es[i]?=some blk.es[i]:=List.getElem?_eq_getElem hil
   obtain ⟨f1,f2⟩:=e4 i _ e2' hei he
   have hkl:k<blk.es[i].cells.length:=by rw [f1];exact (List.getElem?_eq_some_iff.1 hd).1
   obtain ⟨u,hu,hv⟩:=k5 i k _ _ hei (List.getElem?_eq_getElem hkl)
   exact ⟨u,by rw [e2];exact hu,conv (f2 k _ d (List.getElem?_eq_getElem hkl) hd) hv⟩
 ·by_cases hb:b<H.length
  ·obtain ⟨blk,h1,e1,e2,e3,_⟩:=hold b blk2 h2 hb
   have:=hs.sit.empt b blk h1 (by rw [← hi2 b hb];exact hx)
   rw [this] at e3
   exact List.eq_nil_of_length_eq_zero e3
  ·have hbl:=(List.getElem?_eq_some_iff.1 h2).1
   have hbe:b=H2.length:=by rw [hH3] at hbl;simp at hbl;omega
   rw [hH3,hbe] at h2
   simp at h2;subst h2;rfl
 ·obtain ⟨h1,h2⟩:=hinv b x hb hx
  obtain ⟨h3,h4⟩:=hinv b' x hb' hx'
  exact hs.sit.inj b b' x h1 h3 h2 h4
 ·obtain ⟨h1,h2⟩:=hinv b x hb hx
  exact hs.sit.disj x b hO h1 h2
 ·refine hs.sit.hist.trans ⟨fun b blk h=>?_,fun b x blk blk' c ty' fz h h2 _ hi hc=>⟨c,ty',fz,hc,rfl⟩⟩
  obtain ⟨blk2,h1,h2,h3,h4,_⟩:=hget b blk h
  exact ⟨blk2,h1,by omega,fun _=>⟨h3,hi2 b (List.getElem?_eq_some_iff.1 h).1⟩⟩
 ·rcases lk_mem E2 t with h1|⟨p,hp,h1,h2⟩
  ·show VR _ _ _ _ (lk E2 t) _;rw [h1];exact .bad _
  ·show VR _ _ _ _ (lk E2 t) _;rw [h2];subst h1;exact conv (hE.all p hp) (hs.vals p.1)
end Go.Ab
namespace Go.Ab
open Go Go.RowKit Go.MapKept
section
variable {α β:Type} [DecidableEq α]
def getM:List (α × β)→α→Option β
 | [],_=>none
 | (k,v)::r,a=>if k=a then some v else getM r a
def setM:List (α × β)→α→β→List (α × β)
 | [],a,v=>[(a,v)]
 | (k,w)::r,a,v=>if k=a then (k,v)::r else (k,w)::setM r a v
@[simp] theorem getM_nil (a:α):getM ([]:List (α × β)) a=none:=rfl
theorem getM_setM:∀(m:List (α × β)) (a b:α) (v:β),getM (setM m a v) b=if a=b then some v else getM m b
 | [],a,b,v=>rfl
 | (k,w)::r,a,b,v=>by
   unfold setM
   by_cases h:k=a
   ·rw [if_pos h];subst h
    unfold getM
    by_cases h2:k=b<;>simp [h2]
   ·rw [if_neg h]
    unfold getM
    rw [getM_setM r a b v]
    by_cases h2:k=b
    ·subst h2;simp [Ne.symm h]
    ·simp [h2]
end
def mapB {α β:Type} (enc:α→Value) (f:β→AV) (m:List (α × β)):ABlk:=⟨mapTy,2,[.agg [.agg (m.map fun p=>.base (enc p.1)),.agg (m.map fun p=>f p.2)]]⟩
structure KeyEnc {α:Type} (d:TypeDesc) (enc:α→Value):Prop where
 key:∀a,IsKey d (enc a)
 inj:∀a b,enc a=enc b→a=b
theorem KeyEnc.int (k:IntKind):KeyEnc (.int k) (fun n:Int=>.int k n):=⟨fun a=>rfl,fun a b h=>by injection h⟩
section
variable {α β:Type} [DecidableEq α] {d:TypeDesc} {enc:α→Value}
theorem find_none (hk:KeyEnc d enc):∀(m:List (α × β)) (l:List MapEntry) (a:α) (i:Nat),l.map (·.key)=m.map (fun p=>enc p.1)→getM m a=none→Instr.findNow d (enc a) l i=some none
 | [],[],a,i,_,_=>rfl
 | [],e::l,a,i,h,_=>by simp at h
 | p::m,[],a,i,h,_=>by simp at h
 | (k,v)::m,e::l,a,i,h,hg=>by
   simp only [List.map_cons,List.cons.injEq] at h
   obtain ⟨h1,h2⟩:=h
   unfold getM at hg
   by_cases hka:k=a
   ·rw [if_pos hka] at hg;cases hg
   ·rw [if_neg hka] at hg
    obtain ⟨r,hr,hiff⟩:=sameNow_of_keys (hk.key a) (show IsKey d e.key by rw [h1];exact hk.key k)
    cases r with
    | true=>exact absurd (hk.inj _ _ ((hiff.1 rfl).trans h1)).symm hka
    | false=>simp only [Instr.findNow,hr];exact find_none hk m l a (i+1) h2 hg
theorem find_some (hk:KeyEnc d enc):∀(m:List (α × β)) (l:List MapEntry) (a:α) (v:β) (i:Nat),l.map (·.key)=m.map (fun p=>enc p.1)→getM m a=some v →
 ∃j e,Instr.findNow d (enc a) l i=some (some (i+j,e.val))∧l[j]?=some e∧m[j]?=some (a,v)∧∀v',setM m a v'=m.set j (a,v')
 | [],_,a,v,i,_,hg=>by cases hg
 | p::m,[],a,v,i,h,_=>by simp at h
 | (k,w)::m,e::l,a,v,i,h,hg=>by
   simp only [List.map_cons,List.cons.injEq] at h
   obtain ⟨h1,h2⟩:=h
   unfold getM at hg
   obtain ⟨r,hr,hiff⟩:=sameNow_of_keys (hk.key a) (show IsKey d e.key by rw [h1];exact hk.key k)
   by_cases hka:k=a
   ·rw [if_pos hka] at hg
    injection hg with hg;subst hg;subst hka
    have:r=true:=hiff.2 h1.symm
    subst this
    exact ⟨0,e,by simp [Instr.findNow,hr],rfl,rfl,fun v'=>by simp [setM]⟩
   ·rw [if_neg hka] at hg
    cases r with
    | true=>exact absurd (hk.inj _ _ ((hiff.1 rfl).trans h1)).symm hka
    | false =>
      obtain ⟨j,e',h3,h4,h5,h6⟩:=find_some hk m l a v (i+1) h2 hg
      refine ⟨j+1,e',?_,h4,h5,fun v'=>by simp [setM,hka,h6]⟩
      simp only [Instr.findNow,hr,h3]
      rw [show i+1+j=i+(j+1) by omega]
theorem setM_none:∀(m:List (α × β)) (a:α) (v:β),getM m a=none→setM m a v=m++[(a,v)]
 | [],a,v,_=>rfl
 | (k,w)::m,a,v,h=>by
   unfold getM at h
   by_cases hka:k=a
   ·rw [if_pos hka] at h;cases h
   ·rw [if_neg hka] at h
    simp [setM,hka,setM_none m a v h]
end
section
variable {P:Program} {w w':World} {w0:Base} {O:Nat→Prop} {ι:Nat→Option Nat} {H:List ABlk} {u:Value}
theorem map_inv {α β:Type} {enc:α→Value} {f:β→AV} {m:List (α × β)} (hs:Sit w0 O ι H w) {b:Nat} (hb:H[b]?=some (mapB enc f m)) (hv:VR w (OO O ι H) ι H (.mapv b) u) :
 ∃x es k,u=.map (some x)∧ι b=some x∧w.heap[x]?=some (.map es k)∧es.toList.map (·.key)=m.map (fun p=>enc p.1) ∧
  ∀(j:Nat) (p:α × β) (e:MapEntry),m[j]?=some p→es.toList[j]?=some e→VR w (OO O ι H) ι H (f p.2) e.val:=by
 cases hv with
 | staleMap b blk a hb' h=>rw [hb] at hb';cases hb';simp [mapB] at h
 | mapv b blk x hb' ht hi =>
   rw [hb] at hb';cases hb'
   obtain ⟨_,c,hc,_,_,hel⟩:=hs.heap b _ x hb hi
   obtain ⟨es,k,h1,rfl⟩:=rowAt_map hc
   obtain ⟨u0,h2,h3⟩:=hel 0 0 _ _ rfl rfl
   obtain ⟨u1,h4,h5⟩:=hel 0 1 _ _ rfl rfl
   simp [mapB] at h2 h4
   subst h2;subst h4
   obtain ⟨arr,e1,e2,e3⟩:=h3.agg_inv
   injection e1 with e1;subst e1
   obtain ⟨arr,f1,f2,f3⟩:=h5.agg_inv
   injection f1 with f1;subst f1
   simp at e2 f2
   refine ⟨x,es,k,rfl,hi,h1,?_,fun j p e hp he=>?_⟩
   ·apply List.ext_getElem (by simp [e2])
    intro j g1 g2
    simp only [List.length_map] at g1 g2
    have:=e3 j (.base (enc m[j].1)) (es[j]'(by simpa using g1)).key (by rw [List.getElem?_map,List.getElem?_eq_getElem g2];rfl) (by rw [Array.getElem?_map,Array.getElem?_eq_getElem (by simpa using g1)];rfl)
    simpa using this.base_inv
   ·exact f3 j _ _ (by rw [List.getElem?_map,hp];rfl) (by rw [Array.getElem?_map,← Array.getElem?_toList,he];rfl)
theorem pl_makeMap {α β:Type} (enc:α→Value) (f:β→AV) {ρ:Operand→AV} {t:TypeId}:PL P H ρ (.makeMap t none) (.mapv H.length) (H++[mapB enc f []]):=by
 refine PL.of_run fun w0 O ι a w hs hv o ho=>?_
 obtain ⟨h4,h5⟩:=hs.newO (mapB enc f []) #[.agg #[],.agg #[]] (.map #[] 0) (by simp [objRow,mapB]) w (Below.refl _ _) rfl (by simp [mapB]) (by simp [mapB,AV.cells]) (fun i j e c he hc=>by
  cases i with
  | zero =>
    simp [mapB] at he;subst he
    match j with
    | 0=>simp [AV.cells] at hc;subst hc;exact ⟨.agg #[],rfl,.agg _ _ rfl (by simp)⟩
    | 1=>simp [AV.cells] at hc;subst hc;exact ⟨.agg #[],rfl,.agg _ _ rfl (by simp)⟩
    | j+2=>simp [AV.cells] at hc
  | succ i=>simp [mapB] at he)
 refine ⟨.map (some w.heap.size),_,_,_,?_,.inl rfl,h4,h5,?_⟩
 ·simp only [execOp,ho,Instr.makeMap,Option.map_none,Sem.run_bind,run_newObj,World.alloc_eq,Sem.run_pure,Result.andThen_ok]
 ·exact .mapv _ (mapB enc f []) _ (by simp) rfl (upd_same _ _ _)
theorem lookup_run {α β:Type} [DecidableEq α] {enc:α→Value} {f:β→AV} {m:List (α × β)} {kt et:TypeId} {d:TypeDesc} {t:TypeId} {z:AV} (ok:Bool) (hs:Sit w0 O ι H w) {b:Nat} (hb:H[b]?=some (mapB enc f m)) (hv:VR w (OO O ι H) ι H (.mapv b) u)
 (ht:P.underlying t=some (.map kt et)) (hd:P.underlying kt=some d) (hk:KeyEnc d enc) (hz:zeroA P et=some z) (a:α) :
 ∃r,(Instr.lookup t u (enc a) ok).run P w=.ok r w∧VR w (OO O ι H) ι H (if ok then .tup [((getM m a).map f).getD z,.bool (getM m a).isSome] else ((getM m a).map f).getD z) r:=by
 obtain ⟨x,es,k,rfl,hi,h1,h2,h3⟩:=map_inv hs hb hv
 obtain ⟨zv,hzr,rfl⟩:=zero_run (w:=w) hz
 have hfin:∀(c:AV) (v:Value) (q:Bool),VR w (OO O ι H) ι H c v→VR w (OO O ι H) ι H (if ok then .tup [c,.bool q] else c) (if ok then .tuple #[v,.bool q] else v):=by
  intro c v q hc
  cases ok with
  | false=>exact hc
  | true =>
    refine .tup _ _ rfl fun j c' u' h4 h5=>?_
    match j with
    | 0=>simp at h4 h5;subst h4;subst h5;exact hc
    | 1=>simp at h4 h5;subst h4;subst h5;exact .base _
    | j+2=>simp at h4
 cases hg:getM m a with
 | none =>
   have hf:=find_none hk m es.toList a 0 h2 hg
   refine ⟨_,?_,hfin _ zv false (VR.cv _ _ _ _ _)⟩
   simp [Instr.lookup,run_underlying ht,MapKept.run_getObj_map h1,run_checkKey hd (hk.key a),run_findKey hd hf,hzr,Result.andThen]
 | some v =>
   obtain ⟨j,e,hf,h4,h5,_⟩:=find_some hk m es.toList a v 0 h2 hg
   refine ⟨_,?_,hfin _ e.val true (h3 j _ e h5 h4)⟩
   simp [Instr.lookup,run_underlying ht,MapKept.run_getObj_map h1,run_checkKey hd (hk.key a),run_findKey hd hf,Result.andThen]
theorem ql_lookup {α β:Type} [DecidableEq α] {enc:α→Value} {f:β→AV} {m:List (α × β)} {ρ:Operand→AV} {t kt et:TypeId} {d:TypeDesc} {x i:Operand} {z:AV} {b:Nat} (a:α) (hx:ρ x=.mapv b) (hi:ρ i=.base (enc a)) (hb:H[b]?=some (mapB enc f m))
 (ht:P.underlying t=some (.map kt et)) (hd:P.underlying kt=some d) (hk:KeyEnc d enc) (hz:zeroA P et=some z):QL P H ρ (.lookup t x i false) (((getM m a).map f).getD z):=by
 refine QL.of_run fun w0 O ι A w hs hv o ho=>?_
 have h1:=hv x (by simp [Op.operands]);rw [hx] at h1
 have h2:=hv i (by simp [Op.operands]);rw [hi] at h2
 have h2:=h2.base_inv
 obtain ⟨r,h3,h4⟩:=lookup_run false hs hb h1 ht hd hk hz a
 exact ⟨r,by simp only [execOp,ho,h2,h3,Sem.run_bind,Result.andThen_ok,Sem.run_pure],h4⟩
theorem map_set {α β:Type} [DecidableEq α] {enc:α→Value} {f:β→AV} {m:List (α × β)} {kt et:TypeId} {d:TypeDesc} {t:TypeId} (hs:Sit w0 O ι H w) {b:Nat} (hb:H[b]?=some (mapB enc f m)) (hv:VR w (OO O ι H) ι H (.mapv b) u)
 (ht:P.underlying t=some (.map kt et)) (hd:P.underlying kt=some d) (hk:KeyEnc d enc) (a:α) (v:β) {val:Value} (hval:VR w (OO O ι H) ι H (f v) val) :
 ∃w',(Instr.mapUpdate t u (enc a) val).run P w=.ok () w'∧Sit w0 O ι (H.set b (mapB enc f (setM m a v))) w'∧Goes w (OO O ι H) ι H w' (OO O ι (H.set b (mapB enc f (setM m a v)))) ι (H.set b (mapB enc f (setM m a v))):=by
 obtain ⟨x,es,k,rfl,hi,h1,h2,h3⟩:=map_inv hs hb hv
 have hsz:es.size=m.length:=by have:=congrArg List.length h2;simpa using this
 -- what is there behind it
 have hex:∃es' k',(Instr.mapUpdate t (.map (some x)) (enc a) val).run P w=.ok () { w with heap:=w.heap.setIfInBounds x (.map es' k') } ∧
  es'.toList.map (·.key)=(setM m a v).map (fun p=>enc p.1)∧∀(j:Nat) (p:α × β) (e:MapEntry),(setM m a v)[j]?=some p→es'.toList[j]?=some e→VR w (OO O ι H) ι H (f p.2) e.val:=by
  cases hg:getM m a with
  | none =>
    have hf:=find_none hk m es.toList a 0 h2 hg
    refine ⟨es.push ⟨enc a,val,k⟩,k+1,?_,?_,fun j p e hp he=>?_⟩
    ·simp [Instr.mapUpdate,run_underlying ht,MapKept.run_getObj_map h1,run_checkKey hd (hk.key a),run_findKey hd hf,run_setObj_map _ h1,Result.andThen]
    ·simp [setM_none m a v hg,h2]
    ·rw [setM_none m a v hg] at hp
     simp only [Array.toList_push] at he
     by_cases hj:j<m.length
     ·rw [List.getElem?_append_left hj] at hp
      rw [List.getElem?_append_left (by simpa [hsz] using hj)] at he
      exact h3 j p e hp he
     ·have hj2:j=m.length:=by
       have:=(List.getElem?_eq_some_iff.1 hp).1
       simp at this;omega
      subst hj2
      rw [List.getElem?_append_right (Nat.le_refl _)] at hp
      rw [List.getElem?_append_right (by simp [hsz])] at he
      simp [hsz] at hp he
      subst hp;subst he
      exact hval
  | some v0 =>
    obtain ⟨j,e,hf,h4,h5,h6⟩:=find_some hk m es.toList a v0 0 h2 hg
    have hj:es[j]?=some e:=by simpa using h4
    have hje:e.key=enc a:=by
     have:=congrArg (fun l=>l[j]?) h2
     simp only [List.getElem?_map,h4,h5,Option.map_some] at this
     injection this
    have hjl:j<m.length:=(List.getElem?_eq_some_iff.1 h5).1
    refine ⟨es.modify j fun e=>{ e with key:=enc a,val:=val },k,?_,?_,fun i p e' hp he=>?_⟩
    ·simp [Instr.mapUpdate,run_underlying ht,MapKept.run_getObj_map h1,run_checkKey hd (hk.key a),run_findKey hd hf,hj,hje,run_keyThatStays (hk.key a),run_setObj_map _ h1,Result.andThen]
    ·rw [h6]
     apply List.ext_getElem?
     intro i
     have hi2:=congrArg (fun l=>l[i]?) h2
     simp only [List.getElem?_map] at hi2
     simp only [List.getElem?_map,Array.getElem?_toList,Array.getElem?_modify,List.getElem?_set]
     rw [Array.getElem?_toList] at hi2
     by_cases hij:j=i
     ·subst hij
      simp [hj,hjl]
     ·simp [hij,hi2]
    ·rw [h6,List.getElem?_set] at hp
     rw [Array.getElem?_toList,Array.getElem?_modify] at he
     by_cases hij:j=i
     ·subst hij
      simp [hjl] at hp
      simp [hj] at he
      subst hp;subst he
      exact hval
     ·rw [if_neg hij] at hp he
      exact h3 i p e' hp (by simpa using he)
 obtain ⟨es',k',hr,k1,k2⟩:=hex
 have hxl:x<w.heap.size:=(Array.getElem?_eq_some_iff.1 h1).1
 have hnew:({ w with heap:=w.heap.setIfInBounds x (.map es' k') }:World).heap[x]?=some (.map es' k'):=by simp [hxl]
 have hoth:∀k,k≠x→({ w with heap:=w.heap.setIfInBounds x (.map es' k') }:World).heap[k]?=w.heap[k]?:=fun k hk=>by simp [Ne.symm hk]
 have hsz':es'.size=(setM m a v).length:=by have:=congrArg List.length k1;simpa using this
 obtain ⟨g1,g2⟩:=hs.set (w':={ w with heap:=w.heap.setIfInBounds x (.map es' k') }) (b:=b) (x:=x) (blk:=mapB enc f m) (blk2:=mapB enc f (setM m a v)) hb hi rfl rfl rfl
  ⟨rfl,rfl,rfl,by simp,fun k hk=>hoth k (by omega)⟩ hoth (c:=#[.agg (es.map (·.key)),.agg (es.map (·.val))]) (c':=#[.agg (es'.map (·.key)),.agg (es'.map (·.val))])
  (by rw [rowAt,h1];rfl) (by rw [rowAt,hnew];rfl) rfl (fun c ty fz h=>by rw [h1] at h;cases h) (by simp [mapB,AV.cells]) (fun i j e c he hc=>by
    cases i with
    | succ i=>simp [mapB] at he
    | zero =>
      simp [mapB] at he;subst he
      match j with
      | 0 =>
        simp [AV.cells] at hc;subst hc
        refine ⟨_,rfl,.agg _ _ (by simp [hsz']) fun i c u h4 h5=>?_⟩
        have:=congrArg (fun l=>l[i]?) k1
        simp only [List.getElem?_map,Array.getElem?_toList] at this
        rw [Array.getElem?_map,this] at h5
        rw [List.getElem?_map] at h4
        cases hq:(setM m a v)[i]? with
        | none=>simp [hq] at h4
        | some p=>simp [hq] at h4 h5;subst h4;subst h5;exact .base _
      | 1 =>
        simp [AV.cells] at hc;subst hc
        refine ⟨_,rfl,.agg _ _ (by simp [hsz']) fun i c u h4 h5=>?_⟩
        rw [List.getElem?_map] at h4
        rw [Array.getElem?_map] at h5
        cases hq:(setM m a v)[i]? with
        | none=>simp [hq] at h4
        | some p =>
          cases hq2:es'[i]? with
          | none=>simp [hq2] at h5
          | some e =>
            simp [hq] at h4;simp [hq2] at h5;subst h4;subst h5
            exact k2 i p e hq (by simpa using hq2)
      | j+2=>simp [AV.cells] at hc)
 exact ⟨_,hr,g1,g2⟩
theorem pl_mapUpdate {α β:Type} [DecidableEq α] (enc:α→Value) (f:β→AV) {m:List (α × β)} {ρ:Operand→AV} {t kt et:TypeId} {d:TypeDesc} {x i y:Operand} {b:Nat} (a:α) (v:β) (hx:ρ x=.mapv b) (hi:ρ i=.base (enc a)) (hy:ρ y=f v) (hb:H[b]?=some (mapB enc f m))
 (ht:P.underlying t=some (.map kt et)) (hd:P.underlying kt=some d) (hk:KeyEnc d enc):PL P H ρ (.mapUpdate t x i y) .bad (H.set b (mapB enc f (setM m a v))):=by
 refine PL.of_run fun w0 O ι A w hs hv o ho=>?_
 have h1:=hv x;rw [hx] at h1
 have h2:=hv i;rw [hi] at h2
 have h2:=h2.base_inv
 have h3:=hv y;rw [hy] at h3
 obtain ⟨w',hr,g1,g2⟩:=map_set (P:=P) hs hb h1 ht hd hk a v h3
 exact ⟨undef,w',ι,.skip,by simp only [execOp,ho,h2,hr,Sem.run_bind,Result.andThen_ok,Sem.run_pure],.inr ⟨rfl,rfl⟩,g1,g2,.bad _⟩
end
theorem MvR.mapv {r:Nat→Option Nat} {H:List ABlk} {b j:Nat} (hb:r b=some j):MvR r H (.mapv b) (.mapv j):=fun H2 w O ι ι2 u v hu=>by
 cases hu with
 | staleMap b blk a h1 h2 =>
   obtain ⟨blk2,e1,e2,e3,e4⟩:=v b j blk hb h1
   exact .staleMap _ blk2 _ e1 (by omega)
 | mapv b blk x h1 ht hi =>
   obtain ⟨blk2,e1,e2,e3,e4⟩:=v b j blk hb h1
   exact .mapv _ blk2 x e1 (e2.trans ht) (e4.trans hi)
theorem PubR.mapv {r:Nat→Option Nat} {H:List ABlk} {b j:Nat} (hb:r b=some j):PubR r H (.mapv b) (.mapv j):=fun H2 w0 w O ι ι2 u hs v hu=>by
 cases hu with
 | staleMap b blk a h1 h2 =>
   obtain ⟨blk2,e1,e2,e3,e4⟩:=v.idx b j blk hb h1
   exact .staleMap _ blk2 _ e1 (by omega)
 | mapv b blk x h1 ht hi =>
   obtain ⟨blk2,e1,e2,e3,e4⟩:=v.idx b j blk hb h1
   exact .mapv _ blk2 x e1 (e2.trans ht) (e4.trans hi)
end Go.Ab
namespace Go.Ab
open Go Go.RowKit
section
variable {P:Program} {s:ASt} {rs:List ResultVar}
end
end Go.Ab
namespace Go.Ab
open Go Go.RowKit
end Go.Ab
namespace Go.Ab
open Go Go.RowKit
def pA (u:Bool) (b:Nat):AV:=if u then .ptr b 1 0 0 else .base (.pointer none)
def bldS (T:TypeId) (p:AV) (c n:Nat):ABlk:=⟨T,2,[.agg [p,.own c n 0 n]]⟩
def bldB (U:TypeId) (l:List UInt8):ABlk:=⟨U,1,l.map AV.u8⟩
attribute [go_sem] pA bldS bldB List.length_map beq_self_eq_true
section
variable {P:Program} {HC:List ABlk}
end
end Go.Ab
namespace Go.Ab
open Go Go.RowKit
section
variable {P:Program} {n:Fr} {w w':World} {w0:Base} {O:Nat→Prop} {ι ι':Nat→Option Nat} {H H':List ABlk} {u:Value}
section
variable {HS:Nat→List ABlk} {m b:Nat} {o:LOp} {l:List LOp} {sl:List (Option Nat)} {bl:List Nat} {E:Env} {v:AV} {K:Env→Prop}
end
end
theorem PubR.same {H:List ABlk} (a:AV):PubR some H a a:=fun H2 w0 w O ι ι2 u hs v hu=>hu.mono
 ⟨fun _ _ _ h=>h,fun p c h _ h2=>h (v.OO h2),fun b blk hb=>by
  obtain ⟨blk2,e1,e2,e3,e4⟩:=v.idx b b blk rfl hb
  exact ⟨blk2,e1,Nat.le_of_eq e2.symm,fun _=>⟨e3,e4⟩⟩,
  fun b x blk blk' c ty fz _ _ _ _ h=>⟨c,ty,fz,h,rfl⟩⟩
theorem RetH.same {P:Program} {rs:List ResultVar} {n:Fr} {d:AV} {H':List ABlk} {s:ASt} {vs:List AV} (h:resVals P s rs=some vs) (hd:packA vs=d) (hH:s.H=H'):RetH P rs n d H' s:=
 ⟨s,vs,some,fun j=>j,.refl s,h,⟨fun b _=>rfl,fun j hj=>⟨by rw [hH];exact hj,rfl⟩,fun b j hb hr=>by injection hr with hr;subst hr;exact ⟨rfl,by rw [← hH];exact hb⟩,
  fun j blk blk2 h1 h2=>by
   rw [hH,h2] at h1;injection h1 with h1;subst h1
   exact ⟨rfl,rfl,rfl,fun i e e2 h3 h4=>by
    rw [h3] at h4;injection h4 with h4;subst h4
    exact ⟨rfl,fun k c c2 h5 h6=>by rw [h5] at h6;injection h6 with h6;subst h6;exact .same _⟩⟩⟩,by rw [hd];exact .same _⟩
end Go.Ab
namespace Go.Ab
open Go Go.RowKit
end Go.Ab
namespace Go.Ab
open Go Go.RowKit
theorem iff_ {P:Program} {n:Fr} {Q:Exit→ASt→Prop} {s:ASt} {b:Bool} {cc:Operand} {x y:Code} (h:AWp P n y Q s) (hb:b=false:=by first|rfl|simp) (hc:ev s.env cc=.base (.bool b):=by rfl):AWp P n (.cond cc x y) Q s:=AWp.cond hc (fun h2=>by rw [hb] at h2;cases h2) (fun _=>h)
theorem ift_ {P:Program} {n:Fr} {Q:Exit→ASt→Prop} {s:ASt} {b:Bool} {cc:Operand} {x y:Code} (h:AWp P n x Q s) (hb:b=true:=by first|rfl|simp) (hc:ev s.env cc=.base (.bool b):=by rfl):AWp P n (.cond cc x y) Q s:=AWp.cond hc (fun _=>h) (fun h2=>by rw [hb] at h2;cases h2)
theorem iftd_ {P:Program} {n:Fr} {Q:Exit→ASt→Prop} {s:ASt} {p:Prop} [Decidable p] {cc:Operand} {x y:Code} (hc:ev s.env cc=.base (.bool (decide p))) (hp:p) (h:AWp P n x Q s):AWp P n (.cond cc x y) Q s:=AWp.cond hc (fun _=>h) (fun h2=>absurd hp (of_decide_eq_false h2))
end Go.Ab
namespace Go.Ab
open Go Go.RowKit
theorem PubR.iptr {r:Nat→Option Nat} {H:List ABlk} {b tot i off:Nat} {blk:ABlk} {e d:AV} (hk:r b=none) (h1:H[b]?=some blk) (ht:blk.es.length=tot) (he:blk.es[i]?=some e)
 (hd:PubRL r H e.cells d.cells):PubR r H (.ptr b tot i off) (.iptr d off):=fun H2 w0 w O ι ι2 u hs v hu=>by
 cases hu with
 | stalePtr b tot i off blk' a h1' h2=>rw [h1] at h1';cases h1';omega
 | ptr b tot i off blk' x h1' ht' hi hcx =>
   rw [h1] at h1';cases h1'
   obtain ⟨hx0,c0,hc,hcs,hsz,hel⟩:=hs.heap b blk x h1 hi
   have hnot:¬OO O ι2 H2 x:=not_OO_view hs v h1 hk hi
   have hat:∀(j:Nat) (c:AV),d.cells[j]?=some c→∃u,w.cell? ⟨x,i*blk.sz+j,none⟩=some u∧VR w (OO O ι2 H2) ι2 H2 c u:=by
    intro j c hcj
    have hj:j<e.cells.length:=by rw [hd.len];exact (List.getElem?_eq_some_iff.1 hcj).1
    have hej:e.cells[j]?=some e.cells[j]:=List.getElem?_eq_getElem hj
    obtain ⟨u,hu,hv⟩:=hel i j e _ he hej
    obtain ⟨ty3,fz3,hc⟩:=rowAt_el hc hcx
    exact ⟨u,by simpa [World.cell?,hc] using hu,hd.get j _ c hej hcj H2 w0 w O ι ι2 u hs v hv⟩
   refine .iptr d off _ (fun j=>(w.cell? ⟨x,i*blk.sz+j,none⟩).getD undef) rfl (Nat.le_add_left _ _) (fun j c hcj=>?_) (fun j c hcj=>?_)
   ·obtain ⟨u,hu,_⟩:=hat j c hcj
    refine ⟨hnot,?_⟩
    show w.cell? ⟨x,i*blk.sz+off-off+j,none⟩=_
    rw [Nat.add_sub_cancel,hu];rfl
   ·obtain ⟨u,hu,hv⟩:=hat j c hcj
    simpa only [hu,Option.getD_some] using hv
end Go.Ab
namespace Go.Ab
open Go Go.RowKit
section
variable {P:Program} {H:List ABlk} {w w':World} {w0:Base} {O:Nat→Prop} {ι:Nat→Option Nat}
end
end Go.Ab
namespace Go.Ab
open Go Go.RowKit
section
variable {P:Program} {HC:List ABlk}
end
end Go.Ab
namespace Go.Ab
open Go Go.RowKit
theorem Wk.wf {n:Fr} {E E2:Env} {H H2:List ABlk} (hH:H=H2:=by rfl) (h:WkE E E2:=by repeat (first|exact trivial|refine And.intro (Le.of_eq rfl) ?_|refine And.intro (Le.bad _) ?_|refine And.intro (Le.under_true _) ?_)):Wk n ⟨E,H⟩ ⟨E2,H2⟩:=.env2 hH h
end Go.Ab
namespace Go.Ab
open Go Go.RowKit
section
variable {P:Program} {n:Fr} {Q:Exit→ASt→Prop} {c:Code}
end
end Go.Ab
namespace Go.Ab
open Go Go.RowKit
section
variable {p q:Prop}
end
section
variable {P:Program} {n:Fr} {q:Bool} {K:ASt→Prop} {Q:Exit→ASt→Prop} {s:ASt}
end
end Go.Ab
namespace Go.Ab
open Go Go.RowKit Go.MapKept
section
variable {α β:Type} [DecidableEq α] {P:Program} {w:World} {kt:TypeId} {enc:α→Value}
end
section
variable {P:Program} {w w':World} {w0:Base} {O:Nat→Prop} {ι:Nat→Option Nat} {H:List ABlk} {u:Value}
end
end Go.Ab
namespace Go.Ab
open Go Go.RowKit Go.MapKept
section
variable {P:Program} {w:World} {O:Nat→Prop} {ι:Nat→Option Nat} {H:List ABlk} {u:Value}
end
end Go.Ab
namespace Go.Ab
open Go Go.RowKit
section
variable {P:Program} {n:Fr} {w w':World} {w0:Base} {O:Nat→Prop} {ι ι':Nat→Option Nat} {H H':List ABlk} {u:Value}
section
variable {HS:Nat→List ABlk} {b:List Nat} {o:LOp} {l:List LOp} {sl:List (Option Nat)} {bl:List (List Nat)} {E:Env} {v:AV} {K:Env→Prop}
end
end
end Go.Ab
