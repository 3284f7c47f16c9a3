/- Steps of drawn regions with three growing steps. -/
import Derived.Scope
import Derived.Test.YthgicbkdckpeaaaDoorG03
import Derived.Test.YthgicbkdckpeaaaDoorG10
set_option linter.unusedSimpArgs false
set_option linter.unusedVariables false
namespace Go.Ab
open Go Go.RowKit
section
variable {P:Program} {n:Fr} {Q:Exit→ASt→Prop} {s:ASt}
def AWpI (P:Program) (n:Fr) (c:Code) (Q:Exit→ASt→Prop) (s:ASt):Prop:=
 ∀(w0:Base) (O:Nat→Prop) (ι:Nat→Option Nat) (a:Act) (w:World),SR n w0 O s ι a w→∀(b:Frame) (k:List Item) (cs:List Frame),
  ∃e a' w',liftQ w0 O n Q e a' w'∧Arrives P (lone (b.at a (.code c::.inLoop c::k)) cs w) b k cs e a' w'
theorem AWpI.turn {c:Code} (h:AWp P n c (thenQ (AWpI P n c Q) Q) s):AWpI P n c Q s:=by
 intro w0 O ι a w hs b k cs
 obtain ⟨e,a1,w1,⟨s',ι',hq,hs'⟩,harr⟩:=h w0 O ι a w hs b (.inLoop c::k) cs
 cases e with
 | normal =>
   obtain ⟨e2,a2,w2,hq2,harr2⟩:=hq w0 O ι' a1 w1 hs' b k cs
   exact ⟨e2,a2,w2,hq2,.of_steps (Steps.trans harr (.one step_inLoop)) harr2⟩
 | exit id=>exact ⟨_,a1,w1,⟨s',ι',hq,hs'⟩,.pass (x:=.inLoop c) rfl (fun _ _=>.inl (by simp)) harr⟩
 | goto l=>exact ⟨_,a1,w1,⟨s',ι',hq,hs'⟩,.pass (x:=.inLoop c) rfl (fun _ _=>.inl (by simp)) harr⟩
 | ret=>exact ⟨_,a1,w1,⟨s',ι',hq,hs'⟩,.pass (x:=.inLoop c) rfl (fun _ _=>.inl (by simp)) harr⟩
 | panic ch=>exact ⟨_,a1,w1,⟨s',ι',hq,hs'⟩,.pass (x:=.inLoop c) rfl (fun _ _=>.inl (by simp)) harr⟩
 | outgrown=>exact ⟨_,a1,w1,⟨s',ι',hq,hs'⟩,.pass (x:=.inLoop c) rfl (fun _ _=>.inl (by simp)) harr⟩
theorem AWp.turn {c:Code} (h:AWp P n c (thenQ (AWpI P n c Q) Q) s):AWp P n (.loop c) Q s:=by
 intro w0 O ι a w hs b k cs
 obtain ⟨e,a',w',hq,harr⟩:=AWpI.turn h w0 O ι a w hs b k cs
 exact ⟨e,a',w',hq,.of_steps (.one step_loop) harr⟩
end
end Go.Ab
namespace Go.Ab
open Go Go.RowKit
section
variable {P:Program} {H:List ABlk} {ρ:Operand→AV}
end
end Go.Ab
namespace Go.Ab
open Go Go.RowKit
section
variable {P:Program} {H:List ABlk} {ρ:Operand→AV}
end
end Go.Ab
namespace Go.Ab
open Go Go.RowKit
def LeL:List AV→List AV→Prop
 | [],[]=>True
 | a::l,b::m=>Le a b∧LeL l m
 | _,_=>False
theorem LeL.len:∀ {l m:List AV},LeL l m→l.length=m.length
 | [],[],_=>rfl
 | _::l,_::m,h=>congrArg (·+1) (LeL.len h.2)
theorem LeL.get:∀ {l m:List AV},LeL l m→∀(j:Nat) (a b:AV),l[j]?=some a→m[j]?=some b→Le a b
 | a::l,b::m,h,0,x,y,hx,hy=>by
   injection hx with hx;injection hy with hy;subst hx;subst hy;exact h.1
 | a::l,b::m,h,j+1,x,y,hx,hy=>LeL.get h.2 j x y hx hy
theorem LeL.at {l m:List AV} (h:LeL l m) {j:Nat} {b:AV} (hb:m[j]?=some b):∃a,l[j]?=some a∧Le a b:=by
 have hj:j<l.length:=by rw [h.len];exact (List.getElem?_eq_some_iff.1 hb).1
 exact ⟨_,List.getElem?_eq_getElem hj,h.get j _ b (List.getElem?_eq_getElem hj) hb⟩
theorem Le.nil:Le (.base (.slice none 0 0)) (.lst []):=fun w O ι H u hu=>by cases hu;exact .lnil
theorem Le.aggL {cs ds:List AV} (h:LeL cs ds):Le (.agg cs) (.agg ds):=fun w O ι H u hu=>by
 cases hu with
 | agg cs arr hlen hh =>
   refine .agg ds arr (by rw [hlen,h.len]) fun j c u hc hu=>?_
   obtain ⟨a,ha,hl⟩:=h.at hc
   exact hl _ _ _ _ _ (hh j a u ha hu)
theorem Le.lst1 {e d:AV} (h:LeL e.cells d.cells):Le (.lst [e]) (.lst [d]):=fun w O ι H u hu=>by
 cases hu with
 | lst es a n cap s val hn hcap hmax hlen hspot hc hv =>
   refine .lst [d] a n cap s val hn hcap hmax (fun x hx=>?_) (fun x hx=>hspot e (List.mem_singleton.2 rfl)) (fun i j x c hx hc'=>?_) (fun i j x c hx hc'=>?_)
   ·rw [List.mem_singleton] at hx;subst hx
    rw [← h.len];exact hlen e (List.mem_singleton.2 rfl)
   ·cases i with
    | zero =>
      injection hx with hx;subst hx
      obtain ⟨y,hy,_⟩:=h.at hc'
      exact hc 0 j e y rfl hy
    | succ i=>cases hx
   ·cases i with
    | zero =>
      injection hx with hx;subst hx
      obtain ⟨y,hy,hl⟩:=h.at hc'
      exact hl _ _ _ _ _ (hv 0 j e y rfl hy)
    | succ i=>cases hx
theorem FnM.le {P:Program} {m:List (Nat × Obj)} {f:FuncId} {args args':List AV} {d:AV} (h:FnM P m f args d) (hl:LeL args' args):FnM P m f args' d:=
 ⟨h.1,fun w O vs h1 h2 h3 h4=>h.2 w O vs h1 h2 (h3.trans hl.len) fun j a u ha hu=>by
  obtain ⟨b,hb,hle⟩:=hl.at ha
  exact hle _ _ _ _ _ (h4 j b u hb hu)⟩
end Go.Ab
namespace Go.Ab
open Go Go.RowKit
section
variable {P:Program} {n:Fr} {s:ASt}
def noG (Q:Exit→ASt→Prop):Exit→ASt→Prop
 | .goto _,_=>False
 | e,s=>Q e s
theorem AWp.scope {c:Code} {Q:Exit→ASt→Prop} (h:AWp P n c (noG Q) s):AWp P n (.scope c) Q s:=fun w0 O ι a w hs=>by
 refine wp_scope_straight (wp_mono (h w0 O ι a w hs) ?_)
 rintro e a w ⟨s',ι',h1,h2⟩
 cases e with
 | goto l=>exact h1.elim
 | _=>exact ⟨s',ι',h1,h2⟩
theorem AWp.label {l:Nat} {Q:Exit→ASt→Prop} (h:Q .normal s):AWp P n (.label l) Q s:=fun w0 O ι a w hs=>wp_label ⟨s,ι,h,hs⟩
end
end Go.Ab
namespace Go.Ab
open Go Go.RowKit
section
variable {P:Program} {n:Fr} {HS:Nat→List ABlk} {o:LOp} {l:List LOp} {sl:List (Option Nat)} {bl:List Nat} {E:Env} {v:AV} {K:Env→Prop}
end
end Go.Ab
namespace Go.Ab
open Go Go.RowKit
section
variable {P:Program} {H:List ABlk} {ρ:Operand→AV}
theorem ql_slice_own {t el:TypeId} {x:Operand} {lo hi:Option Operand} {b tot off len l h:Nat} {blk:ABlk} (hx:ρ x=.own b tot off len) (ht:P.underlying t=some (.slice el)) (hb:H[b]?=some blk) (htot:blk.es.length=tot)
 (hlo:bnd ρ 0 lo=some l) (hhi:bnd ρ len hi=some h) (hlh:l≤h) (hh:h≤len) (hsz:szTy P el=some blk.sz):QL P H ρ (.slice t x lo hi none) (.own b tot (off+l) (h-l)):=by
 refine QL.of_run fun w0 O ι a w hs hv o ho=>?_
 have h1:=hv x (by simp [Op.operands])
 have hv2:∀y,(lo=some y∨hi=some y)→VR w (OO O ι H) ι H (ρ y) (a.eval y):=by
  rintro y (rfl|rfl)<;>exact hv y (by simp [Op.operands])
 rw [hx] at h1
 generalize hX:a.eval x=X at h1
 cases h1 with
 | staleOwn b tot off len blk' ad n c hb' hlt=>rw [hb] at hb';cases hb';omega
 | ownNil b blk' hb' he hi' =>
   have hr:=sliceBounds_run (P:=P) (cap:=0) (isSl:=true) hv2 hlo hhi hlh (by omega)
   have:l=0:=by omega
   have:h=0:=by omega
   subst l;subst h
   refine ⟨.slice none 0 0,?_,.ownNil b blk' hb' he hi'⟩
   simp only [execOp,ho,hX,Instr.sliceAt,run_underlying ht,Instr.slice,Option.map_none,hr,sizeOf_run hsz,Sem.run_bind,Sem.run_pure,Result.andThen_ok,if_true,Nat.sub_zero]
 | own b tot off len blk' y n cap ad hb' ht' hi' hn hl hcap ha =>
   have hbb:=hb'
   rw [hb] at hbb;cases hbb
   subst hn
   have hr:=sliceBounds_run (P:=P) (cap:=cap) (isSl:=true) hv2 hlo hhi hlh (by omega)
   by_cases hcl:cap=l
   ·refine ⟨.slice (some ad) (h-l) (cap-l),?_,?_⟩
    ·simp only [execOp,ho,hX,Instr.sliceAt,run_underlying ht,Instr.slice,Option.map_none,hr,sizeOf_run hsz,Sem.run_bind,Sem.run_pure,Result.andThen_ok,if_pos hcl]
    ·refine .own b tot (off+l) (h-l) blk y _ _ _ hb' ht' hi' rfl (by omega) (by omega) fun hc=>?_
     obtain ⟨h2,h3,h4⟩:=ha (.inr (by omega))
     have e1:l=0:=by omega
     have e2:off=0:=by omega
     subst e1;subst e2
     exact ⟨by simpa using h2,by omega,by simpa using h4⟩
   ·refine ⟨.slice (some (ad.add (l*blk.sz))) (h-l) (cap-l),?_,?_⟩
    ·simp only [execOp,ho,hX,Instr.sliceAt,run_underlying ht,Instr.slice,Option.map_none,hr,sizeOf_run hsz,Sem.run_bind,Sem.run_pure,Result.andThen_ok,if_neg hcl,Option.map_some]
    ·refine .own b tot (off+l) (h-l) blk y _ _ _ hb' ht' hi' rfl (by omega) (by omega) fun hc=>?_
     obtain ⟨h2,h3,c,ty,fz,h4,h5⟩:=ha (.inl (by omega))
     subst h2
     refine ⟨?_,by omega,c,ty,fz,h4,by rw [← h5];congr 1;omega⟩
     rw [add_eq _ _ rfl,Nat.add_mul]
end
end Go.Ab
namespace Go.Ab
open Go Go.RowKit
def hp (N:Nat) (f:Nat→ABlk):List ABlk:=(List.range N).map f
section
variable {N:Nat} {f:Nat→ABlk}
@[simp] theorem hp_len:(hp N f).length=N:=by simp [hp]
theorem hp_get {i:Nat} (h:i<N):(hp N f)[i]?=some (f i):=by simp [hp,h]
theorem hp_ext {L:List ABlk} (hl:L.length=N) (h:∀i,i<N→L[i]?=some (f i)):L=hp N f:=by
 refine List.ext_getElem? fun i=>?_
 by_cases hi:i<N
 ·rw [h i hi,hp_get hi]
 ·rw [List.getElem?_eq_none (by omega),List.getElem?_eq_none (by simp;omega)]
end
def RfA (S:Nat→Prop) (a:AV):Prop:=Pu a∨(∃b tot i off,a=.ptr b tot i off∧S b)∨(∃b tot off len,a=.own b tot off len∧S b)∨(∃b,a=.mapv b∧S b)
def RfB (S:Nat→Prop) (blk:ABlk):Prop:=∀e∈blk.es,∀c∈e.cells,RfA S c
theorem RfA.pu {S:Nat→Prop} {a:AV} (h:Pu a):RfA S a:=.inl h
theorem RfA.ptr {S:Nat→Prop} {b tot i off:Nat} (h:S b):RfA S (.ptr b tot i off):=.inr (.inl ⟨b,tot,i,off,rfl,h⟩)
theorem RfA.own {S:Nat→Prop} {b tot off len:Nat} (h:S b):RfA S (.own b tot off len):=.inr (.inr (.inl ⟨b,tot,off,len,rfl,h⟩))
theorem RfA.mapv {S:Nat→Prop} {b:Nat} (h:S b):RfA S (.mapv b):=.inr (.inr (.inr ⟨b,rfl,h⟩))
theorem RfA.mono {S S':Nat→Prop} {a:AV} (h:RfA S a) (hs:∀b,S b→S' b):RfA S' a:=by
 rcases h with h|⟨b,tot,i,off,rfl,h⟩|⟨b,tot,off,len,rfl,h⟩|⟨b,rfl,h⟩
 ·exact .pu h
 ·exact .ptr (hs b h)
 ·exact .own (hs b h)
 ·exact .mapv (hs b h)
theorem RfB.mono {S S':Nat→Prop} {b:ABlk} (h:RfB S b) (hs:∀b,S b→S' b):RfB S' b:=fun e he c hc=>(h e he c hc).mono hs
theorem RfA.mv {S:Nat→Prop} {r:Nat→Option Nat} {H:List ABlk} {a:AV} (h:RfA S a) (hr:∀b,S b→r b=some b):MvR r H a a:=by
 rcases h with h|⟨b,tot,i,off,rfl,h⟩|⟨b,tot,off,len,rfl,h⟩|⟨b,rfl,h⟩
 ·exact .pu h
 ·exact .ptr (hr b h)
 ·exact .own (hr b h)
 ·exact .mapv (hr b h)
theorem RfA.pub {S:Nat→Prop} {r:Nat→Option Nat} {H:List ABlk} {a:AV} (h:RfA S a) (hr:∀b,S b→r b=some b):PubR r H a a:=by
 rcases h with h|⟨b,tot,i,off,rfl,h⟩|⟨b,tot,off,len,rfl,h⟩|⟨b,rfl,h⟩
 ·exact .pu h
 ·exact .ptr (hr b h)
 ·exact .own (hr b h)
 ·exact .mapv (hr b h)
theorem RfB.mv {S:Nat→Prop} {r:Nat→Option Nat} {H:List ABlk} {b:ABlk} (h:RfB S b) (hr:∀b,S b→r b=some b):BlkMv r H b b:=
 ⟨rfl,rfl,rfl,fun i e e2 h1 h2=>by
  rw [h1] at h2;injection h2 with h2;subst h2
  exact ⟨rfl,fun k c c2 h3 h4=>by
   rw [h3] at h4;injection h4 with h4;subst h4
   exact (h e (List.mem_of_getElem? h1) c (List.mem_of_getElem? h3)).mv hr⟩⟩
def mvr (q p:Nat) (b:Nat):Option Nat:=if b=q then some p else if b=p then none else some b
theorem BR.lessO {w:World} {O O':Nat→Prop} {ι:Nat→Option Nat} {H:List ABlk} {b:ABlk} {x:Nat} (h:BR w O ι H b x) (hO:∀y,O' y→O y):BR w O' ι H b x:=by
 obtain ⟨c,h1,h2,h3,h4⟩:=h
 exact ⟨c,h1,h2,h3,fun i j e d he hd=>by obtain ⟨u,hu,hv⟩:=h4 i j e d he hd;exact ⟨u,hu,hv.lessO hO⟩⟩
theorem Wk.pad {n:Fr} {E:Env} (hE:∀p∈E,Le (lk E p.1) p.2) {H:List ABlk}:∀(T:List ABlk),(∀b∈T,b.es=[])→Wk n ⟨E,H⟩ ⟨E,H++T⟩
 | [],_=>by rw [List.append_nil];exact fun w0 O ι a w hs=>⟨ι,hs⟩
 | ⟨ty,sz,es⟩::T,h=>fun w0 O ι a w hs=>by
   obtain rfl:es=[]:=h ⟨ty,sz,es⟩ (by simp)
   obtain ⟨ι1,h1⟩:=Wk.nil (n:=n) (E:=E) (E2:=E) (H:=H) ty sz (fun p hp=>.inl (hE p hp)) w0 O ι a w hs
   obtain ⟨ι2,h2⟩:=Wk.pad (n:=n) (E:=E) hE (H:=H++[⟨ty,sz,[]⟩]) T (fun b hb=>h b (by simp [hb])) w0 O ι1 a w h1
   rw [List.append_assoc] at h2
   exact ⟨ι2,h2⟩
theorem ro_range2 {n b:Nat}:ro (List.range n) b=if b<n then some b else none:=by
 unfold ro
 split
 ·rename_i h
  rw [List.findIdx?_eq_some_iff_getElem]
  exact ⟨by simpa using h,by simp,fun j hj=>by simp;omega⟩
 ·rename_i h
  rw [List.findIdx?_eq_none_iff]
  intro x hx
  have:=List.mem_range.1 hx
  simp;omega
theorem rb_range2 {N m j:Nat} (h:j<N):rb (List.range N) m j=some j:=by
 unfold rb
 rw [List.length_range,if_pos h,List.getElem?_range h]
theorem CallE.pre {N:Nat} {H H' T:List ABlk} (hl:H.length=N) (hl':H'.length=N) (hi:∀b∈H,RfB (·<N) b) (ho:∀b∈H',RfB (·<N) b):CallE (List.range N) (H++T) H H' (H'++T):=
 ⟨List.nodup_range,by rw [List.length_range,hl],fun j b hj=>by
  obtain ⟨h1,h2⟩:=List.getElem?_eq_some_iff.1 hj
  rw [List.length_range] at h1
  rw [List.getElem_range] at h2
  subst h2
  have hjl:j<H.length:=by omega
  exact ⟨H[j],H[j],by rw [List.getElem?_append_left hjl,List.getElem?_eq_getElem hjl],List.getElem?_eq_getElem hjl,(hi _ (List.getElem_mem _)).mv fun b hb=>by rw [ro_range2,if_pos hb]⟩,
 by omega,by simp;omega,fun b hb hn=>by
  have hb2:¬b<N:=fun h=>hn (List.mem_range.2 h)
  rw [List.getElem?_append_right (by omega),List.getElem?_append_right (by omega),hl,hl'],fun j c bk hr hb=>by
  have hj:=(List.getElem?_eq_some_iff.1 hb).1
  rw [rb_range2 (by omega)] at hr;injection hr with hr;subst hr
  exact ⟨bk,by rw [List.getElem?_append_left hj];exact hb,(ho _ (List.mem_of_getElem? hb)).mv fun b hb=>rb_range2 hb⟩⟩
end Go.Ab
namespace Go.Ab
open Go Go.RowKit
section
variable {P:Program} {H:List ABlk}
theorem append_in_run {w:World} {t ty el:TypeId} {bytes:Nat} (ht:P.underlying t=some (.slice el)) (hel:elI P el 1 bytes=true) {z len cap c2:Nat} {a2:Addr} {u:Value}
 (hc:(w.cell? ⟨z,len,none⟩).isSome=true) (hf:w.frozen? ⟨z,len,none⟩=false) (hu:u.oneCell'=true) (hl:w.cell? a2=some u) (hs2:a2.spot=none) (hlt:len+1≤cap) :
 (Builtin.append_ #[t,t] ty #[.slice (some ⟨z,0,none⟩) len cap,.slice (some a2) 1 c2]).run P w=.ok (.slice (some ⟨z,0,none⟩) (len+1) cap) (w.setCells z len [u]):=by
 obtain ⟨i0,zz,h1,h2,h3,h4,h5,h6,_⟩:=elI_inv hel
 have hld:(load a2).run P w=.ok u w:=by
  obtain ⟨b,o,s⟩:=a2
  simp only at hs2;subst hs2
  simp [hl]
 have hst:=run_storeCells_cells (P:=P) z len [u] 0 w (fun j hj=>by simp at hj;subst hj;exact hc) (fun j hj=>by simp at hj;subst hj;exact hf) (fun v hv=>by simp at hv;subst hv;exact hu)
 have hadd:((⟨z,0,none⟩:Addr).add len)=⟨z,len,none⟩:=by unfold Addr.add;split<;>simp_all
 have hadd0:(a2.add 0)=a2:=by
  obtain ⟨b,o,s⟩:=a2
  simp only at hs2;subst hs2
  unfold Addr.add;split<;>simp_all
 simp only [Nat.add_zero] at hst
 simp [Builtin.append_,run_underlying ht,sizeOf,typeInfo,h1,h3,Builtin.lenOf,Builtin.firstCells,loadCells,loadCellsFrom,hadd0,hld,hlt,hadd,hst]
theorem pl_appendIn {ρ:Operand→AV} {s x:Operand} {t el:TypeId} {b tot len bytes:Nat} {blk:ABlk} {v:AV} (hsv:ρ s=.own b tot 0 len) (hx:ρ x=.lst [v]) (hv1:v.cells=[v]) (hok:okCells v=true) (hb:H[b]?=some blk) (htot:blk.es.length=tot)
 (hlt:len<tot) (hs1:blk.sz=1) (ht:P.underlying t=some (.slice el)) (hel:elI P el 1 bytes=true) (hmt:blk.ty<mapTy:=by decide) :
 PL P H ρ (.call { callee:=.builtin .append,args:=#[s,x],argTypes:=#[t,t] }) (.own b tot 0 (len+1)) (H.set b { blk with es:=blk.es.set len v }):=by
 refine PL.of_run fun w0 O ι a w hs hv o ho=>?_
 have h1:=hv s;rw [hsv] at h1
 have h2:=hv x;rw [hx] at h2
 generalize he1:a.eval s=X1 at h1
 generalize he2:a.eval x=X2 at h2
 cases h1 with
 | staleOwn b tot off len blk' a n c hb' hlt'=>rw [hb] at hb';cases hb';omega
 | ownNil b blk' hb' he hi=>omega
 | own b tot off len blk' z n cap ad hb' ht' hi hn hl hcap ha =>
 rw [hb] at hb';cases hb'
 subst hn
 obtain ⟨rfl,hmx,c,ty,fz,hcz,hc2⟩:=ha (.inr rfl)
 rw [Nat.zero_mul] at *
 rw [hs1,Nat.mul_one,Nat.zero_add] at hc2
 obtain ⟨hz0,c0,hc0,hcl,hsz',hrow⟩:=hs.heap b blk z hb hi
 have hcz':=rowAt_inv hc0 ⟨c,ty,fz,hcz⟩ hmt
 rw [hcz] at hcz';injection hcz' with hcz';injection hcz' with e1 e2 e3;subst e1;subst e2;subst e3
 rw [hs1,Nat.mul_one] at hcl
 cases h2 with
 | lst es a2 m cap2 sz val hm hcap2 hmax hlen hspot hcc hvv =>
 simp only [List.length_singleton] at hm;subst hm
 have hsz1:sz=1:=by have:=hlen v (by simp);rw [hv1] at this;simpa using this.symm
 subst hsz1
 have hsp:=hspot v (by simp)
 have hcell:=(hcc 0 0 v v rfl (by rw [hv1];rfl)).2
 have hval:=hvv 0 0 v v rfl (by rw [hv1];rfl)
 have hca:w.cell? a2=some (val 0 0):=by
  rw [← hcell];congr 1
  obtain ⟨ab,ao,as⟩:=a2
  simp only at hsp;subst hsp;simp
 have hone:(val 0 0).oneCell'=true:=by
  refine (VR.one ?_ hval).1
  cases v with
  | agg cs =>
    simp only [AV.cells] at hv1
    have h9:SizeOf.sizeOf cs=SizeOf.sizeOf [AV.agg cs]:=congrArg (fun l:List AV=>SizeOf.sizeOf l) hv1
    simp at h9
    omega
  | _=>simpa [okCells] using hok
 have hcellat:(w.cell? ⟨z,n,none⟩).isSome=true:=by simp [World.cell?,hcz];omega
 have hrun:=append_in_run (P:=P) (w:=w) (ty:=o.type) ht hel (z:=z) (len:=n) (cap:=cap) (c2:=cap2) (a2:=a2) hcellat (by simp [World.frozen?,hcz]) hone hca hsp (by omega)
 obtain ⟨c',hc',hcs',hj'⟩:=heap_setCells z [val 0 0] n w c blk.ty (0,0) hcz (by simp;omega)
 obtain ⟨h9,h10⟩:=hs.set (blk2:={ blk with es:=blk.es.set n v }) hb hi rfl rfl (by simp) (below_setCells z z (Nat.le_refl _) _ _ _) (fun k hk=>heap_setCells_other z _ _ _ k hk) (rowAt_cells hcz hmt) (rowAt_cells hc' hmt) hcs' (fun c1 ty1 fz1 h=>by rw [hcz] at h;injection h with h;injection h with h a b;subst h;exact ⟨c',_,_,hc',hcs'⟩)
  (fun e1 he1=>by
    rcases List.mem_or_eq_of_mem_set he1 with h|h
    ·exact hsz' e1 h
    ·rw [h,hv1,hs1];rfl)
  (fun i1 j1 e1 d1 hi1 hj1=>by
    simp only at hi1 ⊢
    rw [hs1,Nat.mul_one]
    rw [List.getElem?_set] at hi1
    by_cases e:n=i1
    ·subst e
     rw [if_pos rfl,if_pos (by omega)] at hi1;injection hi1 with hi1;subst hi1
     rw [hv1] at hj1
     obtain ⟨rfl,rfl⟩:j1=0∧v=d1:=by
      cases j1 with
      | zero=>simp at hj1;exact ⟨rfl,hj1⟩
      | succ k=>simp at hj1
     rw [hj']
     exact ⟨val 0 0,by simp,hval⟩
    ·rw [if_neg e] at hi1
     have hj0:j1<1:=by rw [← hs1,← hsz' e1 (List.mem_of_getElem? hi1)];exact (List.getElem?_eq_some_iff.1 hj1).1
     rw [hj',if_neg (by simp;omega)]
     have:=hrow i1 j1 e1 d1 hi1 hj1
     rwa [hs1,Nat.mul_one] at this)
 refine ⟨_,_,ι,_,append_exec (ρ:=ρ) ho (by rw [he1,he2];exact hrun),.inl rfl,h9,h10,?_⟩
 have hb2:(H.set b { blk with es:=blk.es.set n v })[b]?=some { blk with es:=blk.es.set n v }:=by
  rw [List.getElem?_set_self (List.getElem?_eq_some_iff.1 hb).1]
 exact .own b tot 0 (n+1) _ z (n+1) cap ⟨z,0,none⟩ hb2 (by simpa using ht') hi rfl (by omega) (by omega) fun _=>⟨by simp,hmx,c',_,_,hc',by simp [hs1,hcs',hc2]⟩
theorem ql_ixo {ρ:Operand→AV} {t el:TypeId} {x i:Operand} {k:IntKind} {n b tot len:Nat} {blk:ABlk} (hx:ρ x=.own b tot 0 len) (hi:ρ i=.base (.int k (n:Int))) (ht:P.underlying t=some (.slice el))
 (hb:H[b]?=some blk) (htot:blk.es.length=tot) (hn:n<len) (hsz:szTy P el=some blk.sz):QL P H ρ (.indexAddr t x i) (.ptr b tot n 0):=by
 have:=ql_indexAddr_own (P:=P) (H:=H) (ρ:=ρ) (t:=t) (x:=x) (i:=i) hx hi ht hb htot (by omega) (by omega) hsz
 rwa [Nat.zero_add,Int.toNat_natCast] at this
end
end Go.Ab
namespace Go.Ab
open Go Go.RowKit
section
variable {P:Program} {H:List ABlk}
theorem pl_appendL {ρ:Operand→AV} {s x:Operand} {t el:TypeId} {b tot size bytes:Nat} {blk:ABlk} {es:List AV} {av:AV} (hsv:ρ s=.own b tot 0 tot) (hx:ρ x=av) (hle:Lend H av (.lst es)) (hba:∀e∈es,∃v,e=.base v) (hb:H[b]?=some blk) (htot:blk.es.length=tot)
 (ht:P.underlying t=some (.slice el)) (hel:elI P el size bytes=true) (hty:blk.ty=el) (hbs:blk.sz=size) (hm:1≤es.length) (hes:∀e∈es,e.cells.length=size∧okCells e=true) (hbd:(tot+es.length)*bytes≤140737488355328) (h63:tot+es.length≤140737488355328) :
 PL P H ρ (.call { callee:=.builtin .append,args:=#[s,x],argTypes:=#[t,t] }) (.own b (tot+es.length) 0 (tot+es.length)) (H.set b { blk with es:=blk.es++es }):=by
 refine PL.of_run fun w0 O ι a w hs hv o ho=>?_
 subst hty;subst hbs
 have h1:=hv s;rw [hsv] at h1
 have h2:=hv x;rw [hx] at h2
 have h2:=hle _ _ _ _ _ hs h2
 obtain ⟨hpos,hmt⟩:0<blk.sz∧blk.ty<mapTy:=by obtain ⟨_,_,_,_,_,_,_,h⟩:=elI_inv hel;exact h
 obtain ⟨xs,k1,k2,k3,_⟩:=own_row hs hb htot h1 hpos hmt
 obtain ⟨v',w',news,r1,r2,r3,r4,r5,r6,r7⟩:=append_core (P:=P) (ty:=o.type) ht hel k1 (Nat.zero_le _) h2 hm hes hbd (by simp only [maxLen];omega)
 have hold:∀e∈blk.es,e.cells.length=blk.sz:=by
  intro e he
  cases hi:ι b with
  | none=>rw [hs.empt b blk hb hi] at he;simp at he
  | some y=>obtain ⟨_,_,_,_,h,_⟩:=hs.heap b blk y hb hi;exact h e he
 obtain ⟨ι',g1,g2,g3⟩:=hs.grow (m:=0) hb htot hmt hm (fun e he=>(hes e he).1) k2 k1.1 k3 (fun i j e d he hd=>by
  obtain ⟨u,hu,hvu⟩:=r7 i j e d he hd
  obtain ⟨v,rfl⟩:=hba e (List.mem_of_getElem? he)
  have hd1:d=.base v:=by
   cases j with
   | zero=>simp [AV.cells] at hd;exact hd.symm
   | succ k=>simp [AV.cells] at hd
  subst hd1
  exact ⟨u,hu,by rw [hvu.base_inv];exact .base _⟩) hold r2 r3 r4
 exact ⟨v',w',ι',_,append_exec (ρ:=ρ) ho r1,.inl rfl,g1,g2,g3⟩
theorem ql_eqnil_own {ρ:Operand→AV} {t el yt:TypeId} {x y:Operand} {b tot off len:Nat} {blk:ABlk} (hx:ρ x=.own b tot off len) (hb:H[b]?=some blk) (htot:blk.es.length=tot) (hne:0<tot) (hy:ρ y=.base (.slice none 0 0)) (ht:P.underlying t=some (.slice el)):QL P H ρ (.binOp .eql t x y yt) (.bool false):=by
 refine QL.of_run fun w0 O ι A w hs hv o ho=>?_
 have h1:=hv x (by simp [Op.operands])
 have h2:=hv y (by simp [Op.operands])
 rw [hx] at h1;rw [hy] at h2
 have h2:=h2.base_inv
 have he:∀a l c,(Op.equal t (.slice a l c) (.slice none 0 0)).run P w=.ok a.isNone w:=fun a l c=>run_equal_slice_nil w t el a l c ht
 generalize hX:A.eval x=X at h1
 cases h1 with
 | staleOwn b tot off len blk' a n c hb' hlt=>rw [hb] at hb';cases hb';omega
 | ownNil b blk' hb' he' hi=>rw [hb] at hb';cases hb';omega
 | own b tot off len blk' z n cap ad hb' ht' hi hn hl hcap ha=>exact ⟨.bool false,ql_eqnil_run ho hX h2 (he (some ad) n cap),.base _⟩
theorem pl_copyI {ρ:Operand→AV} {x y:Operand} {t t2 el:TypeId} {b n ty bytes:Nat} {k:IntKind} {d l:List Int} {av:AV} (hx:ρ x=.own b n 0 n) (hb:H[b]?=some ⟨ty,1,d.map fun v=>.base (.int k v)⟩) (hn:d.length=n) (hy:ρ y=av) (hle:Lend H av (.lst (l.map fun v=>.base (.int k v)))) (hll:l.length≤d.length)
 (ht:P.underlying t=some (.slice el)) (hel:elI P el 1 bytes=true) (hmt:ty<mapTy:=by decide) :
 PL P H ρ (.call { callee:=.builtin .copy,args:=#[x,y],argTypes:=#[t,t2] }) (.int l.length) (H.set b ⟨ty,1,(l++d.drop l.length).map fun v=>.base (.int k v)⟩):=by
 refine PL.of_run fun w0 O ι a w hs hv o ho=>?_
 have h1:=hv x;rw [hx] at h1
 have h2:=hv y;rw [hy] at h2
 have h2:=hle _ _ _ _ _ hs h2
 obtain ⟨i0,zz,e1,e2,e3,e4,e5,e6,_⟩:=elI_inv hel
 have hsz:(P.info? el).map (·.size)=some 1:=by simp [e1,e3]
 have hexec:∀(v':Value) (w':World),(Builtin.copy_ #[t,t2] o.type #[a.eval x,a.eval y]).run P w=.ok v' w'→(execOp a.eval o).run P w=.ok (.value v') w':=fun v' w' hr=>by
  simp only [execOp,ho,resolve,invoke,builtin,Sem.run_bind,Sem.run_pure,Result.andThen_ok,List.map_toArray,List.map_cons,List.map_nil,hr]
 generalize he1:a.eval x=X1 at h1 hexec
 generalize he2:a.eval y=X2 at h2 hexec
 have hbl:b<H.length:=(List.getElem?_eq_some_iff.1 hb).1
 have hsame:l=[]→H.set b ⟨ty,1,(l++d.drop l.length).map fun v=>.base (.int k v)⟩=H:=fun e=>by
  subst e
  simp only [List.length_nil,List.drop_zero,List.nil_append]
  rw [List.getElem?_eq_getElem hbl] at hb
  injection hb with hb
  rw [← hb];exact List.set_getElem_self hbl
 have hnone:l=[]→∀(d' a':Option Addr) (n' c' m' q':Nat),X1=.slice d' n' c'→X2=.slice a' m' q'→m'=0→∃u w' ι' nx,(execOp a.eval o).run P w=.ok nx w'∧(nx=.value u∨(nx=.skip∧u=undef))∧Sit w0 O ι' (H.set b ⟨ty,1,(l++d.drop l.length).map fun v=>.base (.int k v)⟩) w'∧Goes w (OO O ι H) ι H w' (OO O ι' (H.set b ⟨ty,1,(l++d.drop l.length).map fun v=>.base (.int k v)⟩)) ι' (H.set b ⟨ty,1,(l++d.drop l.length).map fun v=>.base (.int k v)⟩)∧VR w' (OO O ι' (H.set b ⟨ty,1,(l++d.drop l.length).map fun v=>.base (.int k v)⟩)) ι' (H.set b ⟨ty,1,(l++d.drop l.length).map fun v=>.base (.int k v)⟩) (.int l.length) u:=by
  intro hl0 d' a' n' c' m' q' ex1 ex2 em
  subst ex1;subst ex2;subst em
  rw [hsame hl0]
  have hr:=run_copy_none (P:=P) w t t2 o.type el d' a' n' c' 0 q' ht hsz (by simp)
  refine ⟨_,w,ι,_,hexec _ _ hr,.inl rfl,hs,Goes.quiet hs (Below.refl _ _),?_⟩
  subst hl0
  exact .base _
 cases h1 with
 | staleOwn b tot off len blk' ad m c hb' hlt=>rw [hb] at hb';cases hb';simp at hlt;omega
 | ownNil b blk' hb' he' hi =>
   have hl0:l=[]:=List.eq_nil_of_length_eq_zero (by omega)
   subst hl0
   cases h2 with
   | lnil=>exact hnone rfl _ _ _ _ _ _ rfl rfl rfl
   | lst es a2 m cap2 sz val hm hcap2 hmax hlen hspot hcc hvv=>exact hnone rfl _ _ _ _ _ _ rfl rfl (by simpa using hm)
 | own b tot off len blk' z m cap ad hb' ht' hi hm hl hcap ha =>
 rw [hb] at hb';cases hb'
 simp only [List.length_map] at ht'
 subst hm
 obtain ⟨rfl,hmx,c,ty',fz,hcz,hc2⟩:=ha (.inr rfl)
 simp only [Nat.zero_mul,Nat.zero_add,Nat.mul_one] at hc2 ⊢
 obtain ⟨hz0,c0,hc0,hcl,hsz',hrow⟩:=hs.heap b _ z hb hi
 simp only [List.length_map,Nat.mul_one] at hcl hrow hsz'
 have hcz':=rowAt_inv hc0 ⟨c,ty',fz,hcz⟩ hmt
 rw [hcz] at hcz';injection hcz' with hcz';injection hcz' with f1 f2 f3;subst f1;subst f2;subst f3
 generalize hA:(l.map fun v=>AV.base (.int k v))=A at h2
 cases h2 with
 | lnil=>exact hnone (by simpa using hA) _ _ _ _ _ _ rfl rfl rfl
 | lst es a2 m2 cap2 sz val hm2 hcap2 hmax hlen hspot hcc hvv =>
 rcases Nat.eq_zero_or_pos l.length with hl0|hlp
 ·exact hnone (List.eq_nil_of_length_eq_zero hl0) _ _ _ _ _ _ rfl rfl (by rw [hm2,← hA,List.length_map];exact hl0)
 subst hA
 simp only [List.length_map] at hm2
 have hat:∀i v,l[i]?=some v→w.cell? (a2.add i)=some (.int k v):=fun i v hi'=>by
  have he:(l.map fun v=>AV.base (.int k v))[i]?=some (.base (.int k v)):=by rw [List.getElem?_map,hi'];rfl
  have hs1:sz=1:=by have:=hlen _ (List.mem_of_getElem? he);simpa [AV.cells] using this.symm
  have hsp:=hspot _ (List.mem_of_getElem? he)
  have h5:=(hcc i 0 _ _ he rfl).2
  have h6:=(hvv i 0 _ _ he rfl).base_inv
  rw [h6,hs1,Nat.mul_one,Nat.add_zero] at h5
  rw [← h5];congr 1
  exact add_eq _ _ hsp
 have hrun:=run_copy_cells (P:=P) w t t2 o.type el z 0 m cap a2 m2 cap2 (l.map (Value.int k)) ht hsz (by rw [List.length_map,hm2];exact (Nat.min_eq_left (by omega)).symm) (fun j v hj=>by
  rw [List.getElem?_map,Option.map_eq_some_iff] at hj
  obtain ⟨u,hu,rfl⟩:=hj
  exact hat j u hu) (fun j hj=>by simp at hj;simp [World.cell?,hcz];omega) (fun j hj=>by simp [World.frozen?,hcz]) (fun v hv=>by obtain ⟨u,_,rfl⟩:=List.mem_map.1 hv;rfl)
 obtain ⟨c',hc',hcs',hj'⟩:=heap_setCells z (l.map (Value.int k)) 0 w c ty' (0,0) hcz (by simp;omega)
 obtain ⟨h9,h10⟩:=hs.set (blk2:=⟨ty',1,(l++d.drop l.length).map fun v=>.base (.int k v)⟩) hb hi rfl rfl (by simp;omega) (below_setCells z z (Nat.le_refl _) _ _ _) (fun k hk=>heap_setCells_other z _ _ _ k hk) (rowAt_cells hcz hmt) (rowAt_cells hc' hmt) hcs' (fun c1 ty1 fz1 h=>by rw [hcz] at h;injection h with h;injection h with h a b;subst h;exact ⟨c',_,_,hc',hcs'⟩)
  (fun e1 he1=>by obtain ⟨v,_,rfl⟩:=List.mem_map.1 he1;rfl)
  (fun i1 j1 e1 d1 hi1 hj1=>by
    simp only at hi1 ⊢
    rw [List.getElem?_map,Option.map_eq_some_iff] at hi1
    obtain ⟨v,hv1,rfl⟩:=hi1
    have hj0:j1=0:=by
     cases j1 with
     | zero=>rfl
     | succ q=>simp [AV.cells] at hj1
    subst hj0
    simp [AV.cells] at hj1;subst hj1
    rw [Nat.mul_one,Nat.add_zero,hj']
    by_cases hlt:i1<l.length
    ·rw [List.getElem?_append_left hlt] at hv1
     refine ⟨.int k v,?_,.base _⟩
     rw [if_pos (by simp;exact hlt)]
     simp [hv1]
    ·rw [List.getElem?_append_right (by omega),List.getElem?_drop,show l.length+(i1-l.length)=i1 by omega] at hv1
     rw [if_neg (by simp;omega)]
     have:=hrow i1 0 (.base (.int k v)) (.base (.int k v)) (by rw [List.getElem?_map,hv1];rfl) rfl
     simpa using this)
 refine ⟨_,_,ι,_,hexec _ _ hrun,.inl rfl,h9,h10,?_⟩
 rw [List.length_map]
 exact .base _
end
end Go.Ab
namespace Go.Ab
open Go Go.RowKit
section
variable {p q:Prop}
theorem goE (h:q) (k:Hid q→p:=by intro hq__;(repeat (first|(with_reducible first|apply zs|apply zN|apply z1|apply z2|apply z3|apply z4|apply z5|apply z6|refine z7 rfl ?_|apply zb|apply zk|apply zr|apply ze|apply y1|apply y2|apply y3|apply y4)|((with_reducible apply zR);(refine ⟨rfl,rfl,?_⟩;simp +decide only [go_sem, *,List.map];rfl))|((with_reducible apply zG);(simp +decide only [go_sem, *];rfl);(simp +decide only [go_sem, *];(repeat simp +decide only [go_sem, *]);rfl))|(refine zp rfl rfl (pl_box (by simp +decide only [go_sem, *];rfl) rfl) ?_)|(refine zp rfl rfl (pl_alloc (by simp only [go_sem, *];rfl) rfl) ?_)|(refine zp rfl rfl (pl_store (by simp +decide only [go_sem, *];rfl) (by simp +decide only [go_sem, *];rfl) (by simp +decide only [go_sem, *];rfl) (by rfl) (by rfl) (by kernel_rfl) (by rfl) (by rfl)) ?_)));exact hq__.out):p:=k ⟨h⟩
theorem goF (h:q) (k:Hid q→p:=by intro hq__;(repeat (first|(with_reducible first|apply zs|apply zN|apply z1|apply z2|apply z3|apply z4|apply z5|apply z6|refine z7 rfl ?_|apply zb|apply zk|apply zr|apply ze|apply y1|apply y2|apply y3|apply y4)|((with_reducible apply zR);(refine ⟨rfl,rfl,?_⟩;simp +decide only [go_sem, *,List.map];rfl))|((with_reducible apply zG);(simp +decide only [go_sem, *];rfl);(simp +decide only [go_sem, *];(repeat simp +decide only [go_sem, *]);rfl))|(refine zp rfl rfl (pl_box (by simp +decide only [go_sem, *];rfl) rfl) ?_)|(refine zp rfl rfl (pl_alloc (by simp only [go_sem, *];rfl) rfl) ?_)|(refine zp rfl rfl (pl_store (by simp +decide only [go_sem, *];rfl) (by simp +decide only [go_sem, *];rfl) (by simp +decide only [go_sem, *];rfl) (by rfl) (by rfl) (by kernel_rfl) (by rfl) (by rfl)) ?_)|(refine zq rfl rfl (qi rfl rfl (by simp only [go_sem, *];rfl) (by first|omega|(simp;omega)) (by kernel_rfl)) ?_)|(refine zq rfl rfl (qo rfl rfl (by simp only [go_sem, *];rfl) rfl (by first|omega|(simp;omega)) (by simp only [go_sem, *]<;>rfl)) ?_)|(refine zq rfl rfl (qw 0 _ rfl rfl (by first|rfl|(simp only [Nat.zero_add]<;>rfl)) (by first|omega|(simp;omega)) (by simp only [go_sem, *]<;>rfl)) ?_)|(refine zq rfl rfl (qb (by simp only [go_sem, *];rfl) (by simp only [go_sem, *];rfl) (by decide) (by kernel_rfl) (by simp +decide only [List.map,go_sem, *]<;>rfl) (by simp +decide only [List.map,go_sem, *]<;>rfl) (by rfl)) ?_)|(refine zq rfl rfl (qn rfl rfl) ?_)|(refine zq rfl rfl (qx rfl rfl) ?_)));exact hq__.out):p:=k ⟨h⟩
end
section
variable {P:Program} {n:Fr} {HS:Nat→List ABlk} {o:LOp} {l:List LOp} {sl:List (Option Nat)} {E:Env} {v:AV} {K:Env→Prop}
theorem gS (hr:GRun P n HS 1 l sl K (putE E o.dst v)) (hg:o.g=none:=by rfl) (hd:dstOk n o.dst=true:=by rfl) (h0:qfun P (HS 0) (ev E) o.op=some v:=by (simp +decide only [go_sem, *]<;>rfl)) (h1:qfun P (HS 1) (ev E) o.op=some v:=by (simp +decide only [go_sem, *]<;>rfl)):GRun P n HS 1 (o::l) (none::sl) K E:=.qf1 hg hd h0 h1 hr
theorem drS {id k:Nat} {ops:Array Oper} {D:List (Option Tmp)} {l1 l2:List LOp} {Q:Exit→ASt→Prop} {s:ASt} (sl:List (Option Nat)) (HS:Nat→List ABlk) (m:Nat) (hm:P.follows .mixedOrders=true) (h1:GRun P n HS m l1 sl (fun E'=>ARun P n false l2 (Q .normal) ⟨E',HS m⟩) s.env)
 (h:RegD ops k D l1 l2:=by (refine ⟨rfl,rfl,by kernel_rfl,by decide,?_,?_⟩;(simp +decide only [go_sem,List.map,List.take];rfl);(simp +decide only [go_sem,List.map,List.drop];rfl)))
 (hg:growOk sl ops k m=true:=by kernel_rfl) (h0:HS 0=s.H:=by rfl):AWp P n (.region id ops true) Q s:=.drawK sl HS m hm h hg h0 h1
end
end Go.Ab
