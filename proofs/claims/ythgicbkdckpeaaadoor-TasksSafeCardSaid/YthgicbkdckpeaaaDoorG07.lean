/- append to nil; make; own memory lent to a function that gives a plain value. -/
import Derived.ProofKit
import Derived.OpenShut
import Derived.Test.YthgicbkdckpeaaaDoorG06
set_option linter.unusedSimpArgs false
set_option linter.unusedVariables false
namespace Go.Ab
open Go Go.RowKit
section
variable {P:Program} {w w':World} {w0:Base} {O:Nat→Prop} {ι:Nat→Option Nat} {H:List ABlk} {u:Value}
theorem Goes.trans {w1 w2 w3:World} {O1 O2 O3:Nat→Prop} {ι1 ι2 ι3:Nat→Option Nat} {H1 H2 H3:List ABlk} (g:Goes w1 O1 ι1 H1 w2 O2 ι2 H2) (k:Goes w2 O2 ι2 H2 w3 O3 ι3 H3):Goes w1 O1 ι1 H1 w3 O3 ι3 H3:=by
 refine ⟨fun p u h hc=>k.obj p u (g.outo p u h hc) (g.obj p u h hc),fun p u h hc=>k.outo p u (g.outo p u h hc) (g.obj p u h hc),fun b blk h=>?_,fun b x blk blk3 c ty fz h1 h3 hl hi h=>?_⟩
 ·obtain ⟨b2,h2,l2,e2⟩:=g.blk b blk h
  obtain ⟨b3,h3,l3,e3⟩:=k.blk b b2 h2
  refine ⟨b3,h3,Nat.le_trans l2 l3,fun e=>?_⟩
  obtain ⟨a1,a2⟩:=e2 (by omega)
  obtain ⟨a3,a4⟩:=e3 (by omega)
  exact ⟨a3.trans a1,a4.trans a2⟩
 ·obtain ⟨b2,h2,l2,e2⟩:=g.blk b blk h1
  obtain ⟨b3,h3',l3,e3⟩:=k.blk b b2 h2
  rw [h3] at h3';injection h3' with h3';subst h3'
  obtain ⟨a1,a2⟩:=e2 (by omega)
  obtain ⟨c2,t2,f2,k1,k2⟩:=g.size b x blk b2 c ty fz h1 h2 (by omega) hi h
  obtain ⟨c3,t3,f3,k3,k4⟩:=k.size b x b2 blk3 c2 t2 f2 h2 h3 (by omega) (a2.trans hi) k1
  exact ⟨c3,t3,f3,k3,k4.trans k2⟩
theorem Sit.nil (hs:Sit w0 O ι H w) (ty sz:Nat):∃ι2,Sit w0 O ι2 (H++[⟨ty,sz,[]⟩]) w∧Goes w (OO O ι H) ι H w (OO O ι2 (H++[⟨ty,sz,[]⟩])) ι2 (H++[⟨ty,sz,[]⟩])∧ι2 H.length=none:=by
 let ι2:Nat→Option Nat:=fun b=>if b=H.length then none else ι b
 have hlt:∀b blk,H[b]?=some blk→(H++[⟨ty,sz,[]⟩])[b]?=some blk∧ι2 b=ι b:=fun b blk hb=>by
  have:b<H.length:=(List.getElem?_eq_some_iff.1 hb).1
  exact ⟨by rw [List.getElem?_append_left this];exact hb,if_neg (by omega)⟩
 have hinv:∀b x,b<(H++[(⟨ty,sz,[]⟩:ABlk)]).length→ι2 b=some x→b<H.length∧ι b=some x:=fun b x hb hx=>by
  simp only [List.length_append,List.length_singleton] at hb
  by_cases e:b=H.length
  ·simp [ι2,e] at hx
  ·exact ⟨by omega,by simpa [ι2,e] using hx⟩
 have hOO:∀x,OO O ι2 (H++[⟨ty,sz,[]⟩]) x→OO O ι H x:=by
  rintro x (h|⟨b,hb,hx⟩)
  ·exact .inl h
  ·obtain ⟨h1,h2⟩:=hinv b x hb hx;exact .inr ⟨b,h1,h2⟩
 have g:Goes w (OO O ι H) ι H w (OO O ι2 (H++[⟨ty,sz,[]⟩])) ι2 (H++[⟨ty,sz,[]⟩]):=
  ⟨fun _ _ _ h=>h,fun _ _ h _ h'=>h (hOO _ h'),fun b blk hb=>⟨blk,(hlt b blk hb).1,Nat.le_refl _,fun _=>⟨rfl,(hlt b blk hb).2⟩⟩,
   fun b x blk blk' c ty fz _ _ _ _ h=>⟨c,ty,fz,h,rfl⟩⟩
 have hinv2:∀b blk x,(H++[(⟨ty,sz,[]⟩:ABlk)])[b]?=some blk→ι2 b=some x→H[b]?=some blk∧ι b=some x:=fun b blk x hb hx=>by
  obtain ⟨h1,h2⟩:=hinv b x (List.getElem?_eq_some_iff.1 hb).1 hx
  rw [List.getElem?_append_left h1] at hb
  exact ⟨hb,h2⟩
 refine ⟨ι2,⟨fun b blk x hb hx=>?_,fun b blk hb hx=>?_,fun b b' x hb hb' hx hx'=>?_,hs.below,hs.old,fun x b hO hb hx=>?_,hs.hist.trans g.grow⟩,g,if_pos rfl⟩
 ·obtain ⟨h1,h2⟩:=hinv2 b blk x hb hx
  obtain ⟨h3,h4⟩:=hs.heap b blk x h1 h2
  exact ⟨h3,h4.mono g rfl⟩
 ·by_cases e:b<H.length
  ·rw [List.getElem?_append_left e] at hb
   exact hs.empt b blk hb (by rw [← (hlt b blk hb).2];exact hx)
  ·rw [List.getElem?_append_right (by omega)] at hb
   cases hd:b-H.length with
   | zero=>rw [hd] at hb;simp at hb;subst hb;rfl
   | succ m=>rw [hd] at hb;simp at hb
 ·obtain ⟨h1,h2⟩:=hinv b x hb hx
  obtain ⟨h3,h4⟩:=hinv b' x hb' hx'
  exact hs.inj b b' x h1 h3 h2 h4
 ·obtain ⟨h1,h2⟩:=hinv b x hb hx
  exact hs.disj x b hO h1 h2
theorem append_none_run {t ty el:TypeId} {size bytes:Nat} (ht:P.underlying t=some (.slice el)) (hel:elI P el size bytes=true) {X:Value} (hX:VR w O ι H (.lst []) X) :
 (Builtin.append_ #[t,t] ty #[.slice none 0 0,X]).run P w=.ok (.slice none 0 0) w:=by
 obtain ⟨i0,z,h1,h2,h3,h4,h5,h6,_⟩:=elI_inv hel
 cases hX with
 | lnil=>simp [Builtin.append_,run_underlying ht,sizeOf,typeInfo,h1,Builtin.lenOf,Builtin.firstCells]
 | lst es a n cap s val hn hcap hmax hlen hspot hc hv =>
   simp at hn;subst hn
   simp [Builtin.append_,run_underlying ht,sizeOf,typeInfo,h1,Builtin.lenOf,Builtin.firstCells,loadCells,loadCellsFrom]
theorem pl_append_nil {ρ:Operand→AV} {s x:Operand} {t el:TypeId} {size bytes:Nat} {es:List AV} (hsv:ρ s=.base (.slice none 0 0)) (hx:ρ x=.lst es)
 (ht:P.underlying t=some (.slice el)) (hel:elI P el size bytes=true) (hes:∀e∈es,e.cells.length=size∧okCells e=true) (hbd:es.length*bytes≤140737488355328) (h63:es.length≤140737488355328) :
 PL P H ρ (.call { callee:=.builtin .append,args:=#[s,x],argTypes:=#[t,t] }) (.own H.length es.length 0 es.length) (H++[⟨el,size,es⟩]):=by
 refine PL.of_run fun w0 O ι a w hs hv o ho=>?_
 have h1:=hv s;rw [hsv] at h1
 have h1:=h1.base_inv
 have h2:=hv x;rw [hx] at h2
 obtain ⟨ι2,s2,g2,hn⟩:=hs.nil el size
 obtain ⟨hpos,hmt⟩:0<size∧el<mapTy:=by obtain ⟨_,_,_,_,_,_,_,h⟩:=elI_inv hel;exact h
 have hgetH:(H++[(⟨el,size,[]⟩:ABlk)])[H.length]?=some ⟨el,size,[]⟩:=by simp
 rcases Nat.eq_zero_or_pos es.length with h0|hm
 ·have:es=[]:=List.eq_nil_of_length_eq_zero h0
  subst this
  have hr:=append_none_run (P:=P) (ty:=o.type) ht hel h2
  rw [← h1] at hr
  exact ⟨.slice none 0 0,w,ι2,_,by rw [append_exec (ρ:=ρ) ho hr,h1],.inl rfl,s2,g2,.ownNil _ ⟨el,size,[]⟩ hgetH rfl hn⟩
 ·have hvn:VR w (OO O ι2 (H++[⟨el,size,[]⟩])) ι2 (H++[⟨el,size,[]⟩]) (.own H.length 0 0 0) (.slice none 0 0):=.ownNil _ ⟨el,size,[]⟩ hgetH rfl hn
  obtain ⟨xs,k1,k2,k3,_⟩:=own_row s2 hgetH rfl hvn hpos hmt
  obtain ⟨v',w',news,r1,r2,r3,r4,r5,r6,r7⟩:=append_core (P:=P) (ty:=o.type) ht hel k1 (Nat.zero_le _) (h2.mono g2) hm hes (by show (0+es.length)*bytes≤_;rw [Nat.zero_add];exact hbd) (by show 0+es.length≤_;simp only [maxLen];omega)
  obtain ⟨ι',g3,g4,g5⟩:=s2.grow (m:=0) hgetH rfl hmt hm (fun e he=>(hes e he).1) k2 k1.1 k3 r7 (by simp) r2 r3 r4
  have hset:(H++[(⟨el,size,[]⟩:ABlk)]).set H.length { (⟨el,size,[]⟩:ABlk) with es:=[]++es }=H++[⟨el,size,es⟩]:=by simp
  simp only at hset
  rw [hset] at g3 g4 g5
  replace g5:VR w' _ ι' _ (.own H.length (0+es.length) 0 (0+es.length)) v':=g5
  rw [Nat.zero_add] at g5
  rw [← h1] at r1
  exact ⟨v',w',ι',_,append_exec (ρ:=ρ) ho r1,.inl rfl,g3,g2.trans g4,g5⟩
theorem pl_make {ρ:Operand→AV} {t el:TypeId} {l c:Operand} {k k':IntKind} {n m:Int} {z:AV} {size bytes:Nat} (hl:ρ l=.base (.int k n)) (hc:ρ c=.base (.int k' m)) (ht:P.underlying t=some (.slice el)) (hel:elI P el size bytes=true)
 (hz:zeroA P el=some z) (hzc:okCells z=true) (h0:0≤n) (hnm:n≤m) (hbd:m*bytes≤140737488355328) (hm:m≤140737488355328) :
 PL P H ρ (.makeSlice t l c) (.own H.length n.toNat 0 n.toNat) (H++[⟨el,size,List.replicate n.toNat z⟩]):=by
 refine PL.of_run fun w0 O ι a w hs hv o ho=>?_
 have h1:=hv l;rw [hl] at h1
 have h1:=h1.base_inv
 have h2:=hv c;rw [hc] at h2
 have h2:=h2.base_inv
 obtain ⟨i0,zv',k1,k2,k3,k4,k5,k6,hmt⟩:=elI_inv hel
 obtain ⟨zv,hzr,rfl⟩:=zero_run (w:=w) hz
 have hzz:zv=zv':=by
  have:(zeroValue el).run P w=.ok zv' w:=by simp [zeroValue,typeInfo,k1,k2]
  rw [hzr] at this;injection this
 subst hzz
 obtain ⟨zs,hzs⟩:∃zs:Array Value,(m.toNat*size=0∧zs=#[])∨(m.toNat*size≠0∧zs=zv.cells):=by
  by_cases h0:m.toNat*size=0
  ·exact ⟨#[],.inl ⟨h0,rfl⟩⟩
  ·exact ⟨zv.cells,.inr ⟨h0,rfl⟩⟩
 obtain ⟨arr,harr⟩:∃arr:Array Value,arr=(Array.range (m.toNat*size)).map (zs[· % zs.size]!):=⟨_,rfl⟩
 have hrun:(Instr.makeSlice t (.int k n) (.int k' m)).run P w=.ok (.slice (some ⟨w.heap.size,0,none⟩) n.toNat m.toNat) (w.alloc (.cells arr el)):=by
  have hw1:IntKind.i64.wrap n=n:=wrap_id (by omega) (by omega)
  have hw2:IntKind.i64.wrap m=m:=wrap_id (by omega) (by omega)
  have hcm:(bytes:Int)*m=m*bytes:=Int.mul_comm _ _
  have hf1:((decide (m<0)||decide ((bytes:Int)*m>2 ^ 48))||decide (n<0)||decide (n>m))=false:=by
   simp only [Bool.or_eq_false_iff,decide_eq_false_iff_not]
   refine ⟨⟨⟨by omega,by rw [hcm];omega⟩,by omega⟩,by omega⟩
  unfold Instr.makeSlice
  simp only [Sem.run_bind,run_underlying ht,Result.andThen_ok,asInt,asIntOf_run,Sem.run_pure,typeInfo,run_program,k1,hw1,hw2,k4]
  simp only [hf1,Bool.false_eq_true,if_false,Sem.run_bind,Sem.run_pure,Result.andThen_ok,run_askRoom,sizeOf,typeInfo,run_program,k1,k3]
  rcases hzs with ⟨e0,rfl⟩|⟨e0,rfl⟩
  ·rw [if_pos e0]
   simp only [Sem.run_pure,Result.andThen_ok,newRow,Sem.run_bind,run_newObj,World.alloc_eq,harr]
  ·rw [if_neg e0]
   simp only [Sem.run_bind,hzr,Sem.run_pure,Result.andThen_ok,newRow,run_newObj,World.alloc_eq,harr]
 obtain ⟨c1,c2,_⟩:=(VR.cv w (OO O ι H) ι H zv).cells hzc
 have hcell:∀(i j:Nat) (e d:AV),(List.replicate n.toNat (cv zv))[i]?=some e→e.cells[j]?=some d→∃u,arr[i*size+j]?=some u∧VR w (OO O ι H) ι H d u:=by
  intro i j e d he hd
  rw [List.getElem?_replicate] at he
  split at he
  ·rename_i hi
   injection he with he;subst he
   have hj:j<size:=by rw [← k5,c1];exact (List.getElem?_eq_some_iff.1 hd).1
   have hq:i*size+j<m.toNat*size:=mul_lt_of (by omega) hj
   have hjz:j<zv.cells.size:=by omega
   rcases hzs with ⟨e0,_⟩|⟨e0,rfl⟩
   ·omega
   ·refine ⟨zv.cells[j],?_,c2 j d _ hd (Array.getElem?_eq_getElem hjz)⟩
    subst harr
    rw [Array.getElem?_map,Array.getElem?_eq_getElem (by simpa using hq)]
    obtain ⟨_,e2⟩:=div_of (i:=i) hj
    simp only [Option.map_some,Array.getElem_range,k5,e2]
    rw [getElem!_pos zv.cells j hjz]
  ·cases he
 have hlen:∀e∈List.replicate n.toNat (cv zv),e.cells.length=size:=by
  intro e he
  rw [(List.mem_replicate.1 he).2,← c1];exact k5
 obtain ⟨h4,h5⟩:=hs.new ⟨el,size,List.replicate n.toNat (cv zv)⟩ arr hmt w (Below.refl _ _) rfl (by simp only [List.length_replicate,harr,Array.size_map,Array.size_range];exact Nat.mul_le_mul_right _ (by omega)) hlen hcell
 refine ⟨.slice (some ⟨w.heap.size,0,none⟩) n.toNat m.toNat,_,_,.value _,?_,.inl rfl,h4,h5,?_⟩
 ·simp only [execOp,ho,h1,h2,hrun,Sem.run_bind,Result.andThen_ok,Sem.run_pure]
 ·refine .own _ _ _ _ ⟨el,size,List.replicate n.toNat (cv zv)⟩ w.heap.size _ _ _ (by simp) (by simp) (upd_same _ _ _) rfl (by omega) (by omega) fun _=>⟨by rw [Nat.zero_mul],by simp only [maxLen];omega,arr,el,(0,0),heap_alloc_new w _,by simp [harr]⟩
def Lend (H:List ABlk) (a b:AV):Prop:=∀(w0:Base) (w:World) (O:Nat→Prop) (ι:Nat→Option Nat) (u:Value),Sit w0 O ι H w→VR w (OO O ι H) ι H a u→VR w (fun _=>False) noB [] b u
theorem Lend.pu {a:AV} (h:Pu a):Lend H a a:=fun w0 w O ι u hs hu=>(h _ _ _ _ _ hu).lessO fun _ hx=>hx.elim
theorem Lend.own {b tot off len:Nat} {blk:ABlk} {ds:List AV} (h1:H[b]?=some blk) (ht:blk.es.length=tot) (hl:off+len≤tot) (hdl:ds.length=len)
 (hd:∀(i:Nat) (e d:AV),i<len→blk.es[off+i]?=some e→ds[i]?=some d→e.cells.length=d.cells.length∧∀(j:Nat) (c c':AV),e.cells[j]?=some c→d.cells[j]?=some c'→Lend H c c') :
 Lend H (.own b tot off len) (.lst ds):=fun w0 w O ι u hs hu=>by
 cases hu with
 | staleOwn b tot off len blk' a n c h1' h2=>rw [h1] at h1';cases h1';omega
 | ownNil b blk' h1' he hi =>
   have:ds=[]:=List.eq_nil_of_length_eq_zero hdl
   subst this;exact .lnil
 | own b tot off len blk' x n cap a h1' ht' hi hn hl' hcap ha =>
   rw [h1] at h1';cases h1'
   obtain ⟨hx0,c0,hc,hcs,hsz,hel⟩:=hs.heap b blk x h1 hi
   rcases Nat.eq_zero_or_pos len with h0|hpos
   ·have:ds=[]:=List.eq_nil_of_length_eq_zero (by omega)
    subst this
    exact .lst [] a n cap 0 (fun _ _=>undef) (by simp;omega) (by omega) (by have:0≤maxLen:=Nat.zero_le _;omega) (by simp) (by simp) (by simp) (by simp)
   ·obtain ⟨rfl,hmx,c1,ty,fz,hc1,hc2⟩:=ha (.inl (by omega))
    have hat:∀(i j:Nat) (d c:AV),ds[i]?=some d→d.cells[j]?=some c→∃u,w.cell? ⟨x,off*blk.sz+i*blk.sz+j,none⟩=some u∧VR w (fun _=>False) noB [] c u:=by
     intro i j d c hdi hcj
     have hil:i<len:=by rw [← hdl];exact (List.getElem?_eq_some_iff.1 hdi).1
     have hei:blk.es[off+i]?=some (blk.es[off+i]'(by omega)):=List.getElem?_eq_getElem (by omega)
     obtain ⟨h3,h4⟩:=hd i _ d hil hei hdi
     have hcj':j<(blk.es[off+i]'(by omega)).cells.length:=by rw [h3];exact (List.getElem?_eq_some_iff.1 hcj).1
     obtain ⟨u,hu,hv⟩:=hel (off+i) j _ _ hei (List.getElem?_eq_getElem hcj')
     obtain ⟨ty3,fz3,hc⟩:=rowAt_el hc ⟨c1,ty,fz,hc1⟩
     refine ⟨u,?_,h4 j _ c (List.getElem?_eq_getElem hcj') hcj w0 w O ι u hs hv⟩
     rw [← Nat.add_mul]
     simpa [World.cell?,hc] using hu
    have hsize:∀d∈ds,d.cells.length=blk.sz:=by
     intro d hdm
     obtain ⟨i,hi',hdi⟩:=List.mem_iff_getElem.1 hdm
     have hdi':ds[i]?=some d:=by rw [List.getElem?_eq_getElem hi',hdi]
     have hei:blk.es[off+i]?=some (blk.es[off+i]'(by omega)):=List.getElem?_eq_getElem (by omega)
     obtain ⟨h3,_⟩:=hd i _ d (by omega) hei hdi'
     rw [← h3]
     exact hsz _ (List.getElem_mem _)
    exact .lst ds _ n cap blk.sz (fun i j=>(w.cell? ⟨x,off*blk.sz+i*blk.sz+j,none⟩).getD undef) (by omega) (by omega) (by omega) hsize (fun _ _=>rfl)
     (fun i j d c hdi hcj=>by obtain ⟨u,hu,_⟩:=hat i j d c hdi hcj;exact ⟨fun h=>h,by simp only [hu,Option.getD_some]⟩)
     (fun i j d c hdi hcj=>by obtain ⟨u,hu,hv⟩:=hat i j d c hdi hcj;simpa only [hu,Option.getD_some] using hv)
theorem Lend.ptr {b tot i off:Nat} {blk:ABlk} {e d:AV} (h1:H[b]?=some blk) (ht:blk.es.length=tot) (he:blk.es[i]?=some e)
 (hl:e.cells.length=d.cells.length) (h:∀(j:Nat) (c c':AV),e.cells[j]?=some c→d.cells[j]?=some c'→Lend H c c'):Lend H (.ptr b tot i off) (.iptr d off):=fun w0 w O ι u hs hu=>by
 obtain ⟨x,hi,rfl,hel⟩:=hu.ptr_inv hs h1 ht he
 have hat:∀(j:Nat) (c:AV),d.cells[j]?=some c→∃u,w.cell? ⟨x,i*blk.sz+j,none⟩=some u∧VR w (fun _=>False) noB [] c u:=by
  intro j c hj
  have hj':j<e.cells.length:=by rw [hl];exact (List.getElem?_eq_some_iff.1 hj).1
  obtain ⟨u,hu,hv⟩:=hel j _ (List.getElem?_eq_getElem hj')
  exact ⟨u,hu,h j _ c (List.getElem?_eq_getElem hj') hj w0 w O ι u hs hv⟩
 refine .iptr d off ⟨x,i*blk.sz+off,none⟩ (fun j=>(w.cell? ⟨x,i*blk.sz+j,none⟩).getD undef) rfl (by simp) (fun j c hj=>?_) fun j c hj=>?_
 ·obtain ⟨u,hu,_⟩:=hat j c hj
  exact ⟨fun h=>h,by simp only [Nat.add_sub_cancel];rw [hu];rfl⟩
 ·obtain ⟨u,hu,hv⟩:=hat j c hj
  simpa only [hu,Option.getD_some] using hv
def Sc (d:AV):Prop:=∀(w w':World) (O O':Nat→Prop) (ι:Nat→Option Nat) (H:List ABlk) (u:Value),VR w O noB [] d u→VR w' O' ι H d u
theorem Sc.base (v:Value):Sc (.base v):=fun _ _ _ _ _ _ _ h=>by cases h;exact .base _
theorem ql_callL {ρ:Operand→AV} {c:Call} {fx:Operand} {f:FuncId} {caps args:List AV} {d:AV} (hc:c.callee=.value fx)
 (hf:ρ fx=.clo f caps) (hl:(c.args.toList.map ρ++caps).length=args.length) (hp:∀(j:Nat) (a b:AV),(c.args.toList.map ρ++caps)[j]?=some a→args[j]?=some b→Lend H a b) (hd:Sc d) {m:List (Nat × Obj)} (h:FnM P m f args d) (hm:MemIn m ρ:=by exact .inl rfl):QL P H ρ (.call c) d:=by
 intro o ho w0 O ι a w hs hv K Q hK
 rw [ho] at hv
 obtain ⟨⟨fn,h1,h2,h3⟩,h4⟩:=h
 have hmem:∀y,y=fx∨y∈c.args→y∈(Op.call c).operands:=by
  intro y hy
  simp only [Op.operands,Call.operands,hc,Array.mem_append,List.mem_toArray,List.mem_singleton]
  exact hy
 have h5:=hv fx (.inl (hmem _ (.inl rfl)))
 rw [hf] at h5
 generalize hX:a.eval fx=X at h5
 cases h5 with
 | clo f caps arr hlen hcap =>
 have hargs:∀(j:Nat) (x:AV) (u:Value),(c.args.toList.map ρ++caps)[j]?=some x→(c.args.map a.eval++arr)[j]?=some u→VR w (OO O ι H) ι H x u:=by
  intro j x u hx hu
  rw [List.getElem?_append] at hx
  rw [Array.getElem?_append] at hu
  simp only [List.length_map,Array.length_toList,Array.size_map] at hx hu
  split at hx
  ·rename_i hj
   rw [if_pos hj] at hu
   simp only [List.getElem?_map,Array.getElem?_map,Array.getElem?_toList,Option.map_eq_some_iff] at hx hu
   obtain ⟨y,hy,rfl⟩:=hx
   obtain ⟨z,hz,rfl⟩:=hu
   rw [hy] at hz;cases hz
   exact hv y (.inl (hmem _ (.inr (Array.mem_of_getElem? hy))))
  ·rename_i hj
   rw [if_neg hj] at hu
   exact hcap _ _ _ hx hu
 have hrun:(execOp a.eval o).run P w=.ok (.enter f (c.args.map a.eval++arr)) w:=by
  unfold execOp
  rw [ho]
  simp only [resolve,hc,Deferred.ofValue,hX,Sem.run_bind,Sem.run_pure,Result.andThen_ok,invoke,Array.empty_append,callFunc_run h1 h2 h3]
 unfold Oper.wp
 rw [hrun,Oper.upon_enter]
 have hsl:(c.args.map a.eval++arr).size=(c.args.toList.map ρ++caps).length:=by simp [hlen]
 refine (h4 w (fun _=>False) (c.args.map a.eval++arr) (fun p hp=>⟨id,(hm.get (hv _ (.inr rfl)) p hp).2⟩) (fun _ h=>h.elim) (hsl.trans hl) fun j x u hx hu=>?_).mono ?_
 ·have hj:j<(c.args.toList.map ρ++caps).length:=by rw [hl];exact (List.getElem?_eq_some_iff.1 hx).1
  have hy:=List.getElem?_eq_getElem hj
  exact hp j _ x hy hx w0 w O ι u hs (hargs j _ u hy hu)
 ·rintro e w' ⟨v,rfl,hv',hb'⟩
  exact hK v w' (hd _ _ _ _ _ _ _ hv') hb'
end
end Go.Ab
namespace Go.Ab
open Go Go.RowKit Go.ChangeShapes Go.WideShapes Go.ChangeAt
def mkEl (agg:Bool) (part:List AV):AV:=if agg then .agg part else part.getD 0 .bad
def Sh (P:Program):Nat→TypeId→List AV→Prop
 | 0,_,_=>False
 | f+1,t,as=>match P.underlying t with
   | some .bool=>∃b,as=[.bool b]
   | some (.int k)=>∃n,as=[.base (.int k n)]∧k.min≤n∧n≤k.max
   | some .string=>∃s:ByteArray,as=[.base (.string s)]∧s.size≤maxLen
   | some (.slice e)=>∃(parts:List (List AV)),as=[.lst (parts.map (mkEl (aggTy P e==some true)))]∧parts.length≤maxLen∧∀p∈parts,p.length=P.cellsOf e∧Sh P f e p
   | some (.struct fs)=>∃parts:List (List AV),parts.length=fs.size∧as=parts.flatten∧∀(i:Nat) (fd:Field) (p:List AV),fs[i]?=some fd→parts[i]?=some p→p.length=P.cellsOf fd.type∧Sh P f fd.type p
   | some (.array n e)=>∃parts:List (List AV),parts.length=n∧as=parts.flatten∧∀p∈parts,p.length=P.cellsOf e∧Sh P f e p
   | _=>False
def tiles (P:Program):List Field→Nat→Nat→Bool
 | [],off,tot=>off==tot
 | f::fs,off,tot=>f.offset==off&&tiles P fs (off+P.cellsOf f.type) tot
def plainTys (P:Program) (S:List TypeId):Bool:=
 S.all fun t=>match P.underlying t with
  | some .bool|some (.int _)|some .string=>P.cellsOf t==1
  | some (.slice e)=>S.contains e&&Nat.blt 0 (P.cellsOf e)&&P.cellsOf t==1
  | some (.struct fs)=>fs.toList.all (fun f=>S.contains f.type)&&tiles P fs.toList 0 (P.cellsOf t)
  | some (.array n e)=>S.contains e&&n*P.cellsOf e==P.cellsOf t
  | _=>false
abbrev noO:Nat→Prop:=fun _=>False
section
variable {H:Type} {enc:TypeId × Value→H} {P:Program} {w:World} {spare:Nat→Bool} {held:Bool}
def VRs (w:World) (as:List AV) (cs:List Value):Prop:=as.length=cs.length∧∀(j:Nat) (a:AV) (u:Value),as[j]?=some a→cs[j]?=some u→VR w noO noB [] a u
theorem VRs.append {as bs:List AV} {cs ds:List Value} (h:VRs w as cs) (k:VRs w bs ds):VRs w (as++bs) (cs++ds):=by
 refine ⟨by simp [h.1,k.1],fun j a u ha hu=>?_⟩
 rw [List.getElem?_append] at ha hu
 rw [h.1] at ha
 split at ha
 ·rename_i hj;rw [if_pos hj] at hu;exact h.2 j a u ha hu
 ·rename_i hj;rw [if_neg hj] at hu;exact k.2 _ a u ha hu
theorem mkEl_cells {agg:Bool} {p:List AV} (h:agg=true∨(∃c,p=[c]∧isAggA c=false)):(mkEl agg p).cells=p:=by
 rcases h with rfl|⟨c,rfl,hc⟩
 ·rfl
 ·cases agg with
  | true=>rfl
  | false=>show c.cells=[c];cases c<;>first|rfl|(simp [isAggA] at hc)
theorem Sh.one {f:Nat} {t:TypeId} {p:List AV} (h:Sh P f t p) (ha:aggTy P t≠some true):∃c,p=[c]∧isAggA c=false:=by
 cases f with
 | zero=>exact h.elim
 | succ f =>
   unfold Sh at h
   unfold aggTy at ha
   split at h
   ·obtain ⟨b,rfl⟩:=h;exact ⟨_,rfl,rfl⟩
   ·obtain ⟨n,rfl,_⟩:=h;exact ⟨_,rfl,rfl⟩
   ·obtain ⟨s,rfl,_⟩:=h;exact ⟨_,rfl,rfl⟩
   ·obtain ⟨ps,rfl,_⟩:=h;exact ⟨_,rfl,rfl⟩
   ·rename_i hu;simp [hu] at ha
   ·rename_i hu;simp [hu] at ha
   ·exact h.elim
theorem Sh.mk_cells {f:Nat} {t:TypeId} {p:List AV} (h:Sh P f t p):(mkEl (aggTy P t==some true) p).cells=p:=by
 by_cases ha:aggTy P t=some true
 ·exact mkEl_cells (.inl (by simp [ha]))
 ·exact mkEl_cells (.inr (h.one ha))
theorem tiles_build {f:Nat}:∀(fs:List Field) (off tot:Nat) (cs:List Value),tiles P fs off tot=true→cs.length=tot→off≤tot →
 (∀fd∈fs,∃as,VRs w as ((cs.drop fd.offset).take (P.cellsOf fd.type))∧as.length=P.cellsOf fd.type∧Sh P f fd.type as) →
 ∃parts:List (List AV),parts.length=fs.length∧VRs w parts.flatten (cs.drop off)∧∀(i:Nat) (fd:Field) (p:List AV),fs[i]?=some fd→parts[i]?=some p→p.length=P.cellsOf fd.type∧Sh P f fd.type p
 | [],off,tot,cs,ht,hl,ho,h=>by
   simp only [tiles,beq_iff_eq] at ht
   subst ht
   exact ⟨[],rfl,by rw [List.drop_eq_nil_of_le (by omega)];exact ⟨rfl,by simp⟩,by simp⟩
 | fd::fs,off,tot,cs,ht,hl,ho,h=>by
   simp only [tiles,Bool.and_eq_true,beq_iff_eq] at ht
   obtain ⟨ho1,ht1⟩:=ht
   obtain ⟨as,h1,h2,h3⟩:=h fd (by simp)
   subst ho1
   have hlen:=h1.1
   rw [h2,List.length_take,List.length_drop] at hlen
   obtain ⟨parts,k1,k2,k3⟩:=tiles_build fs (fd.offset+P.cellsOf fd.type) tot cs ht1 hl (by omega) (fun fd' h'=>h fd' (by simp [h']))
   refine ⟨as::parts,by simp [k1],?_,fun i fd' p hi hp=>?_⟩
   ·have:=h1.append k2
    rw [← List.drop_drop] at this
    rw [List.take_append_drop] at this
    simpa using this
   ·cases i with
    | zero=>simp at hi hp;subst hi;subst hp;exact ⟨h2,h3⟩
    | succ i=>exact k3 i fd' p (by simpa using hi) (by simpa using hp)
theorem array_build {f n:Nat} {e:TypeId} {s:Nat}:∀(m k:Nat) (cs:List Value),cs.length=n*s→k+m=n →
 (∀i,i<n→∃as,VRs w as ((cs.drop (i*s)).take s)∧as.length=s∧Sh P f e as) →
 ∃parts:List (List AV),parts.length=m∧VRs w parts.flatten (cs.drop (k*s))∧∀p∈parts,p.length=s∧Sh P f e p
 | 0,k,cs,hl,hk,h=>⟨[],rfl,by rw [List.drop_eq_nil_of_le (by rw [hl];exact Nat.mul_le_mul_right _ (by omega))];exact ⟨rfl,by simp⟩,by simp⟩
 | m+1,k,cs,hl,hk,h=>by
   obtain ⟨as,h1,h2,h3⟩:=h k (by omega)
   obtain ⟨parts,k1,k2,k3⟩:=array_build m (k+1) cs hl (by omega) h
   refine ⟨as::parts,by simp [k1],?_,fun p hp=>?_⟩
   ·have:=h1.append k2
    rw [Nat.add_mul,Nat.one_mul,← List.drop_drop,List.take_append_drop] at this
    simpa using this
   ·rcases List.mem_cons.1 hp with rfl|hp
    ·exact ⟨h2,h3⟩
    ·exact k3 p hp
theorem trod_sh {S:List TypeId} (hS:plainTys P S=true):∀(fuel:Nat) (t:TypeId) (cs:List Value) (x:DataW H × List MemPlace),t∈S→DataW.trod enc P w 0 spare held fuel t cs=some x →
 ∃as,VRs w as cs∧as.length=P.cellsOf t∧Sh P fuel t as:=by
 intro fuel
 induction fuel with
 | zero=>intro t cs x _ h;simp [DataW.trod] at h
 | succ fuel ih =>
   intro t cs x ht h
   have hSt:=List.all_eq_true.1 hS t ht
   have hone:∀(a:AV) (u:Value),VR w noO noB [] a u→VRs w [a] [u]:=fun a u hv=>⟨rfl,fun j b v hb hv'=>by
    cases j with
    | zero=>simp at hb hv';subst hb;subst hv';exact hv
    | succ j=>simp at hb⟩
   split at hSt
   ·rename_i hu
    obtain ⟨b,rfl,_⟩:=DataW.trod_bool hu h
    exact ⟨[.bool b],hone _ _ (.base _),(beq_iff_eq.1 hSt).symm,by unfold Sh;rw [hu];exact ⟨b,rfl⟩⟩
   ·rename_i k hu
    obtain ⟨n,rfl,_,hwf⟩:=DataW.trod_int hu h
    refine ⟨[.base (.int k n)],hone _ _ (.base _),(beq_iff_eq.1 hSt).symm,by unfold Sh;rw [hu];simp only [Lit.wf,Bool.and_eq_true,decide_eq_true_eq] at hwf;exact ⟨n,rfl,hwf.1,hwf.2⟩⟩
   ·rename_i hu
    obtain ⟨s,rfl,_,hs⟩:=DataW.trod_string hu h
    exact ⟨[.base (.string s)],hone _ _ (.base _),(beq_iff_eq.1 hSt).symm,by unfold Sh;rw [hu];exact ⟨s,rfl,hs⟩⟩
   ·rename_i e hu
    simp only [Bool.and_eq_true,Nat.blt_eq,beq_iff_eq] at hSt
    obtain ⟨⟨heS,hpos⟩,hct⟩:=hSt
    have heS:e∈S:=by simpa using heS
    rcases DataW.trod_slice hu h with ⟨rfl,_⟩|⟨a,len,cap,elems,rest,n,hn,rfl,_,hb,hl,hm,hlen,hel,_,_⟩
    ·exact ⟨[.lst []],hone _ _ .lnil,hct.symm,by unfold Sh;rw [hu];exact ⟨[],rfl,by simp,by simp⟩⟩
    ·have hn':n=fuel:=by omega
     subst hn'
     have hex:∀i,i<len→∃(cs':List Value) (as:List AV),w.cells? 0 (a.add (i*P.cellsOf e)) (P.cellsOf e)=some cs'∧VRs w as cs'∧as.length=P.cellsOf e∧Sh P n e as:=by
      intro i hi
      have h1:=hel i hi
      have h2:elems[i]?=some elems[i]:=List.getElem?_eq_getElem (by omega)
      rw [h2,Option.bind_eq_some_iff] at h1
      obtain ⟨cs',h3,h4⟩:=h1
      obtain ⟨as,h5,h6,h7⟩:=ih e cs' _ heS h4
      exact ⟨cs',as,h3,h5,h6,h7⟩
     let g:Nat→List AV:=fun i=>if hi:i<len then Classical.choose (Classical.choose_spec (hex i hi)) else []
     have hg:∀i,i<len→∃cs',w.cells? 0 (a.add (i*P.cellsOf e)) (P.cellsOf e)=some cs'∧VRs w (g i) cs'∧(g i).length=P.cellsOf e∧Sh P n e (g i):=by
      intro i hi
      simp only [g,dif_pos hi]
      exact ⟨_,Classical.choose_spec (Classical.choose_spec (hex i hi))⟩
     have hsp:0<len→a.spot=none:=by
      intro h0
      obtain ⟨cs',h3,_⟩:=hg 0 h0
      obtain ⟨_,hl',hc⟩:=World.cells?_some h3
      have:=hc 0 hpos
      have hex:∃u,w.cell? a=some u:=⟨cs'[0],by
       rw [Nat.zero_mul] at this
       have e1:(a.add 0).add 0=a:=by simp [Addr.add]
       rw [e1] at this
       rw [this];exact List.getElem?_eq_getElem (by omega)⟩
      obtain ⟨u,hu⟩:=hex
      unfold World.cell? at hu
      split at hu
      ·split at hu
       ·cases hu
       ·rename_i hs;simpa using hs
      ·cases hu
     refine ⟨[.lst (((List.range len).map g).map (mkEl (aggTy P e==some true)))],hone _ _ ?_,hct.symm,?_⟩
     ·have hgi:∀i x,(((List.range len).map g).map (mkEl (aggTy P e==some true)))[i]?=some x→i<len∧x=mkEl (aggTy P e==some true) (g i):=by
       intro i x hx
       simp only [List.getElem?_map,Option.map_eq_some_iff] at hx
       obtain ⟨p,⟨q,hq,rfl⟩,rfl⟩:=hx
       have hi:i<len:=by
        rcases Nat.lt_or_ge i len with h'|h'
        ·exact h'
        ·rw [List.getElem?_eq_none (by simpa using h')] at hq;cases hq
       rw [List.getElem?_range hi] at hq
       injection hq with hq;subst hq
       exact ⟨hi,rfl⟩
      have hat:∀(i j:Nat) (x c:AV),(((List.range len).map g).map (mkEl (aggTy P e==some true)))[i]?=some x→x.cells[j]?=some c→∃u,w.cell? ⟨a.block,a.off+i*P.cellsOf e+j,none⟩=some u∧VR w noO noB [] c u:=by
       intro i j x c hx hc
       obtain ⟨hi,rfl⟩:=hgi i x hx
       obtain ⟨cs',h3,h4,h5,h6⟩:=hg i hi
       rw [h6.mk_cells] at hc
       obtain ⟨_,hl',hcell⟩:=World.cells?_some h3
       have hj:j<P.cellsOf e:=by rw [← h5];exact (List.getElem?_eq_some_iff.1 hc).1
       have h7:=hcell j hj
       have hsp':=hsp (by omega)
       rw [add_eq a _ hsp',add_eq _ _ rfl,List.getElem?_eq_getElem (by omega)] at h7
       exact ⟨_,h7,h4.2 j c _ hc (List.getElem?_eq_getElem (by omega))⟩
      refine .lst _ a len cap (P.cellsOf e) (fun i j=>(w.cell? ⟨a.block,a.off+i*P.cellsOf e+j,none⟩).getD undef) (by simp) hl (by omega) (fun x hx=>?_) (fun x hx=>?_) (fun i j x c hx hc=>?_) fun i j x c hx hc=>?_
      ·obtain ⟨i,hi,rfl⟩:=List.mem_iff_getElem.1 hx
       obtain ⟨h8,h9⟩:=hgi i _ (List.getElem?_eq_getElem hi)
       obtain ⟨_,_,_,h5,h6⟩:=hg i h8
       rw [h9,h6.mk_cells,h5]
      ·obtain ⟨i,hi,rfl⟩:=List.mem_iff_getElem.1 hx
       obtain ⟨h8,_⟩:=hgi i _ (List.getElem?_eq_getElem hi)
       exact hsp (by omega)
      ·obtain ⟨u,hu,_⟩:=hat i j x c hx hc
       exact ⟨fun h=>h,by rw [hu];rfl⟩
      ·obtain ⟨u,hu,hv⟩:=hat i j x c hx hc
       simpa only [hu,Option.getD_some] using hv
     ·unfold Sh
      rw [hu]
      refine ⟨(List.range len).map g,rfl,by simp;omega,fun p hp=>?_⟩
      obtain ⟨i,hi,rfl⟩:=List.mem_map.1 hp
      obtain ⟨_,_,_,h5,h6⟩:=hg i (by simpa using hi)
      exact ⟨h5,h6⟩
   ·rename_i fs hu
    simp only [Bool.and_eq_true] at hSt
    obtain ⟨hfS,htl⟩:=hSt
    obtain ⟨xs,n,hn,_,hl,hxl,hf⟩:=DataW.trod_struct hu h
    have hn':n=fuel:=by omega
    subst hn'
    obtain ⟨parts,k1,k2,k3⟩:=tiles_build (f:=n) fs.toList 0 (P.cellsOf t) cs htl hl (Nat.zero_le _) (fun fd hfd=>by
     obtain ⟨i,hi,rfl⟩:=List.mem_iff_getElem.1 hfd
     have hfs:fs[i]?=some fs.toList[i]:=by rw [← Array.getElem?_toList];exact List.getElem?_eq_getElem hi
     have h1:=hf i _ hfs
     rw [List.getElem?_eq_getElem (show i<xs.length by rw [hxl];simpa using hi)] at h1
     have hmem:fs.toList[i].type∈S:=by
      have:=List.all_eq_true.1 hfS _ (List.getElem_mem hi)
      simpa using this
     exact ih _ _ _ hmem h1)
    rw [List.drop_zero] at k2
    refine ⟨parts.flatten,k2,by rw [k2.1,hl],?_⟩
    unfold Sh
    rw [hu]
    exact ⟨parts,by simpa using k1,rfl,fun i fd p hi hp=>k3 i fd p (by rw [Array.getElem?_toList];exact hi) hp⟩
   ·rename_i n e hu
    simp only [Bool.and_eq_true,beq_iff_eq] at hSt
    obtain ⟨heS,hct⟩:=hSt
    have heS:e∈S:=by simpa using heS
    obtain ⟨xs,m,hm,_,hl,hxl,hf⟩:=DataW.trod_array hu h
    have hm':m=fuel:=by omega
    subst hm'
    obtain ⟨parts,k1,k2,k3⟩:=array_build (f:=m) (n:=n) (e:=e) (s:=P.cellsOf e) n 0 cs (by rw [hl,hct]) (by omega) (fun i hi=>by
     have h1:=hf i hi
     rw [List.getElem?_eq_getElem (show i<xs.length by omega)] at h1
     exact ih _ _ _ heS h1)
    rw [Nat.zero_mul,List.drop_zero] at k2
    refine ⟨parts.flatten,k2,by rw [k2.1,hl],?_⟩
    unfold Sh
    rw [hu]
    exact ⟨parts,k1,rfl,k3⟩
   ·cases hSt
def ShV (P:Program) (t:TypeId) (a:AV):Prop:=∃fuel p,Sh P fuel t p∧p.length=P.cellsOf t∧a=mkEl (aggTy P t==some true) p
theorem arg_sh {S:List TypeId} (hS:plainTys P S=true) {t:TypeId} {v:Value} {base:Nat} {d:DataW H} {ps:List MemPlace} (ht:t∈S) (hok:Value.okWide P w .any base t v) (h:DataW.Trod enc P w 0 spare held t v d ps) :
 ∃a,VR w noO noB [] a v∧ShV P t a:=by
 obtain ⟨fuel,h⟩:=h
 obtain ⟨as,h1,h2,h3⟩:=trod_sh hS fuel t _ _ ht h
 refine ⟨mkEl (aggTy P t==some true) as,?_,fuel,as,h3,h2,rfl⟩
 unfold Value.okWide at hok
 by_cases ha:aggTy P t=some true
 ·have hv:∃cs,v=.agg cs:=by
   unfold aggTy at ha
   split at ha
   ·rename_i hu;rw [hu] at hok;obtain ⟨cs,rfl,_⟩:=hok;exact ⟨cs,rfl⟩
   ·rename_i hu;rw [hu] at hok;obtain ⟨cs,rfl,_⟩:=hok;exact ⟨cs,rfl⟩
   ·cases ha
   ·cases ha
  obtain ⟨cs,rfl⟩:=hv
  simp only [Value.cells] at h1
  rw [show mkEl (aggTy P t==some true) as=.agg as by simp [mkEl,ha]]
  exact .agg as cs (by have:=h1.1;simp at this;exact this.symm) fun j c u hc hu=>h1.2 j c u hc (by simpa using hu)
 ·obtain ⟨c,rfl,hc⟩:=h3.one ha
  have hlen:=h1.1
  have hvc:v.cells=#[v]:=by
   have hSt:=List.all_eq_true.1 hS t ht
   split at hSt
   ·rename_i hu;obtain ⟨x,rfl,_⟩:=open_bool hu hok ⟨fuel,h⟩;rfl
   ·rename_i k hu;obtain ⟨x,rfl,_⟩:=open_int hu hok ⟨fuel,h⟩;rfl
   ·rename_i hu;obtain ⟨x,rfl,_⟩:=ChangeMaps.open_string hu hok ⟨fuel,h⟩;rfl
   ·rename_i e hu;obtain ⟨a0,len,cap,rfl⟩:=okWide_slice hu hok;rfl
   ·rename_i fs hu;exact absurd (by simp [aggTy,hu]) ha
   ·rename_i n e hu;exact absurd (by simp [aggTy,hu]) ha
   ·cases hSt
  rw [show mkEl (aggTy P t==some true) [c]=c by simp [mkEl,ha]]
  exact h1.2 0 c v rfl (by rw [hvc];rfl)
theorem args_sh {S:List TypeId} (hS:plainTys P S=true) {base:Nat}:∀(ts:List TypeId) (vs:List Value) (ds:List (DataW H)) (ps:List MemPlace),(∀t∈ts,t∈S)→(∀(j:Nat) t v,ts[j]?=some t→vs[j]?=some v→Value.okWide P w .any base t v) →
 DataW.TrodAll enc P w 0 spare held ts vs ds ps→vs.length=ts.length∧∃as:List AV,VRs w as vs∧∀(j:Nat) t a,ts[j]?=some t→as[j]?=some a→ShV P t a
 | [],[],[],ps,_,_,_=>⟨rfl,[],⟨rfl,by simp⟩,by simp⟩
 | t::ts,v::vs,d::ds,ps,hts,hok,h=>by
   obtain ⟨p,q,h1,h2,_⟩:=h
   obtain ⟨hl,as,h3,h4⟩:=args_sh hS ts vs ds q (fun t ht=>hts t (by simp [ht])) (fun j t v ht hv=>hok (j+1) t v (by simpa using ht) (by simpa using hv)) h2
   obtain ⟨a,h5,h6⟩:=arg_sh hS (hts t (by simp)) (hok 0 t v rfl rfl) h1
   refine ⟨by simp [hl],a::as,⟨by simp [h3.1],fun j b u hb hu=>?_⟩,fun j t' b ht' hb=>?_⟩
   ·cases j with
    | zero=>simp at hb hu;subst hb;subst hu;exact h5
    | succ j=>exact h3.2 j b u (by simpa using hb) (by simpa using hu)
   ·cases j with
    | zero=>simp at ht' hb;subst ht';subst hb;exact h6
    | succ j=>exact h4 j t' b (by simpa using ht') (by simpa using hb)
 | [],[],_::_,_,_,_,h=>h.elim
 | [],_::_,_,_,_,_,h=>h.elim
 | _::_,[],_,_,_,_,h=>h.elim
 | _::_,_::_,[],_,_,_,h=>h.elim
theorem trodAll_below (hl:laidOutB P=true) {w':World} (hb:Below w.heap.size w w'):∀(ts:List TypeId) (vs:List Value) (ds:List (DataW H)) (ps:List MemPlace),(∀t∈ts,P.readableRec t=true∧t<P.types.size)→(∀x∈ps,x.block<w.heap.size) →
 DataW.TrodAll enc P w 0 (fun _=>true) true ts vs ds ps→DataW.TrodAll enc P w' 0 (fun b=>decide (b<w.heap.size)) true ts vs ds ps
 | [],[],[],ps,_,_,h=>h
 | t::ts,v::vs,d::ds,ps,hts,hlt,h=>by
   obtain ⟨p,q,h1,h2,rfl⟩:=h
   obtain ⟨k1,k2⟩:=hts t (by simp)
   exact ⟨p,q,Below.trod hl k1 k2 h1 hb fun x hx=>hlt x (by simp [hx]),trodAll_below hl hb ts vs ds q (fun t ht=>hts t (by simp [ht])) (fun x hx=>hlt x (by simp [hx])) h2,rfl⟩
 | [],[],_::_,_,_,_,h=>h.elim
 | [],_::_,_,_,_,_,h=>h.elim
 | _::_,[],_,_,_,_,h=>h.elim
 | _::_,_::_,[],_,_,_,h=>h.elim
theorem law_contractM {m:List (Nat × Obj)} {f:FuncId} {fn:Func} {s:ChangeSpec} {S:List TypeId} {tb:TypeId} (hl:laidOutB P=true) (hS:plainTys P S=true) (hpar:fn.params.toList.all (fun t=>S.contains t&&P.readableRec t&&Nat.blt t P.types.size)=true)
 (hres:fn.resultTypes=#[tb]) (htb:P.underlying tb=some .bool) (hsv:s.vars=[]) (hspec:∀(ds:List (DataW H)),ds.length=fn.params.size→s.fn H ds={ results:=[.lit (.bool true)],args:=ds })
 (hFn:∀as:List AV,as.length=fn.params.size→(∀(j:Nat) t a,fn.params[j]?=some t→as[j]?=some a→ShV P t a)→FnM P m f as (.bool true))
 (W:World) (base:Nat) (args:Array Value) (ds gs:List (DataW H)) (before:List MemPlace)
 (hval:∀(j:Nat) t v,fn.params[j]?=some t→args[j]?=some v→Value.okWide P W .any base t v)
 (hW:DataW.Whole enc P fn.params.toList s.vars false W args.toList ds gs before) :
 (∀p∈m,W.heap[p.1]?=some p.2)→Calls P f args W fun e W'=>∃v,e=.returned v∧s.post enc P fn false true false false W args v W':=by
 intro hm
 have hW':=hW
 obtain ⟨p,q,hA,hV,rfl,hfz,hnd⟩:=hW
 rw [hsv] at hV
 obtain ⟨rfl,rfl⟩:=trodVars_none hV
 have hp:∀t∈fn.params.toList,t∈S∧P.readableRec t=true∧t<P.types.size:=by
  intro t ht
  have:=List.all_eq_true.1 hpar t ht
  simp only [Bool.and_eq_true,Nat.blt_eq] at this
  exact ⟨by simpa using this.1.1,this.1.2,this.2⟩
 obtain ⟨hlen,as,h1,h2⟩:=args_sh hS fn.params.toList args.toList ds p (fun t ht=>(hp t ht).1) (fun j t v ht hv=>hval j t v (by rwa [Array.getElem?_toList] at ht) (by rwa [Array.getElem?_toList] at hv)) hA
 have hal:as.length=fn.params.size:=by rw [h1.1,hlen];simp
 have hdl:ds.length=fn.params.size:=by
  have:∀(ts:List TypeId) (vs:List Value) (ds:List (DataW H)) (ps:List MemPlace),DataW.TrodAll enc P W 0 (fun _=>true) true ts vs ds ps→ds.length=ts.length:=by
   intro ts
   induction ts with
   | nil=>intro vs ds ps h;match vs,ds,h with | [],[],_=>rfl
   | cons t ts ih =>
     intro vs ds ps h
     match vs,ds,h with
     | v::vs,d::ds,⟨p,q,_,h2,_⟩=>simp [ih vs ds q h2]
  rw [this _ _ _ _ hA];simp
 obtain ⟨_,hF⟩:=hFn as hal fun j t a ht ha=>h2 j t a (by rw [Array.getElem?_toList];exact ht) ha
 refine (hF W noO args (fun p hp=>⟨id,hm p hp⟩) (fun _ h=>h.elim) (by rw [hal];simpa using hlen) fun j a u ha hu=>h1.2 j a u ha (by rw [Array.getElem?_toList];exact hu)).mono ?_
 rintro e W' ⟨v,rfl,hv,hb⟩
 have hv:=hv.base_inv
 subst hv
 have hlt:∀x∈p,x.block<W.heap.size:=fun x hx=>by simpa using hW'.lt x (by simp [hx])
 refine ⟨_,rfl,ds++[],[],p++[],[],p++[],[],?_,?_,?_,?_,hb.frame _,fun h=>by cases h⟩
 ·simpa using hW'
 ·rw [hspec _ (by simpa using hdl),hres]
  exact trodAll_mk1 (shut_bool htb true)
 ·rw [hspec _ (by simpa using hdl)]
  simpa using trodAll_below hl hb fn.params.toList args.toList ds p (fun t ht=>(hp t ht).2) hlt hA
 ·rw [hspec _ (by simpa using hdl),hsv]
  rfl
end
end Go.Ab
namespace Go.Ab
open Go Go.RowKit
section
variable {P:Program} {n:Fr} {K:ASt→Prop} {Q:Exit→ASt→Prop} {s:ASt}
theorem AWp.learn {c:Code} (t:Nat) {es:List AV} (h:lk s.env t=.lst es) (k:es.length≤9223372036854775807→AWp P n c Q s):AWp P n c Q s:=by
 intro w0 O ι a w hs
 have h1:=hs.vals t
 rw [h] at h1
 refine k ?_ w0 O ι a w hs
 generalize a.tmps.getD t undef=X at h1
 cases h1 with
 | lnil=>simp
 | lst es a n cap s val hn hcap hmax hlen hspot hc hv=>simp only [maxLen] at hmax;omega
theorem Pu_mapInt (l:List Int):Pu (.lst (l.map .int)):=.lst fun e he c hc=>by
 obtain ⟨x,_,rfl⟩:=List.mem_map.1 he
 simp [AV.cells] at hc;subst hc;exact .base _
end
end Go.Ab
namespace Go.Ab
attribute [go_sem] if_true if_false and_true true_and and_self
end Go.Ab
namespace Go.Ab
theorem cast_zero:((0:Nat):Int)=0:=rfl
theorem cast_one:((1:Nat):Int)=1:=rfl
attribute [go_sem] cast_zero cast_one
end Go.Ab
namespace Go.Ab
attribute [go_sem] List.set_cons_zero List.set_cons_succ List.cons_append List.nil_append List.length_cons List.length_nil List.getElem?_cons_zero List.getElem?_cons_succ List.take_succ_cons List.take_zero List.drop_succ_cons List.drop_zero
end Go.Ab
