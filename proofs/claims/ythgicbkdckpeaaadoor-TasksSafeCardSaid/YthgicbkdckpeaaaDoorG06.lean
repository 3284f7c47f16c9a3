/- Slices made and grown. -/
import Derived.Test.YthgicbkdckpeaaaDoorG05
set_option linter.unusedSimpArgs false
set_option linter.unusedVariables false
namespace Go.Ab
open Go Go.RowKit
section
variable {P:Program} {w w':World} {w0:Base} {O:Nat→Prop} {ι:Nat→Option Nat} {H:List ABlk} {u:Value}
def litOk (size:Nat) (len:Nat) (ps:List (Nat × AV)):Bool:=
 (ps.map (·.1)==List.range len)&&ps.all fun p=>p.2.cells.length==size&&okCells p.2
theorem buildSlice_run {ρ:Operand→AV} {a:Act} {t el:TypeId} {len size:Nat} {parts:Array (Nat × Operand)} (hv:∀p∈parts,VR w O ι H (ρ p.2) (a.eval p.2)) (ht:P.underlying t=some (.slice el)) (hsz:szTy P el=some size)
 (hz:(zeroA P el).map (fun z=>z.cells.length)=some size) (hlen:len*size≤16777216)
 (hp:litOk size len (parts.toList.map fun (i,x)=>(i,ρ x))=true) :
 ∃c:Array Value,(Instr.buildSlice t len (parts.map fun (i,x)=>(i,a.eval x))).run P w=.ok (.slice (some ⟨w.heap.size,0,none⟩) len len) (w.alloc (.cells c el))∧c.size=len*size∧parts.size=len ∧
  ∀(i j:Nat) (p:Nat × Operand) (d:AV),parts[i]?=some p→(ρ p.2).cells[j]?=some d→(ρ p.2).cells.length=size∧okCells (ρ p.2)=true∧∃u,c[i*size+j]?=some u∧VR w O ι H d u:=by
 unfold litOk at hp
 simp only [Bool.and_eq_true,beq_iff_eq,List.map_map,List.all_map] at hp
 obtain ⟨h1,h2⟩:=hp
 have hlen':parts.size=len:=by
  have:=congrArg List.length h1
  simpa using this
 have hfst:∀(i:Nat) p,parts[i]?=some p→p.1=i:=by
  intro i p hi
  have hil:i<parts.size:=(Array.getElem?_eq_some_iff.1 hi).1
  have:=congrArg (·[i]?) h1
  simp only [List.getElem?_map,Array.getElem?_toList,hi,Option.map_some,List.getElem?_range (show i<len by omega),Function.comp] at this
  injection this
 have hok:∀p∈parts,(ρ p.2).cells.length=size∧okCells (ρ p.2)=true:=by
  intro p hp
  have:=List.all_eq_true.1 h2 p (by simpa using hp)
  simpa using this
 obtain ⟨us,hus⟩:∃us,us=parts.toList.map fun (i,x)=>a.eval x:=⟨_,rfl⟩
 have hparts:(parts.map fun (i,x)=>(i,a.eval x)).toList=us.zipIdx.map fun (u,i)=>(i,u):=by
  subst hus
  apply List.ext_getElem?
  intro i
  simp only [Array.toList_map,List.getElem?_map,List.getElem?_zipIdx,Array.getElem?_toList]
  cases hi:parts[i]? with
  | none=>rfl
  | some p=>obtain ⟨q,x⟩:=p;simp [← hfst i _ hi]
 have hus':∀u∈us,u.cells.size=size:=by
  subst hus
  intro u hu
  obtain ⟨p,hp,rfl⟩:=List.mem_map.1 hu
  have hp':p∈parts:=by simpa using hp
  obtain ⟨h3,h4⟩:=hok p hp'
  rw [← h3];exact ((hv p hp').cells h4).1
 have husl:us.length=len:=by subst hus;simpa using hlen'
 cases hza:zeroA P el with
 | none=>simp [hza] at hz
 | some z =>
 simp only [hza,Option.map_some,Option.some.injEq] at hz
 obtain ⟨zv,hzr,_⟩:=zero_run (P:=P) (w:=w) hza
 obtain ⟨zs,hzs⟩:∃zs:Array Value,(len*size=0∧zs=#[])∨(len*size≠0∧zs=zv.cells):=by
  by_cases h0:len*size=0
  ·exact ⟨#[],.inl ⟨h0,rfl⟩⟩
  ·exact ⟨zv.cells,.inr ⟨h0,rfl⟩⟩
 obtain ⟨arr',h3,h4,_,h6⟩:=fill_row size us 0 ((Array.range (len*size)).map (zs[· % zs.size]!)) hus' (by simp [husl])
 refine ⟨arr',?_,by rw [h4];simp,hlen',fun i j p d hi hd=>?_⟩
 ·have hnot:¬(len*size>2 ^ 24):=by omega
  simp only [Instr.buildSlice,run_underlying ht,Sem.run_bind,Result.andThen_ok,sizeOf_run hsz,Sem.run_ite,if_neg hnot,Sem.run_pure]
  rcases hzs with ⟨h0,rfl⟩|⟨h0,rfl⟩
  ·rw [if_pos h0]
   simp only [hparts,h3,newRow,Sem.run_bind,run_newObj,World.alloc_eq,Sem.run_pure,Result.andThen_ok]
  ·rw [if_neg h0]
   simp only [hzr,Result.andThen_ok,hparts,h3,newRow,Sem.run_bind,run_newObj,World.alloc_eq,Sem.run_pure]
 ·have hp':p∈parts:=Array.mem_of_getElem? hi
  obtain ⟨h7,h8⟩:=hok p hp'
  obtain ⟨h9,h10,_⟩:=(hv p hp').cells h8
  have hj:j<size:=by rw [← h7];exact (List.getElem?_eq_some_iff.1 hd).1
  have hui:us[i]?=some (a.eval p.2):=by subst hus;rw [List.getElem?_map,Array.getElem?_toList,hi];rfl
  have hjc:j<(a.eval p.2).cells.size:=by omega
  refine ⟨h7,h8,_,?_,h10 j d _ hd (Array.getElem?_eq_getElem hjc)⟩
  have:=h6 i j _ hui hj
  rw [Nat.zero_add] at this
  rw [this];exact Array.getElem?_eq_getElem hjc
theorem mem_operands_buildSlice {t:TypeId} {len:Nat} {parts:Array (Nat × Operand)} {p:Nat × Operand} (h:p∈parts):p.2∈(Op.buildSlice t len parts).operands:=by
 simp only [Op.operands,List.mem_toArray,List.mem_map]
 exact ⟨p,by simpa using h,rfl⟩
theorem pl_buildSlice {ρ:Operand→AV} {t el:TypeId} {len size:Nat} {parts:Array (Nat × Operand)} {es:List AV} (hpos:0<size) (ht:P.underlying t=some (.slice el)) (hsz:szTy P el=some size) (hz:(zeroA P el).map (fun z=>z.cells.length)=some size) (hlen:len*size≤16777216)
 (hp:litOk size len (parts.toList.map fun (i,x)=>(i,ρ x))=true) (hes:(parts.toList.map fun (i,x)=>ρ x)=es) (hle:es.length=len) (hmt:el<mapTy:=by decide) :
 PL P H ρ (.buildSlice t len parts) (.own H.length len 0 len) (H++[⟨el,size,es⟩]):=by
 refine PL.of_run fun w0 O ι a w hs hv o ho=>?_
 obtain ⟨c,hr,hcs,hps,hc⟩:=buildSlice_run (P:=P) (ρ:=ρ) (a:=a) (w:=w) (fun p _=>hv p.2) ht hsz hz hlen hp
 have hei:∀(i:Nat) e,es[i]?=some e→∃p,parts[i]?=some p∧e=ρ p.2:=by
  intro i e hi
  subst hes
  rw [List.getElem?_map,Array.getElem?_toList] at hi
  cases hq:parts[i]? with
  | none=>simp [hq] at hi
  | some p=>simp [hq] at hi;exact ⟨p,rfl,hi.symm⟩
 have hes2:∀e∈es,e.cells.length=size:=by
  intro e he
  obtain ⟨i,hi,rfl⟩:=List.mem_iff_getElem.1 he
  obtain ⟨p,hp1,hp2⟩:=hei i _ (List.getElem?_eq_getElem hi)
  unfold litOk at hp
  simp only [Bool.and_eq_true,List.all_map] at hp
  have:=List.all_eq_true.1 hp.2 p (by have:=Array.mem_of_getElem? hp1;simpa using this)
  rw [hp2]
  simp at this;exact this.1
 obtain ⟨h4,h5⟩:=hs.new ⟨el,size,es⟩ c hmt w (Below.refl _ _) rfl (by simp [hcs,hle]) hes2 (fun i j e d hi hd=>by
  obtain ⟨p,hp1,rfl⟩:=hei i e hi
  exact (hc i j p d hp1 hd).2.2)
 refine ⟨.slice (some ⟨w.heap.size,0,none⟩) len len,_,_,.value _,?_,.inl rfl,h4,h5,?_⟩
 ·simp only [execOp,ho,hr,Sem.run_bind,Result.andThen_ok,Sem.run_pure]
 ·refine .own _ _ _ _ ⟨el,size,es⟩ w.heap.size _ _ _ (by simp) hle (upd_same _ _ _) rfl (by omega) (Nat.le_refl _) fun _=>⟨by rw [Nat.zero_mul],?_,c,el,(0,0),heap_alloc_new w _,by rw [Nat.zero_add,hcs]⟩
  have:=Nat.le_mul_of_pos_right len hpos
  simp only [maxLen];omega
theorem ql_buildSlice {ρ:Operand→AV} {t el:TypeId} {len size:Nat} {parts:Array (Nat × Operand)} {es:List AV} (hpos:0<size) (ht:P.underlying t=some (.slice el)) (hsz:szTy P el=some size) (hz:(zeroA P el).map (fun z=>z.cells.length)=some size) (hlen:len*size≤16777216)
 (hp:litOk size len (parts.toList.map fun (i,x)=>(i,ρ x))=true) (hes:(parts.toList.map fun (i,x)=>ρ x)=es) (hle:es.length=len) :
 QL P H ρ (.buildSlice t len parts) (.lst es):=by
 intro o ho w0 O ι a w hs hv K Q hK
 rw [ho] at hv
 obtain ⟨c,hr,hcs,hps,hc⟩:=buildSlice_run (P:=P) (ρ:=ρ) (a:=a) (w:=w) (fun p hp=>hv p.2 (.inl (mem_operands_buildSlice hp))) ht hsz hz hlen hp
 have hei:∀(i:Nat) e,es[i]?=some e→∃p,parts[i]?=some p∧e=ρ p.2:=by
  intro i e hi
  subst hes
  rw [List.getElem?_map,Array.getElem?_toList] at hi
  cases hq:parts[i]? with
  | none=>simp [hq] at hi
  | some p=>simp [hq] at hi;exact ⟨p,rfl,hi.symm⟩
 have hes2:∀e∈es,e.cells.length=size:=by
  intro e he
  obtain ⟨i,hi,rfl⟩:=List.mem_iff_getElem.1 he
  obtain ⟨p,hp1,hp2⟩:=hei i _ (List.getElem?_eq_getElem hi)
  unfold litOk at hp
  simp only [Bool.and_eq_true,List.all_map] at hp
  have:=List.all_eq_true.1 hp.2 p (by have:=Array.mem_of_getElem? hp1;simpa using this)
  rw [hp2]
  simp at this;exact this.1
 have hb:Below w.heap.size w (w.alloc (.cells c el)):=(Below.refl _ _).alloc (Nat.le_refl _) _
 have g:=Goes.quiet hs hb
 have hnew:¬OO O ι H w.heap.size:=by
  rintro (h|⟨b,hb,hx⟩)
  ·have:=hs.old _ h;have:=hs.below.size;omega
  ·have:=(hs.heap b _ _ (List.getElem?_eq_getElem hb) hx).2.lt;omega
 have hrun:(execOp a.eval o).run P w=.ok (.value (.slice (some ⟨w.heap.size,0,none⟩) len len)) (w.alloc (.cells c el)):=by
  simp only [execOp,ho,hr,Sem.run_bind,Result.andThen_ok,Sem.run_pure]
 unfold Oper.wp
 rw [hrun]
 have hat:∀(i j:Nat) (e d:AV),es[i]?=some e→e.cells[j]?=some d→∃u,(w.alloc (.cells c el)).cell? ⟨w.heap.size,0+i*size+j,none⟩=some u∧VR (w.alloc (.cells c el)) (OO O ι H) ι H d u:=by
  intro i j e d hi hd
  obtain ⟨p,hp1,rfl⟩:=hei i e hi
  obtain ⟨_,_,u,hu,hvu⟩:=hc i j p d hp1 hd
  exact ⟨u,by rw [World.cell?_alloc_new,Nat.zero_add];exact hu,hvu.mono g⟩
 have hmaxl:len≤maxLen:=by
  have:=Nat.le_mul_of_pos_right len hpos
  simp only [maxLen];omega
 refine hK _ _ (.lst es _ len len size (fun i j=>((w.alloc (.cells c el)).cell? ⟨w.heap.size,0+i*size+j,none⟩).getD undef) hle.symm (Nat.le_refl _) hmaxl hes2 (fun _ _=>rfl) (fun i j e d hi hd=>?_) fun i j e d hi hd=>?_) hb
 ·obtain ⟨u,hu,_⟩:=hat i j e d hi hd
  exact ⟨hnew,by simp only [hu,Option.getD_some]⟩
 ·obtain ⟨u,hu,hvu⟩:=hat i j e d hi hd
  simpa only [hu,Option.getD_some] using hvu
end
end Go.Ab
namespace Go.Ab
open Go Go.RowKit
def elI (P:Program) (e:TypeId) (size bytes:Nat):Bool:=
 match P.info? e with
 | some i=>match i.zero with
   | some z=>i.size==size&&i.bytes==bytes&&z.cells.size==size&&Nat.blt 0 size&&Nat.blt e mapTy
   | none=>false
 | none=>false
theorem elI_inv {P:Program} {e:TypeId} {size bytes:Nat} (h:elI P e size bytes=true):∃i z,P.info? e=some i∧i.zero=some z∧i.size=size∧i.bytes=bytes∧z.cells.size=size∧0<size∧e<mapTy:=by
 unfold elI at h
 split at h
 ·rename_i i hi
  split at h
  ·rename_i z hz
   simp only [Bool.and_eq_true,beq_iff_eq,Nat.blt_eq] at h
   exact ⟨i,z,hi,hz,h.1.1.1.1,h.1.1.1.2,h.1.1.2,h.1.2,h.2⟩
  ·cases h
 ·cases h
section
variable {P:Program} {w w':World} {w0:Base} {O:Nat→Prop} {ι:Nat→Option Nat} {H:List ABlk} {u:Value}
theorem append_core {t ty el:TypeId} {size bytes:Nat} (ht:P.underlying t=some (.slice el)) (hel:elI P el size bytes=true) {base:Nat} {v:Value} {n:Nat} {xs:List Value} (hown:w.ownsRow base el size v n xs) (hbase:base≤w.heap.size)
 {es:List AV} {X:Value} (hX:VR w O ι H (.lst es) X) (hm:1≤es.length) (hes:∀e∈es,e.cells.length=size∧okCells e=true) (hb:(n+es.length)*bytes≤140737488355328) (h63:n+es.length≤maxLen) :
 ∃v' w' news,(Builtin.append_ #[t,t] ty #[v,X]).run P w=.ok v' w'∧w'.ownsRow base el size v' (n+es.length) (xs++news)∧w.grownBy w' v.ownBlock∧(v'.ownBlock=v.ownBlock∨v'.ownBlock=some w.heap.size)∧news.length=es.length*size∧v'≠.slice none 0 0 ∧
  ∀(i j:Nat) (e d:AV),es[i]?=some e→e.cells[j]?=some d→∃u,news[i*size+j]?=some u∧VR w O ι H d u:=by
 obtain ⟨i0,z,h1,h2,h3,h4,h5,h6,_⟩:=elI_inv hel
 cases hX with
 | lnil=>simp at hm
 | lst es a m cap s val hn hcap hmax hlen hspot hc hv =>
   subst hn
   have h0:∃e,e∈es:=⟨es[0],List.getElem_mem _⟩
   obtain ⟨e0,he0⟩:=h0
   have hs:s=size:=by rw [← hlen e0 he0];exact (hes e0 he0).1
   subst hs
   have hsp:=hspot e0 he0
   have hat:∀q,q<es.length*s→∃(e d:AV),es[q / s]?=some e∧e.cells[q % s]?=some d:=by
    intro q hq
    have hq1:q / s<es.length:=(Nat.div_lt_iff_lt_mul h6).2 hq
    have hq2:q % s<s:=Nat.mod_lt _ h6
    refine ⟨es[q / s],_,List.getElem?_eq_getElem hq1,List.getElem?_eq_getElem (by rw [hlen _ (List.getElem_mem _)];exact hq2)⟩
   have hnews:∀j u,((List.range (es.length*s)).map fun q=>val (q / s) (q % s))[j]?=some u→w.cell? (a.add j)=some u:=by
    intro j u hj
    rw [List.getElem?_map] at hj
    have hjl:j<es.length*s:=by
     rcases Nat.lt_or_ge j (es.length*s) with h|h
     ·exact h
     ·rw [List.getElem?_eq_none (by simpa using h)] at hj;simp at hj
    rw [List.getElem?_range hjl] at hj
    simp at hj;subst hj
    obtain ⟨e,d,he,hd⟩:=hat j hjl
    have:=(hc _ _ _ _ he hd).2
    rw [add_eq _ _ hsp]
    rwa [Nat.add_assoc,show j / s*s+j % s=j by rw [Nat.mul_comm];exact Nat.div_add_mod j s] at this
   have hone:∀u∈(List.range (es.length*s)).map fun q=>val (q / s) (q % s),u.oneCell'=true:=by
    intro u hu
    obtain ⟨q,hq,rfl⟩:=List.mem_map.1 hu
    obtain ⟨e,d,he,hd⟩:=hat q (by simpa using hq)
    have hok:=(hes e (List.mem_of_getElem? he)).2
    have hd1:isOne d=true:=by
     cases e with
     | agg cs=>exact List.all_eq_true.1 hok d (List.mem_of_getElem? hd)
     | _ =>
       cases hq':q % s with
       | zero=>rw [hq'] at hd;simp only [AV.cells,List.getElem?_cons_zero,Option.some.injEq] at hd;subst hd;simpa [okCells] using hok
       | succ k=>rw [hq'] at hd;simp [AV.cells] at hd
    exact (VR.one hd1 (hv _ _ _ _ he hd)).1
   obtain ⟨v',w',hr,k1,k2,k3,k4⟩:=run_append_own_at (P:=P) w base t ty el i0 z s bytes ht h1 h2 h3 h4 h5 h6 v n xs hown a es.length cap _ (by simp) hnews hone h63 hb hbase
   refine ⟨v',w',_,hr,k1,k2,k4,by simp,fun e=>by have:=(k3.1 e).2;omega,fun i j e d he hd=>?_⟩
   have hi:i<es.length:=(List.getElem?_eq_some_iff.1 he).1
   have hj:j<s:=by rw [← hlen e (List.mem_of_getElem? he)];exact (List.getElem?_eq_some_iff.1 hd).1
   refine ⟨val i j,?_,hv _ _ _ _ he hd⟩
   have hq:i*s+j<es.length*s:=mul_lt_of hi hj
   rw [List.getElem?_map,List.getElem?_range hq]
   obtain ⟨e1,e2⟩:=div_of (i:=i) hj
   simp [e1,e2]
theorem own_row (hs:Sit w0 O ι H w) {b tot:Nat} {blk:ABlk} {v:Value} (hb:H[b]?=some blk) (ht:blk.es.length=tot) (hv:VR w (OO O ι H) ι H (.own b tot 0 tot) v) (hsz:0<blk.sz) (hmt:blk.ty<mapTy) :
 ∃xs,w.ownsRow 0 blk.ty blk.sz v tot xs∧v.ownBlock=ι b ∧
  (∀(i j:Nat) (e d:AV),blk.es[i]?=some e→e.cells[j]?=some d→∃u,xs[i*blk.sz+j]?=some u∧VR w (OO O ι H) ι H d u)∧(v=.slice none 0 0∨∃x cap,v=.slice (some ⟨x,0,none⟩) tot cap):=by
 cases hv with
 | staleOwn b tot off len blk' a n c hb' hlt=>rw [hb] at hb';cases hb';omega
 | ownNil b blk' hb' he hi =>
   rw [hb] at hb';cases hb'
   exact ⟨[],⟨by simp,.inl ⟨rfl,rfl⟩⟩,by rw [hi];rfl,fun i j e d h=>by rw [he] at h;simp at h,.inl rfl⟩
 | own b tot off len blk' x n cap a hb' ht' hi hn hl hcap ha =>
   rw [hb] at hb';cases hb'
   obtain ⟨rfl,hmx,c,ty,fz,hc,hc2⟩:=ha (.inr rfl)
   obtain ⟨hx0,c0,hc0,hcl,hsz',hrow⟩:=hs.heap b blk x hb hi
   have hc0:=rowAt_inv hc0 ⟨c,ty,fz,hc⟩ hmt
   rw [hc] at hc0;injection hc0 with hc0;injection hc0 with h1 h2 h3;subst h1;subst h2;subst h3
   rw [Nat.zero_add] at hc2
   rw [Nat.zero_mul]
   subst hn
   refine ⟨c.toList.take (n*blk.sz),⟨?_,.inr ⟨x,cap,c,rfl,Nat.zero_le _,hc,hcap,hmx,hc2.symm,rfl⟩⟩,by rw [hi];rfl,fun i j e d he hd=>?_,.inr ⟨x,cap,rfl⟩⟩
   ·simp only [List.length_take,Array.length_toList]
    have:n*blk.sz≤cap*blk.sz:=Nat.mul_le_mul_right _ hcap
    omega
   ·obtain ⟨u,hu,hvu⟩:=hrow i j e d he hd
    refine ⟨u,?_,hvu⟩
    have hi':i<n:=by rw [← ht'];exact (List.getElem?_eq_some_iff.1 he).1
    have hj':j<blk.sz:=by rw [← hsz' e (List.mem_of_getElem? he)];exact (List.getElem?_eq_some_iff.1 hd).1
    rw [List.getElem?_take,if_pos (mul_lt_of hi' hj'),Array.getElem?_toList];exact hu
theorem Sit.grow (hs:Sit w0 O ι H w) {b tot m:Nat} {blk:ABlk} {es:List AV} (hb:H[b]?=some blk) (ht:blk.es.length=tot) (hmt:blk.ty<mapTy) (hm:1≤es.length) (hes:∀e∈es,e.cells.length=blk.sz) {v v':Value} (hvb:v.ownBlock=ι b)
 {xs news:List Value} (hxl:xs.length=tot*blk.sz) (hxs:∀(i j:Nat) (e d:AV),blk.es[i]?=some e→e.cells[j]?=some d→∃u,xs[i*blk.sz+j]?=some u∧VR w (OO O ι H) ι H d u)
 (hnews:∀(i j:Nat) (e d:AV),es[i]?=some e→e.cells[j]?=some d→∃u,news[i*blk.sz+j]?=some u∧VR w (OO O ι H) ι H d u)
 (hold:∀e∈blk.es,e.cells.length=blk.sz)
 (hown:w'.ownsRow 0 blk.ty blk.sz v' (tot+es.length) (xs++news)) (hg:w.grownBy w' v.ownBlock) (hat:v'.ownBlock=v.ownBlock∨v'.ownBlock=some w.heap.size) :
 ∃ι',Sit w0 O ι' (H.set b { blk with es:=blk.es++es }) w'∧Goes w (OO O ι H) ι H w' (OO O ι' (H.set b { blk with es:=blk.es++es })) ι' (H.set b { blk with es:=blk.es++es }) ∧
  VR w' (OO O ι' (H.set b { blk with es:=blk.es++es })) ι' (H.set b { blk with es:=blk.es++es }) (.own b (tot+es.length) 0 (tot+es.length)) v':=by
 have hbl:b<H.length:=(List.getElem?_eq_some_iff.1 hb).1
 obtain ⟨hlen,hcase⟩:=hown
 rcases hcase with ⟨_,h0⟩|⟨g,cap,cur,rfl,hg0,hgh,hncap,hcapm,hcur,htake⟩
 ·omega
 have hvg:(Value.slice (some ⟨g,0,none⟩) (tot+es.length) cap).ownBlock=some g:=rfl
 rw [hvg] at hat
 -- where the block lies now
 have hgw:g=w.heap.size∨ι b=some g:=by
  rcases hat with h|h
  ·exact .inr (by rw [← hvb];exact h.symm)
  ·injection h with h;exact .inl h
 have hrng:∀b' x,b'<H.length→ι b'=some x→x<w.heap.size:=fun b' x hb' hx=>(hs.heap b' _ x (List.getElem?_eq_getElem hb') hx).2.lt
 obtain ⟨H2,hH2⟩:∃H2,H2=H.set b { blk with es:=blk.es++es }:=⟨_,rfl⟩
 rw [← hH2]
 have hget:∀b' bk,H2[b']?=some bk→(b'=b∧bk={ blk with es:=blk.es++es })∨(b'≠b∧H[b']?=some bk):=by
  intro b' bk h
  rw [hH2,List.getElem?_set] at h
  by_cases e:b=b'
  ·subst e;rw [if_pos rfl,if_pos hbl] at h;injection h with h;exact .inl ⟨rfl,h.symm⟩
  ·rw [if_neg e] at h;exact .inr ⟨fun e'=>e e'.symm,h⟩
 have hlen2:H2.length=H.length:=by rw [hH2];simp
 have hunch:∀k,k<w.heap.size→ι b≠some k→w'.heap[k]?=w.heap[k]?:=fun k hk hne=>hg.block k hk (by rw [hvb];exact fun e=>hne e.symm)
 have hOO:∀y,OO O (upd ι b g) H2 y→OO O ι H y∨y=w.heap.size:=by
  rintro y (h|⟨b',hb',hx⟩)
  ·exact .inl (.inl h)
  ·rw [hlen2] at hb'
   by_cases e:b'=b
   ·subst e;rw [upd_same] at hx;injection hx with hx;subst hx
    rcases hgw with h|h
    ·exact .inr h
    ·exact .inl (.inr ⟨b',hb',h⟩)
   ·rw [upd_other e] at hx;exact .inl (.inr ⟨b',hb',hx⟩)
 have gs:Goes w (OO O ι H) ι H w' (OO O (upd ι b g) H2) (upd ι b g) H2:=by
  refine ⟨fun p u h hcell=>?_,fun p u h hcell h'=>?_,fun b' bk h=>?_,fun b' y bk bk' c1 ty fz h1 h2 h3 hi' h=>?_⟩
  ·rw [hunch p (heap_lt hcell) fun e=>h (.inr ⟨b,hbl,e⟩)];exact hcell
  ·rcases hOO _ h' with h'|h'
   ·exact h h'
   ·have:=heap_lt hcell;omega
  ·by_cases e:b'=b
   ·subst e
    rw [hb] at h;injection h with h;subst h
    exact ⟨{ blk with es:=blk.es++es },by rw [hH2];simp [hbl],by simp,fun he=>by simp at he;subst he;simp at hm⟩
   ·exact ⟨bk,by rw [hH2,List.getElem?_set_ne (fun e'=>e e'.symm)];exact h,Nat.le_refl _,fun _=>⟨rfl,upd_other e⟩⟩
  ·rcases hget b' bk' h2 with ⟨rfl,rfl⟩|⟨hne,h2'⟩
   ·rw [hb] at h1;injection h1 with h1;subst h1
    simp at h3;subst h3;simp at hm
   ·have hlt:=hrng b' y (List.getElem?_eq_some_iff.1 h2').1 hi'
    exact ⟨c1,ty,fz,by rw [hunch y hlt fun e=>hne (hs.inj b' b y (List.getElem?_eq_some_iff.1 h2').1 hbl hi' e)];exact h,rfl⟩
 refine ⟨upd ι b g,⟨fun b' bk y h hy=>?_,fun b' bk h hy=>?_,fun b1 b2 y h1 h2 hy1 hy2=>?_,?_,fun y hy=>Nat.lt_of_lt_of_le (hs.old y hy) hg.size,fun y b1 hO h1 hy=>?_,hs.hist.trans gs.grow⟩,gs,?_⟩
 ·rcases hget b' bk h with ⟨rfl,rfl⟩|⟨hne,h'⟩
  ·rw [upd_same] at hy;injection hy with hy;subst hy
   refine ⟨hgw.elim (fun h=>.inl (by rw [h];exact hs.below.size)) fun h=>(hs.heap _ blk g hb h).1,cur,rowAt_cells hgh hmt,?_,fun e he=>?_,fun i j e d he hd=>?_⟩
   ·simp only [List.length_append]
    rw [hcur,ht]
    exact Nat.mul_le_mul_right _ hncap
   ·rcases List.mem_append.1 he with h|h
    ·exact hold e h
    ·exact hes e h
   ·simp only at he ⊢
    have hj:j<blk.sz:=by
     rcases List.mem_append.1 (List.mem_of_getElem? he) with h|h
     ·rw [← hold e h];exact (List.getElem?_eq_some_iff.1 hd).1
     ·rw [← hes e h];exact (List.getElem?_eq_some_iff.1 hd).1
    have hil:i<tot+es.length:=by have:=(List.getElem?_eq_some_iff.1 he).1;simp at this;omega
    have hc:cur[i*blk.sz+j]?=(xs++news)[i*blk.sz+j]?:=by
     rw [← htake,List.getElem?_take,if_pos (mul_lt_of hil hj),Array.getElem?_toList]
    rw [hc,List.getElem?_append]
    by_cases hi:i<tot
    ·rw [List.getElem?_append_left (by omega)] at he
     obtain ⟨u,hu,hvu⟩:=hxs i j e d he hd
     exact ⟨u,by rw [if_pos (by rw [hxl];exact mul_lt_of hi hj)];exact hu,hvu.mono gs⟩
    ·rw [List.getElem?_append_right (by omega),ht] at he
     obtain ⟨u,hu,hvu⟩:=hnews (i-tot) j e d he hd
     have hge:tot*blk.sz≤i*blk.sz:=Nat.mul_le_mul_right _ (by omega)
     refine ⟨u,?_,hvu.mono gs⟩
     rw [if_neg (by rw [hxl];omega),hxl,show i*blk.sz+j-tot*blk.sz=(i-tot)*blk.sz+j by rw [Nat.sub_mul];omega]
     exact hu
  ·rw [upd_other hne] at hy
   obtain ⟨h3,h4⟩:=hs.heap b' bk y h' hy
   exact ⟨h3,h4.mono gs (hunch y h4.lt fun e=>hne (hs.inj b' b y (List.getElem?_eq_some_iff.1 h').1 hbl hy e))⟩
 ·rcases hget b' bk h with ⟨rfl,rfl⟩|⟨hne,h'⟩
  ·rw [upd_same] at hy;cases hy
  ·rw [upd_other hne] at hy;exact hs.empt b' bk h' hy
 ·rw [hlen2] at h1 h2
  by_cases e1:b1=b
  ·by_cases e2:b2=b
   ·rw [e1,e2]
   ·subst e1
    rw [upd_same] at hy1;injection hy1 with hy1;subst hy1
    rw [upd_other e2] at hy2
    rcases hgw with h|h
    ·have:=hrng b2 _ h2 hy2;omega
    ·exact hs.inj b1 b2 g h1 h2 h hy2
  ·rw [upd_other e1] at hy1
   by_cases e2:b2=b
   ·subst e2
    rw [upd_same] at hy2;injection hy2 with hy2;subst hy2
    rcases hgw with h|h
    ·have:=hrng b1 _ h1 hy1;omega
    ·exact hs.inj b1 b2 g h1 h2 hy1 h
   ·rw [upd_other e2] at hy2;exact hs.inj b1 b2 y h1 h2 hy1 hy2
 ·refine hs.below.change hg.os hg.tape hg.output hg.size fun k hk hne=>?_
  by_cases e:ι b=some k
  ·exact (hs.heap b blk k hb e).1
  ·exact absurd (hunch k hk e) hne
 ·rw [hlen2] at h1
  by_cases e:b1=b
  ·subst e
   rw [upd_same] at hy;injection hy with hy;subst hy
   rcases hgw with h|h
   ·have:=hs.old _ hO;omega
   ·exact hs.disj _ _ hO h1 h
  ·rw [upd_other e] at hy;exact hs.disj y b1 hO h1 hy
 ·refine .own b _ 0 _ { blk with es:=blk.es++es } g _ cap _ (by rw [hH2];simp [hbl]) (by simp [ht]) (upd_same _ _ _) rfl (by omega) hncap fun _=>⟨by rw [Nat.zero_mul],hcapm,cur,blk.ty,(0,0),hgh,by rw [Nat.zero_add];exact hcur.symm⟩
theorem append_exec {ρ:Operand→AV} {a:Act} {o:Oper} {s x:Operand} {t:TypeId} {v':Value} (ho:o.op=.call { callee:=.builtin .append,args:=#[s,x],argTypes:=#[t,t] })
 (hr:(Builtin.append_ #[t,t] o.type #[a.eval s,a.eval x]).run P w=.ok v' w'):(execOp a.eval o).run P w=.ok (.value v') w':=by
 simp only [execOp,ho,resolve,invoke,builtin,Sem.run_bind,Sem.run_pure,Result.andThen_ok,List.map_toArray,List.map_cons,List.map_nil,hr]
theorem pl_append {ρ:Operand→AV} {s x:Operand} {t el:TypeId} {b tot size bytes:Nat} {blk:ABlk} {es:List AV} (hsv:ρ s=.own b tot 0 tot) (hx:ρ x=.lst es) (hb:H[b]?=some blk) (htot:blk.es.length=tot)
 (ht:P.underlying t=some (.slice el)) (hel:elI P el size bytes=true) (hty:blk.ty=el) (hbs:blk.sz=size) (hm:1≤es.length) (hes:∀e∈es,e.cells.length=size∧okCells e=true) (hbd:(tot+es.length)*bytes≤140737488355328) (h63:tot+es.length≤140737488355328) :
 PL P H ρ (.call { callee:=.builtin .append,args:=#[s,x],argTypes:=#[t,t] }) (.own b (tot+es.length) 0 (tot+es.length)) (H.set b { blk with es:=blk.es++es }):=by
 refine PL.of_run fun w0 O ι a w hs hv o ho=>?_
 subst hty;subst hbs
 have h1:=hv s;rw [hsv] at h1
 have h2:=hv x;rw [hx] at h2
 obtain ⟨hpos,hmt⟩:0<blk.sz∧blk.ty<mapTy:=by obtain ⟨_,_,_,_,_,_,_,h⟩:=elI_inv hel;exact h
 obtain ⟨xs,k1,k2,k3,_⟩:=own_row hs hb htot h1 hpos hmt
 obtain ⟨v',w',news,r1,r2,r3,r4,r5,r6,r7⟩:=append_core (P:=P) (ty:=o.type) ht hel k1 (Nat.zero_le _) h2 hm hes hbd (by simp only [maxLen];omega)
 have hold:∀e∈blk.es,e.cells.length=blk.sz:=by
  intro e he
  cases hi:ι b with
  | none=>rw [hs.empt b blk hb hi] at he;simp at he
  | some y=>obtain ⟨_,_,_,_,h,_⟩:=hs.heap b blk y hb hi;exact h e he
 obtain ⟨ι',g1,g2,g3⟩:=hs.grow (m:=0) hb htot hmt hm (fun e he=>(hes e he).1) k2 k1.1 k3 r7 hold r2 r3 r4
 exact ⟨v',w',ι',_,append_exec (ρ:=ρ) ho r1,.inl rfl,g1,g2,g3⟩
end
end Go.Ab
