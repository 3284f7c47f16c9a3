/- Weakening, and the way from a body to what a function gives. -/
import Derived.Test.YthgicbkdckpeaaaDoorG03
set_option linter.unusedSimpArgs false
set_option linter.unusedVariables false
namespace Go.Ab
open Go Go.RowKit
def Le (a b:AV):Prop:=∀(w:World) (O:Nat→Prop) (ι:Nat→Option Nat) (H:List ABlk) (u:Value),VR w O ι H a u→VR w O ι H b u
theorem Le.refl (a:AV):Le a a:=fun _ _ _ _ _ h=>h
theorem Le.bad (a:AV):Le a .bad:=fun _ _ _ _ _ _=>.bad _
theorem Le.of_eq {a b:AV} (h:a=b):Le a b:=h ▸ .refl a
theorem Le.under_true (a:AV):Le (.under true a) a:=fun _ _ _ _ _ h=>h.under_inv rfl
theorem lk_mem:∀(E:Env) (t:Nat),lk E t=.bad∨∃p∈E,p.1=t∧lk E t=p.2
 | [],t=>.inl rfl
 | (k,v)::E,t=>by
   unfold lk
   split
   ·rename_i h;exact .inr ⟨(k,v),by simp,h,rfl⟩
   ·rcases lk_mem E t with h|⟨p,h1,h2,h3⟩
    ·exact .inl h
    ·exact .inr ⟨p,by simp [h1],h2,h3⟩
theorem Wk.env {n:Fr} {E E2:Env} {H:List ABlk} (h:∀p∈E2,Le (lk E p.1) p.2):Wk n ⟨E,H⟩ ⟨E2,H⟩:=fun w0 O ι a w hs =>
 ⟨ι,hs.sit,hs.defers,hs.size,hs.hand,fun t=>by
  rcases lk_mem E2 t with h1|⟨p,hp,h1,h2⟩
  ·show VR _ _ _ _ (lk E2 t) _;rw [h1];exact .bad _
  ·show VR _ _ _ _ (lk E2 t) _;rw [h2];subst h1;exact h p hp _ _ _ _ _ (hs.vals p.1)⟩
structure View (r:Nat→Option Nat) (ι ι2:Nat→Option Nat) (H H2:List ABlk):Prop where
 idx:∀(b j:Nat) (blk:ABlk),r b=some j→H[b]?=some blk→∃blk2,H2[j]?=some blk2∧blk2.es.length=blk.es.length∧blk2.sz=blk.sz∧ι2 j=ι b
 back:∀(j x:Nat),j<H2.length→ι2 j=some x→∃b,b<H.length∧r b=some j∧ι b=some x
def PubR (r:Nat→Option Nat) (H:List ABlk) (a b:AV):Prop:=∀(H2:List ABlk) (w0:Base) (w:World) (O:Nat→Prop) (ι ι2:Nat→Option Nat) (u:Value),Sit w0 O ι H w→View r ι ι2 H H2→VR w (OO O ι H) ι H a u→VR w (OO O ι2 H2) ι2 H2 b u
section
variable {r:Nat→Option Nat} {H:List ABlk}
theorem View.OO {H2:List ABlk} {O:Nat→Prop} {ι ι2:Nat→Option Nat} (v:View r ι ι2 H H2) {x:Nat} (h:OO O ι2 H2 x):OO O ι H x:=by
 rcases h with h|⟨j,hj,hx⟩
 ·exact .inl h
 ·obtain ⟨b,hb,_,hi⟩:=v.back j x hj hx
  exact .inr ⟨b,hb,hi⟩
theorem PubR.pu {a:AV} (h:Pu a):PubR r H a a:=fun H2 w0 w O ι ι2 u hs v hu=>((h _ _ _ _ _ hu).lessO fun x hx=>v.OO hx).back
theorem PubR.agg {cs ds:List AV} (hl:cs.length=ds.length) (h:∀(j:Nat) (c d:AV),cs[j]?=some c→ds[j]?=some d→PubR r H c d):PubR r H (.agg cs) (.agg ds):=fun H2 w0 w O ι ι2 u hs v hu=>by
 obtain ⟨arr,rfl,h1,h2⟩:=hu.agg_inv
 refine .agg ds arr (h1.trans hl) fun j d u hd hu=>?_
 have hj:j<cs.length:=by rw [hl];exact (List.getElem?_eq_some_iff.1 hd).1
 exact h j _ d (List.getElem?_eq_getElem hj) hd H2 w0 w O ι ι2 u hs v (h2 j _ u (List.getElem?_eq_getElem hj) hu)
theorem PubR.tup {cs ds:List AV} (hl:cs.length=ds.length) (h:∀(j:Nat) (c d:AV),cs[j]?=some c→ds[j]?=some d→PubR r H c d):PubR r H (.tup cs) (.tup ds):=fun H2 w0 w O ι ι2 u hs v hu=>by
 obtain ⟨arr,rfl,h1,h2⟩:=hu.tup_inv
 refine .tup ds arr (h1.trans hl) fun j d u hd hu=>?_
 have hj:j<cs.length:=by rw [hl];exact (List.getElem?_eq_some_iff.1 hd).1
 exact h j _ d (List.getElem?_eq_getElem hj) hd H2 w0 w O ι ι2 u hs v (h2 j _ u (List.getElem?_eq_getElem hj) hu)
theorem PubR.clo {f:FuncId} {cs ds:List AV} (hl:cs.length=ds.length) (h:∀(j:Nat) (c d:AV),cs[j]?=some c→ds[j]?=some d→PubR r H c d):PubR r H (.clo f cs) (.clo f ds):=fun H2 w0 w O ι ι2 u hs v hu=>by
 cases hu with
 | clo f cs arr h1 h2 =>
 refine .clo f ds arr (h1.trans hl) fun j d u hd hu=>?_
 have hj:j<cs.length:=by rw [hl];exact (List.getElem?_eq_some_iff.1 hd).1
 exact h j _ d (List.getElem?_eq_getElem hj) hd H2 w0 w O ι ι2 u hs v (h2 j _ u (List.getElem?_eq_getElem hj) hu)
theorem PubR.nilS:PubR r H (.base (.slice none 0 0)) (.lst []):=fun H2 w0 w O ι ι2 u hs v hu=>by
 have:=hu.base_inv;subst this;exact .lnil
theorem PubR.ptr {b j tot i off:Nat} (hb:r b=some j):PubR r H (.ptr b tot i off) (.ptr j tot i off):=fun H2 w0 w O ι ι2 u hs v hu=>by
 cases hu with
 | stalePtr b tot i off blk a h1 h2 =>
   obtain ⟨blk2,e1,e2,e3,e4⟩:=v.idx b j blk hb h1
   exact .stalePtr _ _ _ _ blk2 _ e1 (by omega)
 | ptr b tot i off blk x h1 ht hi hcx =>
   obtain ⟨blk2,e1,e2,e3,e4⟩:=v.idx b j blk hb h1
   have:=VR.ptr (w:=w) (O:=OO O ι2 H2) j tot i off blk2 x e1 (e2.trans ht) (e4.trans hi) hcx
   rwa [e3] at this
theorem PubR.own {b j tot off len:Nat} (hb:r b=some j):PubR r H (.own b tot off len) (.own j tot off len):=fun H2 w0 w O ι ι2 u hs v hu=>by
 cases hu with
 | staleOwn b tot off len blk a n c h1 h2 =>
   obtain ⟨blk2,e1,e2,e3,e4⟩:=v.idx b j blk hb h1
   exact .staleOwn _ _ _ _ blk2 _ _ _ e1 (by omega)
 | ownNil b blk h1 he hi =>
   obtain ⟨blk2,e1,e2,e3,e4⟩:=v.idx b j blk hb h1
   rw [he] at e2
   exact .ownNil j blk2 e1 (List.eq_nil_of_length_eq_zero e2) (e4.trans hi)
 | own b tot off len blk x n cap a h1 ht hi hn hl hcap ha =>
   obtain ⟨blk2,e1,e2,e3,e4⟩:=v.idx b j blk hb h1
   exact .own _ _ _ _ blk2 x n cap a e1 (e2.trans ht) (e4.trans hi) hn hl hcap (by rw [e3];exact ha)
theorem not_OO_view {w0:Base} {w:World} {O:Nat→Prop} {ι ι2:Nat→Option Nat} {H2:List ABlk} (hs:Sit w0 O ι H w) (v:View r ι ι2 H H2) {b x:Nat} {blk:ABlk} (h1:H[b]?=some blk) (hk:r b=none) (hi:ι b=some x):¬OO O ι2 H2 x:=by
 have hbl:b<H.length:=(List.getElem?_eq_some_iff.1 h1).1
 rintro (h|⟨j,hj,hx⟩)
 ·exact hs.disj x b h hbl hi
 ·obtain ⟨b',hb',hr,hx'⟩:=v.back j x hj hx
  have:=hs.inj b b' x hbl hb' hi hx'
  subst this
  rw [hk] at hr;cases hr
theorem PubR.lst {b tot off len:Nat} {blk:ABlk} {ds:List AV} (hk:r b=none) (h1:H[b]?=some blk) (ht:blk.es.length=tot) (hl:off+len≤tot) (hdl:ds.length=len)
 (hd:∀(i:Nat) (e d:AV),i<len→blk.es[off+i]?=some e→ds[i]?=some d→e.cells.length=d.cells.length∧∀(j:Nat) (c c':AV),e.cells[j]?=some c→d.cells[j]?=some c'→PubR r H c c') :
 PubR r H (.own b tot off len) (.lst ds):=fun H2 w0 w O ι ι2 u hs v hu=>by
 have hbl:b<H.length:=(List.getElem?_eq_some_iff.1 h1).1
 cases hu with
 | staleOwn b tot off len blk' a n c h1' h2=>rw [h1] at h1';cases h1';omega
 | ownNil b blk' h1' he hi =>
   have:ds=[]:=List.eq_nil_of_length_eq_zero hdl
   subst this;exact .lnil
 | own b tot off len blk' x n cap a h1' ht' hi hn hl' hcap ha =>
   rw [h1] at h1';cases h1'
   obtain ⟨hx0,c0,hc,hcs,hsz,hel⟩:=hs.heap b blk x h1 hi
   rcases Nat.eq_zero_or_pos len with h0|hpos
   ·have:ds=[]:=List.eq_nil_of_length_eq_zero (by omega)
    subst this
    exact .lst [] a n cap 0 (fun _ _=>undef) (by simp;omega) (by omega) (by have:0≤maxLen:=Nat.zero_le _;omega) (by simp) (by simp) (by simp) (by simp)
   ·obtain ⟨rfl,hmx,c1,ty,fz,hc1,hc2⟩:=ha (.inl (by omega))
    have hnot:¬OO O ι2 H2 x:=not_OO_view hs v h1 hk hi
    have hat:∀(i j:Nat) (d c:AV),ds[i]?=some d→d.cells[j]?=some c→∃u,w.cell? ⟨x,off*blk.sz+i*blk.sz+j,none⟩=some u∧VR w (OO O ι2 H2) ι2 H2 c u:=by
     intro i j d c hdi hcj
     have hil:i<len:=by rw [← hdl];exact (List.getElem?_eq_some_iff.1 hdi).1
     have hei:blk.es[off+i]?=some (blk.es[off+i]'(by omega)):=List.getElem?_eq_getElem (by omega)
     obtain ⟨h3,h4⟩:=hd i _ d hil hei hdi
     have hcj':j<(blk.es[off+i]'(by omega)).cells.length:=by rw [h3];exact (List.getElem?_eq_some_iff.1 hcj).1
     obtain ⟨u,hu,hv⟩:=hel (off+i) j _ _ hei (List.getElem?_eq_getElem hcj')
     obtain ⟨ty3,fz3,hc⟩:=rowAt_el hc ⟨c1,ty,fz,hc1⟩
     refine ⟨u,?_,h4 j _ c (List.getElem?_eq_getElem hcj') hcj H2 w0 w O ι ι2 u hs v hv⟩
     rw [← Nat.add_mul]
     simpa [World.cell?,hc] using hu
    have hsize:∀d∈ds,d.cells.length=blk.sz:=by
     intro d hdm
     obtain ⟨i,hi',hdi⟩:=List.mem_iff_getElem.1 hdm
     have hdi':ds[i]?=some d:=by rw [List.getElem?_eq_getElem hi',hdi]
     have hei:blk.es[off+i]?=some (blk.es[off+i]'(by omega)):=List.getElem?_eq_getElem (by omega)
     obtain ⟨h3,_⟩:=hd i _ d (by omega) hei hdi'
     rw [← h3]
     exact hsz _ (List.getElem_mem _)
    exact .lst ds _ n cap blk.sz (fun i j=>(w.cell? ⟨x,off*blk.sz+i*blk.sz+j,none⟩).getD undef) (by omega) (by omega) (by omega) hsize (fun _ _=>rfl)
     (fun i j d c hdi hcj=>by obtain ⟨u,hu,_⟩:=hat i j d c hdi hcj;exact ⟨hnot,by simp only [hu,Option.getD_some]⟩)
     (fun i j d c hdi hcj=>by obtain ⟨u,hu,hv⟩:=hat i j d c hdi hcj;simpa only [hu,Option.getD_some] using hv)
structure Sel (m:Nat) (r:Nat→Option Nat) (q:Nat→Nat) (H H2:List ABlk):Prop where
 hand:∀b,b<m→r b=some b
 fro:∀j,j<H2.length→q j<H.length∧r (q j)=some j
 too:∀b j,b<H.length→r b=some j→q j=b∧j<H2.length
 blk:∀j blk blk2,H[q j]?=some blk→H2[j]?=some blk2→blk2.ty=blk.ty∧blk2.sz=blk.sz∧blk2.es.length=blk.es.length ∧
  ∀(i:Nat) (e e2:AV),blk.es[i]?=some e→blk2.es[i]?=some e2→e.cells.length=e2.cells.length∧∀(k:Nat) (c c2:AV),e.cells[k]?=some c→e2.cells[k]?=some c2→PubR r H c c2
theorem Sel.view {m:Nat} {q:Nat→Nat} {H2:List ABlk} (s:Sel m r q H H2) (ι:Nat→Option Nat):View r ι (fun j=>ι (q j)) H H2:=
 ⟨fun b j blk hr hb=>by
  have hbl:=(List.getElem?_eq_some_iff.1 hb).1
  obtain ⟨e,hj⟩:=s.too b j hbl hr
  have h2:H2[j]?=some H2[j]:=List.getElem?_eq_getElem hj
  obtain ⟨_,h3,h4,_⟩:=s.blk j blk _ (by rw [e];exact hb) h2
  exact ⟨_,h2,h4,h3,by rw [e]⟩,
  fun j x hj hx=>⟨q j,(s.fro j hj).1,(s.fro j hj).2,hx⟩⟩
theorem Sit.sel {m:Nat} {q:Nat→Nat} {H2:List ABlk} {w0:Base} {w:World} {O:Nat→Prop} {ι:Nat→Option Nat} (hs:Sit w0 O ι H w) (hm:w0.H.length=m) (s:Sel m r q H H2):Sit w0 O (fun j=>ι (q j)) H2 w:=by
 have v:=s.view ι
 have hget:∀j blk2,H2[j]?=some blk2→∃blk,H[q j]?=some blk:=fun j blk2 h=>⟨_,List.getElem?_eq_getElem (s.fro j (List.getElem?_eq_some_iff.1 h).1).1⟩
 refine ⟨fun j blk2 x h2 hi=>?_,fun j blk2 h2 hi=>?_,fun j j' x hj hj' hx hx'=>?_,hs.below,hs.old,fun x j hO hj=>hs.disj x _ hO (s.fro j hj).1,?_⟩
 ·obtain ⟨blk,h1⟩:=hget j blk2 h2
  obtain ⟨e1,e2,e3,e4⟩:=s.blk j blk blk2 h1 h2
  obtain ⟨k1,c,k2,k3,k4,k5⟩:=hs.heap _ blk x h1 hi
  refine ⟨k1,c,by rw [e1];exact k2,by rw [e2,e3];exact k3,fun e he=>?_,fun i k e2' d he hd=>?_⟩
  ·obtain ⟨i,hi',he'⟩:=List.mem_iff_getElem.1 he
   have hei:blk.es[i]?=some (blk.es[i]'(by omega)):=List.getElem?_eq_getElem (by omega)
   obtain ⟨f1,_⟩:=e4 i _ e hei (by rw [List.getElem?_eq_getElem hi',he'])
   rw [← f1,e2]
   exact k4 _ (List.getElem_mem _)
  ·have hil:i<blk.es.length:=by rw [← e3];exact (List.getElem?_eq_some_iff.1 he).1
   have hei:blk.es[i]?=some blk.es[i]:=List.getElem?_eq_getElem hil
   obtain ⟨f1,f2⟩:=e4 i _ e2' hei he
   have hkl:k<blk.es[i].cells.length:=by rw [f1];exact (List.getElem?_eq_some_iff.1 hd).1
   obtain ⟨u,hu,hv⟩:=k5 i k _ _ hei (List.getElem?_eq_getElem hkl)
   exact ⟨u,by rw [e2];exact hu,f2 k _ d (List.getElem?_eq_getElem hkl) hd H2 w0 w O ι _ u hs v hv⟩
 ·obtain ⟨blk,h1⟩:=hget j blk2 h2
  obtain ⟨e1,e2,e3,e4⟩:=s.blk j blk blk2 h1 h2
  have:=hs.empt _ blk h1 hi
  rw [this] at e3
  exact List.eq_nil_of_length_eq_zero e3
 ·have:=hs.inj _ _ x (s.fro j hj).1 (s.fro j' hj').1 hx hx'
  have h1:=(s.fro j hj).2
  rw [this,(s.fro j' hj').2] at h1
  injection h1 with h1;exact h1.symm
 ·have hb:∀b blk,w0.H[b]?=some blk→b<m:=fun b blk h=>by rw [← hm];exact (List.getElem?_eq_some_iff.1 h).1
  refine ⟨fun b blk h=>?_,fun b x blk blk' c ty fz h h2 hl hi hc=>?_⟩
  ·obtain ⟨blk1,k1,k2,k3⟩:=hs.hist.blk b blk h
   obtain ⟨blk2,f1,f2,f3,f4⟩:=v.idx b b blk1 (s.hand b (hb b blk h)) k1
   refine ⟨blk2,f1,by omega,fun e=>?_⟩
   obtain ⟨g1,g2⟩:=k3 (by omega)
   exact ⟨f3.trans g1,f4.trans g2⟩
  ·obtain ⟨blk1,k1,k2,k3⟩:=hs.hist.blk b blk h
   obtain ⟨blk2,f1,f2,f3,f4⟩:=v.idx b b blk1 (s.hand b (hb b blk h)) k1
   rw [h2] at f1;injection f1 with f1;subst f1
   exact hs.hist.size b x blk blk1 c ty fz h k1 (by omega) hi hc
theorem Wk.sel {n:Fr} {q:Nat→Nat} {H2:List ABlk} {E E2:Env} (s:Sel n.m r q H H2) (h:∀p∈E2,PubR r H (lk E p.1) p.2):Wk n ⟨E,H⟩ ⟨E2,H2⟩:=fun w0 O ι a w hs =>
 ⟨_,hs.sit.sel hs.hand s,hs.defers,hs.size,hs.hand,fun t=>by
  rcases lk_mem E2 t with h1|⟨p,hp,h1,h2⟩
  ·show VR _ _ _ _ (lk E2 t) _;rw [h1];exact .bad _
  ·show VR _ _ _ _ (lk E2 t) _;rw [h2];subst h1;exact h p hp H2 w0 w O ι _ _ hs.sit (s.view ι) (hs.vals p.1)⟩
end
def pre (k:Nat) (b:Nat):Option Nat:=if b<k then some b else none
theorem pre_lt {k b:Nat} (h:b<k):pre k b=some b:=if_pos h
theorem pre_ge {k b:Nat} (h:k≤b):pre k b=none:=if_neg (by omega)
abbrev Pub (H:List ABlk) (k:Nat) (a b:AV):Prop:=PubR (pre k) H a b
section
variable {H:List ABlk} {k:Nat}
theorem Pub.pu {a:AV} (h:Pu a):Pub H k a a:=PubR.pu h
theorem Pub.agg {cs ds:List AV} (hl:cs.length=ds.length) (h:∀(j:Nat) (c d:AV),cs[j]?=some c→ds[j]?=some d→Pub H k c d):Pub H k (.agg cs) (.agg ds):=PubR.agg hl h
theorem Pub.tup {cs ds:List AV} (hl:cs.length=ds.length) (h:∀(j:Nat) (c d:AV),cs[j]?=some c→ds[j]?=some d→Pub H k c d):Pub H k (.tup cs) (.tup ds):=PubR.tup hl h
theorem Pub.nilS:Pub H k (.base (.slice none 0 0)) (.lst []):=PubR.nilS
theorem Pub.ptr {b tot i off:Nat} (hb:b<k):Pub H k (.ptr b tot i off) (.ptr b tot i off):=PubR.ptr (pre_lt hb)
theorem Pub.own {b tot off len:Nat} (hb:b<k):Pub H k (.own b tot off len) (.own b tot off len):=PubR.own (pre_lt hb)
theorem Pub.lst {b tot off len:Nat} {blk:ABlk} {ds:List AV} (hk:k≤b) (h1:H[b]?=some blk) (ht:blk.es.length=tot) (hl:off+len≤tot) (hdl:ds.length=len)
 (hd:∀(i:Nat) (e d:AV),i<len→blk.es[off+i]?=some e→ds[i]?=some d→e.cells.length=d.cells.length∧∀(j:Nat) (c c':AV),e.cells[j]?=some c→d.cells[j]?=some c'→Pub H k c c') :
 Pub H k (.own b tot off len) (.lst ds):=PubR.lst (pre_ge hk) h1 ht hl hdl hd
theorem Sel.pre {m:Nat} {H2:List ABlk} (hk:k≤H.length) (hm:m≤k) (hl:H2.length=k) (hb:∀(j:Nat) (blk blk2:ABlk),H[j]?=some blk→H2[j]?=some blk2→blk2.ty=blk.ty∧blk2.sz=blk.sz∧blk2.es.length=blk.es.length ∧
 ∀(i:Nat) (e e2:AV),blk.es[i]?=some e→blk2.es[i]?=some e2→e.cells.length=e2.cells.length∧∀(k':Nat) (c c2:AV),e.cells[k']?=some c→e2.cells[k']?=some c2→Pub H k c c2):Sel m (pre k) id H H2:=
 ⟨fun b h=>pre_lt (by omega),fun j hj=>⟨show j<H.length by omega,pre_lt (show j<k by omega)⟩,(fun b j hb h=>by
  unfold Ab.pre at h
  split at h
  ·injection h with h;subst h;exact ⟨rfl,by omega⟩
  ·cases h),hb⟩
theorem Wk.trim {n:Fr} {E E2:Env} (k:Nat) (hm:n.m≤k) (h:∀p∈E2,Pub H k (lk E p.1) p.2) (hc:∀blk∈H.take k,∀e∈blk.es,∀c∈e.cells,Pub H k c c):Wk n ⟨E,H⟩ ⟨E2,H.take k⟩:=by
 rcases Nat.le_total k H.length with hk|hk
 ·refine Wk.sel (r:=Ab.pre k) (q:=id) (.pre hk hm (by simp;omega) fun j blk blk2 h1 h2=>?_) h
  have hj:j<k:=by have:=(List.getElem?_eq_some_iff.1 h2).1;simp at this;omega
  have hmem:=List.mem_of_getElem? h2
  rw [List.getElem?_take,if_pos hj,h1] at h2
  injection h2 with h2;subst h2
  exact ⟨rfl,rfl,rfl,fun i e e2 he he2=>by
   rw [he] at he2;injection he2 with he2;subst he2
   exact ⟨rfl,fun k' c c2 hc1 hc2=>by
    rw [hc1] at hc2;injection hc2 with hc2;subst hc2
    exact hc blk hmem e (List.mem_of_getElem? he) c (List.mem_of_getElem? hc1)⟩⟩
 ·intro w0 O ι a w hs
  have e:H.take k=H:=List.take_of_length_le hk
  rw [e]
  have v:View (Ab.pre k) ι ι H H:=⟨(fun b j blk hr hb=>by
   unfold Ab.pre at hr
   split at hr
   ·injection hr with hr;subst hr;exact ⟨blk,hb,rfl,rfl,rfl⟩
   ·cases hr),fun j x hj hx=>⟨j,hj,pre_lt (by omega),hx⟩⟩
  exact ⟨ι,hs.sit,hs.defers,hs.size,hs.hand,fun t=>by
   rcases lk_mem E2 t with h1|⟨p,hp,h1,h2⟩
   ·show VR _ _ _ _ (lk E2 t) _;rw [h1];exact .bad _
   ·show VR _ _ _ _ (lk E2 t) _;rw [h2];subst h1;exact h p hp H w0 w O ι ι _ hs.sit v (hs.vals p.1)⟩
end
section
variable {H:List ABlk} {k:Nat}
theorem Wk.nil {n:Fr} {E E2:Env} (ty sz:Nat) (h:∀p∈E2,Le (lk E p.1) p.2∨(lk E p.1=.base (.slice none 0 0)∧p.2=.own H.length 0 0 0)):Wk n ⟨E,H⟩ ⟨E2,H++[⟨ty,sz,[]⟩]⟩:=fun w0 O ι a w hs=>by
 let ι2:Nat→Option Nat:=fun b=>if b=H.length then none else ι b
 have hlt:∀b blk,H[b]?=some blk→(H++[⟨ty,sz,[]⟩])[b]?=some blk∧ι2 b=ι b:=fun b blk hb=>by
  have:b<H.length:=(List.getElem?_eq_some_iff.1 hb).1
  exact ⟨by rw [List.getElem?_append_left this];exact hb,if_neg (by omega)⟩
 have hinv:∀b x,b<(H++[(⟨ty,sz,[]⟩:ABlk)]).length→ι2 b=some x→b<H.length∧ι b=some x:=fun b x hb hx=>by
  simp only [List.length_append,List.length_singleton] at hb
  by_cases e:b=H.length
  ·simp [ι2,e] at hx
  ·exact ⟨by omega,by simpa [ι2,e] using hx⟩
 have hOO:∀x,OO O ι2 (H++[⟨ty,sz,[]⟩]) x→OO O ι H x:=by
  rintro x (h|⟨b,hb,hx⟩)
  ·exact .inl h
  ·obtain ⟨h1,h2⟩:=hinv b x hb hx;exact .inr ⟨b,h1,h2⟩
 have g:Goes w (OO O ι H) ι H w (OO O ι2 (H++[⟨ty,sz,[]⟩])) ι2 (H++[⟨ty,sz,[]⟩]):=
  ⟨fun _ _ _ h=>h,fun _ _ h _ h'=>h (hOO _ h'),fun b blk hb=>⟨blk,(hlt b blk hb).1,Nat.le_refl _,fun _=>⟨rfl,(hlt b blk hb).2⟩⟩,
   fun b x blk blk' c ty fz _ _ _ _ h=>⟨c,ty,fz,h,rfl⟩⟩
 have hinv2:∀b blk x,(H++[(⟨ty,sz,[]⟩:ABlk)])[b]?=some blk→ι2 b=some x→H[b]?=some blk∧ι b=some x:=fun b blk x hb hx=>by
  obtain ⟨h1,h2⟩:=hinv b x (List.getElem?_eq_some_iff.1 hb).1 hx
  rw [List.getElem?_append_left h1] at hb
  exact ⟨hb,h2⟩
 refine ⟨ι2,⟨fun b blk x hb hx=>?_,fun b blk hb hx=>?_,fun b b' x hb hb' hx hx'=>?_,hs.sit.below,hs.sit.old,fun x b hO hb hx=>?_,hs.sit.hist.trans g.grow⟩,hs.defers,hs.size,hs.hand,fun t=>?_⟩
 ·obtain ⟨h1,h2⟩:=hinv2 b blk x hb hx
  obtain ⟨h3,h4⟩:=hs.sit.heap b blk x h1 h2
  exact ⟨h3,h4.mono g rfl⟩
 ·by_cases e:b<H.length
  ·rw [List.getElem?_append_left e] at hb
   exact hs.sit.empt b blk hb (by rw [← (hlt b blk hb).2];exact hx)
  ·rw [List.getElem?_append_right (by omega)] at hb
   cases hd:b-H.length with
   | zero=>rw [hd] at hb;simp at hb;subst hb;rfl
   | succ m=>rw [hd] at hb;simp at hb
 ·obtain ⟨h1,h2⟩:=hinv b x hb hx
  obtain ⟨h3,h4⟩:=hinv b' x hb' hx'
  exact hs.sit.inj b b' x h1 h3 h2 h4
 ·obtain ⟨h1,h2⟩:=hinv b x hb hx
  exact hs.sit.disj x b hO h1 h2
 ·rcases lk_mem E2 t with h1|⟨p,hp,h1,h2⟩
  ·show VR _ _ _ _ (lk E2 t) _;rw [h1];exact .bad _
  ·show VR _ _ _ _ (lk E2 t) _
   rw [h2];subst h1
   have hv:=hs.vals p.1
   rcases h p hp with h|⟨h3,h4⟩
   ·exact h _ _ _ _ _ (hv.mono g)
   ·rw [show lk (⟨E,H⟩:ASt).env p.1=lk E p.1 from rfl,h3] at hv
    have:=hv.base_inv
    rw [h4,this]
    exact .ownNil _ ⟨ty,sz,[]⟩ (by simp) rfl (if_pos rfl)
end
def ldPtr (P:Program) (H:List ABlk) (t:TypeId):AV→Option AV
 | .ptr b tot i off=>match H[b]? with
   | some blk=>if blk.es.length=tot then match blk.es[i]? with
     | some e=>ldE (aggTy P t) (szTy P t) e off
     | none=>none else none
   | none=>none
 | _=>none
def resVal (P:Program) (s:ASt):ResultVar→Option AV
 | .tmp t=>some (lk s.env t)
 | .cell a t=>ldPtr P s.H t (lk s.env a)
def resVals (P:Program) (s:ASt):List ResultVar→Option (List AV)
 | []=>some []
 | r::rs=>match resVal P s r,resVals P s rs with
   | some v,some vs=>some (v::vs)
   | _,_=>none
def packA:List AV→AV
 | [v]=>v
 | vs=>.tup vs
def Ret (P:Program) (rs:List ResultVar) (d:AV) (s:ASt):Prop:=∃vs,resVals P s rs=some vs∧Pub s.H 0 (packA vs) d
def retQ (P:Program) (rs:List ResultVar) (d:AV):Exit→ASt→Prop
 | .normal,s | .ret,s=>Ret P rs d s
 | _,_=>False
def resF (tmps:Array Value):ResultVar→Sem Value
 | .tmp t=>pure (tmps.getD t undef)
 | .cell a t=>do loadVar t (← asAddr (tmps.getD a undef))
section
variable {P:Program} {w:World} {w0:Base} {O:Nat→Prop} {ι:Nat→Option Nat} {n:Fr}
theorem resVal_run {s:ASt} {a:Act} (hs:SR n w0 O s ι a w) {r:ResultVar} {v:AV} (h:resVal P s r=some v) :
 ∃u,(resF a.tmps r).run P w=.ok u w∧VR w (OO O ι s.H) ι s.H v u:=by
 cases r with
 | tmp t =>
   simp only [resVal] at h
   injection h with h;subst h
   exact ⟨_,rfl,hs.vals t⟩
 | cell b t =>
   simp only [resVal] at h
   have h1:=hs.vals b
   generalize lk s.env b=A at h h1
   unfold ldPtr at h
   split at h
   ·split at h
    ·rename_i blk hb
     split at h
     ·rename_i ht
      split at h
      ·rename_i e he
       obtain ⟨y,hy,h2,h3⟩:=h1.ptr_inv hs.sit hb ht he
       obtain ⟨u,hu,hvu⟩:=ldE_run (P:=P) h h3
       exact ⟨u,by simp only [resF,Sem.run_bind,h2,asAddr,Sem.run_pure,Result.andThen_ok,hu],hvu⟩
      ·cases h
     ·cases h
    ·cases h
   ·cases h
theorem results_run {s:ASt} {a:Act} (hs:SR n w0 O s ι a w) {fn:Func} {vs:List AV} (h:resVals P s fn.results.toList=some vs) :
 ∃u,(results fn a.tmps).run P w=.ok u w∧VR w (OO O ι s.H) ι s.H (packA vs) u:=by
 have key:∀(rs:List ResultVar) (vs:List AV),resVals P s rs=some vs→∃us:List Value,us.length=vs.length∧(∀(j:Nat) (c:AV) (u:Value),vs[j]?=some c→us[j]?=some u→VR w (OO O ι s.H) ι s.H c u) ∧
  (rs.mapM (resF a.tmps)).run P w=.ok us w:=by
  intro rs
  induction rs with
  | nil=>intro vs h;simp only [resVals] at h;injection h with h;subst h;exact ⟨[],rfl,by simp,rfl⟩
  | cons r rs ih =>
    intro vs h
    simp only [resVals] at h
    split at h
    ·rename_i v vs' hv hvs
     injection h with h;subst h
     obtain ⟨us,h1,h2,h3⟩:=ih vs' hvs
     obtain ⟨u,h4,h5⟩:=resVal_run hs hv
     refine ⟨u::us,by simp [h1],fun j c u' hc hu=>?_,?_⟩
     ·cases j with
      | zero=>simp at hc hu;subst hc;subst hu;exact h5
      | succ j=>exact h2 j c u' (by simpa using hc) (by simpa using hu)
     ·rw [List.mapM_cons]
      simp only [Sem.run_bind,h3,h4,Result.andThen_ok,Sem.run_pure]
    ·cases h
 obtain ⟨us,h1,h2,h3⟩:=key _ vs h
 have hres:results fn a.tmps=(fn.results.mapM (resF a.tmps) >>= fun vs=>pure (if h:vs.size=1 then vs[0] else .tuple vs)):=rfl
 rw [hres,Array.mapM_eq_mapM_toList]
 simp only [bind_map_left,Sem.run_bind,h3,Result.andThen_ok,Sem.run_pure]
 refine ⟨_,rfl,?_⟩
 match vs,us,h1,h2 with
 | [v],[u],_,h2=>exact h2 0 v u rfl rfl
 | [],[],_,h2=>exact .tup [] #[] rfl (by simp)
 | v::v2::vs,u::u2::us,h1,h2 =>
   rw [dif_neg (by simp)]
   exact .tup _ _ (by simp at h1 ⊢;exact h1) fun j c u hc hu=>h2 j c u hc (by simpa using hu)
theorem FnM.introE {m:List (Nat × Obj)} (X:Env) (hX:X=[]∨X=[(memSlot,.mem m)]) {f:FuncId} {fn:Func} {c:Code} {args:List AV} {d:AV} (hf:P.funcs[f]?=some fn) (hn:(fn.name == "runtime.NumGoroutine")=false) (hb:fn.body=some c) (ha:args.length≤fn.ntmps)
 (h:AWp P ⟨fn.ntmps,0⟩ c (retQ P fn.results.toList d) ⟨(args.zipIdx.map fun (a,i)=>(i,a))++X,[]⟩) (hms:X=[]∨fn.ntmps≤memSlot):FnM P m f args d:=by
 refine ⟨⟨fn,hf,hn,by rw [hb];rfl⟩,fun w O vs hmem hO hl hv=>?_⟩
 refine calls_of_wp hf hb ?_
 have hlk:∀(l:List AV) (k t:Nat),lk ((l.zipIdx k).map (fun (a,i)=>(i,a))++X) t=if k≤t∧t<k+l.length then (l[t-k]?).getD .bad else lk X t:=by
  intro l
  induction l with
  | nil=>intro k t;simp;intro h1 h2;omega
  | cons x l ih =>
    intro k t
    simp only [List.zipIdx_cons,List.map_cons,List.cons_append,lk,ih,List.length_cons]
    split
    ·rename_i e;subst e;simp
    ·rename_i e
     by_cases hlt:k≤t∧t<k+(l.length+1)
     ·rw [if_pos (by omega),if_pos hlt,show t-k=(t-(k+1))+1 by omega];rfl
     ·rw [if_neg (by omega),if_neg hlt]
 have hs:SR ⟨fn.ntmps,0⟩ (base0 w) O ⟨args.zipIdx.map (fun (a,i)=>(i,a))++X,[]⟩ noB { tmps:=vs++Array.replicate (fn.ntmps-vs.size) undef,defers:=[] } w:=by
  refine ⟨⟨fun b blk x h=>by simp at h,fun b blk h=>by simp at h,fun b b' x h=>by simp at h,Bel.refl ..,hO,fun x b _ h=>by simp at h,.refl ..⟩,rfl,by simp;omega,rfl,fun t=>?_⟩
  show VR _ _ _ _ (lk (args.zipIdx.map (fun (a,i)=>(i,a))++X) t) _
  rw [hlk args 0 t]
  split
  ·rename_i htt
   simp only [Nat.sub_zero]
   have htl:t<args.length:=by omega
   rw [List.getElem?_eq_getElem htl,Option.getD_some]
   have hu:vs[t]?=some vs[t]:=Array.getElem?_eq_getElem (by omega)
   have h1:=hv t _ _ (List.getElem?_eq_getElem htl) hu
   rw [Array.getD_eq_getD_getElem?,Array.getElem?_append_left (by omega),hu]
   refine h1.lessO fun y hy=>?_
   rcases hy with hy|⟨b,hb,_⟩
   ·exact hy
   ·simp at hb
  ·rcases hX with rfl|rfl
   ·exact .bad _
   ·show VR _ _ _ _ (if memSlot=t then AV.mem m else .bad) _
    split
    ·refine .mem _ _ fun p hp=>⟨fun hO'=>?_,(hmem p hp).2⟩
     rcases hO' with hO'|⟨b,hb,_⟩
     ·exact (hmem p hp).1 hO'
     ·simp at hb
    ·exact .bad _
 refine wp_mono (h (base0 w) O noB _ w hs) ?_
 have fin:∀(s':ASt) (ι':Nat→Option Nat) (a:Act) (w':World),Ret P fn.results.toList d s'→SR ⟨fn.ntmps,0⟩ (base0 w) O s' ι' a w' →
  a.defers=[]∧∃v,(results fn a.tmps).run P w'=.ok v w'∧∃v',Ending.returned v=.returned v'∧VR w' O noB [] d v'∧Below w.heap.size w w':=by
  rintro s' ι' a w' ⟨rs,h1,h2⟩ hs'
  obtain ⟨u,h3,h4⟩:=results_run hs' h1
  refine ⟨hs'.defers,u,h3,u,rfl,?_,hs'.sit.below.below⟩
  have h5:=h2 [] (base0 w) w' O ι' ι' u hs'.sit ⟨fun b j blk hr=>by simp [pre] at hr,fun j x hj=>by simp at hj⟩ h4
  have h6:VR w' O ι' [] d u:=h5.lessO fun x hx=>.inl hx
  exact h6.mono ⟨fun _ _ _ h=>h,fun _ _ h _=>h,fun b blk h=>by simp at h,fun b x blk blk' c ty fz h=>by simp at h⟩
 rintro e a w' ⟨s',ι',h1,h2⟩
 cases e with
 | normal=>exact fin s' ι' a w' h1 h2
 | ret=>exact fin s' ι' a w' h1 h2
 | _=>exact h1.elim
theorem FnM.intro {m:List (Nat × Obj)} {f:FuncId} {fn:Func} {c:Code} {args:List AV} {d:AV} (hf:P.funcs[f]?=some fn) (hn:(fn.name == "runtime.NumGoroutine")=false) (hb:fn.body=some c) (ha:args.length≤fn.ntmps)
 (h:AWp P ⟨fn.ntmps,0⟩ c (retQ P fn.results.toList d) ⟨(args.zipIdx.map fun (a,i)=>(i,a))++[(memSlot,.mem m)],[]⟩) (hms:fn.ntmps≤memSlot):FnM P m f args d:=.introE _ (.inr rfl) hf hn hb ha h (.inr hms)
theorem Fn.intro {f:FuncId} {fn:Func} {c:Code} {args:List AV} {d:AV} (hf:P.funcs[f]?=some fn) (hn:(fn.name == "runtime.NumGoroutine")=false) (hb:fn.body=some c) (ha:args.length≤fn.ntmps)
 (h:AWp P ⟨fn.ntmps,0⟩ c (retQ P fn.results.toList d) ⟨args.zipIdx.map fun (a,i)=>(i,a),[]⟩):Fn P f args d:=.introE [] (.inl rfl) hf hn hb ha (by rw [List.append_nil];exact h) (.inl rfl)
end
end Go.Ab
namespace Go.Ab
open Go Go.RowKit
section
variable {P:Program} {H:List ABlk} {ρ:Operand→AV}
theorem ql_call {c:Call} {fx:Operand} {f:FuncId} {caps:List AV} {d:AV} (hc:c.callee=.value fx)
 (hf:ρ fx=.clo f caps) (hp:∀a∈c.args.toList.map ρ++caps,Pu a) {m:List (Nat × Obj)} (h:FnM P m f (c.args.toList.map ρ++caps) d) (hm:MemIn m ρ:=by exact .inl rfl):QL P H ρ (.call c) d:=
 fun o ho=>q_call ho hc hf hp h hm
theorem ql_fun {op:Op} {v:AV} (h:qfun P H ρ op=some v):QL P H ρ op v:=fun o ho=>qfun_sound (by rw [ho];exact h)
theorem QL.of_run {op:Op} {v:AV}
 (h:∀(w0:Base) (O:Nat→Prop) (ι:Nat→Option Nat) (a:Act) (w:World),Sit w0 O ι H w →
   (∀x,x∈op.operands→VR w (OO O ι H) ι H (ρ x) (a.eval x))→∀o:Oper,o.op=op→∃u,(execOp a.eval o).run P w=.ok (.value u) w∧VR w (OO O ι H) ι H v u):QL P H ρ op v:=
 fun o ho=>QOp.of_run fun w0 O ι a w hs hv=>h w0 O ι a w hs (by rw [← ho];exact hv) o ho
theorem sizeOf_run {w:World} {t:TypeId} {n:Nat} (h:szTy P t=some n):(sizeOf t).run P w=.ok n w:=by
 unfold szTy at h
 cases hi:P.info? t with
 | none=>simp [hi] at h
 | some i=>simp [hi] at h;simp [sizeOf,typeInfo,hi,h]
theorem add_eq (a:Addr) (n:Nat) (h:a.spot=none):a.add n=⟨a.block,a.off+n,none⟩:=by
 unfold Addr.add
 split
 ·rename_i h0;cases a;simp_all
 ·rfl
theorem ql_indexAddr_lst {t el:TypeId} {x i:Operand} {k:IntKind} {n:Int} {es:List AV} {e:AV} (hx:ρ x=.lst es) (hi:ρ i=.base (.int k n)) (ht:P.underlying t=some (.slice el))
 (h0:0≤n) (he:es[n.toNat]?=some e) (hsz:szTy P el=some e.cells.length):QL P H ρ (.indexAddr t x i) (.iptr e 0):=by
 refine QL.of_run fun w0 O ι a w hs hv o ho=>?_
 have h1:=hv x (by simp [Op.operands])
 have h2:=hv i (by simp [Op.operands])
 rw [hx] at h1
 rw [hi] at h2
 have h2:=h2.base_inv
 generalize hX:a.eval x=X at h1
 have hlt:n.toNat<es.length:=(List.getElem?_eq_some_iff.1 he).1
 cases h1 with
 | lnil=>simp at hlt
 | lst es ad m cap s val hn hcap hmax hlen hspot hc hvv =>
   have hmem:e∈es:=List.mem_of_getElem? he
   have hs':=hlen e hmem
   have hsp:=hspot e hmem
   refine ⟨.pointer (some (ad.add (n.toNat*e.cells.length))),?_,?_⟩
   ·have hb:0≤n∧n<(m:Int):=⟨h0,by omega⟩
    simp only [execOp,ho,hX,h2,Instr.indexAt,asIntOf_run,run_underlying ht,sizeOf_run hsz,Sem.run_bind,Sem.run_pure,Result.andThen_ok,Sem.run_ite,if_pos hb]
   ·rw [add_eq _ _ hsp]
    refine .iptr e 0 _ (val n.toNat) rfl (Nat.zero_le _) (fun j c hj=>?_) fun j c hj=>hvv _ _ _ _ he hj
    have:=hc _ _ _ _ he hj
    rw [hs']
    exact this
theorem ql_indexAddr_own {t el:TypeId} {x i:Operand} {k:IntKind} {n:Int} {b tot off len:Nat} {blk:ABlk} (hx:ρ x=.own b tot off len) (hi:ρ i=.base (.int k n)) (ht:P.underlying t=some (.slice el))
 (hb:H[b]?=some blk) (htot:blk.es.length=tot) (h0:0≤n) (hn:n<len) (hsz:szTy P el=some blk.sz):QL P H ρ (.indexAddr t x i) (.ptr b tot (off+n.toNat) 0):=by
 refine QL.of_run fun w0 O ι a w hs hv o ho=>?_
 have h1:=hv x (by simp [Op.operands])
 have h2:=hv i (by simp [Op.operands])
 rw [hx] at h1
 rw [hi] at h2
 have h2:=h2.base_inv
 generalize hX:a.eval x=X at h1
 cases h1 with
 | staleOwn b tot off len blk' a n c hb' hlt=>rw [hb] at hb';cases hb';omega
 | ownNil b blk' hb' he hi'=>omega
 | own b tot off len blk' y m cap ad hb' ht' hi' hn' hl hcap ha =>
   rw [hb] at hb';cases hb'
   obtain ⟨rfl,_,cc,cty,cfz,hcc,_⟩:=ha (.inl (by omega))
   refine ⟨.pointer (some ⟨y,off*blk.sz+n.toNat*blk.sz,none⟩),?_,?_⟩
   ·have hbd:0≤n∧n<(m:Int):=⟨h0,by omega⟩
    have hadd:=add_eq ⟨y,off*blk.sz,none⟩ (n.toNat*blk.sz) rfl
    simp only [execOp,ho,hX,h2,Instr.indexAt,asIntOf_run,run_underlying ht,sizeOf_run hsz,Sem.run_bind,Sem.run_pure,Result.andThen_ok,Sem.run_ite,if_pos hbd,hadd]
   ·rw [← Nat.add_mul]
    exact .ptr b tot (off+n.toNat) 0 blk y hb ht' hi' ⟨cc,cty,cfz,hcc⟩
theorem ql_indexAddr_ptr {t el:TypeId} {x i:Operand} {k:IntKind} {n:Int} {b tot i0 off len sz:Nat} (hx:ρ x=.ptr b tot i0 off) (hf:fresh H b tot=true) (hi:ρ i=.base (.int k n)) (ht:P.underlying t=some (.array len el))
 (h0:0≤n) (hn:n<len) (hsz:szTy P el=some sz):QL P H ρ (.indexAddr t x i) (.ptr b tot i0 (off+n.toNat*sz)):=by
 refine QL.of_run fun w0 O ι a w hs hv o ho=>?_
 have h1:=hv x (by simp [Op.operands])
 have h2:=hv i (by simp [Op.operands])
 rw [hx] at h1
 rw [hi] at h2
 have h2:=h2.base_inv
 obtain ⟨y,blk,hy,hb,ht',hX,hcx⟩:=h1.ptr_fresh hf
 refine ⟨.pointer (some ⟨y,i0*blk.sz+(off+n.toNat*sz),none⟩),?_,.ptr b tot i0 _ blk y hb ht' hy hcx⟩
 have hbd:0≤n∧n<(len:Int):=⟨h0,hn⟩
 have hadd:=add_eq ⟨y,i0*blk.sz+off,none⟩ (n.toNat*sz) rfl
 simp only [execOp,ho,hX,h2,Instr.indexAt,asIntOf_run,run_underlying ht,sizeOf_run hsz,Sem.run_bind,Sem.run_pure,Result.andThen_ok,Sem.run_ite,if_pos hbd,hadd,Instr.sureAddr,Nat.add_assoc]
theorem ql_index_arr {t el:TypeId} {x i:Operand} {k:IntKind} {n:Int} {cs:List AV} {v:AV} {len sz:Nat} (hx:ρ x=.agg cs) (hi:ρ i=.base (.int k n)) (ht:P.underlying t=some (.array len el))
 (h0:0≤n) (hn:n<len) (hsz:szTy P el=some sz) (hv':ldE (aggTy P el) (some sz) (.agg cs) (n.toNat*sz)=some v):QL P H ρ (.index t x i) v:=by
 refine QL.of_run fun w0 O ι a w hs hv o ho=>?_
 have h1:=hv x (by simp [Op.operands])
 have h2:=hv i (by simp [Op.operands])
 rw [hx] at h1
 rw [hi] at h2
 have h2:=h2.base_inv
 obtain ⟨arr,hX,h3,h4⟩:=h1.agg_inv
 obtain ⟨u,hr,hvu⟩:=part_run (P:=P) h3 h4 (by rw [hsz];exact hv')
 have hbd:0≤n∧n<(len:Int):=⟨h0,hn⟩
 exact ⟨u,by simp only [execOp,ho,hX,h2,Instr.index,asIntOf_run,run_underlying ht,sizeOf_run hsz,Sem.run_bind,Sem.run_pure,Result.andThen_ok,Sem.run_ite,if_pos hbd,hr],hvu⟩
def bnd (ρ:Operand→AV) (d:Nat):Option Operand→Option Nat
 | none=>some d
 | some x=>match ρ x with
   | .base (.int _ n)=>if 0≤n then some n.toNat else none
   | _=>none
theorem sliceBound_run {w:World} {k:IntKind} {n:Int} {y:Nat} {code:BoundsCode} (h0:0≤n) (h:n≤y):(Instr.sliceBound (.int k n) y code).run P w=.ok n.toNat w:=by
 simp only [Instr.sliceBound,asIntOf_run,Sem.run_bind,Result.andThen_ok,Sem.run_ite,if_pos (And.intro h0 h),Sem.run_pure]
theorem sliceBounds_run {w:World} {a:Act} {O:Nat→Prop} {ι:Nat→Option Nat} {isSl:Bool} {len cap l h:Nat} {lo hi:Option Operand} (hv:∀x,(lo=some x∨hi=some x)→VR w O ι H (ρ x) (a.eval x))
 (hlo:bnd ρ 0 lo=some l) (hhi:bnd ρ len hi=some h) (hlh:l≤h) (hc:h≤cap):(Instr.sliceBounds isSl len cap (lo.map a.eval) (hi.map a.eval) none).run P w=.ok (l,h,cap) w:=by
 have hl:∀x,lo=some x→∃k n,a.eval x=.int k n∧0≤n∧l=n.toNat:=by
  intro x hx
  subst hx
  simp only [bnd] at hlo
  split at hlo
  ·rename_i k n hρ
   split at hlo
   ·rename_i h0
    injection hlo with hlo
    have:=hv x (.inl rfl);rw [hρ] at this
    exact ⟨k,n,this.base_inv,h0,hlo.symm⟩
   ·cases hlo
  ·cases hlo
 have hh:∀x,hi=some x→∃k n,a.eval x=.int k n∧0≤n∧h=n.toNat:=by
  intro x hx
  subst hx
  simp only [bnd] at hhi
  split at hhi
  ·rename_i k n hρ
   split at hhi
   ·rename_i h0
    injection hhi with hhi
    have:=hv x (.inr rfl);rw [hρ] at this
    exact ⟨k,n,this.base_inv,h0,hhi.symm⟩
   ·cases hhi
  ·cases hhi
 unfold Instr.sliceBounds
 cases hi with
 | none =>
   simp only [bnd] at hhi
   injection hhi with hhi
   cases lo with
   | none =>
     simp only [bnd] at hlo
     injection hlo with hlo
     subst hlo;subst hhi
     simp only [Option.map_none,Sem.run_bind,Sem.run_pure,Result.andThen_ok]
   | some x =>
     obtain ⟨k,n,h1,h2,h3⟩:=hl x rfl
     subst hhi;subst h3
     simp only [Option.map_none,Option.map_some,Sem.run_bind,Sem.run_pure,Result.andThen_ok,h1,sliceBound_run h2 (show n≤(len:Int) by omega)]
 | some y =>
   obtain ⟨k',n',h1',h2',h3'⟩:=hh y rfl
   subst h3'
   cases lo with
   | none =>
     simp only [bnd] at hlo
     injection hlo with hlo
     subst hlo
     simp only [Option.map_none,Option.map_some,Sem.run_bind,Sem.run_pure,Result.andThen_ok,h1',sliceBound_run h2' (show n'≤(cap:Int) by omega)]
   | some x =>
     obtain ⟨k,n,h1,h2,h3⟩:=hl x rfl
     subst h3
     simp only [Option.map_some,Sem.run_bind,Sem.run_pure,Result.andThen_ok,h1,h1',sliceBound_run h2' (show n'≤(cap:Int) by omega),sliceBound_run h2 (show n≤(n'.toNat:Int) by omega)]
theorem ql_slice_lst {t el:TypeId} {x:Operand} {lo hi:Option Operand} {es:List AV} {l h sz:Nat} (hx:ρ x=.lst es) (ht:P.underlying t=some (.slice el)) (hlo:bnd ρ 0 lo=some l) (hhi:bnd ρ es.length hi=some h)
 (hlh:l≤h) (hh:h≤es.length) (hsz:szTy P el=some sz) (hes:∀e∈es,e.cells.length=sz):QL P H ρ (.slice t x lo hi none) (.lst ((es.drop l).take (h-l))):=by
 refine QL.of_run fun w0 O ι a w hs hv o ho=>?_
 have h1:=hv x (by simp [Op.operands])
 have hv2:∀y,(lo=some y∨hi=some y)→VR w (OO O ι H) ι H (ρ y) (a.eval y):=by
  rintro y (rfl|rfl)<;>exact hv y (by simp [Op.operands])
 rw [hx] at h1
 generalize hX:a.eval x=X at h1
 cases h1 with
 | lnil =>
   simp only [List.length_nil] at hhi hh
   have hr:=sliceBounds_run (P:=P) (cap:=0) (isSl:=true) hv2 hlo hhi hlh (by omega)
   have:l=0:=by omega
   have:h=0:=by omega
   subst l;subst h
   refine ⟨.slice none 0 0,?_,by simpa using VR.lnil⟩
   simp only [execOp,ho,hX,Instr.sliceAt,run_underlying ht,Instr.slice,Option.map_none,hr,sizeOf_run hsz,Sem.run_bind,Sem.run_pure,Result.andThen_ok,if_true,Nat.sub_zero]
 | lst es ad m cap s val hn hcap hmax hlen hspot hc hvv =>
   subst hn
   have hr:=sliceBounds_run (P:=P) (cap:=cap) (isSl:=true) hv2 hlo hhi hlh (by omega)
   have hmem:∀e,e∈(es.drop l).take (h-l)→e∈es:=fun e he=>List.mem_of_mem_drop (List.mem_of_mem_take he)
   have hget:∀i e,((es.drop l).take (h-l))[i]?=some e→es[l+i]?=some e:=by
    intro i e he
    rw [List.getElem?_take] at he
    split at he
    ·rwa [List.getElem?_drop] at he
    ·cases he
   by_cases hcl:cap=l
   ·refine ⟨.slice (some ad) (h-l) (cap-l),?_,?_⟩
    ·simp only [execOp,ho,hX,Instr.sliceAt,run_underlying ht,Instr.slice,Option.map_none,hr,sizeOf_run hsz,Sem.run_bind,Sem.run_pure,Result.andThen_ok,if_pos hcl]
    ·have:(es.drop l).take (h-l)=[]:=by simp;omega
     rw [this]
     exact .lst [] ad _ _ 0 (fun _ _=>undef) (by simp;omega) (by omega) (by have:0≤maxLen:=Nat.zero_le _;omega) (by simp) (by simp) (by simp) (by simp)
   ·refine ⟨.slice (some (ad.add (l*sz))) (h-l) (cap-l),?_,?_⟩
    ·simp only [execOp,ho,hX,Instr.sliceAt,run_underlying ht,Instr.slice,Option.map_none,hr,sizeOf_run hsz,Sem.run_bind,Sem.run_pure,Result.andThen_ok,if_neg hcl,Option.map_some]
    ·refine .lst _ _ _ _ sz (fun i j=>val (l+i) j) (by simp;omega) (by omega) (by omega) (fun e he=>hes e (hmem e he)) (fun e he=>?_) (fun i j e c he hj=>?_) fun i j e c he hj=>hvv _ _ _ _ (hget i e he) hj
     ·rw [add_eq _ _ (hspot e (hmem e he))]
     ·have he':=hget i e he
      have hs':s=sz:=by rw [← hlen e (List.mem_of_getElem? he'),hes e (List.mem_of_getElem? he')]
      have:=hc _ _ _ _ he' hj
      rw [add_eq _ _ (hspot e (List.mem_of_getElem? he'))]
      rw [hs',Nat.add_mul,← Nat.add_assoc] at this
      exact this
end
end Go.Ab
