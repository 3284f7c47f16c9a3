/- The abstract values and the relation between them and Go values in a world. -/
import Derived.WalkKit
import Derived.Orders
import Derived.Deep.MidRow
import Derived.WalkLawsBesides
set_option linter.unusedSimpArgs false
set_option linter.unusedVariables false
namespace Go.Ab
open Go Go.RowKit
inductive AV where
 | base (v:Value)
 | lst (es:List AV)
 | agg (cs:List AV)
 | tup (vs:List AV)
 | iptr (e:AV) (off:Nat)
 | own (b tot off len:Nat)
 | ptr (b tot i off:Nat)
 | clo (f:FuncId) (caps:List AV)
 | under (c:Bool) (a:AV)
 | anyb
 | view (b tot i off n:Nat)
 | mapv (b:Nat)
 | anyp
 | mem (cs:List (Nat × Obj))
 | iterv (b:Nat)
 | clip (a:AV)
 | bad
 deriving Inhabited
def memSlot:Nat:=1000000
def AV.cells:AV→List AV
 | .agg cs=>cs
 | a=>[a]
structure ABlk where
 ty:TypeId
 sz:Nat
 es:List AV
def rng (ι:Nat→Option Nat) (H:List ABlk) (x:Nat):Prop:=∃b,b<H.length∧ι b=some x
inductive VR (w:World) (O:Nat→Prop) (ι:Nat→Option Nat) (H:List ABlk):AV→Value→Prop
 | base (v:Value):VR w O ι H (.base v) v
 | lnil:VR w O ι H (.lst []) (.slice none 0 0)
 | lst (es:List AV) (a:Addr) (n cap s:Nat) (val:Nat→Nat→Value) (hn:n=es.length) (hcap:n≤cap) (hmax:n≤maxLen)
    (hlen:∀e∈es,e.cells.length=s)
    (hspot:∀e∈es,a.spot=none)
    (hc:∀(i j:Nat) (e c:AV),es[i]?=some e→e.cells[j]?=some c→¬O a.block∧w.cell? ⟨a.block,a.off+i*s+j,none⟩=some (val i j))
    (hv:∀(i j:Nat) (e c:AV),es[i]?=some e→e.cells[j]?=some c→VR w O ι H c (val i j)) :
    VR w O ι H (.lst es) (.slice (some a) n cap)
 | agg (cs:List AV) (arr:Array Value) (hlen:arr.size=cs.length)
    (h:∀(j:Nat) (c:AV) (u:Value),cs[j]?=some c→arr[j]?=some u→VR w O ι H c u):VR w O ι H (.agg cs) (.agg arr)
 | tup (cs:List AV) (arr:Array Value) (hlen:arr.size=cs.length)
    (h:∀(j:Nat) (c:AV) (u:Value),cs[j]?=some c→arr[j]?=some u→VR w O ι H c u):VR w O ι H (.tup cs) (.tuple arr)
 | clo (f:FuncId) (cs:List AV) (arr:Array Value) (hlen:arr.size=cs.length)
    (h:∀(j:Nat) (c:AV) (u:Value),cs[j]?=some c→arr[j]?=some u→VR w O ι H c u):VR w O ι H (.clo f cs) (.func (.func f) #[] arr)
 | iptr (e:AV) (off:Nat) (a:Addr) (val:Nat→Value) (hs:a.spot=none) (hoff:off≤a.off)
    (hc:∀(j:Nat) (c:AV),e.cells[j]?=some c→¬O a.block∧w.cell? ⟨a.block,a.off-off+j,none⟩=some (val j))
    (hv:∀(j:Nat) (c:AV),e.cells[j]?=some c→VR w O ι H c (val j)) :
    VR w O ι H (.iptr e off) (.pointer (some a))
 | staleOwn (b tot off len:Nat) (blk:ABlk) (a:Option Addr) (n c:Nat) (hb:H[b]?=some blk) (h:tot<blk.es.length):VR w O ι H (.own b tot off len) (.slice a n c)
 | stalePtr (b tot i off:Nat) (blk:ABlk) (a:Option Addr) (hb:H[b]?=some blk) (h:tot<blk.es.length):VR w O ι H (.ptr b tot i off) (.pointer a)
 | ownNil (b:Nat) (blk:ABlk) (h:H[b]?=some blk) (he:blk.es=[]) (hi:ι b=none):VR w O ι H (.own b 0 0 0) (.slice none 0 0)
 | own (b tot off len:Nat) (blk:ABlk) (x n cap:Nat) (a:Addr) (hb:H[b]?=some blk) (ht:blk.es.length=tot) (hi:ι b=some x) (hn:n=len)
    (hl:off+len≤tot) (hcap:len≤cap)
    (ha:cap≠0∨off=0→a=⟨x,off*blk.sz,none⟩∧cap≤maxLen∧∃c ty fz,w.heap[x]?=some (.cells c ty fz)∧(off+cap)*blk.sz=c.size) :
    VR w O ι H (.own b tot off len) (.slice (some a) n cap)
 | ptr (b tot i off:Nat) (blk:ABlk) (x:Nat) (hb:H[b]?=some blk) (ht:blk.es.length=tot) (hi:ι b=some x) (hcx:∃c ty fz,w.heap[x]?=some (.cells c ty fz)) :
    VR w O ι H (.ptr b tot i off) (.pointer (some ⟨x,i*blk.sz+off,none⟩))
 | under (c:Bool) (a:AV) (v:Value) (h0:c=false→v=undef) (h:c=true→VR w O ι H a v):VR w O ι H (.under c a) v
 | anyb (b:Bool):VR w O ι H .anyb (.bool b)
 | staleView (b tot i off n:Nat) (blk:ABlk) (a:Option Addr) (m c:Nat) (hb:H[b]?=some blk) (h:tot<blk.es.length):VR w O ι H (.view b tot i off n) (.slice a m c)
 | view (b tot i off n:Nat) (blk:ABlk) (x cap:Nat) (hb:H[b]?=some blk) (ht:blk.es.length=tot) (hi:ι b=some x) (hcx:∃c ty fz,w.heap[x]?=some (.cells c ty fz)) (hcap:n≤cap) (hmax:n≤maxLen) :
    VR w O ι H (.view b tot i off n) (.slice (some ⟨x,i*blk.sz+off,none⟩) n cap)
 | staleMap (b:Nat) (blk:ABlk) (a:Option Nat) (hb:H[b]?=some blk) (h:1<blk.es.length):VR w O ι H (.mapv b) (.map a)
 | mapv (b:Nat) (blk:ABlk) (x:Nat) (hb:H[b]?=some blk) (ht:blk.es.length=1) (hi:ι b=some x):VR w O ι H (.mapv b) (.map (some x))
 | anyp (a:Option Addr):VR w O ι H .anyp (.pointer a)
 | mem (cs:List (Nat × Obj)) (v:Value) (h:∀p∈cs,¬O p.1∧w.heap[p.1]?=some p.2):VR w O ι H (.mem cs) v
 | staleIter (b:Nat) (blk:ABlk) (a:Option Addr) (hb:H[b]?=some blk) (h:1<blk.es.length):VR w O ι H (.iterv b) (.pointer a)
 | iterv (b:Nat) (blk:ABlk) (x:Nat) (hb:H[b]?=some blk) (ht:blk.es.length=1) (hi:ι b=some x):VR w O ι H (.iterv b) (.pointer (some ⟨x,0,none⟩))
 | clip (a:AV) (ad:Option Addr) (n:Nat) (h:VR w O ι H a (.slice ad n n)):VR w O ι H (.clip a) (.slice ad n n)
 | bad (v:Value):VR w O ι H .bad v
structure Grow (w:World) (ι:Nat→Option Nat) (H:List ABlk) (w':World) (ι':Nat→Option Nat) (H':List ABlk):Prop where
 blk:∀(b:Nat) (blk:ABlk),H[b]?=some blk→∃blk',H'[b]?=some blk'∧blk.es.length≤blk'.es.length∧(blk'.es.length=blk.es.length→blk'.sz=blk.sz∧ι' b=ι b)
 size:∀(b x:Nat) (blk blk':ABlk) (c:Array Value) (ty:TypeId) (fz:Nat × Nat),H[b]?=some blk→H'[b]?=some blk'→blk'.es.length=blk.es.length→ι b=some x→w.heap[x]?=some (.cells c ty fz) →
  ∃c' ty' fz',w'.heap[x]?=some (.cells c' ty' fz')∧c'.size=c.size
theorem Grow.refl (w:World) (ι:Nat→Option Nat) (H:List ABlk):Grow w ι H w ι H:=
 ⟨fun b blk h=>⟨blk,h,Nat.le_refl _,fun _=>⟨rfl,rfl⟩⟩,fun b x blk blk' c ty fz _ _ _ _ h=>⟨c,ty,fz,h,rfl⟩⟩
theorem Grow.trans {w1 w2 w3:World} {ι1 ι2 ι3:Nat→Option Nat} {H1 H2 H3:List ABlk} (h:Grow w1 ι1 H1 w2 ι2 H2) (k:Grow w2 ι2 H2 w3 ι3 H3):Grow w1 ι1 H1 w3 ι3 H3:=by
 refine ⟨fun b blk hb=>?_,fun b x blk blk' c ty fz h1 h3 hl hi hc=>?_⟩
 ·obtain ⟨b2,e2,l2,f2⟩:=h.blk b blk hb
  obtain ⟨b3,e3,l3,f3⟩:=k.blk b b2 e2
  refine ⟨b3,e3,Nat.le_trans l2 l3,fun e=>?_⟩
  obtain ⟨s2,i2⟩:=f2 (by omega)
  obtain ⟨s3,i3⟩:=f3 (by omega)
  exact ⟨s3.trans s2,i3.trans i2⟩
 ·obtain ⟨b2,e2,l2,f2⟩:=h.blk b blk h1
  obtain ⟨b3,e3,l3,f3⟩:=k.blk b b2 e2
  rw [h3] at e3;injection e3 with e3;subst e3
  obtain ⟨s2,i2⟩:=f2 (by omega)
  obtain ⟨c2,ty2,fz2,h5,h6⟩:=h.size b x blk b2 c ty fz h1 e2 (by omega) hi hc
  obtain ⟨c3,ty3,fz3,h7,h8⟩:=k.size b x b2 blk' c2 ty2 fz2 e2 h3 (by omega) (i2.trans hi) h5
  exact ⟨c3,ty3,fz3,h7,h8.trans h6⟩
structure Goes (w:World) (O:Nat→Prop) (ι:Nat→Option Nat) (H:List ABlk) (w':World) (O':Nat→Prop) (ι':Nat→Option Nat) (H':List ABlk):Prop where
 obj:∀(p:Nat) (u:Obj),¬O p→w.heap[p]?=some u→w'.heap[p]?=some u
 outo:∀(p:Nat) (u:Obj),¬O p→w.heap[p]?=some u→¬O' p
 blk:∀(b:Nat) (blk:ABlk),H[b]?=some blk→∃blk',H'[b]?=some blk'∧blk.es.length≤blk'.es.length∧(blk'.es.length=blk.es.length→blk'.sz=blk.sz∧ι' b=ι b)
 size:∀(b x:Nat) (blk blk':ABlk) (c:Array Value) (ty:TypeId) (fz:Nat × Nat),H[b]?=some blk→H'[b]?=some blk'→blk'.es.length=blk.es.length→ι b=some x→w.heap[x]?=some (.cells c ty fz) →
  ∃c' ty' fz',w'.heap[x]?=some (.cells c' ty' fz')∧c'.size=c.size
theorem heap_lt {w:World} {x:Nat} {o:Obj} (h:w.heap[x]?=some o):x<w.heap.size:=(Array.getElem?_eq_some_iff.1 h).1
theorem Goes.cell {w w':World} {O O':Nat→Prop} {ι ι':Nat→Option Nat} {H H':List ABlk} (g:Goes w O ι H w' O' ι' H') (p:Addr) (u:Value) (h:¬O p.block) (hc:w.cell? p=some u):w'.cell? p=some u:=by
 have hl:=World.block_lt_of_cell? _ _ hc
 have h1:=g.obj p.block _ h (Array.getElem?_eq_getElem hl)
 rw [World.cell?_of_block (h1.trans (Array.getElem?_eq_getElem hl).symm)];exact hc
theorem Goes.out {w w':World} {O O':Nat→Prop} {ι ι':Nat→Option Nat} {H H':List ABlk} (g:Goes w O ι H w' O' ι' H') (p:Addr) (u:Value) (h:¬O p.block) (hc:w.cell? p=some u):¬O' p.block:=
 g.outo p.block _ h (Array.getElem?_eq_getElem (World.block_lt_of_cell? _ _ hc))
theorem Goes.grow {w w':World} {O O':Nat→Prop} {ι ι':Nat→Option Nat} {H H':List ABlk} (g:Goes w O ι H w' O' ι' H'):Grow w ι H w' ι' H':=⟨g.blk,g.size⟩
theorem VR.mono {w w':World} {O O':Nat→Prop} {ι ι':Nat→Option Nat} {H H':List ABlk} {a:AV} {v:Value}
 (h:VR w O ι H a v) (g:Goes w O ι H w' O' ι' H'):VR w' O' ι' H' a v:=by
 induction h with
 | base v=>exact .base v
 | lnil=>exact .lnil
 | lst es a n cap s val hn hcap hmax hlen hspot hc hv ih =>
   refine .lst es a n cap s val hn hcap hmax hlen hspot (fun i j e c he hj=>?_) (fun i j e c he hj=>ih i j e c he hj)
   obtain ⟨h1,h2⟩:=hc i j e c he hj
   exact ⟨g.out ⟨a.block,_,none⟩ _ h1 h2,g.cell _ _ h1 h2⟩
 | agg cs arr hlen h ih=>exact .agg cs arr hlen ih
 | tup cs arr hlen h ih=>exact .tup cs arr hlen ih
 | clo f cs arr hlen h ih=>exact .clo f cs arr hlen ih
 | iptr e off a val hs hoff hc hv ih =>
   refine .iptr e off a val hs hoff (fun j c hj=>?_) ih
   obtain ⟨h1,h2⟩:=hc j c hj
   exact ⟨g.out ⟨a.block,_,none⟩ _ h1 h2,g.cell _ _ h1 h2⟩
 | staleOwn b tot off len blk a n c hb h =>
   obtain ⟨blk',hb',hl,_⟩:=g.blk b blk hb
   exact .staleOwn _ _ _ _ blk' _ _ _ hb' (by omega)
 | stalePtr b tot i off blk a hb h =>
   obtain ⟨blk',hb',hl,_⟩:=g.blk b blk hb
   exact .stalePtr _ _ _ _ blk' _ hb' (by omega)
 | ownNil b blk h he hi =>
   obtain ⟨blk',hb',hl,hs⟩:=g.blk b blk h
   by_cases e:blk'.es.length=blk.es.length
   ·obtain ⟨_,h3⟩:=hs e
    refine .ownNil b blk' hb' ?_ (h3.trans hi)
    rw [he] at e
    exact List.eq_nil_of_length_eq_zero e
   ·exact .staleOwn _ _ _ _ blk' _ _ _ hb' (by omega)
 | own b tot off len blk x n cap a hb ht hi hn hl hcap ha =>
   obtain ⟨blk',hb',hle,hs⟩:=g.blk b blk hb
   by_cases e:blk'.es.length=blk.es.length
   ·obtain ⟨h2,h3⟩:=hs e
    refine .own b tot off len blk' x n cap a hb' (e.trans ht) (h3.trans hi) hn hl hcap fun hc=>?_
    obtain ⟨h4,h9,c,ty,fz,h5,h6⟩:=ha hc
    obtain ⟨c',ty',fz',h7,h8⟩:=g.size b x blk blk' c ty fz hb hb' e hi h5
    rw [h2]
    exact ⟨h4,h9,c',ty',fz',h7,h6.trans h8.symm⟩
   ·exact .staleOwn _ _ _ _ blk' _ _ _ hb' (by omega)
 | ptr b tot i off blk x hb ht hi hcx =>
   obtain ⟨blk',hb',hle,hs⟩:=g.blk b blk hb
   by_cases e:blk'.es.length=blk.es.length
   ·obtain ⟨h2,h3⟩:=hs e
    obtain ⟨c,ty,fz,hcc⟩:=hcx
    obtain ⟨c',ty',fz',hcc',_⟩:=g.size b x blk blk' c ty fz hb hb' e hi hcc
    have:=VR.ptr (w:=w') (O:=O') b tot i off blk' x hb' (e.trans ht) (h3.trans hi) ⟨c',ty',fz',hcc'⟩
    rwa [h2] at this
   ·exact .stalePtr _ _ _ _ blk' _ hb' (by omega)
 | under c a v h0 h ih=>exact .under c a v h0 ih
 | anyb b=>exact .anyb b
 | staleView b tot i off n blk a m c hb h =>
   obtain ⟨blk',hb',hl,_⟩:=g.blk b blk hb
   exact .staleView _ _ _ _ _ blk' _ _ _ hb' (by omega)
 | view b tot i off n blk x cap hb ht hi hcx hcap hmax =>
   obtain ⟨blk',hb',hle,hs⟩:=g.blk b blk hb
   by_cases e:blk'.es.length=blk.es.length
   ·obtain ⟨h2,h3⟩:=hs e
    obtain ⟨c,ty,fz,hcc⟩:=hcx
    obtain ⟨c',ty',fz',hcc',_⟩:=g.size b x blk blk' c ty fz hb hb' e hi hcc
    have:=VR.view (w:=w') (O:=O') b tot i off n blk' x cap hb' (e.trans ht) (h3.trans hi) ⟨c',ty',fz',hcc'⟩ hcap hmax
    rwa [h2] at this
   ·exact .staleView _ _ _ _ _ blk' _ _ _ hb' (by omega)
 | staleMap b blk a hb h =>
   obtain ⟨blk',hb',hl,_⟩:=g.blk b blk hb
   exact .staleMap _ blk' _ hb' (by omega)
 | mapv b blk x hb ht hi =>
   obtain ⟨blk',hb',hle,hs⟩:=g.blk b blk hb
   by_cases e:blk'.es.length=blk.es.length
   ·obtain ⟨h2,h3⟩:=hs e
    exact .mapv _ blk' _ hb' (e.trans ht) (h3.trans hi)
   ·exact .staleMap _ blk' _ hb' (by omega)
 | anyp a=>exact .anyp a
 | mem cs v h=>exact .mem cs v fun p hp=>⟨g.outo p.1 p.2 (h p hp).1 (h p hp).2,g.obj p.1 p.2 (h p hp).1 (h p hp).2⟩
 | staleIter b blk a hb h =>
   obtain ⟨blk',hb',hl,_⟩:=g.blk b blk hb
   exact .staleIter _ blk' _ hb' (by omega)
 | iterv b blk x hb ht hi =>
   obtain ⟨blk',hb',hle,hs⟩:=g.blk b blk hb
   by_cases e:blk'.es.length=blk.es.length
   ·obtain ⟨h2,h3⟩:=hs e
    exact .iterv _ blk' _ hb' (e.trans ht) (h3.trans hi)
   ·exact .staleIter _ blk' _ hb' (by omega)
 | clip a ad n h ih=>exact .clip a ad n ih
 | bad v=>exact .bad v
def OO (O:Nat→Prop) (ι:Nat→Option Nat) (H:List ABlk) (x:Nat):Prop:=O x∨rng ι H x
def mapTy:TypeId:=1000000007
theorem ltMap {a:TypeId} (h:Nat.blt a mapTy=true):a<mapTy:=by simpa using h
def frzM (el:TypeId):TypeId:=1000000010+el
def iterTy:TypeId:=1000000009
def objRow:Obj→Option (Array Value × TypeId)
 | .cells c ty fz=>if fz=(0,0) then (if ty<mapTy then some (c,ty) else none) else some (c,frzM ty)
 | .map es _=>some (#[.agg (es.map (·.key)),.agg (es.map (·.val))],mapTy)
 | .stringIter s pos=>some (#[.string s,.int .i64 pos],iterTy)
 | _=>none
def rowAt (w:World) (x:Nat):Option (Array Value × TypeId):=(w.heap[x]?).bind objRow
theorem rowAt_cells {w:World} {x:Nat} {c:Array Value} {ty:TypeId} (h:w.heap[x]?=some (.cells c ty (0,0))) (hm:ty<mapTy):rowAt w x=some (c,ty):=by
 simp [rowAt,h,objRow,hm]
theorem rowAt_or {w:World} {x:Nat} {c:Array Value} {ty:TypeId} (h:rowAt w x=some (c,ty)) (hc:∃c1 ty1 fz,w.heap[x]?=some (.cells c1 ty1 fz)):(w.heap[x]?=some (.cells c ty (0,0))∧ty<mapTy)∨(∃ty2 fz,w.heap[x]?=some (.cells c ty2 fz)∧ty=frzM ty2):=by
 obtain ⟨c1,ty1,fz,hc⟩:=hc
 simp only [rowAt,hc,Option.bind_some,objRow] at h
 split at h
 ·rename_i hz
  split at h
  ·rename_i h2
   injection h with h;injection h with h3 h4;subst h3;subst h4;subst hz
   exact .inl ⟨hc,h2⟩
  ·cases h
 ·injection h with h;injection h with h3 h4;subst h3
  exact .inr ⟨_,_,hc,h4.symm⟩
theorem rowAt_el {w:World} {x:Nat} {c:Array Value} {ty:TypeId} (h:rowAt w x=some (c,ty)) (hc:∃c1 ty1 fz,w.heap[x]?=some (.cells c1 ty1 fz)):∃ty2 fz,w.heap[x]?=some (.cells c ty2 fz):=by
 rcases rowAt_or h hc with h|⟨_,_,h,_⟩
 ·exact ⟨_,_,h.1⟩
 ·exact ⟨_,_,h⟩
theorem frzM_ne (el:TypeId):¬frzM el<mapTy∧frzM el≠mapTy∧frzM el≠iterTy:=by
 have h:(1000000010:Nat)≤frzM el:=Nat.le_add_right _ _
 have h1:mapTy<(1000000010:Nat):=by decide
 have h2:iterTy<(1000000010:Nat):=by decide
 exact ⟨fun h3=>absurd (Nat.lt_trans h3 h1) (Nat.not_lt.2 h),fun h3=>absurd h1 (Nat.not_lt.2 (h3 ▸ h)),fun h3=>absurd h2 (Nat.not_lt.2 (h3 ▸ h))⟩
theorem rowAt_inv {w:World} {x:Nat} {c:Array Value} {ty:TypeId} (h:rowAt w x=some (c,ty)) (hc:∃c1 ty1 fz,w.heap[x]?=some (.cells c1 ty1 fz)) (hm:ty<mapTy):w.heap[x]?=some (.cells c ty (0,0)):=by
 rcases rowAt_or h hc with h|⟨ty2,_,_,h⟩
 ·exact h.1
 ·rw [h] at hm;exact absurd hm (frzM_ne ty2).1
theorem rowAt_map {w:World} {x:Nat} {c:Array Value} (h:rowAt w x=some (c,mapTy)):∃es k,w.heap[x]?=some (.map es k)∧c=#[.agg (es.map (·.key)),.agg (es.map (·.val))]:=by
 unfold rowAt at h
 cases hx:w.heap[x]? with
 | none=>rw [hx] at h;cases h
 | some o =>
   rw [hx] at h
   cases o with
   | cells c1 ty1 fz =>
     simp only [Option.bind_some,objRow] at h
     split at h
     ·split at h
      ·rename_i h2
       injection h with h;injection h with h3 h4;rw [h4] at h2;exact absurd h2 (Nat.lt_irrefl _)
      ·cases h
     ·injection h with h;injection h with h3 h4;exact absurd h4 (frzM_ne _).2.1
   | map es k =>
     simp only [Option.bind_some,objRow] at h
     injection h with h;injection h with h3 h4
     exact ⟨es,k,rfl,h3.symm⟩
   | stringIter s pos =>
     simp only [Option.bind_some,objRow] at h
     injection h with h;injection h with h3 h4;exact absurd h4 (by decide)
   | _=>cases h
theorem rowAt_lt {w:World} {x:Nat} {r:Array Value × TypeId} (h:rowAt w x=some r):x<w.heap.size:=by
 rcases Nat.lt_or_ge x w.heap.size with h'|h'
 ·exact h'
 ·rw [rowAt,Array.getElem?_eq_none h'] at h;cases h
theorem rowAt_same {w w':World} {x:Nat} (h:w'.heap[x]?=w.heap[x]?):rowAt w' x=rowAt w x:=by rw [rowAt,h];rfl
structure BR (w:World) (O:Nat→Prop) (ι:Nat→Option Nat) (H:List ABlk) (blk:ABlk) (x:Nat):Prop where
 row:∃c,rowAt w x=some (c,blk.ty)∧blk.es.length*blk.sz≤c.size ∧
  (∀e∈blk.es,e.cells.length=blk.sz) ∧
  ∀(i j:Nat) (e d:AV),blk.es[i]?=some e→e.cells[j]?=some d→∃u,c[i*blk.sz+j]?=some u∧VR w O ι H d u
structure Base where
 w:World
 S:Nat→Prop
 H:List ABlk
 ι:Nat→Option Nat
abbrev base0 (w:World):Base:=⟨w,fun _=>False,[],fun _=>none⟩
structure Bel (w0:Base) (w:World):Prop where
 os:w.os=w0.w.os
 tape:w.tape=w0.w.tape
 output:w.output=w0.w.output
 size:w0.w.heap.size≤w.heap.size
 block:∀k,k<w0.w.heap.size→¬w0.S k→w.heap[k]?=w0.w.heap[k]?
theorem Bel.step {w0:Base} {w w':World} (h:Bel w0 w) (hb:Below w.heap.size w w'):Bel w0 w':=
 ⟨hb.os.trans h.os,hb.tape.trans h.tape,hb.output.trans h.output,Nat.le_trans h.size hb.size,fun k hk hS=>(hb.block k (Nat.lt_of_lt_of_le hk h.size)).trans (h.block k hk hS)⟩
theorem Bel.change {w0:Base} {w w':World} (h:Bel w0 w) (hos:w'.os=w.os) (ht:w'.tape=w.tape) (ho:w'.output=w.output) (hsz:w.heap.size≤w'.heap.size)
 (hb:∀k,k<w.heap.size→w'.heap[k]?≠w.heap[k]?→w0.w.heap.size≤k∨w0.S k):Bel w0 w':=
 ⟨hos.trans h.os,ht.trans h.tape,ho.trans h.output,Nat.le_trans h.size hsz,fun k hk hS=>by
  by_cases e:w'.heap[k]?=w.heap[k]?
  ·exact e.trans (h.block k hk hS)
  ·rcases hb k (Nat.lt_of_lt_of_le hk h.size) e with h1|h1
   ·omega
   ·exact absurd h1 hS⟩
theorem Bel.refl (w:World) (S:Nat→Prop) (H:List ABlk) (ι:Nat→Option Nat):Bel ⟨w,S,H,ι⟩ w:=⟨rfl,rfl,rfl,Nat.le_refl _,fun _ _ _=>rfl⟩
theorem Bel.below {w w':World} (h:Bel (base0 w) w'):Below w.heap.size w w':=⟨h.os,h.tape,h.output,h.size,fun k hk=>h.block k hk id⟩
structure Sit (w0:Base) (O:Nat→Prop) (ι:Nat→Option Nat) (H:List ABlk) (w:World):Prop where
 heap:∀(b:Nat) (blk:ABlk) (x:Nat),H[b]?=some blk→ι b=some x→(w0.w.heap.size≤x∨w0.S x)∧BR w (OO O ι H) ι H blk x
 empt:∀(b:Nat) (blk:ABlk),H[b]?=some blk→ι b=none→blk.es=[]
 inj:∀(b b' x:Nat),b<H.length→b'<H.length→ι b=some x→ι b'=some x→b=b'
 below:Bel w0 w
 old:∀x,O x→x<w.heap.size
 disj:∀(x b:Nat),O x→b<H.length→ι b≠some x
 hist:Grow w0.w w0.ι w0.H w ι H
abbrev Env:=List (Nat × AV)
def lk:Env→Nat→AV
 | [],_=>.bad
 | (k,v)::r,t=>if k=t then v else lk r t
structure ASt where
 env:Env
 H:List ABlk
def cv:Value→AV
 | .agg cs=>.agg (cs.toList.map .base)
 | v=>.base v
theorem VR.cv (w:World) (O:Nat→Prop) (ι:Nat→Option Nat) (H:List ABlk) (v:Value):VR w O ι H (cv v) v:=by
 cases v<;>first
  | exact .base _
  | (refine .agg _ _ (by simp) fun j c u hc hu=>?_
     simp only [List.getElem?_map,Array.getElem?_toList,hu,Option.map_some] at hc
     injection hc with hc;subst hc;exact .base _)
def ev (E:Env):Operand→AV
 | .tmp t=>lk E t
 | .const v=>cv v
 | .global g=>.base (.pointer (some ⟨g,0,none⟩))
 | .func f=>.clo f []
structure Fr where
 n:Nat
 m:Nat
instance (k:Nat):OfNat Fr k:=⟨⟨k,0⟩⟩
structure SR (n:Fr) (w0:Base) (O:Nat→Prop) (s:ASt) (ι:Nat→Option Nat) (a:Act) (w:World):Prop where
 sit:Sit w0 O ι s.H w
 defers:a.defers=[]
 size:a.tmps.size=n.n
 hand:w0.H.length=n.m
 vals:∀t,VR w (OO O ι s.H) ι s.H (lk s.env t) (a.tmps.getD t undef)
theorem VR.ev {w:World} {O:Nat→Prop} {ι:Nat→Option Nat} {H:List ABlk} {E:Env} {a:Act}
 (h:∀t,VR w O ι H (lk E t) (a.tmps.getD t undef)) (x:Operand):VR w O ι H (ev E x) (a.eval x):=by
 cases x with
 | tmp t=>exact h t
 | const v=>exact VR.cv _ _ _ _ v
 | global g=>exact .base _
 | func f=>exact .clo f [] #[] rfl (by simp)
end Go.Ab
namespace Go.Ab
open Go Go.RowKit
abbrev AV.int (n:Int):AV:=.base (.int .i64 n)
abbrev AV.bool (b:Bool):AV:=.base (.bool b)
def stripA (c:Bool):AV→AV
 | .under d a=>if c=d then a else .under d a
 | a=>a
def stripL:List Bool→AV→AV
 | [],a=>a
 | c::l,a=>stripL l (stripA c a)
def wrapL:List Bool→AV→AV
 | [],a=>a
 | c::l,a=>.under c (wrapL l a)
def allL:List Bool→Bool
 | []=>true
 | c::l=>c&&allL l
def aggTy (P:Program) (t:TypeId):Option Bool:=
 match P.underlying t with
 | some (.struct _)|some (.array _ _)=>some true
 | some _=>some false
 | none=>none
def szTy (P:Program) (t:TypeId):Option Nat:=(P.info? t).map (·.size)
def isAggA:AV→Bool
 | .agg _=>true
 | _=>false
def ldE (agg:Option Bool) (sz:Option Nat) (e:AV) (off:Nat):Option AV:=
 match agg,sz with
 | some true,some n=>if off+n≤e.cells.length then some (.agg ((e.cells.drop off).take n)) else none
 | some false,_=>e.cells[off]?
 | _,_=>none
def fieldOff (P:Program) (s:TypeId) (f:Nat):Option Nat:=
 match P.underlying s with
 | some (.struct fs)=>match fs[f]? with
   | some fd=>match szTy P fd.type with
     | some (_+1)=>some fd.offset
     | _=>none
   | none=>none
 | _=>none
def intBin (op:BinOp) (k:IntKind) (a b:Int):Option AV:=
 match op with
 | .add=>some (.base (.int k (k.wrap (a+b))))
 | .sub=>some (.base (.int k (k.wrap (a-b))))
 | .mul=>some (.base (.int k (k.wrap (a*b))))
 | .quo=>if b=0 then none else some (.base (.int k (k.wrap (a.tdiv b))))
 | .rem=>if b=0 then none else some (.base (.int k (a.tmod b)))
 | .and=>some (.base (.int k (k.wrap (BitVec.ofInt k.bits a &&& BitVec.ofInt k.bits b).toNat)))
 | .or=>some (.base (.int k (k.wrap (BitVec.ofInt k.bits a ||| BitVec.ofInt k.bits b).toNat)))
 | .eql=>some (.bool (a==b))
 | .neq=>some (.bool (a != b))
 | .lss=>some (.bool (decide (a<b)))
 | .leq=>some (.bool (decide (a≤b)))
 | .gtr=>some (.bool (decide (a>b)))
 | .geq=>some (.bool (decide (a≥b)))
 | _=>none
def strBin (op:BinOp) (x y:ByteArray):Option AV:=
 match op with
 | .eql=>some (.bool (x.toList==y.toList))
 | .neq=>some (.bool !(x.toList==y.toList))
 | .lss=>some (.bool (Op.bytesLess x.toList y.toList))
 | _=>none
def boolBin (P:Program) (t:TypeId) (op:BinOp) (x y:Bool):Option AV:=
 match P.underlying t with
 | some .bool=>match op with
   | .eql=>some (.bool (x==y))
   | .neq=>some (.bool (!(x==y)))
   | _=>none
 | _=>none
def binF (P:Program) (t:TypeId) (op:BinOp):AV→AV→Option AV
 | .base (.int k a),.base (.int k' b)=>match op with
   | .shl=>if b<0 then none else some (.base (.int k (k.wrap (a*2 ^ (min b.toNat k.bits)))))
   | .shr=>if b<0 then none else some (.base (.int k (a.fdiv (2 ^ (min b.toNat k.bits)))))
   | _=>if k=k' then intBin op k a b else none
 | .base (.string a),.base (.string b)=>strBin op a b
 | .base (.bool a),.base (.bool b)=>boolBin P t op a b
 | _,_=>none
def fresh (H:List ABlk) (b tot:Nat):Bool:=
 match H[b]? with
 | some blk=>blk.es.length==tot
 | none=>false
def lenF (P:Program) (H:List ABlk) (t:TypeId):AV→Option AV
 | .lst es=>match P.underlying t with|some (.slice _)=>some (.int es.length)|_=>none
 | .own b tot _ n=>if fresh H b tot=true then match P.underlying t with|some (.slice _)=>some (.int n)|_=>none else none
 | .base (.slice none 0 0)=>match P.underlying t with|some (.slice _)=>some (.int 0)|_=>none
 | .base (.string s)=>match P.underlying t with|some .string=>some (.int s.size)|_=>none
 | _=>none
def pickF (t:Bool) (A B:AV):Option AV:=
 match stripA t A,stripA (!t) B with
 | .base (.bool x),.base (.bool y)=>some (.bool (bif t then x else y))
 | _,_=>none
def fieldF (P:Program) (t:TypeId) (f:Nat) (cs:List AV):Option AV:=
 match P.underlying t with
 | some (.struct fs)=>match fs[f]? with
   | some fd=>ldE (aggTy P fd.type) (szTy P fd.type) (.agg cs) fd.offset
   | none=>none
 | _=>none
def qfun (P:Program) (H:List ABlk) (ρ:Operand→AV):Op→Option AV
 | .move x | .assign x=>some (ρ x)
 | .pick c a b=>match ρ c with
   | .base (.bool t)=>pickF t (ρ a) (ρ b)
   | _=>none
 | .load t x=>match ρ x with
   | .iptr e off=>ldE (aggTy P t) (szTy P t) e off
   | .ptr b tot i off=>match H[b]? with
     | some blk=>if blk.es.length=tot then match blk.es[i]? with
       | some e=>ldE (aggTy P t) (szTy P t) e off
       | none=>none else none
     | none=>none
   | _=>none
 | .fieldAddr s x f=>match fieldOff P s f,ρ x with
   | some n,.iptr e off=>some (.iptr e (off+n))
   | some n,.ptr b tot i off=>if fresh H b tot=true then some (.ptr b tot i (off+n)) else none
   | _,_=>none
 | .field t x f=>match ρ x with
   | .agg cs=>fieldF P t f cs
   | _=>none
 | .binOp op t x y _=>binF P t op (ρ x) (ρ y)
 | .unOp .not _ x=>match ρ x with
   | .base (.bool b)=>some (.bool !b)
   | _=>none
 | .unOp .neg _ x=>match ρ x with
   | .base (.int k n)=>some (.base (.int k (k.wrap (0-n))))
   | _=>none
 | .extract x i=>match ρ x with
   | .tup vs=>vs[i]?
   | _=>none
 | .nilCheck x=>match ρ x with
   | .ptr b tot i off=>if fresh H b tot=true then some (.ptr b tot i off) else none
   | .iptr e off=>some (.iptr e off)
   | _=>none
 | .convert s d x=>match ρ x with
   | .base (.int _ n)=>match P.underlying s,P.underlying d with
     | some _,some (.int k)=>some (.base (.int k (k.wrap n)))
     | _,_=>none
   | _=>none
 | .makeFunc (.func f) first caps=>match first.toList with
   | []=>some (.clo f (caps.toList.map ρ))
   | _=>none
 | .call c=>match c.callee,c.args.toList,c.argTypes.toList with
   | .builtin .len,[x],[t]=>lenF P H t (ρ x)
   | _,_,_=>none
 | _=>none
def QOp (P:Program) (H:List ABlk) (ρ:Operand→AV) (o:Oper) (v:AV):Prop:=
 ∀(w0:Base) (O:Nat→Prop) (ι:Nat→Option Nat) (a:Act) (w:World),Sit w0 O ι H w →
  (∀x,x∈o.op.operands∨x=.tmp memSlot→VR w (OO O ι H) ι H (ρ x) (a.eval x)) →
  ∀(K:Act→World→Prop) (Q:Exit→Act→World→Prop),
   (∀u w',VR w' (OO O ι H) ι H v u→Below w.heap.size w w'→K (a.put o.dst u) w')→o.wp P a w K Q
theorem QOp.of_run {P:Program} {H:List ABlk} {ρ:Operand→AV} {o:Oper} {v:AV}
 (h:∀(w0:Base) (O:Nat→Prop) (ι:Nat→Option Nat) (a:Act) (w:World),Sit w0 O ι H w →
   (∀x,x∈o.op.operands→VR w (OO O ι H) ι H (ρ x) (a.eval x))→∃u,(execOp a.eval o).run P w=.ok (.value u) w∧VR w (OO O ι H) ι H v u):QOp P H ρ o v:=by
 intro w0 O ι a w hs hv K Q hK
 obtain ⟨u,hr,hu⟩:=h w0 O ι a w hs fun x hx=>hv x (.inl hx)
 unfold Oper.wp
 rw [hr]
 exact hK u w hu (Below.refl _ _)
section
variable {w:World} {O:Nat→Prop} {ι:Nat→Option Nat} {H:List ABlk} {u:Value}
theorem VR.base_inv {v:Value} (h:VR w O ι H (.base v) u):u=v:=by cases h;rfl
theorem VR.agg_inv {cs:List AV} (h:VR w O ι H (.agg cs) u):∃arr:Array Value,u=.agg arr∧arr.size=cs.length ∧
 ∀(j:Nat) (c:AV) (u:Value),cs[j]?=some c→arr[j]?=some u→VR w O ι H c u:=by
 cases h with
 | agg cs arr hlen h=>exact ⟨arr,rfl,hlen,h⟩
theorem VR.tup_inv {cs:List AV} (h:VR w O ι H (.tup cs) u):∃arr:Array Value,u=.tuple arr∧arr.size=cs.length ∧
 ∀(j:Nat) (c:AV) (u:Value),cs[j]?=some c→arr[j]?=some u→VR w O ι H c u:=by
 cases h with
 | tup cs arr hlen h=>exact ⟨arr,rfl,hlen,h⟩
theorem VR.under_inv {c:Bool} {a:AV} (h:VR w O ι H (.under c a) u) (hc:c=true):VR w O ι H a u:=by
 cases h with
 | under c a v h0 h=>exact h hc
theorem VR.strip {c:Bool} {a:AV} (hc:c=true) (h:VR w O ι H a u):VR w O ι H (stripA c a) u:=by
 cases a with
 | under d a' =>
   show VR w O ι H (if c=d then a' else .under d a') u
   split
   ·rename_i e;subst e;exact h.under_inv hc
   ·exact h
 | _=>exact h
theorem VR.strips:∀ {l:List Bool} {a:AV},allL l=true→VR w O ι H a u→VR w O ι H (stripL l a) u
 | [],a,_,h=>h
 | c::l,a,hl,h=>by
   simp only [allL,Bool.and_eq_true] at hl
   exact VR.strips (l:=l) (a:=stripA c a) hl.2 (h.strip hl.1)
theorem VR.wraps:∀ {l:List Bool} {a:AV},VR w O ι H a u→allL l=true→VR w O ι H (wrapL l a) u
 | [],a,h,_=>h
 | c::l,a,h,hl=>by
   simp only [allL,Bool.and_eq_true] at hl
   exact .under _ _ _ (fun e=>by rw [hl.1] at e;cases e) fun _=>VR.wraps h hl.2
theorem VR.wrapsN:∀ {l:List Bool} {a:AV},allL l=false→VR w O ι H (wrapL l a) undef
 | [],a,h=>by cases h
 | c::l,a,hl=>by
   refine .under _ _ _ (fun _=>rfl) fun hc=>VR.wrapsN ?_
   simpa [allL,hc] using hl
def EL (w:World) (O:Nat→Prop) (ι:Nat→Option Nat) (H:List ABlk) (e:AV) (blk off:Nat):Prop:=
 ∀(j:Nat) (c:AV),e.cells[j]?=some c→∃u,w.cell? ⟨blk,off+j,none⟩=some u∧VR w O ι H c u
theorem VR.iptr_inv {e:AV} {off:Nat} (h:VR w O ι H (.iptr e off) u):∃a:Addr,u=.pointer (some a)∧a.spot=none∧off≤a.off∧EL w O ι H e a.block (a.off-off):=by
 cases h with
 | iptr e off a val hs hoff hc hv=>exact ⟨a,rfl,hs,hoff,fun j c hj=>⟨val j,(hc j c hj).2,hv j c hj⟩⟩
theorem VR.ptr_inv {w0:Base} {O:Nat→Prop} (hs:Sit w0 O ι H w) {O':Nat→Prop} {b tot i off:Nat} {blk:ABlk} {e:AV} (h:VR w O' ι H (.ptr b tot i off) u) (hb:H[b]?=some blk) (ht:blk.es.length=tot) (he:blk.es[i]?=some e) :
 ∃x,ι b=some x∧u=.pointer (some ⟨x,i*blk.sz+off,none⟩)∧EL w (OO O ι H) ι H e x (i*blk.sz):=by
 cases h with
 | stalePtr b tot i off blk' a hb' h=>rw [hb] at hb';cases hb';omega
 | ptr b tot i off blk' x hb' ht' hi hcx =>
   rw [hb] at hb';cases hb'
   obtain ⟨_,c,hc,_,_,hel⟩:=hs.heap b blk x hb hi
   refine ⟨x,hi,rfl,fun j d hj=>?_⟩
   obtain ⟨u,hu,hv⟩:=hel i j e d he hj
   obtain ⟨ty3,fz3,hc⟩:=rowAt_el hc hcx
   exact ⟨u,by simpa [World.cell?,hc] using hu,hv⟩
theorem ldE_run {P:Program} {t:TypeId} {e v:AV} {off blk base:Nat} (h:ldE (aggTy P t) (szTy P t) e off=some v) (hel:EL w O ι H e blk base) :
 ∃u,(loadVar t ⟨blk,base+off,none⟩).run P w=.ok u w∧VR w O ι H v u:=by
 unfold ldE at h
 split at h
 ·rename_i n ha hn
  split at h
  ·rename_i hle
   injection h with h;subst h
   have hex:∃us:List Value,us.length=n∧∀j c u,((e.cells.drop off).take n)[j]?=some c→us[j]?=some u→w.cell? ⟨blk,base+off+j,none⟩=some u∧VR w O ι H c u:=by
    refine ⟨(List.range n).map fun j=>(w.cell? ⟨blk,base+off+j,none⟩).getD undef,by simp,fun j c u hc hu=>?_⟩
    rw [List.getElem?_take] at hc
    split at hc
    ·rename_i hj
     rw [List.getElem?_drop] at hc
     obtain ⟨u',hu',hv⟩:=hel _ _ hc
     rw [← Nat.add_assoc] at hu'
     rw [List.getElem?_map,List.getElem?_range hj] at hu
     simp [hu'] at hu
     subst hu
     exact ⟨hu',hv⟩
    ·cases hc
   obtain ⟨us,hul,hus⟩:=hex
   have hcl:((e.cells.drop off).take n).length=n:=by simp;omega
   have hrange:w.rangeAt blk (base+off) us:=by
    intro j v hj
    have hjl:j<n:=by rw [← hul];exact (List.getElem?_eq_some_iff.1 hj).1
    have hc:((e.cells.drop off).take n)[j]?=some (((e.cells.drop off).take n)[j]'(by omega)):=List.getElem?_eq_getElem (by omega)
    exact (hus j _ v hc hj).1
   unfold aggTy at ha
   have hd:∃d,P.underlying t=some d∧d.isRow=true:=by
    split at ha<;>simp_all
   obtain ⟨d,hd1,hd2⟩:=hd
   unfold szTy at hn
   refine ⟨.agg us.toArray,run_loadVar_mid w blk (base+off) t us d hrange hd1 hd2 (by rw [hn,hul]),?_⟩
   refine .agg _ _ (by simp [hul];omega) fun j c u hc hu=>?_
   exact (hus j c u hc (by simpa using hu)).2
  ·cases h
 ·rename_i ha
  obtain ⟨u,hu,hv⟩:=hel off v h
  refine ⟨u,?_,hv⟩
  unfold aggTy at ha
  have hagg:(isAgg t).run P w=.ok false w:=by
   unfold isAgg
   split at ha
   ·cases ha
   ·cases ha
   ·rename_i d _ _ hd
    rw [Sem.run_bind,run_underlying hd w]
    cases d<;>simp_all
   ·cases ha
  simp [loadVar,Sem.run_bind,hagg,hu]
 ·cases h
theorem eqGuard_run {P:Program} {op:BinOp} {t:TypeId} {x y:Operand} {a b:Value} (ha:a≠.nilIface) (hag:∀cs,a≠.agg cs):(eqGuard op t x y a b).run P w=.ok () w:=by
 unfold eqGuard
 cases op<;>simp only [Bool.not_true,Bool.not_false,if_true]<;>first
  | rfl
  | (cases a<;>first|(exact absurd rfl ha)|(exact absurd rfl (hag _))|(cases b<;>rfl))
theorem binF_run {P:Program} {t:TypeId} {op:BinOp} {A B v:AV} {x y:Value} {X Y:Operand} (h:binF P t op A B=some v) (hx:VR w O ι H A x) (hy:VR w O ι H B y) :
 ∃u,(eqGuard op t X Y x y).run P w=.ok () w∧(binOp op t x y).run P w=.ok u w∧VR w O ι H v u:=by
 unfold binF at h
 split at h
 ·rename_i k a k' b
  have:=hx.base_inv;subst this
  have:=hy.base_inv;subst this
  have hg:(eqGuard op t X Y (.int k a) (.int k' b)).run P w=.ok () w:=eqGuard_run (by simp) (by simp)
  split at h
  ·split at h
   ·cases h
   ·rename_i hb
    injection h with h;subst h
    exact ⟨_,hg,by simp [binOp,Op.shift,hb],.base _⟩
  ·split at h
   ·cases h
   ·rename_i hb
    injection h with h;subst h
    exact ⟨_,hg,by simp [binOp,Op.shift,hb],.base _⟩
  ·rename_i h1 h2
   split at h
   ·rename_i hk;subst hk
    unfold intBin at h
    cases op<;>simp only at h<;>first
     | (cases h;done)
     | (exact absurd rfl h1)
     | (exact absurd rfl h2)
     | (injection h with h;subst h;exact ⟨_,hg,by simp [binOp,Op.intArith,Op.intBits,Op.intCmp],.base _⟩)
     | (split at h
        ·cases h
        ·rename_i hb
         injection h with h;subst h;exact ⟨_,hg,by simp [binOp,Op.intDiv,hb],.base _⟩)
   ·cases h
 ·rename_i a b
  have:=hx.base_inv;subst this
  have:=hy.base_inv;subst this
  have hg:(eqGuard op t X Y (.string a) (.string b)).run P w=.ok () w:=eqGuard_run (by simp) (by simp)
  unfold strBin at h
  cases op<;>simp only at h<;>first
   | (cases h;done)
   | (injection h with h;subst h;exact ⟨_,hg,by simp [binOp,Op.stringOp],.base _⟩)
 ·rename_i a b
  have:=hx.base_inv;subst this
  have:=hy.base_inv;subst this
  have hg:(eqGuard op t X Y (.bool a) (.bool b)).run P w=.ok () w:=eqGuard_run (by simp) (by simp)
  unfold boolBin at h
  split at h
  ·rename_i ht
   cases op<;>simp only at h<;>first
    | (cases h;done)
    | (injection h with h;subst h;refine ⟨_,hg,?_,.base _⟩;have he:(Op.equal t (.bool a) (.bool b)).run P w=.ok (a==b) w:=run_equalIn_bool' w 9999 t a b ht;simp only [binOp,Sem.run_bind,he,Result.andThen_ok,Sem.run_pure])
  ·cases h
 ·cases h
theorem lenF_run {P:Program} {t ty:TypeId} {A v:AV} {x:Value} (h:lenF P H t A=some v) (hx:VR w O ι H A x) :
 ∃u,(Builtin.len_ #[t] ty #[x]).run P w=.ok u w∧VR w O ι H v u:=by
 unfold lenF at h
 split at h
 ·split at h
  ·rename_i es _ e ht
   injection h with h;subst h
   cases hx with
   | lnil=>exact ⟨_,by simp [Builtin.len_,run_underlying ht,goInt],.base _⟩
   | lst es a n cap s val hn hcap hmax hlen hspot hc hv=>exact ⟨.int .i64 n,by simp [Builtin.len_,run_underlying ht,goInt],by subst hn;exact .base _⟩
  ·cases h
 ·split at h
  ·rename_i b tot off n hf
   split at h
   ·rename_i e ht
    injection h with h;subst h
    cases hx with
    | staleOwn b tot off n blk a n' c hb hlt=>simp [fresh,hb] at hf;omega
    | ownNil b blk hb he hi=>exact ⟨_,by simp [Builtin.len_,run_underlying ht,goInt],.base _⟩
    | own b tot off n blk x n' cap a hb ht' hi hn hl hcap ha=>exact ⟨.int .i64 n',by simp [Builtin.len_,run_underlying ht,goInt],by subst hn;exact .base _⟩
   ·cases h
  ·cases h
 ·split at h
  ·rename_i _ e ht
   injection h with h;subst h
   have:=hx.base_inv;subst this
   exact ⟨_,by simp [Builtin.len_,run_underlying ht,goInt],.base _⟩
  ·cases h
 ·split at h
  ·rename_i _ ht
   injection h with h;subst h
   have:=hx.base_inv;subst this
   exact ⟨_,by simp [Builtin.len_,run_underlying ht,goInt],.base _⟩
  ·cases h
 ·cases h
theorem cells_getD {arr:Array Value} {cs:List AV} (hl:arr.size=cs.length) {i:Nat} (hi:i<cs.length):∃u,arr[i]?=some u:=⟨_,Array.getElem?_eq_getElem (by omega)⟩
theorem fieldPlace_run {P:Program} {s:TypeId} {f n:Nat} (h:fieldOff P s f=some n) (a:Addr) (hs:a.spot=none) :
 (Instr.fieldAt s (.pointer (some a)) f).run P w=.ok (.pointer (some ⟨a.block,a.off+n,none⟩)) w:=by
 unfold fieldOff at h
 split at h
 ·rename_i fs hu
  split at h
  ·rename_i fd hf
   split at h
   ·rename_i k hz
    injection h with h
    unfold szTy at hz
    cases hi:P.info? fd.type with
    | none=>simp [hi] at hz
    | some i =>
      simp [hi] at hz
      have hadd:a.add fd.offset=⟨a.block,a.off+n,none⟩:=by
       subst h
       unfold Addr.add
       split
       ·rename_i h0;cases a;simp_all
       ·rfl
      simp [Instr.fieldAt,run_underlying hu,hf,Instr.sureAddr,fieldPlace,sizeOf,typeInfo,hi,hz,hadd]
   ·cases h
  ·cases h
 ·cases h
theorem part_run {P:Program} {t:TypeId} {cs:List AV} {arr:Array Value} {off:Nat} {v:AV} (hl:arr.size=cs.length)
 (hc:∀(j:Nat) (c:AV) (u:Value),cs[j]?=some c→arr[j]?=some u→VR w O ι H c u)
 (h:ldE (aggTy P t) (szTy P t) (.agg cs) off=some v):∃u,(part t arr off).run P w=.ok u w∧VR w O ι H v u:=by
 unfold ldE at h
 split at h
 ·rename_i n ha hn
  split at h
  ·rename_i hle
   injection h with h;subst h
   have hle':off+n≤arr.size:=by rw [hl];exact hle
   have hsz:(sizeOf t).run P w=.ok n w:=by
    unfold szTy at hn
    cases hi:P.info? t with
    | none=>simp [hi] at hn
    | some i=>simp [hi] at hn;simp [sizeOf,typeInfo,hi,hn]
   have hagg:(isAgg t).run P w=.ok true w:=by
    unfold aggTy at ha
    unfold isAgg
    split at ha
    ·rename_i d hd;rw [Sem.run_bind,run_underlying hd w];rfl
    ·rename_i d hd;rw [Sem.run_bind,run_underlying hd w];rfl
    ·cases ha
    ·cases ha
   refine ⟨.agg (arr.extract off (off+n)),by simp [part,hagg,hsz],.agg _ _ (by simp only [Array.size_extract,AV.cells,List.length_take,List.length_drop];omega) fun j c u hj hu=>?_⟩
   simp only [AV.cells] at hj
   rw [List.getElem?_take] at hj
   split at hj
   ·rename_i hjn
    rw [List.getElem?_drop] at hj
    rw [Array.getElem?_extract] at hu
    split at hu
    ·exact hc _ _ _ hj hu
    ·cases hu
   ·cases hj
  ·cases h
 ·rename_i ha
  have hagg:(isAgg t).run P w=.ok false w:=by
   unfold aggTy at ha
   unfold isAgg
   split at ha
   ·cases ha
   ·cases ha
   ·rename_i d _ _ hd
    rw [Sem.run_bind,run_underlying hd w]
    cases d<;>simp_all
   ·cases ha
  simp only [AV.cells] at h
  obtain ⟨u,hu⟩:=cells_getD hl (List.getElem?_eq_some_iff.1 h).1
  exact ⟨u,by simp [part,hagg,hu],hc _ _ _ h hu⟩
 ·cases h
theorem fresh_inv {b tot:Nat} (h:fresh H b tot=true):∃blk,H[b]?=some blk∧blk.es.length=tot:=by
 unfold fresh at h
 split at h
 ·rename_i blk hb;exact ⟨blk,hb,by simpa using h⟩
 ·cases h
theorem VR.ptr_fresh {b tot i off:Nat} (hf:fresh H b tot=true) (h:VR w O ι H (.ptr b tot i off) u) :
 ∃x blk,ι b=some x∧H[b]?=some blk∧blk.es.length=tot∧u=.pointer (some ⟨x,i*blk.sz+off,none⟩)∧∃c ty fz,w.heap[x]?=some (.cells c ty fz):=by
 obtain ⟨blk,hb,ht⟩:=fresh_inv hf
 cases h with
 | stalePtr b tot i off blk' a hb' h=>rw [hb] at hb';cases hb';omega
 | ptr b tot i off blk' x hb' ht' hi hcx=>rw [hb] at hb';cases hb';exact ⟨x,blk,hi,hb,ht,rfl,hcx⟩
end
end Go.Ab
