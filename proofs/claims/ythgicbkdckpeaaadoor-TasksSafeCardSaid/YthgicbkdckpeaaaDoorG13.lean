/- A walk where what was there when the call began is known: one base, one outside. -/
import Derived.RangeFuncRecord
import Derived.Test.YthgicbkdckpeaaaDoorG12
import Derived.Test.YthgicbkdckpeaaaDoorG10
set_option linter.unusedSimpArgs false
set_option linter.unusedVariables false
namespace Go.Ab
open Go Go.RowKit
def AWpF (P:Program) (n:Fr) (w0:Base) (O:Nat→Prop) (c:Code) (Q:Exit→ASt→Prop) (s:ASt):Prop:=
 ∀(ι:Nat→Option Nat) (a:Act) (w:World),SR n w0 O s ι a w→c.wp P (liftQ w0 O n Q) a w
section
variable {P:Program} {n:Fr} {w0:Base} {O:Nat→Prop} {Q:Exit→ASt→Prop} {s:ASt}
theorem AWpF.of {c:Code} (h:AWp P n c Q s):AWpF P n w0 O c Q s:=fun ι a w hs=>h w0 O ι a w hs
theorem AWpF.mono {c:Code} {Q':Exit→ASt→Prop} (h:AWpF P n w0 O c Q' s) (hq:∀e s,Q' e s→Q e s):AWpF P n w0 O c Q s:=
 fun ι a w hs=>wp_mono (h ι a w hs) fun e a w ⟨s',ι',h1,h2⟩=>⟨s',ι',hq _ _ h1,h2⟩
theorem AWpF.seq {x y:Code} (h:AWpF P n w0 O x (thenQ (AWpF P n w0 O y Q) Q) s):AWpF P n w0 O (.seq x y) Q s:=by
 intro ι a w hs
 refine wp_seq (wp_mono (h ι a w hs) ?_)
 rintro e a w ⟨s',ι',h1,h2⟩
 cases e with
 | normal=>exact h1 ι' a w h2
 | _=>exact ⟨s',ι',h1,h2⟩
theorem AWpF.step {x y:Code} (S2:ASt) (h:AWp P n x (thenQ (fun s'=>Wk n s' S2) Q) s) (h2:AWpF P n w0 O y Q S2):AWpF P n w0 O (.seq x y) Q s:=by
 refine .seq ?_
 intro ι a w hs
 refine wp_mono (h w0 O ι a w hs) ?_
 rintro e a w ⟨s',ι',h3,h4⟩
 cases e with
 | normal =>
   obtain ⟨ι2,h5⟩:=h3 _ _ _ _ _ h4
   exact ⟨S2,ι2,h2,h5⟩
 | _=>exact ⟨s',ι',h3,h4⟩
theorem AWpF.block {id:Nat} {c:Code} (h:AWpF P n w0 O c (blkQ id Q) s):AWpF P n w0 O (.block id c) Q s:=by
 intro ι a w hs
 refine wp_block (wp_mono (h ι a w hs) ?_)
 rintro e a w ⟨s',ι',h1,h2⟩
 cases e with
 | exit id' =>
   simp only [blkQ] at h1
   simp only [Exit.inBlock]
   split
   ·rename_i e;rw [if_pos e] at h1;exact ⟨s',ι',h1,h2⟩
   ·rename_i e;rw [if_neg e] at h1;exact ⟨s',ι',h1,h2⟩
 | _=>exact ⟨s',ι',h1,h2⟩
theorem AWpF.weaken {c:Code} {s2:ASt} (hw:Wk n s s2) (h:AWpF P n w0 O c Q s2):AWpF P n w0 O c Q s:=by
 intro ι a w hs
 obtain ⟨ι2,hs2⟩:=hw _ _ _ _ _ hs
 exact h ι2 a w hs2
theorem AWpF.loop {X:Type} (J:X→Prop) (I:X→ASt) (μ:X→Nat) {c:Code} (x0:X) (h0:J x0) (hw:Wk n s (I x0))
 (hr:∀x,J x→AWpF P n w0 O c (thenQ (fun s'=>∃y,J y∧μ y<μ x∧Wk n s' (I y)) Q) (I x)):AWpF P n w0 O (.loop c) Q s:=by
 intro ι a w hs
 obtain ⟨ι0,hs0⟩:=hw _ _ _ _ _ hs
 have key:∀(m:Nat) (x:X),μ x=m→J x→∀ι a w,SR n w0 O (I x) ι a w→∀(b:Frame) (k:List Item) (cs:List Frame),
  ∃e a' w',liftQ w0 O n Q e a' w'∧Arrives P (lone (b.at a (.code c::.inLoop c::k)) cs w) b k cs e a' w':=by
  intro m
  induction m using Nat.strongRecOn with
  | _ m ih =>
    intro x hm hx ι a w hs b k cs
    obtain ⟨e,a1,w1,⟨s',ι',hq,hs'⟩,harr⟩:=hr x hx ι a w hs b (.inLoop c::k) cs
    cases e with
    | normal =>
      obtain ⟨y,hy,hlt,hwk⟩:=hq
      obtain ⟨ι2,hs2⟩:=hwk _ _ _ _ _ hs'
      obtain ⟨e2,a2,w2,hq2,harr2⟩:=ih (μ y) (hm ▸ hlt) y rfl hy ι2 a1 w1 hs2 b k cs
      exact ⟨e2,a2,w2,hq2,.of_steps (Steps.trans harr (.one step_inLoop)) harr2⟩
    | exit id=>exact ⟨_,a1,w1,⟨s',ι',hq,hs'⟩,.pass (x:=.inLoop c) rfl (fun _ _=>.inl (by simp)) harr⟩
    | goto l=>exact ⟨_,a1,w1,⟨s',ι',hq,hs'⟩,.pass (x:=.inLoop c) rfl (fun _ _=>.inl (by simp)) harr⟩
    | ret=>exact ⟨_,a1,w1,⟨s',ι',hq,hs'⟩,.pass (x:=.inLoop c) rfl (fun _ _=>.inl (by simp)) harr⟩
    | panic ch=>exact ⟨_,a1,w1,⟨s',ι',hq,hs'⟩,.pass (x:=.inLoop c) rfl (fun _ _=>.inl (by simp)) harr⟩
    | outgrown=>exact ⟨_,a1,w1,⟨s',ι',hq,hs'⟩,.pass (x:=.inLoop c) rfl (fun _ _=>.inl (by simp)) harr⟩
 intro b k cs
 obtain ⟨e,a',w',hq,harr⟩:=key _ x0 rfl h0 ι0 a w hs0 b k cs
 exact ⟨e,a',w',hq,.of_steps (.one step_loop) harr⟩
end
end Go.Ab
namespace Go.Ab
open Go Go.RowKit
section
variable {w0:Base} {O:Nat→Prop} {ι ι2:Nat→Option Nat} {H H2:List ABlk} {W W2:World} {l:Nat} {o o2:Obj}
theorem put_other {w:World} {l:Nat} {o:Obj} {k:Nat} (h:k≠l):(w.putObj l o).heap[k]?=w.heap[k]?:=by
 unfold World.putObj
 simp only
 rw [Array.getElem?_setIfInBounds]
 rw [if_neg fun e=>h e.symm]
theorem put_same {w:World} {l:Nat} {o:Obj} (h:l<w.heap.size):(w.putObj l o).heap[l]?=some o:=by
 unfold World.putObj
 simp only
 rw [Array.getElem?_setIfInBounds,if_pos rfl,if_pos h]
theorem put_size {w:World} {l:Nat} {o:Obj}:(w.putObj l o).heap.size=w.heap.size:=by
 unfold World.putObj
 simp
theorem Goes.put (hO:O l) (hns:∀c ty fz,W.heap[l]?≠some (.cells c ty fz)):Goes W (OO O ι H) ι H (W.putObj l o) (OO O ι H) ι H:=by
 refine ⟨fun p u hp hu=>?_,fun p u hp _=>hp,fun b blk hb=>⟨blk,hb,Nat.le_refl _,fun _=>⟨rfl,rfl⟩⟩,fun b x blk blk' c ty fz h1 h2 _ hi hc=>?_⟩
 ·rw [put_other (k:=p) (l:=l) fun e=>hp (.inl (by rw [e];exact hO))];exact hu
 ·refine ⟨c,ty,fz,?_,rfl⟩
  rw [put_other (k:=x) (l:=l) fun e=>hns c ty fz (by rw [← e];exact hc)];exact hc
theorem Sit.rebase (hs:Sit w0 O ι H W) (hO:O l) (hns:∀c ty fz,W.heap[l]?≠some (.cells c ty fz)):Sit ⟨W.putObj l o,rng ι H,H,ι⟩ O ι H (W.putObj l o):=by
 refine ⟨fun b blk x h1 h2=>⟨.inr ⟨b,(List.getElem?_eq_some_iff.1 h1).1,h2⟩,?_⟩,hs.empt,hs.inj,.refl ..,fun x hx=>by rw [put_size];exact hs.old x hx,hs.disj,.refl ..⟩
 refine (hs.heap b blk x h1 h2).2.mono (Goes.put hO hns) (put_other fun e=>?_)
 exact hs.disj l b hO (List.getElem?_eq_some_iff.1 h1).1 (e ▸ h2)
theorem Sit.back (hs:Sit w0 O ι H W) (hO:O l) (hl:W.heap[l]?=some o) (hns:∀c ty fz,o≠.cells c ty fz) (hns2:∀c ty fz,o2≠.cells c ty fz) (h2:Sit ⟨W.putObj l o2,rng ι H,H,ι⟩ O ι2 H2 W2) :
 W2.heap[l]?=some o2∧Sit w0 O ι2 H2 (W2.putObj l o)∧Goes W2 (OO O ι2 H2) ι2 H2 (W2.putObj l o) (OO O ι2 H2) ι2 H2:=by
 have hlt:l<W.heap.size:=(Array.getElem?_eq_some_iff.1 hl).1
 have hlr:¬rng ι H l:=fun ⟨b,hb,hx⟩=>hs.disj l b hO hb hx
 have hl2:W2.heap[l]?=some o2:=by
  have:=h2.below.block l (by show l<(W.putObj l o2).heap.size;rw [put_size];exact hlt) hlr
  rw [this];exact put_same hlt
 have hlt2:l<W2.heap.size:=(Array.getElem?_eq_some_iff.1 hl2).1
 have hg2:Goes W2 (OO O ι2 H2) ι2 H2 (W2.putObj l o) (OO O ι2 H2) ι2 H2:=Goes.put hO fun c ty fz e=>by rw [hl2] at e;injection e with e;exact hns2 c ty fz e
 have hg1:Goes W (OO O ι H) ι H (W.putObj l o2) (OO O ι H) ι H:=Goes.put hO fun c ty fz e=>by rw [hl] at e;injection e with e;exact hns c ty fz e
 have hsz:w0.w.heap.size≤W.heap.size:=hs.below.size
 have hin:∀x,rng ι H x→w0.w.heap.size≤x∨w0.S x:=fun x ⟨b,hb,hx⟩=>(hs.heap b _ x (List.getElem?_eq_getElem hb) hx).1
 refine ⟨hl2,⟨fun b blk x h3 h4=>?_,h2.empt,h2.inj,⟨?_,?_,?_,?_,fun k hk hS=>?_⟩,fun x hx=>by rw [put_size];exact h2.old x hx,h2.disj,?_⟩,hg2⟩
 ·obtain ⟨h5,h6⟩:=h2.heap b blk x h3 h4
  refine ⟨?_,h6.mono hg2 (put_other fun e=>h2.disj l b hO (List.getElem?_eq_some_iff.1 h3).1 (e ▸ h4))⟩
  rcases h5 with h5|h5
  ·have:(W.putObj l o2).heap.size≤x:=h5
   rw [put_size] at this
   exact .inl (by omega)
  ·exact hin x h5
 ·exact h2.below.os.trans hs.below.os
 ·exact h2.below.tape.trans hs.below.tape
 ·exact h2.below.output.trans hs.below.output
 ·have:(W.putObj l o2).heap.size≤W2.heap.size:=h2.below.size
  rw [put_size] at this ⊢
  omega
 ·by_cases e:k=l
  ·subst e
   rw [put_same hlt2,← hl];exact hs.below.block k hk hS
  ·rw [put_other e]
   have hkr:¬rng ι H k:=fun hr=>by
    rcases hin k hr with h|h
    ·omega
    ·exact hS h
   rw [h2.below.block k (by show k<(W.putObj l o2).heap.size;rw [put_size];omega) hkr]
   show (W.putObj l o2).heap[k]?=_
   rw [put_other e];exact hs.below.block k hk hS
 ·exact ((hs.hist.trans hg1.grow).trans h2.hist).trans hg2.grow
end
end Go.Ab
namespace Go.Ab
open Go Go.RowKit
section
variable {w0:Base} {O O2:Nat→Prop} {ι ι2:Nat→Option Nat} {H H2:List ABlk} {W W2:World} {l:Nat} {o o1 o2:Obj}
theorem Sit.lessO (hs:Sit w0 O ι H W) (h:∀x,O2 x→O x):Sit w0 O2 ι H W:=
 ⟨fun b blk x h1 h2=>⟨(hs.heap b blk x h1 h2).1,(hs.heap b blk x h1 h2).2.lessO fun y hy=>hy.elim (fun k=>.inl (h y k)) .inr⟩,hs.empt,hs.inj,hs.below,fun x hx=>hs.old x (h x hx),fun x b hx=>hs.disj x b (h x hx),hs.hist⟩
theorem Sit.putN (hs:Sit w0 O ι H W) (hO:O l) (hl:w0.w.heap.size≤l) (hns:∀c ty fz,W.heap[l]?≠some (.cells c ty fz)):Sit w0 O ι H (W.putObj l o):=by
 have hg:Goes W (OO O ι H) ι H (W.putObj l o) (OO O ι H) ι H:=Goes.put hO hns
 refine ⟨fun b blk x h1 h2=>⟨(hs.heap b blk x h1 h2).1,(hs.heap b blk x h1 h2).2.mono hg (put_other fun e=>hs.disj l b hO (List.getElem?_eq_some_iff.1 h1).1 (e ▸ h2))⟩,hs.empt,hs.inj,⟨hs.below.os,hs.below.tape,hs.below.output,by rw [put_size];exact hs.below.size,fun k hk hS=>?_⟩,fun x hx=>by rw [put_size];exact hs.old x hx,hs.disj,hs.hist.trans hg.grow⟩
 rw [put_other (by omega)];exact hs.below.block k hk hS
abbrev two (W:World) (o1 o2:Obj):World:=(W.alloc o1).alloc o2
abbrev andTwo (O:Nat→Prop) (W:World):Nat→Prop:=fun x=>O x∨x=W.heap.size∨x=W.heap.size+1
theorem two_size:(two W o1 o2).heap.size=W.heap.size+2:=by
 show ((W.heap.push o1).push o2).size=_
 rw [Array.size_push,Array.size_push]
theorem two_old {k:Nat} (h:k<W.heap.size):(two W o1 o2).heap[k]?=W.heap[k]?:=by
 show ((W.heap.push o1).push o2)[k]?=_
 rw [Array.getElem?_push,if_neg (by simp;omega),Array.getElem?_push,if_neg (by omega)]
theorem two_1:(two W o1 o2).heap[W.heap.size]?=some o1:=by
 show ((W.heap.push o1).push o2)[W.heap.size]?=_
 rw [Array.getElem?_push,if_neg (by simp),Array.getElem?_push,if_pos rfl]
theorem two_2:(two W o1 o2).heap[W.heap.size+1]?=some o2:=by
 show ((W.heap.push o1).push o2)[W.heap.size+1]?=_
 rw [Array.getElem?_push,if_pos (by simp)]
theorem two_grow:Grow W ι H (two W o1 o2) ι H:=
 ⟨fun b blk hb=>⟨blk,hb,Nat.le_refl _,fun _=>⟨rfl,rfl⟩⟩,fun b x blk blk' c ty fz h1 h2 _ hi hc=>⟨c,ty,fz,by rw [two_old (heap_lt hc)];exact hc,rfl⟩⟩
theorem two_goes:Goes W (OO O ι H) ι H (two W o1 o2) (OO (andTwo O W) ι H) ι H:=
 ⟨fun p u hp hu=>by rw [two_old (heap_lt hu)];exact hu,fun p u hp hu hO=>by
  have:=heap_lt hu
  rcases hO with (h|h|h)|h
  ·exact hp (.inl h)
  ·omega
  ·omega
  ·exact hp (.inr h),(two_grow (W:=W) (o1:=o1) (o2:=o2)).blk,(two_grow (W:=W) (o1:=o1) (o2:=o2)).size⟩
theorem Sit.more (hs:Sit w0 O ι H W):Sit ⟨two W o1 o2,rng ι H,H,ι⟩ (andTwo O W) ι H (two W o1 o2):=by
 have hlt:∀b x,b<H.length→ι b=some x→x<W.heap.size:=fun b x hb hx=>(hs.heap b _ x (List.getElem?_eq_getElem hb) hx).2.lt
 refine ⟨fun b blk x h1 h2=>⟨.inr ⟨b,(List.getElem?_eq_some_iff.1 h1).1,h2⟩,(hs.heap b blk x h1 h2).2.mono two_goes (two_old (hlt b x (List.getElem?_eq_some_iff.1 h1).1 h2))⟩,hs.empt,hs.inj,.refl ..,fun x hx=>?_,fun x b hO hb hx=>?_,.refl ..⟩
 ·rw [two_size]
  rcases hx with h|h|h
  ·have:=hs.old x h;omega
  ·omega
  ·omega
 ·rcases hO with h|h|h
  ·exact hs.disj x b h hb hx
  ·have:=hlt b x hb hx;omega
  ·have:=hlt b x hb hx;omega
theorem Sit.fromMore (hs:Sit w0 O ι H W) (h2:Sit ⟨two W o1 o2,rng ι H,H,ι⟩ (andTwo O W) ι2 H2 W2) :
 Sit w0 (andTwo O W) ι2 H2 W2∧W2.heap[W.heap.size]?=some o1∧W2.heap[W.heap.size+1]?=some o2:=by
 have hlt:∀x,rng ι H x→x<W.heap.size:=fun x ⟨b,hb,hx⟩=>(hs.heap b _ x (List.getElem?_eq_getElem hb) hx).2.lt
 have hin:∀x,rng ι H x→w0.w.heap.size≤x∨w0.S x:=fun x ⟨b,hb,hx⟩=>(hs.heap b _ x (List.getElem?_eq_getElem hb) hx).1
 have hsz:w0.w.heap.size≤W.heap.size:=hs.below.size
 have hblk:∀k,k<W.heap.size+2→¬rng ι H k→W2.heap[k]?=(two W o1 o2).heap[k]?:=fun k hk hr=>h2.below.block k (by show k<(two W o1 o2).heap.size;rw [two_size];exact hk) hr
 have hsz2:W.heap.size+2≤W2.heap.size:=by
  have:(two W o1 o2).heap.size≤W2.heap.size:=h2.below.size
  rw [two_size] at this;exact this
 refine ⟨⟨fun b blk x h3 h4=>⟨?_,(h2.heap b blk x h3 h4).2⟩,h2.empt,h2.inj,⟨h2.below.os.trans hs.below.os,h2.below.tape.trans hs.below.tape,h2.below.output.trans hs.below.output,by omega,fun k hk hS=>?_⟩,h2.old,h2.disj,(hs.hist.trans (two_grow (o1:=o1) (o2:=o2))).trans h2.hist⟩,?_,?_⟩
 ·rcases (h2.heap b blk x h3 h4).1 with h5|h5
  ·have:(two W o1 o2).heap.size≤x:=h5
   rw [two_size] at this
   exact .inl (by omega)
  ·exact hin x h5
 ·have hkr:¬rng ι H k:=fun hr=>by
   rcases hin k hr with h|h
   ·omega
   ·exact hS h
  rw [hblk k (by omega) hkr,two_old (by omega)];exact hs.below.block k hk hS
 ·rw [hblk _ (by omega) fun hr=>by have:=hlt _ hr;omega];exact two_1
 ·rw [hblk _ (by omega) fun hr=>by have:=hlt _ hr;omega];exact two_2
end
end Go.Ab
namespace Go.Ab
open Go Go.RowKit
section
variable {P:Program} {n:Fr} {w w':World} {w0:Base} {O:Nat→Prop} {ι ι':Nat→Option Nat} {H H':List ABlk} {u:Value}
structure GrowFacts2 (st:Nat→Option Nat) (ops:Array Oper) (k m:Nat):Prop where
 one:∀i j c,i<k→j<k→st i=some c→st j=some c→i=j
 lt:∀i c,i<k→st i=some c→c<m
 chain:∀i o c c',i<k→ops[i]?=some o→st i=some c→c'<c→∃j,j<k∧st j=some c'∧reach ops 2 o j=true
 all:∀c,c<m→∃j,j<k∧st j=some c
def growOk2 (st:List (Option Nat)) (ops:Array Oper) (k m:Nat):Bool:=
 let is:=List.range k
 (is.all fun i=>is.all fun j=>match st.getD i none,st.getD j none with|some c,some c'=>i==j||c != c'|_,_=>true) &&
 (is.all fun i=>match st.getD i none with|some c=>decide (c<m)&&((List.range c).all fun c'=>is.any fun j=>st.getD j none==some c'&&(match ops[i]? with|some o=>reach ops 2 o j|none=>false))|none=>true) &&
 ((List.range m).all fun c=>is.any fun j=>st.getD j none==some c)
theorem growOk22_facts {st:List (Option Nat)} {ops:Array Oper} {k m:Nat} (h:growOk2 st ops k m=true):GrowFacts2 (fun i=>st.getD i none) ops k m:=by
 unfold growOk2 at h
 simp only [Bool.and_eq_true] at h
 obtain ⟨⟨h1,h2⟩,h3⟩:=h
 have m1:∀ {i:Nat},i<k→i∈List.range k:=fun h=>by simpa using h
 refine ⟨fun i j c hi hj e1 e2=>?_,fun i c hi e=>?_,fun i o c c' hi ho e hc=>?_,fun c hc=>?_⟩
 ·have:=List.all_eq_true.1 (List.all_eq_true.1 h1 i (m1 hi)) j (m1 hj)
  simp only [e1,e2] at this
  simpa using this
 ·have:=List.all_eq_true.1 h2 i (m1 hi)
  simp only [e,Bool.and_eq_true] at this
  simpa using this.1
 ·have:=List.all_eq_true.1 h2 i (m1 hi)
  simp only [e,Bool.and_eq_true] at this
  obtain ⟨j,hj,hx⟩:=List.any_eq_true.1 (List.all_eq_true.1 this.2 c' (by simpa using hc))
  simp only [Bool.and_eq_true,beq_iff_eq,ho] at hx
  exact ⟨j,by simpa using hj,hx.1,hx.2⟩
 ·obtain ⟨j,hj,hx⟩:=List.any_eq_true.1 (List.all_eq_true.1 h3 c (by simpa using hc))
  exact ⟨j,by simpa using hj,by simpa using hx⟩
theorem wpAny_grow2 {ops:Array Oper} {D:List (Option Tmp)} {k:Nat} (hD:ops.toList.map (·.dst)=D) (hgk:ops.toList.all (gOk D)=true) (hf:DrawFacts D ops k) {st:Nat→Option Nat} {m0:Nat} {HS:Nat→List ABlk} (hgr:GrowFacts2 st ops k m0) (hk:k≤ops.size) {q:Bool} {s1 s':ASt} {O:Nat→Prop}
 {g:Nat→Nat→AV} {vs:Nat→AV} (hgk':g k=lk s1.env) (hst:∀i o,ops[i]?=some o→i<k→((st i=none∧∀c,c≤m0→StepF P n (HS c) (g i) (lite D o) (vs i))∨∃c,st i=some c∧StepG P n (HS c) (g i) (lite D o) (vs i) (HS (c+1)))∧g (i+1)=updF (g i) o.dst (vs i)) (hend0:HS m0=s1.H)
 (ht:Tr P n q ((ops.toList.drop k).map (lite D)) s1 s') :
 ∀(fuel:Nat) (L:Array Bool) (U:List Nat) (ι:Nat→Option Nat) (c0:Nat) (a:Act) (w:World),c0≤m0→(∀j c,j<k→st j=some c→(L.getD j false=true↔c<c0))→L.size=ops.size→(∀j,j<k→(L.getD j false=false↔j∈U))→U.length+(ops.size-k)≤fuel→(∀j,k≤j→L.getD j false=false)→Closed ops L→SRF n w0 O (mix D k (g 0) (g k) L) (HS c0) ι a w →
  wpAny P .any ops (normQ w0 O n s') fuel L a w:=by
 have hDi:∀(i:Nat) (o:Oper),ops[i]?=some o→D[i]?=some o.dst:=fun i o ho=>by subst hD;rw [List.getElem?_map,Array.getElem?_toList,ho];rfl
 -- what the slots hold from step to step
 have hkeep:∀t i j,i≤j→j≤k→(∀m,i≤m→m<j→D[m]?≠some (some t))→g j t=g i t:=by
  intro t i j hij
  obtain ⟨d,rfl⟩:=Nat.exists_eq_add_of_le hij
  clear hij
  induction d with
  | zero=>intro _ _;rfl
  | succ d ih =>
    intro hjk hno
    generalize hjd:i+d=j at ih
    have hij:i≤j:=by omega
    rw [show i+(d+1)=j+1 by omega] at hjk hno ⊢
    have ho:ops[j]?=some ops[j]:=Array.getElem?_eq_getElem (by omega)
    rw [(hst j _ ho (by omega)).2]
    unfold updF
    rw [if_neg (fun e=>hno j hij (by omega) (by rw [hDi j _ ho,e]))]
    exact ih (by omega) fun m hm hmj=>hno m hm (by omega)
 have hwr:∀j o d,ops[j]?=some o→j<k→o.dst=some d→g k d=vs j∧∀i,j<i→i≤k→g i d=vs j:=by
  intro j o d ho hj hd
  have h1:g (j+1) d=vs j:=by rw [(hst j o ho hj).2];simp [updF,hd]
  have h2:∀i,j<i→i≤k→g i d=vs j:=fun i hi hik=>by
   rw [hkeep d (j+1) i hi hik fun m hm hmi e=>hf.one j m d hj (by omega) (by omega) (by rw [hDi j o ho,hd]) e]
   exact h1
  exact ⟨h2 k hj (Nat.le_refl _),h2⟩
 intro fuel
 have hend:∀(L:Array Bool) (ι:Nat→Option Nat) (a:Act) (w:World),L.size=ops.size→(∀j,k≤j→L.getD j false=false)→SRF n w0 O (mix D k (g 0) (g k) L) s1.H ι a w→(∀j,j<k→L.getD j false=true)→SR n w0 O s1 ι a w:=by
  intro L ι a w hsz hL hs hall
  refine ⟨hs.sit,hs.defers,hs.size,hs.hand,fun t=>?_⟩
  have h1:=hs.vals t
  have h2:mix D k (g 0) (g k) L t=lk s1.env t:=by
   rw [← hgk']
   by_cases hex:∃j,j<k∧D[j]?=some (some t)
   ·obtain ⟨j,hj,hd⟩:=hex
    exact mix_in hj (hall j hj) hd
   ·rw [mix_out (fun j hj _ hd=>hex ⟨j,hj,hd⟩)]
    exact (hkeep t 0 k (Nat.zero_le _) (Nat.le_refl _) fun m _ hm hd=>hex ⟨m,hm,hd⟩).symm
  rwa [h2] at h1
 have htail:∀(L:Array Bool) (ι:Nat→Option Nat) (c0:Nat) (a:Act) (w:World) (fuel:Nat),c0≤m0→(∀j c,j<k→st j=some c→(L.getD j false=true↔c<c0))→L.size=ops.size→(∀j,k≤j→L.getD j false=false)→SRF n w0 O (mix D k (g 0) (g k) L) (HS c0) ι a w→(∀j,j<k→L.getD j false=true)→ops.size≤k+fuel →
  wpAny P .any ops (normQ w0 O n s') fuel L a w:=by
  intro L ι c0 a w fuel hc0 hst0 hsz hL hs hall hfu
  have hcm:c0=m0:=by
   rcases Nat.lt_or_ge c0 m0 with h|h
   ·obtain ⟨j,hj,he⟩:=hgr.all c0 h
    have:=(hst0 j c0 hj he).1 (hall j hj)
    omega
   ·omega
  rw [hcm,hend0] at hs
  refine wpAny_tail hD hgk hf fuel k s1 L ι a w (Nat.le_refl _) hk hfu hsz (fun j hj=>?_) ht (hend L ι a w hsz hL hs hall)
  rcases Nat.lt_or_ge j k with h|h
  ·rw [hall j h];simp [h]
  ·rw [hL j h];simp;omega
 induction fuel with
 | zero =>
   intro L U ι c0 a w hc0 hst0 hsz hU hc hL hcl hs
   have hnil:U=[]:=List.eq_nil_of_length_eq_zero (by omega)
   subst hnil
   exact htail L ι c0 a w 0 hc0 hst0 hsz hL hs (fun j hj=>by
    cases h:L.getD j false with
    | true=>rfl
    | false=>exact absurd ((hU j hj).1 h) (by simp)) (by omega)
 | succ fuel ih =>
   intro L U ι c0 a w hc0 hst0 hsz hU hc hL hcl hs
   by_cases hall:∀j,j<k→L.getD j false=true
   ·exact htail L ι c0 a w _ hc0 hst0 hsz hL hs hall (by omega)
   ·have hget:∀i,i<ops.size→L.getD i true=L.getD i false:=fun i hi=>by simp [Array.getD_eq_getD_getElem?,Array.getElem?_eq_getElem (show i<L.size by omega)]
    refine ⟨fun hnil=>?_,fun i hi=>?_⟩
    ·exfalso
     -- the least operation that has not run is ready
     have hex:∃j,j<k∧L.getD j false=false:=by
      rcases Classical.em (∃j,j<k∧L.getD j false=false) with h|h
      ·exact h
      ·exact absurd (fun j hj=>by
        cases h':L.getD j false with
        | true=>rfl
        | false=>exact absurd ⟨j,hj,h'⟩ h) hall
     obtain ⟨j,hj,hjf⟩:=hex
     have hmin:∀m,(∃j,j<m∧j<k∧L.getD j false=false)→∃j,j<k∧L.getD j false=false∧∀i,i<j→L.getD i false=true:=by
      intro m
      induction m with
      | zero=>rintro ⟨j,h,_⟩;omega
      | succ m ihm =>
        rintro ⟨j,h1,h2,h3⟩
        by_cases h:∃j,j<m∧j<k∧L.getD j false=false
        ·exact ihm h
        ·refine ⟨j,h2,h3,fun i hi=>?_⟩
         cases h':L.getD i false with
         | true=>rfl
         | false=>exact absurd ⟨i,by omega,by omega,h'⟩ h
     obtain ⟨j,hj,hjf,hlo⟩:=hmin (j+1) ⟨j,by omega,hj,hjf⟩
     have:j∈Region.ready .any ops L:=mem_ready.2 ⟨ops[j],Array.getElem?_eq_getElem (by omega),by rw [hget j (by omega)];exact hjf,fun e he hb=>hlo _ (hf.down j _ (Array.getElem?_eq_getElem (by omega)) e he hb)⟩
     rw [hnil] at this
     cases this
    ·obtain ⟨o,ho,h1,h2⟩:=mem_ready.1 hi
     have his:i<ops.size:=(Array.getElem?_eq_some_iff.1 ho).1
     rw [hget i his] at h1
     have hik:i<k:=by
      rcases Nat.lt_or_ge i k with h|h
      ·exact h
      ·exact absurd (fun j hj=>reach_listed hcl 8 (hf.tail i o ho h j (by omega)) h2) hall
     obtain ⟨h3,h4⟩:=hst i o ho hik
     have hagree:∀t∈readsOf D o,mix D k (g 0) (g k) L t=g i t:=fun t htr=>by
      by_cases hex:∃j,j<k∧D[j]?=some (some t)
      ·obtain ⟨j,hj,hd⟩:=hex
       obtain ⟨h5,h6⟩:=hf.reads i o ho hik t htr j hj hd
       have hoj:ops[j]?=some ops[j]:=Array.getElem?_eq_getElem (by omega)
       have hdj:ops[j].dst=some t:=by have:=hDi j _ hoj;rw [hd] at this;injection this with this;exact this.symm
       rw [mix_in hj (hasEdge_listed h6 h2) hd,(hwr j _ t hoj hj hdj).1,(hwr j _ t hoj hj hdj).2 i h5 (by omega)]
      ·rw [mix_out (fun j hj _ hd=>hex ⟨j,hj,hd⟩)]
       exact (hkeep t 0 i (Nat.zero_le _) (by omega) fun m _ hm hd=>hex ⟨m,by omega,hd⟩).symm
     have hiU:i∈U:=(hU i hik).1 h1
     have hgo:∀(ι':Nat→Option Nat) (c1:Nat) (a':Act) (w':World),c1≤m0→(∀j c,j<k→st j=some c→((L.setIfInBounds i true).getD j false=true↔c<c1))→SRF n w0 O (updF (mix D k (g 0) (g k) L) o.dst (vs i)) (HS c1) ι' a' w' →
      wpAny P .any ops (normQ w0 O n s') fuel (L.setIfInBounds i true) a' w':=by
      intro ι' c1 a' w' hc1 hst1 hs'
      refine ih (L.setIfInBounds i true) (U.filter (· != i)) ι' c1 a' w' hc1 hst1 (by simp [hsz]) (fun j hj=>?_) ?_ (fun j hj=>?_) (hcl.set ho (by omega) h2) ?_
      ·simp only [Array.getD_eq_getD_getElem?,Array.getElem?_setIfInBounds,List.mem_filter]
       by_cases e:i=j
       ·subst e;simp [show i<L.size by omega]
       ·have:=hU j hj
        simp only [Array.getD_eq_getD_getElem?] at this
        simp only [e,if_false,this,bne_iff_ne,ne_eq]
        exact ⟨fun h=>⟨h,fun h'=>e h'.symm⟩,fun h=>h.1⟩
      ·have:(U.filter (· != i)).length<U.length:=by
        have h7:=List.length_filter_lt_length_iff_exists (l:=U) (p:=(· != i))
        exact h7.2 ⟨i,hiU,by simp⟩
       omega
      ·simp only [Array.getD_eq_getD_getElem?,Array.getElem?_setIfInBounds]
       have:=hL j hj
       simp only [Array.getD_eq_getD_getElem?] at this
       rw [if_neg (by omega)];exact this
      ·have hmx:mix D k (g 0) (g k) (L.setIfInBounds i true)=updF (mix D k (g 0) (g k) L) o.dst (vs i):=by
        funext t
        unfold updF
        by_cases e:o.dst=some t
        ·rw [if_pos e,mix_in hik (by simp [Array.getD_eq_getD_getElem?,show i<L.size by omega]) (by rw [hDi i o ho,e]),(hwr i o t ho hik e).1]
        ·rw [if_neg e]
         have hsame:∀j,D[j]?=some (some t)→(L.setIfInBounds i true).getD j false=L.getD j false:=by
          intro j hd
          have hne:i≠j:=fun e'=>by subst e';rw [hDi i o ho] at hd;injection hd with hd;exact e hd
          simp only [Array.getD_eq_getD_getElem?,Array.getElem?_setIfInBounds,hne,if_false]
         by_cases hex:∃j,j<k∧L.getD j false=true∧D[j]?=some (some t)
         ·obtain ⟨j,hj,hl,hd⟩:=hex
          rw [mix_in hj hl hd,mix_in hj (by rw [hsame j hd];exact hl) hd]
         ·rw [mix_out (fun j hj hl hd=>hex ⟨j,hj,hl,hd⟩),mix_out (fun j hj hl hd=>hex ⟨j,hj,by rw [← hsame j hd];exact hl,hd⟩)]
       rw [hmx];exact hs'
     have hset:∀j,(L.setIfInBounds i true).getD j false=if i=j then true else L.getD j false:=fun j=>by
      simp only [Array.getD_eq_getD_getElem?,Array.getElem?_setIfInBounds]
      by_cases e:i=j
      ·subst e;simp [show i<L.size by omega]
      ·simp [e]
     have hgo':=List.all_eq_true.1 hgk o (by rw [← Array.getElem?_toList] at ho;exact List.mem_of_getElem? ho)
     rcases h3 with ⟨hn,h3⟩|⟨c,hc',h3⟩
     ·refine (h3 c0 hc0).run hD ho hgo' hagree hs fun a' w' hs'=>hgo ι c0 a' w' hc0 (fun j c hj he=>?_) hs'
      rw [hset,if_neg (fun e=>by subst e;rw [hn] at he;cases he)]
      exact hst0 j c hj he
     ·have hcc:c=c0:=by
       have h5:¬c<c0:=fun h=>by have:=(hst0 i c hik hc').2 h;rw [h1] at this;cases this
       rcases Nat.lt_or_ge c0 c with h|h
       ·obtain ⟨j,hj,he,hed⟩:=hgr.chain i o c c0 hik ho hc' h
        have:=(hst0 j c0 hj he).1 (reach_listed hcl 2 hed h2)
        omega
       ·omega
      subst hcc
      refine h3.run ho hagree hs fun ι' a' w' hs'=>hgo ι' (c+1) a' w' (hgr.lt i c hik hc') (fun j d hj he=>?_) hs'
      rw [hset]
      by_cases e:i=j
      ·subst e;rw [hc'] at he;injection he with he;subst he;simp
      ·rw [if_neg e,hst0 j d hj he]
       have:d≠c:=fun h=>e (hgr.one i j c hik hj hc' (h ▸ he))
       omega
theorem AWp.drawG2 {id:Nat} {ops:Array Oper} {D:List (Option Tmp)} {k:Nat} {l1 l2:List LOp} {Q:Exit→ASt→Prop} {s:ASt} (sl:List (Option Nat)) (HS:Nat→List ABlk) (m:Nat) (hm:P.follows .mixedOrders=true) (h:RegD ops k D l1 l2)
 (hg:growOk2 sl ops k m=true) (h0:HS 0=s.H) {E':Env} (h1:TrG P n HS m l1 sl s.env E') (hr:ARun P n false l2 (Q .normal) ⟨E',HS m⟩):AWp P n (.region id ops true) Q s:=by
 intro w0 O ι a w hs
 obtain ⟨hD,hgk,hf,hk,hl1,hl2⟩:=h
 obtain ⟨s',h2,h3⟩:=hr
 have key:(Code.region id ops true).wp P (normQ w0 O n s') a w:=by
  refine wp_region_any hm ?_
  obtain ⟨g,vs,hg0,hgk',hst⟩:=h1.all
  have hlen:l1.length=k:=by rw [← hl1];simp;omega
  rw [hlen] at hgk'
  have hb:Below w.heap.size w { w with drawn:=w.drawn+1 }:=(Below.refl _ _).drew
  refine wpAny_grow2 (s1:=⟨E',HS m⟩) (st:=fun i=>sl.getD i none) hD hgk (drawOk_facts hf) (growOk22_facts hg) hk (g:=g) (vs:=vs) hgk' (fun i o ho hi=>?_) rfl (by rw [hl2];exact h2) ops.size _ (List.range k) ι 0 a _ (Nat.zero_le _) (fun j c hj hc=>?_) (by simp) (fun j hj=>?_) (by simp;omega) (fun j hj=>?_) (fun j o' _ hj=>by simp only [Array.getD_eq_getD_getElem?,Array.getElem?_replicate] at hj;split at hj<;>cases hj) ?_
  ·exact hst i (lite D o) (by rw [← hl1,List.getElem?_map,List.getElem?_take,if_pos hi,Array.getElem?_toList,ho];rfl)
  ·simp only [Array.getD_eq_getD_getElem?,Array.getElem?_replicate];split<;>simp
  ·simp [Array.getD_eq_getD_getElem?,hj,Array.getElem?_replicate];split<;>rfl
  ·simp only [Array.getD_eq_getD_getElem?,Array.getElem?_replicate];split<;>rfl
  ·rw [h0]
   refine ⟨hs.sit.quiet hb,hs.defers,hs.size,hs.hand,fun t=>?_⟩
   have:mix D k (g 0) (g k) (Array.replicate ops.size false) t=lk s.env t:=by
    rw [mix_out,hg0]
    intro j hj hl
    simp only [Array.getD_eq_getD_getElem?,Array.getElem?_replicate] at hl
    split at hl<;>cases hl
   rw [this]
   exact (hs.vals t).mono (Goes.quiet hs.sit hb)
 refine wp_mono key ?_
 rintro e a w ⟨rfl,ι',h⟩
 exact ⟨s',ι',h3,h⟩
end
section
variable {P:Program} {n:Fr}
theorem drS2 {id k:Nat} {ops:Array Oper} {D:List (Option Tmp)} {l1 l2:List LOp} {Q:Exit→ASt→Prop} {s:ASt} (sl:List (Option Nat)) (HS:Nat→List ABlk) (m:Nat) (hm:P.follows .mixedOrders=true) (h1:GRun P n HS m l1 sl (fun E'=>ARun P n false l2 (Q .normal) ⟨E',HS m⟩) s.env)
 (h:RegD ops k D l1 l2:=by (refine ⟨rfl,rfl,by kernel_rfl,by decide,?_,?_⟩;(simp +decide only [go_sem,List.map,List.take];rfl);(simp +decide only [go_sem,List.map,List.drop];rfl)))
 (hg:growOk2 sl ops k m=true:=by kernel_rfl) (h0:HS 0=s.H:=by rfl):AWp P n (.region id ops true) Q s:=
 let ⟨E',h3,h4⟩:=h1;.drawG2 sl HS m hm h hg h0 h3 h4
end
end Go.Ab
namespace Go.Ab
open Go Go.RowKit
section
variable {P:Program} {w w':World} {w0:Base} {O:Nat→Prop} {ι:Nat→Option Nat} {H:List ABlk} {u:Value}
end
end Go.Ab
namespace Go.Ab
open Go Go.RowKit
section
variable {P:Program} {H:List ABlk}
def placesA (len sz:Nat):List (Nat × Nat):=(List.range len).map fun i=>(i*sz,sz)
theorem ql_buildA {ρ:Operand→AV} {t el:TypeId} {len sz:Nat} {parts:Array (Nat × Operand)} {zs cs:List AV} (hu:P.underlying t=some (.array len el)) (hsz:szTy P el=some sz) (hz:zeroA P t=some (.agg zs))
 (h:fillA (placesA len sz) zs (parts.toList.map fun (i,x)=>(i,ρ x))=some cs):QL P H ρ (.build t parts) (.agg cs):=by
 refine QL.of_run fun w0 O ι a w hs hv o ho=>?_
 obtain ⟨zv,hr,hzv⟩:=zero_run (w:=w) hz
 have hrel:RelC w (OO O ι H) ι H zs zv.cells:=by
  have hv0:=VR.cv w (OO O ι H) ι H zv
  rw [← hzv] at hv0
  obtain ⟨arr,rfl,h2,h3⟩:=hv0.agg_inv
  exact ⟨h2,h3⟩
 obtain ⟨arr',h2,h3⟩:=fillA_run (place:=fun i=>some (i*sz,sz)) (fun i x hx=>by
  simp only [placesA,List.getElem?_map,Option.map_eq_some_iff] at hx
  obtain ⟨j,hj,rfl⟩:=hx
  have hlt:=(List.getElem?_eq_some_iff.1 hj).1
  rw [List.getElem?_range (by simpa using hlt)] at hj
  injection hj with hj;subst hj;rfl) (parts.toList.map fun (i,x)=>(i,ρ x)) (parts.toList.map fun (i,x)=>(i,a.eval x)) zs cs zv.cells (by simp)
  (fun j p q hp hq=>by
    simp only [List.getElem?_map,Option.map_eq_some_iff] at hp hq
    obtain ⟨⟨i,x⟩,hx,rfl⟩:=hp
    obtain ⟨y,hy,rfl⟩:=hq
    rw [hx] at hy;injection hy with hy;subst hy
    refine ⟨rfl,hv x ?_⟩
    have:(i,x)∈parts:=by rw [Array.getElem?_toList] at hx;exact Array.mem_of_getElem? hx
    simp only [Op.operands,List.mem_toArray,List.mem_map]
    exact ⟨(i,x),by simpa using this,rfl⟩) hrel h
 refine ⟨.agg arr',?_,.agg _ _ h3.1 h3.2⟩
 have h5:(parts.map fun (i,x)=>(i,a.eval x)).toList=parts.toList.map fun (i,x)=>(i,a.eval x):=by simp
 simp only [execOp,ho,Instr.build,hr,Sem.run_bind,Result.andThen_ok,run_underlying hu,sizeOf_run hsz,h5,h2,Sem.run_pure]
end
theorem placesA_2 (sz:Nat):placesA 2 sz=[(0*sz,sz),(1*sz,sz)]:=rfl
end Go.Ab
