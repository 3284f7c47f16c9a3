/- Drawn regions in which memory changes stage by stage; a reading operation need only be right at the stages that can come before it (bound). -/
import Derived.Scope
import Derived.Test.YthgicbkdckpeaaaDoorG09
import Derived.Test.YthgicbkdckpeaaaDoorG11
import Derived.Test.YthgicbkdckpeaaaDoorG10
import Derived.Test.YthgicbkdckpeaaaDoorG04
set_option linter.unusedSimpArgs false
set_option linter.unusedVariables false
namespace Go.Ab
open Go Go.RowKit
section
variable {P:Program} {n:Fr} {w w':World} {w0:Base} {O:Nat→Prop} {ι ι':Nat→Option Nat} {H H':List ABlk} {u:Value}
inductive TrB (P:Program) (n:Fr) (HS:Nat→List ABlk) (m:Nat):List LOp→List (Option Nat)→List Nat→Env→Env→Prop
 | nil (E:Env):TrB P n HS m [] [] [] E E
 | q (o:LOp) (l:List LOp) (sl:List (Option Nat)) (b:Nat) (bl:List Nat) (E:Env) (v:AV) (E':Env) (h:∀ c,c ≤ m→c ≤ b→StepF P n (HS c) (lk E) o v) (hr:TrB P n HS m l sl bl (putE E o.dst v) E'):TrB P n HS m (o :: l) (none :: sl) (b :: bl) E E'
 | p (o:LOp) (l:List LOp) (sl:List (Option Nat)) (b:Nat) (bl:List Nat) (E:Env) (v:AV) (E':Env) (c:Nat) (h:StepG P n (HS c) (lk E) o v (HS (c + 1))) (hr:TrB P n HS m l sl bl (putE E o.dst v) E'):TrB P n HS m (o :: l) (some c :: sl) (b :: bl) E E'
theorem TrB.all {HS:Nat→List ABlk} {m:Nat}:∀ {l:List LOp} {sl:List (Option Nat)} {bl:List Nat} {E E':Env},TrB P n HS m l sl bl E E'→∃ (g:Nat→Nat→AV) (vs:Nat→AV),g 0 = lk E ∧ g l.length = lk E' ∧
 ∀ i o,l[i]? = some o→((sl.getD i none = none ∧ ∀ c,c ≤ m→c ≤ bl.getD i m→StepF P n (HS c) (g i) o (vs i)) ∨ ∃ c,sl.getD i none = some c ∧ StepG P n (HS c) (g i) o (vs i) (HS (c + 1))) ∧ g (i + 1) = updF (g i) o.dst (vs i)
 | _,_,_,E,_,.nil _=>⟨fun _=>lk E,fun _=>.bad,rfl,rfl,fun i o h=>by simp at h⟩
 | _,_,_,E,E',.q o l sl b bl _ v _ h hr=>by
   obtain ⟨g,vs,h4,h5,h6⟩:=hr.all
   refine ⟨fun i=>match i with | 0=>lk E | i + 1=>g i,fun i=>match i with | 0=>v | i + 1=>vs i,rfl,h5,fun i o' ho'=>?_⟩
   cases i with
   | zero =>
     simp at ho';subst ho'
     exact ⟨.inl ⟨rfl,h⟩,by show g 0 = _;rw [h4,lk_putE]⟩
   | succ i=>exact h6 i o' (by simpa using ho')
 | _,_,_,E,E',.p o l sl b bl _ v _ c h hr=>by
   obtain ⟨g,vs,h4,h5,h6⟩:=hr.all
   refine ⟨fun i=>match i with | 0=>lk E | i + 1=>g i,fun i=>match i with | 0=>v | i + 1=>vs i,rfl,h5,fun i o' ho'=>?_⟩
   cases i with
   | zero =>
     simp at ho';subst ho'
     exact ⟨.inr ⟨c,rfl,h⟩,by show g 0 = _;rw [h4,lk_putE]⟩
   | succ i=>exact h6 i o' (by simpa using ho')
def BRun (P:Program) (n:Fr) (HS:Nat→List ABlk) (m:Nat) (l:List LOp) (sl:List (Option Nat)) (bl:List Nat) (K:Env→Prop) (E:Env):Prop:=∃ E',TrB P n HS m l sl bl E E' ∧ K E'
section
variable {HS:Nat→List ABlk} {m b:Nat} {o:LOp} {l:List LOp} {sl:List (Option Nat)} {bl:List Nat} {E:Env} {v:AV} {K:Env→Prop}
theorem BRun.nil (h:K E):BRun P n HS m [] [] [] K E:=⟨E,.nil E,h⟩
theorem BRun.q1 (hg:o.g = none) (hd:dstOk n o.dst = true) (h:∀ c,c ≤ m→c ≤ b→QL P (HS c) (ev E) o.op v) (hr:BRun P n HS m l sl bl K (putE E o.dst v)):BRun P n HS m (o :: l) (none :: sl) (b :: bl) K E:=
 let ⟨E',h1,h2⟩:=hr;⟨E',.q o l sl b bl E v E' (fun c hc hb=>.q1 v hg hd (by rw [show evF (lk E) = ev E from funext fun x=>(ev_eq E x).symm];exact (h c hc hb).t)) h1,h2⟩
theorem BRun.q0 (hg:o.g = none) (hd:dstOk n o.dst = true) (h:QL P (HS 0) (ev E) o.op v) (hr:BRun P n HS m l sl bl K (putE E o.dst v)):BRun P n HS m (o :: l) (none :: sl) (0 :: bl) K E:=
 .q1 hg hd (fun c _ hc=>by have:c = 0:=by omega
                           subst this;exact h) hr
theorem BRun.p1 {c:Nat} (hg:o.g = none) (hd:dstOk n o.dst = true) (h:PLo P (HS c) (ev E) o.op v (HS (c + 1))) (hr:BRun P n HS m l sl bl K (putE E o.dst v)):BRun P n HS m (o :: l) (some c :: sl) (b :: bl) K E:=
 let ⟨E',h1,h2⟩:=hr;⟨E',.p o l sl b bl E v E' c ⟨hg,hd,by rw [show evF (lk E) = ev E from funext fun x=>(ev_eq E x).symm];exact h⟩ h1,h2⟩
theorem BRun.qf1 (hg:o.g = none) (hd:dstOk n o.dst = true) (h0:qfun P (HS 0) (ev E) o.op = some v) (h1:qfun P (HS 1) (ev E) o.op = some v) (hr:BRun P n HS 1 l sl bl K (putE E o.dst v)):BRun P n HS 1 (o :: l) (none :: sl) (b :: bl) K E:=
 .q1 hg hd (fun c hc _=>ql_fun (by rcases (by omega:c = 0 ∨ c = 1) with h | h <;> subst h <;> assumption)) hr
end
end
theorem PubR.same {H:List ABlk} (a:AV):PubR some H a a:=fun H2 w0 w O ι ι2 u hs v hu=>hu.mono
 ⟨fun _ _ _ h=>h,fun p c h _ h2=>h (v.OO h2),fun b blk hb=>by
  obtain ⟨blk2,e1,e2,e3,e4⟩:=v.idx b b blk rfl hb
  exact ⟨blk2,e1,Nat.le_of_eq e2.symm,fun _=>⟨e3,e4⟩⟩,
  fun b x blk blk' c ty fz _ _ _ _ h=>⟨c,ty,fz,h,rfl⟩⟩
theorem RetH.same {P:Program} {rs:List ResultVar} {n:Fr} {d:AV} {H':List ABlk} {s:ASt} {vs:List AV} (h:resVals P s rs = some vs) (hd:packA vs = d) (hH:s.H = H'):RetH P rs n d H' s:=
 ⟨s,vs,some,fun j=>j,.refl s,h,⟨fun b _=>rfl,fun j hj=>⟨by rw [hH];exact hj,rfl⟩,fun b j hb hr=>by injection hr with hr;subst hr;exact ⟨rfl,by rw [← hH];exact hb⟩,
  fun j blk blk2 h1 h2=>by
   rw [hH,h2] at h1;injection h1 with h1;subst h1
   exact ⟨rfl,rfl,rfl,fun i e e2 h3 h4=>by
    rw [h3] at h4;injection h4 with h4;subst h4
    exact ⟨rfl,fun k c c2 h5 h6=>by rw [h5] at h6;injection h6 with h6;subst h6;exact .same _⟩⟩⟩,by rw [hd];exact .same _⟩
end Go.Ab
namespace Go.Ab
open Go Go.RowKit
end Go.Ab
namespace Go.Ab
open Go Go.RowKit
theorem iff_ {P:Program} {n:Fr} {Q:Exit→ASt→Prop} {s:ASt} {b:Bool} {cc:Operand} {x y:Code} (h:AWp P n y Q s) (hb:b = false:=by first | rfl | simp) (hc:ev s.env cc = .base (.bool b):=by rfl):AWp P n (.cond cc x y) Q s:=AWp.cond hc (fun h2=>by rw [hb] at h2;cases h2) (fun _=>h)
theorem ift_ {P:Program} {n:Fr} {Q:Exit→ASt→Prop} {s:ASt} {b:Bool} {cc:Operand} {x y:Code} (h:AWp P n x Q s) (hb:b = true:=by first | rfl | simp) (hc:ev s.env cc = .base (.bool b):=by rfl):AWp P n (.cond cc x y) Q s:=AWp.cond hc (fun _=>h) (fun h2=>by rw [hb] at h2;cases h2)
theorem iftd_ {P:Program} {n:Fr} {Q:Exit→ASt→Prop} {s:ASt} {p:Prop} [Decidable p] {cc:Operand} {x y:Code} (hc:ev s.env cc = .base (.bool (decide p))) (hp:p) (h:AWp P n x Q s):AWp P n (.cond cc x y) Q s:=AWp.cond hc (fun _=>h) (fun h2=>absurd hp (of_decide_eq_false h2))
end Go.Ab
namespace Go.Ab
open Go Go.RowKit
theorem PubR.iptr {r:Nat→Option Nat} {H:List ABlk} {b tot i off:Nat} {blk:ABlk} {e d:AV} (hk:r b = none) (h1:H[b]? = some blk) (ht:blk.es.length = tot) (he:blk.es[i]? = some e)
 (hd:PubRL r H e.cells d.cells):PubR r H (.ptr b tot i off) (.iptr d off):=fun H2 w0 w O ι ι2 u hs v hu=>by
 cases hu with
 | stalePtr b tot i off blk' a h1' h2=>rw [h1] at h1';cases h1';omega
 | ptr b tot i off blk' x h1' ht' hi hcx =>
   rw [h1] at h1';cases h1'
   obtain ⟨hx0,c0,hc,hcs,hsz,hel⟩:=hs.heap b blk x h1 hi
   have hnot:¬ OO O ι2 H2 x:=not_OO_view hs v h1 hk hi
   have hat:∀ (j:Nat) (c:AV),d.cells[j]? = some c→∃ u,w.cell? ⟨x,i * blk.sz + j,none⟩ = some u ∧ VR w (OO O ι2 H2) ι2 H2 c u:=by
    intro j c hcj
    have hj:j < e.cells.length:=by rw [hd.len];exact (List.getElem?_eq_some_iff.1 hcj).1
    have hej:e.cells[j]? = some e.cells[j]:=List.getElem?_eq_getElem hj
    obtain ⟨u,hu,hv⟩:=hel i j e _ he hej
    obtain ⟨ty3,fz3,hc⟩:=rowAt_el hc hcx
    exact ⟨u,by simpa [World.cell?,hc] using hu,hd.get j _ c hej hcj H2 w0 w O ι ι2 u hs v hv⟩
   refine .iptr d off _ (fun j=>(w.cell? ⟨x,i * blk.sz + j,none⟩).getD undef) rfl (Nat.le_add_left _ _) (fun j c hcj=>?_) (fun j c hcj=>?_)
   ·obtain ⟨u,hu,_⟩:=hat j c hcj
    refine ⟨hnot,?_⟩
    show w.cell? ⟨x,i * blk.sz + off - off + j,none⟩ = _
    rw [Nat.add_sub_cancel,hu];rfl
   ·obtain ⟨u,hu,hv⟩:=hat j c hcj
    simpa only [hu,Option.getD_some] using hv
end Go.Ab
namespace Go.Ab
open Go Go.RowKit
section
variable {P:Program} {H:List ABlk} {w w':World} {w0:Base} {O:Nat→Prop} {ι:Nat→Option Nat}
end
end Go.Ab
namespace Go.Ab
open Go Go.RowKit
def InB (r:Nat→Option Nat) (HC:List ABlk):List Nat→List ABlk→Prop
 | [],[]=>True
 | b :: e,k :: H=>(∃ bc,HC[b]? = some bc ∧ BlkMv r HC bc k) ∧ InB r HC e H
 | _,_=>False
def OutB (r:Nat→Option Nat) (H':List ABlk):List ABlk→List ABlk→Prop
 | [],[]=>True
 | k :: H,n :: N=>BlkMv r H' k n ∧ OutB r H' H N
 | _,_=>False
theorem InB.len {r:Nat→Option Nat} {HC:List ABlk}:∀ {e:List Nat} {H:List ABlk},InB r HC e H→e.length = H.length
 | [],[],_=>rfl
 | b :: e,k :: H,h=>by simp [InB.len h.2]
theorem InB.get {r:Nat→Option Nat} {HC:List ABlk}:∀ {e:List Nat} {H:List ABlk},InB r HC e H→∀ (j b:Nat),e[j]? = some b→∃ bc bk,HC[b]? = some bc ∧ H[j]? = some bk ∧ BlkMv r HC bc bk
 | [],[],_,j,b,h=>by simp at h
 | b0 :: e,k :: H,h,0,b,hb=>by
   simp at hb;subst hb
   obtain ⟨bc,h1,h2⟩:=h.1
   exact ⟨bc,k,h1,rfl,h2⟩
 | b0 :: e,k :: H,h,j + 1,b,hb=>by
   simp at hb
   obtain ⟨bc,bk,h1,h2,h3⟩:=InB.get h.2 j b hb
   exact ⟨bc,bk,h1,by simpa using h2,h3⟩
theorem OutB.len {r:Nat→Option Nat} {H':List ABlk}:∀ {H N:List ABlk},OutB r H' H N→H.length = N.length
 | [],[],_=>rfl
 | k :: H,n :: N,h=>by simp [OutB.len h.2]
theorem OutB.get {r:Nat→Option Nat} {H':List ABlk}:∀ {H N:List ABlk},OutB r H' H N→∀ (j:Nat) (k n:ABlk),H[j]? = some k→N[j]? = some n→BlkMv r H' k n
 | [],[],_,j,k,n,h1,h2=>by simp at h1
 | k0 :: H,n0 :: N,h,0,k,n,h1,h2=>by simp at h1 h2;subst h1;subst h2;exact h.1
 | k0 :: H,n0 :: N,h,j + 1,k,n,h1,h2=>by simp at h1 h2;exact OutB.get h.2 j k n h1 h2
section
variable {P:Program} {HC:List ABlk}
theorem BlkMv.one {r:Nat→Option Nat} {H:List ABlk} {ty sz:Nat} {e e2:AV} (h:MvL r H e.cells e2.cells):BlkMv r H ⟨ty,sz,[e]⟩ ⟨ty,sz,[e2]⟩:=
 ⟨rfl,rfl,rfl,fun i x x2 h1 h2=>by
  cases i with
  | succ i=>simp at h1
  | zero =>
    simp at h1 h2;subst h1;subst h2
    exact ⟨h.len,h.get⟩⟩
end
end Go.Ab
namespace Go.Ab
open Go Go.RowKit
theorem Wk.wf {n:Fr} {E E2:Env} {H H2:List ABlk} (hH:H = H2:=by rfl) (h:WkE E E2:=by repeat (first | exact trivial | refine And.intro (Le.of_eq rfl) ?_ | refine And.intro (Le.bad _) ?_ | refine And.intro (Le.under_true _) ?_)):Wk n ⟨E,H⟩ ⟨E2,H2⟩:=.env2 hH h
end Go.Ab
namespace Go.Ab
open Go Go.RowKit
section
variable {P:Program} {n:Fr} {Q:Exit→ASt→Prop} {c:Code}
end
end Go.Ab
namespace Go.Ab
open Go Go.RowKit
section
variable {p q:Prop}
end
section
variable {P:Program} {n:Fr} {q:Bool} {K:ASt→Prop} {Q:Exit→ASt→Prop} {s:ASt}
end
end Go.Ab
namespace Go.Ab
open Go Go.RowKit Go.MapKept
section
variable {α β:Type} [DecidableEq α] {P:Program} {w:World} {kt:TypeId} {enc:α→Value}
end
section
variable {P:Program} {w w':World} {w0:Base} {O:Nat→Prop} {ι:Nat→Option Nat} {H:List ABlk} {u:Value}
abbrev agg2 (p:Int × Int):AV:=.agg [.int p.1,.int p.2]
end
end Go.Ab
namespace Go.Ab
open Go Go.RowKit Go.MapKept
section
variable {P:Program} {w:World} {O:Nat→Prop} {ι:Nat→Option Nat} {H:List ABlk} {u:Value}
end
end Go.Ab
namespace Go.Ab
open Go Go.RowKit
section
variable {P:Program} {n:Fr} {w w':World} {w0:Base} {O:Nat→Prop} {ι ι':Nat→Option Nat} {H H':List ABlk} {u:Value}
inductive TrM (P:Program) (n:Fr) (HS:Nat→List ABlk):List LOp→List (Option Nat)→List (List Nat)→Env→Env→Prop
 | nil (E:Env):TrM P n HS [] [] [] E E
 | q (o:LOp) (l:List LOp) (sl:List (Option Nat)) (b:List Nat) (bl:List (List Nat)) (E:Env) (v:AV) (E':Env) (h:∀ S,S ∈ b→StepF P n (HS S) (lk E) o v) (hr:TrM P n HS l sl bl (putE E o.dst v) E'):TrM P n HS (o :: l) (none :: sl) (b :: bl) E E'
 | p (o:LOp) (l:List LOp) (sl:List (Option Nat)) (b:List Nat) (bl:List (List Nat)) (E:Env) (v:AV) (E':Env) (c:Nat) (h:∀ S,S ∈ b→StepG P n (HS S) (lk E) o v (HS (S ||| 2 ^ c))) (hr:TrM P n HS l sl bl (putE E o.dst v) E'):TrM P n HS (o :: l) (some c :: sl) (b :: bl) E E'
theorem TrM.all {HS:Nat→List ABlk}:∀ {l:List LOp} {sl:List (Option Nat)} {bl:List (List Nat)} {E E':Env},TrM P n HS l sl bl E E'→∃ (g:Nat→Nat→AV) (vs:Nat→AV),g 0 = lk E ∧ g l.length = lk E' ∧
 ∀ i o,l[i]? = some o→((sl.getD i none = none ∧ ∀ S,S ∈ bl.getD i []→StepF P n (HS S) (g i) o (vs i)) ∨ ∃ c,sl.getD i none = some c ∧ ∀ S,S ∈ bl.getD i []→StepG P n (HS S) (g i) o (vs i) (HS (S ||| 2 ^ c))) ∧ g (i + 1) = updF (g i) o.dst (vs i)
 | _,_,_,E,_,.nil _=>⟨fun _=>lk E,fun _=>.bad,rfl,rfl,fun i o h=>by simp at h⟩
 | _,_,_,E,E',.q o l sl b bl _ v _ h hr=>by
   obtain ⟨g,vs,h4,h5,h6⟩:=hr.all
   refine ⟨fun i=>match i with | 0=>lk E | i + 1=>g i,fun i=>match i with | 0=>v | i + 1=>vs i,rfl,h5,fun i o' ho'=>?_⟩
   cases i with
   | zero =>
     simp at ho';subst ho'
     exact ⟨.inl ⟨rfl,h⟩,by show g 0 = _;rw [h4,lk_putE]⟩
   | succ i=>exact h6 i o' (by simpa using ho')
 | _,_,_,E,E',.p o l sl b bl _ v _ c h hr=>by
   obtain ⟨g,vs,h4,h5,h6⟩:=hr.all
   refine ⟨fun i=>match i with | 0=>lk E | i + 1=>g i,fun i=>match i with | 0=>v | i + 1=>vs i,rfl,h5,fun i o' ho'=>?_⟩
   cases i with
   | zero =>
     simp at ho';subst ho'
     exact ⟨.inr ⟨c,rfl,h⟩,by show g 0 = _;rw [h4,lk_putE]⟩
   | succ i=>exact h6 i o' (by simpa using ho')
def MRun (P:Program) (n:Fr) (HS:Nat→List ABlk) (l:List LOp) (sl:List (Option Nat)) (bl:List (List Nat)) (K:Env→Prop) (E:Env):Prop:=∃ E',TrM P n HS l sl bl E E' ∧ K E'
section
variable {HS:Nat→List ABlk} {b:List Nat} {o:LOp} {l:List LOp} {sl:List (Option Nat)} {bl:List (List Nat)} {E:Env} {v:AV} {K:Env→Prop}
theorem MRun.nil (h:K E):MRun P n HS [] [] [] K E:=⟨E,.nil E,h⟩
theorem MRun.q1 (hg:o.g = none) (hd:dstOk n o.dst = true) (h:∀ S,S ∈ b→QL P (HS S) (ev E) o.op v) (hr:MRun P n HS l sl bl K (putE E o.dst v)):MRun P n HS (o :: l) (none :: sl) (b :: bl) K E:=
 let ⟨E',h1,h2⟩:=hr;⟨E',.q o l sl b bl E v E' (fun S hS=>.q1 v hg hd (by rw [show evF (lk E) = ev E from funext fun x=>(ev_eq E x).symm];exact (h S hS).t)) h1,h2⟩
theorem MRun.p1 {c:Nat} (hg:o.g = none) (hd:dstOk n o.dst = true) (h:∀ S,S ∈ b→PLo P (HS S) (ev E) o.op v (HS (S ||| 2 ^ c))) (hr:MRun P n HS l sl bl K (putE E o.dst v)):MRun P n HS (o :: l) (some c :: sl) (b :: bl) K E:=
 let ⟨E',h1,h2⟩:=hr;⟨E',.p o l sl b bl E v E' c (fun S hS=>⟨hg,hd,by rw [show evF (lk E) = ev E from funext fun x=>(ev_eq E x).symm];exact h S hS⟩) h1,h2⟩
end
theorem Sit.fill (hs:Sit w0 O ι H w) {b:Nat} {blk0:ABlk} (hb0:H[b]? = some blk0) (he0:blk0.es = []) (blk:ABlk) (hne:blk.es ≠ []) (c:Array Value) (hmt:blk.ty < mapTy) (h1:blk.es.length * blk.sz ≤ c.size) (h2:∀ e ∈ blk.es,e.cells.length = blk.sz)
 (h3:∀ (i j:Nat) (e d:AV),blk.es[i]? = some e→e.cells[j]? = some d→∃ u,c[i * blk.sz + j]? = some u ∧ VR w (OO O ι H) ι H d u) :
 Sit w0 O (upd ι b w.heap.size) (H.set b blk) (w.alloc (.cells c blk.ty)) ∧
 Goes w (OO O ι H) ι H (w.alloc (.cells c blk.ty)) (OO O (upd ι b w.heap.size) (H.set b blk)) (upd ι b w.heap.size) (H.set b blk):=by
 have hbl:b < H.length:=(List.getElem?_eq_some_iff.1 hb0).1
 have hb:Below w.heap.size w (w.alloc (.cells c blk.ty)):=(Below.refl _ _).alloc (by omega) _
 obtain ⟨H2,hH2⟩:∃ H2,H2 = H.set b blk:=⟨_,rfl⟩
 rw [← hH2]
 have hlen2:H2.length = H.length:=by rw [hH2];simp
 have hget:∀ b' bk,H2[b']? = some bk→(b' = b ∧ bk = blk) ∨ (b' ≠ b ∧ H[b']? = some bk):=by
  intro b' bk h
  rw [hH2,List.getElem?_set] at h
  by_cases e:b = b'
  ·subst e;rw [if_pos rfl,if_pos hbl] at h;injection h with h;exact .inl ⟨rfl,h.symm⟩
  ·rw [if_neg e] at h;exact .inr ⟨fun e'=>e e'.symm,h⟩
 have hinv:∀ b' x,b' < H2.length→upd ι b w.heap.size b' = some x→(b' = b ∧ x = w.heap.size) ∨ (b' ≠ b ∧ b' < H.length ∧ ι b' = some x):=by
  intro b' x hb' hx
  by_cases e:b' = b
  ·subst e;rw [upd_same] at hx;injection hx with hx;exact .inl ⟨rfl,hx.symm⟩
  ·rw [upd_other e] at hx;exact .inr ⟨e,by omega,hx⟩
 have hrng:∀ b x,b < H.length→ι b = some x→x < w.heap.size:=fun b x hb hx=>(hs.heap b _ x (List.getElem?_eq_getElem hb) hx).2.lt
 have g:Goes w (OO O ι H) ι H (w.alloc (.cells c blk.ty)) (OO O (upd ι b w.heap.size) H2) (upd ι b w.heap.size) H2:=by
  refine ⟨fun p u _ h=>by rw [hb.block p (heap_lt h)];exact h,fun p u h hc=>?_,fun b' bk h=>?_,fun b' x bk bk' c' ty fz h1 h2 hl hi h=>?_⟩
  ·rintro (ho | ⟨b',hbl',hx⟩)
   ·exact h (.inl ho)
   ·rcases hinv b' _ hbl' hx with ⟨_,e⟩ | ⟨_,h4,h5⟩
    ·have:=heap_lt hc;omega
    ·exact h (.inr ⟨b',h4,h5⟩)
  ·by_cases e:b' = b
   ·subst e
    rw [hb0] at h;injection h with h;subst h
    refine ⟨blk,by rw [hH2];simp [hbl],by rw [he0];simp,fun he=>?_⟩
    rw [he0] at he
    exact absurd (List.eq_nil_of_length_eq_zero he) hne
   ·exact ⟨bk,by rw [hH2,List.getElem?_set_ne (fun e'=>e e'.symm)];exact h,Nat.le_refl _,fun _=>⟨rfl,upd_other e⟩⟩
  ·have hlt:x < w.heap.size:=hrng b' x (List.getElem?_eq_some_iff.1 h1).1 hi
   exact ⟨c',ty,fz,by rw [hb.block x hlt];exact h,rfl⟩
 refine ⟨⟨fun b' bk x h hx=>?_,fun b' bk h hx=>?_,fun b1 b2 x h h' hx hx'=>?_,hs.below.step hb,fun x hx=>Nat.lt_of_lt_of_le (hs.old x hx) hb.size,fun x b' hO hbl' hx=>?_,hs.hist.trans g.grow⟩,g⟩
 ·rcases hget b' bk h with ⟨rfl,rfl⟩ | ⟨hne',h'⟩
  ·rw [upd_same] at hx;injection hx with hx;subst hx
   refine ⟨.inl hs.below.size,c,?_,h1,h2,fun i j e d he hd=>?_⟩
   ·rw [rowAt,heap_alloc_new w _];simp [objRow,hmt]
   ·obtain ⟨u,hu,hv⟩:=h3 i j e d he hd
    exact ⟨u,hu,hv.mono g⟩
  ·rw [upd_other hne'] at hx
   obtain ⟨h6,h7⟩:=hs.heap b' bk x h' hx
   exact ⟨h6,h7.mono g (hb.block x h7.lt)⟩
 ·rcases hget b' bk h with ⟨rfl,rfl⟩ | ⟨hne',h'⟩
  ·rw [upd_same] at hx;cases hx
  ·rw [upd_other hne'] at hx;exact hs.empt b' bk h' hx
 ·rcases hinv b1 x h hx with ⟨rfl,rfl⟩ | ⟨n1,h4,h5⟩
  ·rcases hinv b2 _ h' hx' with ⟨rfl,_⟩ | ⟨_,h6,h7⟩
   ·rfl
   ·have:=hrng b2 _ h6 h7;omega
  ·rcases hinv b2 x h' hx' with ⟨rfl,rfl⟩ | ⟨_,h6,h7⟩
   ·have:=hrng b1 _ h4 h5;omega
   ·exact hs.inj b1 b2 x h4 h6 h5 h7
 ·rcases hinv b' x hbl' hx with ⟨_,e⟩ | ⟨_,h4,h5⟩
  ·have:=hs.old x hO;omega
  ·exact hs.disj x b' hO h4 h5
end
end Go.Ab
namespace Go.Ab
open Go Go.RowKit
section
variable {P:Program} {n:Fr} {Q:Exit→ASt→Prop} {s:ASt}
def AWpI (P:Program) (n:Fr) (c:Code) (Q:Exit→ASt→Prop) (s:ASt):Prop:=
 ∀ (w0:Base) (O:Nat→Prop) (ι:Nat→Option Nat) (a:Act) (w:World),SR n w0 O s ι a w→∀ (b:Frame) (k:List Item) (cs:List Frame),
  ∃ e a' w',liftQ w0 O n Q e a' w' ∧ Arrives P (lone (b.at a (.code c :: .inLoop c :: k)) cs w) b k cs e a' w'
theorem AWpI.turn {c:Code} (h:AWp P n c (thenQ (AWpI P n c Q) Q) s):AWpI P n c Q s:=by
 intro w0 O ι a w hs b k cs
 obtain ⟨e,a1,w1,⟨s',ι',hq,hs'⟩,harr⟩:=h w0 O ι a w hs b (.inLoop c :: k) cs
 cases e with
 | normal =>
   obtain ⟨e2,a2,w2,hq2,harr2⟩:=hq w0 O ι' a1 w1 hs' b k cs
   exact ⟨e2,a2,w2,hq2,.of_steps (Steps.trans harr (.one step_inLoop)) harr2⟩
 | exit id=>exact ⟨_,a1,w1,⟨s',ι',hq,hs'⟩,.pass (x:=.inLoop c) rfl (fun _ _=>.inl (by simp)) harr⟩
 | goto l=>exact ⟨_,a1,w1,⟨s',ι',hq,hs'⟩,.pass (x:=.inLoop c) rfl (fun _ _=>.inl (by simp)) harr⟩
 | ret=>exact ⟨_,a1,w1,⟨s',ι',hq,hs'⟩,.pass (x:=.inLoop c) rfl (fun _ _=>.inl (by simp)) harr⟩
 | panic ch=>exact ⟨_,a1,w1,⟨s',ι',hq,hs'⟩,.pass (x:=.inLoop c) rfl (fun _ _=>.inl (by simp)) harr⟩
 | outgrown=>exact ⟨_,a1,w1,⟨s',ι',hq,hs'⟩,.pass (x:=.inLoop c) rfl (fun _ _=>.inl (by simp)) harr⟩
theorem AWp.turn {c:Code} (h:AWp P n c (thenQ (AWpI P n c Q) Q) s):AWp P n (.loop c) Q s:=by
 intro w0 O ι a w hs b k cs
 obtain ⟨e,a',w',hq,harr⟩:=AWpI.turn h w0 O ι a w hs b k cs
 exact ⟨e,a',w',hq,.of_steps (.one step_loop) harr⟩
end
end Go.Ab
namespace Go.Ab
open Go Go.RowKit
section
variable {P:Program} {H:List ABlk} {ρ:Operand→AV}
end
end Go.Ab
namespace Go.Ab
open Go Go.RowKit
section
variable {P:Program} {H:List ABlk} {ρ:Operand→AV}
end
end Go.Ab
namespace Go.Ab
open Go Go.RowKit
def LeL:List AV→List AV→Prop
 | [],[]=>True
 | a :: l,b :: m=>Le a b ∧ LeL l m
 | _,_=>False
theorem LeL.len:∀ {l m:List AV},LeL l m→l.length = m.length
 | [],[],_=>rfl
 | _ :: l,_ :: m,h=>congrArg (· + 1) (LeL.len h.2)
theorem LeL.get:∀ {l m:List AV},LeL l m→∀ (j:Nat) (a b:AV),l[j]? = some a→m[j]? = some b→Le a b
 | a :: l,b :: m,h,0,x,y,hx,hy=>by
   injection hx with hx;injection hy with hy;subst hx;subst hy;exact h.1
 | a :: l,b :: m,h,j + 1,x,y,hx,hy=>LeL.get h.2 j x y hx hy
theorem LeL.at {l m:List AV} (h:LeL l m) {j:Nat} {b:AV} (hb:m[j]? = some b):∃ a,l[j]? = some a ∧ Le a b:=by
 have hj:j < l.length:=by rw [h.len];exact (List.getElem?_eq_some_iff.1 hb).1
 exact ⟨_,List.getElem?_eq_getElem hj,h.get j _ b (List.getElem?_eq_getElem hj) hb⟩
theorem Le.nil:Le (.base (.slice none 0 0)) (.lst []):=fun w O ι H u hu=>by cases hu;exact .lnil
theorem Le.aggL {cs ds:List AV} (h:LeL cs ds):Le (.agg cs) (.agg ds):=fun w O ι H u hu=>by
 cases hu with
 | agg cs arr hlen hh =>
   refine .agg ds arr (by rw [hlen,h.len]) fun j c u hc hu=>?_
   obtain ⟨a,ha,hl⟩:=h.at hc
   exact hl _ _ _ _ _ (hh j a u ha hu)
theorem FnM.le {P:Program} {m:List (Nat × Obj)} {f:FuncId} {args args':List AV} {d:AV} (h:FnM P m f args d) (hl:LeL args' args):FnM P m f args' d:=
 ⟨h.1,fun w O vs h1 h2 h3 h4=>h.2 w O vs h1 h2 (h3.trans hl.len) fun j a u ha hu=>by
  obtain ⟨b,hb,hle⟩:=hl.at ha
  exact hle _ _ _ _ _ (h4 j b u hb hu)⟩
end Go.Ab
namespace Go.Ab
open Go Go.RowKit
section
variable {P:Program} {n:Fr} {s:ASt}
def noG (Q:Exit→ASt→Prop):Exit→ASt→Prop
 | .goto _,_=>False
 | e,s=>Q e s
theorem AWp.scope {c:Code} {Q:Exit→ASt→Prop} (h:AWp P n c (noG Q) s):AWp P n (.scope c) Q s:=fun w0 O ι a w hs=>by
 refine wp_scope_straight (wp_mono (h w0 O ι a w hs) ?_)
 rintro e a w ⟨s',ι',h1,h2⟩
 cases e with
 | goto l=>exact h1.elim
 | _=>exact ⟨s',ι',h1,h2⟩
theorem AWp.label {l:Nat} {Q:Exit→ASt→Prop} (h:Q .normal s):AWp P n (.label l) Q s:=fun w0 O ι a w hs=>wp_label ⟨s,ι,h,hs⟩
end
end Go.Ab
namespace Go.Ab
open Go Go.RowKit
section
variable {P:Program} {n:Fr} {HS:Nat→List ABlk} {o:LOp} {l:List LOp} {sl:List (Option Nat)} {bl:List Nat} {E:Env} {v:AV} {K:Env→Prop}
theorem BRun.qf2 (hg:o.g = none) (hd:dstOk n o.dst = true) (h0:qfun P (HS 0) (ev E) o.op = some v) (h1:qfun P (HS 1) (ev E) o.op = some v) (h2:qfun P (HS 2) (ev E) o.op = some v) (hr:BRun P n HS 2 l sl bl K (putE E o.dst v)):BRun P n HS 2 (o :: l) (none :: sl) (2 :: bl) K E:=
 .q1 hg hd (fun c hc hb=>ql_fun (by rcases (by omega:c = 0 ∨ c = 1 ∨ c = 2) with h | h | h <;> subst h <;> assumption)) hr
end
end Go.Ab
namespace Go.Ab
open Go Go.RowKit
section
variable {P:Program} {H:List ABlk} {ρ:Operand→AV}
theorem ql_slice_own {t el:TypeId} {x:Operand} {lo hi:Option Operand} {b tot off len l h:Nat} {blk:ABlk} (hx:ρ x = .own b tot off len) (ht:P.underlying t = some (.slice el)) (hb:H[b]? = some blk) (htot:blk.es.length = tot)
 (hlo:bnd ρ 0 lo = some l) (hhi:bnd ρ len hi = some h) (hlh:l ≤ h) (hh:h ≤ len) (hsz:szTy P el = some blk.sz):QL P H ρ (.slice t x lo hi none) (.own b tot (off + l) (h - l)):=by
 refine QL.of_run fun w0 O ι a w hs hv o ho=>?_
 have h1:=hv x (by simp [Op.operands])
 have hv2:∀ y,(lo = some y ∨ hi = some y)→VR w (OO O ι H) ι H (ρ y) (a.eval y):=by
  rintro y (rfl | rfl) <;> exact hv y (by simp [Op.operands])
 rw [hx] at h1
 generalize hX:a.eval x = X at h1
 cases h1 with
 | staleOwn b tot off len blk' ad n c hb' hlt=>rw [hb] at hb';cases hb';omega
 | ownNil b blk' hb' he hi' =>
   have hr:=sliceBounds_run (P:=P) (cap:=0) (isSl:=true) hv2 hlo hhi hlh (by omega)
   have:l = 0:=by omega
   have:h = 0:=by omega
   subst l;subst h
   refine ⟨.slice none 0 0,?_,.ownNil b blk' hb' he hi'⟩
   simp only [execOp,ho,hX,Instr.sliceAt,run_underlying ht,Instr.slice,Option.map_none,hr,sizeOf_run hsz,Sem.run_bind,Sem.run_pure,Result.andThen_ok,if_true,Nat.sub_zero]
 | own b tot off len blk' y n cap ad hb' ht' hi' hn hl hcap ha =>
   have hbb:=hb'
   rw [hb] at hbb;cases hbb
   subst hn
   have hr:=sliceBounds_run (P:=P) (cap:=cap) (isSl:=true) hv2 hlo hhi hlh (by omega)
   by_cases hcl:cap = l
   ·refine ⟨.slice (some ad) (h - l) (cap - l),?_,?_⟩
    ·simp only [execOp,ho,hX,Instr.sliceAt,run_underlying ht,Instr.slice,Option.map_none,hr,sizeOf_run hsz,Sem.run_bind,Sem.run_pure,Result.andThen_ok,if_pos hcl]
    ·refine .own b tot (off + l) (h - l) blk y _ _ _ hb' ht' hi' rfl (by omega) (by omega) fun hc=>?_
     obtain ⟨h2,h3,h4⟩:=ha (.inr (by omega))
     have e1:l = 0:=by omega
     have e2:off = 0:=by omega
     subst e1;subst e2
     exact ⟨by simpa using h2,by omega,by simpa using h4⟩
   ·refine ⟨.slice (some (ad.add (l * blk.sz))) (h - l) (cap - l),?_,?_⟩
    ·simp only [execOp,ho,hX,Instr.sliceAt,run_underlying ht,Instr.slice,Option.map_none,hr,sizeOf_run hsz,Sem.run_bind,Sem.run_pure,Result.andThen_ok,if_neg hcl,Option.map_some]
    ·refine .own b tot (off + l) (h - l) blk y _ _ _ hb' ht' hi' rfl (by omega) (by omega) fun hc=>?_
     obtain ⟨h2,h3,c,ty,fz,h4,h5⟩:=ha (.inl (by omega))
     subst h2
     refine ⟨?_,by omega,c,ty,fz,h4,by rw [← h5];congr 1;omega⟩
     rw [add_eq _ _ rfl,Nat.add_mul]
end
end Go.Ab
namespace Go.Ab
open Go Go.RowKit
def hp (N:Nat) (f:Nat→ABlk):List ABlk:=(List.range N).map f
section
variable {N:Nat} {f:Nat→ABlk}
@[simp] theorem hp_len:(hp N f).length = N:=by simp [hp]
theorem hp_get {i:Nat} (h:i < N):(hp N f)[i]? = some (f i):=by simp [hp,h]
theorem hp_ext {L:List ABlk} (hl:L.length = N) (h:∀ i,i < N→L[i]? = some (f i)):L = hp N f:=by
 refine List.ext_getElem? fun i=>?_
 by_cases hi:i < N
 ·rw [h i hi,hp_get hi]
 ·rw [List.getElem?_eq_none (by omega),List.getElem?_eq_none (by simp;omega)]
end
def RfA (S:Nat→Prop) (a:AV):Prop:=Pu a ∨ (∃ b tot i off,a = .ptr b tot i off ∧ S b) ∨ (∃ b tot off len,a = .own b tot off len ∧ S b) ∨ (∃ b,a = .mapv b ∧ S b)
def RfB (S:Nat→Prop) (blk:ABlk):Prop:=∀ e ∈ blk.es,∀ c ∈ e.cells,RfA S c
theorem RfA.pu {S:Nat→Prop} {a:AV} (h:Pu a):RfA S a:=.inl h
theorem RfA.ptr {S:Nat→Prop} {b tot i off:Nat} (h:S b):RfA S (.ptr b tot i off):=.inr (.inl ⟨b,tot,i,off,rfl,h⟩)
theorem RfA.own {S:Nat→Prop} {b tot off len:Nat} (h:S b):RfA S (.own b tot off len):=.inr (.inr (.inl ⟨b,tot,off,len,rfl,h⟩))
theorem RfA.mapv {S:Nat→Prop} {b:Nat} (h:S b):RfA S (.mapv b):=.inr (.inr (.inr ⟨b,rfl,h⟩))
theorem RfA.mono {S S':Nat→Prop} {a:AV} (h:RfA S a) (hs:∀ b,S b→S' b):RfA S' a:=by
 rcases h with h | ⟨b,tot,i,off,rfl,h⟩ | ⟨b,tot,off,len,rfl,h⟩ | ⟨b,rfl,h⟩
 ·exact .pu h
 ·exact .ptr (hs b h)
 ·exact .own (hs b h)
 ·exact .mapv (hs b h)
theorem RfB.mono {S S':Nat→Prop} {b:ABlk} (h:RfB S b) (hs:∀ b,S b→S' b):RfB S' b:=fun e he c hc=>(h e he c hc).mono hs
theorem RfA.mv {S:Nat→Prop} {r:Nat→Option Nat} {H:List ABlk} {a:AV} (h:RfA S a) (hr:∀ b,S b→r b = some b):MvR r H a a:=by
 rcases h with h | ⟨b,tot,i,off,rfl,h⟩ | ⟨b,tot,off,len,rfl,h⟩ | ⟨b,rfl,h⟩
 ·exact .pu h
 ·exact .ptr (hr b h)
 ·exact .own (hr b h)
 ·exact .mapv (hr b h)
theorem RfA.pub {S:Nat→Prop} {r:Nat→Option Nat} {H:List ABlk} {a:AV} (h:RfA S a) (hr:∀ b,S b→r b = some b):PubR r H a a:=by
 rcases h with h | ⟨b,tot,i,off,rfl,h⟩ | ⟨b,tot,off,len,rfl,h⟩ | ⟨b,rfl,h⟩
 ·exact .pu h
 ·exact .ptr (hr b h)
 ·exact .own (hr b h)
 ·exact .mapv (hr b h)
theorem RfB.mv {S:Nat→Prop} {r:Nat→Option Nat} {H:List ABlk} {b:ABlk} (h:RfB S b) (hr:∀ b,S b→r b = some b):BlkMv r H b b:=
 ⟨rfl,rfl,rfl,fun i e e2 h1 h2=>by
  rw [h1] at h2;injection h2 with h2;subst h2
  exact ⟨rfl,fun k c c2 h3 h4=>by
   rw [h3] at h4;injection h4 with h4;subst h4
   exact (h e (List.mem_of_getElem? h1) c (List.mem_of_getElem? h3)).mv hr⟩⟩
def MvE (r:Nat→Option Nat) (H:List ABlk) (E:Env):Env→Prop
 | []=>True
 | (t,v) :: l=>MvR r H (lk E t) v ∧ MvE r H E l
theorem MvE.all {r:Nat→Option Nat} {H:List ABlk} {E:Env}:∀ {E2:Env},MvE r H E E2→∀ p ∈ E2,MvR r H (lk E p.1) p.2
 | [],_,p,h=>by cases h
 | (t,v) :: l,⟨h1,h2⟩,p,h=>by
   rcases List.mem_cons.1 h with rfl | h
   ·exact h1
   ·exact MvE.all h2 p h
def mvr (q p:Nat) (b:Nat):Option Nat:=if b = q then some p else if b = p then none else some b
theorem BR.lessO {w:World} {O O':Nat→Prop} {ι:Nat→Option Nat} {H:List ABlk} {b:ABlk} {x:Nat} (h:BR w O ι H b x) (hO:∀ y,O' y→O y):BR w O' ι H b x:=by
 obtain ⟨c,h1,h2,h3,h4⟩:=h
 exact ⟨c,h1,h2,h3,fun i j e d he hd=>by obtain ⟨u,hu,hv⟩:=h4 i j e d he hd;exact ⟨u,hu,hv.lessO hO⟩⟩
theorem Wk.mv {n:Fr} {E E2:Env} {H1:List ABlk} {B B2 blk0:ABlk} {p:Nat} (hp:H1[p]? = some blk0) (he0:blk0.es = []) (hm:n.m ≤ H1.length) (hne:B.es ≠ [])
 (hB:BlkMv (mvr H1.length p) (H1 ++ [B]) B B2) (hH:∀ b blk,b ≠ p→H1[b]? = some blk→BlkMv (mvr H1.length p) (H1 ++ [B]) blk blk) (hE:MvE (mvr H1.length p) (H1 ++ [B]) E E2) :
 Wk n ⟨E,H1 ++ [B]⟩ ⟨E2,H1.set p B2⟩:=fun w0 O ι a w hs=>by
 have hpl:p < H1.length:=(List.getElem?_eq_some_iff.1 hp).1
 obtain ⟨r,hr⟩:∃ r,r = mvr H1.length p:=⟨_,rfl⟩
 rw [← hr] at hB hH hE
 have rq:r H1.length = some p:=by rw [hr,mvr,if_pos rfl]
 have rp:r p = none:=by rw [hr,mvr,if_neg (by omega),if_pos rfl]
 have ro':∀ b,b ≠ p→b ≠ H1.length→r b = some b:=fun b h1 h2=>by rw [hr,mvr,if_neg h2,if_neg h1]
 let ι2:Nat→Option Nat:=fun b=>if b = p then ι H1.length else ι b
 have i2p:ι2 p = ι H1.length:=if_pos rfl
 have i2o:∀ b,b ≠ p→ι2 b = ι b:=fun b h=>if_neg h
 obtain ⟨H,hHd⟩:∃ H,H = H1 ++ [B]:=⟨_,rfl⟩
 obtain ⟨H2,hH2⟩:∃ H2,H2 = H1.set p B2:=⟨_,rfl⟩
 rw [← hHd] at hs hB hH hE
 have hlen:H.length = H1.length + 1:=by rw [hHd];simp
 have hlen2:H2.length = H1.length:=by rw [hH2];simp
 have hq:H[H1.length]? = some B:=by rw [hHd];simp
 have hl1:∀ b,b < H1.length→H[b]? = H1[b]?:=fun b h=>by rw [hHd,List.getElem?_append_left h]
 have h2p:H2[p]? = some B2:=by rw [hH2,List.getElem?_set_self hpl]
 have h2o:∀ b,b ≠ p→H2[b]? = H1[b]?:=fun b h=>by rw [hH2,List.getElem?_set_ne (fun e=>h e.symm)]
 have hidx:Idx r ι ι2 H H2:=fun b j blk hbj hb=>by
  have hbl:=(List.getElem?_eq_some_iff.1 hb).1
  by_cases e1:b = H1.length
  ·subst e1
   rw [rq] at hbj;injection hbj with hbj;subst hbj
   rw [hq] at hb;injection hb with hb;subst hb
   exact ⟨B2,h2p,hB.2.2.1,hB.2.1,i2p⟩
  ·by_cases e2:b = p
   ·subst e2;rw [rp] at hbj;cases hbj
   ·rw [ro' b e2 e1] at hbj;injection hbj with hbj;subst hbj
    exact ⟨blk,by rw [h2o b e2,← hl1 b (by omega)];exact hb,rfl,rfl,i2o b e2⟩
 have hinv:∀ b x,b < H2.length→ι2 b = some x→∃ b',b' < H.length ∧ ι b' = some x ∧ (b = p ∧ b' = H1.length ∨ b ≠ p ∧ b' = b):=fun b x hb hx=>by
  by_cases e:b = p
  ·subst e;rw [i2p] at hx;exact ⟨_,by omega,hx,.inl ⟨rfl,rfl⟩⟩
  ·rw [i2o b e] at hx;exact ⟨b,by omega,hx,.inr ⟨e,rfl⟩⟩
 have hOO:∀ x,OO O ι2 H2 x→OO O ι H x:=by
  rintro x (h | ⟨b,hb,hx⟩)
  ·exact .inl h
  ·obtain ⟨b',h1,h2,_⟩:=hinv b x hb hx;exact .inr ⟨b',h1,h2⟩
 have hne2:B2.es ≠ []:=fun e=>hne (List.eq_nil_of_length_eq_zero (by rw [← hB.2.2.1,e];rfl))
 rw [← hH2]
 refine ⟨ι2,⟨fun b blk x hb hx=>?_,fun b blk hb hx=>?_,fun b b' x hb hb' hx hx'=>?_,hs.sit.below,hs.sit.old,fun x b hO hb hx=>?_,⟨fun b blk hb=>?_,fun b x blk blk' c ty fz h1 h2 hl hi hc=>?_⟩⟩,hs.defers,hs.size,hs.hand,fun t=>?_⟩
 ·by_cases e:b = p
  ·subst e
   rw [h2p] at hb;injection hb with hb;subst hb
   rw [i2p] at hx
   obtain ⟨h3,h4⟩:=hs.sit.heap _ _ x hq hx
   exact ⟨h3,(hB.br (O2:=OO O ι H) (fun _=>Iff.rfl) hidx h4).lessO hOO⟩
  ·rw [h2o b e] at hb;rw [i2o b e] at hx
   have hbl:=(List.getElem?_eq_some_iff.1 hb).1
   obtain ⟨h3,h4⟩:=hs.sit.heap b blk x (by rw [hl1 b hbl];exact hb) hx
   exact ⟨h3,((hH b blk e hb).br (O2:=OO O ι H) (fun _=>Iff.rfl) hidx h4).lessO hOO⟩
 ·by_cases e:b = p
  ·subst e
   rw [i2p] at hx
   exact absurd (hs.sit.empt _ _ hq hx) hne
  ·rw [h2o b e] at hb;rw [i2o b e] at hx
   have hbl:=(List.getElem?_eq_some_iff.1 hb).1
   exact hs.sit.empt b blk (by rw [hl1 b hbl];exact hb) hx
 ·obtain ⟨c,h1,h2,h3⟩:=hinv b x hb hx
  obtain ⟨c',h1',h2',h3'⟩:=hinv b' x hb' hx'
  have:=hs.sit.inj c c' x h1 h1' h2 h2'
  rw [hlen2] at hb hb'
  rcases h3 with ⟨e1,e2⟩ | ⟨e1,e2⟩ <;> rcases h3' with ⟨e3,e4⟩ | ⟨e3,e4⟩ <;> omega
 ·obtain ⟨c,h1,h2,_⟩:=hinv b x hb hx
  exact hs.sit.disj x c hO h1 h2
 ·have hbm:b < n.m:=by have:=(List.getElem?_eq_some_iff.1 hb).1;rw [hs.hand] at this;exact this
  obtain ⟨blk',k1,k2,k3⟩:=hs.sit.hist.blk b blk hb
  by_cases e:b = p
  ·subst e
   have hpH:H[b]? = some blk0:=by rw [hl1 b hpl];exact hp
   rw [hpH] at k1;injection k1 with k1;subst k1
   rw [he0] at k2
   simp only [List.length_nil,Nat.le_zero_eq] at k2
   exact ⟨B2,h2p,by omega,fun he=>absurd (List.eq_nil_of_length_eq_zero (by omega)) hne2⟩
  ·have hbl:b < H1.length:=by omega
   rw [hl1 b hbl] at k1
   exact ⟨blk',by rw [h2o b e];exact k1,k2,fun he=>by rw [i2o b e];exact k3 he⟩
 ·by_cases e:b = p
  ·subst e
   obtain ⟨blk2,k1,k2,k3⟩:=hs.sit.hist.blk b blk h1
   have hpH:H[b]? = some blk0:=by rw [hl1 b hpl];exact hp
   rw [hpH] at k1;injection k1 with k1;subst k1
   rw [he0] at k2
   simp only [List.length_nil,Nat.le_zero_eq] at k2
   rw [h2p] at h2;injection h2 with h2;subst h2
   exact absurd (List.eq_nil_of_length_eq_zero (by omega)) hne2
  ·have hbm:b < n.m:=by have:=(List.getElem?_eq_some_iff.1 h1).1;rw [hs.hand] at this;exact this
   rw [h2o b e] at h2
   exact hs.sit.hist.size b x blk blk' c ty fz h1 (by rw [hl1 b (by omega)];exact h2) hl hi hc
 ·rcases lk_mem E2 t with h1 | ⟨p',hp',h1,h2⟩
  ·show VR _ _ _ _ (lk E2 t) _;rw [h1];exact .bad _
  ·show VR _ _ _ _ (lk E2 t) _;rw [h2];subst h1;exact (hE.all p' hp' H2 w _ ι ι2 _ hidx (hs.vals p'.1)).lessO hOO
theorem Wk.pad {n:Fr} {E:Env} (hE:∀ p ∈ E,Le (lk E p.1) p.2) {H:List ABlk}:∀ (T:List ABlk),(∀ b ∈ T,b.es = [])→Wk n ⟨E,H⟩ ⟨E,H ++ T⟩
 | [],_=>by rw [List.append_nil];exact fun w0 O ι a w hs=>⟨ι,hs⟩
 | ⟨ty,sz,es⟩ :: T,h=>fun w0 O ι a w hs=>by
   obtain rfl:es = []:=h ⟨ty,sz,es⟩ (by simp)
   obtain ⟨ι1,h1⟩:=Wk.nil (n:=n) (E:=E) (E2:=E) (H:=H) ty sz (fun p hp=>.inl (hE p hp)) w0 O ι a w hs
   obtain ⟨ι2,h2⟩:=Wk.pad (n:=n) (E:=E) hE (H:=H ++ [⟨ty,sz,[]⟩]) T (fun b hb=>h b (by simp [hb])) w0 O ι1 a w h1
   rw [List.append_assoc] at h2
   exact ⟨ι2,h2⟩
theorem ro_range2 {n b:Nat}:ro (List.range n) b = if b < n then some b else none:=by
 unfold ro
 split
 ·rename_i h
  rw [List.findIdx?_eq_some_iff_getElem]
  exact ⟨by simpa using h,by simp,fun j hj=>by simp;omega⟩
 ·rename_i h
  rw [List.findIdx?_eq_none_iff]
  intro x hx
  have:=List.mem_range.1 hx
  simp;omega
theorem rb_range2 {N m j:Nat} (h:j < N):rb (List.range N) m j = some j:=by
 unfold rb
 rw [List.length_range,if_pos h,List.getElem?_range h]
theorem CallE.pre {N:Nat} {H H' T:List ABlk} (hl:H.length = N) (hl':H'.length = N) (hi:∀ b ∈ H,RfB (· < N) b) (ho:∀ b ∈ H',RfB (· < N) b):CallE (List.range N) (H ++ T) H H' (H' ++ T):=
 ⟨List.nodup_range,by rw [List.length_range,hl],fun j b hj=>by
  obtain ⟨h1,h2⟩:=List.getElem?_eq_some_iff.1 hj
  rw [List.length_range] at h1
  rw [List.getElem_range] at h2
  subst h2
  have hjl:j < H.length:=by omega
  exact ⟨H[j],H[j],by rw [List.getElem?_append_left hjl,List.getElem?_eq_getElem hjl],List.getElem?_eq_getElem hjl,(hi _ (List.getElem_mem _)).mv fun b hb=>by rw [ro_range2,if_pos hb]⟩,
 by omega,by simp;omega,fun b hb hn=>by
  have hb2:¬ b < N:=fun h=>hn (List.mem_range.2 h)
  rw [List.getElem?_append_right (by omega),List.getElem?_append_right (by omega),hl,hl'],fun j c bk hr hb=>by
  have hj:=(List.getElem?_eq_some_iff.1 hb).1
  rw [rb_range2 (by omega)] at hr;injection hr with hr;subst hr
  exact ⟨bk,by rw [List.getElem?_append_left hj];exact hb,(ho _ (List.mem_of_getElem? hb)).mv fun b hb=>rb_range2 hb⟩⟩
end Go.Ab
