/- Part of the proof. -/
import Derived.Laws.StructEq
import Derived.Test.YthgicbkdckpeaaaDoorCards
import Derived.Test.YthgicbkdckpeaaaDoorTie
import Derived.WalkKit
import Derived.ProofKit
import Derived.OpenShut
import Derived.Deep.DeepHandedRow
import Derived.Lib.LaidTab
import Derived.Lib.LaidU8
import Derived.Test.YthgicbkdckpeaaaDoorG37
import Derived.Test.YthgicbkdckpeaaaDoorG08
set_option linter.unusedSimpArgs false
set_option linter.unusedVariables false
set_option maxHeartbeats 4000000
namespace Go.Ab
open Go Go.Ab Go.Proofs Go.Ab.Ty
theorem Le.lstL {es ds:List AV} (hl:es.length = ds.length) (h:∀ (i:Nat) (e d:AV),es[i]? = some e→ds[i]? = some d→LeL e.cells d.cells):Le (.lst es) (.lst ds):=fun w O ι H u hu=>by
 have hex:∀ (i:Nat) (d:AV),ds[i]? = some d→∃ e,es[i]? = some e ∧ LeL e.cells d.cells:=fun i d hd=>by
  have hi:i < es.length:=by rw [hl];exact (List.getElem?_eq_some_iff.1 hd).1
  exact ⟨_,List.getElem?_eq_getElem hi,h i _ d (List.getElem?_eq_getElem hi) hd⟩
 cases hu with
 | lnil =>
   obtain rfl:ds = []:=List.eq_nil_of_length_eq_zero hl.symm
   exact .lnil
 | lst es a n cap s val hn hcap hmax hlen hspot hc hv =>
   refine .lst ds a n cap s val (hn.trans hl) hcap hmax (fun d hd=>?_) (fun d hd=>?_) (fun i j d c hd hc'=>?_) (fun i j d c hd hc'=>?_)
   ·obtain ⟨i,hi⟩:=List.getElem?_of_mem hd
    obtain ⟨e,he,hle⟩:=hex i d hi
    rw [← hle.len];exact hlen e (List.mem_of_getElem? he)
   ·obtain ⟨i,hi⟩:=List.getElem?_of_mem hd
    obtain ⟨e,he,hle⟩:=hex i d hi
    exact hspot e (List.mem_of_getElem? he)
   ·obtain ⟨e,he,hle⟩:=hex i d hd
    obtain ⟨y,hy,_⟩:=hle.at hc'
    exact hc i j e y he hy
   ·obtain ⟨e,he,hle⟩:=hex i d hd
    obtain ⟨y,hy,hll⟩:=hle.at hc'
    exact hll _ _ _ _ _ (hv i j e y he hy)
theorem LeL.refl:∀ l:List AV,LeL l l
 | []=>trivial
 | a :: l=>⟨.refl a,LeL.refl l⟩
abbrev n0:AV:=.agg [.lst [.agg [.int 0,.int 1,.lst [.agg [.int 1,.int 0,.int 0,.int 5,.int 0,nilS],.agg [.int 4,.int 0,.int 0,.int 0,.int 0,nilS]]]],nilS,.int 0]
end Go.Ab
set_option maxHeartbeats 4000000
namespace Go.Ab
open Go Go.Ab Go.Proofs Go.Ab.Ty
end Go.Ab
set_option maxHeartbeats 4000000
namespace Go.Ab
open Go Go.Ab Go.Proofs Go.Ab.Ty
abbrev strV (x:ByteArray):AV:=.base (.string x)
instance:OfNat ByteArray 0:=⟨ByteArray.empty⟩
end Go.Ab
set_option maxHeartbeats 4000000
namespace Go.Ab
open Go Go.Ab Go.Proofs Go.Ab.Ty Go.RowKit
deriving instance DecidableEq for Acc
instance:Inhabited Acc:=⟨⟨0,0,false,0⟩⟩
instance:OfNat Acc 0:=⟨⟨0,0,false,0⟩⟩
end Go.Ab
set_option maxHeartbeats 4000000
namespace Go.Ab
open Go Go.Ab Go.Proofs Go.Ab.Ty
end Go.Ab
set_option maxHeartbeats 4000000
namespace Go.Ab
open Go Go.Ab Go.Proofs Go.Ab.Ty
structure TR where
 lines:List ByteArray
 accs:List Acc
 states:List Int
 pars:List Int
 all:Bool
 turns:Int
deriving DecidableEq
def encR (x:TR):AV:=.agg [.lst (x.lines.map strV),.lst (x.accs.map encA),.lst (x.states.map .int),.lst (x.pars.map .int),.base (.bool x.all),.int x.turns]
attribute [go_sem] encR
@[simp] theorem Pu_mapStr (l:List ByteArray):Pu (.lst (l.map strV)):=.lst fun e he c hc=>by
 obtain ⟨x,_,rfl⟩:=List.mem_map.1 he
 simp only [AV.cells,List.mem_singleton] at hc;subst hc;exact .base _
@[simp] theorem Pu_mapAcc (l:List Acc):Pu (.lst (l.map encA)):=.lst fun e he c hc=>by
 obtain ⟨x,_,rfl⟩:=List.mem_map.1 he
 simp only [encA,AV.cells,List.mem_cons,List.not_mem_nil,or_false] at hc
 rcases hc with rfl | rfl | rfl | rfl <;> exact .base _
@[simp] theorem Pu_mapInt2 (l:List Int):Pu (.lst (l.map .int)):=Pu_mapInt l
end Go.Ab
set_option maxHeartbeats 4000000
namespace Go.Ab
open Go Go.Ab Go.Proofs Go.Ab.Ty
end Go.Ab
set_option maxHeartbeats 4000000
namespace Go.Ab
open Go Go.Ab Go.Proofs Go.Ab.Ty
theorem Pu_encR (x:TR):Pu (encR x):=.agg fun c hc=>by
 simp only [List.mem_cons,List.not_mem_nil,or_false] at hc
 rcases hc with rfl | rfl | rfl | rfl | rfl | rfl
 ·exact Pu_mapStr _
 ·exact Pu_mapAcc _
 ·exact Pu_mapInt _
 ·exact Pu_mapInt _
 ·exact .base _
 ·exact .base _
attribute [simp] Pu_encR
end Go.Ab
set_option maxHeartbeats 4000000
namespace Go.Ab
open Go Go.Ab Go.Proofs Go.Ab.Ty
theorem shI3 {f:Nat} {xs:List AV} (h:Sh Tryd.prog f 3 xs):∃ n:Int,xs = [.int n]:=by
 cases f with
 | zero=>exact h.elim
 | succ f =>
   simp only [Sh,Tryd.underlying3] at h
   obtain ⟨n,h1,h2⟩:=h
   exact ⟨n,h1⟩
theorem allMap {α:Type} {Q:List AV→Prop} {f:α→AV} {g:List AV→AV} {parts:List (List AV)} (h:∀ p ∈ parts,Q p) (hq:∀ p,Q p→∃ x,g p = f x):∃ l:List α,parts.map g = l.map f:=by
 induction parts with
 | nil=>exact ⟨[],rfl⟩
 | cons p ps ih =>
   obtain ⟨l,hl⟩:=ih fun q hq'=>h q (by simp [hq'])
   obtain ⟨x,hx⟩:=hq p (h p (by simp))
   exact ⟨x :: l,by rw [List.map_cons,List.map_cons,hl,hx]⟩
theorem shL25 {f:Nat} {xs:List AV} (h:Sh Tryd.prog f 25 xs):∃ l:List Int,xs = [.lst (l.map .int)]:=by
 cases f with
 | zero=>exact h.elim
 | succ f =>
   simp only [Sh,Tryd.underlying25] at h
   obtain ⟨parts,rfl,hl,h⟩:=h
   obtain ⟨l,h1⟩:=allMap (f:=AV.int) (g:=mkEl (aggTy Tryd.prog 3 == some true)) h fun p hp=>by
    obtain ⟨n,rfl⟩:=shI3 hp.2
    exact ⟨n,by rw [agg3];rfl⟩
   exact ⟨l,by rw [h1]⟩
theorem six {α:Type} {l:List α} (h:l.length = 6):∃ p0 p1 p2 p3 p4 p5,l = [p0,p1,p2,p3,p4,p5]:=by
 match l,h with
 | [p0,p1,p2,p3,p4,p5],_=>exact ⟨_,_,_,_,_,_,rfl⟩
end Go.Ab
set_option maxHeartbeats 4000000
namespace Go.Proofs.YthgicbkdckpeaaaDoor
open Go.ChangeShapes Go.WideShapes Go.ChangeAt Go.RowKit Go.Lib Go.Ab
theorem own:ownKnob Tryd.prog.godebug = none:=by kernel_rfl
set_option maxRecDepth 100000 in
theorem powD:(Rows.laid_internal_strconv_uint64pow10:DataW Unit) = tabData .u64 pow10Tab:=by kernel_rfl
theorem tabs {W:World} (h:laidMetH Tryd.prog [("math/bits.deBruijn32tab",Rows.laid_math_bits_deBruijn32tab),("math/bits.deBruijn64tab",Rows.laid_math_bits_deBruijn64tab),("internal/strconv.uint64pow10",Rows.laid_internal_strconv_uint64pow10)] W):∃ mm,TabM mm ∧ ∀ p ∈ mm,W.heap[p.1]? = some p.2:=by
 have h:laidMet Tryd.prog [("math/bits.deBruijn32tab",Rows.laid_math_bits_deBruijn32tab),("math/bits.deBruijn64tab",Rows.laid_math_bits_deBruijn64tab),("internal/strconv.uint64pow10",Rows.laid_internal_strconv_uint64pow10)] W:=h
 obtain ⟨g,t,cs,fuel,p,h1,h2,h3,h4⟩:=laidMet.reads h (n:="internal/strconv.uint64pow10") (d:=tabData .u64 pow10Tab) (by rw [powD];exact List.mem_cons_of_mem _ (List.mem_cons_of_mem _ (List.mem_singleton.2 rfl)))
 have e1:Tryd.prog.globalNamed "internal/strconv.uint64pow10" = some 0:=laysI.m17
 obtain rfl:=Option.some.inj (e1.symm.trans h1)
 have e2:(Tryd.prog.globals[0]?).map (·.type) = some 177:=by kernel_rfl
 obtain rfl:=Option.some.inj (e2.symm.trans h2)
 have hcs:=cells_of_tab (P:=Tryd.prog) (t:=177) (e:=171) (n:=20) (k:=.u64) (zs:=pow10Tab) (by kernel_rfl) (by kernel_rfl) (by kernel_rfl) (by kernel_rfl) h4
 unfold World.var? at h3
 rw [e1] at h3
 simp only [Option.bind_some] at h3
 split at h3
 ·rename_i c ty fz hc
  injection h3 with h3
  subst h3
  refine ⟨[(0,.cells c ty fz)],⟨ty,fz,?_⟩,fun p hp=>?_⟩
  ·rw [← hcs]
  ·rw [List.mem_singleton] at hp;subst hp;exact hc
 ·cases h3
def layT (l:List Value):Obj→Obj
 | .cells _ t frozen=>.cells l.toArray t frozen
 | o=>o
def lay0:List Value:=pow10Tab.map fun z=>Value.int .u64 z
def lay1:List Value:=[0,1,28,2,29,14,24,3,30,22,20,15,25,17,4,8,31,27,13,23,21,19,16,7,26,12,18,6,11,5,10,9].map fun z=>Value.int .u8 z
def lay2:List Value:=[0,1,56,2,57,49,28,3,61,58,42,50,38,29,17,4,62,47,59,36,45,43,51,22,53,39,33,30,24,18,12,5,63,55,48,27,60,41,37,16,46,35,44,21,52,32,23,11,54,26,40,15,34,20,31,10,25,14,19,9,13,8,7,6].map fun z=>Value.int .u8 z
noncomputable def layHeap (os:Os):Array Obj:=(((World.holding Tryd.prog os ⟨#[],#[],[]⟩).heap.modify 0 (layT lay0)).modify 1 (layT lay1)).modify 2 (layT lay2)
noncomputable def laidWorld (os:Os):World:={ World.holding Tryd.prog os ⟨#[],#[],[]⟩ with heap:=layHeap os }
end Go.Proofs.YthgicbkdckpeaaaDoor
set_option maxHeartbeats 4000000
namespace Go.Ab
open Go Go.Ab Go.Proofs Go.Ab.Ty
theorem three {α:Type} {l:List α} (h:l.length = 3):∃ p0 p1 p2,l = [p0,p1,p2]:=by
 match l,h with
 | [p0,p1,p2],_=>exact ⟨_,_,_,rfl⟩
theorem shS70 {f:Nat} {p:List AV} (h:Sh Tryd.prog f 70 p):∃ x:Stp,AV.agg p = encS x:=by
 cases f with
 | zero=>exact h.elim
 | succ f =>
   simp only [Sh,Tryd.underlying70] at h
   obtain ⟨parts,hlen,rfl,h⟩:=h
   obtain ⟨p0,p1,p2,p3,p4,p5,rfl⟩:=six (show parts.length = 6 from hlen)
   obtain ⟨a0,rfl⟩:=shI3 (h 0 _ p0 rfl rfl).2
   obtain ⟨a1,rfl⟩:=shI3 (h 1 _ p1 rfl rfl).2
   obtain ⟨a2,rfl⟩:=shI3 (h 2 _ p2 rfl rfl).2
   obtain ⟨a3,rfl⟩:=shI3 (h 3 _ p3 rfl rfl).2
   obtain ⟨a4,rfl⟩:=shI3 (h 4 _ p4 rfl rfl).2
   obtain ⟨a5,rfl⟩:=shL25 (h 5 _ p5 rfl rfl).2
   exact ⟨⟨a0,a1,a2,a3,a4,a5⟩,rfl⟩
theorem shL66 {f:Nat} {xs:List AV} (h:Sh Tryd.prog f 66 xs):∃ l:List Stp,xs = [.lst (l.map encS)]:=by
 cases f with
 | zero=>exact h.elim
 | succ f =>
   simp only [Sh,Tryd.underlying66] at h
   obtain ⟨parts,rfl,hl,h⟩:=h
   obtain ⟨l,h1⟩:=allMap (f:=encS) (g:=mkEl (aggTy Tryd.prog 70 == some true)) h fun p hp=>by
    obtain ⟨n,hn⟩:=shS70 hp.2
    exact ⟨n,by rw [agg70];exact hn⟩
   exact ⟨l,by rw [h1]⟩
theorem shC68 {f:Nat} {p:List AV} (h:Sh Tryd.prog f 68 p):∃ x:Cd,AV.agg p = encC x:=by
 cases f with
 | zero=>exact h.elim
 | succ f =>
   simp only [Sh,Tryd.underlying68] at h
   obtain ⟨parts,hlen,rfl,h⟩:=h
   obtain ⟨p0,p1,p2,rfl⟩:=three (show parts.length = 3 from hlen)
   obtain ⟨a0,rfl⟩:=shI3 (h 0 _ p0 rfl rfl).2
   obtain ⟨a1,rfl⟩:=shI3 (h 1 _ p1 rfl rfl).2
   obtain ⟨a2,rfl⟩:=shL66 (h 2 _ p2 rfl rfl).2
   exact ⟨⟨a0,a1,a2⟩,rfl⟩
theorem shL22 {f:Nat} {xs:List AV} (h:Sh Tryd.prog f 22 xs):∃ l:List Cd,xs = [.lst (l.map encC)]:=by
 cases f with
 | zero=>exact h.elim
 | succ f =>
   simp only [Sh,Tryd.underlying22] at h
   obtain ⟨parts,rfl,hl,h⟩:=h
   obtain ⟨l,h1⟩:=allMap (f:=encC) (g:=mkEl (aggTy Tryd.prog 68 == some true)) h fun p hp=>by
    obtain ⟨n,hn⟩:=shC68 hp.2
    exact ⟨n,by rw [agg68];exact hn⟩
   exact ⟨l,by rw [h1]⟩
theorem shT24 {a:AV} (h:ShV Tryd.prog 24 a):∃ x:Tk,a = encT x:=by
 unfold ShV at h
 obtain ⟨f,p,h,hn,e⟩:=h
 cases f with
 | zero=>exact h.elim
 | succ f =>
   simp only [Sh,Tryd.underlying24] at h
   have ⟨parts,hlen,e2,h3⟩:=h
   clear h
   subst e2
   obtain ⟨p0,p1,p2,hp⟩:=three (show parts.length = 3 from hlen)
   rw [hp] at h3 e
   have g0:Sh Tryd.prog f 22 p0:=(h3 0 _ p0 rfl rfl).2
   have g1:Sh Tryd.prog f 22 p1:=(h3 1 _ p1 rfl rfl).2
   have g2:Sh Tryd.prog f 3 p2:=(h3 2 _ p2 rfl rfl).2
   obtain ⟨a0,rfl⟩:=shL22 g0
   obtain ⟨a1,rfl⟩:=shL22 g1
   obtain ⟨a2,rfl⟩:=shI3 g2
   exact ⟨⟨a0,a1,a2⟩,by rw [e,agg24];rfl⟩
theorem shL25V {a:AV} (h:ShV Tryd.prog 25 a):∃ l:List Int,a = .lst (l.map .int):=by
 unfold ShV at h
 obtain ⟨f,p,h,hn,e⟩:=h
 obtain ⟨l,rfl⟩:=shL25 h
 exact ⟨l,by rw [e,agg25];rfl⟩
theorem shB5 {f:Nat} {xs:List AV} (h:Sh Tryd.prog f 5 xs):∃ n:Int,0 ≤ n ∧ n ≤ 255 ∧ xs = [.base (.int .u8 n)]:=by
 cases f with
 | zero=>exact h.elim
 | succ f =>
   simp only [Sh,Tryd.underlying5] at h
   obtain ⟨n,h1,h2⟩:=h
   have e1:IntKind.u8.min = 0:=by decide
   have e2:IntKind.u8.max = 255:=by decide
   exact ⟨n,by omega,by omega,h1⟩
theorem shU64V {a:AV} (h:ShV Tryd.prog 64 a):∃ x y z:Nat,x ≤ 255 ∧ y ≤ 255 ∧ z ≤ 255 ∧ a = .agg [.base (.int .u8 x),.base (.int .u8 y),.base (.int .u8 z)]:=by
 unfold ShV at h
 obtain ⟨f,p,h,hn,e⟩:=h
 cases f with
 | zero=>exact h.elim
 | succ f =>
   simp only [Sh,Tryd.underlying64] at h
   obtain ⟨parts,hlen,rfl,h⟩:=h
   obtain ⟨p0,p1,p2,rfl⟩:=three hlen
   obtain ⟨x,x1,x2,rfl⟩:=shB5 (h p0 (by simp)).2
   obtain ⟨y,y1,y2,rfl⟩:=shB5 (h p1 (by simp)).2
   obtain ⟨z,u1,u2,rfl⟩:=shB5 (h p2 (by simp)).2
   refine ⟨x.toNat,y.toNat,z.toNat,by omega,by omega,by omega,?_⟩
   rw [e,agg64,show ((x.toNat:Nat):Int) = x by omega,show ((y.toNat:Nat):Int) = y by omega,show ((z.toNat:Nat):Int) = z by omega];rfl
end Go.Ab
set_option maxHeartbeats 4000000
namespace Go.Ab
open Go Go.Ab Go.Proofs Go.Ab.Ty
def F0:Nat→Prop:=fun _=>False
def AcS (s s':PRun):Prop:=∀ (j:Nat) (c:PCall),s.calls[j]? = some c→∃ c':PCall,s'.calls[j]? = some c' ∧ c'.actor = c.actor
def StI (s:PRun) (pe pw:Prop) (t:PTask):Prop:=
 (t.state = 1 ∧ t.ending = 0 ∧ t.waits < 0) ∨
 (t.state = 2 ∧ t.ending = 0 ∧ t.has < 0 ∧ ∃ c:Nat,∃ u,t.waits = (c:Int) ∧ (c:Int) ∈ t.kids ∧ s.tasks[c]? = some u ∧ (pw ∨ u.state < 3)) ∨
 (t.state = 2 ∧ (t.ending = 3 ∨ t.ending = 4) ∧ t.waits < 0 ∧ t.has < 0 ∧ (pe ∨ ∃ c:Nat,∃ u,(c:Int) ∈ t.kids ∧ s.tasks[c]? = some u ∧ u.state < 3)) ∨
 ((t.state = 3 ∨ t.state = 4) ∧ t.ending = t.state ∧ t.waits < 0 ∧ t.has < 0)
structure TI (s:PRun) (x y:Nat→Prop):Prop where
 up:∀ (k:Nat) (t:PTask),s.tasks[k]? = some t→(k = 0 ∧ t.par = -1) ∨ ∃ p:Nat,∃ u,t.par = (p:Int) ∧ p < k ∧ s.tasks[p]? = some u ∧ (k:Int) ∈ u.kids
 kd:∀ (p:Nat) (u:PTask) (z:Int),s.tasks[p]? = some u→z ∈ u.kids→∃ c:Nat,∃ t,z = (c:Int) ∧ p < c ∧ s.tasks[c]? = some t ∧ t.par = (p:Int) ∧ (3 ≤ u.state→3 ≤ t.state) ∧ (u.canc = true→t.canc = true)
 sp:∀ (k:Nat) (t:PTask) (i z:Int),s.tasks[k]? = some t→getM t.spn i = some z→z ∈ t.kids
 en:∀ (k:Nat) (t:PTask),s.tasks[k]? = some t→∃ o,s.ends[k]? = some o ∧ (3 ≤ t.state→∃ j,o = some j)
 st:∀ (k:Nat) (t:PTask),s.tasks[k]? = some t→StI s (x k) (y k) t
 hs:∀ (k:Nat) (t:PTask),s.tasks[k]? = some t→0 ≤ t.has→∃ j c,t.sarr[t.slen - 1]? = some j ∧ s.calls[j]? = some c ∧ c.actor = t.has
 hu:∀ (k:Nat) (t:PTask) (k':Nat) (t':PTask),s.tasks[k]? = some t→s.tasks[k']? = some t'→0 ≤ t.has→t.has = t'.has→k = k'
theorem StI.mono {s s':PRun} {pe pw pe' pw':Prop} {t:PTask} (h:StI s pe pw t) (h1:∀ (c:Nat) u,(c:Int) ∈ t.kids→s.tasks[c]? = some u→∃ u',s'.tasks[c]? = some u' ∧ (u.state < 3→u'.state < 3)) (h2:pe→pe') (h3:pw→pw'):StI s' pe' pw' t:=by
 rcases h with h | ⟨a1,a2,a3,c,u,a4,a5,a6,a7⟩ | ⟨a1,a2,a3,a4,a5⟩ | h
 ·exact .inl h
 ·obtain ⟨u',b1,b2⟩:=h1 c u a5 a6
  exact .inr (.inl ⟨a1,a2,a3,c,u',a4,a5,b1,a7.imp h3 b2⟩)
 ·refine .inr (.inr (.inl ⟨a1,a2,a3,a4,a5.imp h2 ?_⟩))
  rintro ⟨c,u,b1,b2,b3⟩
  obtain ⟨u',d1,d2⟩:=h1 c u b1 b2
  exact ⟨c,u',b1,d1,d2 b3⟩
 ·exact .inr (.inr (.inr h))
theorem tset_get {s:PRun} {n:Nat} {t t':PTask} (ht:s.tasks[n]? = some t) (i:Nat):(s.tset n t').tasks[i]? = if i = n then some t' else s.tasks[i]?:=by
 split
 ·rename_i e;subst e;exact tset_at ht
 ·rename_i e;exact tset_ne fun g=>e g.symm
theorem TI.set {s s':PRun} {x y x' y':Nat→Prop} (h:TI s x y) {n:Nat} {t t':PTask} (ht:s.tasks[n]? = some t)
 (hs':∀ i,s'.tasks[i]? = if i = n then some t' else s.tasks[i]?) (he:∀ i:Nat,i ≠ n→s'.ends[i]? = s.ends[i]?) (hen:∃ o,s'.ends[n]? = some o ∧ (3 ≤ t'.state→∃ j,o = some j))
 (hc:AcS s s')
 (hp:t'.par = t.par) (hk:t'.kids = t.kids) (hsp:t'.spn = t.spn) (hcn:t'.canc = t.canc)
 (hov:3 ≤ t'.state→∀ (c:Nat) u,(c:Int) ∈ t.kids→s.tasks[c]? = some u→3 ≤ u.state) (hov2:3 ≤ t.state→3 ≤ t'.state)
 (hst:StI s' (x' n) (y' n) t') (hot:∀ (i:Nat) (u:PTask),i ≠ n→s.tasks[i]? = some u→StI s (x i) (y i) u→StI s' (x' i) (y' i) u)
 (hhs:0 ≤ t'.has→(∃ j c,t'.sarr[t'.slen - 1]? = some j ∧ s'.calls[j]? = some c ∧ c.actor = t'.has) ∧ ∀ (i:Nat) (u:PTask),i ≠ n→s.tasks[i]? = some u→u.has ≠ t'.has):TI s' x' y':=by
 have hn:s'.tasks[n]? = some t':=by rw [hs',if_pos rfl]
 have ho:∀ i,i ≠ n→s'.tasks[i]? = s.tasks[i]?:=fun i e=>by rw [hs',if_neg e]
 have cas:∀ i u,s'.tasks[i]? = some u→(i = n ∧ u = t') ∨ (i ≠ n ∧ s.tasks[i]? = some u):=fun i u e=>by
  by_cases g:i = n
  ·subst g;rw [hn] at e;injection e with e;exact .inl ⟨rfl,e.symm⟩
  ·rw [ho i g] at e;exact .inr ⟨g,e⟩
 refine ⟨fun k u e=>?_,fun p u z e hz=>?_,fun k u i z e g=>?_,fun k u e=>?_,fun k u e=>?_,fun k u e g=>?_,fun k u k' u' e e' g g'=>?_⟩
 ·have key:∀ w,w.par = u.par→s.tasks[k]? = some w→(k = 0 ∧ u.par = -1) ∨ ∃ p:Nat,∃ v,u.par = (p:Int) ∧ p < k ∧ s'.tasks[p]? = some v ∧ (k:Int) ∈ v.kids:=fun w hw e1=>by
   rcases h.up k w e1 with h1 | ⟨p,v,h1,h2,h3,h4⟩
   ·exact .inl ⟨h1.1,by rw [← hw];exact h1.2⟩
   ·by_cases g:p = n
    ·subst g
     rw [ht] at h3;injection h3 with h3;subst h3
     exact .inr ⟨p,t',by rw [← hw];exact h1,h2,hn,by rw [hk];exact h4⟩
    ·exact .inr ⟨p,v,by rw [← hw];exact h1,h2,by rw [ho p g];exact h3,h4⟩
  rcases cas k u e with ⟨rfl,rfl⟩ | ⟨g,e1⟩
  ·exact key t hp.symm ht
  ·exact key u rfl e1
 ·have key:∀ w,s.tasks[p]? = some w→z ∈ w.kids→(3 ≤ u.state→∀ (c:Nat) v,(c:Int) = z→s.tasks[c]? = some v→3 ≤ v.state)→(u.canc = w.canc)→∃ c:Nat,∃ v,z = (c:Int) ∧ p < c ∧ s'.tasks[c]? = some v ∧ v.par = (p:Int) ∧ (3 ≤ u.state→3 ≤ v.state) ∧ (u.canc = true→v.canc = true):=fun w e1 h1 h2 h3=>by
   obtain ⟨c,v,b1,b2,b3,b4,b5,b6⟩:=h.kd p w z e1 h1
   by_cases g:c = n
   ·subst g
    rw [ht] at b3;injection b3 with b3;subst b3
    exact ⟨c,t',b1,b2,hn,by rw [hp];exact b4,fun q=>hov2 (h2 q c t b1.symm ht),fun q=>by rw [hcn];exact b6 (by rw [← h3];exact q)⟩
   ·exact ⟨c,v,b1,b2,by rw [ho c g];exact b3,b4,fun q=>h2 q c v b1.symm b3,fun q=>b6 (by rw [← h3];exact q)⟩
  rcases cas p u e with ⟨rfl,rfl⟩ | ⟨g,e1⟩
  ·rw [hk] at hz
   exact key t ht hz (fun q c v q1 q2=>hov q c v (by rw [q1];exact hz) q2) hcn
  ·exact key u e1 hz (fun q c v q1 q2=>by
    obtain ⟨c',v',b1,b2,b3,b4,b5,b6⟩:=h.kd p u z e1 hz
    have:c' = c:=by omega
    subst this
    rw [b3] at q2;injection q2 with q2;subst q2
    exact b5 q) rfl
 ·rcases cas k u e with ⟨rfl,rfl⟩ | ⟨_,e1⟩
  ·rw [hk];exact h.sp k t i z ht (by rw [← hsp];exact g)
  ·exact h.sp k u i z e1 g
 ·rcases cas k u e with ⟨rfl,rfl⟩ | ⟨g,e1⟩
  ·exact hen
  ·rw [he k g];exact h.en k u e1
 ·rcases cas k u e with ⟨rfl,rfl⟩ | ⟨g,e1⟩
  ·exact hst
  ·exact hot k u g e1 (h.st k u e1)
 ·rcases cas k u e with ⟨rfl,rfl⟩ | ⟨g1,e1⟩
  ·exact (hhs g).1
  ·obtain ⟨j,c,a1,a2,a3⟩:=h.hs k u e1 g
   obtain ⟨c',b1,b2⟩:=hc j c a2
   exact ⟨j,c',a1,b1,by rw [b2];exact a3⟩
 ·rcases cas k u e with ⟨rfl,rfl⟩ | ⟨g1,e1⟩
  ·rcases cas k' u' e' with ⟨rfl,rfl⟩ | ⟨g2,e2⟩
   ·rfl
   ·exact absurd g'.symm ((hhs g).2 k' u' g2 e2)
  ·rcases cas k' u' e' with ⟨rfl,rfl⟩ | ⟨g2,e2⟩
   ·exact absurd g' ((hhs (by rw [← g'];exact g)).2 k u g1 e1)
   ·exact h.hu k u k' u' e1 e2 g g'
theorem TI.same {s s':PRun} {x y:Nat→Prop} (h:TI s x y) (h1:s'.tasks = s.tasks) (h2:s'.ends = s.ends) (hc:AcS s s'):TI s' x y:=
 ⟨by rw [h1];exact h.up,by rw [h1];exact h.kd,by rw [h1];exact h.sp,by rw [h1,h2];exact h.en,fun k t e=>by
  rw [h1] at e
  exact (h.st k t e).mono (fun c u _ e2=>⟨u,by rw [h1];exact e2,id⟩) id id,fun k t e g=>by
  rw [h1] at e
  obtain ⟨j,c,a1,a2,a3⟩:=h.hs k t e g
  obtain ⟨c',b1,b2⟩:=hc j c a2
  exact ⟨j,c',a1,b1,by rw [b2];exact a3⟩,by rw [h1];exact h.hu⟩
theorem actor_id {s:PRun}:AcS s s:=fun j c h=>⟨c,h,rfl⟩
theorem actor_eq {s s':PRun} (e:s'.calls = s.calls):AcS s s':=fun j c h=>⟨c,by rw [e];exact h,rfl⟩
theorem actor_cset {s:PRun} {j:Nat} {c c1:PCall} (hc:s.calls[j]? = some c) (ha:c1.actor = c.actor):AcS s (s.cset j c1):=fun i d h=>by
 by_cases e:j = i
 ·subst e;rw [hc] at h;injection h with h;subst h;exact ⟨c1,cset_at hc,ha⟩
 ·exact ⟨d,by rw [cset_ne e];exact h,rfl⟩
theorem kidsJ_ti {x y:Nat→Prop}:∀ (ks:List Int) (s:PRun) (e:Nat),(∀ z ∈ ks,∃ c:Nat,∃ t,z = (c:Int) ∧ s.tasks[c]? = some t ∧ ∃ o,s.ends[c]? = some o ∧ (3 ≤ t.state→∃ j,o = some j)) →
 (kidsJ s e ks).1.tasks = s.tasks ∧ (kidsJ s e ks).1.ends = s.ends ∧ (kidsJ s e ks).1.calls = s.calls ∧
 ((kidsJ s e ks).2.2 = true→∀ (c:Nat) u,(c:Int) ∈ ks→s.tasks[c]? = some u→3 ≤ u.state) ∧ ((kidsJ s e ks).2.2 = false→∃ c:Nat,∃ u,(c:Int) ∈ ks ∧ s.tasks[c]? = some u ∧ u.state < 3):=by
 intro ks
 induction ks with
 | nil=>intro s e _;exact ⟨rfl,rfl,rfl,(fun _ c u h=>by cases h),(fun h=>by cases h)⟩
 | cons k ks ih =>
   intro s e hk
   obtain ⟨c,t,rfl,h1,o,h2,h3⟩:=hk k (by simp)
   simp only [kidsJ,Int.toNat_natCast,h1,h2]
   by_cases h4:3 ≤ t.state
   ·obtain ⟨j,rfl⟩:=h3 h4
    simp only
    rw [if_pos h4]
    obtain ⟨a1,a2,a3,a4,a5⟩:=ih (s.addP (joinL (s.pool.getD e []) (s.pool.getD j []))) s.pool.length (fun z hz=>hk z (by simp [hz]))
    refine ⟨a1,a2,a3,fun h c' u hc hu=>?_,fun h=>?_⟩
    ·rcases List.mem_cons.1 hc with hc | hc
     ·have:c' = c:=by omega
      subst this
      rw [h1] at hu;injection hu with hu;subst hu;exact h4
     ·exact a4 h c' u hc hu
    ·obtain ⟨c',u,b1,b2,b3⟩:=a5 h
     exact ⟨c',u,by simp [b1],b2,b3⟩
   ·have key:∀ o,(match o with | some x=>if 3 ≤ t.state then kidsJ (s.addP (joinL (s.pool.getD e []) (s.pool.getD x []))) s.pool.length ks else (s,e,false) | none=>(s,e,false):PRun × Nat × Bool) = (s,e,false):=fun o=>by
     cases o with
     | none=>rfl
     | some x=>simp only;rw [if_neg h4]
    have e1:kidsJ s e ((c:Int) :: ks) = (s,e,false):=by
     simp only [kidsJ,Int.toNat_natCast,h1,h2]
     cases o with
     | none=>rfl
     | some x=>simp only;rw [if_neg h4]
    simp only [kidsJ,Int.toNat_natCast,h1,h2] at e1
    rw [e1]
    exact ⟨rfl,rfl,rfl,(fun h=>by cases h),fun _=>⟨c,t,by simp,h1,by omega⟩⟩
theorem wakeP_get {s:PRun} {p e:Nat} {tp:PTask} (ht:s.tasks[p]? = some tp):(∃ b k,∀ i,(wakeP s p tp e).tasks[i]? = if i = p then some { tp with waits:=-1,state:=1,beh:=b,clk:=k } else s.tasks[i]?) ∧ (wakeP s p tp e).calls = s.calls ∧ (wakeP s p tp e).ends = s.ends:=by
 have h1:∀ i,(wakeT s p tp e).tasks[i]? = if i = p then some { tp with waits:=-1,state:=1,beh:=some s.behs.length } else s.tasks[i]?:=fun i=>tset_get (s:=s.addB [e]) ht i
 have h2:(wakeT s p tp e).tasks[p]? = some { tp with waits:=-1,state:=1,beh:=some s.behs.length }:=by rw [h1,if_pos rfl]
 unfold wakeP
 split
 ·split
  ·refine ⟨⟨some s.behs.length,s.pool.length,fun i=>?_⟩,rfl,rfl⟩
   rw [tset_get (s:=(wakeT s p tp e).addP _) h2 i]
   split
   ·rfl
   ·rename_i g
    show (wakeT s p tp e).tasks[i]? = _
    rw [h1,if_neg g]
  ·exact ⟨⟨_,_,h1⟩,rfl,rfl⟩
 ·exact ⟨⟨_,_,h1⟩,rfl,rfl⟩
theorem goOnF_ti {f:Nat} (hS:∀ (s:PRun) (n:Nat),n < f→TI s (· = n) F0→TI (settleF f s n) F0 F0) {s:PRun} {n j:Nat} (hn:n < f) (h:TI s F0 F0) {t:PTask} (ht:s.tasks[n]? = some t) (h1:t.state = 1) (h0:t.ending = 0) (hw:t.waits < 0)
 (hh:0 ≤ t.has→t.sarr[t.slen - 1]? = some j ∧ ∀ c,s.calls[j]? = some c→c.pc + 1 < c.code.steps.length):TI (goOnF (settleF f) s n j) F0 F0:=by
 unfold goOnF
 rw [ht]
 cases hc:s.calls[j]? with
 | none=>exact h
 | some c =>
   simp only
   have hot:∀ (t':PTask) (x:Nat→Prop),t'.state < 3→∀ (i:Nat) (u:PTask),i ≠ n→s.tasks[i]? = some u→StI s (F0 i) (F0 i) u→StI ((s.cset j { c with pc:=c.pc + 1 }).tset n t') (x i) (F0 i) u:=fun t' x h3 i u hi hu hst=>hst.mono (fun d v _ hv=>by
    rw [tset_get (s:=s.cset j { c with pc:=c.pc + 1 }) ht]
    by_cases e:d = n
    ·rw [if_pos e];exact ⟨t',rfl,fun _=>h3⟩
    ·rw [if_neg e];exact ⟨v,hv,id⟩) (fun g=>g.elim) id
   have hc':=actor_cset (s:=s) (c1:={ c with pc:=c.pc + 1 }) hc rfl
   cases hpop:popS (s.cset j { c with pc:=c.pc + 1 }).calls t.sarr (t.slen - 1) j with
   | none =>
     refine hS _ n hn (h.set ht (fun i=>tset_get (s:=s.cset j _) ht i) (fun _ _=>rfl) ?_ hc' rfl rfl rfl rfl ?_ ?_ ?_ (hot _ _ (by show (2:Int) < 3;omega)) ?_)
     ·obtain ⟨o,a1,_⟩:=h.en n t ht
      exact ⟨o,a1,fun g=>absurd g (by show ¬ (3:Int) ≤ 2;omega)⟩
     ·exact fun g=>absurd g (by show ¬ (3:Int) ≤ 2;omega)
     ·intro g;omega
     ·exact .inr (.inr (.inl ⟨rfl,.inl rfl,hw,by show (-1:Int) < 0;omega,.inl rfl⟩))
     ·exact fun g=>absurd g (by show ¬ (0:Int) ≤ -1;omega)
   | some m =>
     refine h.set ht (fun i=>tset_get (s:=s.cset j _) ht i) (fun _ _=>rfl) ?_ hc' rfl rfl rfl rfl ?_ id ?_ (hot _ _ (by show t.state < 3;omega)) ?_
     ·obtain ⟨o,a1,a2⟩:=h.en n t ht
      exact ⟨o,a1,a2⟩
     ·intro g
      have:3 ≤ t.state:=g
      omega
     ·exact .inl ⟨h1,h0,hw⟩
     ·intro g
      have g:0 ≤ t.has:=g
      obtain ⟨b1,b2⟩:=hh g
      obtain ⟨j',c',a1,a2,a3⟩:=h.hs n t ht g
      rw [b1] at a1;injection a1 with a1;subst a1
      rw [hc] at a2;injection a2 with a2;subst a2
      have hm:m = t.slen - 1:=by
       rw [popS_stay (c:={ c with pc:=c.pc + 1 }) (cset_at hc) (b2 c hc)] at hpop
       injection hpop with hpop;exact hpop.symm
      subst hm
      refine ⟨⟨j,{ c with pc:=c.pc + 1 },b1,cset_at hc,a3⟩,fun i u hi hu e=>?_⟩
      exact hi (h.hu i u n t hu ht (by rw [e];exact g) e)
theorem settleF_ti:∀ (f:Nat) (s:PRun) (n:Nat),n < f→TI s (· = n) F0→TI (settleF f s n) F0 F0:=by
 intro f
 induction f with
 | zero=>intro s n h;omega
 | succ f ih =>
   intro s n hn h
   have none_ok:(∀ t,s.tasks[n]? = some t→StI s False False t)→TI s F0 F0:=fun g=>⟨h.up,h.kd,h.sp,h.en,fun k t e=>by
    by_cases ek:k = n
    ·subst ek;exact g t e
    ·exact (h.st k t e).mono (fun c u _ hu=>⟨u,hu,id⟩) (fun q=>ek q) id,h.hs,h.hu⟩
   simp only [settleF]
   split
   ·rename_i hN
    exact none_ok fun t e=>by rw [hN] at e;cases e
   ·rename_i t ht
    have hst:=h.st n t ht
    split
    ·rename_i hcl
     refine none_ok fun u e=>?_
     rw [ht] at e;injection e with e;subst e
     rcases hst with a | a | ⟨a1,a2,_⟩ | a
     ·exact .inl a
     ·exact .inr (.inl a)
     ·exfalso
      rcases hcl with g | g <;> omega
     ·exact .inr (.inr (.inr a))
    ·rename_i hcl
     have hcl1:t.ending ≠ 0:=fun g=>hcl (.inl g)
     have hcl2:t.state < 3:=by have:¬ 3 ≤ t.state:=fun g=>hcl (.inr g);omega
     have hst2:t.state = 2 ∧ (t.ending = 3 ∨ t.ending = 4) ∧ t.waits < 0 ∧ t.has < 0:=by
      rcases hst with ⟨_,a,_⟩ | ⟨_,a,_⟩ | ⟨a1,a2,a3,a4,_⟩ | ⟨a,_⟩
      ·exact absurd a hcl1
      ·exact absurd a hcl1
      ·exact ⟨a1,a2,a3,a4⟩
      ·omega
     obtain ⟨q1,q2,q3,q4⟩:=hst2
     obtain ⟨k1,k2,k3,k4,k5⟩:=kidsJ_ti (x:=F0) (y:=F0) t.kids s t.clk (fun z hz=>by
      obtain ⟨c,u,a1,a2,a3,_⟩:=h.kd n t z ht hz
      exact ⟨c,u,a1,a3,h.en c u a3⟩)
     split
     ·rename_i s1 e hk
      rw [hk] at k1 k2 k3 k5
      simp only at k1 k2 k3 k5
      refine TI.same (s:=s) (none_ok fun u e=>?_) k1 k2 (actor_eq k3)
      rw [ht] at e;injection e with e;subst e
      exact .inr (.inr (.inl ⟨q1,q2,q3,q4,.inr (k5 trivial)⟩))
     ·rename_i s1 e hk
      rw [hk] at k1 k2 k3 k4
      simp only at k1 k2 k3 k4
      have h1:TI s1 (· = n) F0:=h.same k1 k2 (actor_eq k3)
      have ht1:s1.tasks[n]? = some t:=by rw [k1];exact ht
      -- the task is over
      have hset:∀ (x' y':Nat→Prop),(∀ (i:Nat) (u:PTask),i ≠ n→s1.tasks[i]? = some u→(n:Int) ∈ u.kids→x' i ∧ (u.waits = (n:Int)→y' i))→TI ((s1.enS n e).tset n { t with state:=t.ending }) x' y':=fun x' y' hx=>by
       refine h1.set ht1 (fun i=>tset_get (s:=s1.enS n e) ht1 i) (fun i hi=>?_) ?_ actor_id rfl rfl rfl rfl (fun _ c u hc hu=>k4 trivial c u hc (by rw [← k1];exact hu)) (fun g=>by omega) (.inr (.inr (.inr ⟨q2,rfl,q3,q4⟩))) (fun i u hi hu hsti=>?_) (fun g=>absurd g (by show ¬ 0 ≤ t.has;omega))
       ·show (s1.ends.set n (some e))[i]? = _
        rw [List.getElem?_set_ne (fun g=>hi g.symm)]
       ·obtain ⟨o,a1,_⟩:=h1.en n t ht1
        refine ⟨some e,?_,fun _=>⟨e,rfl⟩⟩
        show (s1.ends.set n (some e))[n]? = _
        rw [List.getElem?_set_self (List.getElem?_eq_some_iff.1 a1).1]
       ·by_cases hm:(n:Int) ∈ u.kids
        ·obtain ⟨g1,g2⟩:=hx i u hi hu hm
         rcases hsti with a | ⟨a1,a2,a3,c,v,a4,a5,a6,a7⟩ | ⟨a1,a2,a3,a4,_⟩ | a
         ·exact .inl a
         ·refine .inr (.inl ⟨a1,a2,a3,?_⟩)
          by_cases ec:c = n
          ·subst ec
           exact ⟨c,_,a4,a5,tset_at (s:=s1.enS c e) ht1,.inl (g2 a4)⟩
          ·refine ⟨c,v,a4,a5,?_,.inr (a7.elim (fun g=>g.elim) id)⟩
           rw [tset_ne fun g=>ec g.symm];exact a6
         ·exact .inr (.inr (.inl ⟨a1,a2,a3,a4,.inl g1⟩))
         ·exact .inr (.inr (.inr a))
        ·refine hsti.mono (fun c v hc hv=>?_) (fun g=>absurd g hi) (fun g=>g.elim)
         have ec:c ≠ n:=fun g=>hm (by rw [← g];exact hc)
         exact ⟨v,by rw [tset_ne fun g=>ec g.symm];exact hv,id⟩
      have hpk:∀ (i:Nat) (u:PTask),s1.tasks[i]? = some u→(n:Int) ∈ u.kids→t.par = (i:Int):=fun i u hu hm=>by
       obtain ⟨c,v,a1,a2,a3,a4,_⟩:=h1.kd i u _ hu hm
       have:c = n:=by omega
       subst this
       rw [ht1] at a3;injection a3 with a3;subst a3
       exact a4
      split
      ·rename_i hpar
       refine hset F0 F0 fun i u _ hu hm=>?_
       have:=hpk i u hu hm
       omega
      ·rename_i hpar
       split
       ·rename_i hnone
        exfalso
        rcases h1.up n t ht1 with ⟨_,g⟩ | ⟨p,u,g1,g2,g3,_⟩
        ·omega
        ·rw [g1,Int.toNat_natCast,g3] at hnone;cases hnone
       ·rename_i tp htp
        obtain ⟨p,hp⟩:∃ p:Nat,p = t.par.toNat:=⟨_,rfl⟩
        rw [← hp] at htp ⊢
        have hpe:t.par = (p:Int):=by omega
        have hpn:p < n:=by
         rcases h1.up n t ht1 with ⟨_,g⟩ | ⟨p',u,g1,g2,_⟩ <;> omega
        have htp2:((s1.enS n e).tset n { t with state:=t.ending }).tasks[p]? = some tp:=by rw [tset_ne (fun g=>by omega)];exact htp
        split
        ·rename_i hwt
         have h2:=hset (· = p) (· = p) fun i u _ hu hm=>by
          have:=hpk i u hu hm
          exact ⟨by omega,fun _=>by omega⟩
         have hsp:=h2.st p tp htp2
         have hsp1:tp.state = 2 ∧ tp.ending = 0 ∧ tp.has < 0:=by
          rcases hsp with ⟨_,_,g⟩ | ⟨g1,g2,g3,_⟩ | ⟨_,_,g,_⟩ | ⟨_,_,g,_⟩
          ·omega
          ·exact ⟨g1,g2,g3⟩
          ·omega
          ·omega
         obtain ⟨w1,w2,w3⟩:=wakeP_get (e:=e) htp2
         obtain ⟨b,k,w1⟩:=w1
         have h3:TI (wakeP ((s1.enS n e).tset n { t with state:=t.ending }) p tp e) F0 F0:=by
          refine h2.set htp2 w1 (fun i _=>by rw [w3]) ?_ (actor_eq w2) rfl rfl rfl rfl (fun g=>absurd g (by show ¬ (3:Int) ≤ 1;omega)) (fun g=>by omega) (.inl ⟨rfl,hsp1.2.1,by show (-1:Int) < 0;omega⟩) (fun i u hi hu hsti=>?_) (fun g=>absurd g (by show ¬ 0 ≤ tp.has;omega))
          ·obtain ⟨o,a1,_⟩:=h2.en p tp htp2
           exact ⟨o,by rw [w3];exact a1,fun g=>absurd g (by show ¬ (3:Int) ≤ 1;omega)⟩
          ·refine hsti.mono (fun c v _ hv=>?_) (fun g=>absurd g hi) (fun g=>absurd g hi)
           rw [w1]
           by_cases ec:c = p
           ·rw [if_pos ec];exact ⟨_,rfl,fun _=>by show (1:Int) < 3;omega⟩
           ·rw [if_neg ec];exact ⟨v,hv,id⟩
         have htw:(wakeP ((s1.enS n e).tset n { t with state:=t.ending }) p tp e).tasks[p]? = some { tp with waits:=-1,state:=1,beh:=b,clk:=k }:=by rw [w1,if_pos rfl]
         exact goOnF_ti ih (by omega) h3 htw rfl hsp1.2.1 (by show (-1:Int) < 0;omega) (fun g=>absurd g (by show ¬ 0 ≤ tp.has;omega))
        ·rename_i hwt
         refine ih _ p (by omega) (hset (· = p) F0 fun i u _ hu hm=>?_)
         have:=hpk i u hu hm
         have ei:i = p:=by omega
         subst ei
         rw [htp] at hu;injection hu with hu;subst hu
         exact ⟨rfl,fun g=>absurd g hwt⟩
end Go.Ab
