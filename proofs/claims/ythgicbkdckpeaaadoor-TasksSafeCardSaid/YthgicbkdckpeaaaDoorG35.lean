/- Part of the proof. -/
import Derived.Laws.StructEq
import Derived.Test.YthgicbkdckpeaaaDoorCards
import Derived.Test.YthgicbkdckpeaaaDoorTie
import Derived.WalkKit
import Derived.ProofKit
import Derived.OpenShut
import Derived.Deep.DeepHandedRow
import Derived.Lib.LaidTab
import Derived.Lib.LaidU8
import Derived.Test.YthgicbkdckpeaaaDoorG34
import Derived.Test.YthgicbkdckpeaaaDoorG07
import Derived.Test.YthgicbkdckpeaaaDoorG13
import Derived.Test.YthgicbkdckpeaaaDoorG15
import Derived.Test.YthgicbkdckpeaaaDoorG08
set_option linter.unusedSimpArgs false
set_option linter.unusedVariables false
set_option maxHeartbeats 4000000
namespace Go.Ab
open Go Go.Ab Go.Proofs Go.Ab.Ty
theorem Le.lstL {es ds:List AV} (hl:es.length=ds.length) (h:∀(i:Nat) (e d:AV),es[i]?=some e→ds[i]?=some d→LeL e.cells d.cells):Le (.lst es) (.lst ds):=fun w O ι H u hu=>by
 have hex:∀(i:Nat) (d:AV),ds[i]?=some d→∃e,es[i]?=some e∧LeL e.cells d.cells:=fun i d hd=>by
  have hi:i<es.length:=by rw [hl];exact (List.getElem?_eq_some_iff.1 hd).1
  exact ⟨_,List.getElem?_eq_getElem hi,h i _ d (List.getElem?_eq_getElem hi) hd⟩
 cases hu with
 | lnil =>
   obtain rfl:ds=[]:=List.eq_nil_of_length_eq_zero hl.symm
   exact .lnil
 | lst es a n cap s val hn hcap hmax hlen hspot hc hv =>
   refine .lst ds a n cap s val (hn.trans hl) hcap hmax (fun d hd=>?_) (fun d hd=>?_) (fun i j d c hd hc'=>?_) (fun i j d c hd hc'=>?_)
   ·obtain ⟨i,hi⟩:=List.getElem?_of_mem hd
    obtain ⟨e,he,hle⟩:=hex i d hi
    rw [← hle.len];exact hlen e (List.mem_of_getElem? he)
   ·obtain ⟨i,hi⟩:=List.getElem?_of_mem hd
    obtain ⟨e,he,hle⟩:=hex i d hi
    exact hspot e (List.mem_of_getElem? he)
   ·obtain ⟨e,he,hle⟩:=hex i d hd
    obtain ⟨y,hy,_⟩:=hle.at hc'
    exact hc i j e y he hy
   ·obtain ⟨e,he,hle⟩:=hex i d hd
    obtain ⟨y,hy,hll⟩:=hle.at hc'
    exact hll _ _ _ _ _ (hv i j e y he hy)
abbrev n0:AV:=.agg [.lst [.agg [.int 0,.int 1,.lst [.agg [.int 1,.int 0,.int 0,.int 5,.int 0,nilS],.agg [.int 4,.int 0,.int 0,.int 0,.int 0,nilS]]]],nilS,.int 0]
theorem n0_le:Le n0 (encT p0):=by
 have hs:∀(a b c d e:Int),Le (.agg [.int a,.int b,.int c,.int d,.int e,nilS]) (encS ⟨a,b,c,d,e,[]⟩):=fun a b c d e=>.aggL ⟨.refl _,.refl _,.refl _,.refl _,.refl _,.nil,trivial⟩
 refine .aggL ⟨.lst1 ⟨.refl _,.refl _,.lstL rfl fun i e d h1 h2=>?_,trivial⟩,.nil,.refl _,trivial⟩
 rcases i with _|_|i
 ·cases h1;cases h2;exact ⟨.refl _,.refl _,.refl _,.refl _,.refl _,.nil,trivial⟩
 ·cases h1;cases h2;exact ⟨.refl _,.refl _,.refl _,.refl _,.refl _,.nil,trivial⟩
 ·cases h1
theorem pu_n0:Pu n0:=by
 have hS:∀(x:AV),x∈[AV.agg [.int 1,.int 0,.int 0,.int 5,.int 0,nilS],.agg [.int 4,.int 0,.int 0,.int 0,.int 0,nilS]]→∀c∈x.cells,Pu c:=fun x hx c hc=>by
  simp only [List.mem_cons,List.not_mem_nil,or_false] at hx
  rcases hx with rfl|rfl<;>(simp only [AV.cells,List.mem_cons,List.not_mem_nil,or_false] at hc;rcases hc with rfl|rfl|rfl|rfl|rfl|rfl<;>exact .base _)
 refine .agg fun c hc=>?_
 simp only [List.mem_cons,List.not_mem_nil,or_false] at hc
 rcases hc with rfl|rfl|rfl
 ·refine .lst fun e he c hc=>?_
  rw [List.mem_singleton] at he;subst he
  simp only [AV.cells,List.mem_cons,List.not_mem_nil,or_false] at hc
  rcases hc with rfl|rfl|rfl
  ·exact .base _
  ·exact .base _
  ·exact .lst hS
 ·exact .base _
 ·exact .base _
theorem awake_ok {mm:List (Nat × Obj)} (hmm:TabM mm):FnM Tryd.prog mm 22 [] (.bool true):=by
 have ir0:=run_ok hmm ok0
 obtain ⟨ac,ps,e0⟩:=ran0
 rw [e0] at ir0
 have ir:FnM Tryd.prog mm 17 [n0,nilS] _:=ir0.le ⟨n0_le,.nil,trivial⟩
 clear ir0 e0
 refine FnM.intro' [] 0 52 Tryd.func22 (by kernel_rfl) rfl rfl rfl rfl rfl ?_
 refine goA ?_
 refine bldA pl70 zero70 ?_
 refine goA ?_
 refine bldA pl70 zero70 ?_
 refine goA ?_
 refine ARun.q1 rfl rfl (ql_buildSlice (by decide) Tryd.underlying66 sz70 (by kernel_rfl) (by decide) (by (simp +decide only [List.map,go_sem, *]<;>rfl)) (by (simp +decide only [List.map,go_sem, *]<;>rfl)) rfl) ?_
 refine goA ?_
 refine bldA pl68 zero68 ?_
 refine goA ?_
 refine ARun.q1 rfl rfl (ql_buildSlice (by decide) Tryd.underlying22 sz68 (by kernel_rfl) (by decide) (by (simp +decide only [List.map,go_sem, *]<;>rfl)) (by (simp +decide only [List.map,go_sem, *]<;>rfl)) rfl) ?_
 refine goA ?_
 refine bldA pl24 zero24 ?_
 refine goA ?_
 have hp0:∀a∈[n0,nilS],Pu a:=fun a ha=>by
  simp only [List.mem_cons,List.not_mem_nil,or_false] at ha
  rcases ha with rfl|rfl
  ·exact pu_n0
  ·exact .base _
 refine callA ir ?_ (hp:=hp0)
 refine goA ?_
 refine gqA (h:=fun hg=>ql_indexAddr_lst (e:=.base (.string ⟨#[48,58,53]⟩)) rfl rfl Tryd.underlying29 (by omega) rfl (by kernel_rfl)) (hr:=?_)
 refine goA ?_
 refine gqA (h:=fun hg=>ql_indexAddr_lst (e:=.int 3) rfl rfl Tryd.underlying25 (by omega) rfl (by kernel_rfl)) (hr:=?_)
 refine goA ?_
 exact Ret.data (vs:=[.bool true]) rfl rfl (.base _)
end Go.Ab
set_option maxHeartbeats 4000000
namespace Go.Ab
open Go Go.Ab Go.Proofs Go.Ab.Ty
end Go.Ab
set_option maxHeartbeats 4000000
namespace Go.Ab
open Go Go.Ab Go.Proofs Go.Ab.Ty
abbrev strV (x:ByteArray):AV:=.base (.string x)
instance:OfNat ByteArray 0:=⟨ByteArray.empty⟩
end Go.Ab
set_option maxHeartbeats 4000000
namespace Go.Ab
open Go Go.Ab Go.Proofs Go.Ab.Ty Go.RowKit
deriving instance DecidableEq for Acc
instance:Inhabited Acc:=⟨⟨0,0,false,0⟩⟩
instance:OfNat Acc 0:=⟨⟨0,0,false,0⟩⟩
end Go.Ab
set_option maxHeartbeats 4000000
namespace Go.Ab
open Go Go.Ab Go.Proofs Go.Ab.Ty
end Go.Ab
set_option maxHeartbeats 4000000
namespace Go.Ab
open Go Go.Ab Go.Proofs Go.Ab.Ty
structure TR where
 lines:List ByteArray
 accs:List Acc
 states:List Int
 pars:List Int
 all:Bool
 turns:Int
deriving DecidableEq
def encR (x:TR):AV:=.agg [.lst (x.lines.map strV),.lst (x.accs.map encA),.lst (x.states.map .int),.lst (x.pars.map .int),.base (.bool x.all),.int x.turns]
attribute [go_sem] encR
@[simp] theorem Pu_mapStr (l:List ByteArray):Pu (.lst (l.map strV)):=.lst fun e he c hc=>by
 obtain ⟨x,_,rfl⟩:=List.mem_map.1 he
 simp only [AV.cells,List.mem_singleton] at hc;subst hc;exact .base _
@[simp] theorem Pu_mapAcc (l:List Acc):Pu (.lst (l.map encA)):=.lst fun e he c hc=>by
 obtain ⟨x,_,rfl⟩:=List.mem_map.1 he
 simp only [encA,AV.cells,List.mem_cons,List.not_mem_nil,or_false] at hc
 rcases hc with rfl|rfl|rfl|rfl<;>exact .base _
@[simp] theorem Pu_mapInt2 (l:List Int):Pu (.lst (l.map .int)):=Pu_mapInt l
end Go.Ab
set_option maxHeartbeats 4000000
namespace Go.Ab
open Go Go.Ab Go.Proofs Go.Ab.Ty
end Go.Ab
set_option maxHeartbeats 4000000
namespace Go.Ab
open Go Go.Ab Go.Proofs Go.Ab.Ty
theorem Pu_encR (x:TR):Pu (encR x):=.agg fun c hc=>by
 simp only [List.mem_cons,List.not_mem_nil,or_false] at hc
 rcases hc with rfl|rfl|rfl|rfl|rfl|rfl
 ·exact Pu_mapStr _
 ·exact Pu_mapAcc _
 ·exact Pu_mapInt _
 ·exact Pu_mapInt _
 ·exact .base _
 ·exact .base _
attribute [simp] Pu_encR
end Go.Ab
set_option maxHeartbeats 4000000
namespace Go.Ab
open Go Go.Ab Go.Proofs Go.Ab.Ty
theorem shI3 {f:Nat} {xs:List AV} (h:Sh Tryd.prog f 3 xs):∃n:Int,xs=[.int n]:=by
 cases f with
 | zero=>exact h.elim
 | succ f =>
   simp only [Sh,Tryd.underlying3] at h
   obtain ⟨n,h1,h2⟩:=h
   exact ⟨n,h1⟩
theorem allMap {α:Type} {Q:List AV→Prop} {f:α→AV} {g:List AV→AV} {parts:List (List AV)} (h:∀p∈parts,Q p) (hq:∀p,Q p→∃x,g p=f x):∃l:List α,parts.map g=l.map f:=by
 induction parts with
 | nil=>exact ⟨[],rfl⟩
 | cons p ps ih =>
   obtain ⟨l,hl⟩:=ih fun q hq'=>h q (by simp [hq'])
   obtain ⟨x,hx⟩:=hq p (h p (by simp))
   exact ⟨x::l,by rw [List.map_cons,List.map_cons,hl,hx]⟩
theorem shL25 {f:Nat} {xs:List AV} (h:Sh Tryd.prog f 25 xs):∃l:List Int,xs=[.lst (l.map .int)]:=by
 cases f with
 | zero=>exact h.elim
 | succ f =>
   simp only [Sh,Tryd.underlying25] at h
   obtain ⟨parts,rfl,hl,h⟩:=h
   obtain ⟨l,h1⟩:=allMap (f:=AV.int) (g:=mkEl (aggTy Tryd.prog 3==some true)) h fun p hp=>by
    obtain ⟨n,rfl⟩:=shI3 hp.2
    exact ⟨n,by rw [agg3];rfl⟩
   exact ⟨l,by rw [h1]⟩
theorem six {α:Type} {l:List α} (h:l.length=6):∃p0 p1 p2 p3 p4 p5,l=[p0,p1,p2,p3,p4,p5]:=by
 match l,h with
 | [p0,p1,p2,p3,p4,p5],_=>exact ⟨_,_,_,_,_,_,rfl⟩
end Go.Ab
set_option maxHeartbeats 4000000
namespace Go.Proofs.YthgicbkdckpeaaaDoor
open Go.ChangeShapes Go.WideShapes Go.ChangeAt Go.RowKit Go.Lib Go.Ab
theorem own:ownKnob Tryd.prog.godebug=none:=by kernel_rfl
set_option maxRecDepth 100000 in
theorem powD:(Rows.laid_internal_strconv_uint64pow10:DataW Unit)=tabData .u64 pow10Tab:=by kernel_rfl
theorem tabs {W:World} (h:laidMetH Tryd.prog [("math/bits.deBruijn32tab",Rows.laid_math_bits_deBruijn32tab),("math/bits.deBruijn64tab",Rows.laid_math_bits_deBruijn64tab),("internal/strconv.uint64pow10",Rows.laid_internal_strconv_uint64pow10)] W):∃mm,TabM mm∧∀p∈mm,W.heap[p.1]?=some p.2:=by
 have h:laidMet Tryd.prog [("math/bits.deBruijn32tab",Rows.laid_math_bits_deBruijn32tab),("math/bits.deBruijn64tab",Rows.laid_math_bits_deBruijn64tab),("internal/strconv.uint64pow10",Rows.laid_internal_strconv_uint64pow10)] W:=h
 obtain ⟨g,t,cs,fuel,p,h1,h2,h3,h4⟩:=laidMet.reads h (n:="internal/strconv.uint64pow10") (d:=tabData .u64 pow10Tab) (by rw [powD];exact List.mem_cons_of_mem _ (List.mem_cons_of_mem _ (List.mem_singleton.2 rfl)))
 have e1:Tryd.prog.globalNamed "internal/strconv.uint64pow10" = some 0:=laysI.m17
 obtain rfl:=Option.some.inj (e1.symm.trans h1)
 have e2:(Tryd.prog.globals[0]?).map (·.type)=some 177:=by kernel_rfl
 obtain rfl:=Option.some.inj (e2.symm.trans h2)
 have hcs:=cells_of_tab (P:=Tryd.prog) (t:=177) (e:=171) (n:=20) (k:=.u64) (zs:=pow10Tab) (by kernel_rfl) (by kernel_rfl) (by kernel_rfl) (by kernel_rfl) h4
 unfold World.var? at h3
 rw [e1] at h3
 simp only [Option.bind_some] at h3
 split at h3
 ·rename_i c ty fz hc
  injection h3 with h3
  subst h3
  refine ⟨[(0,.cells c ty fz)],⟨ty,fz,?_⟩,fun p hp=>?_⟩
  ·rw [← hcs]
  ·rw [List.mem_singleton] at hp;subst hp;exact hc
 ·cases h3
def layT (l:List Value):Obj→Obj
 | .cells _ t frozen=>.cells l.toArray t frozen
 | o=>o
def lay0:List Value:=pow10Tab.map fun z=>Value.int .u64 z
def lay1:List Value:=[0,1,28,2,29,14,24,3,30,22,20,15,25,17,4,8,31,27,13,23,21,19,16,7,26,12,18,6,11,5,10,9].map fun z=>Value.int .u8 z
def lay2:List Value:=[0,1,56,2,57,49,28,3,61,58,42,50,38,29,17,4,62,47,59,36,45,43,51,22,53,39,33,30,24,18,12,5,63,55,48,27,60,41,37,16,46,35,44,21,52,32,23,11,54,26,40,15,34,20,31,10,25,14,19,9,13,8,7,6].map fun z=>Value.int .u8 z
noncomputable def layHeap (os:Os):Array Obj:=(((World.holding Tryd.prog os ⟨#[],#[],[]⟩).heap.modify 0 (layT lay0)).modify 1 (layT lay1)).modify 2 (layT lay2)
noncomputable def laidWorld (os:Os):World:={ World.holding Tryd.prog os ⟨#[],#[],[]⟩ with heap:=layHeap os }
end Go.Proofs.YthgicbkdckpeaaaDoor
set_option maxHeartbeats 4000000
namespace Go.Ab
open Go Go.Ab Go.Proofs Go.Ab.Ty
theorem three {α:Type} {l:List α} (h:l.length=3):∃p0 p1 p2,l=[p0,p1,p2]:=by
 match l,h with
 | [p0,p1,p2],_=>exact ⟨_,_,_,rfl⟩
theorem shS70 {f:Nat} {p:List AV} (h:Sh Tryd.prog f 70 p):∃x:Stp,AV.agg p=encS x:=by
 cases f with
 | zero=>exact h.elim
 | succ f =>
   simp only [Sh,Tryd.underlying70] at h
   obtain ⟨parts,hlen,rfl,h⟩:=h
   obtain ⟨p0,p1,p2,p3,p4,p5,rfl⟩:=six (show parts.length=6 from hlen)
   obtain ⟨a0,rfl⟩:=shI3 (h 0 _ p0 rfl rfl).2
   obtain ⟨a1,rfl⟩:=shI3 (h 1 _ p1 rfl rfl).2
   obtain ⟨a2,rfl⟩:=shI3 (h 2 _ p2 rfl rfl).2
   obtain ⟨a3,rfl⟩:=shI3 (h 3 _ p3 rfl rfl).2
   obtain ⟨a4,rfl⟩:=shI3 (h 4 _ p4 rfl rfl).2
   obtain ⟨a5,rfl⟩:=shL25 (h 5 _ p5 rfl rfl).2
   exact ⟨⟨a0,a1,a2,a3,a4,a5⟩,rfl⟩
theorem shL66 {f:Nat} {xs:List AV} (h:Sh Tryd.prog f 66 xs):∃l:List Stp,xs=[.lst (l.map encS)]:=by
 cases f with
 | zero=>exact h.elim
 | succ f =>
   simp only [Sh,Tryd.underlying66] at h
   obtain ⟨parts,rfl,hl,h⟩:=h
   obtain ⟨l,h1⟩:=allMap (f:=encS) (g:=mkEl (aggTy Tryd.prog 70==some true)) h fun p hp=>by
    obtain ⟨n,hn⟩:=shS70 hp.2
    exact ⟨n,by rw [agg70];exact hn⟩
   exact ⟨l,by rw [h1]⟩
theorem shC68 {f:Nat} {p:List AV} (h:Sh Tryd.prog f 68 p):∃x:Cd,AV.agg p=encC x:=by
 cases f with
 | zero=>exact h.elim
 | succ f =>
   simp only [Sh,Tryd.underlying68] at h
   obtain ⟨parts,hlen,rfl,h⟩:=h
   obtain ⟨p0,p1,p2,rfl⟩:=three (show parts.length=3 from hlen)
   obtain ⟨a0,rfl⟩:=shI3 (h 0 _ p0 rfl rfl).2
   obtain ⟨a1,rfl⟩:=shI3 (h 1 _ p1 rfl rfl).2
   obtain ⟨a2,rfl⟩:=shL66 (h 2 _ p2 rfl rfl).2
   exact ⟨⟨a0,a1,a2⟩,rfl⟩
theorem shL22 {f:Nat} {xs:List AV} (h:Sh Tryd.prog f 22 xs):∃l:List Cd,xs=[.lst (l.map encC)]:=by
 cases f with
 | zero=>exact h.elim
 | succ f =>
   simp only [Sh,Tryd.underlying22] at h
   obtain ⟨parts,rfl,hl,h⟩:=h
   obtain ⟨l,h1⟩:=allMap (f:=encC) (g:=mkEl (aggTy Tryd.prog 68==some true)) h fun p hp=>by
    obtain ⟨n,hn⟩:=shC68 hp.2
    exact ⟨n,by rw [agg68];exact hn⟩
   exact ⟨l,by rw [h1]⟩
theorem shT24 {a:AV} (h:ShV Tryd.prog 24 a):∃x:Tk,a=encT x:=by
 unfold ShV at h
 obtain ⟨f,p,h,hn,e⟩:=h
 cases f with
 | zero=>exact h.elim
 | succ f =>
   simp only [Sh,Tryd.underlying24] at h
   have ⟨parts,hlen,e2,h3⟩:=h
   clear h
   subst e2
   obtain ⟨p0,p1,p2,hp⟩:=three (show parts.length=3 from hlen)
   rw [hp] at h3 e
   have g0:Sh Tryd.prog f 22 p0:=(h3 0 _ p0 rfl rfl).2
   have g1:Sh Tryd.prog f 22 p1:=(h3 1 _ p1 rfl rfl).2
   have g2:Sh Tryd.prog f 3 p2:=(h3 2 _ p2 rfl rfl).2
   obtain ⟨a0,rfl⟩:=shL22 g0
   obtain ⟨a1,rfl⟩:=shL22 g1
   obtain ⟨a2,rfl⟩:=shI3 g2
   exact ⟨⟨a0,a1,a2⟩,by rw [e,agg24];rfl⟩
theorem shL25V {a:AV} (h:ShV Tryd.prog 25 a):∃l:List Int,a=.lst (l.map .int):=by
 unfold ShV at h
 obtain ⟨f,p,h,hn,e⟩:=h
 obtain ⟨l,rfl⟩:=shL25 h
 exact ⟨l,by rw [e,agg25];rfl⟩
end Go.Ab
set_option maxHeartbeats 4000000
namespace Go.Ab
open Go Go.Ab Go.Proofs Go.Ab.Ty
end Go.Ab
set_option maxHeartbeats 4000000
namespace Go.Ab
open Go Go.Ab Go.Proofs Go.Ab.Ty
theorem startF_get {s:PRun} {c:Cd} {vs a:List Int} {prio par:Int} {canc:Bool} (hl:s.ends.length=s.tasks.length) (hp:par<0∨∃p:Nat,∃u,par=(p:Int)∧s.tasks[p]?=some u∧u.ending=0∧u.waits<0) :
 ∃tn o,(startF s c vs a prio par canc).tasks=s.tasks++[tn]∧(startF s c vs a prio par canc).ends=s.ends++[o]∧(startF s c vs a prio par canc).calls=s.calls++[newC c vs (-1)] ∧
  tn.sarr=[s.calls.length]∧tn.slen=1∧tn.prio=prio∧tn.canc=canc∧tn.par=par∧tn.kids=[]∧tn.spn=[]∧tn.waits = -1∧tn.has = -1∧((tn.state=1∧tn.ending=0∧c.steps.length≠0)∨(tn.state=3∧tn.ending=3∧c.steps.length=0∧∃j,o=some j)):=by
 unfold startF
 split
 ·rename_i h0
  obtain ⟨S,hS⟩:∃S,S=(startS s c vs a prio par canc).tset s.tasks.length (clo (newT s.calls.length prio canc par s.pool.length) 3):=⟨_,rfl⟩
  have hSt:S.tasks=s.tasks++[clo (newT s.calls.length prio canc par s.pool.length) 3]:=by rw [hS];simp [PRun.tset,startS,PRun.addT,PRun.addP,PRun.addC]
  have hSe:S.ends=s.ends++[none]:=by rw [hS];rfl
  have hSc:S.calls=s.calls++[newC c vs (-1)]:=by rw [hS];rfl
  rw [← hS]
  have hn:S.tasks[s.tasks.length]?=some (clo (newT s.calls.length prio canc par s.pool.length) 3):=by rw [hSt];simp
  obtain ⟨S2,hS2⟩:∃S2,S2=(S.enS s.tasks.length s.pool.length).tset s.tasks.length { clo (newT s.calls.length prio canc par s.pool.length) 3 with state:=3 }:=⟨_,rfl⟩
  have e2t:S2.tasks=s.tasks++[{ clo (newT s.calls.length prio canc par s.pool.length) 3 with state:=3 }]:=by
   rw [hS2]
   show S.tasks.set _ _=_
   rw [hSt];simp
  have e2e:S2.ends=s.ends++[some s.pool.length]:=by
   rw [hS2]
   show S.ends.set _ _=_
   rw [hSe,← hl];simp
  have e2c:S2.calls=s.calls++[newC c vs (-1)]:=by rw [hS2];exact hSc
  have key:settleF (s.tasks.length+1) S s.tasks.length=S2:=by
   simp only [settleF,hn]
   rw [if_neg (by simp [clo])]
   simp only [kidsJ,clo,newT]
   rcases hp with hp|⟨p,u,rfl,hu,h1,h2⟩
   ·refine (if_pos hp).trans ?_
    rw [hS2];rfl
   ·refine (if_neg (by omega)).trans ?_
    have hpl:p<s.tasks.length:=(List.getElem?_eq_some_iff.1 hu).1
    have hup:S.tasks[p]?=some u:=by rw [hSt,List.getElem?_append_left hpl];exact hu
    simp only [Int.toNat_natCast,hup]
    refine (if_neg (by omega)).trans ?_
    obtain ⟨f,hf⟩:∃f,s.tasks.length=f+1:=⟨s.tasks.length-1,by omega⟩
    have e3:(S.enS s.tasks.length s.pool.length).tset s.tasks.length { clo (newT s.calls.length prio canc p s.pool.length) 3 with state:=3 }=S2:=by rw [hS2]
    simp only [clo,newT] at e3
    rw [e3,hf]
    have hup2:S2.tasks[p]?=some u:=by rw [e2t,List.getElem?_append_left hpl];exact hu
    simp only [settleF,hup2]
    rw [if_pos (.inl h1)]
  rw [key]
  exact ⟨_,_,e2t,e2e,e2c,rfl,rfl,rfl,rfl,rfl,rfl,rfl,rfl,rfl,.inr ⟨rfl,rfl,h0,_,rfl⟩⟩
 ·rename_i h0
  exact ⟨_,_,rfl,rfl,rfl,rfl,rfl,rfl,rfl,rfl,rfl,rfl,rfl,rfl,.inl ⟨rfl,rfl,h0⟩⟩
end Go.Ab
set_option maxHeartbeats 4000000
namespace Go.Ab
open Go Go.Ab Go.Proofs Go.Ab.Ty
end Go.Ab
set_option maxHeartbeats 4000000
namespace Go.Ab
open Go Go.Ab Go.Proofs Go.Ab.Ty
theorem rdF_free {s:PRun} {l:List Int}:∀(m:Nat) (x:Int),x∈(rdF s l m).2→∃i:Nat,x=(i:Int)∧i<m∧∃t,s.tasks[i]?=some t∧t.state=1∧blkT s i=false:=by
 intro m
 induction m with
 | zero=>intro x h;simp [rdF] at h
 | succ m ih =>
   intro x h
   simp only [rdF] at h
   have up:(∃i:Nat,x=(i:Int)∧i<m∧∃t,s.tasks[i]?=some t∧t.state=1∧blkT s i=false)→∃i:Nat,x=(i:Int)∧i<m+1∧∃t,s.tasks[i]?=some t∧t.state=1∧blkT s i=false:=by
    rintro ⟨i,a,b,c⟩;exact ⟨i,a,by omega,c⟩
   split at h
   ·rename_i t ht
    split at h
    ·exact up (ih x h)
    ·rename_i hs
     have h1:t.state=1:=Classical.byContradiction fun e=>hs (.inl e)
     have h2:blkT s m=false:=by
      cases e:blkT s m with
      | false=>rfl
      | true=>exact absurd (.inr e) hs
     split at h
     ·rw [List.mem_singleton] at h;exact ⟨m,h,by omega,t,ht,h1,h2⟩
     ·split at h
      ·exact up (ih x h)
      ·rcases List.mem_append.1 h with h|h
       ·exact up (ih x h)
       ·rw [List.mem_singleton] at h;exact ⟨m,h,by omega,t,ht,h1,h2⟩
   ·exact up (ih x h)
end Go.Ab
set_option maxHeartbeats 4000000
namespace Go.Ab
open Go Go.Ab Go.Proofs Go.Ab.Ty
theorem kidsJ_len:∀(ks:List Int) (s:PRun) (e:Nat),(kidsJ s e ks).1.tasks=s.tasks:=by
 intro ks
 induction ks with
 | nil=>intro s e;rfl
 | cons k ks ih =>
   intro s e
   simp only [kidsJ]
   split
   ·split
    ·exact ih _ _
    ·rfl
   ·rfl
theorem wakeP_len (s:PRun) (p:Nat) (tp:PTask) (e:Nat):(wakeP s p tp e).tasks.length=s.tasks.length:=by
 unfold wakeP wakeT
 split
 ·split
  ·simp [PRun.tset,PRun.addP,PRun.addB]
  ·simp [PRun.tset,PRun.addB]
 ·simp [PRun.tset,PRun.addB]
theorem goOnF_len {S:PRun→Nat→PRun} (hS:∀s n,(S s n).tasks.length=s.tasks.length) (s:PRun) (n j:Nat):(goOnF S s n j).tasks.length=s.tasks.length:=by
 unfold goOnF
 cases ht:s.tasks[n]? with
 | none=>rfl
 | some t =>
   cases hc:s.calls[j]? with
   | none=>rfl
   | some c =>
     simp only
     split
     ·rw [hS,tset_len];rfl
     ·rw [tset_len];rfl
theorem settleF_len:∀(f:Nat) (s:PRun) (n:Nat),(settleF f s n).tasks.length=s.tasks.length:=by
 intro f
 induction f with
 | zero=>intro s n;rfl
 | succ f ih =>
   intro s n
   simp only [settleF]
   split
   ·rfl
   ·rename_i t ht
    split
    ·rfl
    ·have hk:=kidsJ_len t.kids s t.clk
     split
     ·rename_i s1 e he
      rw [he] at hk;simp only at hk;rw [hk]
     ·rename_i s1 e he
      rw [he] at hk;simp only at hk
      have h2:((s1.enS n e).tset n { t with state:=t.ending }).tasks.length=s.tasks.length:=by rw [tset_len];show s1.tasks.length=_;rw [hk]
      split
      ·exact h2
      ·split
       ·rw [hk]
       ·split
        ·rw [goOnF_len ih,wakeP_len,h2]
        ·rw [ih,h2]
theorem stopF_len (s:PRun) (n:Nat):(stopF s n).tasks.length=s.tasks.length:=by
 unfold stopF
 split
 ·rw [settleF_len,tset_len];exact canL_len
 ·rfl
theorem turnX_tt {s:PRun} (h:GG s) (htn:s.turns.length<2000) {n j:Nat} {t:PTask} {c:PCall} {st:Stp} {l:Lk} {k i:Nat} (hT:TopC s n t j c st l k i) (h1:t.state=1) :
 (turnX s n j c st).turns=s.turns++[(n:Int)]∧s.tasks.length≤(turnX s n j c st).tasks.length:=by
 obtain ⟨hi,hg,hz⟩:=h
 obtain ⟨hK,hac⟩:=hT.tok hi hg hz h1
 have hMM:=MM_eq
 have hck:=hz.ck
 obtain ⟨t9,hA9,hb9⟩:=turnB_cs hK hac (by omega) (by omega)
 have hZ:=zs_turnB s n c st
 obtain ⟨hTn,hCk⟩:=turnB_turns s n c st
 have hcan9:canF (turnB s n c st) c st=canF s c st:=canF_cs hA9 c st
 unfold turnX
 obtain ⟨s9,hs9⟩:∃s9,s9=turnB s n c st:=⟨_,rfl⟩
 rw [← hs9] at hA9 hZ hTn hCk hcan9 ⊢
 have hI9:=hA9.iv
 have hG9:=hZ.gi hg
 have ht9:=hA9.tk
 have hT9:TopC s9 n t9 j c st l k i:=hT.zs hZ.p hZ.calls ht9 hA9.tsa.1 hA9.tsa.2.1
 have hK9:Tok 80000 s9 n j t9 c st:=hK.cs hA9 (by omega)
 have ho9:s9.objs.length≤200:=by rw [hZ.objs];exact hz.ob
 have hao9:s9.p.actors.toNat≤s9.objs.length:=by rw [hZ.objs,hZ.p];exact hz.ao
 have e9t:tkAt s9 n=t9:=tkAt_eq ht9
 rw [e9t]
 cases hcn:canF s c st with
 | false =>
   rw [if_pos rfl]
   exact ⟨by rw [(stopF_fx s9 n).turns,hTn],by rw [stopF_len,hZ.tl];exact Nat.le_refl _⟩
 | true =>
   rw [if_neg (by simp)]
   have hS:Sok s9 n j t9 c st:={ hK9.cs (Cs.refl hI9 ht9) (k':=40000) (by omega) with can:=by rw [hcan9];exact hcn,bh:=hb9 }
   have hSg:=stepF_gi hG9 ho9 hao9 hS hT9 (time:=s.turns.length)
   obtain ⟨r,hr⟩:∃r,r=stepF s9 n j t9 c st s.turns.length:=⟨_,rfl⟩
   rw [← hr] at hSg ⊢
   obtain ⟨rb,s10⟩:=r
   have d0:=hSg.turns
   have d4:=hSg.tl
   simp only at d0 d4
   have d5:s.tasks.length≤s10.tasks.length:=by
    rw [d4,hZ.tl];split<;>omega
   cases rb with
   | false=>rw [if_pos rfl];exact ⟨by rw [d0,hTn],d5⟩
   | true =>
     rw [if_neg (by simp)]
     unfold turnG
     simp only
     obtain ⟨s11,hs11⟩:∃s11,s11=if 0≤c.actor∧st.op≠12∧st.op≠9∧c.pc≠(c.code.steps.length:Int)-1 then hasS s10 n c.actor else s10:=⟨_,rfl⟩
     rw [← hs11]
     have e1:s11.turns=s10.turns:=by rw [hs11];split<;>rfl
     have e2:s11.tasks.length=s10.tasks.length:=by rw [hs11];split;exact tset_len;rfl
     refine ⟨?_,?_⟩
     ·rw [(goOnF_fx (fun s n=>settleF_fx _ s n) s11 n j).turns,e1,d0,hTn]
     ·rw [goOnF_len (settleF_len _),e2];exact d5
end Go.Ab
set_option maxHeartbeats 4000000
namespace Go.Ab
open Go Go.Ab Go.Proofs Go.Ab.Ty
theorem CallE.run0 {R:PRun}:CallE [] [] [] (HH R) (HH R):=CallE.all (H:=[]) (H':=HH R) (Nat.zero_le _)
theorem mvRan {H:List ABlk}:MvR (rb [] ([]:List ABlk).length) H (.tup [ptR,.int 0]) (.tup [ptR,.int 0]):=.tup' ⟨.ptr (by simp [rb,ix]),.pu (.base _),trivial⟩
end Go.Ab
set_option maxHeartbeats 4000000
namespace Go.Ab
open Go Go.Ab Go.Proofs Go.Ab.Ty
def hvS:List Stp→Int→Option Int
 | [],n=>some n
 | s::l,n=>if 50<s.vars.length∨2000<n+1+s.vars.length then none else hvS l (n+1+s.vars.length)
def hvC:List Cd→Int→Option Int
 | [],n=>some n
 | c::l,n=>if 60<c.steps.length then none else match hvS c.steps n with
   | none=>none
   | some m=>hvC l m
def hvy (p:Tk) (n:Nat):Bool:=decide (20<p.codes.length∨20<p.methods.length∨300<n)||(hvC (p.codes++p.methods) 0).isNone
theorem nth_app {α:Type} {d:α} {l m:List α} {i:Nat}:nth d (l++m) (i:Int)=if i<l.length then nth d l i else nth d m ((i:Int)-l.length):=by
 unfold nth
 split
 ·rw [Int.toNat_natCast,List.getElem?_append_left (by omega)]
 ·rw [Int.toNat_natCast,List.getElem?_append_right (by omega)]
  congr 2;omega
theorem code_at (p:Tk) (i:Nat) (hi:i<p.codes.length+p.methods.length) (hb:p.methods.length≤1000):Fn Tryd.prog 41 [encT p,.int i] (encC (Rg.cod (p.codes++p.methods) i)):=by
 obtain ⟨co,me,ac⟩:=p
 simp only at hi hb
 refine Fn.intro' [(0,encT ⟨co,me,ac⟩),(1,.int i)] 2 24 Tryd.func41 (by kernel_rfl) rfl rfl rfl rfl rfl ?_
 refine goB ?_
 refine ifA (fun hc=>?_) (fun hc=>?_)
 ·simp at hc
  have hE:Rg.cod (co++me) i=Rg.cod co i:=by unfold Rg.cod;rw [nth_app,if_pos hc]
  simp only [hE]
  refine goB ?_
  refine ARun.q1 rfl rfl (ql_idxD (l:=co) (f:=encC) Rg.cd0 rfl rfl Tryd.underlying22 (by omega) (by omega) (by kernel_rfl)) ?_
  refine goB ?_
  exact Ret.data (vs:=[encC (Rg.cod co i)]) (by kernel_rfl) rfl (Pu_encC _)
 ·simp at hc
  have hE:Rg.cod (co++me) i=Rg.cod me ((i:Int)-co.length):=by unfold Rg.cod;rw [nth_app,if_neg (by omega)]
  simp only [hE]
  refine goB ?_
  rw [wrap_id (x:=(i:Int)-co.length) (by omega) (by omega)]
  refine ARun.q1 rfl rfl (ql_idxD (l:=me) (f:=encC) Rg.cd0 rfl rfl Tryd.underlying22 (by omega) (by omega) (by kernel_rfl)) ?_
  refine goB ?_
  exact Ret.data (vs:=[encC (Rg.cod me ((i:Int)-co.length))]) (by kernel_rfl) rfl (Pu_encC _)
theorem heavy_ok (p:Tk) (sched:List Int):Fn Tryd.prog 19 [encT p,.lst (sched.map .int)] (.bool (hvy p sched.length)):=by
 obtain ⟨co,me,ac⟩:=p
 refine Fn.intro' [(0,encT ⟨co,me,ac⟩),(1,.lst (sched.map .int))] 2 71 Tryd.func19 (by kernel_rfl) rfl rfl rfl rfl rfl ?_
 refine goB ?_
 by_cases h1:20<co.length∨20<me.length∨300<sched.length
 ·refine ift_ ?_ ?_ rfl
  rotate_left
  ·by_cases a:20<co.length<;>by_cases b:20<me.length<;>by_cases d:300<sched.length<;>first|(exfalso;omega)|(simp [a,b,d]<;>omega)
  refine goB ?_
  exact Ret.bool rfl (by unfold hvy;simp [h1])
 refine iff_ ?_ ?_ rfl
 rotate_left
 ·by_cases a:20<co.length<;>by_cases b:20<me.length<;>by_cases d:300<sched.length<;>first|(exfalso;omega)|(simp [a,b,d]<;>omega)
 have hv:hvy ⟨co,me,ac⟩ sched.length=(hvC (co++me) 0).isNone:=by unfold hvy;simp [h1]
 rw [hv]
 refine goB ?_
 refine AWp.loop (J:=fun x:Nat × Int=>x.1≤co.length+me.length∧0≤x.2∧x.2≤2000∧hvC ((co++me).drop x.1) x.2=hvC (co++me) 0) (fun x=>⟨[(2,.ptr 0 1 0 0),(5,.int x.2),(6,.int x.1)],[⟨24,3,[encT ⟨co,me,ac⟩]⟩]⟩) (fun x=>co.length+me.length-x.1) (0,0) ⟨Nat.zero_le _,by omega,by omega,rfl⟩ .wf ?_
 rintro ⟨i,n⟩ ⟨j1,j2,j3,j4⟩
 simp only at j1 j2 j3 j4
 refine goB ?_
 rw [wrap_id (x:=(co.length:Int)+me.length) (by omega) (by omega)]
 by_cases hlt:i<co.length+me.length
 ·have hd:decide ((i:Int)<(co.length:Int)+me.length)=true:=decide_eq_true (by omega)
  refine ift_ ?_ hd rfl
  refine goB ?_
  refine callA (code_at ⟨co,me,ac⟩ i hlt (by simp only;omega)) ?_
  have hdr:(co++me).drop i=Rg.cod (co++me) i::(co++me).drop (i+1):=by
   rw [List.drop_eq_getElem_cons (by simp;omega)]
   congr 1
   exact (nth_at (List.getElem?_eq_getElem _)).symm
  rw [hdr] at j4
  generalize Rg.cod (co++me) i=cd at j4
  obtain ⟨cp,cv,ss⟩:=cd
  refine goB ?_
  by_cases h60:60<ss.length
  ·refine ift_ ?_ (decide_eq_true (by omega)) rfl
   refine goB ?_
   exact Ret.bool rfl (by
    rw [← j4]
    simp only [hvC]
    rw [if_pos h60];simp)
  refine iff_ ?_ (decide_eq_false (by omega)) rfl
  refine goB ?_
  refine AWp.loop (J:=fun x:Nat × Int=>x.1≤ss.length∧0≤x.2∧x.2≤2000∧hvS (ss.drop x.1) x.2=hvS ss n) (fun x=>⟨[(2,.ptr 0 1 0 0),(5,.int x.2),(6,.int i),(7,.ptr 1 1 0 0),(8,.int x.1)],[⟨24,3,[encT ⟨co,me,ac⟩]⟩,⟨68,3,[encC ⟨cp,cv,ss⟩]⟩]⟩) (fun x=>ss.length-x.1) (0,n) ⟨Nat.zero_le _,j2,j3,rfl⟩ .wf ?_
  rintro ⟨k,m⟩ ⟨q1,q2,q3,q4⟩
  simp only at q1 q2 q3 q4
  refine goB ?_
  by_cases hk:k<ss.length
  ·refine ift_ ?_ (decide_eq_true (by omega)) rfl
   have hds:ss.drop k=nth Rg.stp0 ss k::ss.drop (k+1):=by
    rw [List.drop_eq_getElem_cons hk]
    congr 1
    exact (nth_at (List.getElem?_eq_getElem _)).symm
   rw [hds] at q4
   refine goB ?_
   refine ARun.q1 rfl rfl (ql_idxD (l:=ss) (f:=encS) Rg.stp0 rfl rfl Tryd.underlying66 (by omega) (by omega) (by kernel_rfl)) ?_
   generalize hst:nth Rg.stp0 ss k=st at q4
   obtain ⟨op,v,w,nn,tk,vs⟩:=st
   refine goB ?_
   rw [wrap_id (x:=m+1) (by omega) (by omega)]
   refine ARun.q1 rfl rfl (ql_idxD (l:=ss) (f:=encS) Rg.stp0 rfl rfl Tryd.underlying66 (by omega) (by omega) (by kernel_rfl)) ?_
   rw [hst]
   refine goB ?_
   by_cases h50:50<vs.length
   ·refine ift_ ?_ ?_ rfl
    rotate_left
    ·have:decide ((vs.length:Int)>50)=true:=decide_eq_true (by omega)
     rw [this];rfl
    refine goB ?_
    exact Ret.bool rfl (by
     rw [← j4]
     simp only [hvC]
     rw [if_neg h60,← q4]
     simp only [hvS]
     rw [if_pos (.inl h50)];simp)
   have hd50:decide ((vs.length:Int)>50)=false:=decide_eq_false (by omega)
   rw [wrap_id (x:=m+1+vs.length) (by omega) (by omega)]
   by_cases h2k:2000<m+1+vs.length
   ·refine ift_ ?_ ?_ rfl
    rotate_left
    ·have:decide (m+1+(vs.length:Int)>2000)=true:=decide_eq_true (by omega)
     rw [hd50,this];rfl
    refine goB ?_
    exact Ret.bool rfl (by
     rw [← j4]
     simp only [hvC]
     rw [if_neg h60,← q4]
     simp only [hvS]
     rw [if_pos (.inr h2k)];simp)
   refine iff_ ?_ ?_ rfl
   rotate_left
   ·have:decide (m+1+(vs.length:Int)>2000)=false:=decide_eq_false (by omega)
    rw [hd50,this];rfl
   refine goB ?_
   rw [wrap_succ (by omega)]
   refine ⟨(k+1,m+1+vs.length),⟨by show k+1≤_;omega,by show 0≤m+1+(vs.length:Int);omega,by show m+1+(vs.length:Int)≤2000;omega,?_⟩,by show ss.length-(k+1)<ss.length-k;omega,.wf⟩
   rw [← q4]
   simp only [hvS]
   rw [if_neg (by omega)]
  ·refine iff_ ?_ (decide_eq_false (by omega)) rfl
   refine goB ?_
   rw [wrap_succ (by omega)]
   refine ⟨(i+1,m),⟨by show i+1≤_;omega,q2,q3,?_⟩,by show co.length+me.length-(i+1)<co.length+me.length-i;omega,?_⟩
   ·rw [← j4]
    have hnil:ss.drop k=[]:=List.drop_eq_nil_of_le (by omega)
    rw [hnil] at q4
    simp only [hvS] at q4
    simp only [hvC]
    rw [if_neg h60,← q4]
   ·exact .trim' 1 rfl (by simp (decide:=true) only [go_sem,WkP];exact ⟨.ptr (by decide),.pu (.base _),.pu (.base _)⟩) (Rg.Pub_blkT ⟨co,me,ac⟩)
 ·refine iff_ ?_ (decide_eq_false (by omega)) rfl
  refine goB ?_
  exact Ret.bool rfl (by
   rw [← j4,List.drop_eq_nil_of_le (by simp;omega)]
   simp [hvC])
end Go.Ab
set_option maxHeartbeats 4000000
namespace Go.Ab
open Go Go.Ab Go.Proofs Go.Ab.Ty
end Go.Ab
set_option maxHeartbeats 4000000
namespace Go.Ab
open Go Go.Ab Go.Proofs Go.Ab.Ty
end Go.Ab
set_option maxHeartbeats 4000000
namespace Go.Ab
open Go Go.Ab Go.Proofs Go.Ab.Ty
theorem Pu_args (p:Tk) (s:List Int):∀a∈[encT p,AV.lst (s.map .int)],Pu a:=fun a ha=>by
 simp only [List.mem_cons,List.not_mem_nil,or_false] at ha
 rcases ha with rfl|rfl
 ·exact Pu_encT p
 ·exact Pu_mapInt _
end Go.Ab
set_option maxHeartbeats 4000000
namespace Go.Ab.Rg
open Go Go.Ab Go.Proofs Go.Ab.Ty
structure Rg where
 of:Int→Int
 count:Int
 actor:Int
def encR (r:Rg):AV:=.agg [.int (r.of 0),.int (r.of 1),.int (r.of 2),.int (r.of 3),.int (r.of 4),.int (r.of 5),.int (r.of 6),.int (r.of 7),.int r.count,.int r.actor]
attribute [go_sem] encR Nat.mul_one
def updI (f:Int→Int) (n v:Int):Int→Int:=fun k=>if k=n then v else f k
theorem getR {f:Int→Int} {a b:AV} {n:Int} (h0:0≤n) (h8:n<8):[.int (f 0),.int (f 1),.int (f 2),.int (f 3),.int (f 4),.int (f 5),.int (f 6),.int (f 7),a,b][n.toNat]?=some (.int (f n)):=by
 rcases (by omega:n=0∨n=1∨n=2∨n=3∨n=4∨n=5∨n=6∨n=7) with h|h|h|h|h|h|h|h<;>subst h<;>rfl
theorem getR8 {f:Int→Int} {n:Int} (h0:0≤n) (h8:n<8):[AV.int (f 0),.int (f 1),.int (f 2),.int (f 3),.int (f 4),.int (f 5),.int (f 6),.int (f 7)][n.toNat]?=some (.int (f n)):=by
 rcases (by omega:n=0∨n=1∨n=2∨n=3∨n=4∨n=5∨n=6∨n=7) with h|h|h|h|h|h|h|h<;>subst h<;>rfl
theorem setR {f:Int→Int} {a b:AV} {n v:Int} (h0:0≤n) (h8:n<8):[.int (f 0),.int (f 1),.int (f 2),.int (f 3),.int (f 4),.int (f 5),.int (f 6),.int (f 7),a,b].set n.toNat (.int v) =
 [.int (updI f n v 0),.int (updI f n v 1),.int (updI f n v 2),.int (updI f n v 3),.int (updI f n v 4),.int (updI f n v 5),.int (updI f n v 6),.int (updI f n v 7),a,b]:=by
 rcases (by omega:n=0∨n=1∨n=2∨n=3∨n=4∨n=5∨n=6∨n=7) with h|h|h|h|h|h|h|h<;>subst h<;>rfl
theorem Pu_encR (r:Rg):Pu (encR r):=.agg fun c hc=>by
 simp only [List.mem_cons,List.not_mem_nil,or_false] at hc
 rcases hc with rfl|rfl|rfl|rfl|rfl|rfl|rfl|rfl|rfl|rfl<;>exact .base _
attribute [simp] Pu_encR
theorem Pu_cellsR (r:Rg):∀c∈(encR r).cells,Pu c:=fun c hc=>by
 simp only [encR,AV.cells,List.mem_cons,List.not_mem_nil,or_false] at hc
 rcases hc with rfl|rfl|rfl|rfl|rfl|rfl|rfl|rfl|rfl|rfl<;>exact .base _
theorem pl_storeR {P:Program} {H:List ABlk} {ρ:Operand→AV} {t:TypeId} {x y:Operand} {bb ty sz:Nat} {f:Int→Int} {a b:AV} {n v:Int} (hx:ρ x=.ptr bb 1 0 n.toNat) (hy:ρ y=.base (.int .i64 v))
 (hb:H[bb]?=some ⟨ty,sz,[.agg [.int (f 0),.int (f 1),.int (f 2),.int (f 3),.int (f 4),.int (f 5),.int (f 6),.int (f 7),a,b]]⟩) (h0:0≤n) (h8:n<8) (hsz:szTy P t=some 1) (hmt:ty<mapTy:=by first|decide|exact ltMap rfl) :
 PL P H ρ (.store t x y) .bad (H.set bb ⟨ty,sz,[.agg [.int (updI f n v 0),.int (updI f n v 1),.int (updI f n v 2),.int (updI f n v 3),.int (updI f n v 4),.int (updI f n v 5),.int (updI f n v 6),.int (updI f n v 7),a,b]]⟩):=by
 refine pl_store (v:=.int v) hx hy hb rfl rfl hsz rfl ?_ (hmt:=hmt)
 show stE _ _ [.int v]=_
 simp only [stE,List.length_cons,List.length_nil]
 rw [if_pos (by omega),setR h0 h8]
def freshR (r:Rg) (v:Int):Rg:=⟨updI r.of v (IntKind.i64.wrap (r.count+1)),IntKind.i64.wrap (r.count+1),r.actor⟩
theorem fresh_ok (r:Rg) (v:Int) (h0:0≤v) (h8:v<8):Fn Tryd.prog 101 [encR r,.int v] (encR (freshR r v)):=by
 refine Fn.intro' [(0,encR r),(1,.int v)] 2 15 Tryd.func101 (by kernel_rfl) rfl rfl rfl rfl rfl ?_
 refine goA ?_
 refine ARun.q1 rfl rfl (ql_indexAddr_ptr rfl rfl rfl Tryd.underlying122 h0 h8 sz3) ?_
 refine ARun.p1 rfl rfl (pl_storeR (f:=r.of) (by simp +decide only [go_sem]<;>rfl) (by simp +decide only [go_sem]<;>rfl) (by simp +decide only [go_sem]<;>rfl) h0 h8 sz3) ?_
 refine goA ?_
 exact Ret.data (vs:=[encR (freshR r v)]) (by show resVals _ _ [.cell 4 124]=_;simp +decide only [resVals,resVal,ldPtr,ldE,go_sem, *]<;>rfl) rfl (Pu_encR _)
def mustF (r:Rg):List Int→Int
 | []=>0
 | v::l=>if r.of v=0 then 100 else if r.of v = -1 then 220 else mustF r l
theorem mustF_take {r:Rg} {l:List Int} {k:Nat} (h:k≤l.length) (hn:∀i (h:i<k) (h':i<l.length),r.of l[i]≠0∧r.of l[i] ≠ -1):mustF r l=mustF r (l.drop k):=by
 induction l generalizing k with
 | nil=>simp
 | cons x l ih =>
   cases k with
   | zero=>rfl
   | succ k =>
     have h1:=hn 0 (by omega) (by simp)
     simp only [List.getElem_cons_zero] at h1
     simp only [mustF,if_neg h1.1,if_neg h1.2,List.drop_succ_cons]
     exact ih (by simpa using h) fun i hi h'=>by have:=hn (i+1) (by omega) (by simpa using h');simpa using this
theorem must_ok (r:Rg) (l:List Int) (hl:∀v∈l,0≤v∧v<8):Fn Tryd.prog 102 [encR r,.lst (l.map .int)] (.int (mustF r l)):=by
 refine Fn.intro' [(0,encR r),(1,.lst (l.map .int))] 2 22 Tryd.func102 (by kernel_rfl) rfl rfl rfl rfl rfl ?_
 refine AWp.learn 1 rfl fun hlen=>?_
 rw [List.length_map] at hlen
 refine goA ?_
 refine AWp.loop (J:=fun k:Nat=>k≤l.length∧∀i (h:i<k) (h':i<l.length),r.of l[i]≠0∧r.of l[i] ≠ -1)
  (I:=fun k=>⟨[(9,.int k),(8,.int l.length),(7,.lst (l.map .int)),(2,.ptr 0 1 0 0)],[⟨124,10,[encR r]⟩]⟩) (μ:=fun k=>l.length-k) 0 ⟨Nat.zero_le _,by omega⟩ .wk ?_
 rintro k ⟨hk,hno⟩
 refine goA ?_
 refine ifA (fun hd=>?_) (fun hd=>?_)
 ·simp at hd
  have hr:=hl l[k] (List.getElem_mem hd)
  have hm:=mustF_take hk hno
  rw [List.drop_eq_getElem_cons hd] at hm
  have hg:=getR (f:=r.of) (a:=.int r.count) (b:=.int r.actor) hr.1 hr.2
  refine goA ?_
  refine ARun.q1 rfl rfl (ql_idx rfl rfl Tryd.underlying25 (by omega) (by omega) (by kernel_rfl)) ?_
  refine goA ?_
  refine ARun.q1 rfl rfl (ql_indexAddr_ptr rfl rfl rfl Tryd.underlying122 hr.1 hr.2 sz3) ?_
  repeat (first|(with_reducible first|apply zs|apply zN|apply z1|apply z2|apply z3|apply z4|apply z5|apply z6|refine z7 rfl ?_|apply zb|apply zk|apply zr|apply ze|apply y1|apply y2)|((with_reducible apply zR);(refine ⟨rfl,rfl,?_⟩;simp +decide only [go_sem,List.map];rfl))|((with_reducible apply zG);(simp +decide only [go_sem,hg,Nat.mul_one];rfl);(simp +decide only [go_sem,hg,Nat.mul_one];(repeat simp +decide only [go_sem,hg,Nat.mul_one]);rfl))|(refine zp rfl rfl (pl_box (by simp +decide only [go_sem,hg,Nat.mul_one];rfl) rfl) ?_)|(refine zp rfl rfl (pl_alloc (by simp only [go_sem];rfl) rfl) ?_)|(refine zp rfl rfl (pl_store (by simp +decide only [go_sem,hg,Nat.mul_one];rfl) (by simp +decide only [go_sem,hg,Nat.mul_one];rfl) (by simp +decide only [go_sem];rfl) (by rfl) (by rfl) (by kernel_rfl) (by rfl) (by rfl)) ?_)|fail)
  refine ifA (fun he=>?_) (fun he=>?_)
  ·simp at he
   refine goA ?_
   exact Ret.data rfl (by rw [hm];simp [mustF,he,packA,lk]) (.base _)
  simp at he
  refine goA ?_
  refine ifA (fun hf=>?_) (fun hf=>?_)
  ·simp at hf
   refine goA ?_
   exact Ret.data rfl (by rw [hm];simp [mustF,he,hf,packA,lk]) (.base _)
  ·simp at hf
   refine goA ?_
   rw [wrap_succ (by omega)]
   refine ⟨k+1,⟨by omega,fun i h h'=>?_⟩,by omega,.wk⟩
   by_cases e:i=k
   ·subst e;exact ⟨he,hf⟩
   ·exact hno i (by omega) h'
 ·simp at hd
  refine goA ?_
  have hm:=mustF_take (k:=l.length) (Nat.le_refl _) fun i h h'=>hno i (by omega) h'
  exact Ret.data rfl (by rw [hm];simp [mustF,packA,lk]) (.base _)
end Go.Ab.Rg
