/- Still more rules for use. -/
import Derived.Test.YthgicbkdckpeaaaDoorG07
set_option linter.unusedSimpArgs false
set_option linter.unusedVariables false
namespace Go.Ab
open Go Go.RowKit
section
variable {P:Program} {H:List ABlk}
theorem Lend.clo {f:FuncId} {cs ds:List AV} (hl:cs.length=ds.length) (h:∀(j:Nat) (c d:AV),cs[j]?=some c→ds[j]?=some d→Lend H c d):Lend H (.clo f cs) (.clo f ds):=fun w0 w O ι u hs hu=>by
 cases hu with
 | clo f cs arr hlen hh =>
 refine .clo f ds arr (hlen.trans hl) fun j d u hd hu=>?_
 have hj:j<cs.length:=by rw [hl];exact (List.getElem?_eq_some_iff.1 hd).1
 exact h j _ d (List.getElem?_eq_getElem hj) hd w0 w O ι u hs (hh j _ u (List.getElem?_eq_getElem hj) hu)
def LendL (H:List ABlk):List AV→List AV→Prop
 | [],[]=>True
 | a::l,b::m=>Lend H a b∧LendL H l m
 | _,_=>False
theorem LendL.len:∀ {l m:List AV},LendL H l m→l.length=m.length
 | [],[],_=>rfl
 | _::l,_::m,h=>by simp [LendL.len h.2]
theorem LendL.get:∀ {l m:List AV},LendL H l m→∀(j:Nat) (a b:AV),l[j]?=some a→m[j]?=some b→Lend H a b
 | _::l,_::m,h,0,a,b,h1,h2=>by cases h1;cases h2;exact h.1
 | _::l,_::m,h,j+1,a,b,h1,h2=>LendL.get h.2 j a b h1 h2
theorem ql_callM {ρ:Operand→AV} {c:Call} {fx:Operand} {f:FuncId} {caps args:List AV} {d:AV} (hc:c.callee=.value fx)
 (hf:ρ fx=.clo f caps) (hl:LendL H (c.args.toList.map ρ++caps) args) (hd:Sc d) {m:List (Nat × Obj)} (h:FnM P m f args d) (hm:MemIn m ρ:=by exact .inl rfl):QL P H ρ (.call c) d:=
 ql_callL hc hf hl.len hl.get hd h hm
theorem Lend.iptr {b tot i off:Nat} {blk:ABlk} {e d:AV} (h1:H[b]?=some blk) (ht:blk.es.length=tot) (he:blk.es[i]?=some e)
 (hl:LendL H e.cells d.cells):Lend H (.ptr b tot i off) (.iptr d off):=.ptr h1 ht he hl.len hl.get
theorem Lend.clo' {f:FuncId} {cs ds:List AV} (h:LendL H cs ds):Lend H (.clo f cs) (.clo f ds):=.clo h.len h.get
theorem ql_idx {α:Type} {ρ:Operand→AV} {t el:TypeId} {x i:Operand} {k:IntKind} {n:Int} {l:List α} {f:α→AV} (hx:ρ x=.lst (l.map f)) (hi:ρ i=.base (.int k n)) (ht:P.underlying t=some (.slice el))
 (h0:0≤n) (he:n.toNat<l.length) (hsz:szTy P el=some (f l[n.toNat]).cells.length):QL P H ρ (.indexAddr t x i) (.iptr (f (l[n.toNat]'he)) 0):=
 ql_indexAddr_lst hx hi ht h0 (by rw [List.getElem?_map,List.getElem?_eq_getElem he];rfl) hsz
end
end Go.Ab
namespace Go.Ab
open Go Go.RowKit
theorem AWp.learnV {P:Program} {n:Fr} {Q:Exit→ASt→Prop} {s:ASt} {c:Code} (t:Nat) {a:AV} {Ψ:Prop} (ha:lk s.env t=a) (h:∀(w:World) (O:Nat→Prop) (ι:Nat→Option Nat) (H:List ABlk) (u:Value),VR w O ι H a u→Ψ)
 (k:Ψ→AWp P n c Q s):AWp P n c Q s:=by
 intro w0 O ι a w hs
 have h1:=hs.vals t
 rw [ha] at h1
 exact k (h _ _ _ _ _ h1) w0 O ι a w hs
theorem VR.lst_len {w:World} {O:Nat→Prop} {ι:Nat→Option Nat} {H:List ABlk} {es:List AV} {u:Value} (h:VR w O ι H (.lst es) u):es.length≤9223372036854775807:=by
 cases h with
 | lnil=>simp
 | lst es a n cap s val hn hcap hmax hlen hspot hc hv=>simp only [maxLen] at hmax;omega
theorem VR.lst_el {w:World} {O:Nat→Prop} {ι:Nat→Option Nat} {H:List ABlk} {es:List AV} {u:Value} (h:VR w O ι H (.lst es) u) {e c:AV} (he:e∈es) {j:Nat} (hj:e.cells[j]?=some c):∃v,VR w O ι H c v:=by
 cases h with
 | lnil=>cases he
 | lst es a n cap s val hn hcap hmax hlen hspot hc hv =>
   obtain ⟨i,hi,rfl⟩:=List.mem_iff_getElem.1 he
   exact ⟨_,hv i j _ c (List.getElem?_eq_getElem hi) hj⟩
theorem VR.agg_el {w:World} {O:Nat→Prop} {ι:Nat→Option Nat} {H:List ABlk} {cs:List AV} {u:Value} (h:VR w O ι H (.agg cs) u) {c:AV} {j:Nat} (hj:cs[j]?=some c):∃v,VR w O ι H c v:=by
 cases h with
 | agg cs arr hlen hh =>
   have:j<arr.size:=by rw [hlen];exact (List.getElem?_eq_some_iff.1 hj).1
   exact ⟨_,hh j c _ hj (Array.getElem?_eq_getElem this)⟩
end Go.Ab
namespace Go.Ab
attribute [go_sem] decide_true decide_false cond_true cond_false eq_self
end Go.Ab
namespace Go.Ab
open Go Go.RowKit
attribute [go_sem] Int.natCast_nonneg Int.toNat_natCast
section
variable {P:Program} {H:List ABlk} {α:Type} {f:α→AV} {l:List α}
theorem ql_slice_pre {ρ:Operand→AV} {t el:TypeId} {x y:Operand} {k:IntKind} {n:Int} {sz:Nat} (hx:ρ x=.lst (l.map f)) (hy:ρ y=.base (.int k n)) (ht:P.underlying t=some (.slice el)) (h0:0≤n)
 (hh:n.toNat≤l.length) (hsz:szTy P el=some sz) (hes:∀e,(f e).cells.length=sz):QL P H ρ (.slice t x none (some y) none) (.lst ((l.take n.toNat).map f)):=by
 have:=ql_slice_lst (P:=P) (H:=H) (lo:=none) (hi:=some y) (l:=0) (h:=n.toNat) hx ht rfl (by simp [bnd,hy,h0]) (Nat.zero_le _) (by simpa using hh) hsz (by simpa using fun e _=>hes e)
 simpa [List.map_take] using this
end
end Go.Ab
namespace Go.Ab
open Go Go.RowKit
section
variable {P:Program} {H:List ABlk}
theorem ql_callC {ρ:Operand→AV} {c:Call} {fx:Operand} {f:FuncId} {caps as:List AV} {d:AV} {m:List (Nat × Obj)} (h:FnM P m f as d) (hc:c.callee=.value fx)
 (hf:ρ fx=.clo f caps) (ha:c.args.toList.map ρ++caps=as) (hp:∀a∈as,Pu a) (hm:MemIn m ρ:=by exact .inl rfl):QL P H ρ (.call c) d:=
 ql_call hc hf (by rw [ha];exact hp) (by rw [ha];exact h) hm
end
attribute [simp] Pu.base Pu_mapInt
end Go.Ab
namespace Go.Ab
open Go Go.RowKit
def nth {α:Type} (d:α) (l:List α) (n:Int):α:=(l[n.toNat]?).getD d
theorem nth_eq {α:Type} {d:α} {l:List α} {n:Nat} (h:n<l.length):nth d l n=l[n]:=by simp [nth,h]
theorem nth_eqI {α:Type} {d:α} {l:List α} {n:Int} (h:n.toNat<l.length):nth d l n=l[n.toNat]:=by simp [nth,h]
section
variable {P:Program} {H:List ABlk}
theorem ql_idxD {α:Type} {ρ:Operand→AV} {t el:TypeId} {x i:Operand} {k:IntKind} {n:Int} {l:List α} {f:α→AV} (d:α) (hx:ρ x=.lst (l.map f)) (hi:ρ i=.base (.int k n)) (ht:P.underlying t=some (.slice el))
 (h0:0≤n) (he:n<l.length) (hsz:szTy P el=some (f (nth d l n)).cells.length):QL P H ρ (.indexAddr t x i) (.iptr (f (nth d l n)) 0):=by
 have he':n.toNat<l.length:=by omega
 rw [nth_eqI he'] at hsz ⊢
 exact ql_idx hx hi ht h0 he' hsz
end
end Go.Ab
namespace Go.Ab
attribute [go_sem] Nat.zero_add Nat.add_zero
end Go.Ab
namespace Go.Ab
theorem beqI (a b:Int):(a==b)=decide (a=b):=by by_cases h:a=b<;>simp [h]
theorem beqB (a b:Bool):(a==b)=decide (a=b):=by cases a<;>cases b<;>rfl
attribute [go_sem] beqI beqB
end Go.Ab
namespace Go.Ab
theorem Ret.bool {P:Program} {s:ASt} {rs:List ResultVar} {b b':Bool} (h:resVals P s rs=some [AV.bool b']) (he:b'=true↔b=true):Ret P rs (.bool b) s:=
 Ret.data h (by rw [Bool.eq_iff_iff.2 he];rfl) (.base _)
end Go.Ab
namespace Go.Ab
theorem AWp.join {P:Program} {n:Fr} {c d:Code} {Q:Exit→ASt→Prop} {s:ASt} (S2:ASt) (h1:AWp P n c (thenQ (fun s'=>Wk n s' S2) Q) s) (h2:AWp P n d Q S2):AWp P n c (thenQ (AWp P n d Q) Q) s:=
 h1.mono fun e s' hq=>by
  cases e with
  | normal=>exact h2.weaken hq
  | _=>exact hq
theorem Wk.env2 {n:Fr} {E E2:Env} {H H2:List ABlk} (hH:H=H2) (h:WkE E E2):Wk n ⟨E,H⟩ ⟨E2,H2⟩:=by subst hH;exact .env' h
end Go.Ab
namespace Go.Ab
@[simp] theorem Pu_int1 (x:Int):Pu (.lst [.int x]):=Pu_mapInt [x]
@[simp] theorem Pu_int2 (x y:Int):Pu (.lst [.int x,.int y]):=Pu_mapInt [x,y]
end Go.Ab
namespace Go.Ab
theorem LendL.pu {H:List ABlk}:∀ {cs:List AV},(∀c∈cs,Pu c)→LendL H cs cs
 | [],_=>trivial
 | c::l,h=>⟨.pu (h c (by simp)),LendL.pu fun x hx=>h x (by simp [hx])⟩
end Go.Ab
namespace Go.Ab
open Go Go.RowKit
section
variable {P:Program} {n:Fr} {w w':World} {w0:Base} {O:Nat→Prop} {ι ι':Nat→Option Nat} {H H':List ABlk} {u:Value}
def PLo (P:Program) (H:List ABlk) (ρ:Operand→AV) (op:Op) (v:AV) (H':List ABlk):Prop:=∀ρ':Operand→AV,(∀x∈op.operands,ρ' x=ρ x)→PL P H ρ' op v H'
theorem SRF.putG {f:Nat→AV} {a:Act} {d:Option Tmp} {v:AV} (h:SRF n w0 O f H ι a w) (hs:Sit w0 O ι' H' w') (g:Goes w (OO O ι H) ι H w' (OO O ι' H') ι' H')
 (hv:VR w' (OO O ι' H') ι' H' v u) (hd:dstOk n d=true):SRF n w0 O (updF f d v) H' ι' (a.put d u) w':=by
 cases d with
 | none=>exact ⟨hs,h.defers,h.size,h.hand,fun t=>by
    show VR _ _ _ _ (if none=some t then v else f t) _
    rw [if_neg (by simp)]
    exact (h.vals t).mono g⟩
 | some d =>
   have hd':d<a.tmps.size:=by rw [h.size];simpa [dstOk] using hd
   refine ⟨hs,h.defers,by simp [Act.put,h.size],h.hand,fun t=>?_⟩
   rw [put_get t hd']
   unfold updF
   by_cases e:d=t
   ·subst e;simpa using hv
   ·simpa [e] using (h.vals t).mono g
structure StepG (P:Program) (n:Fr) (H:List ABlk) (f:Nat→AV) (o:LOp) (v:AV) (H':List ABlk):Prop where
 hg:o.g=none
 hd:dstOk n o.dst=true
 h:PLo P H (evF f) o.op v H'
theorem StepG.run {ops:Array Oper} {D:List (Option Tmp)} {i:Nat} {o:Oper} (ho:ops[i]?=some o) {f f':Nat→AV} {v:AV}
 (h:StepG P n H f (lite D o) v H') (hf:∀t∈readsOf D o,f' t=f t) {a:Act} (hs:SRF n w0 O f' H ι a w) {K:Act→World→Prop} {Q:Exit→Act→World→Prop}
 (hK:∀ι' a' w',SRF n w0 O (updF f' o.dst v) H' ι' a' w'→K a' w'):wpOp P ops Q i K a w:=by
 have hop:∀x∈o.op.operands,evF f' x=evF f x:=by
  intro x hx
  cases x with
  | tmp t=>exact hf t (by unfold readsOf;refine List.mem_append.2 (.inl (List.mem_cons_of_mem _ (List.mem_filterMap.2 ⟨.tmp t,by simpa using hx,rfl⟩))))
  | _=>rfl
 have hg:=lite_g_none h.hg
 simp only [wpOp,ho,Region.wanted,hg,if_true]
 exact .inl (h.h (evF f') hop o rfl w0 O ι a w hs.sit (fun x=>hs.ops x) _ _ fun u w' ι' h1 h2 h3=>hK ι' _ w' (hs.putG h1 h2 h3 h.hd))
structure GrowFacts (st:Nat→Option Nat) (ops:Array Oper) (k m:Nat):Prop where
 one:∀i j c,i<k→j<k→st i=some c→st j=some c→i=j
 lt:∀i c,i<k→st i=some c→c<m
 chain:∀i o c c',i<k→ops[i]?=some o→st i=some c→c'<c→∃j,j<k∧st j=some c'∧hasEdge o j=true
 all:∀c,c<m→∃j,j<k∧st j=some c
def growOk (st:List (Option Nat)) (ops:Array Oper) (k m:Nat):Bool:=
 let is:=List.range k
 (is.all fun i=>is.all fun j=>match st.getD i none,st.getD j none with|some c,some c'=>i==j||c != c'|_,_=>true) &&
 (is.all fun i=>match st.getD i none with|some c=>decide (c<m)&&((List.range c).all fun c'=>is.any fun j=>st.getD j none==some c'&&(match ops[i]? with|some o=>hasEdge o j|none=>false))|none=>true) &&
 ((List.range m).all fun c=>is.any fun j=>st.getD j none==some c)
theorem growOk_facts {st:List (Option Nat)} {ops:Array Oper} {k m:Nat} (h:growOk st ops k m=true):GrowFacts (fun i=>st.getD i none) ops k m:=by
 unfold growOk at h
 simp only [Bool.and_eq_true] at h
 obtain ⟨⟨h1,h2⟩,h3⟩:=h
 have m1:∀ {i:Nat},i<k→i∈List.range k:=fun h=>by simpa using h
 refine ⟨fun i j c hi hj e1 e2=>?_,fun i c hi e=>?_,fun i o c c' hi ho e hc=>?_,fun c hc=>?_⟩
 ·have:=List.all_eq_true.1 (List.all_eq_true.1 h1 i (m1 hi)) j (m1 hj)
  simp only [e1,e2] at this
  simpa using this
 ·have:=List.all_eq_true.1 h2 i (m1 hi)
  simp only [e,Bool.and_eq_true] at this
  simpa using this.1
 ·have:=List.all_eq_true.1 h2 i (m1 hi)
  simp only [e,Bool.and_eq_true] at this
  obtain ⟨j,hj,hx⟩:=List.any_eq_true.1 (List.all_eq_true.1 this.2 c' (by simpa using hc))
  simp only [Bool.and_eq_true,beq_iff_eq,ho] at hx
  exact ⟨j,by simpa using hj,hx.1,hx.2⟩
 ·obtain ⟨j,hj,hx⟩:=List.any_eq_true.1 (List.all_eq_true.1 h3 c (by simpa using hc))
  exact ⟨j,by simpa using hj,by simpa using hx⟩
theorem wpAny_grow {ops:Array Oper} {D:List (Option Tmp)} {k:Nat} (hD:ops.toList.map (·.dst)=D) (hgk:ops.toList.all (gOk D)=true) (hf:DrawFacts D ops k) {st:Nat→Option Nat} {m0:Nat} {HS:Nat→List ABlk} (hgr:GrowFacts st ops k m0) (hk:k≤ops.size) {q:Bool} {s1 s':ASt} {O:Nat→Prop}
 {g:Nat→Nat→AV} {vs:Nat→AV} (hgk':g k=lk s1.env) (hst:∀i o,ops[i]?=some o→i<k→((st i=none∧∀c,c≤m0→StepF P n (HS c) (g i) (lite D o) (vs i))∨∃c,st i=some c∧StepG P n (HS c) (g i) (lite D o) (vs i) (HS (c+1)))∧g (i+1)=updF (g i) o.dst (vs i)) (hend0:HS m0=s1.H)
 (ht:Tr P n q ((ops.toList.drop k).map (lite D)) s1 s') :
 ∀(fuel:Nat) (L:Array Bool) (U:List Nat) (ι:Nat→Option Nat) (c0:Nat) (a:Act) (w:World),c0≤m0→(∀j c,j<k→st j=some c→(L.getD j false=true↔c<c0))→L.size=ops.size→(∀j,j<k→(L.getD j false=false↔j∈U))→U.length+(ops.size-k)≤fuel→(∀j,k≤j→L.getD j false=false)→Closed ops L→SRF n w0 O (mix D k (g 0) (g k) L) (HS c0) ι a w →
  wpAny P .any ops (normQ w0 O n s') fuel L a w:=by
 have hDi:∀(i:Nat) (o:Oper),ops[i]?=some o→D[i]?=some o.dst:=fun i o ho=>by subst hD;rw [List.getElem?_map,Array.getElem?_toList,ho];rfl
 -- what the slots hold from step to step
 have hkeep:∀t i j,i≤j→j≤k→(∀m,i≤m→m<j→D[m]?≠some (some t))→g j t=g i t:=by
  intro t i j hij
  obtain ⟨d,rfl⟩:=Nat.exists_eq_add_of_le hij
  clear hij
  induction d with
  | zero=>intro _ _;rfl
  | succ d ih =>
    intro hjk hno
    generalize hjd:i+d=j at ih
    have hij:i≤j:=by omega
    rw [show i+(d+1)=j+1 by omega] at hjk hno ⊢
    have ho:ops[j]?=some ops[j]:=Array.getElem?_eq_getElem (by omega)
    rw [(hst j _ ho (by omega)).2]
    unfold updF
    rw [if_neg (fun e=>hno j hij (by omega) (by rw [hDi j _ ho,e]))]
    exact ih (by omega) fun m hm hmj=>hno m hm (by omega)
 have hwr:∀j o d,ops[j]?=some o→j<k→o.dst=some d→g k d=vs j∧∀i,j<i→i≤k→g i d=vs j:=by
  intro j o d ho hj hd
  have h1:g (j+1) d=vs j:=by rw [(hst j o ho hj).2];simp [updF,hd]
  have h2:∀i,j<i→i≤k→g i d=vs j:=fun i hi hik=>by
   rw [hkeep d (j+1) i hi hik fun m hm hmi e=>hf.one j m d hj (by omega) (by omega) (by rw [hDi j o ho,hd]) e]
   exact h1
  exact ⟨h2 k hj (Nat.le_refl _),h2⟩
 intro fuel
 have hend:∀(L:Array Bool) (ι:Nat→Option Nat) (a:Act) (w:World),L.size=ops.size→(∀j,k≤j→L.getD j false=false)→SRF n w0 O (mix D k (g 0) (g k) L) s1.H ι a w→(∀j,j<k→L.getD j false=true)→SR n w0 O s1 ι a w:=by
  intro L ι a w hsz hL hs hall
  refine ⟨hs.sit,hs.defers,hs.size,hs.hand,fun t=>?_⟩
  have h1:=hs.vals t
  have h2:mix D k (g 0) (g k) L t=lk s1.env t:=by
   rw [← hgk']
   by_cases hex:∃j,j<k∧D[j]?=some (some t)
   ·obtain ⟨j,hj,hd⟩:=hex
    exact mix_in hj (hall j hj) hd
   ·rw [mix_out (fun j hj _ hd=>hex ⟨j,hj,hd⟩)]
    exact (hkeep t 0 k (Nat.zero_le _) (Nat.le_refl _) fun m _ hm hd=>hex ⟨m,hm,hd⟩).symm
  rwa [h2] at h1
 have htail:∀(L:Array Bool) (ι:Nat→Option Nat) (c0:Nat) (a:Act) (w:World) (fuel:Nat),c0≤m0→(∀j c,j<k→st j=some c→(L.getD j false=true↔c<c0))→L.size=ops.size→(∀j,k≤j→L.getD j false=false)→SRF n w0 O (mix D k (g 0) (g k) L) (HS c0) ι a w→(∀j,j<k→L.getD j false=true)→ops.size≤k+fuel →
  wpAny P .any ops (normQ w0 O n s') fuel L a w:=by
  intro L ι c0 a w fuel hc0 hst0 hsz hL hs hall hfu
  have hcm:c0=m0:=by
   rcases Nat.lt_or_ge c0 m0 with h|h
   ·obtain ⟨j,hj,he⟩:=hgr.all c0 h
    have:=(hst0 j c0 hj he).1 (hall j hj)
    omega
   ·omega
  rw [hcm,hend0] at hs
  refine wpAny_tail hD hgk hf fuel k s1 L ι a w (Nat.le_refl _) hk hfu hsz (fun j hj=>?_) ht (hend L ι a w hsz hL hs hall)
  rcases Nat.lt_or_ge j k with h|h
  ·rw [hall j h];simp [h]
  ·rw [hL j h];simp;omega
 induction fuel with
 | zero =>
   intro L U ι c0 a w hc0 hst0 hsz hU hc hL hcl hs
   have hnil:U=[]:=List.eq_nil_of_length_eq_zero (by omega)
   subst hnil
   exact htail L ι c0 a w 0 hc0 hst0 hsz hL hs (fun j hj=>by
    cases h:L.getD j false with
    | true=>rfl
    | false=>exact absurd ((hU j hj).1 h) (by simp)) (by omega)
 | succ fuel ih =>
   intro L U ι c0 a w hc0 hst0 hsz hU hc hL hcl hs
   by_cases hall:∀j,j<k→L.getD j false=true
   ·exact htail L ι c0 a w _ hc0 hst0 hsz hL hs hall (by omega)
   ·have hget:∀i,i<ops.size→L.getD i true=L.getD i false:=fun i hi=>by simp [Array.getD_eq_getD_getElem?,Array.getElem?_eq_getElem (show i<L.size by omega)]
    refine ⟨fun hnil=>?_,fun i hi=>?_⟩
    ·exfalso
     -- the least operation that has not run is ready
     have hex:∃j,j<k∧L.getD j false=false:=by
      rcases Classical.em (∃j,j<k∧L.getD j false=false) with h|h
      ·exact h
      ·exact absurd (fun j hj=>by
        cases h':L.getD j false with
        | true=>rfl
        | false=>exact absurd ⟨j,hj,h'⟩ h) hall
     obtain ⟨j,hj,hjf⟩:=hex
     have hmin:∀m,(∃j,j<m∧j<k∧L.getD j false=false)→∃j,j<k∧L.getD j false=false∧∀i,i<j→L.getD i false=true:=by
      intro m
      induction m with
      | zero=>rintro ⟨j,h,_⟩;omega
      | succ m ihm =>
        rintro ⟨j,h1,h2,h3⟩
        by_cases h:∃j,j<m∧j<k∧L.getD j false=false
        ·exact ihm h
        ·refine ⟨j,h2,h3,fun i hi=>?_⟩
         cases h':L.getD i false with
         | true=>rfl
         | false=>exact absurd ⟨i,by omega,by omega,h'⟩ h
     obtain ⟨j,hj,hjf,hlo⟩:=hmin (j+1) ⟨j,by omega,hj,hjf⟩
     have:j∈Region.ready .any ops L:=mem_ready.2 ⟨ops[j],Array.getElem?_eq_getElem (by omega),by rw [hget j (by omega)];exact hjf,fun e he hb=>hlo _ (hf.down j _ (Array.getElem?_eq_getElem (by omega)) e he hb)⟩
     rw [hnil] at this
     cases this
    ·obtain ⟨o,ho,h1,h2⟩:=mem_ready.1 hi
     have his:i<ops.size:=(Array.getElem?_eq_some_iff.1 ho).1
     rw [hget i his] at h1
     have hik:i<k:=by
      rcases Nat.lt_or_ge i k with h|h
      ·exact h
      ·exact absurd (fun j hj=>reach_listed hcl 8 (hf.tail i o ho h j (by omega)) h2) hall
     obtain ⟨h3,h4⟩:=hst i o ho hik
     have hagree:∀t∈readsOf D o,mix D k (g 0) (g k) L t=g i t:=fun t htr=>by
      by_cases hex:∃j,j<k∧D[j]?=some (some t)
      ·obtain ⟨j,hj,hd⟩:=hex
       obtain ⟨h5,h6⟩:=hf.reads i o ho hik t htr j hj hd
       have hoj:ops[j]?=some ops[j]:=Array.getElem?_eq_getElem (by omega)
       have hdj:ops[j].dst=some t:=by have:=hDi j _ hoj;rw [hd] at this;injection this with this;exact this.symm
       rw [mix_in hj (hasEdge_listed h6 h2) hd,(hwr j _ t hoj hj hdj).1,(hwr j _ t hoj hj hdj).2 i h5 (by omega)]
      ·rw [mix_out (fun j hj _ hd=>hex ⟨j,hj,hd⟩)]
       exact (hkeep t 0 i (Nat.zero_le _) (by omega) fun m _ hm hd=>hex ⟨m,by omega,hd⟩).symm
     have hiU:i∈U:=(hU i hik).1 h1
     have hgo:∀(ι':Nat→Option Nat) (c1:Nat) (a':Act) (w':World),c1≤m0→(∀j c,j<k→st j=some c→((L.setIfInBounds i true).getD j false=true↔c<c1))→SRF n w0 O (updF (mix D k (g 0) (g k) L) o.dst (vs i)) (HS c1) ι' a' w' →
      wpAny P .any ops (normQ w0 O n s') fuel (L.setIfInBounds i true) a' w':=by
      intro ι' c1 a' w' hc1 hst1 hs'
      refine ih (L.setIfInBounds i true) (U.filter (· != i)) ι' c1 a' w' hc1 hst1 (by simp [hsz]) (fun j hj=>?_) ?_ (fun j hj=>?_) (hcl.set ho (by omega) h2) ?_
      ·simp only [Array.getD_eq_getD_getElem?,Array.getElem?_setIfInBounds,List.mem_filter]
       by_cases e:i=j
       ·subst e;simp [show i<L.size by omega]
       ·have:=hU j hj
        simp only [Array.getD_eq_getD_getElem?] at this
        simp only [e,if_false,this,bne_iff_ne,ne_eq]
        exact ⟨fun h=>⟨h,fun h'=>e h'.symm⟩,fun h=>h.1⟩
      ·have:(U.filter (· != i)).length<U.length:=by
        have h7:=List.length_filter_lt_length_iff_exists (l:=U) (p:=(· != i))
        exact h7.2 ⟨i,hiU,by simp⟩
       omega
      ·simp only [Array.getD_eq_getD_getElem?,Array.getElem?_setIfInBounds]
       have:=hL j hj
       simp only [Array.getD_eq_getD_getElem?] at this
       rw [if_neg (by omega)];exact this
      ·have hmx:mix D k (g 0) (g k) (L.setIfInBounds i true)=updF (mix D k (g 0) (g k) L) o.dst (vs i):=by
        funext t
        unfold updF
        by_cases e:o.dst=some t
        ·rw [if_pos e,mix_in hik (by simp [Array.getD_eq_getD_getElem?,show i<L.size by omega]) (by rw [hDi i o ho,e]),(hwr i o t ho hik e).1]
        ·rw [if_neg e]
         have hsame:∀j,D[j]?=some (some t)→(L.setIfInBounds i true).getD j false=L.getD j false:=by
          intro j hd
          have hne:i≠j:=fun e'=>by subst e';rw [hDi i o ho] at hd;injection hd with hd;exact e hd
          simp only [Array.getD_eq_getD_getElem?,Array.getElem?_setIfInBounds,hne,if_false]
         by_cases hex:∃j,j<k∧L.getD j false=true∧D[j]?=some (some t)
         ·obtain ⟨j,hj,hl,hd⟩:=hex
          rw [mix_in hj hl hd,mix_in hj (by rw [hsame j hd];exact hl) hd]
         ·rw [mix_out (fun j hj hl hd=>hex ⟨j,hj,hl,hd⟩),mix_out (fun j hj hl hd=>hex ⟨j,hj,by rw [← hsame j hd];exact hl,hd⟩)]
       rw [hmx];exact hs'
     have hset:∀j,(L.setIfInBounds i true).getD j false=if i=j then true else L.getD j false:=fun j=>by
      simp only [Array.getD_eq_getD_getElem?,Array.getElem?_setIfInBounds]
      by_cases e:i=j
      ·subst e;simp [show i<L.size by omega]
      ·simp [e]
     have hgo':=List.all_eq_true.1 hgk o (by rw [← Array.getElem?_toList] at ho;exact List.mem_of_getElem? ho)
     rcases h3 with ⟨hn,h3⟩|⟨c,hc',h3⟩
     ·refine (h3 c0 hc0).run hD ho hgo' hagree hs fun a' w' hs'=>hgo ι c0 a' w' hc0 (fun j c hj he=>?_) hs'
      rw [hset,if_neg (fun e=>by subst e;rw [hn] at he;cases he)]
      exact hst0 j c hj he
     ·have hcc:c=c0:=by
       have h5:¬c<c0:=fun h=>by have:=(hst0 i c hik hc').2 h;rw [h1] at this;cases this
       rcases Nat.lt_or_ge c0 c with h|h
       ·obtain ⟨j,hj,he,hed⟩:=hgr.chain i o c c0 hik ho hc' h
        have:=(hst0 j c0 hj he).1 (hasEdge_listed hed h2)
        omega
       ·omega
      subst hcc
      refine h3.run ho hagree hs fun ι' a' w' hs'=>hgo ι' (c+1) a' w' (hgr.lt i c hik hc') (fun j d hj he=>?_) hs'
      rw [hset]
      by_cases e:i=j
      ·subst e;rw [hc'] at he;injection he with he;subst he;simp
      ·rw [if_neg e,hst0 j d hj he]
       have:d≠c:=fun h=>e (hgr.one i j c hik hj hc' (h ▸ he))
       omega
inductive TrG (P:Program) (n:Fr) (HS:Nat→List ABlk) (m:Nat):List LOp→List (Option Nat)→Env→Env→Prop
 | nil (E:Env):TrG P n HS m [] [] E E
 | q (o:LOp) (l:List LOp) (sl:List (Option Nat)) (E:Env) (v:AV) (E':Env) (h:∀c,c≤m→StepF P n (HS c) (lk E) o v) (hr:TrG P n HS m l sl (putE E o.dst v) E'):TrG P n HS m (o::l) (none::sl) E E'
 | p (o:LOp) (l:List LOp) (sl:List (Option Nat)) (E:Env) (v:AV) (E':Env) (c:Nat) (h:StepG P n (HS c) (lk E) o v (HS (c+1))) (hr:TrG P n HS m l sl (putE E o.dst v) E'):TrG P n HS m (o::l) (some c::sl) E E'
theorem TrG.all {HS:Nat→List ABlk} {m:Nat}:∀ {l:List LOp} {sl:List (Option Nat)} {E E':Env},TrG P n HS m l sl E E'→∃(g:Nat→Nat→AV) (vs:Nat→AV),g 0=lk E∧g l.length=lk E' ∧
 ∀i o,l[i]?=some o→((sl.getD i none=none∧∀c,c≤m→StepF P n (HS c) (g i) o (vs i))∨∃c,sl.getD i none=some c∧StepG P n (HS c) (g i) o (vs i) (HS (c+1)))∧g (i+1)=updF (g i) o.dst (vs i)
 | _,_,E,_,.nil _=>⟨fun _=>lk E,fun _=>.bad,rfl,rfl,fun i o h=>by simp at h⟩
 | _,_,E,E',.q o l sl _ v _ h hr=>by
   obtain ⟨g,vs,h4,h5,h6⟩:=hr.all
   refine ⟨fun i=>match i with|0=>lk E|i+1=>g i,fun i=>match i with|0=>v|i+1=>vs i,rfl,h5,fun i o' ho'=>?_⟩
   cases i with
   | zero =>
     simp at ho';subst ho'
     exact ⟨.inl ⟨rfl,h⟩,by show g 0=_;rw [h4,lk_putE]⟩
   | succ i=>exact h6 i o' (by simpa using ho')
 | _,_,E,E',.p o l sl _ v _ c h hr=>by
   obtain ⟨g,vs,h4,h5,h6⟩:=hr.all
   refine ⟨fun i=>match i with|0=>lk E|i+1=>g i,fun i=>match i with|0=>v|i+1=>vs i,rfl,h5,fun i o' ho'=>?_⟩
   cases i with
   | zero =>
     simp at ho';subst ho'
     exact ⟨.inr ⟨c,rfl,h⟩,by show g 0=_;rw [h4,lk_putE]⟩
   | succ i=>exact h6 i o' (by simpa using ho')
theorem AWp.drawG {id:Nat} {ops:Array Oper} {D:List (Option Tmp)} {k:Nat} {l1 l2:List LOp} {Q:Exit→ASt→Prop} {s:ASt} (sl:List (Option Nat)) (HS:Nat→List ABlk) (m:Nat) (hm:P.follows .mixedOrders=true) (h:RegD ops k D l1 l2)
 (hg:growOk sl ops k m=true) (h0:HS 0=s.H) {E':Env} (h1:TrG P n HS m l1 sl s.env E') (hr:ARun P n false l2 (Q .normal) ⟨E',HS m⟩):AWp P n (.region id ops true) Q s:=by
 intro w0 O ι a w hs
 obtain ⟨hD,hgk,hf,hk,hl1,hl2⟩:=h
 obtain ⟨s',h2,h3⟩:=hr
 have key:(Code.region id ops true).wp P (normQ w0 O n s') a w:=by
  refine wp_region_any hm ?_
  obtain ⟨g,vs,hg0,hgk',hst⟩:=h1.all
  have hlen:l1.length=k:=by rw [← hl1];simp;omega
  rw [hlen] at hgk'
  have hb:Below w.heap.size w { w with drawn:=w.drawn+1 }:=(Below.refl _ _).drew
  refine wpAny_grow (s1:=⟨E',HS m⟩) (st:=fun i=>sl.getD i none) hD hgk (drawOk_facts hf) (growOk_facts hg) hk (g:=g) (vs:=vs) hgk' (fun i o ho hi=>?_) rfl (by rw [hl2];exact h2) ops.size _ (List.range k) ι 0 a _ (Nat.zero_le _) (fun j c hj hc=>?_) (by simp) (fun j hj=>?_) (by simp;omega) (fun j hj=>?_) (fun j o' _ hj=>by simp only [Array.getD_eq_getD_getElem?,Array.getElem?_replicate] at hj;split at hj<;>cases hj) ?_
  ·exact hst i (lite D o) (by rw [← hl1,List.getElem?_map,List.getElem?_take,if_pos hi,Array.getElem?_toList,ho];rfl)
  ·simp only [Array.getD_eq_getD_getElem?,Array.getElem?_replicate];split<;>simp
  ·simp [Array.getD_eq_getD_getElem?,hj,Array.getElem?_replicate];split<;>rfl
  ·simp only [Array.getD_eq_getD_getElem?,Array.getElem?_replicate];split<;>rfl
  ·rw [h0]
   refine ⟨hs.sit.quiet hb,hs.defers,hs.size,hs.hand,fun t=>?_⟩
   have:mix D k (g 0) (g k) (Array.replicate ops.size false) t=lk s.env t:=by
    rw [mix_out,hg0]
    intro j hj hl
    simp only [Array.getD_eq_getD_getElem?,Array.getElem?_replicate] at hl
    split at hl<;>cases hl
   rw [this]
   exact (hs.vals t).mono (Goes.quiet hs.sit hb)
 refine wp_mono key ?_
 rintro e a w ⟨rfl,ι',h⟩
 exact ⟨s',ι',h3,h⟩
theorem TrG.q1 {HS:Nat→List ABlk} {m:Nat} {o:LOp} {l:List LOp} {sl:List (Option Nat)} {E E':Env} {v:AV} (hg:o.g=none) (hd:dstOk n o.dst=true) (h:∀c,c≤m→QL P (HS c) (ev E) o.op v) (hr:TrG P n HS m l sl (putE E o.dst v) E'):TrG P n HS m (o::l) (none::sl) E E':=
 .q o l sl E v E' (fun c hc=>.q1 v hg hd (by rw [show evF (lk E)=ev E from funext fun x=>(ev_eq E x).symm];exact (h c hc).t)) hr
theorem TrG.p1 {HS:Nat→List ABlk} {m:Nat} {o:LOp} {l:List LOp} {sl:List (Option Nat)} {E E':Env} {v:AV} {c:Nat} (hg:o.g=none) (hd:dstOk n o.dst=true) (h:PLo P (HS c) (ev E) o.op v (HS (c+1))) (hr:TrG P n HS m l sl (putE E o.dst v) E'):TrG P n HS m (o::l) (some c::sl) E E':=
 .p o l sl E v E' c ⟨hg,hd,by rw [show evF (lk E)=ev E from funext fun x=>(ev_eq E x).symm];exact h⟩ hr
end
end Go.Ab
namespace Go.Ab
open Go Go.RowKit
theorem TrG.qf1 {P:Program} {n:Fr} {HS:Nat→List ABlk} {o:LOp} {l:List LOp} {sl:List (Option Nat)} {E E':Env} {v:AV} (hg:o.g=none) (hd:dstOk n o.dst=true) (h0:qfun P (HS 0) (ev E) o.op=some v) (h1:qfun P (HS 1) (ev E) o.op=some v)
 (hr:TrG P n HS 1 l sl (putE E o.dst v) E'):TrG P n HS 1 (o::l) (none::sl) E E':=
 .q1 hg hd (fun c hc=>ql_fun (by rcases (by omega:c=0∨c=1) with h|h<;>subst h<;>assumption)) hr
theorem TrG.qf2 {P:Program} {n:Fr} {HS:Nat→List ABlk} {o:LOp} {l:List LOp} {sl:List (Option Nat)} {E E':Env} {v:AV} (hg:o.g=none) (hd:dstOk n o.dst=true) (h0:qfun P (HS 0) (ev E) o.op=some v) (h1:qfun P (HS 1) (ev E) o.op=some v) (h2:qfun P (HS 2) (ev E) o.op=some v)
 (hr:TrG P n HS 2 l sl (putE E o.dst v) E'):TrG P n HS 2 (o::l) (none::sl) E E':=
 .q1 hg hd (fun c hc=>ql_fun (by rcases (by omega:c=0∨c=1∨c=2) with h|h|h<;>subst h<;>assumption)) hr
end Go.Ab
namespace Go.Ab
open Go Go.RowKit
def GRun (P:Program) (n:Fr) (HS:Nat→List ABlk) (m:Nat) (l:List LOp) (sl:List (Option Nat)) (K:Env→Prop) (E:Env):Prop:=∃E',TrG P n HS m l sl E E'∧K E'
section
variable {P:Program} {n:Fr} {HS:Nat→List ABlk} {m:Nat} {o:LOp} {l:List LOp} {sl:List (Option Nat)} {E:Env} {v:AV} {K:Env→Prop}
theorem GRun.nil (h:K E):GRun P n HS m [] [] K E:=⟨E,.nil E,h⟩
theorem GRun.q1 (hg:o.g=none) (hd:dstOk n o.dst=true) (h:∀c,c≤m→QL P (HS c) (ev E) o.op v) (hr:GRun P n HS m l sl K (putE E o.dst v)):GRun P n HS m (o::l) (none::sl) K E:=
 let ⟨E',h1,h2⟩:=hr;⟨E',.q1 hg hd h h1,h2⟩
theorem GRun.p1 {c:Nat} (hg:o.g=none) (hd:dstOk n o.dst=true) (h:PLo P (HS c) (ev E) o.op v (HS (c+1))) (hr:GRun P n HS m l sl K (putE E o.dst v)):GRun P n HS m (o::l) (some c::sl) K E:=
 let ⟨E',h1,h2⟩:=hr;⟨E',.p1 hg hd h h1,h2⟩
theorem GRun.qf1 (hg:o.g=none) (hd:dstOk n o.dst=true) (h0:qfun P (HS 0) (ev E) o.op=some v) (h1:qfun P (HS 1) (ev E) o.op=some v) (hr:GRun P n HS 1 l sl K (putE E o.dst v)):GRun P n HS 1 (o::l) (none::sl) K E:=
 let ⟨E',h3,h4⟩:=hr;⟨E',.qf1 hg hd h0 h1 h3,h4⟩
theorem GRun.qf2 (hg:o.g=none) (hd:dstOk n o.dst=true) (h0:qfun P (HS 0) (ev E) o.op=some v) (h1:qfun P (HS 1) (ev E) o.op=some v) (h2:qfun P (HS 2) (ev E) o.op=some v) (hr:GRun P n HS 2 l sl K (putE E o.dst v)):GRun P n HS 2 (o::l) (none::sl) K E:=
 let ⟨E',h3,h4⟩:=hr;⟨E',.qf2 hg hd h0 h1 h2 h3,h4⟩
theorem AWp.drawK {id:Nat} {ops:Array Oper} {D:List (Option Tmp)} {k:Nat} {l1 l2:List LOp} {Q:Exit→ASt→Prop} {s:ASt} (sl:List (Option Nat)) (HS:Nat→List ABlk) (m:Nat) (hm:P.follows .mixedOrders=true) (h:RegD ops k D l1 l2)
 (hg:growOk sl ops k m=true) (h0:HS 0=s.H) (h1:GRun P n HS m l1 sl (fun E'=>ARun P n false l2 (Q .normal) ⟨E',HS m⟩) s.env):AWp P n (.region id ops true) Q s:=
 let ⟨E',h3,h4⟩:=h1;.drawG sl HS m hm h hg h0 h3 h4
end
end Go.Ab
namespace Go.Ab
open Go Go.RowKit
def cut (ks:List Nat):Env→Env
 | []=>[]
 | (t,v)::r=>if t∈ks then cut ks r else (t,v)::cut (t::ks) r
def keys (E:Env):List Nat:=E.map (·.1)
theorem cut_nil (ks:List Nat):cut ks []=[]:=rfl
theorem cut_cons (ks:List Nat) (t:Nat) (v:AV) (r:Env):cut ks ((t,v)::r)=if t∈ks then cut ks r else (t,v)::cut (t::ks) r:=rfl
theorem keys_nil:keys []=[]:=rfl
theorem keys_cons (t:Nat) (v:AV) (r:Env):keys ((t,v)::r)=t::keys r:=rfl
attribute [go_sem] cut_nil cut_cons keys_nil keys_cons
section
variable {P:Program} {n:Fr} {Q:Exit→ASt→Prop} {s:ASt}
theorem AWp.loopH {X:Type} (J:X→Prop) (pre:X→Env) (HH:X→List ABlk) (μ:X→Nat) {c:Code} (x0:X) (h0:J x0) (hw:Wk n s ⟨pre x0++cut (keys (pre x0)) s.env,HH x0⟩)
 (hr:∀x,J x→AWp P n c (thenQ (fun s'=>∃y,J y∧μ y<μ x∧Wk n s' ⟨pre y++cut (keys (pre y)) s.env,HH y⟩) Q) ⟨pre x++cut (keys (pre x)) s.env,HH x⟩):AWp P n (.loop c) Q s:=
 AWp.loop J (fun x=>⟨pre x++cut (keys (pre x)) s.env,HH x⟩) μ x0 h0 hw hr
theorem AWp.loopP {X:Type} (J:X→Prop) (pre:X→Env) (μ:X→Nat) {c:Code} (x0:X) (h0:J x0) (hw:Wk n s ⟨pre x0++cut (keys (pre x0)) s.env,s.H⟩)
 (hr:∀x,J x→AWp P n c (thenQ (fun s'=>∃y,J y∧μ y<μ x∧Wk n s' ⟨pre y++cut (keys (pre y)) s.env,s.H⟩) Q) ⟨pre x++cut (keys (pre x)) s.env,s.H⟩):AWp P n (.loop c) Q s:=
 AWp.loop J (fun x=>⟨pre x++cut (keys (pre x)) s.env,s.H⟩) μ x0 h0 hw hr
theorem AWp.only {c:Code} (ts:List Nat) (h:AWp P n c Q ⟨ts.map fun t=>(t,lk s.env t),s.H⟩):AWp P n c Q s:=
 AWp.weaken (.env fun p hp=>by
  obtain ⟨t,_,rfl⟩:=List.mem_map.1 hp
  exact Le.refl _) h
end
section
variable {P:Program} {H:List ABlk} {ρ:Operand→AV}
theorem ql_idxI {α:Type} [Inhabited α] {t el:TypeId} {x i:Operand} {k:IntKind} {n:Int} {l:List α} {f:α→AV} (hx:ρ x=.lst (l.map f)) (hi:ρ i=.base (.int k n)) (ht:P.underlying t=some (.slice el))
 (h0:0≤n) (he:n<l.length) (hsz:szTy P el=some (f (nth default l n)).cells.length):QL P H ρ (.indexAddr t x i) (.iptr (f (nth default l n)) 0):=
 ql_idxD default hx hi ht h0 he hsz
theorem ql_fun1 {op:Op} {v:AV} (h:qfun P H ρ op=some v):QL P H ρ op v:=fun o ho=>qfun_sound (by rw [ho];exact h)
theorem ql_load_own {α:Type} {t:TypeId} {x:Operand} {b tot i ty sz:Nat} {l:List α} {f:α→AV} {v:AV} (d:α) (n:Int) (hx:ρ x=.ptr b tot i 0) (hb:H[b]?=some ⟨ty,sz,l.map f⟩) (ht:l.length=tot)
 (hn:i=n.toNat) (hi:i<l.length) (hld:ldE (aggTy P t) (szTy P t) (f (nth d l n)) 0=some v):QL P H ρ (.load t x) v:=by
 refine ql_fun1 ?_
 subst hn
 have e:(l.map f)[n.toNat]?=some (f (nth d l n)):=by rw [List.getElem?_map,List.getElem?_eq_getElem hi];simp [nth_eqI hi]
 simp only [qfun,hx,hb,List.length_map,ht,if_true,e,hld]
theorem pl_store_own {α:Type} {t:TypeId} {x y:Operand} {b tot i ty sz:Nat} {l:List α} {f:α→AV} (v:α) (hx:ρ x=.ptr b tot i 0) (hy:ρ y=f v) (hb:H[b]?=some ⟨ty,sz,l.map f⟩) (ht:l.length=tot)
 (hi:i<l.length) (hsz:szTy P t=some (f v).cells.length) (hc:okCells (f v)=true) (hst:stE (f l[i]) 0 (f v).cells=some (f v)) (hmt:ty<mapTy:=by decide):PL P H ρ (.store t x y) .bad (H.set b ⟨ty,sz,(l.set i v).map f⟩):=by
 rw [List.map_set]
 exact pl_store (e:=f l[i]) hx hy hb (by simpa using ht) (by rw [List.getElem?_map,List.getElem?_eq_getElem hi];rfl) hsz hc hst hmt
end
theorem Lend.ownM {α:Type} {H:List ABlk} {b k ty sz:Nat} {l:List α} {f:α→AV} (h:H[b]?=some ⟨ty,sz,l.map f⟩) (hk:l.length=k) (hp:∀x∈l,∀c∈(f x).cells,Pu c):Lend H (.own b k 0 k) (.lst (l.map f)):=
 .own h (by simpa using hk) (by omega) (by simpa using hk) fun i e d hi he hd=>by
  simp only [Nat.zero_add] at he
  rw [he] at hd;injection hd with hd;subst hd
  refine ⟨rfl,fun j c c' hc hc'=>?_⟩
  rw [hc] at hc';injection hc' with hc';subst hc'
  rw [List.getElem?_map,Option.map_eq_some_iff] at he
  obtain ⟨x,hx,rfl⟩:=he
  exact .pu (hp x (List.mem_of_getElem? hx) c (List.mem_of_getElem? hc))
end Go.Ab
namespace Go.Ab
open Go Go.RowKit
theorem Pub.ownM {α:Type} {H:List ABlk} {b n k ty sz:Nat} {l:List α} {f:α→AV} (hk:k≤b) (h:H[b]?=some ⟨ty,sz,l.map f⟩) (hn:l.length=n) (hp:∀x∈l,∀c∈(f x).cells,Pu c):Pub H k (.own b n 0 n) (.lst (l.map f)):=
 .lst hk h (by simpa using hn) (by omega) (by simpa using hn) fun i e d hi he hd=>by
  simp only [Nat.zero_add] at he
  rw [he] at hd;injection hd with hd;subst hd
  refine ⟨rfl,fun j c c' hc hc'=>?_⟩
  rw [hc] at hc';injection hc' with hc';subst hc'
  rw [List.getElem?_map,Option.map_eq_some_iff] at he
  obtain ⟨x,hx,rfl⟩:=he
  exact .pu (hp x (List.mem_of_getElem? hx) c (List.mem_of_getElem? hc))
theorem Pu_cellI (l:List Int):∀x∈l,∀c∈(AV.int x).cells,Pu c:=fun x _ c hc=>by
 simp [AV.cells] at hc;subst hc;exact .base _
def PubL (H:List ABlk) (k:Nat):List AV→List AV→Prop
 | [],[]=>True
 | a::l,b::m=>Pub H k a b∧PubL H k l m
 | _,_=>False
theorem PubL.len {H:List ABlk} {k:Nat}:∀ {l m:List AV},PubL H k l m→l.length=m.length
 | [],[],_=>rfl
 | _::l,_::m,h=>by simp [PubL.len h.2]
theorem PubL.get {H:List ABlk} {k:Nat}:∀ {l m:List AV},PubL H k l m→∀(j:Nat) (a b:AV),l[j]?=some a→m[j]?=some b→Pub H k a b
 | _::l,_::m,h,0,a,b,h1,h2=>by cases h1;cases h2;exact h.1
 | _::l,_::m,h,j+1,a,b,h1,h2=>PubL.get h.2 j a b h1 h2
theorem Pub.tup' {H:List ABlk} {k:Nat} {cs ds:List AV} (h:PubL H k cs ds):Pub H k (.tup cs) (.tup ds):=.tup h.len h.get
theorem Pub.agg' {H:List ABlk} {k:Nat} {cs ds:List AV} (h:PubL H k cs ds):Pub H k (.agg cs) (.agg ds):=.agg h.len h.get
end Go.Ab
namespace Go.Ab
theorem defI:(default:Int)=0:=rfl
attribute [go_sem] defI
end Go.Ab
namespace Go.Ab
open Go Go.RowKit
section
variable {P:Program} {H:List ABlk} {ρ:Operand→AV}
theorem ql_min {x y:Operand} {ts:Array TypeId} {k:IntKind} {a b:Int} (hx:ρ x=.base (.int k a)) (hy:ρ y=.base (.int k b)):QL P H ρ (.call { callee:=.builtin .min,args:=#[x,y],argTypes:=ts }) (.base (.int k (min a b))):=by
 refine QL.of_run fun w0 O ι A w hs hv o ho=>?_
 have h1:=hv x (by simp [Op.operands,Call.operands])
 have h2:=hv y (by simp [Op.operands,Call.operands])
 rw [hx] at h1;rw [hy] at h2
 have h1:=h1.base_inv
 have h2:=h2.base_inv
 refine ⟨.int k (if b<a then b else a),?_,by rw [show (if b<a then b else a)=min a b by omega];exact .base _⟩
 simp only [execOp,ho,resolve,invoke,builtin,Sem.run_bind,Sem.run_pure,Result.andThen_ok,List.map_toArray,List.map_cons,List.map_nil,h1,h2,Builtin.min_,List.foldlM_cons,List.foldlM_nil,Builtin.min2]
theorem ql_max {x y:Operand} {ts:Array TypeId} {k:IntKind} {a b:Int} (hx:ρ x=.base (.int k a)) (hy:ρ y=.base (.int k b)):QL P H ρ (.call { callee:=.builtin .max,args:=#[x,y],argTypes:=ts }) (.base (.int k (max a b))):=by
 refine QL.of_run fun w0 O ι A w hs hv o ho=>?_
 have h1:=hv x (by simp [Op.operands,Call.operands])
 have h2:=hv y (by simp [Op.operands,Call.operands])
 rw [hx] at h1;rw [hy] at h2
 have h1:=h1.base_inv
 have h2:=h2.base_inv
 refine ⟨.int k (if b>a then b else a),?_,by rw [show (if b>a then b else a)=max a b by omega];exact .base _⟩
 simp only [execOp,ho,resolve,invoke,builtin,Sem.run_bind,Sem.run_pure,Result.andThen_ok,List.map_toArray,List.map_cons,List.map_nil,h1,h2,Builtin.max_,List.foldlM_cons,List.foldlM_nil,Builtin.max2]
end
end Go.Ab
