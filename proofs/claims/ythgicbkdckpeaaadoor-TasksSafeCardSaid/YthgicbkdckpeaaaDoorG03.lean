/- Regions that draw their order: operations that leave the function's own memory alone may come in any order. -/
import Derived.Test.YthgicbkdckpeaaaDoorG02
set_option linter.unusedSimpArgs false
set_option linter.unusedVariables false
namespace Go.Ab
open Go Go.RowKit
def readsOf (D:List (Option Tmp)) (o:Oper):List Tmp:=
 memSlot::(o.op.operands.toList.filterMap fun | .tmp t=>some t|_=>none) ++
 (match o.guard with
  | some (j,_)=>match D[j]? with
    | some (some t)=>[t]
    | _=>[]
  | none=>[])
def hasEdge (o:Oper) (j:Nat):Bool:=o.after.any fun e=>e.on==j&&Region.binds .any e
def reach (ops:Array Oper):Nat→Oper→Nat→Bool
 | 0,o,j=>hasEdge o j
 | f+1,o,j=>hasEdge o j||o.after.any fun e=>Region.binds .any e&&(match ops[e.on]? with|some o'=>reach ops f o' j|none=>false)
def drawOk (D:List (Option Tmp)) (ops:Array Oper) (k:Nat):Bool:=
 let os:=ops.toList.zipIdx
 let qs:=(D.take k).zipIdx
 (os.all fun (o,i)=>o.after.all fun e=>!Region.binds .any e||decide (e.on<i)) &&
 (qs.all fun (d,i)=>qs.all fun (d',j)=>i==j||d.isNone||d != d') &&
 (os.all fun (o,i) =>
   if i<k then (readsOf D o).all fun t=>qs.all fun (d,j)=>d != some t||(decide (j<i)&&hasEdge o j)
   else (List.range i).all fun j=>reach ops 8 o j)
section
variable {P:Program} {n:Fr} {w w':World} {w0:Base} {O:Nat→Prop} {ι ι':Nat→Option Nat} {H H':List ABlk} {u:Value}
structure SRF (n:Fr) (w0:Base) (O:Nat→Prop) (f:Nat→AV) (H:List ABlk) (ι:Nat→Option Nat) (a:Act) (w:World):Prop where
 sit:Sit w0 O ι H w
 defers:a.defers=[]
 size:a.tmps.size=n.n
 hand:w0.H.length=n.m
 vals:∀t,VR w (OO O ι H) ι H (f t) (a.tmps.getD t undef)
def evF (f:Nat→AV):Operand→AV
 | .tmp t=>f t
 | .const v=>cv v
 | .global g=>.base (.pointer (some ⟨g,0,none⟩))
 | .func g=>.clo g []
theorem SRF.ops {f:Nat→AV} {a:Act} (h:SRF n w0 O f H ι a w) (x:Operand):VR w (OO O ι H) ι H (evF f x) (a.eval x):=by
 cases x with
 | tmp t=>exact h.vals t
 | const v=>exact VR.cv _ _ _ _ v
 | global g=>exact .base _
 | func f=>exact .clo f [] #[] rfl (by simp)
theorem ev_eq (E:Env) (x:Operand):ev E x=evF (lk E) x:=by cases x<;>rfl
inductive StepF (P:Program) (n:Fr) (H:List ABlk) (f:Nat→AV) (o:LOp):AV→Prop
 | q1 (v:AV) (hg:o.g=none) (hd:dstOk n o.dst=true) (h:QLt P H (evF f) o.op o.ty v):StepF P n H f o v
 | gf (t:Tmp) (want b:Bool) (hg:o.g=some (t,want)) (hd:dstOk n o.dst=true) (hb:f t=.base (.bool b)) (hw:gc b want=false):StepF P n H f o .bad
 | gq (t:Tmp) (want:Bool) (L:List Bool) (v:AV) (hg:o.g=some (t,want)) (hd:dstOk n o.dst=true) (hb:gval want (f t)=some L)
    (h:allL L=true→QL P H (fun x=>stripL L (evF f x)) o.op v):StepF P n H f o (wrapL L v)
theorem Tr.quietStep {o:LOp} {l:List LOp} {s s':ASt} (h:Tr P n true (o::l) s s'):∃v,StepF P n s.H (lk s.env) o v∧Tr P n true l ⟨putE s.env o.dst v,s.H⟩ s':=by
 have he:∀E:Env,ev E=evF (lk E):=fun E=>funext (ev_eq E)
 cases h with
 | q1 o l s v s' hg hd h hr=>exact ⟨v,.q1 v hg hd (by rw [← he];exact h),hr⟩
 | p1 o l s v H' s' hq hg hd h hr=>cases hq
 | gf o l s t want b s' hg hd hb hw hr=>exact ⟨_,.gf t want b hg hd hb hw,hr⟩
 | gq o l s t want L v s' hg hd hb h hr=>exact ⟨_,.gq t want L v hg hd hb (fun hc=>by rw [← he];exact h hc),hr⟩
 | gp o l s t want L v H' s' hq hg hd hb hw h hr=>cases hq
def updF (f:Nat→AV) (d:Option Tmp) (v:AV):Nat→AV:=fun t=>if d=some t then v else f t
theorem lk_putE (E:Env) (d:Option Tmp) (v:AV):lk (putE E d v)=updF (lk E) d v:=by
 funext t
 cases d with
 | none=>simp [putE,updF]
 | some d=>simp [putE,updF,lk]
theorem SRF.put {f:Nat→AV} {a:Act} {d:Option Tmp} {v:AV} (h:SRF n w0 O f H ι a w) (hb:Below w.heap.size w w')
 (hv:VR w' (OO O ι H) ι H v u) (hd:dstOk n d=true):SRF n w0 O (updF f d v) H ι (a.put d u) w':=by
 have g:=Goes.quiet h.sit hb
 cases d with
 | none=>exact ⟨h.sit.quiet hb,h.defers,h.size,h.hand,fun t=>by
    show VR _ _ _ _ (if none=some t then v else f t) _
    rw [if_neg (by simp)]
    exact (h.vals t).mono g⟩
 | some d =>
   have hd':d<a.tmps.size:=by rw [h.size];simpa [dstOk] using hd
   refine ⟨h.sit.quiet hb,h.defers,by simp [Act.put,h.size],h.hand,fun t=>?_⟩
   rw [put_get t hd']
   unfold updF
   by_cases e:d=t
   ·subst e;simpa using hv
   ·simpa [e] using (h.vals t).mono g
theorem StepF.run {ops:Array Oper} {D:List (Option Tmp)} (hD:ops.toList.map (·.dst)=D) {i:Nat} {o:Oper} (ho:ops[i]?=some o) (hk:gOk D o=true) {f f':Nat→AV} {v:AV}
 (h:StepF P n H f (lite D o) v) (hf:∀t∈readsOf D o,f' t=f t) {a:Act} (hs:SRF n w0 O f' H ι a w) {K:Act→World→Prop} {Q:Exit→Act→World→Prop}
 (hK:∀a' w',SRF n w0 O (updF f' o.dst v) H ι a' w'→K a' w'):wpOp P ops Q i K a w:=by
 have hop:∀x,x∈o.op.operands∨x=.tmp memSlot→evF f' x=evF f x:=by
  rintro x (hx|rfl)
  ·cases x with
   | tmp t=>exact hf t (by unfold readsOf;refine List.mem_append.2 (.inl (List.mem_cons_of_mem _ (List.mem_filterMap.2 ⟨.tmp t,by simpa using hx,rfl⟩))))
   | _=>rfl
  ·exact hf memSlot (by unfold readsOf;simp)
 have key:∀(ρ:Operand→AV) (v v':AV),QLt P H ρ o.op o.type v→dstOk n o.dst=true→(∀x,x∈o.op.operands∨x=.tmp memSlot→VR w (OO O ι H) ι H (ρ x) (a.eval x)) →
  (∀w u,VR w (OO O ι H) ι H v u→VR w (OO O ι H) ι H v' u)→(∀a' w',SRF n w0 O (updF f' o.dst v') H ι a' w'→K a' w')→o.wp P a w K Q:=by
  intro ρ v v' hq hd hρ hvv hK
  exact hq o rfl rfl w0 O ι a w hs.sit hρ K Q fun u w' hu hb=>hK _ w' (hs.put hb (hvv _ _ hu) hd)
 cases h with
 | q1 v hg hd h =>
   have hg:=lite_g_none hg
   simp only [wpOp,ho,Region.wanted,hg,if_true]
   exact .inl (key _ v v h hd (fun x hx=>by rw [← hop x hx];exact hs.ops x) (fun _ _ h=>h) hK)
 | gf t want b hg hd hb hw =>
   obtain ⟨j,hg,hj⟩:=lite_g_some hk hg
   have hft:f' t=f t:=hf t (by unfold readsOf;rw [hg];simp [hj])
   have hv:=hs.vals t;rw [hft,hb] at hv
   have hv:=hv.base_inv
   have hy:=yielded_of hD hj (bool_lt hv) hv
   have hwant:Region.wanted o (yielded ops a.tmps)=false:=by
    simp only [Region.wanted,hg,hy]
    rw [← gc_eq] at hw
    cases b<;>cases want<;>simp_all
   simp only [wpOp,ho,hwant]
   exact hK _ w (hs.put (Below.refl _ _) (.bad _) hd)
 | gq t want L v hg hd hb h =>
   obtain ⟨j,hg,hj⟩:=lite_g_some hk hg
   have hft:f' t=f t:=hf t (by unfold readsOf;rw [hg];simp [hj])
   have hv:=hs.vals t;rw [hft] at hv
   have hwant:=gval_wanted hD hj hg hb hv
   cases hc:allL L with
   | true =>
     rw [hc] at hwant
     simp only [wpOp,ho,hwant,if_true]
     exact .inl (key _ v (wrapL L v) (h hc).t hd (fun x hx=>by rw [← hop x hx];exact (hs.ops x).strips hc) (fun _ _ h=>h.wraps hc) hK)
   | false =>
     rw [hc] at hwant
     simp only [wpOp,ho,hwant]
     exact hK _ w (hs.put (Below.refl _ _) (.wrapsN hc) hd)
theorem Tr.quietAll:∀(l:List LOp) (s s':ASt),Tr P n true l s s'→s'.H=s.H∧∃(g:Nat→Nat→AV) (vs:Nat→AV),g 0=lk s.env∧g l.length=lk s'.env ∧
 ∀i o,l[i]?=some o→StepF P n s.H (g i) o (vs i)∧g (i+1)=updF (g i) o.dst (vs i)
 | [],s,s',h=>by
   cases h
   exact ⟨rfl,fun _=>lk s.env,fun _=>.bad,rfl,rfl,fun i o h=>by simp at h⟩
 | o::l,s,s',h=>by
   obtain ⟨v,h1,h2⟩:=h.quietStep
   obtain ⟨h3,g,vs,h4,h5,h6⟩:=Tr.quietAll l _ s' h2
   refine ⟨h3,fun i=>match i with|0=>lk s.env|i+1=>g i,fun i=>match i with|0=>v|i+1=>vs i,rfl,h5,fun i o' ho'=>?_⟩
   cases i with
   | zero =>
     simp at ho';subst ho'
     exact ⟨h1,by show g 0=_;rw [h4,lk_putE]⟩
   | succ i =>
     exact h6 i o' (by simpa using ho')
theorem mem_ready {ops:Array Oper} {L:Array Bool} {i:Nat}:i∈Region.ready .any ops L↔∃o,ops[i]?=some o∧L.getD i true=false∧∀e∈o.after,Region.binds .any e=true→L.getD e.on false=true:=by
 unfold Region.ready
 simp only [List.mem_filter,List.mem_range,Bool.and_eq_true,Bool.not_eq_true']
 constructor
 ·rintro ⟨h1,h2,h3⟩
  rw [Array.getElem?_eq_getElem h1] at h3
  refine ⟨ops[i],Array.getElem?_eq_getElem h1,h2,fun e he hb=>?_⟩
  simp only [Option.map_some,Option.getD_some] at h3
  have:=Array.all_eq_true'.1 h3 e he
  simpa [hb] using this
 ·rintro ⟨o,h1,h2,h3⟩
  obtain ⟨hi,hio⟩:=Array.getElem?_eq_some_iff.1 h1
  refine ⟨hi,h2,?_⟩
  rw [h1]
  simp only [Option.map_some,Option.getD_some]
  refine Array.all_eq_true'.2 fun e he=>?_
  cases hb:Region.binds .any e with
  | false=>rfl
  | true=>simpa using h3 e he hb
theorem hasEdge_listed {o:Oper} {j:Nat} {L:Array Bool} (h:hasEdge o j=true) (hl:∀e∈o.after,Region.binds .any e=true→L.getD e.on false=true):L.getD j false=true:=by
 unfold hasEdge at h
 obtain ⟨e,he,hx⟩:=Array.any_eq_true'.1 h
 simp only [Bool.and_eq_true,beq_iff_eq] at hx
 have:=hl e he hx.2
 rwa [hx.1] at this
def Closed (ops:Array Oper) (L:Array Bool):Prop:=∀i o,ops[i]?=some o→L.getD i false=true→∀e∈o.after,Region.binds .any e=true→L.getD e.on false=true
theorem reach_listed {ops:Array Oper} {L:Array Bool} (hc:Closed ops L):∀(f:Nat) {o:Oper} {j:Nat},reach ops f o j=true→(∀e∈o.after,Region.binds .any e=true→L.getD e.on false=true)→L.getD j false=true
 | 0,o,j,h,hl=>hasEdge_listed h hl
 | f+1,o,j,h,hl=>by
   simp only [reach,Bool.or_eq_true] at h
   rcases h with h|h
   ·exact hasEdge_listed h hl
   ·obtain ⟨e,he,hx⟩:=Array.any_eq_true'.1 h
    simp only [Bool.and_eq_true] at hx
    obtain ⟨h1,h2⟩:=hx
    cases ho:ops[e.on]? with
    | none=>rw [ho] at h2;cases h2
    | some o' =>
      rw [ho] at h2
      exact reach_listed hc f h2 (hc e.on o' ho (hl e he h1))
theorem Closed.set {ops:Array Oper} {L:Array Bool} {i:Nat} {o:Oper} (hc:Closed ops L) (ho:ops[i]?=some o) (hi:i<L.size) (h:∀e∈o.after,Region.binds .any e=true→L.getD e.on false=true):Closed ops (L.setIfInBounds i true):=by
 have hset:∀j,(L.setIfInBounds i true).getD j false=if i=j then true else L.getD j false:=fun j=>by
  simp only [Array.getD_eq_getD_getElem?,Array.getElem?_setIfInBounds]
  by_cases e:i=j
  ·subst e;simp [hi]
  ·simp [e]
 intro j o' ho' hj e he hb
 rw [hset] at hj ⊢
 by_cases e1:i=e.on
 ·rw [if_pos e1]
 ·rw [if_neg e1]
  by_cases e2:i=j
  ·subst e2;rw [ho] at ho';injection ho' with ho';subst ho';exact h e he hb
  ·rw [if_neg e2] at hj;exact hc j o' ho' hj e he hb
structure DrawFacts (D:List (Option Tmp)) (ops:Array Oper) (k:Nat):Prop where
 down:∀i o,ops[i]?=some o→∀e∈o.after,Region.binds .any e=true→e.on<i
 one:∀i j d,i<k→j<k→i≠j→D[i]?=some (some d)→D[j]?≠some (some d)
 reads:∀i o,ops[i]?=some o→i<k→∀t∈readsOf D o,∀j,j<k→D[j]?=some (some t)→j<i∧hasEdge o j=true
 tail:∀i o,ops[i]?=some o→k≤i→∀j,j<i→reach ops 8 o j=true
theorem mem_zipIdx_of {α:Type} {l:List α} {i:Nat} {x:α} (h:l[i]?=some x):(x,i)∈l.zipIdx:=by
 rw [List.mem_zipIdx_iff_getElem?];exact h
theorem drawOk_facts {D:List (Option Tmp)} {ops:Array Oper} {k:Nat} (h:drawOk D ops k=true):DrawFacts D ops k:=by
 unfold drawOk at h
 simp only [Bool.and_eq_true] at h
 obtain ⟨⟨h1,h2⟩,h3⟩:=h
 have hm:∀i (o:Oper),ops[i]?=some o→(o,i)∈ops.toList.zipIdx:=fun i o ho=>mem_zipIdx_of (by rwa [Array.getElem?_toList])
 have hq:∀j d,j<k→D[j]?=some d→(d,j)∈(D.take k).zipIdx:=fun j d hj hd=>mem_zipIdx_of (by rw [List.getElem?_take,if_pos hj];exact hd)
 refine ⟨fun i o ho e he hb=>?_,fun i j d hi hj hne hdi hdj=>?_,fun i o ho hi t ht j hj hd=>?_,fun i o ho hi j hj=>?_⟩
 ·have:=Array.all_eq_true'.1 (List.all_eq_true.1 h1 _ (hm i o ho)) e he
  simpa [hb] using this
 ·have:=List.all_eq_true.1 (List.all_eq_true.1 h2 _ (hq i _ hi hdi)) _ (hq j _ hj hdj)
  simp at this
  exact hne this
 ·have:=List.all_eq_true.1 h3 _ (hm i o ho)
  simp only [hi,if_true] at this
  have:=List.all_eq_true.1 (List.all_eq_true.1 this t ht) _ (hq j _ hj hd)
  simpa using this
 ·have:=List.all_eq_true.1 h3 _ (hm i o ho)
  simp only [Nat.not_lt.2 hi,if_false] at this
  exact List.all_eq_true.1 this j (by simpa using hj)
theorem wpAny_tail {ops:Array Oper} {D:List (Option Tmp)} {k:Nat} (hD:ops.toList.map (·.dst)=D) (hgk:ops.toList.all (gOk D)=true) (hf:DrawFacts D ops k) {q:Bool} {s':ASt} {O:Nat→Prop} :
 ∀(fuel m:Nat) (s:ASt) (L:Array Bool) (ι:Nat→Option Nat) (a:Act) (w:World),k≤m→m≤ops.size→ops.size≤m+fuel→L.size=ops.size→(∀j,j<ops.size→L.getD j false=decide (j<m)) →
  Tr P n q ((ops.toList.drop m).map (lite D)) s s'→SR n w0 O s ι a w→wpAny P .any ops (normQ w0 O n s') fuel L a w:=by
 intro fuel
 have hstep:∀(m:Nat) (L:Array Bool),k≤m→m≤ops.size→L.size=ops.size→(∀j,j<ops.size→L.getD j false=decide (j<m))→∀i,i∈Region.ready .any ops L↔(i=m∧m<ops.size):=by
  intro m L hkm hms hsz hL i
  rw [mem_ready]
  constructor
  ·rintro ⟨o,ho,h1,h2⟩
   have hi:=(Array.getElem?_eq_some_iff.1 ho).1
   have h3:L.getD i false=false:=by
    have:L.getD i true=L.getD i false:=by simp [Array.getD_eq_getD_getElem?,Array.getElem?_eq_getElem (show i<L.size by omega)]
    rw [← this];exact h1
   rw [hL i hi] at h3
   have hmi:m≤i:=by simpa using h3
   rcases Nat.lt_or_ge m i with hlt|hge
   ·have hcl:Closed ops L:=fun j o' ho' hj e he hb=>by
     have hjs:=(Array.getElem?_eq_some_iff.1 ho').1
     have h4:=hf.down j o' ho' e he hb
     rw [hL j hjs] at hj
     rw [hL e.on (by omega)]
     simp at hj ⊢;omega
    have:=reach_listed hcl 8 (hf.tail i o ho (by omega) m hlt) h2
    rw [hL m (by omega)] at this
    simp at this
   ·exact ⟨by omega,by omega⟩
  ·rintro ⟨rfl,hi⟩
   refine ⟨ops[i],Array.getElem?_eq_getElem hi,?_,fun e he hb=>?_⟩
   ·have h3:=hL i hi
    simp [Array.getD_eq_getD_getElem?,Array.getElem?_eq_getElem (show i<L.size by omega)] at h3 ⊢
    exact h3
   ·have:=hf.down i _ (Array.getElem?_eq_getElem hi) e he hb
    rw [hL e.on (by omega)]
    simpa using this
 induction fuel with
 | zero =>
   intro m s L ι a w hkm hms hfu hsz hL ht hs
   have hm:m=ops.size:=by omega
   subst hm
   refine ⟨List.eq_nil_iff_forall_not_mem.2 fun i hi=>?_,?_⟩
   ·have:=(hstep _ L hkm hms hsz hL i).1 hi;omega
   ·rw [show ops.toList.drop ops.size=[] by simp] at ht
    cases ht
    exact ⟨rfl,ι,hs⟩
 | succ fuel ih =>
   intro m s L ι a w hkm hms hfu hsz hL ht hs
   refine ⟨fun hnil=>?_,fun i hi=>?_⟩
   ·have hm:m=ops.size:=by
     rcases Nat.lt_or_ge m ops.size with h|h
     ·have:=(hstep m L hkm hms hsz hL m).2 ⟨rfl,h⟩
      rw [hnil] at this;cases this
     ·omega
    subst hm
    rw [show ops.toList.drop ops.size=[] by simp] at ht
    cases ht
    exact ⟨rfl,ι,hs⟩
   ·obtain ⟨rfl,hi⟩:=(hstep m L hkm hms hsz hL i).1 hi
    have hio:i<ops.toList.length:=by simpa using hi
    rw [List.drop_eq_getElem_cons hio] at ht
    have ho:ops[i]?=some ops.toList[i]:=by rw [Array.getElem?_eq_getElem hi];simp
    obtain ⟨s1,h1,h2⟩:=Tr_one hD ho (List.all_eq_true.1 hgk _ (List.getElem_mem hio)) ht
    refine h2 w0 O ι a w hs _ _ fun ι' a' w' hs'=>?_
    refine ih (i+1) s1 _ ι' a' w' (by omega) (by omega) (by omega) (by simp [hsz]) (fun j hj=>?_) h1 hs'
    simp only [Array.getD_eq_getD_getElem?,Array.getElem?_setIfInBounds]
    have h3:=hL j hj
    simp only [Array.getD_eq_getD_getElem?] at h3
    by_cases e:i=j
    ·subst e;simp [show i<L.size by omega]
    ·simp only [e,if_false,h3]
     simp;omega
def mix (D:List (Option Tmp)) (k:Nat) (g0 gk:Nat→AV) (L:Array Bool) (t:Nat):AV:=
 if (List.range k).any (fun j=>L.getD j false&&D[j]?==some (some t)) then gk t else g0 t
theorem mix_in {D:List (Option Tmp)} {k:Nat} {g0 gk:Nat→AV} {L:Array Bool} {t j:Nat} (hj:j<k) (hl:L.getD j false=true) (hd:D[j]?=some (some t)):mix D k g0 gk L t=gk t:=by
 unfold mix
 rw [if_pos]
 exact List.any_eq_true.2 ⟨j,by simpa using hj,by simp [hd,hl]⟩
theorem mix_out {D:List (Option Tmp)} {k:Nat} {g0 gk:Nat→AV} {L:Array Bool} {t:Nat} (h:∀j,j<k→L.getD j false=true→D[j]?≠some (some t)):mix D k g0 gk L t=g0 t:=by
 unfold mix
 rw [if_neg]
 intro hh
 obtain ⟨j,hj,hx⟩:=List.any_eq_true.1 hh
 simp only [Bool.and_eq_true,beq_iff_eq] at hx
 exact h j (by simpa using hj) hx.1 hx.2
theorem wpAny_quiet {ops:Array Oper} {D:List (Option Tmp)} {k:Nat} (hD:ops.toList.map (·.dst)=D) (hgk:ops.toList.all (gOk D)=true) (hf:DrawFacts D ops k) (hk:k≤ops.size) {q:Bool} {s1 s':ASt} {O:Nat→Prop}
 {g:Nat→Nat→AV} {vs:Nat→AV} (hgk':g k=lk s1.env) (hst:∀i o,ops[i]?=some o→i<k→StepF P n s1.H (g i) (lite D o) (vs i)∧g (i+1)=updF (g i) o.dst (vs i))
 (ht:Tr P n q ((ops.toList.drop k).map (lite D)) s1 s') (ι:Nat→Option Nat) :
 ∀(fuel:Nat) (L:Array Bool) (U:List Nat) (a:Act) (w:World),L.size=ops.size→(∀j,j<k→(L.getD j false=false↔j∈U))→U.length+(ops.size-k)≤fuel→(∀j,k≤j→L.getD j false=false)→Closed ops L→SRF n w0 O (mix D k (g 0) (g k) L) s1.H ι a w →
  wpAny P .any ops (normQ w0 O n s') fuel L a w:=by
 have hDi:∀(i:Nat) (o:Oper),ops[i]?=some o→D[i]?=some o.dst:=fun i o ho=>by subst hD;rw [List.getElem?_map,Array.getElem?_toList,ho];rfl
 -- what the slots hold from step to step
 have hkeep:∀t i j,i≤j→j≤k→(∀m,i≤m→m<j→D[m]?≠some (some t))→g j t=g i t:=by
  intro t i j hij
  obtain ⟨d,rfl⟩:=Nat.exists_eq_add_of_le hij
  clear hij
  induction d with
  | zero=>intro _ _;rfl
  | succ d ih =>
    intro hjk hno
    generalize hjd:i+d=j at ih
    have hij:i≤j:=by omega
    rw [show i+(d+1)=j+1 by omega] at hjk hno ⊢
    have ho:ops[j]?=some ops[j]:=Array.getElem?_eq_getElem (by omega)
    rw [(hst j _ ho (by omega)).2]
    unfold updF
    rw [if_neg (fun e=>hno j hij (by omega) (by rw [hDi j _ ho,e]))]
    exact ih (by omega) fun m hm hmj=>hno m hm (by omega)
 have hwr:∀j o d,ops[j]?=some o→j<k→o.dst=some d→g k d=vs j∧∀i,j<i→i≤k→g i d=vs j:=by
  intro j o d ho hj hd
  have h1:g (j+1) d=vs j:=by rw [(hst j o ho hj).2];simp [updF,hd]
  have h2:∀i,j<i→i≤k→g i d=vs j:=fun i hi hik=>by
   rw [hkeep d (j+1) i hi hik fun m hm hmi e=>hf.one j m d hj (by omega) (by omega) (by rw [hDi j o ho,hd]) e]
   exact h1
  exact ⟨h2 k hj (Nat.le_refl _),h2⟩
 intro fuel
 have hend:∀(L:Array Bool) (a:Act) (w:World),L.size=ops.size→(∀j,k≤j→L.getD j false=false)→SRF n w0 O (mix D k (g 0) (g k) L) s1.H ι a w→(∀j,j<k→L.getD j false=true)→SR n w0 O s1 ι a w:=by
  intro L a w hsz hL hs hall
  refine ⟨hs.sit,hs.defers,hs.size,hs.hand,fun t=>?_⟩
  have h1:=hs.vals t
  have h2:mix D k (g 0) (g k) L t=lk s1.env t:=by
   rw [← hgk']
   by_cases hex:∃j,j<k∧D[j]?=some (some t)
   ·obtain ⟨j,hj,hd⟩:=hex
    exact mix_in hj (hall j hj) hd
   ·rw [mix_out (fun j hj _ hd=>hex ⟨j,hj,hd⟩)]
    exact (hkeep t 0 k (Nat.zero_le _) (Nat.le_refl _) fun m _ hm hd=>hex ⟨m,hm,hd⟩).symm
  rwa [h2] at h1
 have htail:∀(L:Array Bool) (a:Act) (w:World) (fuel:Nat),L.size=ops.size→(∀j,k≤j→L.getD j false=false)→SRF n w0 O (mix D k (g 0) (g k) L) s1.H ι a w→(∀j,j<k→L.getD j false=true)→ops.size≤k+fuel →
  wpAny P .any ops (normQ w0 O n s') fuel L a w:=by
  intro L a w fuel hsz hL hs hall hfu
  refine wpAny_tail hD hgk hf fuel k s1 L ι a w (Nat.le_refl _) hk hfu hsz (fun j hj=>?_) ht (hend L a w hsz hL hs hall)
  rcases Nat.lt_or_ge j k with h|h
  ·rw [hall j h];simp [h]
  ·rw [hL j h];simp;omega
 induction fuel with
 | zero =>
   intro L U a w hsz hU hc hL hcl hs
   have hnil:U=[]:=List.eq_nil_of_length_eq_zero (by omega)
   subst hnil
   exact htail L a w 0 hsz hL hs (fun j hj=>by
    cases h:L.getD j false with
    | true=>rfl
    | false=>exact absurd ((hU j hj).1 h) (by simp)) (by omega)
 | succ fuel ih =>
   intro L U a w hsz hU hc hL hcl hs
   by_cases hall:∀j,j<k→L.getD j false=true
   ·exact htail L a w _ hsz hL hs hall (by omega)
   ·have hget:∀i,i<ops.size→L.getD i true=L.getD i false:=fun i hi=>by simp [Array.getD_eq_getD_getElem?,Array.getElem?_eq_getElem (show i<L.size by omega)]
    refine ⟨fun hnil=>?_,fun i hi=>?_⟩
    ·exfalso
     -- the least operation that has not run is ready
     have hex:∃j,j<k∧L.getD j false=false:=by
      rcases Classical.em (∃j,j<k∧L.getD j false=false) with h|h
      ·exact h
      ·exact absurd (fun j hj=>by
        cases h':L.getD j false with
        | true=>rfl
        | false=>exact absurd ⟨j,hj,h'⟩ h) hall
     obtain ⟨j,hj,hjf⟩:=hex
     have hmin:∀m,(∃j,j<m∧j<k∧L.getD j false=false)→∃j,j<k∧L.getD j false=false∧∀i,i<j→L.getD i false=true:=by
      intro m
      induction m with
      | zero=>rintro ⟨j,h,_⟩;omega
      | succ m ihm =>
        rintro ⟨j,h1,h2,h3⟩
        by_cases h:∃j,j<m∧j<k∧L.getD j false=false
        ·exact ihm h
        ·refine ⟨j,h2,h3,fun i hi=>?_⟩
         cases h':L.getD i false with
         | true=>rfl
         | false=>exact absurd ⟨i,by omega,by omega,h'⟩ h
     obtain ⟨j,hj,hjf,hlo⟩:=hmin (j+1) ⟨j,by omega,hj,hjf⟩
     have:j∈Region.ready .any ops L:=mem_ready.2 ⟨ops[j],Array.getElem?_eq_getElem (by omega),by rw [hget j (by omega)];exact hjf,fun e he hb=>hlo _ (hf.down j _ (Array.getElem?_eq_getElem (by omega)) e he hb)⟩
     rw [hnil] at this
     cases this
    ·obtain ⟨o,ho,h1,h2⟩:=mem_ready.1 hi
     have his:i<ops.size:=(Array.getElem?_eq_some_iff.1 ho).1
     rw [hget i his] at h1
     have hik:i<k:=by
      rcases Nat.lt_or_ge i k with h|h
      ·exact h
      ·exact absurd (fun j hj=>reach_listed hcl 8 (hf.tail i o ho h j (by omega)) h2) hall
     obtain ⟨h3,h4⟩:=hst i o ho hik
     refine h3.run hD ho (List.all_eq_true.1 hgk o (by rw [← Array.getElem?_toList] at ho;exact List.mem_of_getElem? ho)) (fun t htr=>?_) hs fun a' w' hs'=>?_
     ·by_cases hex:∃j,j<k∧D[j]?=some (some t)
      ·obtain ⟨j,hj,hd⟩:=hex
       obtain ⟨h5,h6⟩:=hf.reads i o ho hik t htr j hj hd
       have hoj:ops[j]?=some ops[j]:=Array.getElem?_eq_getElem (by omega)
       have hdj:ops[j].dst=some t:=by have:=hDi j _ hoj;rw [hd] at this;injection this with this;exact this.symm
       rw [mix_in hj (hasEdge_listed h6 h2) hd,(hwr j _ t hoj hj hdj).1,(hwr j _ t hoj hj hdj).2 i h5 (by omega)]
      ·rw [mix_out (fun j hj _ hd=>hex ⟨j,hj,hd⟩)]
       exact (hkeep t 0 i (Nat.zero_le _) (by omega) fun m _ hm hd=>hex ⟨m,by omega,hd⟩).symm
     ·have hiU:i∈U:=(hU i hik).1 h1
      refine ih (L.setIfInBounds i true) (U.filter (· != i)) a' w' (by simp [hsz]) (fun j hj=>?_) ?_ (fun j hj=>?_) (hcl.set ho (by omega) h2) ?_
      ·simp only [Array.getD_eq_getD_getElem?,Array.getElem?_setIfInBounds,List.mem_filter]
       by_cases e:i=j
       ·subst e;simp [show i<L.size by omega]
       ·have:=hU j hj
        simp only [Array.getD_eq_getD_getElem?] at this
        simp only [e,if_false,this,bne_iff_ne,ne_eq]
        exact ⟨fun h=>⟨h,fun h'=>e h'.symm⟩,fun h=>h.1⟩
      ·have:(U.filter (· != i)).length<U.length:=by
        have h7:=List.length_filter_lt_length_iff_exists (l:=U) (p:=(· != i))
        exact h7.2 ⟨i,hiU,by simp⟩
       omega
      ·simp only [Array.getD_eq_getD_getElem?,Array.getElem?_setIfInBounds]
       have:=hL j hj
       simp only [Array.getD_eq_getD_getElem?] at this
       rw [if_neg (by omega)];exact this
      ·have hmx:mix D k (g 0) (g k) (L.setIfInBounds i true)=updF (mix D k (g 0) (g k) L) o.dst (vs i):=by
        funext t
        unfold updF
        by_cases e:o.dst=some t
        ·rw [if_pos e,mix_in hik (by simp [Array.getD_eq_getD_getElem?,show i<L.size by omega]) (by rw [hDi i o ho,e]),(hwr i o t ho hik e).1]
        ·rw [if_neg e]
         have hsame:∀j,D[j]?=some (some t)→(L.setIfInBounds i true).getD j false=L.getD j false:=by
          intro j hd
          have hne:i≠j:=fun e'=>by subst e';rw [hDi i o ho] at hd;injection hd with hd;exact e hd
          simp only [Array.getD_eq_getD_getElem?,Array.getElem?_setIfInBounds,hne,if_false]
         by_cases hex:∃j,j<k∧L.getD j false=true∧D[j]?=some (some t)
         ·obtain ⟨j,hj,hl,hd⟩:=hex
          rw [mix_in hj hl hd,mix_in hj (by rw [hsame j hd];exact hl) hd]
         ·rw [mix_out (fun j hj hl hd=>hex ⟨j,hj,hl,hd⟩),mix_out (fun j hj hl hd=>hex ⟨j,hj,by rw [← hsame j hd];exact hl,hd⟩)]
       rw [hmx];exact hs'
theorem Tr_draw {ops:Array Oper} {D:List (Option Tmp)} {k:Nat} (hD:ops.toList.map (·.dst)=D) (hgk:ops.toList.all (gOk D)=true) (hf:drawOk D ops k=true) (hk:k≤ops.size) (hm:P.follows .mixedOrders=true)
 {q:Bool} {s s1 s':ASt} {O:Nat→Prop} (h1:Tr P n true ((ops.toList.take k).map (lite D)) s s1) (h2:Tr P n q ((ops.toList.drop k).map (lite D)) s1 s') (id:Nat) {a:Act} (hs:SR n w0 O s ι a w) :
 (Code.region id ops true).wp P (normQ w0 O n s') a w:=by
 refine wp_region_any hm ?_
 obtain ⟨hH,g,vs,hg0,hgk',hst⟩:=h1.quietAll
 have hlen:((ops.toList.take k).map (lite D)).length=k:=by simp;omega
 rw [hlen] at hgk'
 have hb:Below w.heap.size w { w with drawn:=w.drawn+1 }:=(Below.refl _ _).drew
 refine wpAny_quiet hD hgk (drawOk_facts hf) hk (g:=g) (vs:=vs) hgk' (fun i o ho hi=>?_) h2 ι ops.size _ (List.range k) a _ (by simp) (fun j hj=>?_) (by simp;omega) (fun j hj=>?_) (fun j o' _ hj=>by simp only [Array.getD_eq_getD_getElem?,Array.getElem?_replicate] at hj;split at hj<;>cases hj) ?_
 ·rw [hH]
  exact hst i (lite D o) (by rw [List.getElem?_map,List.getElem?_take,if_pos hi,Array.getElem?_toList,ho];rfl)
 ·simp [Array.getD_eq_getD_getElem?,hj,Array.getElem?_replicate];split<;>rfl
 ·simp only [Array.getD_eq_getD_getElem?,Array.getElem?_replicate];split<;>rfl
 ·rw [hH]
  refine ⟨hs.sit.quiet hb,hs.defers,hs.size,hs.hand,fun t=>?_⟩
  have:mix D k (g 0) (g k) (Array.replicate ops.size false) t=lk s.env t:=by
   rw [mix_out,hg0]
   intro j hj hl
   simp only [Array.getD_eq_getD_getElem?,Array.getElem?_replicate] at hl
   split at hl<;>cases hl
  rw [this]
  exact (hs.vals t).mono (Goes.quiet hs.sit hb)
end
end Go.Ab
namespace Go.Ab
open Go Go.RowKit
def ARun (P:Program) (n:Fr) (q:Bool) (l:List LOp) (K:ASt→Prop) (s:ASt):Prop:=∃s',Tr P n q l s s'∧K s'
section
variable {P:Program} {n:Fr} {q:Bool} {l:List LOp} {o:LOp} {K:ASt→Prop} {s:ASt}
theorem ARun.nil (h:K s):ARun P n q [] K s:=⟨s,.nil s,h⟩
theorem ARun.batch {r:List LOp} {s1:ASt} (h:batch P n l s=(r,s1)) (hr:ARun P n q r K s1):ARun P n q l K s:=let ⟨s',h1,h2⟩:=hr;⟨s',.batch h h1,h2⟩
theorem ARun.q1 {v:AV} (hg:o.g=none) (hd:dstOk n o.dst=true) (h:QL P s.H (ev s.env) o.op v) (hr:ARun P n q l K ⟨putE s.env o.dst v,s.H⟩):ARun P n q (o::l) K s:=
 let ⟨s',h1,h2⟩:=hr;⟨s',.q1 o l s v s' hg hd h.t h1,h2⟩
theorem ARun.p1 {v:AV} {H':List ABlk} (hg:o.g=none) (hd:dstOk n o.dst=true) (h:PL P s.H (ev s.env) o.op v H') (hr:ARun P n false l K ⟨putE s.env o.dst v,H'⟩):ARun P n false (o::l) K s:=
 let ⟨s',h1,h2⟩:=hr;⟨s',.p1 o l s v H' s' rfl hg hd h h1,h2⟩
theorem ARun.gl {t:Tmp} {want:Bool} {L:List Bool} {v:AV} (hg:o.g=some (t,want)) (hd:dstOk n o.dst=true) (hb:gval want (lk s.env t)=some L)
 (h:allL L=true→QL P s.H (fun x=>stripL L (ev s.env x)) o.op v) (hr:ARun P n q l K ⟨putE s.env o.dst (wrapL L v),s.H⟩):ARun P n q (o::l) K s:=
 let ⟨s',h1,h2⟩:=hr;⟨s',.gq o l s t want L v s' hg hd hb h h1,h2⟩
theorem ARun.gpl {t:Tmp} {want:Bool} {L:List Bool} {v:AV} {H':List ABlk} (hg:o.g=some (t,want)) (hd:dstOk n o.dst=true) (hb:gval want (lk s.env t)=some L) (hw:allL L=true)
 (h:PL P s.H (fun x=>stripL L (ev s.env x)) o.op v H') (hr:ARun P n false l K ⟨putE s.env o.dst v,H'⟩):ARun P n false (o::l) K s:=
 let ⟨s',h1,h2⟩:=hr;⟨s',.gp o l s t want L v H' s' rfl hg hd hb hw h h1,h2⟩
end
def liftQ (w0:Base) (O:Nat→Prop) (n:Fr) (Q:Exit→ASt→Prop) (e:Exit) (a:Act) (w:World):Prop:=∃s' ι',Q e s'∧SR n w0 O s' ι' a w
def AWp (P:Program) (n:Fr) (c:Code) (Q:Exit→ASt→Prop) (s:ASt):Prop:=
 ∀(w0:Base) (O:Nat→Prop) (ι:Nat→Option Nat) (a:Act) (w:World),SR n w0 O s ι a w→c.wp P (liftQ w0 O n Q) a w
def thenQ (K:ASt→Prop) (Q:Exit→ASt→Prop):Exit→ASt→Prop
 | .normal,s=>K s
 | e,s=>Q e s
def blkQ (id:Nat) (Q:Exit→ASt→Prop):Exit→ASt→Prop
 | .exit id',s=>if id'=id then Q .normal s else Q (.exit id') s
 | e,s=>Q e s
def Wk (n:Fr) (s s2:ASt):Prop:=∀(w0:Base) (O:Nat→Prop) (ι:Nat→Option Nat) (a:Act) (w:World),SR n w0 O s ι a w→∃ι2,SR n w0 O s2 ι2 a w
section
variable {P:Program} {n:Fr} {Q:Exit→ASt→Prop} {s:ASt}
theorem AWp.region {id:Nat} {ops:Array Oper} {D:List (Option Tmp)} {l:List LOp} (hD:ops.toList.map (·.dst)=D) (hgk:ops.toList.all (gOk D)=true) (hl:ops.toList.map (lite D)=l)
 (h:ARun P n false l (Q .normal) s):AWp P n (.region id ops false) Q s:=by
 intro w0 O ι a w hs
 obtain ⟨s',h1,h2⟩:=h
 refine wp_region ?_
 have:=Tr_ops (P:=P) (n:=n) hD hgk ops.toList 0 s s' rfl (by rw [hl];exact h1) w0 O ι a w hs
 rw [List.range_eq_range',← Array.length_toList]
 have hmono:∀(l:List Nat) (a:Act) (w:World),wpOps P ops (normQ w0 O n s') l a w→wpOps P ops (liftQ w0 O n Q) l a w:=by
  intro l
  induction l with
  | nil=>rintro a w ⟨_,ι',h⟩;exact ⟨s',ι',h2,h⟩
  | cons i l ih =>
    intro a w h
    rw [wpOps_cons] at h ⊢
    unfold wpOp at h ⊢
    split
    ·rename_i ho
     rw [ho] at h
     exact ih _ _ h
    ·rename_i o ho
     rw [ho] at h
     simp only at h
     split
     ·rename_i hw
      rw [if_pos hw] at h
      rcases h with h|⟨_,a0,w1,hq,_⟩
      ·refine .inl ?_
       have h1:=Oper.wp_mono (fun a w=>ih a w) h
       unfold Oper.wp at h1 ⊢
       generalize (execOp a.eval o).run P w=r at h1 ⊢
       cases r with
       | ok nx w' =>
         cases nx<;>simp only [Oper.upon] at h1 ⊢<;>first
          | exact h1
          | exact Calls.mono h1 fun e w'' he=>by
             cases e with
             | returned v=>exact he
             | panicked ch=>obtain ⟨hx,_⟩:=he;cases hx
             | outgrown=>obtain ⟨a0,w0',hx,_⟩:=he;cases hx
       | halt x w' =>
         cases x<;>simp only [Oper.upon] at h1 ⊢<;>first
          | exact h1
          | (obtain ⟨hx,_⟩:=h1;cases hx)
      ·cases hq
     ·rename_i hw
      rw [if_neg hw] at h
      exact ih _ _ h
 exact hmono _ _ _ this
theorem AWp.draw {id:Nat} {ops:Array Oper} {D:List (Option Tmp)} {k:Nat} {l1 l2:List LOp} (hm:P.follows .mixedOrders=true) (hD:ops.toList.map (·.dst)=D) (hgk:ops.toList.all (gOk D)=true)
 (hf:drawOk D ops k=true) (hk:k≤ops.size) (hl1:(ops.toList.take k).map (lite D)=l1) (hl2:(ops.toList.drop k).map (lite D)=l2)
 (h:ARun P n true l1 (fun s1=>ARun P n false l2 (Q .normal) s1) s):AWp P n (.region id ops true) Q s:=by
 intro w0 O ι a w hs
 obtain ⟨s1,h1,s',h2,h3⟩:=h
 refine wp_mono (Tr_draw (q:=false) hD hgk hf hk hm (by rw [hl1];exact h1) (by rw [hl2];exact h2) id hs) ?_
 rintro e a w ⟨rfl,ι',h⟩
 exact ⟨s',ι',h3,h⟩
theorem AWp.seq {x y:Code} (h:AWp P n x (thenQ (AWp P n y Q) Q) s):AWp P n (.seq x y) Q s:=by
 intro w0 O ι a w hs
 refine wp_seq (wp_mono (h w0 O ι a w hs) ?_)
 rintro e a w ⟨s',ι',h1,h2⟩
 cases e with
 | normal=>exact h1 w0 O ι' a w h2
 | _=>exact ⟨s',ι',h1,h2⟩
theorem AWp.skip (h:Q .normal s):AWp P n .skip Q s:=fun w0 O ι a w hs=>wp_skip ⟨s,ι,h,hs⟩
theorem AWp.ret (h:Q .ret s):AWp P n .ret Q s:=fun w0 O ι a w hs=>wp_ret ⟨s,ι,h,hs⟩
theorem AWp.exit {id:Nat} (h:Q (.exit id) s):AWp P n (.exit id) Q s:=fun w0 O ι a w hs=>wp_exit ⟨s,ι,h,hs⟩
theorem AWp.cond {c:Operand} {x y:Code} {b:Bool} (hc:ev s.env c=.base (.bool b)) (ht:b=true→AWp P n x Q s) (hf:b=false→AWp P n y Q s):AWp P n (.cond c x y) Q s:=by
 intro w0 O ι a w hs
 have h1:=hs.ops c
 rw [hc] at h1
 exact wp_cond_split h1.base_inv (fun h=>ht h w0 O ι a w hs) (fun h=>hf h w0 O ι a w hs)
theorem AWp.block {id:Nat} {c:Code} (h:AWp P n c (blkQ id Q) s):AWp P n (.block id c) Q s:=by
 intro w0 O ι a w hs
 refine wp_block (wp_mono (h w0 O ι a w hs) ?_)
 rintro e a w ⟨s',ι',h1,h2⟩
 cases e with
 | exit id' =>
   simp only [blkQ] at h1
   simp only [Exit.inBlock]
   split
   ·rename_i e;rw [if_pos e] at h1;exact ⟨s',ι',h1,h2⟩
   ·rename_i e;rw [if_neg e] at h1;exact ⟨s',ι',h1,h2⟩
 | _=>exact ⟨s',ι',h1,h2⟩
theorem AWp.weaken {c:Code} {s2:ASt} (hw:Wk n s s2) (h:AWp P n c Q s2):AWp P n c Q s:=by
 intro w0 O ι a w hs
 obtain ⟨ι2,hs2⟩:=hw _ _ _ _ _ hs
 exact h w0 O ι2 a w hs2
theorem AWp.mono {c:Code} {Q':Exit→ASt→Prop} (h:AWp P n c Q' s) (hq:∀e s,Q' e s→Q e s):AWp P n c Q s:=
 fun w0 O ι a w hs=>wp_mono (h w0 O ι a w hs) fun e a w ⟨s',ι',h1,h2⟩=>⟨s',ι',hq _ _ h1,h2⟩
theorem AWp.loop {X:Type} (J:X→Prop) (I:X→ASt) (μ:X→Nat) {c:Code} (x0:X) (h0:J x0) (hw:Wk n s (I x0))
 (hr:∀x,J x→AWp P n c (thenQ (fun s'=>∃y,J y∧μ y<μ x∧Wk n s' (I y)) Q) (I x)):AWp P n (.loop c) Q s:=by
 intro w0 O ι a w hs
 obtain ⟨ι0,hs0⟩:=hw _ _ _ _ _ hs
 have key:∀(m:Nat) (x:X),μ x=m→J x→∀ι a w,SR n w0 O (I x) ι a w→∀(b:Frame) (k:List Item) (cs:List Frame),
  ∃e a' w',liftQ w0 O n Q e a' w'∧Arrives P (lone (b.at a (.code c::.inLoop c::k)) cs w) b k cs e a' w':=by
  intro m
  induction m using Nat.strongRecOn with
  | _ m ih =>
    intro x hm hx ι a w hs b k cs
    obtain ⟨e,a1,w1,⟨s',ι',hq,hs'⟩,harr⟩:=hr x hx w0 O ι a w hs b (.inLoop c::k) cs
    cases e with
    | normal =>
      obtain ⟨y,hy,hlt,hwk⟩:=hq
      obtain ⟨ι2,hs2⟩:=hwk _ _ _ _ _ hs'
      obtain ⟨e2,a2,w2,hq2,harr2⟩:=ih (μ y) (hm ▸ hlt) y rfl hy ι2 a1 w1 hs2 b k cs
      exact ⟨e2,a2,w2,hq2,.of_steps (Steps.trans harr (.one step_inLoop)) harr2⟩
    | exit id=>exact ⟨_,a1,w1,⟨s',ι',hq,hs'⟩,.pass (x:=.inLoop c) rfl (fun _ _=>.inl (by simp)) harr⟩
    | goto l=>exact ⟨_,a1,w1,⟨s',ι',hq,hs'⟩,.pass (x:=.inLoop c) rfl (fun _ _=>.inl (by simp)) harr⟩
    | ret=>exact ⟨_,a1,w1,⟨s',ι',hq,hs'⟩,.pass (x:=.inLoop c) rfl (fun _ _=>.inl (by simp)) harr⟩
    | panic ch=>exact ⟨_,a1,w1,⟨s',ι',hq,hs'⟩,.pass (x:=.inLoop c) rfl (fun _ _=>.inl (by simp)) harr⟩
    | outgrown=>exact ⟨_,a1,w1,⟨s',ι',hq,hs'⟩,.pass (x:=.inLoop c) rfl (fun _ _=>.inl (by simp)) harr⟩
 intro b k cs
 obtain ⟨e,a',w',hq,harr⟩:=key _ x0 rfl h0 ι0 a w hs0 b k cs
 exact ⟨e,a',w',hq,.of_steps (.one step_loop) harr⟩
end
end Go.Ab
