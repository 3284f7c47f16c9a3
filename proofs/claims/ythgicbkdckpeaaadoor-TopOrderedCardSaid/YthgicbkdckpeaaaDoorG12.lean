/- Drawn regions in which memory changes, in whatever order the region allows (a stage is a set of growing operations); new variables at blocks that were set aside. -/
import Derived.Scope
import Derived.Test.YthgicbkdckpeaaaDoorG11
import Derived.Test.YthgicbkdckpeaaaDoorG04
set_option linter.unusedSimpArgs false
set_option linter.unusedVariables false
namespace Go.Ab
open Go Go.RowKit
section
variable {P:Program} {n:Fr} {w w':World} {w0:Base} {O:Nat→Prop} {ι ι':Nat→Option Nat} {H H':List ABlk} {u:Value}
structure MaskFacts (st:Nat→Option Nat) (ms:Nat→List Nat) (ops:Array Oper) (k m:Nat):Prop where
 one:∀ i j c,i < k→j < k→st i = some c→st j = some c→i = j
 lt:∀ i c,i < k→st i = some c→c < m
 all:∀ c,c < m→∃ j,j < k ∧ st j = some c
 run:∀ i o S,i < k→ops[i]? = some o→S < 2 ^ m→(∀ j c,j < k→st j = some c→hasEdge o j = true→S.testBit c = true)→(∀ j o' c,j < k→ops[j]? = some o'→st j = some c→S.testBit c = true→hasEdge o' i = false)→(∀ c,st i = some c→S.testBit c = false)→S ∈ ms i
def runOk (st:List (Option Nat)) (ops:Array Oper) (k i S:Nat):Bool:=
 ((List.range k).all fun j=>match st.getD j none with
   | some c=>(match ops[i]? with | some o=>!hasEdge o j || S.testBit c | none=>true) && (match ops[j]? with | some o'=>!S.testBit c || !hasEdge o' i | none=>true)
   | none=>true) && (match st.getD i none with | some c=>!S.testBit c | none=>true)
def maskOk (st:List (Option Nat)) (ms:List (List Nat)) (ops:Array Oper) (k m:Nat):Bool:=
 let is:=List.range k
 (is.all fun i=>is.all fun j=>match st.getD i none,st.getD j none with | some c,some c'=>i == j || c != c' | _,_=>true) &&
 (is.all fun i=>match st.getD i none with | some c=>decide (c < m) | none=>true) &&
 ((List.range m).all fun c=>is.any fun j=>st.getD j none == some c) &&
 (is.all fun i=>(List.range (2 ^ m)).all fun S=>!runOk st ops k i S || (ms.getD i []).contains S)
theorem maskOk_facts {st:List (Option Nat)} {ms:List (List Nat)} {ops:Array Oper} {k m:Nat} (h:maskOk st ms ops k m = true):MaskFacts (fun i=>st.getD i none) (fun i=>ms.getD i []) ops k m:=by
 unfold maskOk at h
 simp only [Bool.and_eq_true] at h
 obtain ⟨⟨⟨h1,h2⟩,h3⟩,h4⟩:=h
 have m1:∀ {i:Nat},i < k→i ∈ List.range k:=fun h=>by simpa using h
 refine ⟨fun i j c hi hj e1 e2=>?_,fun i c hi e=>?_,fun c hc=>?_,fun i o S hi ho hS k1 k2 k3=>?_⟩
 ·have:=List.all_eq_true.1 (List.all_eq_true.1 h1 i (m1 hi)) j (m1 hj)
  simp only [e1,e2] at this
  simpa using this
 ·have:=List.all_eq_true.1 h2 i (m1 hi)
  simp only [e] at this
  simpa using this
 ·obtain ⟨j,hj,hx⟩:=List.any_eq_true.1 (List.all_eq_true.1 h3 c (by simpa using hc))
  exact ⟨j,by simpa using hj,by simpa using hx⟩
 ·have:=List.all_eq_true.1 (List.all_eq_true.1 h4 i (m1 hi)) S (by simpa using hS)
  have hr:runOk st ops k i S = true:=by
   unfold runOk
   rw [Bool.and_eq_true]
   refine ⟨List.all_eq_true.2 fun j hj=>?_,?_⟩
   ·have hj:j < k:=by simpa using hj
    cases e:st.getD j none with
    | none=>rfl
    | some c =>
      simp only [ho,Bool.and_eq_true]
      refine ⟨?_,?_⟩
      ·cases e2:hasEdge o j with
       | false=>rfl
       | true=>rw [k1 j c hj e e2];rfl
      ·cases e2:ops[j]? with
       | none=>rfl
       | some o' =>
         cases e3:S.testBit c with
         | false=>rfl
         | true=>simp [k2 j o' c hj e2 e e3]
   ·cases e:st.getD i none with
    | none=>rfl
    | some c=>simp only [k3 c e];rfl
  rw [hr] at this
  simpa using this
theorem wpAny_growM {ops:Array Oper} {D:List (Option Tmp)} {k:Nat} (hD:ops.toList.map (·.dst) = D) (hgk:ops.toList.all (gOk D) = true) (hf:DrawFacts D ops k) {st:Nat→Option Nat} {m0:Nat} {HS:Nat→List ABlk} {ms:Nat→List Nat} (hgr:MaskFacts st ms ops k m0) (hk:k ≤ ops.size) {q:Bool} {s1 s':ASt} {O:Nat→Prop}
 {g:Nat→Nat→AV} {vs:Nat→AV} (hgk':g k = lk s1.env) (hst:∀ i o,ops[i]? = some o→i < k→((st i = none ∧ ∀ S,S ∈ ms i→StepF P n (HS S) (g i) (lite D o) (vs i)) ∨ ∃ c,st i = some c ∧ ∀ S,S ∈ ms i→StepG P n (HS S) (g i) (lite D o) (vs i) (HS (S ||| 2 ^ c))) ∧ g (i + 1) = updF (g i) o.dst (vs i)) (hend0:HS (2 ^ m0 - 1) = s1.H)
 (ht:Tr P n q ((ops.toList.drop k).map (lite D)) s1 s') :
 ∀ (fuel:Nat) (L:Array Bool) (U:List Nat) (ι:Nat→Option Nat) (S0:Nat) (a:Act) (w:World),S0 < 2 ^ m0→(∀ j c,j < k→st j = some c→(L.getD j false = true ↔ S0.testBit c = true))→L.size = ops.size→(∀ j,j < k→(L.getD j false = false ↔ j ∈ U))→U.length + (ops.size - k) ≤ fuel→(∀ j,k ≤ j→L.getD j false = false)→Closed ops L→SRF n w0 O (mix D k (g 0) (g k) L) (HS S0) ι a w →
  wpAny P .any ops (normQ w0 O n s') fuel L a w:=by
 have hDi:∀ (i:Nat) (o:Oper),ops[i]? = some o→D[i]? = some o.dst:=fun i o ho=>by subst hD;rw [List.getElem?_map,Array.getElem?_toList,ho];rfl
 -- what the slots hold from step to step
 have hkeep:∀ t i j,i ≤ j→j ≤ k→(∀ m,i ≤ m→m < j→D[m]? ≠ some (some t))→g j t = g i t:=by
  intro t i j hij
  obtain ⟨d,rfl⟩:=Nat.exists_eq_add_of_le hij
  clear hij
  induction d with
  | zero=>intro _ _;rfl
  | succ d ih =>
    intro hjk hno
    generalize hjd:i + d = j at ih
    have hij:i ≤ j:=by omega
    rw [show i + (d + 1) = j + 1 by omega] at hjk hno ⊢
    have ho:ops[j]? = some ops[j]:=Array.getElem?_eq_getElem (by omega)
    rw [(hst j _ ho (by omega)).2]
    unfold updF
    rw [if_neg (fun e=>hno j hij (by omega) (by rw [hDi j _ ho,e]))]
    exact ih (by omega) fun m hm hmj=>hno m hm (by omega)
 have hwr:∀ j o d,ops[j]? = some o→j < k→o.dst = some d→g k d = vs j ∧ ∀ i,j < i→i ≤ k→g i d = vs j:=by
  intro j o d ho hj hd
  have h1:g (j + 1) d = vs j:=by rw [(hst j o ho hj).2];simp [updF,hd]
  have h2:∀ i,j < i→i ≤ k→g i d = vs j:=fun i hi hik=>by
   rw [hkeep d (j + 1) i hi hik fun m hm hmi e=>hf.one j m d hj (by omega) (by omega) (by rw [hDi j o ho,hd]) e]
   exact h1
  exact ⟨h2 k hj (Nat.le_refl _),h2⟩
 intro fuel
 have hend:∀ (L:Array Bool) (ι:Nat→Option Nat) (a:Act) (w:World),L.size = ops.size→(∀ j,k ≤ j→L.getD j false = false)→SRF n w0 O (mix D k (g 0) (g k) L) s1.H ι a w→(∀ j,j < k→L.getD j false = true)→SR n w0 O s1 ι a w:=by
  intro L ι a w hsz hL hs hall
  refine ⟨hs.sit,hs.defers,hs.size,hs.hand,fun t=>?_⟩
  have h1:=hs.vals t
  have h2:mix D k (g 0) (g k) L t = lk s1.env t:=by
   rw [← hgk']
   by_cases hex:∃ j,j < k ∧ D[j]? = some (some t)
   ·obtain ⟨j,hj,hd⟩:=hex
    exact mix_in hj (hall j hj) hd
   ·rw [mix_out (fun j hj _ hd=>hex ⟨j,hj,hd⟩)]
    exact (hkeep t 0 k (Nat.zero_le _) (Nat.le_refl _) fun m _ hm hd=>hex ⟨m,hm,hd⟩).symm
  rwa [h2] at h1
 have htail:∀ (L:Array Bool) (ι:Nat→Option Nat) (S0:Nat) (a:Act) (w:World) (fuel:Nat),S0 < 2 ^ m0→(∀ j c,j < k→st j = some c→(L.getD j false = true ↔ S0.testBit c = true))→L.size = ops.size→(∀ j,k ≤ j→L.getD j false = false)→SRF n w0 O (mix D k (g 0) (g k) L) (HS S0) ι a w→(∀ j,j < k→L.getD j false = true)→ops.size ≤ k + fuel →
  wpAny P .any ops (normQ w0 O n s') fuel L a w:=by
  intro L ι S0 a w fuel hS0 hst0 hsz hL hs hall hfu
  have hcm:S0 = 2 ^ m0 - 1:=by
   refine Nat.eq_of_testBit_eq fun i=>?_
   rw [Nat.testBit_two_pow_sub_one]
   rcases Nat.lt_or_ge i m0 with h | h
   ·obtain ⟨j,hj,he⟩:=hgr.all i h
    rw [(hst0 j i hj he).1 (hall j hj)]
    simp [h]
   ·rw [Nat.testBit_lt_two_pow (Nat.lt_of_lt_of_le hS0 (Nat.pow_le_pow_right (by decide) h))]
    simp;omega
  rw [hcm,hend0] at hs
  refine wpAny_tail hD hgk hf fuel k s1 L ι a w (Nat.le_refl _) hk hfu hsz (fun j hj=>?_) ht (hend L ι a w hsz hL hs hall)
  rcases Nat.lt_or_ge j k with h | h
  ·rw [hall j h];simp [h]
  ·rw [hL j h];simp;omega
 induction fuel with
 | zero =>
   intro L U ι S0 a w hc0 hst0 hsz hU hc hL hcl hs
   have hnil:U = []:=List.eq_nil_of_length_eq_zero (by omega)
   subst hnil
   exact htail L ι S0 a w 0 hc0 hst0 hsz hL hs (fun j hj=>by
    cases h:L.getD j false with
    | true=>rfl
    | false=>exact absurd ((hU j hj).1 h) (by simp)) (by omega)
 | succ fuel ih =>
   intro L U ι S0 a w hc0 hst0 hsz hU hc hL hcl hs
   by_cases hall:∀ j,j < k→L.getD j false = true
   ·exact htail L ι S0 a w _ hc0 hst0 hsz hL hs hall (by omega)
   ·have hget:∀ i,i < ops.size→L.getD i true = L.getD i false:=fun i hi=>by simp [Array.getD_eq_getD_getElem?,Array.getElem?_eq_getElem (show i < L.size by omega)]
    refine ⟨fun hnil=>?_,fun i hi=>?_⟩
    ·exfalso
     -- the least operation that has not run is ready
     have hex:∃ j,j < k ∧ L.getD j false = false:=by
      rcases Classical.em (∃ j,j < k ∧ L.getD j false = false) with h | h
      ·exact h
      ·exact absurd (fun j hj=>by
        cases h':L.getD j false with
        | true=>rfl
        | false=>exact absurd ⟨j,hj,h'⟩ h) hall
     obtain ⟨j,hj,hjf⟩:=hex
     have hmin:∀ m,(∃ j,j < m ∧ j < k ∧ L.getD j false = false)→∃ j,j < k ∧ L.getD j false = false ∧ ∀ i,i < j→L.getD i false = true:=by
      intro m
      induction m with
      | zero=>rintro ⟨j,h,_⟩;omega
      | succ m ihm =>
        rintro ⟨j,h1,h2,h3⟩
        by_cases h:∃ j,j < m ∧ j < k ∧ L.getD j false = false
        ·exact ihm h
        ·refine ⟨j,h2,h3,fun i hi=>?_⟩
         cases h':L.getD i false with
         | true=>rfl
         | false=>exact absurd ⟨i,by omega,by omega,h'⟩ h
     obtain ⟨j,hj,hjf,hlo⟩:=hmin (j + 1) ⟨j,by omega,hj,hjf⟩
     have:j ∈ Region.ready .any ops L:=mem_ready.2 ⟨ops[j],Array.getElem?_eq_getElem (by omega),by rw [hget j (by omega)];exact hjf,fun e he hb=>hlo _ (hf.down j _ (Array.getElem?_eq_getElem (by omega)) e he hb)⟩
     rw [hnil] at this
     cases this
    ·obtain ⟨o,ho,h1,h2⟩:=mem_ready.1 hi
     have his:i < ops.size:=(Array.getElem?_eq_some_iff.1 ho).1
     rw [hget i his] at h1
     have hik:i < k:=by
      rcases Nat.lt_or_ge i k with h | h
      ·exact h
      ·exact absurd (fun j hj=>reach_listed hcl 8 (hf.tail i o ho h j (by omega)) h2) hall
     obtain ⟨h3,h4⟩:=hst i o ho hik
     have hagree:∀ t ∈ readsOf D o,mix D k (g 0) (g k) L t = g i t:=fun t htr=>by
      by_cases hex:∃ j,j < k ∧ D[j]? = some (some t)
      ·obtain ⟨j,hj,hd⟩:=hex
       obtain ⟨h5,h6⟩:=hf.reads i o ho hik t htr j hj hd
       have hoj:ops[j]? = some ops[j]:=Array.getElem?_eq_getElem (by omega)
       have hdj:ops[j].dst = some t:=by have:=hDi j _ hoj;rw [hd] at this;injection this with this;exact this.symm
       rw [mix_in hj (hasEdge_listed h6 h2) hd,(hwr j _ t hoj hj hdj).1,(hwr j _ t hoj hj hdj).2 i h5 (by omega)]
      ·rw [mix_out (fun j hj _ hd=>hex ⟨j,hj,hd⟩)]
       exact (hkeep t 0 i (Nat.zero_le _) (by omega) fun m _ hm hd=>hex ⟨m,by omega,hd⟩).symm
     have hiU:i ∈ U:=(hU i hik).1 h1
     have hgo:∀ (ι':Nat→Option Nat) (c1:Nat) (a':Act) (w':World),c1 < 2 ^ m0→(∀ j c,j < k→st j = some c→((L.setIfInBounds i true).getD j false = true ↔ c1.testBit c = true))→SRF n w0 O (updF (mix D k (g 0) (g k) L) o.dst (vs i)) (HS c1) ι' a' w' →
      wpAny P .any ops (normQ w0 O n s') fuel (L.setIfInBounds i true) a' w':=by
      intro ι' c1 a' w' hc1 hst1 hs'
      refine ih (L.setIfInBounds i true) (U.filter (· != i)) ι' c1 a' w' hc1 hst1 (by simp [hsz]) (fun j hj=>?_) ?_ (fun j hj=>?_) (hcl.set ho (by omega) h2) ?_
      ·simp only [Array.getD_eq_getD_getElem?,Array.getElem?_setIfInBounds,List.mem_filter]
       by_cases e:i = j
       ·subst e;simp [show i < L.size by omega]
       ·have:=hU j hj
        simp only [Array.getD_eq_getD_getElem?] at this
        simp only [e,if_false,this,bne_iff_ne,ne_eq]
        exact ⟨fun h=>⟨h,fun h'=>e h'.symm⟩,fun h=>h.1⟩
      ·have:(U.filter (· != i)).length < U.length:=by
        have h7:=List.length_filter_lt_length_iff_exists (l:=U) (p:=(· != i))
        exact h7.2 ⟨i,hiU,by simp⟩
       omega
      ·simp only [Array.getD_eq_getD_getElem?,Array.getElem?_setIfInBounds]
       have:=hL j hj
       simp only [Array.getD_eq_getD_getElem?] at this
       rw [if_neg (by omega)];exact this
      ·have hmx:mix D k (g 0) (g k) (L.setIfInBounds i true) = updF (mix D k (g 0) (g k) L) o.dst (vs i):=by
        funext t
        unfold updF
        by_cases e:o.dst = some t
        ·rw [if_pos e,mix_in hik (by simp [Array.getD_eq_getD_getElem?,show i < L.size by omega]) (by rw [hDi i o ho,e]),(hwr i o t ho hik e).1]
        ·rw [if_neg e]
         have hsame:∀ j,D[j]? = some (some t)→(L.setIfInBounds i true).getD j false = L.getD j false:=by
          intro j hd
          have hne:i ≠ j:=fun e'=>by subst e';rw [hDi i o ho] at hd;injection hd with hd;exact e hd
          simp only [Array.getD_eq_getD_getElem?,Array.getElem?_setIfInBounds,hne,if_false]
         by_cases hex:∃ j,j < k ∧ L.getD j false = true ∧ D[j]? = some (some t)
         ·obtain ⟨j,hj,hl,hd⟩:=hex
          rw [mix_in hj hl hd,mix_in hj (by rw [hsame j hd];exact hl) hd]
         ·rw [mix_out (fun j hj hl hd=>hex ⟨j,hj,hl,hd⟩),mix_out (fun j hj hl hd=>hex ⟨j,hj,by rw [← hsame j hd];exact hl,hd⟩)]
       rw [hmx];exact hs'
     have hset:∀ j,(L.setIfInBounds i true).getD j false = if i = j then true else L.getD j false:=fun j=>by
      simp only [Array.getD_eq_getD_getElem?,Array.getElem?_setIfInBounds]
      by_cases e:i = j
      ·subst e;simp [show i < L.size by omega]
      ·simp [e]
     have hgo':=List.all_eq_true.1 hgk o (by rw [← Array.getElem?_toList] at ho;exact List.mem_of_getElem? ho)
     have hrun:S0 ∈ ms i:=hgr.run i o S0 hik ho hc0 (fun j c hj he hed=>(hst0 j c hj he).1 (hasEdge_listed hed h2))
      (fun j o' c hj ho' he hb=>by
        have h7:=(hst0 j c hj he).2 hb
        cases hed:hasEdge o' i with
        | false=>rfl
        | true =>
          have:=hasEdge_listed hed (hcl j o' ho' h7)
          rw [h1] at this;cases this)
      (fun c he=>by
        cases hb:S0.testBit c with
        | false=>rfl
        | true=>have:=(hst0 i c hik he).2 hb;rw [h1] at this;cases this)
     rcases h3 with ⟨hn,h3⟩ | ⟨c,hc',h3⟩
     ·refine (h3 S0 hrun).run hD ho hgo' hagree hs fun a' w' hs'=>hgo ι S0 a' w' hc0 (fun j c hj he=>?_) hs'
      rw [hset,if_neg (fun e=>by subst e;rw [hn] at he;cases he)]
      exact hst0 j c hj he
     ·refine (h3 S0 hrun).run ho hagree hs fun ι' a' w' hs'=>hgo ι' (S0 ||| 2 ^ c) a' w' (Nat.or_lt_two_pow hc0 (Nat.pow_lt_pow_right (by decide) (hgr.lt i c hik hc'))) (fun j d hj he=>?_) hs'
      rw [hset,Nat.testBit_or,Nat.testBit_two_pow]
      by_cases e:i = j
      ·subst e;rw [hc'] at he;injection he with he;subst he;simp
      ·rw [if_neg e,hst0 j d hj he]
       have:d ≠ c:=fun h=>e (hgr.one i j c hik hj hc' (h ▸ he))
       simp [Ne.symm this]
inductive TrM (P:Program) (n:Fr) (HS:Nat→List ABlk):List LOp→List (Option Nat)→List (List Nat)→Env→Env→Prop
 | nil (E:Env):TrM P n HS [] [] [] E E
 | q (o:LOp) (l:List LOp) (sl:List (Option Nat)) (b:List Nat) (bl:List (List Nat)) (E:Env) (v:AV) (E':Env) (h:∀ S,S ∈ b→StepF P n (HS S) (lk E) o v) (hr:TrM P n HS l sl bl (putE E o.dst v) E'):TrM P n HS (o :: l) (none :: sl) (b :: bl) E E'
 | p (o:LOp) (l:List LOp) (sl:List (Option Nat)) (b:List Nat) (bl:List (List Nat)) (E:Env) (v:AV) (E':Env) (c:Nat) (h:∀ S,S ∈ b→StepG P n (HS S) (lk E) o v (HS (S ||| 2 ^ c))) (hr:TrM P n HS l sl bl (putE E o.dst v) E'):TrM P n HS (o :: l) (some c :: sl) (b :: bl) E E'
theorem TrM.all {HS:Nat→List ABlk}:∀ {l:List LOp} {sl:List (Option Nat)} {bl:List (List Nat)} {E E':Env},TrM P n HS l sl bl E E'→∃ (g:Nat→Nat→AV) (vs:Nat→AV),g 0 = lk E ∧ g l.length = lk E' ∧
 ∀ i o,l[i]? = some o→((sl.getD i none = none ∧ ∀ S,S ∈ bl.getD i []→StepF P n (HS S) (g i) o (vs i)) ∨ ∃ c,sl.getD i none = some c ∧ ∀ S,S ∈ bl.getD i []→StepG P n (HS S) (g i) o (vs i) (HS (S ||| 2 ^ c))) ∧ g (i + 1) = updF (g i) o.dst (vs i)
 | _,_,_,E,_,.nil _=>⟨fun _=>lk E,fun _=>.bad,rfl,rfl,fun i o h=>by simp at h⟩
 | _,_,_,E,E',.q o l sl b bl _ v _ h hr=>by
   obtain ⟨g,vs,h4,h5,h6⟩:=hr.all
   refine ⟨fun i=>match i with | 0=>lk E | i + 1=>g i,fun i=>match i with | 0=>v | i + 1=>vs i,rfl,h5,fun i o' ho'=>?_⟩
   cases i with
   | zero =>
     simp at ho';subst ho'
     exact ⟨.inl ⟨rfl,h⟩,by show g 0 = _;rw [h4,lk_putE]⟩
   | succ i=>exact h6 i o' (by simpa using ho')
 | _,_,_,E,E',.p o l sl b bl _ v _ c h hr=>by
   obtain ⟨g,vs,h4,h5,h6⟩:=hr.all
   refine ⟨fun i=>match i with | 0=>lk E | i + 1=>g i,fun i=>match i with | 0=>v | i + 1=>vs i,rfl,h5,fun i o' ho'=>?_⟩
   cases i with
   | zero =>
     simp at ho';subst ho'
     exact ⟨.inr ⟨c,rfl,h⟩,by show g 0 = _;rw [h4,lk_putE]⟩
   | succ i=>exact h6 i o' (by simpa using ho')
theorem AWp.drawM {id:Nat} {ops:Array Oper} {D:List (Option Tmp)} {k:Nat} {l1 l2:List LOp} {Q:Exit→ASt→Prop} {s:ASt} (sl:List (Option Nat)) (bl:List (List Nat)) (HS:Nat→List ABlk) (m:Nat) (hm:P.follows .mixedOrders = true) (h:RegD ops k D l1 l2)
 (hg:maskOk sl bl ops k m = true) (h0:HS 0 = s.H) {E':Env} (h1:TrM P n HS l1 sl bl s.env E') (hr:ARun P n false l2 (Q .normal) ⟨E',HS (2 ^ m - 1)⟩):AWp P n (.region id ops true) Q s:=by
 intro w0 O ι a w hs
 obtain ⟨hD,hgk,hf,hk,hl1,hl2⟩:=h
 obtain ⟨s',h2,h3⟩:=hr
 have key:(Code.region id ops true).wp P (normQ w0 O n s') a w:=by
  refine wp_region_any hm ?_
  obtain ⟨g,vs,hg0,hgk',hst⟩:=h1.all
  have hlen:l1.length = k:=by rw [← hl1];simp;omega
  rw [hlen] at hgk'
  have hbw:Below w.heap.size w { w with drawn:=w.drawn + 1 }:=(Below.refl _ _).drew
  refine wpAny_growM (s1:=⟨E',HS (2 ^ m - 1)⟩) (st:=fun i=>sl.getD i none) (ms:=fun i=>bl.getD i []) hD hgk (drawOk_facts hf) (maskOk_facts hg) hk (g:=g) (vs:=vs) hgk' (fun i o ho hi=>?_) rfl (by rw [hl2];exact h2) ops.size _ (List.range k) ι 0 a _ (Nat.two_pow_pos _) (fun j c hj hc=>?_) (by simp) (fun j hj=>?_) (by simp;omega) (fun j hj=>?_) (fun j o' _ hj=>by simp only [Array.getD_eq_getD_getElem?,Array.getElem?_replicate] at hj;split at hj <;> cases hj) ?_
  ·exact hst i (lite D o) (by rw [← hl1,List.getElem?_map,List.getElem?_take,if_pos hi,Array.getElem?_toList,ho];rfl)
  ·simp only [Array.getD_eq_getD_getElem?,Array.getElem?_replicate];split <;> simp
  ·simp [Array.getD_eq_getD_getElem?,hj,Array.getElem?_replicate];split <;> rfl
  ·simp only [Array.getD_eq_getD_getElem?,Array.getElem?_replicate];split <;> rfl
  ·rw [h0]
   refine ⟨hs.sit.quiet hbw,hs.defers,hs.size,hs.hand,fun t=>?_⟩
   have:mix D k (g 0) (g k) (Array.replicate ops.size false) t = lk s.env t:=by
    rw [mix_out,hg0]
    intro j hj hl
    simp only [Array.getD_eq_getD_getElem?,Array.getElem?_replicate] at hl
    split at hl <;> cases hl
   rw [this]
   exact (hs.vals t).mono (Goes.quiet hs.sit hbw)
 refine wp_mono key ?_
 rintro e a w ⟨rfl,ι',h⟩
 exact ⟨s',ι',h3,h⟩
def MRun (P:Program) (n:Fr) (HS:Nat→List ABlk) (l:List LOp) (sl:List (Option Nat)) (bl:List (List Nat)) (K:Env→Prop) (E:Env):Prop:=∃ E',TrM P n HS l sl bl E E' ∧ K E'
section
variable {HS:Nat→List ABlk} {b:List Nat} {o:LOp} {l:List LOp} {sl:List (Option Nat)} {bl:List (List Nat)} {E:Env} {v:AV} {K:Env→Prop}
theorem MRun.nil (h:K E):MRun P n HS [] [] [] K E:=⟨E,.nil E,h⟩
theorem MRun.q1 (hg:o.g = none) (hd:dstOk n o.dst = true) (h:∀ S,S ∈ b→QL P (HS S) (ev E) o.op v) (hr:MRun P n HS l sl bl K (putE E o.dst v)):MRun P n HS (o :: l) (none :: sl) (b :: bl) K E:=
 let ⟨E',h1,h2⟩:=hr;⟨E',.q o l sl b bl E v E' (fun S hS=>.q1 v hg hd (by rw [show evF (lk E) = ev E from funext fun x=>(ev_eq E x).symm];exact (h S hS).t)) h1,h2⟩
theorem MRun.p1 {c:Nat} (hg:o.g = none) (hd:dstOk n o.dst = true) (h:∀ S,S ∈ b→PLo P (HS S) (ev E) o.op v (HS (S ||| 2 ^ c))) (hr:MRun P n HS l sl bl K (putE E o.dst v)):MRun P n HS (o :: l) (some c :: sl) (b :: bl) K E:=
 let ⟨E',h1,h2⟩:=hr;⟨E',.p o l sl b bl E v E' c (fun S hS=>⟨hg,hd,by rw [show evF (lk E) = ev E from funext fun x=>(ev_eq E x).symm];exact h S hS⟩) h1,h2⟩
theorem AWp.drawMK {id:Nat} {ops:Array Oper} {D:List (Option Tmp)} {k:Nat} {l1 l2:List LOp} {Q:Exit→ASt→Prop} {s:ASt} (sl:List (Option Nat)) (bl:List (List Nat)) (HS:Nat→List ABlk) (m:Nat) (hm:P.follows .mixedOrders = true) (h:RegD ops k D l1 l2)
 (hg:maskOk sl bl ops k m = true) (h0:HS 0 = s.H) (h1:MRun P n HS l1 sl bl (fun E'=>ARun P n false l2 (Q .normal) ⟨E',HS (2 ^ m - 1)⟩) s.env):AWp P n (.region id ops true) Q s:=
 let ⟨E',h3,h4⟩:=h1;.drawM sl bl HS m hm h hg h0 h3 h4
end
theorem Sit.fill (hs:Sit w0 O ι H w) {b:Nat} {blk0:ABlk} (hb0:H[b]? = some blk0) (he0:blk0.es = []) (blk:ABlk) (hne:blk.es ≠ []) (c:Array Value) (hmt:blk.ty < mapTy) (h1:blk.es.length * blk.sz ≤ c.size) (h2:∀ e ∈ blk.es,e.cells.length = blk.sz)
 (h3:∀ (i j:Nat) (e d:AV),blk.es[i]? = some e→e.cells[j]? = some d→∃ u,c[i * blk.sz + j]? = some u ∧ VR w (OO O ι H) ι H d u) :
 Sit w0 O (upd ι b w.heap.size) (H.set b blk) (w.alloc (.cells c blk.ty)) ∧
 Goes w (OO O ι H) ι H (w.alloc (.cells c blk.ty)) (OO O (upd ι b w.heap.size) (H.set b blk)) (upd ι b w.heap.size) (H.set b blk):=by
 have hbl:b < H.length:=(List.getElem?_eq_some_iff.1 hb0).1
 have hb:Below w.heap.size w (w.alloc (.cells c blk.ty)):=(Below.refl _ _).alloc (by omega) _
 obtain ⟨H2,hH2⟩:∃ H2,H2 = H.set b blk:=⟨_,rfl⟩
 rw [← hH2]
 have hlen2:H2.length = H.length:=by rw [hH2];simp
 have hget:∀ b' bk,H2[b']? = some bk→(b' = b ∧ bk = blk) ∨ (b' ≠ b ∧ H[b']? = some bk):=by
  intro b' bk h
  rw [hH2,List.getElem?_set] at h
  by_cases e:b = b'
  ·subst e;rw [if_pos rfl,if_pos hbl] at h;injection h with h;exact .inl ⟨rfl,h.symm⟩
  ·rw [if_neg e] at h;exact .inr ⟨fun e'=>e e'.symm,h⟩
 have hinv:∀ b' x,b' < H2.length→upd ι b w.heap.size b' = some x→(b' = b ∧ x = w.heap.size) ∨ (b' ≠ b ∧ b' < H.length ∧ ι b' = some x):=by
  intro b' x hb' hx
  by_cases e:b' = b
  ·subst e;rw [upd_same] at hx;injection hx with hx;exact .inl ⟨rfl,hx.symm⟩
  ·rw [upd_other e] at hx;exact .inr ⟨e,by omega,hx⟩
 have hrng:∀ b x,b < H.length→ι b = some x→x < w.heap.size:=fun b x hb hx=>(hs.heap b _ x (List.getElem?_eq_getElem hb) hx).2.lt
 have g:Goes w (OO O ι H) ι H (w.alloc (.cells c blk.ty)) (OO O (upd ι b w.heap.size) H2) (upd ι b w.heap.size) H2:=by
  refine ⟨fun p u _ h=>by rw [hb.block p (heap_lt h)];exact h,fun p u h hc=>?_,fun b' bk h=>?_,fun b' x bk bk' c' ty fz h1 h2 hl hi h=>?_⟩
  ·rintro (ho | ⟨b',hbl',hx⟩)
   ·exact h (.inl ho)
   ·rcases hinv b' _ hbl' hx with ⟨_,e⟩ | ⟨_,h4,h5⟩
    ·have:=heap_lt hc;omega
    ·exact h (.inr ⟨b',h4,h5⟩)
  ·by_cases e:b' = b
   ·subst e
    rw [hb0] at h;injection h with h;subst h
    refine ⟨blk,by rw [hH2];simp [hbl],by rw [he0];simp,fun he=>?_⟩
    rw [he0] at he
    exact absurd (List.eq_nil_of_length_eq_zero he) hne
   ·exact ⟨bk,by rw [hH2,List.getElem?_set_ne (fun e'=>e e'.symm)];exact h,Nat.le_refl _,fun _=>⟨rfl,upd_other e⟩⟩
  ·have hlt:x < w.heap.size:=hrng b' x (List.getElem?_eq_some_iff.1 h1).1 hi
   exact ⟨c',ty,fz,by rw [hb.block x hlt];exact h,rfl⟩
 refine ⟨⟨fun b' bk x h hx=>?_,fun b' bk h hx=>?_,fun b1 b2 x h h' hx hx'=>?_,hs.below.step hb,fun x hx=>Nat.lt_of_lt_of_le (hs.old x hx) hb.size,fun x b' hO hbl' hx=>?_,hs.hist.trans g.grow⟩,g⟩
 ·rcases hget b' bk h with ⟨rfl,rfl⟩ | ⟨hne',h'⟩
  ·rw [upd_same] at hx;injection hx with hx;subst hx
   refine ⟨.inl hs.below.size,c,?_,h1,h2,fun i j e d he hd=>?_⟩
   ·rw [rowAt,heap_alloc_new w _];simp [objRow,hmt]
   ·obtain ⟨u,hu,hv⟩:=h3 i j e d he hd
    exact ⟨u,hu,hv.mono g⟩
  ·rw [upd_other hne'] at hx
   obtain ⟨h6,h7⟩:=hs.heap b' bk x h' hx
   exact ⟨h6,h7.mono g (hb.block x h7.lt)⟩
 ·rcases hget b' bk h with ⟨rfl,rfl⟩ | ⟨hne',h'⟩
  ·rw [upd_same] at hx;cases hx
  ·rw [upd_other hne'] at hx;exact hs.empt b' bk h' hx
 ·rcases hinv b1 x h hx with ⟨rfl,rfl⟩ | ⟨n1,h4,h5⟩
  ·rcases hinv b2 _ h' hx' with ⟨rfl,_⟩ | ⟨_,h6,h7⟩
   ·rfl
   ·have:=hrng b2 _ h6 h7;omega
  ·rcases hinv b2 x h' hx' with ⟨rfl,rfl⟩ | ⟨_,h6,h7⟩
   ·have:=hrng b1 _ h4 h5;omega
   ·exact hs.inj b1 b2 x h4 h6 h5 h7
 ·rcases hinv b' x hbl' hx with ⟨_,e⟩ | ⟨_,h4,h5⟩
  ·have:=hs.old x hO;omega
  ·exact hs.disj x b' hO h4 h5
theorem pl_allocAt {ρ:Operand→AV} {el:TypeId} {z:AV} {b:Nat} {blk0:ABlk} (hb0:H[b]? = some blk0) (he0:blk0.es = []) (hz:zeroA P el = some z) (hc:okCells z = true) (hmt:el < mapTy:=by decide):PL P H ρ (.alloc el) (.ptr b 1 0 0) (H.set b ⟨el,z.cells.length,[z]⟩):=by
 refine PL.of_run fun w0 O ι a w hs hv o ho=>?_
 obtain ⟨zv,hr,rfl⟩:=zero_run (w:=w) hz
 obtain ⟨h2,h3,_⟩:=(VR.cv w (OO O ι H) ι H zv).cells hc
 have hcell:∀ (i j:Nat) (e d:AV),[cv zv][i]? = some e→e.cells[j]? = some d→∃ u,zv.cells[i * (cv zv).cells.length + j]? = some u ∧ VR w (OO O ι H) ι H d u:=by
  intro i j e d he hd
  cases i with
  | zero =>
    simp at he;subst he
    have hj:j < zv.cells.size:=by rw [h2];exact (List.getElem?_eq_some_iff.1 hd).1
    exact ⟨_,by rw [Nat.zero_mul,Nat.zero_add];exact Array.getElem?_eq_getElem hj,h3 j d _ hd (Array.getElem?_eq_getElem hj)⟩
  | succ i=>simp at he
 obtain ⟨h4,h5⟩:=hs.fill hb0 he0 ⟨el,(cv zv).cells.length,[cv zv]⟩ (by simp) zv.cells hmt (by simp [h2]) (by simp) hcell
 have hbl:b < H.length:=(List.getElem?_eq_some_iff.1 hb0).1
 refine ⟨.pointer (some ⟨w.heap.size,0,none⟩),_,_,_,?_,.inl rfl,h4,h5,?_⟩
 ·simp only [execOp,ho,Instr.alloc,newVar,newRow,hr,Sem.run_bind,run_newObj,World.alloc_eq,Sem.run_pure,Result.andThen_ok]
 ·have:=VR.ptr (w:=w.alloc (.cells zv.cells el)) (O:=OO O (upd ι b w.heap.size) (H.set b ⟨el,(cv zv).cells.length,[cv zv]⟩)) (ι:=upd ι b w.heap.size) (H:=H.set b ⟨el,(cv zv).cells.length,[cv zv]⟩)
   b 1 0 0 ⟨el,(cv zv).cells.length,[cv zv]⟩ w.heap.size (by simp [hbl]) rfl (upd_same _ _ _) ⟨_,_,_,heap_alloc_new w _⟩
  simpa using this
end
end Go.Ab
namespace Go.Ab
open Go Go.RowKit
section
variable {P:Program} {n:Fr} {Q:Exit→ASt→Prop} {s:ASt}
def AWpI (P:Program) (n:Fr) (c:Code) (Q:Exit→ASt→Prop) (s:ASt):Prop:=
 ∀ (w0:Base) (O:Nat→Prop) (ι:Nat→Option Nat) (a:Act) (w:World),SR n w0 O s ι a w→∀ (b:Frame) (k:List Item) (cs:List Frame),
  ∃ e a' w',liftQ w0 O n Q e a' w' ∧ Arrives P (lone (b.at a (.code c :: .inLoop c :: k)) cs w) b k cs e a' w'
theorem AWpI.turn {c:Code} (h:AWp P n c (thenQ (AWpI P n c Q) Q) s):AWpI P n c Q s:=by
 intro w0 O ι a w hs b k cs
 obtain ⟨e,a1,w1,⟨s',ι',hq,hs'⟩,harr⟩:=h w0 O ι a w hs b (.inLoop c :: k) cs
 cases e with
 | normal =>
   obtain ⟨e2,a2,w2,hq2,harr2⟩:=hq w0 O ι' a1 w1 hs' b k cs
   exact ⟨e2,a2,w2,hq2,.of_steps (Steps.trans harr (.one step_inLoop)) harr2⟩
 | exit id=>exact ⟨_,a1,w1,⟨s',ι',hq,hs'⟩,.pass (x:=.inLoop c) rfl (fun _ _=>.inl (by simp)) harr⟩
 | goto l=>exact ⟨_,a1,w1,⟨s',ι',hq,hs'⟩,.pass (x:=.inLoop c) rfl (fun _ _=>.inl (by simp)) harr⟩
 | ret=>exact ⟨_,a1,w1,⟨s',ι',hq,hs'⟩,.pass (x:=.inLoop c) rfl (fun _ _=>.inl (by simp)) harr⟩
 | panic ch=>exact ⟨_,a1,w1,⟨s',ι',hq,hs'⟩,.pass (x:=.inLoop c) rfl (fun _ _=>.inl (by simp)) harr⟩
 | outgrown=>exact ⟨_,a1,w1,⟨s',ι',hq,hs'⟩,.pass (x:=.inLoop c) rfl (fun _ _=>.inl (by simp)) harr⟩
theorem AWp.turn {c:Code} (h:AWp P n c (thenQ (AWpI P n c Q) Q) s):AWp P n (.loop c) Q s:=by
 intro w0 O ι a w hs b k cs
 obtain ⟨e,a',w',hq,harr⟩:=AWpI.turn h w0 O ι a w hs b k cs
 exact ⟨e,a',w',hq,.of_steps (.one step_loop) harr⟩
end
end Go.Ab
namespace Go.Ab
open Go Go.RowKit
section
variable {P:Program} {H:List ABlk} {ρ:Operand→AV}
end
end Go.Ab
namespace Go.Ab
open Go Go.RowKit
section
variable {P:Program} {H:List ABlk} {ρ:Operand→AV}
end
end Go.Ab
namespace Go.Ab
open Go Go.RowKit
def LeL:List AV→List AV→Prop
 | [],[]=>True
 | a :: l,b :: m=>Le a b ∧ LeL l m
 | _,_=>False
theorem LeL.len:∀ {l m:List AV},LeL l m→l.length = m.length
 | [],[],_=>rfl
 | _ :: l,_ :: m,h=>congrArg (· + 1) (LeL.len h.2)
theorem LeL.get:∀ {l m:List AV},LeL l m→∀ (j:Nat) (a b:AV),l[j]? = some a→m[j]? = some b→Le a b
 | a :: l,b :: m,h,0,x,y,hx,hy=>by
   injection hx with hx;injection hy with hy;subst hx;subst hy;exact h.1
 | a :: l,b :: m,h,j + 1,x,y,hx,hy=>LeL.get h.2 j x y hx hy
theorem LeL.at {l m:List AV} (h:LeL l m) {j:Nat} {b:AV} (hb:m[j]? = some b):∃ a,l[j]? = some a ∧ Le a b:=by
 have hj:j < l.length:=by rw [h.len];exact (List.getElem?_eq_some_iff.1 hb).1
 exact ⟨_,List.getElem?_eq_getElem hj,h.get j _ b (List.getElem?_eq_getElem hj) hb⟩
theorem Le.nil:Le (.base (.slice none 0 0)) (.lst []):=fun w O ι H u hu=>by cases hu;exact .lnil
theorem Le.aggL {cs ds:List AV} (h:LeL cs ds):Le (.agg cs) (.agg ds):=fun w O ι H u hu=>by
 cases hu with
 | agg cs arr hlen hh =>
   refine .agg ds arr (by rw [hlen,h.len]) fun j c u hc hu=>?_
   obtain ⟨a,ha,hl⟩:=h.at hc
   exact hl _ _ _ _ _ (hh j a u ha hu)
theorem FnM.le {P:Program} {m:List (Nat × Obj)} {f:FuncId} {args args':List AV} {d:AV} (h:FnM P m f args d) (hl:LeL args' args):FnM P m f args' d:=
 ⟨h.1,fun w O vs h1 h2 h3 h4=>h.2 w O vs h1 h2 (h3.trans hl.len) fun j a u ha hu=>by
  obtain ⟨b,hb,hle⟩:=hl.at ha
  exact hle _ _ _ _ _ (h4 j b u hb hu)⟩
end Go.Ab
namespace Go.Ab
open Go Go.RowKit
section
variable {P:Program} {n:Fr} {s:ASt}
def noG (Q:Exit→ASt→Prop):Exit→ASt→Prop
 | .goto _,_=>False
 | e,s=>Q e s
theorem AWp.scope {c:Code} {Q:Exit→ASt→Prop} (h:AWp P n c (noG Q) s):AWp P n (.scope c) Q s:=fun w0 O ι a w hs=>by
 refine wp_scope_straight (wp_mono (h w0 O ι a w hs) ?_)
 rintro e a w ⟨s',ι',h1,h2⟩
 cases e with
 | goto l=>exact h1.elim
 | _=>exact ⟨s',ι',h1,h2⟩
theorem AWp.label {l:Nat} {Q:Exit→ASt→Prop} (h:Q .normal s):AWp P n (.label l) Q s:=fun w0 O ι a w hs=>wp_label ⟨s,ι,h,hs⟩
end
end Go.Ab
namespace Go.Ab
open Go Go.RowKit
section
variable {P:Program} {n:Fr} {HS:Nat→List ABlk} {o:LOp} {l:List LOp} {sl:List (Option Nat)} {bl:List Nat} {E:Env} {v:AV} {K:Env→Prop}
end
end Go.Ab
namespace Go.Ab
open Go Go.RowKit
section
variable {P:Program} {H:List ABlk} {ρ:Operand→AV}
theorem ql_slice_own {t el:TypeId} {x:Operand} {lo hi:Option Operand} {b tot off len l h:Nat} {blk:ABlk} (hx:ρ x = .own b tot off len) (ht:P.underlying t = some (.slice el)) (hb:H[b]? = some blk) (htot:blk.es.length = tot)
 (hlo:bnd ρ 0 lo = some l) (hhi:bnd ρ len hi = some h) (hlh:l ≤ h) (hh:h ≤ len) (hsz:szTy P el = some blk.sz):QL P H ρ (.slice t x lo hi none) (.own b tot (off + l) (h - l)):=by
 refine QL.of_run fun w0 O ι a w hs hv o ho=>?_
 have h1:=hv x (by simp [Op.operands])
 have hv2:∀ y,(lo = some y ∨ hi = some y)→VR w (OO O ι H) ι H (ρ y) (a.eval y):=by
  rintro y (rfl | rfl) <;> exact hv y (by simp [Op.operands])
 rw [hx] at h1
 generalize hX:a.eval x = X at h1
 cases h1 with
 | staleOwn b tot off len blk' ad n c hb' hlt=>rw [hb] at hb';cases hb';omega
 | ownNil b blk' hb' he hi' =>
   have hr:=sliceBounds_run (P:=P) (cap:=0) (isSl:=true) hv2 hlo hhi hlh (by omega)
   have:l = 0:=by omega
   have:h = 0:=by omega
   subst l;subst h
   refine ⟨.slice none 0 0,?_,.ownNil b blk' hb' he hi'⟩
   simp only [execOp,ho,hX,Instr.sliceAt,run_underlying ht,Instr.slice,Option.map_none,hr,sizeOf_run hsz,Sem.run_bind,Sem.run_pure,Result.andThen_ok,if_true,Nat.sub_zero]
 | own b tot off len blk' y n cap ad hb' ht' hi' hn hl hcap ha =>
   have hbb:=hb'
   rw [hb] at hbb;cases hbb
   subst hn
   have hr:=sliceBounds_run (P:=P) (cap:=cap) (isSl:=true) hv2 hlo hhi hlh (by omega)
   by_cases hcl:cap = l
   ·refine ⟨.slice (some ad) (h - l) (cap - l),?_,?_⟩
    ·simp only [execOp,ho,hX,Instr.sliceAt,run_underlying ht,Instr.slice,Option.map_none,hr,sizeOf_run hsz,Sem.run_bind,Sem.run_pure,Result.andThen_ok,if_pos hcl]
    ·refine .own b tot (off + l) (h - l) blk y _ _ _ hb' ht' hi' rfl (by omega) (by omega) fun hc=>?_
     obtain ⟨h2,h3,h4⟩:=ha (.inr (by omega))
     have e1:l = 0:=by omega
     have e2:off = 0:=by omega
     subst e1;subst e2
     exact ⟨by simpa using h2,by omega,by simpa using h4⟩
   ·refine ⟨.slice (some (ad.add (l * blk.sz))) (h - l) (cap - l),?_,?_⟩
    ·simp only [execOp,ho,hX,Instr.sliceAt,run_underlying ht,Instr.slice,Option.map_none,hr,sizeOf_run hsz,Sem.run_bind,Sem.run_pure,Result.andThen_ok,if_neg hcl,Option.map_some]
    ·refine .own b tot (off + l) (h - l) blk y _ _ _ hb' ht' hi' rfl (by omega) (by omega) fun hc=>?_
     obtain ⟨h2,h3,c,ty,fz,h4,h5⟩:=ha (.inl (by omega))
     subst h2
     refine ⟨?_,by omega,c,ty,fz,h4,by rw [← h5];congr 1;omega⟩
     rw [add_eq _ _ rfl,Nat.add_mul]
end
end Go.Ab
namespace Go.Ab
open Go Go.RowKit
def hp (N:Nat) (f:Nat→ABlk):List ABlk:=(List.range N).map f
section
variable {N:Nat} {f:Nat→ABlk}
@[simp] theorem hp_len:(hp N f).length = N:=by simp [hp]
theorem hp_get {i:Nat} (h:i < N):(hp N f)[i]? = some (f i):=by simp [hp,h]
theorem hp_ext {L:List ABlk} (hl:L.length = N) (h:∀ i,i < N→L[i]? = some (f i)):L = hp N f:=by
 refine List.ext_getElem? fun i=>?_
 by_cases hi:i < N
 ·rw [h i hi,hp_get hi]
 ·rw [List.getElem?_eq_none (by omega),List.getElem?_eq_none (by simp;omega)]
end
def RfA (S:Nat→Prop) (a:AV):Prop:=Pu a ∨ (∃ b tot i off,a = .ptr b tot i off ∧ S b) ∨ (∃ b tot off len,a = .own b tot off len ∧ S b) ∨ (∃ b,a = .mapv b ∧ S b)
def RfB (S:Nat→Prop) (blk:ABlk):Prop:=∀ e ∈ blk.es,∀ c ∈ e.cells,RfA S c
theorem RfA.pu {S:Nat→Prop} {a:AV} (h:Pu a):RfA S a:=.inl h
theorem RfA.ptr {S:Nat→Prop} {b tot i off:Nat} (h:S b):RfA S (.ptr b tot i off):=.inr (.inl ⟨b,tot,i,off,rfl,h⟩)
theorem RfA.own {S:Nat→Prop} {b tot off len:Nat} (h:S b):RfA S (.own b tot off len):=.inr (.inr (.inl ⟨b,tot,off,len,rfl,h⟩))
theorem RfA.mapv {S:Nat→Prop} {b:Nat} (h:S b):RfA S (.mapv b):=.inr (.inr (.inr ⟨b,rfl,h⟩))
theorem RfA.mono {S S':Nat→Prop} {a:AV} (h:RfA S a) (hs:∀ b,S b→S' b):RfA S' a:=by
 rcases h with h | ⟨b,tot,i,off,rfl,h⟩ | ⟨b,tot,off,len,rfl,h⟩ | ⟨b,rfl,h⟩
 ·exact .pu h
 ·exact .ptr (hs b h)
 ·exact .own (hs b h)
 ·exact .mapv (hs b h)
theorem RfB.mono {S S':Nat→Prop} {b:ABlk} (h:RfB S b) (hs:∀ b,S b→S' b):RfB S' b:=fun e he c hc=>(h e he c hc).mono hs
theorem RfA.mv {S:Nat→Prop} {r:Nat→Option Nat} {H:List ABlk} {a:AV} (h:RfA S a) (hr:∀ b,S b→r b = some b):MvR r H a a:=by
 rcases h with h | ⟨b,tot,i,off,rfl,h⟩ | ⟨b,tot,off,len,rfl,h⟩ | ⟨b,rfl,h⟩
 ·exact .pu h
 ·exact .ptr (hr b h)
 ·exact .own (hr b h)
 ·exact .mapv (hr b h)
theorem RfA.pub {S:Nat→Prop} {r:Nat→Option Nat} {H:List ABlk} {a:AV} (h:RfA S a) (hr:∀ b,S b→r b = some b):PubR r H a a:=by
 rcases h with h | ⟨b,tot,i,off,rfl,h⟩ | ⟨b,tot,off,len,rfl,h⟩ | ⟨b,rfl,h⟩
 ·exact .pu h
 ·exact .ptr (hr b h)
 ·exact .own (hr b h)
 ·exact .mapv (hr b h)
theorem RfB.mv {S:Nat→Prop} {r:Nat→Option Nat} {H:List ABlk} {b:ABlk} (h:RfB S b) (hr:∀ b,S b→r b = some b):BlkMv r H b b:=
 ⟨rfl,rfl,rfl,fun i e e2 h1 h2=>by
  rw [h1] at h2;injection h2 with h2;subst h2
  exact ⟨rfl,fun k c c2 h3 h4=>by
   rw [h3] at h4;injection h4 with h4;subst h4
   exact (h e (List.mem_of_getElem? h1) c (List.mem_of_getElem? h3)).mv hr⟩⟩
def mvr (q p:Nat) (b:Nat):Option Nat:=if b = q then some p else if b = p then none else some b
theorem BR.lessO {w:World} {O O':Nat→Prop} {ι:Nat→Option Nat} {H:List ABlk} {b:ABlk} {x:Nat} (h:BR w O ι H b x) (hO:∀ y,O' y→O y):BR w O' ι H b x:=by
 obtain ⟨c,h1,h2,h3,h4⟩:=h
 exact ⟨c,h1,h2,h3,fun i j e d he hd=>by obtain ⟨u,hu,hv⟩:=h4 i j e d he hd;exact ⟨u,hu,hv.lessO hO⟩⟩
theorem Wk.pad {n:Fr} {E:Env} (hE:∀ p ∈ E,Le (lk E p.1) p.2) {H:List ABlk}:∀ (T:List ABlk),(∀ b ∈ T,b.es = [])→Wk n ⟨E,H⟩ ⟨E,H ++ T⟩
 | [],_=>by rw [List.append_nil];exact fun w0 O ι a w hs=>⟨ι,hs⟩
 | ⟨ty,sz,es⟩ :: T,h=>fun w0 O ι a w hs=>by
   obtain rfl:es = []:=h ⟨ty,sz,es⟩ (by simp)
   obtain ⟨ι1,h1⟩:=Wk.nil (n:=n) (E:=E) (E2:=E) (H:=H) ty sz (fun p hp=>.inl (hE p hp)) w0 O ι a w hs
   obtain ⟨ι2,h2⟩:=Wk.pad (n:=n) (E:=E) hE (H:=H ++ [⟨ty,sz,[]⟩]) T (fun b hb=>h b (by simp [hb])) w0 O ι1 a w h1
   rw [List.append_assoc] at h2
   exact ⟨ι2,h2⟩
theorem ro_range2 {n b:Nat}:ro (List.range n) b = if b < n then some b else none:=by
 unfold ro
 split
 ·rename_i h
  rw [List.findIdx?_eq_some_iff_getElem]
  exact ⟨by simpa using h,by simp,fun j hj=>by simp;omega⟩
 ·rename_i h
  rw [List.findIdx?_eq_none_iff]
  intro x hx
  have:=List.mem_range.1 hx
  simp;omega
theorem rb_range2 {N m j:Nat} (h:j < N):rb (List.range N) m j = some j:=by
 unfold rb
 rw [List.length_range,if_pos h,List.getElem?_range h]
theorem CallE.pre {N:Nat} {H H' T:List ABlk} (hl:H.length = N) (hl':H'.length = N) (hi:∀ b ∈ H,RfB (· < N) b) (ho:∀ b ∈ H',RfB (· < N) b):CallE (List.range N) (H ++ T) H H' (H' ++ T):=
 ⟨List.nodup_range,by rw [List.length_range,hl],fun j b hj=>by
  obtain ⟨h1,h2⟩:=List.getElem?_eq_some_iff.1 hj
  rw [List.length_range] at h1
  rw [List.getElem_range] at h2
  subst h2
  have hjl:j < H.length:=by omega
  exact ⟨H[j],H[j],by rw [List.getElem?_append_left hjl,List.getElem?_eq_getElem hjl],List.getElem?_eq_getElem hjl,(hi _ (List.getElem_mem _)).mv fun b hb=>by rw [ro_range2,if_pos hb]⟩,
 by omega,by simp;omega,fun b hb hn=>by
  have hb2:¬ b < N:=fun h=>hn (List.mem_range.2 h)
  rw [List.getElem?_append_right (by omega),List.getElem?_append_right (by omega),hl,hl'],fun j c bk hr hb=>by
  have hj:=(List.getElem?_eq_some_iff.1 hb).1
  rw [rb_range2 (by omega)] at hr;injection hr with hr;subst hr
  exact ⟨bk,by rw [List.getElem?_append_left hj];exact hb,(ho _ (List.mem_of_getElem? hb)).mv fun b hb=>rb_range2 hb⟩⟩
end Go.Ab
