/- Drawn regions in which memory grows, where what grows later knows what grew ahead of it by way of others. Made from U. -/
import Derived.Test.YthgicbkdckpeaaaDoorG14
import Derived.Test.YthgicbkdckpeaaaDoorG11
set_option linter.unusedSimpArgs false
set_option linter.unusedVariables false
namespace Go.Ab
open Go Go.RowKit
section
variable {P:Program} {n:Fr} {w w':World} {w0:Base} {O:Nat→Prop} {ι ι':Nat→Option Nat} {H H':List ABlk} {u:Value}
structure GrowFacts2 (st:Nat→Option Nat) (ops:Array Oper) (k m:Nat):Prop where
 one:∀ i j c,i < k→j < k→st i = some c→st j = some c→i = j
 lt:∀ i c,i < k→st i = some c→c < m
 chain:∀ i o c c',i < k→ops[i]? = some o→st i = some c→c' < c→∃ j,j < k ∧ st j = some c' ∧ reach ops 2 o j = true
 all:∀ c,c < m→∃ j,j < k ∧ st j = some c
def growOk2 (st:List (Option Nat)) (ops:Array Oper) (k m:Nat):Bool:=
 let is:=List.range k
 (is.all fun i=>is.all fun j=>match st.getD i none,st.getD j none with | some c,some c'=>i == j || c != c' | _,_=>true) &&
 (is.all fun i=>match st.getD i none with | some c=>decide (c < m) && ((List.range c).all fun c'=>is.any fun j=>st.getD j none == some c' && (match ops[i]? with | some o=>reach ops 2 o j | none=>false)) | none=>true) &&
 ((List.range m).all fun c=>is.any fun j=>st.getD j none == some c)
theorem growOk22_facts {st:List (Option Nat)} {ops:Array Oper} {k m:Nat} (h:growOk2 st ops k m = true):GrowFacts2 (fun i=>st.getD i none) ops k m:=by
 unfold growOk2 at h
 simp only [Bool.and_eq_true] at h
 obtain ⟨⟨h1,h2⟩,h3⟩:=h
 have m1:∀ {i:Nat},i < k→i ∈ List.range k:=fun h=>by simpa using h
 refine ⟨fun i j c hi hj e1 e2=>?_,fun i c hi e=>?_,fun i o c c' hi ho e hc=>?_,fun c hc=>?_⟩
 ·have:=List.all_eq_true.1 (List.all_eq_true.1 h1 i (m1 hi)) j (m1 hj)
  simp only [e1,e2] at this
  simpa using this
 ·have:=List.all_eq_true.1 h2 i (m1 hi)
  simp only [e,Bool.and_eq_true] at this
  simpa using this.1
 ·have:=List.all_eq_true.1 h2 i (m1 hi)
  simp only [e,Bool.and_eq_true] at this
  obtain ⟨j,hj,hx⟩:=List.any_eq_true.1 (List.all_eq_true.1 this.2 c' (by simpa using hc))
  simp only [Bool.and_eq_true,beq_iff_eq,ho] at hx
  exact ⟨j,by simpa using hj,hx.1,hx.2⟩
 ·obtain ⟨j,hj,hx⟩:=List.any_eq_true.1 (List.all_eq_true.1 h3 c (by simpa using hc))
  exact ⟨j,by simpa using hj,by simpa using hx⟩
theorem wpAny_grow2 {ops:Array Oper} {D:List (Option Tmp)} {k:Nat} (hD:ops.toList.map (·.dst) = D) (hgk:ops.toList.all (gOk D) = true) (hf:DrawFacts D ops k) {st:Nat→Option Nat} {m0:Nat} {HS:Nat→List ABlk} (hgr:GrowFacts2 st ops k m0) (hk:k ≤ ops.size) {q:Bool} {s1 s':ASt} {O:Nat→Prop}
 {g:Nat→Nat→AV} {vs:Nat→AV} (hgk':g k = lk s1.env) (hst:∀ i o,ops[i]? = some o→i < k→((st i = none ∧ ∀ c,c ≤ m0→StepF P n (HS c) (g i) (lite D o) (vs i)) ∨ ∃ c,st i = some c ∧ StepG P n (HS c) (g i) (lite D o) (vs i) (HS (c + 1))) ∧ g (i + 1) = updF (g i) o.dst (vs i)) (hend0:HS m0 = s1.H)
 (ht:Tr P n q ((ops.toList.drop k).map (lite D)) s1 s') :
 ∀ (fuel:Nat) (L:Array Bool) (U:List Nat) (ι:Nat→Option Nat) (c0:Nat) (a:Act) (w:World),c0 ≤ m0→(∀ j c,j < k→st j = some c→(L.getD j false = true ↔ c < c0))→L.size = ops.size→(∀ j,j < k→(L.getD j false = false ↔ j ∈ U))→U.length + (ops.size - k) ≤ fuel→(∀ j,k ≤ j→L.getD j false = false)→Closed ops L→SRF n w0 O (mix D k (g 0) (g k) L) (HS c0) ι a w →
  wpAny P .any ops (normQ w0 O n s') fuel L a w:=by
 have hDi:∀ (i:Nat) (o:Oper),ops[i]? = some o→D[i]? = some o.dst:=fun i o ho=>by subst hD;rw [List.getElem?_map,Array.getElem?_toList,ho];rfl
 -- what the slots hold from step to step
 have hkeep:∀ t i j,i ≤ j→j ≤ k→(∀ m,i ≤ m→m < j→D[m]? ≠ some (some t))→g j t = g i t:=by
  intro t i j hij
  obtain ⟨d,rfl⟩:=Nat.exists_eq_add_of_le hij
  clear hij
  induction d with
  | zero=>intro _ _;rfl
  | succ d ih =>
    intro hjk hno
    generalize hjd:i + d = j at ih
    have hij:i ≤ j:=by omega
    rw [show i + (d + 1) = j + 1 by omega] at hjk hno ⊢
    have ho:ops[j]? = some ops[j]:=Array.getElem?_eq_getElem (by omega)
    rw [(hst j _ ho (by omega)).2]
    unfold updF
    rw [if_neg (fun e=>hno j hij (by omega) (by rw [hDi j _ ho,e]))]
    exact ih (by omega) fun m hm hmj=>hno m hm (by omega)
 have hwr:∀ j o d,ops[j]? = some o→j < k→o.dst = some d→g k d = vs j ∧ ∀ i,j < i→i ≤ k→g i d = vs j:=by
  intro j o d ho hj hd
  have h1:g (j + 1) d = vs j:=by rw [(hst j o ho hj).2];simp [updF,hd]
  have h2:∀ i,j < i→i ≤ k→g i d = vs j:=fun i hi hik=>by
   rw [hkeep d (j + 1) i hi hik fun m hm hmi e=>hf.one j m d hj (by omega) (by omega) (by rw [hDi j o ho,hd]) e]
   exact h1
  exact ⟨h2 k hj (Nat.le_refl _),h2⟩
 intro fuel
 have hend:∀ (L:Array Bool) (ι:Nat→Option Nat) (a:Act) (w:World),L.size = ops.size→(∀ j,k ≤ j→L.getD j false = false)→SRF n w0 O (mix D k (g 0) (g k) L) s1.H ι a w→(∀ j,j < k→L.getD j false = true)→SR n w0 O s1 ι a w:=by
  intro L ι a w hsz hL hs hall
  refine ⟨hs.sit,hs.defers,hs.size,hs.hand,fun t=>?_⟩
  have h1:=hs.vals t
  have h2:mix D k (g 0) (g k) L t = lk s1.env t:=by
   rw [← hgk']
   by_cases hex:∃ j,j < k ∧ D[j]? = some (some t)
   ·obtain ⟨j,hj,hd⟩:=hex
    exact mix_in hj (hall j hj) hd
   ·rw [mix_out (fun j hj _ hd=>hex ⟨j,hj,hd⟩)]
    exact (hkeep t 0 k (Nat.zero_le _) (Nat.le_refl _) fun m _ hm hd=>hex ⟨m,hm,hd⟩).symm
  rwa [h2] at h1
 have htail:∀ (L:Array Bool) (ι:Nat→Option Nat) (c0:Nat) (a:Act) (w:World) (fuel:Nat),c0 ≤ m0→(∀ j c,j < k→st j = some c→(L.getD j false = true ↔ c < c0))→L.size = ops.size→(∀ j,k ≤ j→L.getD j false = false)→SRF n w0 O (mix D k (g 0) (g k) L) (HS c0) ι a w→(∀ j,j < k→L.getD j false = true)→ops.size ≤ k + fuel →
  wpAny P .any ops (normQ w0 O n s') fuel L a w:=by
  intro L ι c0 a w fuel hc0 hst0 hsz hL hs hall hfu
  have hcm:c0 = m0:=by
   rcases Nat.lt_or_ge c0 m0 with h | h
   ·obtain ⟨j,hj,he⟩:=hgr.all c0 h
    have:=(hst0 j c0 hj he).1 (hall j hj)
    omega
   ·omega
  rw [hcm,hend0] at hs
  refine wpAny_tail hD hgk hf fuel k s1 L ι a w (Nat.le_refl _) hk hfu hsz (fun j hj=>?_) ht (hend L ι a w hsz hL hs hall)
  rcases Nat.lt_or_ge j k with h | h
  ·rw [hall j h];simp [h]
  ·rw [hL j h];simp;omega
 induction fuel with
 | zero =>
   intro L U ι c0 a w hc0 hst0 hsz hU hc hL hcl hs
   have hnil:U = []:=List.eq_nil_of_length_eq_zero (by omega)
   subst hnil
   exact htail L ι c0 a w 0 hc0 hst0 hsz hL hs (fun j hj=>by
    cases h:L.getD j false with
    | true=>rfl
    | false=>exact absurd ((hU j hj).1 h) (by simp)) (by omega)
 | succ fuel ih =>
   intro L U ι c0 a w hc0 hst0 hsz hU hc hL hcl hs
   by_cases hall:∀ j,j < k→L.getD j false = true
   ·exact htail L ι c0 a w _ hc0 hst0 hsz hL hs hall (by omega)
   ·have hget:∀ i,i < ops.size→L.getD i true = L.getD i false:=fun i hi=>by simp [Array.getD_eq_getD_getElem?,Array.getElem?_eq_getElem (show i < L.size by omega)]
    refine ⟨fun hnil=>?_,fun i hi=>?_⟩
    ·exfalso
     -- the least operation that has not run is ready
     have hex:∃ j,j < k ∧ L.getD j false = false:=by
      rcases Classical.em (∃ j,j < k ∧ L.getD j false = false) with h | h
      ·exact h
      ·exact absurd (fun j hj=>by
        cases h':L.getD j false with
        | true=>rfl
        | false=>exact absurd ⟨j,hj,h'⟩ h) hall
     obtain ⟨j,hj,hjf⟩:=hex
     have hmin:∀ m,(∃ j,j < m ∧ j < k ∧ L.getD j false = false)→∃ j,j < k ∧ L.getD j false = false ∧ ∀ i,i < j→L.getD i false = true:=by
      intro m
      induction m with
      | zero=>rintro ⟨j,h,_⟩;omega
      | succ m ihm =>
        rintro ⟨j,h1,h2,h3⟩
        by_cases h:∃ j,j < m ∧ j < k ∧ L.getD j false = false
        ·exact ihm h
        ·refine ⟨j,h2,h3,fun i hi=>?_⟩
         cases h':L.getD i false with
         | true=>rfl
         | false=>exact absurd ⟨i,by omega,by omega,h'⟩ h
     obtain ⟨j,hj,hjf,hlo⟩:=hmin (j + 1) ⟨j,by omega,hj,hjf⟩
     have:j ∈ Region.ready .any ops L:=mem_ready.2 ⟨ops[j],Array.getElem?_eq_getElem (by omega),by rw [hget j (by omega)];exact hjf,fun e he hb=>hlo _ (hf.down j _ (Array.getElem?_eq_getElem (by omega)) e he hb)⟩
     rw [hnil] at this
     cases this
    ·obtain ⟨o,ho,h1,h2⟩:=mem_ready.1 hi
     have his:i < ops.size:=(Array.getElem?_eq_some_iff.1 ho).1
     rw [hget i his] at h1
     have hik:i < k:=by
      rcases Nat.lt_or_ge i k with h | h
      ·exact h
      ·exact absurd (fun j hj=>reach_listed hcl 8 (hf.tail i o ho h j (by omega)) h2) hall
     obtain ⟨h3,h4⟩:=hst i o ho hik
     have hagree:∀ t ∈ readsOf D o,mix D k (g 0) (g k) L t = g i t:=fun t htr=>by
      by_cases hex:∃ j,j < k ∧ D[j]? = some (some t)
      ·obtain ⟨j,hj,hd⟩:=hex
       obtain ⟨h5,h6⟩:=hf.reads i o ho hik t htr j hj hd
       have hoj:ops[j]? = some ops[j]:=Array.getElem?_eq_getElem (by omega)
       have hdj:ops[j].dst = some t:=by have:=hDi j _ hoj;rw [hd] at this;injection this with this;exact this.symm
       rw [mix_in hj (hasEdge_listed h6 h2) hd,(hwr j _ t hoj hj hdj).1,(hwr j _ t hoj hj hdj).2 i h5 (by omega)]
      ·rw [mix_out (fun j hj _ hd=>hex ⟨j,hj,hd⟩)]
       exact (hkeep t 0 i (Nat.zero_le _) (by omega) fun m _ hm hd=>hex ⟨m,by omega,hd⟩).symm
     have hiU:i ∈ U:=(hU i hik).1 h1
     have hgo:∀ (ι':Nat→Option Nat) (c1:Nat) (a':Act) (w':World),c1 ≤ m0→(∀ j c,j < k→st j = some c→((L.setIfInBounds i true).getD j false = true ↔ c < c1))→SRF n w0 O (updF (mix D k (g 0) (g k) L) o.dst (vs i)) (HS c1) ι' a' w' →
      wpAny P .any ops (normQ w0 O n s') fuel (L.setIfInBounds i true) a' w':=by
      intro ι' c1 a' w' hc1 hst1 hs'
      refine ih (L.setIfInBounds i true) (U.filter (· != i)) ι' c1 a' w' hc1 hst1 (by simp [hsz]) (fun j hj=>?_) ?_ (fun j hj=>?_) (hcl.set ho (by omega) h2) ?_
      ·simp only [Array.getD_eq_getD_getElem?,Array.getElem?_setIfInBounds,List.mem_filter]
       by_cases e:i = j
       ·subst e;simp [show i < L.size by omega]
       ·have:=hU j hj
        simp only [Array.getD_eq_getD_getElem?] at this
        simp only [e,if_false,this,bne_iff_ne,ne_eq]
        exact ⟨fun h=>⟨h,fun h'=>e h'.symm⟩,fun h=>h.1⟩
      ·have:(U.filter (· != i)).length < U.length:=by
        have h7:=List.length_filter_lt_length_iff_exists (l:=U) (p:=(· != i))
        exact h7.2 ⟨i,hiU,by simp⟩
       omega
      ·simp only [Array.getD_eq_getD_getElem?,Array.getElem?_setIfInBounds]
       have:=hL j hj
       simp only [Array.getD_eq_getD_getElem?] at this
       rw [if_neg (by omega)];exact this
      ·have hmx:mix D k (g 0) (g k) (L.setIfInBounds i true) = updF (mix D k (g 0) (g k) L) o.dst (vs i):=by
        funext t
        unfold updF
        by_cases e:o.dst = some t
        ·rw [if_pos e,mix_in hik (by simp [Array.getD_eq_getD_getElem?,show i < L.size by omega]) (by rw [hDi i o ho,e]),(hwr i o t ho hik e).1]
        ·rw [if_neg e]
         have hsame:∀ j,D[j]? = some (some t)→(L.setIfInBounds i true).getD j false = L.getD j false:=by
          intro j hd
          have hne:i ≠ j:=fun e'=>by subst e';rw [hDi i o ho] at hd;injection hd with hd;exact e hd
          simp only [Array.getD_eq_getD_getElem?,Array.getElem?_setIfInBounds,hne,if_false]
         by_cases hex:∃ j,j < k ∧ L.getD j false = true ∧ D[j]? = some (some t)
         ·obtain ⟨j,hj,hl,hd⟩:=hex
          rw [mix_in hj hl hd,mix_in hj (by rw [hsame j hd];exact hl) hd]
         ·rw [mix_out (fun j hj hl hd=>hex ⟨j,hj,hl,hd⟩),mix_out (fun j hj hl hd=>hex ⟨j,hj,by rw [← hsame j hd];exact hl,hd⟩)]
       rw [hmx];exact hs'
     have hset:∀ j,(L.setIfInBounds i true).getD j false = if i = j then true else L.getD j false:=fun j=>by
      simp only [Array.getD_eq_getD_getElem?,Array.getElem?_setIfInBounds]
      by_cases e:i = j
      ·subst e;simp [show i < L.size by omega]
      ·simp [e]
     have hgo':=List.all_eq_true.1 hgk o (by rw [← Array.getElem?_toList] at ho;exact List.mem_of_getElem? ho)
     rcases h3 with ⟨hn,h3⟩ | ⟨c,hc',h3⟩
     ·refine (h3 c0 hc0).run hD ho hgo' hagree hs fun a' w' hs'=>hgo ι c0 a' w' hc0 (fun j c hj he=>?_) hs'
      rw [hset,if_neg (fun e=>by subst e;rw [hn] at he;cases he)]
      exact hst0 j c hj he
     ·have hcc:c = c0:=by
       have h5:¬ c < c0:=fun h=>by have:=(hst0 i c hik hc').2 h;rw [h1] at this;cases this
       rcases Nat.lt_or_ge c0 c with h | h
       ·obtain ⟨j,hj,he,hed⟩:=hgr.chain i o c c0 hik ho hc' h
        have:=(hst0 j c0 hj he).1 (reach_listed hcl 2 hed h2)
        omega
       ·omega
      subst hcc
      refine h3.run ho hagree hs fun ι' a' w' hs'=>hgo ι' (c + 1) a' w' (hgr.lt i c hik hc') (fun j d hj he=>?_) hs'
      rw [hset]
      by_cases e:i = j
      ·subst e;rw [hc'] at he;injection he with he;subst he;simp
      ·rw [if_neg e,hst0 j d hj he]
       have:d ≠ c:=fun h=>e (hgr.one i j c hik hj hc' (h ▸ he))
       omega
theorem AWp.drawG2 {id:Nat} {ops:Array Oper} {D:List (Option Tmp)} {k:Nat} {l1 l2:List LOp} {Q:Exit→ASt→Prop} {s:ASt} (sl:List (Option Nat)) (HS:Nat→List ABlk) (m:Nat) (hm:P.follows .mixedOrders = true) (h:RegD ops k D l1 l2)
 (hg:growOk2 sl ops k m = true) (h0:HS 0 = s.H) {E':Env} (h1:TrG P n HS m l1 sl s.env E') (hr:ARun P n false l2 (Q .normal) ⟨E',HS m⟩):AWp P n (.region id ops true) Q s:=by
 intro w0 O ι a w hs
 obtain ⟨hD,hgk,hf,hk,hl1,hl2⟩:=h
 obtain ⟨s',h2,h3⟩:=hr
 have key:(Code.region id ops true).wp P (normQ w0 O n s') a w:=by
  refine wp_region_any hm ?_
  obtain ⟨g,vs,hg0,hgk',hst⟩:=h1.all
  have hlen:l1.length = k:=by rw [← hl1];simp;omega
  rw [hlen] at hgk'
  have hb:Below w.heap.size w { w with drawn:=w.drawn + 1 }:=(Below.refl _ _).drew
  refine wpAny_grow2 (s1:=⟨E',HS m⟩) (st:=fun i=>sl.getD i none) hD hgk (drawOk_facts hf) (growOk22_facts hg) hk (g:=g) (vs:=vs) hgk' (fun i o ho hi=>?_) rfl (by rw [hl2];exact h2) ops.size _ (List.range k) ι 0 a _ (Nat.zero_le _) (fun j c hj hc=>?_) (by simp) (fun j hj=>?_) (by simp;omega) (fun j hj=>?_) (fun j o' _ hj=>by simp only [Array.getD_eq_getD_getElem?,Array.getElem?_replicate] at hj;split at hj <;> cases hj) ?_
  ·exact hst i (lite D o) (by rw [← hl1,List.getElem?_map,List.getElem?_take,if_pos hi,Array.getElem?_toList,ho];rfl)
  ·simp only [Array.getD_eq_getD_getElem?,Array.getElem?_replicate];split <;> simp
  ·simp [Array.getD_eq_getD_getElem?,hj,Array.getElem?_replicate];split <;> rfl
  ·simp only [Array.getD_eq_getD_getElem?,Array.getElem?_replicate];split <;> rfl
  ·rw [h0]
   refine ⟨hs.sit.quiet hb,hs.defers,hs.size,hs.hand,fun t=>?_⟩
   have:mix D k (g 0) (g k) (Array.replicate ops.size false) t = lk s.env t:=by
    rw [mix_out,hg0]
    intro j hj hl
    simp only [Array.getD_eq_getD_getElem?,Array.getElem?_replicate] at hl
    split at hl <;> cases hl
   rw [this]
   exact (hs.vals t).mono (Goes.quiet hs.sit hb)
 refine wp_mono key ?_
 rintro e a w ⟨rfl,ι',h⟩
 exact ⟨s',ι',h3,h⟩
end
section
variable {P:Program} {n:Fr}
theorem drS2 {id k:Nat} {ops:Array Oper} {D:List (Option Tmp)} {l1 l2:List LOp} {Q:Exit→ASt→Prop} {s:ASt} (sl:List (Option Nat)) (HS:Nat→List ABlk) (m:Nat) (hm:P.follows .mixedOrders = true) (h1:GRun P n HS m l1 sl (fun E'=>ARun P n false l2 (Q .normal) ⟨E',HS m⟩) s.env)
 (h:RegD ops k D l1 l2:=by (refine ⟨rfl,rfl,by kernel_rfl,by decide,?_,?_⟩;(simp +decide only [go_sem,List.map,List.take];rfl);(simp +decide only [go_sem,List.map,List.drop];rfl)))
 (hg:growOk2 sl ops k m = true:=by kernel_rfl) (h0:HS 0 = s.H:=by rfl):AWp P n (.region id ops true) Q s:=
 let ⟨E',h3,h4⟩:=h1;.drawG2 sl HS m hm h hg h0 h3 h4
end
end Go.Ab
namespace Go.Ab
open Go Go.RowKit
section
variable {P:Program} {w w':World} {w0:Base} {O:Nat→Prop} {ι:Nat→Option Nat} {H:List ABlk} {u:Value}
end
end Go.Ab
namespace Go.Ab
open Go Go.RowKit
section
variable {P:Program} {H:List ABlk}
def placesA (len sz:Nat):List (Nat × Nat):=(List.range len).map fun i=>(i * sz,sz)
theorem ql_buildA {ρ:Operand→AV} {t el:TypeId} {len sz:Nat} {parts:Array (Nat × Operand)} {zs cs:List AV} (hu:P.underlying t = some (.array len el)) (hsz:szTy P el = some sz) (hz:zeroA P t = some (.agg zs))
 (h:fillA (placesA len sz) zs (parts.toList.map fun (i,x)=>(i,ρ x)) = some cs):QL P H ρ (.build t parts) (.agg cs):=by
 refine QL.of_run fun w0 O ι a w hs hv o ho=>?_
 obtain ⟨zv,hr,hzv⟩:=zero_run (w:=w) hz
 have hrel:RelC w (OO O ι H) ι H zs zv.cells:=by
  have hv0:=VR.cv w (OO O ι H) ι H zv
  rw [← hzv] at hv0
  obtain ⟨arr,rfl,h2,h3⟩:=hv0.agg_inv
  exact ⟨h2,h3⟩
 obtain ⟨arr',h2,h3⟩:=fillA_run (place:=fun i=>some (i * sz,sz)) (fun i x hx=>by
  simp only [placesA,List.getElem?_map,Option.map_eq_some_iff] at hx
  obtain ⟨j,hj,rfl⟩:=hx
  have hlt:=(List.getElem?_eq_some_iff.1 hj).1
  rw [List.getElem?_range (by simpa using hlt)] at hj
  injection hj with hj;subst hj;rfl) (parts.toList.map fun (i,x)=>(i,ρ x)) (parts.toList.map fun (i,x)=>(i,a.eval x)) zs cs zv.cells (by simp)
  (fun j p q hp hq=>by
    simp only [List.getElem?_map,Option.map_eq_some_iff] at hp hq
    obtain ⟨⟨i,x⟩,hx,rfl⟩:=hp
    obtain ⟨y,hy,rfl⟩:=hq
    rw [hx] at hy;injection hy with hy;subst hy
    refine ⟨rfl,hv x ?_⟩
    have:(i,x) ∈ parts:=by rw [Array.getElem?_toList] at hx;exact Array.mem_of_getElem? hx
    simp only [Op.operands,List.mem_toArray,List.mem_map]
    exact ⟨(i,x),by simpa using this,rfl⟩) hrel h
 refine ⟨.agg arr',?_,.agg _ _ h3.1 h3.2⟩
 have h5:(parts.map fun (i,x)=>(i,a.eval x)).toList = parts.toList.map fun (i,x)=>(i,a.eval x):=by simp
 simp only [execOp,ho,Instr.build,hr,Sem.run_bind,Result.andThen_ok,run_underlying hu,sizeOf_run hsz,h5,h2,Sem.run_pure]
end
theorem placesA_2 (sz:Nat):placesA 2 sz = [(0 * sz,sz),(1 * sz,sz)]:=rfl
end Go.Ab
