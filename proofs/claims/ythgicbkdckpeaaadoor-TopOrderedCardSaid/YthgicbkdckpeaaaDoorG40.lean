/- Part of the proof. -/
import Derived.Test.YthgicbkdckpeaaaDoorG39
import Derived.Test.YthgicbkdckpeaaaDoorG17
import Derived.Test.YthgicbkdckpeaaaDoorG38
set_option linter.unusedSimpArgs false
set_option linter.unusedVariables false
set_option maxHeartbeats 4000000
namespace Go.Ab.Rg
open Go Go.Ab Go.Proofs Go.Ab.Ty
attribute [go_sem] beq_self_eq_true
def codeOf (p:Tk) (n:Int):Cd:=if n < 0 then cod p.methods (-1 - n) else cod p.codes n
def numOk (p:Tk) (n:Int):Prop:=(0 ≤ n ∧ n < p.codes.length) ∨ (n < 0 ∧ -n ≤ p.methods.length)
theorem coded_ok (p:Tk) (n:Int) (h:numOk p n):Fn Tryd.prog 75 [encT p,.int n] (.tup [encC (codeOf p n),.bool (decide (n < 0)),.bool true]):=by
 rcases h with h | h
 ·have:=coded_code p n h
  have e:¬ n < 0:=by omega
  simpa [codeOf,e] using this
 ·have:=coded_method p n h
  simpa [codeOf,h.1] using this
def numC (k:Nat):List Int:=(List.range k).map fun i:Nat=>(i:Int)
def numM (k:Nat):List Int:=(List.range k).map fun i:Nat=>-1 - (i:Int)
theorem numC_succ (k:Nat):numC (k + 1) = numC k ++ [(k:Int)]:=by simp [numC,List.range_succ]
theorem numM_succ (k:Nat):numM (k + 1) = numM k ++ [-1 - (k:Int)]:=by simp [numM,List.range_succ]
theorem numC_len (k:Nat):(numC k).length = k:=by simp [numC]
theorem numM_len (k:Nat):(numM k).length = k:=by simp [numM]
def nums (p:Tk):List Int:=numC p.codes.length ++ numM p.methods.length
theorem nums_ok {p:Tk} {n:Int} (h:n ∈ nums p):numOk p n:=by
 simp only [nums,numC,numM,List.mem_append,List.mem_map,List.mem_range] at h
 rcases h with ⟨i,h,rfl⟩ | ⟨i,h,rfl⟩
 ·exact .inl (by omega)
 ·exact .inr (by omega)
noncomputable def stepsF:Rg→List Stp→Int→Option (Int × Int)
 | _,[],_=>none
 | r,s :: l,k=>if afterE r s = 0 then stepsF (afterR r s) l (k + 1) else some (k,afterE r s)
noncomputable def regAt (r:Rg):List Stp→Rg
 | []=>r
 | s :: l=>regAt (afterR r s) l
theorem regAt_app (r:Rg) (l:List Stp) (s:Stp):regAt r (l ++ [s]) = afterR (regAt r l) s:=by
 induction l generalizing r with
 | nil=>rfl
 | cons x l ih=>exact ih _
noncomputable def codeF (p:Tk) (n:Int):Option (Int × Int):=stepsF (startF (codeOf p n) (decide (n < 0))) (codeOf p n).steps 0
noncomputable def numsF (p:Tk):List Int→Int × Int × Int
 | []=>(0,0,0)
 | n :: l=>match codeF p n with
   | none=>numsF p l
   | some (k,e)=>(n,k,e)
theorem inR_of {l:Lk} {i:Int} {s:Stp} (h:okStep l i s) (hv:l.c.vars ≤ 8) (hp:∀ c ∈ l.p.codes,c.params ≤ 4) (hm:∀ c ∈ l.p.methods,c.params ≤ 4):inR s:=by
 have hmem:∀ (L:List Cd) (n:Int),0 ≤ n→n < L.length→cod L n ∈ L:=fun L n h0 h1=>by
  rw [show cod L n = L[n.toNat]'(by omega) from nth_eqI (by omega)];exact List.getElem_mem _
 have hin:∀ vs:List Int,okVars l.c.vars vs→∀ v ∈ vs,0 ≤ v ∧ v < 8:=fun vs hk v hm=>by
  have:=hk.1 v hm;omega
 rcases h with ⟨ho,h1,_⟩ | ⟨ho,h1,_⟩ | ⟨ho,h1,_⟩ | ⟨ho,_,_,_,h4,h5,_,h7,h8⟩ | ⟨ho,_⟩ | ⟨ho,_,_,_,_,_,h6,h7,h8⟩ | ⟨ho,_,_,_,h4,h5,_,h7,h8⟩ | ⟨ho,_⟩
 ·exact ⟨fun _=>hin _ h1 _ (by simp),fun h=>by unfold u2 at h;omega,fun h=>by unfold u5 at h;omega⟩
 ·exact ⟨fun _=>hin _ h1 _ (by simp),fun _=>hin _ h1 _ (by simp),fun h=>by unfold u5 at h;omega⟩
 ·exact ⟨fun _=>hin _ h1 _ (by simp),fun h=>by unfold u2 at h;omega,fun h=>by unfold u5 at h;omega⟩
 ·exact ⟨fun h=>by unfold u1 at h;omega,fun h=>by unfold u2 at h;omega,fun _=>⟨by have:=hp _ (hmem _ _ (by omega) h5);omega,hin _ h8⟩⟩
 ·exact ⟨fun h=>by unfold u1 at h;omega,fun h=>by unfold u2 at h;omega,fun h=>by unfold u5 at h;omega⟩
 ·exact ⟨fun h=>by unfold u1 at h;omega,fun h=>by unfold u2 at h;omega,fun _=>⟨by omega,hin _ h8⟩⟩
 ·exact ⟨fun h=>by unfold u1 at h;omega,fun h=>by unfold u2 at h;omega,fun _=>⟨by have:=hm _ (hmem _ _ h4 h5);omega,hin _ h8⟩⟩
 ·exact ⟨fun h=>by unfold u1 at h;omega,fun h=>by unfold u2 at h;omega,fun h=>by unfold u5 at h;omega⟩
def PuB (blk:ABlk):Prop:=∀ e ∈ blk.es,∀ c ∈ e.cells,Pu c
theorem PuBs {H H2:List ABlk} {k:Nat} (h:∀ blk ∈ H2,PuB blk):∀ blk ∈ H2,∀ e ∈ blk.es,∀ c ∈ e.cells,Pub H k c c:=fun blk hb e he c hc=>.pu (h blk hb e he c hc)
theorem PuB_T (p:Tk):PuB ⟨24,3,[encT p]⟩:=fun e he c hc=>by
 rw [List.mem_singleton] at he;subst he;exact Pu_cellsT p c hc
theorem PuB_R (r:Rg):PuB ⟨124,10,[encR r]⟩:=fun e he c hc=>by
 rw [List.mem_singleton] at he;subst he;exact Pu_cellsR r c hc
theorem PuB_C (c:Cd):PuB ⟨68,3,[encC c]⟩:=fun e he c hc=>by
 rw [List.mem_singleton] at he;subst he
 simp only [encC,AV.cells,List.mem_cons,List.not_mem_nil,or_false] at hc
 rcases hc with rfl | rfl | rfl <;> first | exact .base _ | exact Pu_mapS _
theorem PuB_N (l:List Int):PuB ⟨3,1,l.map .int⟩:=fun e he c hc=>by
 obtain ⟨x,_,rfl⟩:=List.mem_map.1 he
 simp [AV.cells] at hc;subst hc;exact .base _
def encRes (x:Int × Int × Int):AV:=.tup [.int x.1,.int x.2.1,.int x.2.2]
theorem Pu_res (x:Int × Int × Int):Pu (encRes x):=.tup fun c hc=>by
 simp only [List.mem_cons,List.not_mem_nil,or_false] at hc
 rcases hc with rfl | rfl | rfl <;> exact .base _
open Classical in
theorem check_bad (p:Tk) (h:¬ okValid p):Fn Tryd.prog 57 [encT p] (encRes (0,0,230)):=by
 refine Fn.intro' [(0,encT p)] 1 80 Tryd.func57 (by kernel_rfl) rfl rfl rfl rfl rfl ?_
 refine goA ?_
 refine callA (valid_ok p false (by simp [h])) ?_
 refine goA ?_
 refine ifA (fun hc=>?_) (fun hc=>?_)
 ·refine goA ?_
  exact Ret.data rfl rfl (Pu_res _)
 ·simp at hc
open Classical in
theorem check_ok (p:Tk) (h:okValid p) (hin:∀ n ∈ nums p,(0 ≤ (codeOf p n).params ∧ (codeOf p n).params < 8) ∧ (codeOf p n).steps.length ≤ 20 ∧ ∀ s ∈ (codeOf p n).steps,inR s):Fn Tryd.prog 57 [encT p] (encRes (numsF p (nums p))):=by
 refine Fn.intro' [(0,encT p)] 1 80 Tryd.func57 (by kernel_rfl) rfl rfl rfl rfl rfl ?_
 have hc8:=h.1.2.1
 have hm6:=h.1.2.2.1
 refine goA ?_
 refine callA (valid_ok p true (by simp [h])) ?_
 refine goA ?_
 refine ifA (fun hc=>?_) (fun hc=>?_)
 ·simp at hc
 refine goA ?_
 refine AWp.loop (J:=fun k:Nat=>k ≤ p.codes.length)
  (I:=fun k=>⟨[(23,.int k),(22,.int p.codes.length),(5,.own 1 k 0 k),(1,.ptr 0 1 0 0)],[⟨24,3,[encT p]⟩,⟨3,1,(numC k).map .int⟩]⟩) (μ:=fun k=>p.codes.length - k) 0 (Nat.zero_le _)
  (.nil (E2:=[(23,.int (0:Nat)),(22,.int p.codes.length),(5,.own 1 0 0 0),(1,.ptr 0 1 0 0)]) 3 1 (by simp [List.forall_mem_cons,lk,Le.refl])) ?_
 intro k hk
 refine goA ?_
 refine ifA (fun hd=>?_) (fun hd=>?_)
 ·simp at hd
  refine goA ?_
  refine bslA Tryd.underlying25 sz3 ?_
  refine goA ?_
  refine ARun.p1 rfl rfl (pl_append (b:=1) (tot:=k) (es:=[.int k]) (by simp +decide only [go_sem] <;> rfl) (by simp +decide only [go_sem] <;> rfl) (by simp +decide only [go_sem] <;> rfl) (by simp [numC_len]) Tryd.underlying25 el3 rfl rfl (by simp) (fun e he=>by rw [List.mem_singleton] at he;subst he;exact ⟨rfl,rfl⟩) (by simp;omega) (by simp;omega)) ?_
  refine goA ?_
  rw [wrap_succ (by omega)]
  refine ⟨k + 1,by omega,by omega,.env2 (by rw [numC_succ,List.map_append];rfl) (by simp (decide:=true) only [go_sem] <;> simp [Le.refl])⟩
 simp at hd
 have hkl:k = p.codes.length:=by omega
 subst hkl
 clear hk hd
 refine goA ?_
 refine AWp.loop (J:=fun k:Nat=>k ≤ p.methods.length)
  (I:=fun k=>⟨[(34,.int k),(33,.int p.methods.length),(5,.own 1 (p.codes.length + k) 0 (p.codes.length + k)),(1,.ptr 0 1 0 0)],[⟨24,3,[encT p]⟩,⟨3,1,(numC p.codes.length ++ numM k).map .int⟩]⟩) (μ:=fun k=>p.methods.length - k) 0 (Nat.zero_le _)
  (.env2 (by simp [numM];rfl) (by simp (decide:=true) only [go_sem] <;> simp [Le.refl])) ?_
 intro k hk
 refine goA ?_
 refine ifA (fun hd=>?_) (fun hd=>?_)
 ·simp at hd
  refine goA ?_
  rw [wrap_id (x:=-1 - (k:Int)) (by omega) (by omega)]
  refine bslA Tryd.underlying25 sz3 ?_
  refine goA ?_
  refine ARun.p1 rfl rfl (pl_append (b:=1) (tot:=p.codes.length + k) (es:=[.int (-1 - (k:Int))]) (by simp +decide only [go_sem] <;> rfl) (by simp +decide only [go_sem] <;> rfl) (by simp +decide only [go_sem] <;> rfl) (by simp [numC_len,numM_len]) Tryd.underlying25 el3 rfl rfl (by simp) (fun e he=>by rw [List.mem_singleton] at he;subst he;exact ⟨rfl,rfl⟩) (by simp;omega) (by simp;omega)) ?_
  refine goA ?_
  rw [wrap_succ (by omega)]
  refine ⟨k + 1,by omega,by omega,.env2 (by simp only [numM_succ,List.map_append,List.append_assoc,List.map_cons,List.map_nil];rfl) (by simp (decide:=true) only [go_sem] <;> simp [Le.refl,Nat.add_assoc])⟩
 simp at hd
 have hkl:k = p.methods.length:=by omega
 subst hkl
 clear hk hd
 have hnl:(nums p).length = p.codes.length + p.methods.length:=by simp [nums,numC_len,numM_len]
 rw [show numC p.codes.length ++ numM p.methods.length = nums p from rfl,← hnl]
 refine goA ?_
 have hlen:(nums p).length ≤ 14:=by omega
 generalize hns:nums p = ns at hin hlen
 have hnum:∀ n ∈ ns,numOk p n:=fun n h=>nums_ok (hns ▸ h)
 clear hns hnl
 refine AWp.loop (J:=fun k:Nat=>k ≤ ns.length ∧ numsF p ns = numsF p (ns.drop k))
  (I:=fun k=>⟨[(45,.int k),(44,.int ns.length),(43,.own 1 ns.length 0 ns.length),(1,.ptr 0 1 0 0)],[⟨24,3,[encT p]⟩,⟨3,1,ns.map .int⟩]⟩) (μ:=fun k=>ns.length - k) 0 ⟨Nat.zero_le _,rfl⟩ .wk ?_
 rintro k ⟨hk,hrest⟩
 refine goA ?_
 refine ifA (fun hd=>?_) (fun hd=>?_)
 ·simp at hd
  have hget:(ns.map AV.int)[k]? = some (.int ns[k]):=by rw [List.getElem?_map,List.getElem?_eq_getElem hd];rfl
  rw [List.drop_eq_getElem_cons hd] at hrest
  have hmem:=List.getElem_mem hd
  obtain ⟨hp8,hst,hinr⟩:=hin _ hmem
  have hnk:=hnum _ hmem
  generalize ns[k] = n at *
  refine goA ?_
  refine ARun.q1 rfl rfl (ql_indexAddr_own rfl rfl Tryd.underlying25 rfl (by simp) (by omega) (by omega) sz3) ?_
  repeat (first | (with_reducible first | apply zs | apply zN | apply z1 | apply z2 | apply z3 | apply z4 | apply z5 | apply z6 | refine z7 rfl ?_ | apply zb | apply zk | apply zr | apply ze | apply y1 | apply y2) | ((with_reducible apply zR);(refine ⟨rfl,rfl,?_⟩;simp +decide only [go_sem,List.map];rfl)) | ((with_reducible apply zG);(simp +decide only [go_sem,hget];rfl);(simp +decide only [go_sem,hget];(repeat simp +decide only [go_sem,hget]);rfl)) | (refine zp rfl rfl (pl_box (by simp +decide only [go_sem,hget];rfl) rfl) ?_) | (refine zp rfl rfl (pl_alloc (by simp only [go_sem];rfl) rfl) ?_) | (refine zp rfl rfl (pl_store (by simp +decide only [go_sem,hget];rfl) (by simp +decide only [go_sem,hget];rfl) (by simp +decide only [go_sem];rfl) (by rfl) (by rfl) (by kernel_rfl) (by rfl) (by rfl)) ?_) | fail)
  refine callA (coded_ok p n hnk) ?_
  generalize hC:codeOf p n = C at *
  generalize hB:decide (n < 0) = B at *
  refine goA ?_
  refine callA (start_ok C B hp8) ?_
  refine goA ?_
  refine AWp.loop (J:=fun j:Nat=>j ≤ C.steps.length ∧ stepsF (startF C B) C.steps 0 = stepsF (regAt (startF C B) (C.steps.take j)) (C.steps.drop j) j)
   (I:=fun j=>⟨[(62,.int j),(61,.int C.steps.length),(60,.lst (C.steps.map encS)),(9,.int n),(45,.int k),(44,.int ns.length),(43,.own 1 ns.length 0 ns.length),(1,.ptr 0 1 0 0),(13,.ptr 3 1 0 0)],[⟨24,3,[encT p]⟩,⟨3,1,ns.map .int⟩,⟨68,3,[encC C]⟩,⟨124,10,[encR (regAt (startF C B) (C.steps.take j))]⟩]⟩) (μ:=fun j=>C.steps.length - j) 0 ⟨Nat.zero_le _,rfl⟩ .wk ?_
  rintro j ⟨hj,hsr⟩
  refine goA ?_
  refine ifA (fun hf=>?_) (fun hf=>?_)
  ·simp at hf
   rw [List.drop_eq_getElem_cons hf] at hsr
   have hir:=hinr _ (List.getElem_mem hf)
   have htk:=List.take_succ_eq_append_getElem hf
   refine goA ?_
   refine ARun.q1 rfl rfl (ql_idx rfl rfl Tryd.underlying66 (by omega) (by omega) (by kernel_rfl)) ?_
   generalize hR:regAt (startF C B) (C.steps.take j) = R at *
   refine goA ?_
   refine callA (after_ok R C.steps[j] hir) ?_
   refine goA ?_
   refine ifA (fun he=>?_) (fun he=>?_)
   ·simp at he
    refine goA ?_
    have e2:codeF p n = some ((j:Int),afterE R C.steps[j]):=by
     simp only [codeF,hC,hB];rw [hsr];simp [stepsF,he]
    refine Ret.data rfl ?_ (Pu_res _)
    rw [hrest]
    simp only [numsF,e2]
    rfl
   ·simp at he
    refine goA ?_
    rw [wrap_succ (by omega)]
    refine ⟨j + 1,⟨by omega,?_⟩,by omega,.trim' 4 (by rw [htk,regAt_app,hR];rfl) ?_ ?_⟩
    ·rw [hsr,htk,regAt_app,hR];simp [stepsF,he]
    ·simp (decide:=true) only [go_sem,WkP]
     exact ⟨.pu (.base _),.pu (.base _),.pu (Pu_mapS _),.pu (.base _),.pu (.base _),.pu (.base _),.own (by decide),.ptr (by decide),.ptr (by decide)⟩
    ·exact PuBs (by simp only [List.forall_mem_cons,List.forall_mem_nil,and_true];exact ⟨PuB_T p,PuB_N ns,PuB_C C,PuB_R _,fun _ h=>by cases h⟩)
  ·simp at hf
   have hjl:j = C.steps.length:=by omega
   have e2:codeF p n = none:=by
    simp only [codeF,hC,hB];rw [hsr,hjl,List.drop_length];rfl
   refine goA ?_
   rw [wrap_succ (by omega)]
   refine ⟨k + 1,⟨by omega,by rw [hrest];simp only [numsF,e2]⟩,by omega,.trim' 2 rfl ?_ ?_⟩
   ·simp (decide:=true) only [go_sem,WkP]
    exact ⟨.pu (.base _),.pu (.base _),.own (by decide),.ptr (by decide)⟩
   ·exact PuBs (by simp only [List.forall_mem_cons,List.forall_mem_nil,and_true];exact ⟨PuB_T p,PuB_N ns,fun _ h=>by cases h⟩)
 ·simp at hd
  have hkl:k = ns.length:=by omega
  refine goA ?_
  exact Ret.data rfl (by rw [hrest,hkl,List.drop_length];rfl) (Pu_res _)
theorem hin_of {p:Tk} (h:okValid p):∀ n ∈ nums p,(0 ≤ (codeOf p n).params ∧ (codeOf p n).params < 8) ∧ (codeOf p n).steps.length ≤ 20 ∧ ∀ s ∈ (codeOf p n).steps,inR s:=by
 obtain ⟨_,hc,hm⟩:=h
 have hp:∀ c ∈ p.codes,c.params ≤ 4:=fun c h=>by
  obtain ⟨i,hi,rfl⟩:=List.mem_iff_getElem.1 h
  have:=(hc i hi).1.2.1
  simp only [cod,nth_eq hi] at this;exact this
 have hq:∀ c ∈ p.methods,c.params ≤ 4:=fun c h=>by
  obtain ⟨i,hi,rfl⟩:=List.mem_iff_getElem.1 h
  have:=(hm i hi).1.2.1
  simp only [cod,nth_eq hi] at this;exact this
 have key:∀ l:Lk,l.p = p→okCode l→(0 ≤ l.c.params ∧ l.c.params < 8) ∧ l.c.steps.length ≤ 20 ∧ ∀ s ∈ l.c.steps,inR s:=by
  rintro l rfl ⟨⟨e1,e2,e3,e4,e5⟩,e6⟩
  refine ⟨by omega,e5,fun s hs=>?_⟩
  obtain ⟨i,hi,rfl⟩:=List.mem_iff_getElem.1 hs
  have:=e6 i hi
  rw [show stp l.c.steps i = l.c.steps[i] from nth_eq hi] at this
  exact inR_of this e4 hp hq
 intro n hn
 rcases nums_ok hn with h | h
 ·have e:¬ n < 0:=by omega
  have:=key _ rfl (hc n.toNat (by omega))
  rw [Int.toNat_of_nonneg h.1] at this
  simpa [codeOf,e] using this
 ·have:=key _ rfl (hm (-1 - n).toNat (by omega))
  rw [Int.toNat_of_nonneg (by omega)] at this
  simpa [codeOf,h.1] using this
theorem check_all (p:Tk) (h:okValid p):Fn Tryd.prog 57 [encT p] (encRes (numsF p (nums p))):=check_ok p h (hin_of h)
theorem accepted_ok (p:Tk) (h:okValid p):Fn Tryd.prog 36 [encT p] (.bool (decide ((numsF p (nums p)).2.2 = 0))):=by
 refine Fn.intro' [(0,encT p)] 1 14 Tryd.func36 (by kernel_rfl) rfl rfl rfl rfl rfl ?_
 refine goA ?_
 refine ARun.q1 rfl rfl (ql_callC (check_all p h) rfl (by simp +decide only [go_sem] <;> rfl) (by simp (decide:=true) only [go_sem,List.map]) (by simp)) ?_
 simp only [encRes]
 refine goA ?_
 exact Ret.bool rfl (by simp)
end Go.Ab.Rg
set_option maxHeartbeats 4000000
namespace Go.Ab.Rg
open Go Go.Ab Go.Proofs Go.Ab.Ty
end Go.Ab.Rg
set_option maxHeartbeats 4000000
namespace Go.Ab.Rg
open Go Go.Ab Go.Proofs Go.Ab.Ty
end Go.Ab.Rg
set_option maxHeartbeats 4000000
namespace Go.Ab.Rg
open Go Go.Ab Go.Proofs Go.Ab.Ty
end Go.Ab.Rg
set_option maxHeartbeats 4000000
namespace Go.Ab.Rg
open Go Go.Ab Go.Proofs Go.Ab.Ty
end Go.Ab.Rg
set_option maxHeartbeats 4000000
namespace Go.Ab
open Go Go.Ab Go.Proofs Go.Ab.Ty
def stpF:List Cd→Int→Int
 | [],n=>n
 | c :: l,n=>if n ≤ 1000 then stpF l (IntKind.i64.wrap (n + c.steps.length)) else n
def stpN (p:Tk):Int:=stpF p.methods (stpF p.codes (IntKind.i64.wrap (p.codes.length + p.methods.length)))
theorem stpF_big {l:List Cd} {n:Int} (h:¬ n ≤ 1000):stpF l n = n:=by
 cases l with
 | nil=>rfl
 | cons c l=>simp only [stpF];rw [if_neg h]
theorem VR.bdT2 {w:World} {O:Nat→Prop} {ι:Nat→Option Nat} {H:List ABlk} {u:Value} {p:Tk} (h:VR w O ι H (encT p) u):p.codes.length ≤ 9223372036854775807 ∧ p.methods.length ≤ 9223372036854775807:=by
 obtain ⟨v,hv⟩:=h.agg_el (j:=0) rfl
 obtain ⟨v2,hv2⟩:=h.agg_el (j:=1) rfl
 have h1:=hv.lst_len
 have h2:=hv2.lst_len
 rw [List.length_map] at h1 h2
 exact ⟨h1,h2⟩
theorem drop_nth {α:Type} {d:α} {l:List α} {k:Nat} (hk:k < l.length):l.drop k = nth d l k :: l.drop (k + 1):=by
 rw [List.drop_eq_getElem_cons hk]
 congr 1
 exact (nth_at (List.getElem?_eq_getElem _)).symm
theorem steps_ok (p:Tk):Fn Tryd.prog 14 [encT p] (.int (stpN p)):=by
 obtain ⟨co,me,ac⟩:=p
 refine Fn.intro' [(0,encT ⟨co,me,ac⟩)] 1 54 Tryd.func14 (by kernel_rfl) rfl rfl rfl rfl rfl ?_
 refine AWp.learnV 0 (a:=encT ⟨co,me,ac⟩) (Ψ:=co.length ≤ 9223372036854775807 ∧ me.length ≤ 9223372036854775807) rfl (fun w O ι H u h=>VR.bdT2 h) fun hbd=>?_
 obtain ⟨b1,b2⟩:=hbd
 have hdec:∀ (a b n:Nat) (m:Int),(bif decide ((a:Int) < (b:Int)) then decide (m ≤ 1000) else false) = decide (a < b ∧ m ≤ 1000):=fun a b n m=>by
  by_cases h1:a < b <;> by_cases h2:m ≤ 1000 <;> simp [h1,h2]
 refine goB ?_
 refine AWp.loop (J:=fun x:Nat × Int=>x.1 ≤ co.length ∧ stpF (co.drop x.1) x.2 = stpF co (IntKind.i64.wrap (co.length + me.length))) (fun x=>⟨[(1,.ptr 0 1 0 0),(3,.int x.2),(4,.int x.1)],[⟨24,3,[encT ⟨co,me,ac⟩]⟩]⟩) (fun x=>co.length - x.1) (0,IntKind.i64.wrap (co.length + me.length)) ⟨Nat.zero_le _,rfl⟩ .wf ?_
 rintro ⟨i,n⟩ ⟨j1,j2⟩
 simp only at j1 j2
 refine goB ?_
 by_cases hc:i < co.length ∧ n ≤ 1000
 ·refine ift_ ?_ ?_ rfl
  rotate_left
  ·rw [hdec i co.length 0 n];exact decide_eq_true hc
  obtain ⟨c1,c2⟩:=hc
  rw [drop_nth (d:=Rg.cd0) c1] at j2
  refine goB ?_
  refine ARun.q1 rfl rfl (ql_idxD (l:=co) (f:=encC) Rg.cd0 rfl rfl Tryd.underlying22 (by omega) (by omega) (by kernel_rfl)) ?_
  generalize nth Rg.cd0 co i = cd at j2
  obtain ⟨cp,cv,ss⟩:=cd
  refine goB ?_
  rw [wrap_succ (by omega)]
  refine ⟨(i + 1,IntKind.i64.wrap (n + ss.length)),⟨by show i + 1 ≤ _;omega,?_⟩,by show co.length - (i + 1) < co.length - i;omega,.wf⟩
  rw [← j2]
  simp only [stpF]
  rw [if_pos c2]
 refine iff_ ?_ ?_ rfl
 rotate_left
 ·rw [hdec i co.length 0 n];exact decide_eq_false hc
 have j3:n = stpF co (IntKind.i64.wrap (co.length + me.length)):=by
  rw [← j2]
  by_cases hn:n ≤ 1000
  ·rw [List.drop_eq_nil_of_le (by omega)];rfl
  ·rw [stpF_big hn]
 refine goB ?_
 refine AWp.loop (J:=fun x:Nat × Int=>x.1 ≤ me.length ∧ stpF (me.drop x.1) x.2 = stpF me n) (fun x=>⟨[(1,.ptr 0 1 0 0),(3,.int x.2),(5,.int x.1)],[⟨24,3,[encT ⟨co,me,ac⟩]⟩]⟩) (fun x=>me.length - x.1) (0,n) ⟨Nat.zero_le _,rfl⟩ .wf ?_
 rintro ⟨k,m⟩ ⟨q1,q2⟩
 simp only at q1 q2
 refine goB ?_
 by_cases hc2:k < me.length ∧ m ≤ 1000
 ·refine ift_ ?_ ?_ rfl
  rotate_left
  ·rw [hdec k me.length 0 m];exact decide_eq_true hc2
  obtain ⟨c1,c2⟩:=hc2
  rw [drop_nth (d:=Rg.cd0) c1] at q2
  refine goB ?_
  refine ARun.q1 rfl rfl (ql_idxD (l:=me) (f:=encC) Rg.cd0 rfl rfl Tryd.underlying22 (by omega) (by omega) (by kernel_rfl)) ?_
  generalize nth Rg.cd0 me k = cd at q2
  obtain ⟨cp,cv,ss⟩:=cd
  refine goB ?_
  rw [wrap_succ (by omega)]
  refine ⟨(k + 1,IntKind.i64.wrap (m + ss.length)),⟨by show k + 1 ≤ _;omega,?_⟩,by show me.length - (k + 1) < me.length - k;omega,.wf⟩
  rw [← q2]
  simp only [stpF]
  rw [if_pos c2]
 refine iff_ ?_ ?_ rfl
 rotate_left
 ·rw [hdec k me.length 0 m];exact decide_eq_false hc2
 have q3:m = stpN ⟨co,me,ac⟩:=by
  unfold stpN
  rw [← j3,← q2]
  by_cases hn:m ≤ 1000
  ·rw [List.drop_eq_nil_of_le (by omega)];rfl
  ·rw [stpF_big hn]
 subst q3
 refine goB ?_
 exact Ret.data (vs:=[.int (stpN ⟨co,me,ac⟩)]) rfl rfl (.base _)
def m0:Tk:=⟨[⟨0,1,[⟨6,0,0,0,1,[]⟩,⟨7,0,0,0,0,[]⟩,⟨1,0,0,3,0,[]⟩,⟨4,0,0,0,0,[]⟩]⟩,⟨0,1,[⟨1,0,0,4,0,[]⟩,⟨4,0,0,0,0,[]⟩]⟩],[],0⟩
theorem endm_lines:(endF m0 []).lines.length = 2:=by
 unfold endF;decide +kernel
theorem endm_all:((endF m0 []).tasks.all fun t=>decide (3 ≤ t.state)) = true:=by
 unfold endF;decide +kernel
instance (s:Stp):Decidable (Rg.noneT s):=by unfold Rg.noneT;infer_instance
instance (l:Lk) (i:Int) (s:Stp):Decidable (Rg.spawn l i s):=by unfold Rg.spawn;infer_instance
set_option synthInstance.maxSize 4000 in
set_option synthInstance.maxHeartbeats 400000 in
instance (l:Lk) (i:Int) (s:Stp):Decidable (Rg.okStep l i s):=by unfold Rg.okStep Rg.okVars;infer_instance
instance (l:Lk):Decidable (Rg.okCode l):=by unfold Rg.okCode;infer_instance
instance (p:Tk):Decidable (Rg.okValid p):=by unfold Rg.okValid;infer_instance
theorem okm:okRun m0 []:=⟨by decide,by decide⟩
theorem dupl0 (r:Rg.Rg):¬ Rg.dupl r []:=by
 rintro ⟨i,j,hi,hj,_⟩
 simp at hi
theorem w1m:IntKind.i64.wrap 1 = 1:=by decide
theorem accm:(Rg.numsF m0 (Rg.nums m0)).2.2 = 0:=by
 have hn:Rg.nums m0 = [0,1]:=by decide
 rw [hn]
 have h0:Rg.codeF m0 0 = none:=by
  simp [Rg.codeF,Rg.codeOf,Rg.cod,nth,m0,Rg.startF,Rg.startN,Rg.stepsF,Rg.afterE,Rg.afterR,Rg.freshR,Rg.start0,Rg.mustF,Rg.updI,Rg.sendE,Rg.sendR,Rg.goneF,dupl0,w1m]
 have h1:Rg.codeF m0 1 = none:=by
  simp [Rg.codeF,Rg.codeOf,Rg.cod,nth,m0,Rg.startF,Rg.startN,Rg.stepsF,Rg.afterE,Rg.afterR,Rg.freshR,Rg.start0,Rg.mustF,Rg.updI,Rg.sendE,Rg.sendR,Rg.goneF,dupl0,w1m]
 simp [Rg.numsF,h0,h1]
abbrev mS (op n tk:Int):AV:=.agg [.int op,.int 0,.int 0,.int n,.int tk,nilS]
abbrev mC1:AV:=.agg [.int 0,.int 1,.lst [mS 6 0 1,mS 7 0 0,mS 1 3 0,mS 4 0 0]]
abbrev mC2:AV:=.agg [.int 0,.int 1,.lst [mS 1 4 0,mS 4 0 0]]
abbrev mA:AV:=.agg [.lst [mC1,mC2],nilS,.int 0]
theorem lst_le {es ds:List AV} (h:es.length = ds.length) (hk:∀ i:Nat,i < es.length→∃ e d,es[i]? = some e ∧ ds[i]? = some d ∧ LeL e.cells d.cells):Le (.lst es) (.lst ds):=.lstL h fun i e d h1 h2=>by
 obtain ⟨e',d',g1,g2,g3⟩:=hk i (List.getElem?_eq_some_iff.1 h1).1
 rw [g1] at h1;rw [g2] at h2
 injection h1 with h1;injection h2 with h2
 subst h1;subst h2;exact g3
theorem mSc_le (op n tk:Int):LeL (mS op n tk).cells (encS ⟨op,0,0,n,tk,[]⟩).cells:=⟨.refl _,.refl _,.refl _,.refl _,.refl _,.nil,trivial⟩
theorem mA_le:Le mA (encT m0):=by
 have h1:Le (.lst [mS 6 0 1,mS 7 0 0,mS 1 3 0,mS 4 0 0]) (.lst ((m0.codes.getD 0 Rg.cd0).steps.map encS)):=lst_le rfl fun i hi=>by
  have hi:i < 4:=hi
  rcases i with _ | _ | _ | _ | i
  ·exact ⟨_,_,rfl,rfl,mSc_le _ _ _⟩
  ·exact ⟨_,_,rfl,rfl,mSc_le _ _ _⟩
  ·exact ⟨_,_,rfl,rfl,mSc_le _ _ _⟩
  ·exact ⟨_,_,rfl,rfl,mSc_le _ _ _⟩
  ·omega
 have h2:Le (.lst [mS 1 4 0,mS 4 0 0]) (.lst ((m0.codes.getD 1 Rg.cd0).steps.map encS)):=lst_le rfl fun i hi=>by
  have hi:i < 2:=hi
  rcases i with _ | _ | i
  ·exact ⟨_,_,rfl,rfl,mSc_le _ _ _⟩
  ·exact ⟨_,_,rfl,rfl,mSc_le _ _ _⟩
  ·omega
 refine .aggL ⟨lst_le rfl fun i hi=>?_,.nil,.refl _,trivial⟩
 have hi:i < 2:=hi
 rcases i with _ | _ | i
 ·exact ⟨_,_,rfl,rfl,⟨.refl _,.refl _,h1,trivial⟩⟩
 ·exact ⟨_,_,rfl,rfl,⟨.refl _,.refl _,h2,trivial⟩⟩
 ·omega
theorem pu_mS (op n tk:Int):∀ c ∈ (mS op n tk).cells,Pu c:=fun c hc=>by
 simp only [AV.cells,List.mem_cons,List.not_mem_nil,or_false] at hc
 rcases hc with rfl | rfl | rfl | rfl | rfl | rfl <;> exact .base _
theorem pu_mA:Pu mA:=by
 refine .agg fun c hc=>?_
 simp only [List.mem_cons,List.not_mem_nil,or_false] at hc
 rcases hc with rfl | rfl | rfl
 ·refine .lst fun e he c hc=>?_
  simp only [List.mem_cons,List.not_mem_nil,or_false] at he
  rcases he with rfl | rfl
  ·simp only [AV.cells,List.mem_cons,List.not_mem_nil,or_false] at hc
   rcases hc with rfl | rfl | rfl
   ·exact .base _
   ·exact .base _
   ·refine .lst fun e he=>?_
    simp only [List.mem_cons,List.not_mem_nil,or_false] at he
    rcases he with rfl | rfl | rfl | rfl <;> exact pu_mS _ _ _
  ·simp only [AV.cells,List.mem_cons,List.not_mem_nil,or_false] at hc
   rcases hc with rfl | rfl | rfl
   ·exact .base _
   ·exact .base _
   ·refine .lst fun e he=>?_
    simp only [List.mem_cons,List.not_mem_nil,or_false] at he
    rcases he with rfl | rfl <;> exact pu_mS _ _ _
 ·exact .base _
 ·exact .base _
theorem meets_ok {mm:List (Nat × Obj)} (hmm:TabM mm):FnM Tryd.prog mm 16 [] (.bool true):=by
 have ir0:=run_ok hmm okm
 have ia0:=Rg.accepted_ok m0 okm.1
 rw [accm] at ia0
 have ia:Fn Tryd.prog 36 [mA] (.bool (decide ((0:Int) = 0))):=ia0.le ⟨mA_le,trivial⟩
 have eR:ranV (endF m0 []) = .agg [.lst ((endF m0 []).lines.map fun x=>.base (.string x)),.lst ((endF m0 []).accs.map encA),.lst (((endF m0 []).tasks.map (·.state)).map AV.int),.lst (((endF m0 []).tasks.map (·.par)).map AV.int),.base (.bool true),.int (endF m0 []).turns.length]:=by
  unfold ranV;rw [endm_all]
 have hl2:=endm_lines
 rw [eR] at ir0
 generalize (endF m0 []).lines = gl1 at ir0 hl2
 generalize (endF m0 []).accs = gl2 at ir0
 generalize (endF m0 []).tasks.map (·.state) = gl3 at ir0
 generalize (endF m0 []).tasks.map (·.par) = gl4 at ir0
 generalize (endF m0 []).turns.length = gl5 at ir0
 have ir:FnM Tryd.prog mm 17 [mA,nilS] _:=ir0.le ⟨mA_le,.nil,trivial⟩
 clear ir0 eR ia0
 refine FnM.intro' [] 0 37 Tryd.func16 (by kernel_rfl) rfl rfl rfl rfl rfl ?_
 refine goB ?_
 refine bldA pl70 zero70 ?_
 refine goB ?_
 refine bldA pl70 zero70 ?_
 refine goB ?_
 refine bldA pl70 zero70 ?_
 refine goB ?_
 refine bldA pl70 zero70 ?_
 refine goB ?_
 refine bldA pl68 zero68 ?_
 refine goB ?_
 refine bldA pl70 zero70 ?_
 refine goB ?_
 refine bldA pl70 zero70 ?_
 refine goB ?_
 refine bldA pl68 zero68 ?_
 refine goB ?_
 refine bldA pl24 zero24 ?_
 refine goB ?_
 have hp0:∀ a ∈ [mA,nilS],Pu a:=fun a ha=>by
  simp only [List.mem_cons,List.not_mem_nil,or_false] at ha
  rcases ha with rfl | rfl
  ·exact pu_mA
  ·exact .base _
 refine callA ir ?_ (hp:=hp0)
 refine goB ?_
 refine callA ia ?_ (hp:=fun a ha=>by rw [List.mem_singleton] at ha;subst ha;exact pu_mA)
 refine goB ?_
 exact Ret.bool rfl (by simp [hl2])
end Go.Ab
set_option maxHeartbeats 4000000
namespace Go.Ab
open Go Go.Ab Go.Proofs Go.Ab.Ty
end Go.Ab
set_option maxHeartbeats 4000000
namespace Go.Ab
open Go Go.Ab Go.Proofs Go.Ab.Ty
def befF (s:PRun) (a b:Nat):Bool:=decide (a < b) && decide ((a:Int) ≤ (s.pool.getD (s.cks.getD b 0) []).getD (s.turns.getD a 0).toNat 0)
theorem before_ok {s:PRun} (hw:WF s) {a b:Nat} (ha:a < s.turns.length) (hb:b < s.cks.length) (ht:∀ n ∈ s.turns,0 ≤ n ∧ n < 32):FnH Tryd.prog 45 [ptR,.int a,.int b] (HH s) (.bool (befF s a b)) (HH s):=by
 have hsz:=hw.sz
 obtain ⟨n,hn⟩:∃ n,s.turns[a]? = some n:=⟨_,List.getElem?_eq_getElem ha⟩
 obtain ⟨x,hx⟩:∃ x,s.cks[b]? = some x:=⟨_,List.getElem?_eq_getElem hb⟩
 obtain ⟨hn0,hn1⟩:=ht n (List.mem_of_getElem? hn)
 have hxp:=hw.cks x (List.mem_of_getElem? hx)
 obtain ⟨l,hl⟩:∃ l,s.pool[x]? = some l:=⟨_,List.getElem?_eq_getElem hxp⟩
 obtain ⟨i1,l1⟩:=hw.p hl
 obtain ⟨n',rfl⟩:∃ n':Nat,n = n':=⟨_,(Int.toNat_of_nonneg hn0).symm⟩
 obtain ⟨v,hv⟩:∃ v,l[n']? = some v:=⟨_,List.getElem?_eq_getElem (by omega)⟩
 have hR:befF s a b = (bif decide ((a:Int) < b) then decide ((a:Int) ≤ v) else false):=by
  unfold befF
  simp only [List.getD_eq_getElem?_getD,hn,hx,hl,hv,Option.getD_some,Int.toNat_natCast]
  by_cases g:a < b <;> simp [g]
 rw [hR]
 have hnv:(s.turns.map AV.int)[a]? = some (.int n'):=by rw [List.getElem?_map,hn];rfl
 have hxv:(s.cks.map ownC)[b]? = some (ownC x):=by rw [List.getElem?_map,hx];rfl
 have hvv:(l.map AV.int)[n']? = some (.int v):=by rw [List.getElem?_map,hv];rfl
 have hR:=Hid.mk hR
 refine FnH.intro' [(0,ptR),(1,.int a),(2,.int b)] 3 30 NN Tryd.func45 (by kernel_rfl) rfl rfl rfl rfl rfl (HH_len s) ?_
 refine goF ?_
 by_cases h1:a < b
 ·have hd:decide ((a:Int) < (b:Int)) = true:=decide_eq_true (by omega)
  refine drA (k:=23) follows (hr:=?_)
  refine goF ?_
  refine gqA (h:=fun hg=>ql_ixo (n:=b) (b:=ix .ck) (by simp +decide only [go_sem, *] <;> rfl) (by simp +decide only [go_sem, *] <;> rfl) Tryd.underlying81 (by simp +decide only [go_sem, *] <;> rfl) (by simp) hb (by simp +decide only [go_sem, *] <;> rfl)) (hr:=?_)
  refine goF ?_
  refine gqA (h:=fun hg=>ql_ixo (n:=a) (b:=ix .tn) (by simp +decide only [go_sem, *] <;> rfl) (by simp +decide only [go_sem, *] <;> rfl) Tryd.underlying25 (by simp +decide only [go_sem, *] <;> rfl) (by simp) ha (by simp +decide only [go_sem, *] <;> rfl)) (hr:=?_)
  refine goF ?_
  refine gqA (h:=fun hg=>ql_ixo (n:=n') (b:=ix (.clk x)) (by simp +decide only [go_sem, *] <;> rfl) (by simp +decide only [go_sem, *] <;> rfl) Tryd.underlying25 (by simp +decide only [go_sem, *] <;> rfl) (by simp [l1]) (by omega) (by simp +decide only [go_sem, *] <;> rfl)) (hr:=?_)
  refine goF ?_
  exact .runV [] hw (vs:=[.bool (decide (v ≥ a))]) (by show resVals _ _ [.tmp 6] = _;simp +decide only [resVals,resVal,ldPtr,ldE,go_sem, *] <;> rfl) (List.append_nil _).symm (by rw [hd];rfl) (.pu (.base _))
 ·have hd:decide ((a:Int) < (b:Int)) = false:=decide_eq_false (by omega)
  refine drA (k:=23) follows (hr:=?_)
  refine goF ?_
  refine gxA ((AV.int 0).iptr 0) ?_
  refine goF ?_
  refine gxA ((AV.int 0).iptr 0) ?_
  refine goF ?_
  refine gxA ((AV.int 0).iptr 0) ?_
  refine goF ?_
  exact .runV [] hw (vs:=[.bool false]) (by show resVals _ _ [.tmp 6] = _;simp +decide only [resVals,resVal,ldPtr,ldE,go_sem, *] <;> rfl) (List.append_nil _).symm (by rw [hd];rfl) (.pu (.base _))
end Go.Ab
set_option maxHeartbeats 4000000
namespace Go.Ab
open Go Go.Ab Go.Proofs Go.Ab.Ty
structure TH (s:PRun) (n j:Nat) (t:PTask) (c:PCall) (st:Stp) (l:Lk) (k i:Nat):Prop where
 gg:GG s
 tn:s.turns.length < 2000
 top:TopC s n t j c st l k i
 st1:t.state = 1
 tr:∀ x ∈ s.turns,0 ≤ x ∧ x < (s.tasks.length:Int)
theorem pikF_eq (s:PRun):∃ u,pikF s = { s with used:=u }:=by
 unfold pikF
 split
 ·exact ⟨s.used,rfl⟩
 ·split
  ·exact ⟨_,rfl⟩
  ·exact ⟨s.used,rfl⟩
structure RJ (s:PRun):Prop where
 gg:GG s
 tn:∀ x ∈ s.turns,0 ≤ x ∧ x < (s.tasks.length:Int)
 t0:0 < s.tasks.length
theorem pick_topJ {s:PRun} (h:GG s) (hr:readyF s ≠ []):∃ (n j:Nat) (t:PTask) (c:PCall) (st:Stp) (l:Lk) (k i:Nat),chF s = (n:Int) ∧ TopC (pikF s) n t j c st l k i ∧ t.state = 1 ∧ turnF (pikF s) (chF s).toNat = turnX (pikF s) n j c st:=by
 obtain ⟨n,hn,_,t,ht,h1,h2⟩:=rdF_free _ _ (chF_mem hr)
 have hG:=pikF_gg h
 obtain ⟨e1,e2⟩:=pikF_same s
 have ht':(pikF s).tasks[n]? = some t:=by rw [e1];exact ht
 obtain ⟨j,c,st,l,k,i,hT⟩:=topC_of hG.iv hG.gi ht' h1
 exact ⟨n,j,t,c,st,l,k,i,hn,hT,h1,by rw [hn,Int.toNat_natCast];exact hT.turnF⟩
theorem RJ.rjTurn {s:PRun} (h:RJ s) (htn:s.turns.length < 2000) (hr:readyF s ≠ []):∃ (n j:Nat) (t:PTask) (c:PCall) (st:Stp) (l:Lk) (k i:Nat),TH (pikF s) n j t c st l k i ∧ turnF (pikF s) (chF s).toNat = turnX (pikF s) n j c st ∧ RJ (turnX (pikF s) n j c st):=by
 obtain ⟨n,j,t,c,st,l,k,i,hn,hT,h1,hE⟩:=pick_topJ h.gg hr
 obtain ⟨e1,e2⟩:=pikF_same s
 have hG:=pikF_gg h.gg
 have htn':(pikF s).turns.length < 2000:=by rw [e2];exact htn
 obtain ⟨g1,g2⟩:=turnX_gg hG htn' hT h1
 obtain ⟨g3,g4⟩:=turnX_tt hG htn' hT h1
 rw [e1] at g4
 have hnl:n < s.tasks.length:=by rw [← e1];exact (List.getElem?_eq_some_iff.1 hT.ht).1
 refine ⟨n,j,t,c,st,l,k,i,⟨hG,htn',hT,h1,by rw [e2,e1];exact h.tn⟩,hE,⟨g1,fun x hx=>?_,by have:=h.t0;omega⟩⟩
 rw [g3,e2] at hx
 rcases List.mem_append.1 hx with hx | hx
 ·have:=h.tn x hx;omega
 ·rw [List.mem_singleton] at hx;omega
theorem runF_ind {P:PRun→Prop} (hu:∀ s u,P s→P { s with used:=u }) (ht:∀ {s:PRun} {n j:Nat} {t:PTask} {c:PCall} {st:Stp} {l:Lk} {k i:Nat},TH s n j t c st l k i→P s→P (turnX s n j c st)) :
 ∀ (f:Nat) (s:PRun),RJ s→P s→RJ (runF f s) ∧ P (runF f s):=by
 intro f
 induction f with
 | zero=>intro s hR h;exact ⟨hR,h⟩
 | succ f ih =>
   intro s hR h
   obtain ⟨u,e⟩:=pikF_eq s
   have hpk:P (pikF s):=by rw [e];exact hu s u h
   unfold runF
   split
   ·rename_i htn
    split
    ·rename_i hr
     have:pikF s = s:=by unfold pikF;rw [if_pos hr]
     rw [this];exact ⟨hR,h⟩
    ·rename_i hr
     obtain ⟨n,j,t,c,st,l,k,i,hT,hE,hR2⟩:=hR.rjTurn htn hr
     rw [hE]
     exact ih _ hR2 (ht hT hpk)
   ·exact ⟨hR,h⟩
theorem newF_rj {p:Tk} {sched:List Int} {cd:Cd} (hG:GG (newF p sched cd)) (hT:(newF p sched cd).turns = []):RJ (newF p sched cd):=by
 refine ⟨hG,(by rw [hT];intro x hx;cases hx),?_⟩
 unfold newF
 obtain ⟨tn,o,a1,_⟩:=startF_get (s:=nwS p sched (p.actors.toNat + cd.params.toNat) p.actors.toNat (List.replicate (p.actors.toNat + 1) m32)) (c:=cd) (vs:=varsN p.actors.toNat cd.params.toNat) (a:=m32) (prio:=0) (par:=-1) (canc:=false) rfl (.inl (by omega))
 rw [a1];simp
theorem endF_indR {P:PRun→Prop} (hu:∀ s u,P s→P { s with used:=u }) (ht:∀ {s:PRun} {n j:Nat} {t:PTask} {c:PCall} {st:Stp} {l:Lk} {k i:Nat},TH s n j t c st l k i→P s→P (turnX s n j c st))
 {p:Tk} {sched:List Int} (h:okRun p sched) (h0:∀ cd,p.codes[0]? = some cd→GG (newF p sched cd)→P (newF p sched cd)):RJ (endF p sched) ∧ P (endF p sched):=by
 obtain ⟨cd,hcd,hG,hT,_⟩:=new_gg h
 have hgd:p.codes.getD 0 ⟨0,0,[]⟩ = cd:=getD_at hcd
 unfold endF
 rw [hgd]
 exact runF_ind hu ht 2001 _ (newF_rj hG hT) (h0 cd hcd hG)
theorem endF_ind {P:PRun→Prop} (hu:∀ s u,P s→P { s with used:=u }) (ht:∀ {s:PRun} {n j:Nat} {t:PTask} {c:PCall} {st:Stp} {l:Lk} {k i:Nat},TH s n j t c st l k i→P s→P (turnX s n j c st))
 {p:Tk} {sched:List Int} (h:okRun p sched) (h0:∀ cd,p.codes[0]? = some cd→GG (newF p sched cd)→P (newF p sched cd)):P (endF p sched):=(endF_indR hu ht h h0).2
def accN (s:PRun) (n:Nat) (c:PCall) (st:Stp) (time:Int):List Acc:=
 if st.op = 2 then (if 0 ≤ (objAt s (varN c st.w)).2 then [⟨whoF c n,varN c st.w,false,time⟩] else [⟨whoF c n,varN c st.w,false,time⟩,⟨whoF c n,varN c st.w,true,time⟩])
 else if st.op = 3 then [⟨whoF c n,varN c st.v,true,time⟩]
 else if st.op = 4 then [⟨whoF c n,varN c st.v,false,time⟩]
 else if st.op = 5 then [⟨whoF c n,varN c st.v,true,time⟩]
 else if st.op = 8 then [⟨-1 - (st.n.toNat:Int),st.n.toNat,true,time⟩]
 else []
theorem accN_time {s:PRun} {n:Nat} {c:PCall} {st:Stp} {time:Int}:∀ x ∈ accN s n c st time,x.time = time:=by
 intro x hx
 unfold accN at hx
 (repeat' split at hx) <;> simp only [List.mem_cons,List.not_mem_nil,or_false] at hx
 ·rw [hx]
 ·rcases hx with rfl | rfl <;> rfl
 all_goals rw [hx]
theorem stepF_accs (s:PRun) (n j:Nat) (t:PTask) (c:PCall) (st:Stp) (time:Int):(stepF s n j t c st time).2.accs = s.accs ++ accN s n c st time ∧ (stepF s n j t c st time).2.turns = s.turns ∧ (stepF s n j t c st time).2.cks = s.cks:=by
 have h6:=startF_fx s (cdAt s.p.codes st.task) (givL c st.vars) (s.pool.getD t.clk []) st.n n t.canc
 have h11:=stopF_fx s n
 unfold stepF accN
 by_cases h1:st.op = 1
 ·rw [if_pos h1,if_neg (by omega),if_neg (by omega),if_neg (by omega),if_neg (by omega),if_neg (by omega)]
  exact ⟨(List.append_nil _).symm,rfl,rfl⟩
 rw [if_neg h1]
 by_cases h2:st.op = 2
 ·rw [if_pos h2,if_pos h2]
  split
  ·exact ⟨rfl,rfl,rfl⟩
  ·exact ⟨List.append_assoc _ [_] [_],rfl,rfl⟩
 rw [if_neg h2,if_neg h2]
 by_cases h3:st.op = 3
 ·rw [if_pos h3,if_pos h3];exact ⟨rfl,rfl,rfl⟩
 rw [if_neg h3,if_neg h3]
 by_cases h4:st.op = 4
 ·rw [if_pos h4,if_pos h4];exact ⟨rfl,rfl,rfl⟩
 rw [if_neg h4,if_neg h4]
 by_cases h5:st.op = 5
 ·rw [if_pos h5,if_pos h5];exact ⟨rfl,rfl,rfl⟩
 rw [if_neg h5,if_neg h5]
 by_cases h8:st.op = 8
 ·rw [if_neg (by omega),if_neg (by omega),if_pos h8,if_pos h8];exact ⟨rfl,rfl,rfl⟩
 rw [if_neg h8,if_neg h8,List.append_nil]
 by_cases h6':st.op = 6
 ·rw [if_pos h6'];exact ⟨h6.accs,h6.turns,h6.cks⟩
 rw [if_neg h6']
 split
 ·split <;> exact ⟨rfl,rfl,rfl⟩
 split
 ·split <;> exact ⟨rfl,rfl,rfl⟩
 split
 ·exact ⟨rfl,rfl,rfl⟩
 split
 ·split
  ·exact ⟨h11.accs,h11.turns,h11.cks⟩
  ·exact ⟨rfl,rfl,rfl⟩
 ·exact ⟨rfl,rfl,rfl⟩
theorem turnX_accs {s:PRun} {n j:Nat} {c:PCall} {st:Stp}:(∃ l,(turnX s n j c st).accs = s.accs ++ l ∧ ∀ x ∈ l,x.time = s.turns.length) ∧ (turnX s n j c st).turns = s.turns ++ [(n:Int)] ∧ (turnX s n j c st).cks.length = s.cks.length + 1:=by
 have hZ:=zs_turnB s n c st
 obtain ⟨hTn,hCk⟩:=turnB_turns s n c st
 unfold turnX
 obtain ⟨s9,hs9⟩:∃ s9,s9 = turnB s n c st:=⟨_,rfl⟩
 rw [← hs9] at hZ hTn hCk ⊢
 split
 ·have hF:=stopF_fx s9 n
  exact ⟨⟨[],by rw [hF.accs,hZ.accs,List.append_nil],fun x hx=>by cases hx⟩,by rw [hF.turns,hTn],by rw [hF.cks,hCk]⟩
 obtain ⟨a1,a2,a3⟩:=stepF_accs s9 n j (tkAt s9 n) c st s.turns.length
 obtain ⟨r,hr⟩:∃ r,r = stepF s9 n j (tkAt s9 n) c st s.turns.length:=⟨_,rfl⟩
 rw [← hr] at a1 a2 a3 ⊢
 have b1:∃ l,r.2.accs = s.accs ++ l ∧ ∀ x ∈ l,x.time = s.turns.length:=⟨_,by rw [a1,hZ.accs],accN_time⟩
 split
 ·exact ⟨b1,by rw [a2,hTn],by rw [a3,hCk]⟩
 unfold turnG
 obtain ⟨s11,hs11⟩:∃ s11,s11 = if 0 ≤ c.actor ∧ st.op ≠ 12 ∧ st.op ≠ 9 ∧ c.pc ≠ (c.code.steps.length:Int) - 1 then hasS r.2 n c.actor else r.2:=⟨_,rfl⟩
 rw [← hs11]
 have e1:s11.turns = r.2.turns ∧ s11.cks = r.2.cks ∧ s11.accs = r.2.accs:=by rw [hs11];split <;> exact ⟨rfl,rfl,rfl⟩
 have hF:=goOnF_fx (fun s n=>settleF_fx (n + 1) s n) s11 n j
 have hF:=goOnF_fx (S:=settleF (n + 1)) (fun s m=>settleF_fx (n + 1) s m) s11 n j
 obtain ⟨l,b2,b3⟩:=b1
 exact ⟨⟨l,by rw [hF.accs,e1.2.2,b2],b3⟩,by rw [hF.turns,e1.1,a2,hTn],by rw [hF.cks,e1.2.1,a3,hCk]⟩
structure AT (s:PRun):Prop where
 ck:s.cks.length = s.turns.length
 ac:∀ x ∈ s.accs,0 ≤ x.time ∧ x.time < s.turns.length
 tn:∀ n ∈ s.turns,0 ≤ n ∧ n < 32
theorem endF_at {p:Tk} {sched:List Int} (h:okRun p sched):AT (endF p sched):=by
 have hR:=(endF_indR (P:=fun _=>True) (fun _ _ _=>trivial) (fun _ _=>trivial) h (fun _ _ _=>trivial)).1
 have h1:(endF p sched).cks.length = (endF p sched).turns.length ∧ ∀ x ∈ (endF p sched).accs,0 ≤ x.time ∧ x.time < (endF p sched).turns.length:=by
  refine endF_ind (P:=fun s=>s.cks.length = s.turns.length ∧ ∀ x ∈ s.accs,0 ≤ x.time ∧ x.time < s.turns.length) (fun s u g=>g) (fun {s n j t c st l k i} hT g=>?_) h fun cd hcd hG=>?_
  ·obtain ⟨⟨l,a1,a2⟩,a3,a4⟩:=turnX_accs (s:=s) (n:=n) (j:=j) (c:=c) (st:=st)
   obtain ⟨g1,g2⟩:=g
   have e:(turnX s n j c st).turns.length = s.turns.length + 1:=by rw [a3];simp
   refine ⟨by omega,fun x hx=>?_⟩
   rw [e]
   rw [a1] at hx
   rcases List.mem_append.1 hx with hx | hx
   ·have:=g2 x hx;omega
   ·have:=a2 x hx;omega
  ·have hF:=startF_fx (nwS p sched (p.actors.toNat + cd.params.toNat) p.actors.toNat (List.replicate (p.actors.toNat + 1) m32)) cd (varsN p.actors.toNat cd.params.toNat) m32 0 (-1) false
   unfold newF
   refine ⟨by rw [hF.cks,hF.turns];rfl,fun x hx=>?_⟩
   rw [hF.accs] at hx
   cases hx
 refine ⟨h1.1,h1.2,fun n hn=>?_⟩
 have:=hR.tn n hn
 have:=hR.gg.iv.wf.nT
 omega
end Go.Ab
