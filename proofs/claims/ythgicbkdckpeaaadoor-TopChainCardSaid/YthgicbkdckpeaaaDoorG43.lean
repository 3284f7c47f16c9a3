/- Part of the proof. -/
import Derived.Test.YthgicbkdckpeaaaDoorG42
set_option linter.unusedSimpArgs false
set_option linter.unusedVariables false
set_option maxHeartbeats 4000000
namespace Go.Ab
open Go Go.Ab Go.Proofs Go.Ab.Ty
structure ChB (n k w:Nat) (x:Nat→Prop) (s:PRun):Prop where
 p:s.p = chP n k w
 tl:1 ≤ s.tasks.length ∧ s.tasks.length ≤ n
 cl:s.calls.length = s.tasks.length
 tk:∀ (i:Nat) (t:PTask),s.tasks[i]? = some t→t.sarr = [i] ∧ t.slen = 1 ∧ t.par = (i:Int) - 1 ∧ t.waits < 0 ∧ (∀ z ∈ t.kids,1 ≤ z) ∧ (t.ending = 0 ∨ t.ending = 3 ∨ (t.ending = 4 ∧ t.canc = true)) ∧ (i = 0→t.canc = false) ∧ (t.ending = 3→∀ c,s.calls[i]? = some c→c.pc = (c.code.steps.length:Int))
 ca:∀ (i:Nat) (c:PCall),s.calls[i]? = some c→c.code = chC n k w i ∧ c.actor = -1 ∧ 0 ≤ c.pc ∧ c.pc ≤ (c.code.steps.length:Int) ∧ (¬ x i→1 ≤ c.pc→i + 1 < s.tasks.length ∨ i + 1 = n) ∧ (¬ x i→i + 1 < s.tasks.length→1 ≤ c.pc)
theorem ChB.nw {n k w:Nat} {x:Nat→Prop} {s:PRun} (h:ChB n k w x s):NW s:=fun i t ht=>(h.tk i t ht).2.2.2.1
theorem ChB.cq {n k w:Nat} {x:Nat→Prop} {s s':PRun} (h:ChB n k w x s) (q:Cq s s'):ChB n k w x s':=by
 refine ⟨q.p.trans h.p,by rw [q.tl];exact h.tl,by rw [q.calls,q.tl];exact h.cl,fun i t' e=>?_,fun i c e=>?_⟩
 ·obtain ⟨t,e0,a1,a2,a3,a4,a5,a6,a7⟩:=q.tk i t' e
  rw [a1,a2,a3,a4,a5,a6,a7,q.calls]
  exact h.tk i t e0
 ·rw [q.calls] at e
  rw [q.tl]
  exact h.ca i c e
def pcN (s:PRun) (i:Nat):Nat:=match s.calls[i]? with
 | some c=>c.pc.toNat
 | none=>0
def enN (s:PRun) (i:Nat):Nat:=match s.tasks[i]? with
 | some t=>if t.ending = 0 then 0 else 1
 | none=>0
def sumR (f:Nat→Nat):Nat→Nat
 | 0=>0
 | N + 1=>sumR f N + f N
def muS (s:PRun):Nat:=sumR (fun i=>pcN s i + enN s i) s.tasks.length
theorem sumR_le {f g:Nat→Nat}:∀ N,(∀ i,i < N→f i ≤ g i)→sumR f N ≤ sumR g N
 | 0,_=>Nat.le_refl _
 | N + 1,h=>by
   have:=sumR_le N fun i hi=>h i (by omega)
   have:=h N (by omega)
   simp only [sumR];omega
theorem sumR_lt {f g:Nat→Nat} {m:Nat}:∀ N,(∀ i,i < N→f i ≤ g i)→m < N→f m + 1 ≤ g m→sumR f N + 1 ≤ sumR g N
 | 0,_,h,_=>by omega
 | N + 1,h,hm,h1=>by
   simp only [sumR]
   by_cases e:m = N
   ·subst e
    have:=sumR_le m fun i hi=>h i (by omega)
    omega
   ·have:=sumR_lt N (fun i hi=>h i (by omega)) (by omega) h1
    have:=h N (by omega)
    omega
theorem sumR_mono {f:Nat→Nat} {N M:Nat} (h:N ≤ M):sumR f N ≤ sumR f M:=by
 induction M with
 | zero=>have:N = 0:=by omega
         subst this;exact Nat.le_refl _
 | succ M ih =>
   by_cases e:N = M + 1
   ·subst e;exact Nat.le_refl _
   ·have:=ih (by omega)
    simp only [sumR];omega
theorem sumR_bd {f:Nat→Nat} {B:Nat}:∀ N,(∀ i,i < N→f i ≤ B)→sumR f N ≤ B * N
 | 0,_=>Nat.le_refl _
 | N + 1,h=>by
   have:=sumR_bd N fun i hi=>h i (by omega)
   have:=h N (by omega)
   simp only [sumR,Nat.mul_add,Nat.mul_one];omega
theorem mu_step {s s':PRun} {m:Nat} (hm:m < s.tasks.length) (hl:s.tasks.length ≤ s'.tasks.length) (h1:∀ i,i < s.tasks.length→pcN s i ≤ pcN s' i ∧ enN s i ≤ enN s' i) (h2:pcN s m + 1 ≤ pcN s' m ∨ enN s m + 1 ≤ enN s' m):muS s + 1 ≤ muS s':=by
 unfold muS
 refine Nat.le_trans (sumR_lt (g:=fun i=>pcN s' i + enN s' i) (m:=m) _ (fun i hi=>?_) hm ?_) (sumR_mono hl)
 ·have:=h1 i hi;omega
 ·have:=h1 m hm;rcases h2 with g | g <;> omega
theorem pcN_cq {s s':PRun} (q:Cq s s') (i:Nat):pcN s' i = pcN s i:=by unfold pcN;rw [q.calls]
theorem enN_cq {s s':PRun} (q:Cq s s') (i:Nat):enN s' i = enN s i:=by
 unfold enN
 by_cases hi:i < s.tasks.length
 ·have h1:s'.tasks[i]? = some (s'.tasks[i]'(by rw [q.tl];exact hi)):=List.getElem?_eq_getElem _
  obtain ⟨t,e0,_,_,_,_,_,a6,_⟩:=q.tk i _ h1
  rw [h1,e0];simp only [a6]
 ·rw [List.getElem?_eq_none (l:=s'.tasks) (by rw [q.tl];omega),List.getElem?_eq_none (l:=s.tasks) (by omega)]
theorem ChB.go {n k w:Nat} {s:PRun} {m:Nat} {c:PCall} {t:PTask} (h:ChB n k w (· = m) s) (ht:s.tasks[m]? = some t) (hc:s.calls[m]? = some c) (hp:c.pc < (c.code.steps.length:Int)) (he:t.ending = 0) (hsp:m + 1 < s.tasks.length ∨ m + 1 = n) :
 ChB n k w F0 (goOnF (settleF (m + 1)) s m m) ∧ (goOnF (settleF (m + 1)) s m m).tasks.length = s.tasks.length ∧ (∀ i,pcN s i ≤ pcN (goOnF (settleF (m + 1)) s m m) i ∧ enN s i ≤ enN (goOnF (settleF (m + 1)) s m m) i) ∧ pcN s m + 1 ≤ pcN (goOnF (settleF (m + 1)) s m m) m:=by
 obtain ⟨a1,a2,a3,a4,a5,a6,a7,a8⟩:=h.tk m t ht
 obtain ⟨b1,b2,b3,b4,b5,b6⟩:=h.ca m c hc
 have key:∀ (s':PRun) (t':PTask),(∀ i,s'.tasks[i]? = if i = m then some t' else s.tasks[i]?)→s'.tasks.length = s.tasks.length→s'.calls = s.calls.set m { c with pc:=c.pc + 1 }→s'.p = s.p→t'.sarr = t.sarr→t'.slen = 1→t'.par = t.par→t'.waits = t.waits→t'.kids = t.kids→t'.canc = t.canc→(t'.ending = 0 ∨ (t'.ending = 3 ∧ c.pc + 1 = (c.code.steps.length:Int))) →
  ChB n k w F0 s' ∧ s'.tasks.length = s.tasks.length ∧ (∀ i,pcN s i ≤ pcN s' i ∧ enN s i ≤ enN s' i) ∧ pcN s m + 1 ≤ pcN s' m:=fun s' t' g1 g2 g3 g4 g5 g6 g7 g8 g9 g10 g11=>by
  have hml:=(List.getElem?_eq_some_iff.1 hc).1
  have gc:∀ i,s'.calls[i]? = if i = m then some { c with pc:=c.pc + 1 } else s.calls[i]?:=fun i=>by
   rw [g3,List.getElem?_set]
   by_cases e:m = i
   ·subst e;rw [if_pos rfl,if_pos hml,if_pos rfl]
   ·rw [if_neg e,if_neg fun q=>e q.symm]
  have hpm:pcN s m + 1 ≤ pcN s' m:=by
   unfold pcN;rw [gc,if_pos rfl,hc];simp only;omega
  refine ⟨⟨g4.trans h.p,by rw [g2];exact h.tl,by rw [g3,List.length_set,g2];exact h.cl,fun i u e=>?_,fun i d e=>?_⟩,g2,fun i=>?_,hpm⟩
  ·rw [g1] at e
   by_cases ei:i = m
   ·rw [if_pos ei] at e;injection e with e;subst e;subst ei
    refine ⟨by rw [g5];exact a1,g6,by rw [g7];exact a3,by rw [g8];exact a4,by rw [g9];exact a5,g11.imp id fun q=>.inl q.1,by rw [g10];exact a7,fun e3 d hd=>?_⟩
    rw [gc,if_pos rfl] at hd;injection hd with hd;subst hd
    rcases g11 with q | ⟨_,q⟩
    ·omega
    ·exact q
   ·rw [if_neg ei] at e
    obtain ⟨d1,d2,d3,d4,d5,d6,d7,d8⟩:=h.tk i u e
    refine ⟨d1,d2,d3,d4,d5,d6,d7,fun e3 d hd=>?_⟩
    rw [gc,if_neg ei] at hd
    exact d8 e3 d hd
  ·rw [gc] at e
   rw [g2]
   by_cases ei:i = m
   ·rw [if_pos ei] at e;injection e with e;subst e;subst ei
    exact ⟨b1,b2,by show 0 ≤ c.pc + 1;omega,by show c.pc + 1 ≤ (c.code.steps.length:Int);omega,fun _ _=>hsp,fun _ _=>by show 1 ≤ c.pc + 1;omega⟩
   ·rw [if_neg ei] at e
    obtain ⟨d1,d2,d3,d4,d5,d6⟩:=h.ca i d e
    exact ⟨d1,d2,d3,d4,fun _=>d5 ei,fun _=>d6 ei⟩
  ·refine ⟨?_,?_⟩
   ·by_cases ei:i = m
    ·subst ei;omega
    ·unfold pcN;rw [gc,if_neg ei];exact Nat.le_refl _
   ·unfold enN
    rw [g1]
    by_cases ei:i = m
    ·rw [if_pos ei,ei,ht];simp only [he,if_true];exact Nat.zero_le _
    ·rw [if_neg ei];exact Nat.le_refl _
 unfold goOnF
 rw [ht,hc]
 simp only
 have hcm:(s.cset m { c with pc:=c.pc + 1 }).calls[m]? = some { c with pc:=c.pc + 1 }:=cset_at hc
 by_cases hend:c.pc + 1 < (c.code.steps.length:Int)
 ·have hpop:popS (s.cset m { c with pc:=c.pc + 1 }).calls t.sarr (t.slen - 1) m = some (t.slen - 1):=popS_stay hcm hend
  rw [hpop,a2]
  exact key _ { t with slen:=1 } (fun i=>tset_get (s:=s.cset m _) ht i) tset_len rfl rfl rfl rfl rfl rfl rfl rfl (.inl he)
 ·have hpop:popS (s.cset m { c with pc:=c.pc + 1 }).calls t.sarr (t.slen - 1) m = none:=by
   rw [a2];exact popS_end hcm (by show (c.code.steps.length:Int) ≤ c.pc + 1;omega)
  rw [hpop]
  simp only
  obtain ⟨k1,k2,k3,k4⟩:=key ((s.cset m { c with pc:=c.pc + 1 }).tset m (clo { t with slen:=1 } 3)) (clo { t with slen:=1 } 3) (fun i=>tset_get (s:=s.cset m _) ht i) tset_len rfl rfl rfl rfl rfl rfl rfl rfl (.inr ⟨rfl,by omega⟩)
  have hq:=settleF_nw (m + 1) _ m k1.nw
  exact ⟨k1.cq hq,by rw [hq.tl];exact k2,fun i=>by rw [pcN_cq hq,enN_cq hq];exact k3 i,by rw [pcN_cq hq];exact k4⟩
end Go.Ab
set_option maxHeartbeats 4000000
namespace Go.Ab
open Go Go.Ab Go.Proofs Go.Ab.Ty
theorem Zs.cq {s s':PRun} {n:Nat} (h:Zs s s' n):Cq s s':=⟨h.p,h.calls,h.tl,fun i t' e=>by
 obtain ⟨t,e0,f⟩:=h.tk i t' e
 exact ⟨t,e0,by rw [f],by rw [f],by rw [f],by rw [f],by rw [f],by rw [f],by rw [f]⟩⟩
theorem ChB.mono {n k w:Nat} {x y:Nat→Prop} {s:PRun} (h:ChB n k w x s) (hxy:∀ i,x i→y i):ChB n k w y s:=
 ⟨h.p,h.tl,h.cl,h.tk,fun i c e=>by
  obtain ⟨a1,a2,a3,a4,a5,a6⟩:=h.ca i c e
  exact ⟨a1,a2,a3,a4,fun g=>a5 fun q=>g (hxy i q),fun g=>a6 fun q=>g (hxy i q)⟩⟩
theorem ChB.canL {n k w:Nat} {x:Nat→Prop} {s:PRun} (h:ChB n k w x s) {l:List Nat} (hl:∀ i ∈ l,1 ≤ i):ChB n k w x (canL s l) ∧ (∀ i,pcN (canL s l) i = pcN s i) ∧ ∀ i,enN (canL s l) i = enN s i:=by
 refine ⟨⟨h.p,by rw [canL_len];exact h.tl,by rw [canL_len];exact h.cl,fun i t' e=>?_,fun i c e=>by rw [canL_len];exact h.ca i c e⟩,fun i=>rfl,fun i=>?_⟩
 ·obtain ⟨t,e0,rfl⟩:=canL_of e
  obtain ⟨a1,a2,a3,a4,a5,a6,a7,a8⟩:=h.tk i t e0
  by_cases hi:i ∈ l
  ·rw [if_pos hi]
   exact ⟨a1,a2,a3,a4,a5,a6.imp id fun g=>g.imp id fun g=>⟨g.1,rfl⟩,fun g=>by have:=hl i hi;omega,a8⟩
  ·rw [if_neg hi];exact ⟨a1,a2,a3,a4,a5,a6,a7,a8⟩
 ·unfold enN
  cases e:s.tasks[i]? with
  | none =>
    have:(Go.Ab.canL s l).tasks[i]? = none:=by
     rw [List.getElem?_eq_none]
     rw [canL_len]
     exact List.getElem?_eq_none_iff.1 e
    rw [this]
  | some t =>
    rw [canL_at e]
    simp only
    split <;> rfl
theorem ch_turn {n k w:Nat} (h7:n ≤ 7) {s:PRun} (hG:GG s) (hTI:TI s F0 F0) (htn:s.turns.length < 2000) (h:ChB n k w F0 s) {m j:Nat} {t:PTask} {c:PCall} {st:Stp} {l:Lk} {q i:Nat} (hT:TopC s m t j c st l q i) (h1:t.state = 1) :
 ChB n k w F0 (turnX s m j c st) ∧ muS s + 1 ≤ muS (turnX s m j c st):=by
 obtain ⟨hi,hg,hz⟩:=hG
 obtain ⟨hK,hac⟩:=hT.tok hi hg hz h1
 have hMM:=MM_eq
 have hck:=hz.ck
 obtain ⟨t9,hA9,hb9⟩:=turnB_cs hK hac (by omega) (by omega)
 have hZ:=zs_turnB s m c st
 obtain ⟨a1,a2,a3,a4,a5,a6,a7,a8⟩:=h.tk m t hT.ht
 have hi0:i = 0:=by have:=hT.hs;omega
 subst hi0
 have hjm:j = m:=by
  have:=hT.hj
  rw [a1] at this;simp at this;exact this.symm
 subst hjm
 have hpc:=hT.pc
 obtain ⟨b1,b2,b3,b4,b5,b6⟩:=h.ca j c hT.hc
 have hes:=hT.es
 rw [b1] at hes
 have hst:=chS_at (n:=n) (k:=k) (w:=w) (i:=j) hes
 have hjl:j < s.tasks.length:=(List.getElem?_eq_some_iff.1 hT.ht).1
 have htl:=h.tl
 have hcanF:canF s c st = true:=by
  unfold canF
  rcases hst with ⟨e,_,_⟩ | ⟨_,⟨_,e | e⟩ | ⟨_,e⟩⟩
  ·rw [e]
   simp [stG,setB]
   omega
  ·rw [e];simp [stG]
  ·rw [e];simp [stG]
  ·rw [e];simp [stG]
 have q9:=hZ.cq
 unfold turnX
 rw [if_neg (by rw [hcanF];decide)]
 obtain ⟨s9,hs9⟩:∃ s9,s9 = turnB s j c st:=⟨_,rfl⟩
 rw [← hs9] at hA9 q9 ⊢
 have ht9:=hA9.tk
 have h9:ChB n k w F0 s9:=h.cq q9
 have hI9:=hA9.iv
 have hK9:Tok 80000 s9 j j t9 c st:=hK.cs hA9 (by omega)
 have e9t:tkAt s9 j = t9:=tkAt_eq ht9
 have hc9:s9.calls[j]? = some c:=by rw [hA9.calls];exact hT.hc
 have l9:s9.tasks.length = s.tasks.length:=q9.tl
 obtain ⟨c1,c2,c3,c4,c5,c6,c7,c8⟩:=h9.tk j t9 ht9
 rw [e9t]
 -- what has to be shown of the end
 have fin:∀ s':PRun,ChB n k w F0 s'→s9.tasks.length ≤ s'.tasks.length→(∀ i,i < s9.tasks.length→pcN s9 i ≤ pcN s' i ∧ enN s9 i ≤ enN s' i)→(pcN s9 j + 1 ≤ pcN s' j ∨ enN s9 j + 1 ≤ enN s' j)→ChB n k w F0 s' ∧ muS s + 1 ≤ muS s':=fun s' g1 g2 g3 g4=>by
  refine ⟨g1,mu_step (m:=j) hjl (by omega) (fun i hi=>?_) ?_⟩
  ·rw [← pcN_cq q9,← enN_cq q9];exact g3 i (by omega)
  ·rw [← pcN_cq q9,← enN_cq q9];exact g4
 have hpos:0 ≤ c.actor ∧ st.op ≠ 12 ∧ st.op ≠ 9 ∧ c.pc ≠ (c.code.steps.length:Int) - 1→False:=fun g=>by omega
 -- a step that leaves all but who is cancelled as it is
 have stay:∀ s10:PRun,ChB n k w F0 s10→s10.tasks.length = s9.tasks.length→s10.calls[j]? = some c→(∃ t10,s10.tasks[j]? = some t10 ∧ t10.ending = 0)→(∀ i,pcN s10 i = pcN s9 i)→(∀ i,enN s10 i = enN s9 i)→(j + 1 < s.tasks.length ∨ j + 1 = n)→ChB n k w F0 (turnG s10 j j c st) ∧ muS s + 1 ≤ muS (turnG s10 j j c st):=fun s10 g1 g2 g3 g4 g5 g6 g7=>by
  obtain ⟨t10,g4,g8⟩:=g4
  unfold turnG
  rw [if_neg hpos]
  obtain ⟨k1,k2,k3,k4⟩:=(g1.mono (y:=(· = j)) fun i hi=>hi.elim).go g4 g3 (by omega) g8 (by rw [g2,l9];exact g7)
  refine fin _ k1 (by rw [k2,g2];exact Nat.le_refl _) (fun i _=>?_) (.inl ?_)
  ·rw [← g5,← g6];exact k3 i
  ·rw [← g5];exact k4
 have hsp:(c.pc.toNat ≠ 0 ∨ ¬ j + 1 < n)→(j + 1 < s.tasks.length ∨ j + 1 = n):=fun g=>by
  rcases g with g | g
  ·exact b5 id (by omega)
  ·right;omega
 have hk1:∀ z ∈ t9.kids,1 ≤ z:=c5
 have hge:∀ x ∈ t9.kids.flatMap fun k=>dsc s9 (s9.tasks.length) k.toNat,1 ≤ x:=fun x hx=>by
  obtain ⟨z,z1,z2⟩:=List.mem_flatMap.1 hx
  have:=dsc_ge hI9.kd _ _ _ z2
  have:=hk1 z z1
  omega
 have hop:st.op = 6 ∨ st.op = 12 ∨ st.op = 10 ∨ st.op = 11:=by
  rcases hst with ⟨e,_,_⟩ | ⟨_,⟨_,e | e⟩ | ⟨_,e⟩⟩ <;> rw [e] <;> simp [stG]
 rcases hst with ⟨e,e1,e2⟩ | ⟨e0,⟨e1,e | e⟩ | ⟨e1,e⟩⟩
 · -- the next one is started
   have hlen:s.tasks.length = j + 1:=by
    by_cases g:j + 1 < s.tasks.length
    ·have:=b6 id g;omega
    ·omega
   rw [e]
   simp +decide only [stepF,stG,if_true,if_false]
   obtain ⟨tn,o,d1,d2,d3,d4,d5,d6,d7,d8,d9,d10,d11,d12,d13⟩:=startF_get (s:=s9) (c:=cdAt s9.p.codes ((j:Int) + 1)) (vs:=givL c []) (a:=s9.pool.getD t9.clk []) (prio:=0) (par:=j) (canc:=t9.canc) hI9.wf.endl (.inr ⟨j,t9,rfl,ht9,hK9.en,hK9.wt⟩)
   have hcd:cdAt s9.p.codes ((j:Int) + 1) = chC n k w (j + 1):=by
    unfold cdAt
    rw [h9.p,show ((j:Int) + 1).toNat = j + 1 by omega]
    exact getD_at (chP_get e2)
   obtain ⟨sF,hsF⟩:∃ sF,sF = startF s9 (cdAt s9.p.codes ((j:Int) + 1)) (givL c []) (s9.pool.getD t9.clk []) 0 j t9.canc:=⟨_,rfl⟩
   have pF:sF.p = s9.p:=by rw [hsF];exact (startF_fx _ _ _ _ _ _ _).p
   rw [← hsF] at d1 d2 d3 ⊢
   rw [hcd] at d3 d13
   obtain ⟨t10,ht10⟩:∃ t10,t10 = { t9 with kids:=t9.kids ++ [(s9.tasks.length:Int)],spn:=if c.actor < 0 then setM t9.spn c.pc s9.tasks.length else t9.spn }:=⟨_,rfl⟩
   rw [← ht10]
   have f10:t10.sarr = t9.sarr ∧ t10.slen = t9.slen ∧ t10.par = t9.par ∧ t10.waits = t9.waits ∧ t10.ending = t9.ending ∧ t10.canc = t9.canc ∧ t10.kids = t9.kids ++ [(s9.tasks.length:Int)]:=by rw [ht10];exact ⟨rfl,rfl,rfl,rfl,rfl,rfl,rfl⟩
   obtain ⟨f1,f2,f3,f4,f5,f6,f7⟩:=f10
   have hjF:sF.tasks[j]? = some t9:=by rw [d1,List.getElem?_append_left (by omega)];exact ht9
   have G:∀ i,(sF.tset j t10).tasks[i]? = if i = j then some t10 else if i = j + 1 then some tn else s9.tasks[i]?:=fun i=>by
    rw [tset_get hjF]
    by_cases g:i = j
    ·rw [if_pos g,if_pos g]
    ·rw [if_neg g,if_neg g,d1]
     by_cases g2:i = j + 1
     ·rw [if_pos g2,g2,show j + 1 = s9.tasks.length by omega];simp
     ·rw [if_neg g2]
      by_cases g3:i < s9.tasks.length
      ·rw [List.getElem?_append_left g3]
      ·rw [List.getElem?_eq_none (by simp;omega),List.getElem?_eq_none (by omega)]
   have GC:∀ i,(sF.tset j t10).calls[i]? = if i = j + 1 then some (newC (chC n k w (j + 1)) (givL c []) (-1)) else s9.calls[i]?:=fun i=>by
    show sF.calls[i]? = _
    rw [d3]
    have hcl:=h9.cl
    by_cases g2:i = j + 1
    ·rw [if_pos g2,g2,show j + 1 = s9.calls.length by omega];simp
    ·rw [if_neg g2]
     by_cases g3:i < s9.calls.length
     ·rw [List.getElem?_append_left g3]
     ·rw [List.getElem?_eq_none (by simp;omega),List.getElem?_eq_none (by omega)]
   have hL:(sF.tset j t10).tasks.length = j + 2:=by rw [tset_len,d1];simp;omega
   have hX:ChB n k w (· = j) (sF.tset j t10):=by
    refine ⟨by show sF.p = _;rw [pF];exact h9.p,by omega,?_,fun i u hu=>?_,fun i d hd=>?_⟩
    ·rw [hL]
     show sF.calls.length = _
     rw [d3];simp;have:=h9.cl;omega
    ·rw [G] at hu
     by_cases g:i = j
     ·rw [if_pos g] at hu;injection hu with hu;subst hu;subst g
      refine ⟨by rw [f1];exact c1,by rw [f2];exact c2,by rw [f3];exact c3,by rw [f4];exact c4,fun z hz=>?_,by rw [f5,f6];exact c6,by rw [f6];exact c7,fun g3=>?_⟩
      ·rw [f7] at hz
       rcases List.mem_append.1 hz with hz | hz
       ·exact c5 z hz
       ·rw [List.mem_singleton] at hz;omega
      ·rw [f5,hK9.en] at g3;omega
     ·rw [if_neg g] at hu
      by_cases g2:i = j + 1
      ·rw [if_pos g2] at hu;injection hu with hu;subst hu;subst g2
       refine ⟨by rw [d4];have:=h9.cl;congr 1;omega,d5,by rw [d8];omega,by rw [d11];decide,(fun z hz=>by rw [d9] at hz;cases hz),?_,fun g3=>by omega,fun g3 d hd=>?_⟩
       ·rcases d13 with ⟨_,g3,_⟩ | ⟨_,g3,_⟩
        ·exact .inl g3
        ·exact .inr (.inl g3)
       ·rw [GC,if_pos rfl] at hd;injection hd with hd;subst hd
        rcases d13 with ⟨_,g4,_⟩ | ⟨_,_,g4,_⟩
        ·omega
        ·show (0:Int) = ((chC n k w (j + 1)).steps.length:Int)
         omega
      ·rw [if_neg g2] at hu
       obtain ⟨u1,u2,u3,u4,u5,u6,u7,u8⟩:=h9.tk i u hu
       refine ⟨u1,u2,u3,u4,u5,u6,u7,fun g3 d hd=>?_⟩
       rw [GC,if_neg g2] at hd
       exact u8 g3 d hd
    ·rw [GC] at hd
     rw [hL]
     by_cases g2:i = j + 1
     ·rw [if_pos g2] at hd;injection hd with hd;subst hd;subst g2
      exact ⟨rfl,rfl,Int.le_refl _,by show (0:Int) ≤ _;omega,fun _ g3=>by have:(1:Int) ≤ 0:=g3;omega,fun _ g3=>by omega⟩
     ·rw [if_neg g2] at hd
      obtain ⟨u1,u2,u3,u4,u5,u6⟩:=h9.ca i d hd
      refine ⟨u1,u2,u3,u4,fun _ g3=>?_,fun g3 g4=>u6 id (by omega)⟩
      rcases u5 id g3 with g4 | g4
      ·left;omega
      ·right;exact g4
   unfold turnG
   have hcG:(sF.tset j t10).calls[j]? = some c:=by rw [GC,if_neg (by omega)];exact hc9
   have htG:(sF.tset j t10).tasks[j]? = some t10:=by rw [G,if_pos rfl]
   have hneg:¬ (0 ≤ c.actor ∧ (6:Int) ≠ 12 ∧ (6:Int) ≠ 9 ∧ c.pc ≠ (c.code.steps.length:Int) - 1):=fun g=>by omega
   simp only [hneg,if_false]
   obtain ⟨k1,k2,k3,k4⟩:=hX.go htG hcG (by omega) (by rw [f5];exact hK9.en) (.inl (by omega))
   have hpN:∀ i,i < s9.tasks.length→pcN s9 i = pcN (sF.tset j t10) i:=fun i hi=>by
    unfold pcN;rw [GC,if_neg (by omega)]
   have heN:∀ i,i < s9.tasks.length→enN s9 i = enN (sF.tset j t10) i:=fun i hi=>by
    unfold enN;rw [G]
    by_cases g:i = j
    ·rw [if_pos g,g,ht9];simp only [f5]
    ·rw [if_neg g,if_neg (by omega)]
   refine fin _ k1 (by rw [k2,hL];omega) (fun i hi=>?_) (.inl ?_)
   ·rw [hpN i hi,heN i hi];exact k3 i
   ·rw [hpN j (by omega)];exact k4
 ·have hsf:stepF s9 j j t9 c st s.turns.length = (true,s9):=by rw [e];simp +decide only [stepF,stG,if_true,if_false]
  rw [hsf]
  exact stay s9 h9 rfl hc9 ⟨t9,ht9,hK9.en⟩ (fun _=>rfl) (fun _=>rfl) (hsp e0)
 ·have hsf:stepF s9 j j t9 c st s.turns.length = (true,canL s9 (dsc s9 s9.tasks.length (kidN t9 0))):=by rw [e];simp +decide only [stepF,stG,if_true,if_false]
  rw [hsf]
  obtain ⟨kc,k1,k2⟩:=hK9.r7 (.inr (by rw [e];rfl))
  have hkN:kidN t9 0 = kc:=by
   have:st.n = 0:=by rw [e];rfl
   rw [this] at k1
   unfold kidN;rw [k1];simp
  have hkc:1 ≤ kc:=by
   have e5:getM t.spn st.n = some (kc:Int):=by rw [← hA9.tsa.2.2.2];exact k1
   have:=a5 _ (hTI.sp j t st.n kc hT.ht e5)
   omega
  obtain ⟨g1,g2,g3⟩:=h9.canL (l:=dsc s9 s9.tasks.length (kidN t9 0)) fun x hx=>by
   have:=dsc_ge hI9.kd _ _ _ hx
   omega
  refine stay _ g1 canL_len hc9 ⟨_,canL_at ht9,?_⟩ g2 g3 (hsp e0)
  split <;> exact hK9.en
 ·by_cases hcn:t9.canc = true
  ·have hsf:stepF s9 j j t9 c st s.turns.length = (false,stopF s9 j):=by rw [e];simp +decide only [stepF,stG,if_true,if_false];rw [if_pos hcn]
   rw [hsf]
   simp only [if_true]
   obtain ⟨g1,g2,g3⟩:=h9.canL hge
   have hnl:j ∉ t9.kids.flatMap fun k=>dsc s9 (s9.tasks.length) k.toNat:=by
    intro hm
    obtain ⟨z,z1,z2⟩:=List.mem_flatMap.1 hm
    obtain ⟨y,rfl,y2,y3⟩:=hI9.kd.kd j t9 ht9 z z1
    have:=dsc_ge hI9.kd _ _ _ z2
    rw [Int.toNat_natCast] at this
    omega
   have htk:(canK s9 t9.kids).tasks[j]? = some t9:=by unfold canK;rw [canL_at ht9,if_neg hnl]
   unfold stopF
   rw [ht9]
   simp only
   have hY:ChB n k w F0 ((canK s9 t9.kids).tset j (clo t9 4)):=by
    refine ⟨g1.p,by rw [tset_len];exact g1.tl,by rw [tset_len];exact g1.cl,fun i u hu=>?_,fun i d hd=>by rw [tset_len];exact g1.ca i d hd⟩
    rw [tset_get htk] at hu
    by_cases g:i = j
    ·rw [if_pos g] at hu;injection hu with hu;subst hu;subst g
     exact ⟨c1,c2,c3,c4,c5,.inr (.inr ⟨rfl,hcn⟩),fun g4=>absurd g4 e1,fun g4=>by have:(4:Int) = 3:=g4;omega⟩
    ·rw [if_neg g] at hu
     exact g1.tk i u hu
   have hq:=settleF_nw (j + 1) _ j hY.nw
   have hle:(settleF (j + 1) ((canK s9 t9.kids).tset j (clo t9 4)) j).tasks.length = s9.tasks.length:=by rw [hq.tl,tset_len];exact canL_len
   have hP:∀ i,pcN ((canK s9 t9.kids).tset j (clo t9 4)) i = pcN s9 i:=fun i=>rfl
   have hE:∀ i,i ≠ j→enN ((canK s9 t9.kids).tset j (clo t9 4)) i = enN s9 i:=fun i hi=>by
    rw [← g3 i]
    unfold enN
    rw [tset_ne fun g=>hi g.symm];rfl
   have hEj:enN ((canK s9 t9.kids).tset j (clo t9 4)) j = 1:=by
    unfold enN;rw [tset_at htk];rfl
   have hEj0:enN s9 j = 0:=by unfold enN;rw [ht9];simp only [hK9.en,if_true]
   refine fin _ (hY.cq hq) (by rw [hle];exact Nat.le_refl _) (fun i hi=>?_) (.inr ?_)
   ·rw [pcN_cq hq,enN_cq hq,hP]
    refine ⟨Nat.le_refl _,?_⟩
    by_cases g:i = j
    ·subst g;rw [hEj,hEj0];omega
    ·rw [hE i g];exact Nat.le_refl _
   ·rw [enN_cq hq,hEj,hEj0];exact Nat.le_refl _
  ·have hsf:stepF s9 j j t9 c st s.turns.length = (true,s9):=by rw [e];simp +decide only [stepF,stG,if_true,if_false];rw [if_neg hcn]
   rw [hsf]
   exact stay s9 h9 rfl hc9 ⟨t9,ht9,hK9.en⟩ (fun _=>rfl) (fun _=>rfl) (hsp e0)
theorem ch_run {n k w:Nat} (h7:n ≤ 7):∀ (f:Nat) (s:PRun),RI s→ChB n k w F0 s→s.turns.length ≤ muS s→ChB n k w F0 (runF f s) ∧ (runF f s).turns.length ≤ muS (runF f s):=by
 intro f
 induction f with
 | zero=>intro s _ h hm;exact ⟨h,hm⟩
 | succ f ih =>
   intro s hR h hm
   have hpq:Cq s (pikF s):=by
    unfold pikF;split
    ·exact .refl s
    ·split
     ·exact .eqs rfl rfl rfl
     ·exact .refl s
   obtain ⟨e1,e2⟩:=pikF_same s
   have hmu:muS (pikF s) = muS s:=by
    unfold muS
    rw [hpq.tl]
    congr 1
    funext i
    rw [pcN_cq hpq,enN_cq hpq]
   unfold runF
   split
   ·rename_i htn
    split
    ·exact ⟨h.cq hpq,by rw [e2,hmu];exact hm⟩
    ·rename_i hr
     obtain ⟨hR2,htl⟩:=hR.turn htn hr
     obtain ⟨m,j,t,c,st,l,q,i,hn,hT,h1,hE,_⟩:=pick_top hR.gg hr
     obtain ⟨g1,g2⟩:=ch_turn h7 (pikF_gg hR.gg) (pikF_ti hR.ti) (by rw [e2];exact htn) (h.cq hpq) hT h1
     rw [← hE] at g1 g2
     exact ih _ hR2 g1 (by omega)
   ·exact ⟨h,hm⟩
theorem ch_new {n k w:Nat} (h2:2 ≤ n) (sched:List Int):ChB n k w F0 (newF (chP n k w) sched (chC n k w 0)):=by
 unfold newF
 obtain ⟨tn,o,a1,a2,a3,a4,a5,a6,a7,a8,a9,a10,a11,a12,a13⟩:=startF_get (s:=nwS (chP n k w) sched ((chP n k w).actors.toNat + (chC n k w 0).params.toNat) (chP n k w).actors.toNat (List.replicate ((chP n k w).actors.toNat + 1) m32)) (c:=chC n k w 0) (vs:=varsN (chP n k w).actors.toNat (chC n k w 0).params.toNat) (a:=m32) (prio:=0) (par:=-1) (canc:=false) rfl (.inl (by decide))
 obtain ⟨R,hR⟩:∃ R,R = startF (nwS (chP n k w) sched ((chP n k w).actors.toNat + (chC n k w 0).params.toNat) (chP n k w).actors.toNat (List.replicate ((chP n k w).actors.toNat + 1) m32)) (chC n k w 0) (varsN (chP n k w).actors.toNat (chC n k w 0).params.toNat) m32 0 (-1) false:=⟨_,rfl⟩
 have hp:R.p = chP n k w:=by rw [hR];exact (startF_fx _ _ _ _ _ _ _).p
 rw [← hR] at a1 a2 a3 ⊢
 have b1:R.tasks = [tn]:=a1
 have b3:R.calls = [newC (chC n k w 0) (varsN (chP n k w).actors.toNat (chC n k w 0).params.toNat) (-1)]:=a3
 refine ⟨hp,by rw [b1];simp;omega,by rw [b1,b3];rfl,fun i t ht=>?_,fun i c hc=>?_⟩
 ·rw [b1] at ht
  cases i with
  | succ i=>simp at ht
  | zero =>
    simp at ht;subst ht
    refine ⟨a4,a5,by rw [a8];rfl,by rw [a11];decide,(fun z hz=>by rw [a9] at hz;cases hz),?_,fun _=>a7,fun g c hc=>?_⟩
    ·rcases a13 with ⟨_,g,_⟩ | ⟨_,g,_⟩
     ·exact .inl g
     ·exact .inr (.inl g)
    ·rcases a13 with ⟨_,g4,_⟩ | ⟨_,_,g4,_⟩
     ·omega
     ·rw [b3] at hc;simp at hc;subst hc
      show (0:Int) = ((chC n k w 0).steps.length:Int)
      omega
 ·rw [b3] at hc
  cases i with
  | succ i=>simp at hc
  | zero =>
    simp at hc;subst hc
    rw [b1]
    exact ⟨rfl,rfl,Int.le_refl _,by show (0:Int) ≤ _;omega,fun _ g3=>by have:(1:Int) ≤ 0:=g3;omega,fun _ g3=>by simp at g3⟩
theorem ch_end {n k w:Nat} (h2:2 ≤ n) (h7:n ≤ 7) (hk:k ≤ 12) (hw:w ≤ 9) {sched:List Int} (hs:sched.length ≤ 200) :
 okRun (chP n k w) sched ∧ 2 ≤ (endF (chP n k w) sched).tasks.length ∧ (endF (chP n k w) sched).tasks.length ≤ n ∧ ∀ (i:Nat) (t:PTask),(endF (chP n k w) sched).tasks[i]? = some t→t.par = (i:Int) - 1 ∧ (t.state = 3 ∨ (t.state = 4 ∧ t.canc = true)) ∧ (i = 0→t.canc = false):=by
 have hok:okRun (chP n k w) sched:=⟨chP_ok h2 h7 hk hw,hs⟩
 obtain ⟨hR,hend⟩:=endF_ri hok
 obtain ⟨cd,hcd,hG,hT,_⟩:=new_gg hok
 obtain ⟨_,hcc⟩:=chP_at hcd
 subst hcc
 have hgd:(chP n k w).codes.getD 0 ⟨0,0,[]⟩ = chC n k w 0:=getD_at hcd
 obtain ⟨t1,t2⟩:=newF_ti (chP n k w) sched (chC n k w 0)
 have hC:=ch_run (k:=k) (w:=w) h7 2001 _ ⟨hG,t1,(by rw [hT];intro x hx;cases hx),by omega⟩ (ch_new h2 sched) (by rw [hT];exact Nat.zero_le _)
 have hE:endF (chP n k w) sched = runF 2001 (newF (chP n k w) sched (chC n k w 0)):=by unfold endF;rw [hgd]
 rw [← hE] at hC
 obtain ⟨hC,hmu⟩:=hC
 obtain ⟨R,hRe⟩:∃ R,R = endF (chP n k w) sched:=⟨_,rfl⟩
 rw [← hRe] at hC hmu hR hend ⊢
 have htl:=hC.tl
 have hb:muS R ≤ 14 * R.tasks.length:=sumR_bd _ fun i hi=>by
  have h1:pcN R i ≤ 13:=by
   unfold pcN
   split
   ·rename_i c hc
    obtain ⟨b1,b2,b3,b4,_⟩:=hC.ca i c hc
    have:(chC n k w i).steps.length ≤ 13:=chS_len hk hw
    rw [b1] at b4
    omega
   ·omega
  have h2:enN R i ≤ 1:=by
   unfold enN
   split
   ·split <;> omega
   ·omega
  omega
 have hready:readyF R = []:=by
  rcases hend with g | g
  ·exfalso
   have:14 * R.tasks.length ≤ 14 * 7:=Nat.mul_le_mul_left 14 (by omega)
   omega
  ·exact g
 have hov:=stuck_over hR.gg hR.ti hready
 have hst:∀ (i:Nat) (t:PTask),R.tasks[i]? = some t→t.ending = t.state ∧ (t.state = 3 ∨ t.state = 4):=fun i t ht=>by
  have:=hov i t ht
  rcases hR.ti.st i t ht with ⟨a,_⟩ | ⟨a,_⟩ | ⟨a,_⟩ | ⟨a,b,_⟩
  ·omega
  ·omega
  ·omega
  ·exact ⟨b,a⟩
 refine ⟨hok,?_,htl.2,fun i t ht=>?_⟩
 ·obtain ⟨t,ht⟩:∃ t,R.tasks[0]? = some t:=⟨_,List.getElem?_eq_getElem (by omega)⟩
  obtain ⟨e1,e2⟩:=hst 0 t ht
  obtain ⟨a1,a2,a3,a4,a5,a6,a7,a8⟩:=hC.tk 0 t ht
  have hcn:=a7 rfl
  have h3:t.ending = 3:=by
   rcases a6 with g | g | ⟨g,g2⟩
   ·omega
   ·exact g
   ·rw [hcn] at g2;cases g2
  obtain ⟨c,hc⟩:∃ c,R.calls[0]? = some c:=⟨_,List.getElem?_eq_getElem (by rw [hC.cl];omega)⟩
  have hpc:=a8 h3 c hc
  obtain ⟨b1,b2,b3,b4,b5,b6⟩:=hC.ca 0 c hc
  have hl1:1 ≤ (chC n k w 0).steps.length:=by
   show 1 ≤ (chS n k w 0).length
   unfold chS
   rw [if_pos (by omega)]
   simp
  rw [b1] at hpc
  rcases b5 id (by omega) with g | g <;> omega
 ·obtain ⟨e1,e2⟩:=hst i t ht
  obtain ⟨a1,a2,a3,a4,a5,a6,a7,a8⟩:=hC.tk i t ht
  refine ⟨a3,?_,a7⟩
  rcases a6 with g | g | ⟨g,g2⟩
  ·omega
  ·left;omega
  ·right;exact ⟨by omega,g2⟩
end Go.Ab
