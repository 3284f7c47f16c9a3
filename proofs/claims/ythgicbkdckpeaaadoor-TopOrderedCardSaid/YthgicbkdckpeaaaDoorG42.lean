/- Part of the proof. -/
import Derived.Test.YthgicbkdckpeaaaDoorG41
set_option linter.unusedSimpArgs false
set_option linter.unusedVariables false
set_option maxHeartbeats 4000000
namespace Go.Ab
open Go Go.Ab Go.Proofs Go.Ab.Ty
structure Gr (s s':PRun) (n:Nat) (b:Int):Prop where
 pl:s.pool.length ≤ s'.pool.length
 po:∀ k:Nat,k < s.pool.length→∀ i,cel s k i ≤ cel s' k i
 tk:∀ t:PTask,s.tasks[n]? = some t→∃ t':PTask,s'.tasks[n]? = some t' ∧ ∀ i,cel s t.clk i ≤ cel s' t'.clk i
 ac:∀ (a k:Nat),s.acts[a]? = some k→∃ k':Nat,s'.acts[a]? = some k' ∧ ∀ i,cel s k i ≤ cel s' k' i
 ot:∀ k:Nat,k ≠ n→s'.tasks[k]? = s.tasks[k]?
 up:(∀ l ∈ s.pool,∀ v ∈ l,v < b)→∀ l ∈ s'.pool,∀ v ∈ l,v < b
theorem Gr.refl (s:PRun) (n:Nat) (b:Int):Gr s s n b:=⟨Nat.le_refl _,fun _ _ _=>Int.le_refl _,fun t h=>⟨t,h,fun _=>Int.le_refl _⟩,fun a k h=>⟨k,h,fun _=>Int.le_refl _⟩,fun _ _=>rfl,fun h=>h⟩
theorem Gr.trans {s s1 s2:PRun} {n:Nat} {b:Int} (h:Gr s s1 n b) (g:Gr s1 s2 n b):Gr s s2 n b:=by
 refine ⟨Nat.le_trans h.pl g.pl,fun k hk i=>Int.le_trans (h.po k hk i) (g.po k (Nat.lt_of_lt_of_le hk h.pl) i),fun t ht=>?_,fun a k hk=>?_,fun k hk=>(g.ot k hk).trans (h.ot k hk),fun e=>g.up (h.up e)⟩
 ·obtain ⟨t1,a1,a2⟩:=h.tk t ht
  obtain ⟨t2,b1,b2⟩:=g.tk t1 a1
  exact ⟨t2,b1,fun i=>Int.le_trans (a2 i) (b2 i)⟩
 ·obtain ⟨k1,a1,a2⟩:=h.ac a k hk
  obtain ⟨k2,b1,b2⟩:=g.ac a k1 a1
  exact ⟨k2,b1,fun i=>Int.le_trans (a2 i) (b2 i)⟩
theorem Gr.same {s s':PRun} {n:Nat} {b:Int} (h1:s'.pool = s.pool) (h2:s'.tasks = s.tasks) (h3:s'.acts = s.acts):Gr s s' n b:=by
 have hc:∀ k i,cel s' k i = cel s k i:=fun k i=>cel_of (by rw [h1]) i
 exact ⟨by rw [h1];exact Nat.le_refl _,fun k _ i=>by rw [hc];exact Int.le_refl _,fun t h=>⟨t,by rw [h2];exact h,fun i=>by rw [hc];exact Int.le_refl _⟩,fun a k h=>⟨k,by rw [h3];exact h,fun i=>by rw [hc];exact Int.le_refl _⟩,fun _ _=>by rw [h2],by rw [h1];exact fun h=>h⟩
theorem Gr.tset {s:PRun} {n:Nat} {b:Int} {t t':PTask} (ht:s.tasks[n]? = some t) (h:t'.clk = t.clk):Gr s (s.tset n t') n b:=
 ⟨Nat.le_refl _,fun _ _ _=>Int.le_refl _,fun u hu=>⟨t',tset_at ht,fun i=>by rw [ht] at hu;injection hu with hu;subst hu;rw [h];exact Int.le_refl _⟩,fun a k h=>⟨k,h,fun _=>Int.le_refl _⟩,fun k hk=>tset_ne (fun e=>hk e.symm),fun h=>h⟩
theorem cel_addP {s:PRun} {l:List Int} {k:Nat} (h:k < s.pool.length) (i:Nat):cel (s.addP l) k i = cel s k i:=cel_of (addP_ne (by omega)) i
theorem cel_new {s:PRun} {l:List Int} (i:Nat):cel (s.addP l) s.pool.length i = l.getD i (-1):=by
 unfold cel;rw [getD_at addP_at]
theorem Gr.addP {s:PRun} {n:Nat} {b:Int} {l:List Int} (h:Iv s) (hl:(∀ l ∈ s.pool,∀ v ∈ l,v < b)→∀ v ∈ l,v < b):Gr s (s.addP l) n b:=by
 refine ⟨by simp [PRun.addP],fun k hk i=>by rw [cel_addP hk];exact Int.le_refl _,fun t ht=>⟨t,ht,fun i=>?_⟩,fun a k ha=>⟨k,ha,fun i=>?_⟩,fun _ _=>rfl,fun g l' hl'=>?_⟩
 ·rw [cel_addP (h.wf.tsk t (List.mem_of_getElem? ht)).2.2.1];exact Int.le_refl _
 ·rw [cel_addP (h.wf.acts k (List.mem_of_getElem? ha))];exact Int.le_refl _
 ·rcases List.mem_append.1 (show l' ∈ s.pool ++ [l] from hl') with g2 | g2
  ·exact g l' g2
  ·rw [List.mem_singleton] at g2;subst g2;exact hl g
theorem pl_bd {s:PRun} {b:Int} {x:Nat} (h:∀ l ∈ s.pool,∀ v ∈ l,v < b):∀ v ∈ plA s x,v < b:=by
 intro v hv
 unfold plA at hv
 cases hz:s.pool[x]? with
 | none=>simp [List.getD_eq_getElem?_getD,hz] at hv
 | some l =>
   rw [getD_at hz] at hv
   exact h l (List.mem_of_getElem? hz) v hv
theorem Gr.clkJ {s:PRun} {n x:Nat} {b:Int} {t:PTask} (h:Iv s) (ht:s.tasks[n]? = some t) (hx:x < s.pool.length):Gr s (clkJ s n x) n b ∧ ∀ i,cel s x i ≤ cel (clkJ s n x) (tkAt (clkJ s n x) n).clk i:=by
 obtain ⟨a1,a2,a3,a4⟩:=h.wf.tsk t (List.mem_of_getElem? ht)
 have l1:=(h.wf.p (plA_at a3)).2
 have l2:=(h.wf.p (plA_at hx)).2
 have hat:(Go.Ab.clkJ s n x).tasks[n]? = some { t with clk:=s.pool.length }:=by
  unfold Go.Ab.clkJ;rw [tkAt_eq ht];exact tset_at (s:=s.addP _) ht
 have hce:∀ k i,cel (Go.Ab.clkJ s n x) k i = cel (s.addP (joinL (plA s t.clk) (plA s x))) k i:=fun k i=>by
  unfold Go.Ab.clkJ;rw [tkAt_eq ht];rfl
 have hge:=fun i=>joinL_ge (a:=plA s t.clk) (b:=plA s x) (by omega) i
 have hnw:∀ i,cel (Go.Ab.clkJ s n x) s.pool.length i = (joinL (plA s t.clk) (plA s x)).getD i (-1):=fun i=>by rw [hce,cel_new]
 have hg:Gr s (s.addP (joinL (plA s t.clk) (plA s x))) n b:=.addP h fun g=>join_bd b g
 have hpl:(Go.Ab.clkJ s n x).pool = (s.addP (joinL (plA s t.clk) (plA s x))).pool:=by
  unfold Go.Ab.clkJ;rw [tkAt_eq ht];rfl
 refine ⟨⟨by rw [hpl];exact hg.pl,fun k hk i=>by rw [hce];exact hg.po k hk i,fun u hu=>⟨_,hat,fun i=>?_⟩,fun a k ha=>?_,fun k hk=>?_,by rw [hpl];exact hg.up⟩,fun i=>?_⟩
 ·rw [ht] at hu;injection hu with hu;subst hu
  show _ ≤ cel _ s.pool.length i
  rw [hnw];exact (hge i).1
 ·obtain ⟨k',e1,e2⟩:=hg.ac a k ha
  exact ⟨k',e1,fun i=>by rw [hce];exact e2 i⟩
 ·unfold Go.Ab.clkJ
  exact tset_ne (s:=s.addP _) (fun e=>hk e.symm)
 ·rw [tkAt_eq hat]
  show _ ≤ cel _ s.pool.length i
  rw [hnw];exact (hge i).2
theorem Gr.timeS {s:PRun} {n:Nat} {T:Nat} {t:PTask} (h:Iv s) (ht:s.tasks[n]? = some t) (hn:n < 32) (hb:∀ l ∈ s.pool,∀ v ∈ l,v < (T:Int) + 1) :
 Gr s (timeS s n T) n (T + 1) ∧ (T:Int) ≤ cel (timeS s n T) t.clk n ∧ (∀ k,(∀ i,cel s k i ≤ cel s t.clk i)→∀ i,cel (timeS s n T) k i ≤ cel (timeS s n T) t.clk i):=by
 obtain ⟨a1,a2,a3,a4⟩:=h.wf.tsk t (List.mem_of_getElem? ht)
 have l1:=(h.wf.p (plA_at a3)).2
 have hp:(Go.Ab.timeS s n T).pool = s.pool.set t.clk ((plA s t.clk).set n T):=by unfold Go.Ab.timeS;rw [tkAt_eq ht]
 have hne:∀ k,k ≠ t.clk→∀ i,cel (Go.Ab.timeS s n T) k i = cel s k i:=fun k hk i=>cel_of (by rw [hp,List.getElem?_set_ne (fun e=>hk e.symm)]) i
 have hat:∀ i,cel (Go.Ab.timeS s n T) t.clk i = ((plA s t.clk).set n T).getD i (-1):=fun i=>by
  unfold cel
  rw [hp,getD_at (List.getElem?_set_self a3)]
 have hold:∀ i,cel s t.clk i = (plA s t.clk).getD i (-1):=fun i=>rfl
 have hle:∀ i,cel s t.clk i ≤ cel (Go.Ab.timeS s n T) t.clk i:=fun i=>by
  rw [hat,hold]
  by_cases e:i = n
  ·subst e
   have e1:(plA s t.clk)[i]? = some (plA s t.clk)[i]:=List.getElem?_eq_getElem (by omega)
   have e2:((plA s t.clk).set i (T:Int))[i]? = some (T:Int):=List.getElem?_set_self (by omega)
   rw [getD_at e1,getD_at e2]
   have:=pl_bd hb _ (List.mem_of_getElem? e1)
   omega
  ·rw [List.getD_eq_getElem?_getD,List.getD_eq_getElem?_getD,List.getElem?_set_ne (fun e2=>e e2.symm)]
   exact Int.le_refl _
 have hall:∀ k i,cel s k i ≤ cel (Go.Ab.timeS s n T) k i:=fun k i=>by
  by_cases e:k = t.clk
  ·subst e;exact hle i
  ·rw [hne k e];exact Int.le_refl _
 refine ⟨⟨by rw [hp,List.length_set];exact Nat.le_refl _,fun k _ i=>hall k i,fun u hu=>⟨u,hu,hall _⟩,fun a k ha=>⟨k,ha,hall k⟩,fun _ _=>rfl,fun g l hl=>?_⟩,?_,fun k hk i=>?_⟩
 ·rw [hp] at hl
  rcases List.mem_or_eq_of_mem_set hl with hl | rfl
  ·exact g l hl
  ·intro v hv
   rcases List.mem_or_eq_of_mem_set hv with hv | rfl
   ·exact pl_bd g v hv
   ·omega
 ·rw [hat,getD_at (List.getElem?_set_self (by omega))]
  exact Int.le_refl _
 ·by_cases e:k = t.clk
  ·subst e;exact Int.le_refl _
  ·rw [hne k e];exact Int.le_trans (hk i) (hle i)
theorem Gr.actS {s:PRun} {n:Nat} {t:PTask} {b:Bool} {a B:Int} (h:Iv s) (ht:s.tasks[n]? = some t) (hk:b = true→0 ≤ a→∀ k,s.acts[a.toNat]? = some k→∀ i,cel s k i ≤ cel s t.clk i) :
 Gr s (actS s n b a) n B ∧ (actS s n b a).tasks = s.tasks ∧ (∀ i,cel (actS s n b a) t.clk i = cel s t.clk i) ∧ (b = true→0 ≤ a→a.toNat < s.acts.length→∃ k,(actS s n b a).acts[a.toNat]? = some k ∧ ∀ i,cel (actS s n b a) t.clk i ≤ cel (actS s n b a) k i):=by
 obtain ⟨a1,a2,a3,a4⟩:=h.wf.tsk t (List.mem_of_getElem? ht)
 unfold Go.Ab.actS
 rw [tkAt_eq ht]
 split
 ·rename_i hh
  have hg:Gr s (s.addP (plA s t.clk)) n B:=.addP h fun g=>pl_bd g
  have hc:∀ k i,cel ({ s.addP (plA s t.clk) with acts:=s.acts.set a.toNat s.pool.length }:PRun) k i = cel (s.addP (plA s t.clk)) k i:=fun k i=>rfl
  refine ⟨⟨hg.pl,hg.po,hg.tk,fun a' k ha'=>?_,fun _ _=>rfl,hg.up⟩,rfl,fun i=>by rw [hc,cel_addP a3],fun _ _ hl=>⟨s.pool.length,List.getElem?_set_self hl,fun i=>by rw [hc,hc,cel_addP a3,cel_new];exact Int.le_refl _⟩⟩
  by_cases e:a' = a.toNat
  ·subst e
   refine ⟨s.pool.length,List.getElem?_set_self (List.getElem?_eq_some_iff.1 ha').1,fun i=>?_⟩
   rw [hc,cel_new]
   exact hk hh.1 hh.2 k ha' i
  ·exact ⟨k,by show (s.acts.set _ _)[a']? = _;rw [List.getElem?_set_ne (fun e2=>e e2.symm)];exact ha',fun i=>by rw [hc,cel_addP (h.wf.acts k (List.mem_of_getElem? ha'))];exact Int.le_refl _⟩
 ·rename_i hh
  exact ⟨.refl s n B,rfl,fun _=>rfl,fun e1 e2=>absurd ⟨e1,e2⟩ hh⟩
theorem Gr.ckS {s:PRun} {n:Nat} {t:PTask} {B:Int} (h:Iv s) (ht:s.tasks[n]? = some t) :
 Gr s (ckS s n) n B ∧ (ckS s n).tasks = s.tasks ∧ (ckS s n).cks = s.cks ++ [s.pool.length] ∧ (ckS s n).acts = s.acts ∧ s.pool.length < (ckS s n).pool.length ∧ (∀ k,k < s.pool.length→∀ i,cel (ckS s n) k i = cel s k i) ∧ ∀ i,cel (ckS s n) s.pool.length i = cel s t.clk i:=by
 obtain ⟨a1,a2,a3,a4⟩:=h.wf.tsk t (List.mem_of_getElem? ht)
 unfold Go.Ab.ckS
 rw [tkAt_eq ht]
 have hg:Gr s (s.addP (plA s t.clk)) n B:=.addP h fun g=>pl_bd g
 exact ⟨⟨hg.pl,hg.po,hg.tk,hg.ac,hg.ot,hg.up⟩,rfl,rfl,rfl,by show _ < (s.pool ++ [_]).length;simp,fun k hk i=>cel_addP hk i,fun i=>cel_new i⟩
end Go.Ab
set_option maxHeartbeats 4000000
namespace Go.Ab
open Go Go.Ab Go.Proofs Go.Ab.Ty
theorem cel_clkJ {s:PRun} {n x k:Nat} (h:k < s.pool.length) (i:Nat):cel (clkJ s n x) k i = cel s k i:=by
 have:cel (clkJ s n x) k i = cel (s.addP (joinL (plA s (tkAt s n).clk) (plA s x))) k i:=rfl
 rw [this,cel_addP h]
theorem cel_acK {s:PRun} {n k:Nat} {b:Bool} {a:Int} (h:k < s.pool.length) (i:Nat):cel (acK s n b a) k i = cel s k i:=by
 unfold acK;split
 ·exact cel_clkJ h i
 ·rfl
theorem turnB_gr {s:PRun} {n j:Nat} {t:PTask} {c:PCall} {st:Stp} (h:Tok 80010 s n j t c st) (hac:0 ≤ actF c st→(actF c st).toNat < s.acts.length) (hz1:s.turns.length ≤ 900000) (hz2:s.cks.length ≤ 900000) (hn:n < 32) (hup:∀ l ∈ s.pool,∀ v ∈ l,v < (s.turns.length:Int)) :
 ∃ (t9:PTask) (K:Nat),(turnB s n c st).tasks[n]? = some t9 ∧ Gr s (turnB s n c st) n (s.turns.length + 1) ∧ (turnB s n c st).cks = s.cks ++ [K] ∧ K < (turnB s n c st).pool.length ∧ (∀ i,cel (turnB s n c st) t9.clk i ≤ cel (turnB s n c st) K i) ∧ (s.turns.length:Int) ≤ cel (turnB s n c st) t9.clk n ∧
  (canF s c st = true→0 ≤ actF c st→(∀ k:Nat,s.acts[(actF c st).toNat]? = some k→∀ i,cel s k i ≤ cel (turnB s n c st) t9.clk i) ∧ ∃ k':Nat,(turnB s n c st).acts[(actF c st).toNat]? = some k' ∧ ∀ i,cel (turnB s n c st) t9.clk i ≤ cel (turnB s n c st) k' i):=by
 have hiv:=h.iv
 have ht:=h.ht
 have hP:=h.hP
 have hA:=Cs.turnA hiv ht (by omega)
 have hck1:(turnA s n).cks = s.cks:=rfl
 unfold turnB
 obtain ⟨s1,hs1⟩:∃ s1,s1 = turnA s n:=⟨_,rfl⟩
 rw [← hs1] at hA hck1 ⊢
 have ht1:=hA.tk
 have hw1:=hA.iv.wf
 have hp1:s1.pool.length + 80010 ≤ MM:=by have:=hA.pl;omega
 have hG1:Gr s s1 n (s.turns.length + 1):=by rw [hs1];exact .same rfl rfl rfl
 -- behind
 have hb2:Cs s1 n t 1 (behK s1 n) (tkAt (behK s1 n) n):=by
  unfold behK
  rw [tkAt_eq ht1]
  cases hbh:t.beh with
  | none=>simp only;rw [tkAt_eq ht1];exact (Cs.refl hA.iv ht1).mono (by omega)
  | some b =>
    have hbl:=(hw1.tsk t (List.mem_of_getElem? ht1)).2.2.2 b hbh
    have hbm:s1.behs[b]? = some s1.behs[b]:=List.getElem?_eq_getElem hbl
    obtain ⟨e1,e2⟩:=hw1.behs _ (List.mem_of_getElem? hbm)
    obtain ⟨x,hx⟩:∃ x,s1.behs[b] = [x]:=List.length_eq_one_iff.1 e1
    rw [hx] at hbm e2
    have e3:behX s1 b = x:=by unfold behX;rw [getD_at hbm];rfl
    simp only
    rw [e3]
    have:=Cs.clkJ hA.iv ht1 (e2 x (by simp)) (by omega)
    rw [tkAt_eq this.tk]
    exact this
 have hG2:Gr s1 (behK s1 n) n (s.turns.length + 1):=by
  unfold behK
  rw [tkAt_eq ht1]
  cases hbh:t.beh with
  | none=>exact .refl ..
  | some b =>
    have hbl:=(hw1.tsk t (List.mem_of_getElem? ht1)).2.2.2 b hbh
    have hbm:s1.behs[b]? = some s1.behs[b]:=List.getElem?_eq_getElem hbl
    obtain ⟨e1,e2⟩:=hw1.behs _ (List.mem_of_getElem? hbm)
    obtain ⟨x,hx⟩:∃ x,s1.behs[b] = [x]:=List.length_eq_one_iff.1 e1
    rw [hx] at hbm e2
    have e3:behX s1 b = x:=by unfold behX;rw [getD_at hbm];rfl
    simp only
    rw [e3]
    exact (Gr.clkJ hA.iv ht1 (e2 x (by simp))).1
 have hck2:(behK s1 n).cks = s1.cks:=by unfold behK;split <;> rfl
 obtain ⟨s2,hs2⟩:∃ s2,s2 = behK s1 n:=⟨_,rfl⟩
 rw [← hs2] at hb2 hck2 hG2 ⊢
 obtain ⟨t2,ht2e⟩:∃ t2,t2 = tkAt s2 n:=⟨_,rfl⟩
 rw [← ht2e] at hb2
 have ht2:=hb2.tk
 have hC3:Cs s2 n t2 0 (nobS s2 n) { t2 with beh:=none }:=by
  unfold nobS
  rw [tkAt_eq ht2]
  exact Cs.tset (t':={ t2 with beh:=none }) hb2.iv ht2 ⟨rfl,rfl,rfl,rfl⟩ ⟨rfl,rfl,rfl,rfl,rfl⟩ ((hb2.iv.wf.tsk t2 (List.mem_of_getElem? ht2)).2.2.1) (.inr rfl)
 have hG3:Gr s2 (nobS s2 n) n (s.turns.length + 1):=by
  unfold nobS
  rw [tkAt_eq ht2]
  exact .tset ht2 rfl
 have hA3':Cs s n t 1 (nobS s2 n) { t2 with beh:=none }:=((hA.trans hb2).trans hC3).mono (by omega)
 have hck3:(nobS s2 n).cks = s2.cks:=rfl
 obtain ⟨t3,ht3e⟩:∃ t3,t3 = { t2 with beh:=none }:=⟨_,rfl⟩
 obtain ⟨s3,hs3⟩:∃ s3,s3 = nobS s2 n:=⟨_,rfl⟩
 have hb3:t3.beh = none:=by rw [ht3e]
 rw [← hs3,← ht3e] at hA3'
 rw [← hs3] at hck3 hG3 ⊢
 have hA3:=hA3'
 have ht3:=hA3.tk
 have hI3:=hA3.iv
 have hw3:=hI3.wf
 have hp3:s3.pool.length + 80009 ≤ MM:=by have:=hA3.pl;omega
 have hC4:∃ t4,Cs s3 n t3 1 (awK s3 n st) t4 ∧ t4.beh = none:=by
  unfold awK
  rw [tkAt_eq ht3]
  split
  ·rename_i hh
   obtain ⟨kc,q1,q2⟩:=h.r7 (.inl hh.1)
   rw [← hA3.tsa.2.2.2] at q1
   rw [← hA3.tl] at q2
   have htc:s3.tasks[kc]? = some s3.tasks[kc]:=List.getElem?_eq_getElem q2
   have q4:kidN t3 st.n = kc:=by unfold kidN;rw [q1];rfl
   have q5:ovr s3 kc = decide (3 ≤ s3.tasks[kc].state):=by unfold ovr;rw [htc]
   rw [q4,q5] at hh
   obtain ⟨x,hx⟩:=hI3.en kc _ htc (of_decide_eq_true hh.2)
   have x3:endX s3 kc = x:=by unfold endX;rw [getD_at hx];rfl
   rw [q4,x3]
   exact ⟨_,Cs.clkJ hI3 ht3 (hw3.ends _ (List.mem_of_getElem? hx) x rfl) (by omega),hb3⟩
  ·exact ⟨t3,(Cs.refl hI3 ht3).mono (by omega),hb3⟩
 have hG4:Gr s3 (awK s3 n st) n (s.turns.length + 1):=by
  unfold awK
  rw [tkAt_eq ht3]
  split
  ·rename_i hh
   obtain ⟨kc,q1,q2⟩:=h.r7 (.inl hh.1)
   rw [← hA3.tsa.2.2.2] at q1
   rw [← hA3.tl] at q2
   have htc:s3.tasks[kc]? = some s3.tasks[kc]:=List.getElem?_eq_getElem q2
   have q4:kidN t3 st.n = kc:=by unfold kidN;rw [q1];rfl
   have q5:ovr s3 kc = decide (3 ≤ s3.tasks[kc].state):=by unfold ovr;rw [htc]
   rw [q4,q5] at hh
   obtain ⟨x,hx⟩:=hI3.en kc _ htc (of_decide_eq_true hh.2)
   have x3:endX s3 kc = x:=by unfold endX;rw [getD_at hx];rfl
   rw [q4,x3]
   exact (Gr.clkJ hI3 ht3 (hw3.ends _ (List.mem_of_getElem? hx) x rfl)).1
  ·exact .refl ..
 have hck4:(awK s3 n st).cks = s3.cks:=by unfold awK;split <;> rfl
 obtain ⟨s4,hs4⟩:∃ s4,s4 = awK s3 n st:=⟨_,rfl⟩
 rw [← hs4] at hC4 hck4 hG4 ⊢
 obtain ⟨t4,hC4',hb4⟩:=hC4
 have hA4:Cs s n t 2 s4 t4:=(hA3.trans hC4').mono (by omega)
 have hI4:=hA4.iv
 have hw4:=hI4.wf
 have ht4:=hA4.tk
 have hp4:s4.pool.length + 80008 ≤ MM:=by have:=hA4.pl;omega
 obtain ⟨cn,hcn⟩:∃ cn,cn = canF s c st:=⟨_,rfl⟩
 obtain ⟨a,haF⟩:∃ a,a = actF c st:=⟨_,rfl⟩
 rw [← haF] at hac
 rw [← hcn,← haF]
 have hC5:∃ t5,Cs s4 n t4 1 (acK s4 n cn a) t5 ∧ t5.beh = none:=by
  unfold acK
  split
  ·rename_i hh
   have h1:=hac hh.2
   rw [← hA4.acl] at h1
   have h2:s4.acts[a.toNat]? = some s4.acts[a.toNat]:=List.getElem?_eq_getElem h1
   rw [getD_at h2]
   exact ⟨_,Cs.clkJ hI4 ht4 (hw4.acts _ (List.mem_of_getElem? h2)) (by omega),hb4⟩
  ·exact ⟨t4,(Cs.refl hI4 ht4).mono (by omega),hb4⟩
 have hG5:Gr s4 (acK s4 n cn a) n (s.turns.length + 1) ∧ (cn = true→0 ≤ a→∀ k:Nat,s4.acts[a.toNat]? = some k→∀ i,cel s4 k i ≤ cel (acK s4 n cn a) (tkAt (acK s4 n cn a) n).clk i) ∧ (acK s4 n cn a).acts = s4.acts:=by
  unfold acK
  split
  ·rename_i hh
   have h1:=hac hh.2
   rw [← hA4.acl] at h1
   have h2:s4.acts[a.toNat]? = some s4.acts[a.toNat]:=List.getElem?_eq_getElem h1
   rw [getD_at h2]
   obtain ⟨g1,g2⟩:=Gr.clkJ (b:=s.turns.length + 1) hI4 ht4 (hw4.acts _ (List.mem_of_getElem? h2))
   exact ⟨g1,fun _ _ k hk i=>by rw [h2] at hk;injection hk with hk;subst hk;exact g2 i,rfl⟩
  ·rename_i hh
   exact ⟨.refl ..,fun e1 e2=>absurd ⟨e1,e2⟩ hh,rfl⟩
 have hE5:∀ k,k < s4.pool.length→∀ i,cel (acK s4 n cn a) k i = cel s4 k i:=fun k hk i=>cel_acK hk i
 have hck5:(acK s4 n cn a).cks = s4.cks:=by unfold acK;split <;> rfl
 obtain ⟨s5,hs5⟩:∃ s5,s5 = acK s4 n cn a:=⟨_,rfl⟩
 rw [← hs5] at hC5 hck5 hG5 hE5 ⊢
 obtain ⟨hG5,hG5a,hG5b⟩:=hG5
 obtain ⟨t5,hC5',hb5⟩:=hC5
 have hA5:Cs s n t 3 s5 t5:=(hA4.trans hC5').mono (by omega)
 have hC6:Cs s5 n t5 0 (timeS s5 n s.turns.length) t5:=Cs.timeS hA5.iv hA5.tk
 rw [tkAt_eq hA5.tk] at hG5a
 have hU5:∀ l ∈ s5.pool,∀ v ∈ l,v < (s.turns.length:Int) + 1:=((((hG1.trans hG2).trans hG3).trans hG4).trans hG5).up fun l hl v hv=>by have:=hup l hl v hv;omega
 obtain ⟨hG6,hG6t,hG6k⟩:=Gr.timeS hA5.iv hA5.tk hn hU5
 have hck6:(timeS s5 n s.turns.length).cks = s5.cks:=rfl
 obtain ⟨s6,hs6⟩:∃ s6,s6 = timeS s5 n s.turns.length:=⟨_,rfl⟩
 rw [← hs6] at hC6 hck6 hG6 hG6t hG6k ⊢
 have hac6:s6.acts = s4.acts:=by rw [hs6];exact hG5b
 have hA6:Cs s n t 3 s6 t5:=(hA5.trans hC6).mono (by omega)
 have hC7:Cs s6 n t5 1 (actS s6 n cn a) t5:=Cs.actS hA6.iv hA6.tk (by have:=hA6.pl;omega)
 obtain ⟨hG7,hT7,hc7,hG7k⟩:=Gr.actS (b:=cn) (a:=a) (B:=s.turns.length + 1) hA6.iv hA6.tk (fun e1 e2 k hk i=>by
  rw [hac6] at hk
  have hk4:=hI4.wf.acts k (List.mem_of_getElem? hk)
  exact hG6k k (fun i=>by rw [hE5 k hk4];exact hG5a e1 e2 k hk i) i)
 have hck7:(actS s6 n cn a).cks = s6.cks:=by unfold actS;split <;> rfl
 obtain ⟨s7,hs7⟩:∃ s7,s7 = actS s6 n cn a:=⟨_,rfl⟩
 rw [← hs7] at hC7 hck7 hG7 hT7 hc7 hG7k ⊢
 have hA7:Cs s n t 4 s7 t5:=(hA6.trans hC7).mono (by omega)
 have hz7:s7.cks.length ≤ 900000:=by rw [hck7,hck6,hck5,hck4,hck3,hck2,hck1];exact hz2
 have hC8:Cs s7 n t5 1 (ckS s7 n) t5:=Cs.ckS hA7.iv hA7.tk (by have:=hA7.pl;omega) (by omega)
 have hA8:Cs s n t 5 (ckS s7 n) t5:=(hA7.trans hC8).mono (by omega)
 obtain ⟨hG8,hT8,hK8,hac8,hl8,hc8,hn8⟩:=Gr.ckS (B:=s.turns.length + 1) hA7.iv hA7.tk
 obtain ⟨s8,hs8⟩:∃ s8,s8 = ckS s7 n:=⟨_,rfl⟩
 rw [← hs8] at hA8 hG8 hT8 hK8 hac8 hl8 hc8 hn8 ⊢
 have ht8:=hA8.tk
 have hC9:Cs s8 n t5 0 (hasS s8 n (-1)) { t5 with has:=-1 }:=by
  unfold hasS;rw [tkAt_eq ht8]
  exact Cs.tset hA8.iv ht8 ⟨rfl,rfl,rfl,rfl⟩ ⟨rfl,rfl,rfl,rfl,rfl⟩ (hA8.iv.wf.tsk t5 (List.mem_of_getElem? ht8)).2.2.1 (.inl rfl)
 have hG9:Gr s8 (hasS s8 n (-1)) n (s.turns.length + 1):=by
  unfold hasS;rw [tkAt_eq ht8]
  exact .tset ht8 rfl
 have hG04:=((hG1.trans hG2).trans hG3).trans hG4
 have hcl6:t5.clk < s6.pool.length:=(hA6.iv.wf.tsk t5 (List.mem_of_getElem? hA6.tk)).2.2.1
 have hcl5:t5.clk < s5.pool.length:=(hA5.iv.wf.tsk t5 (List.mem_of_getElem? hA5.tk)).2.2.1
 have hcl7:t5.clk < s7.pool.length:=(hA7.iv.wf.tsk t5 (List.mem_of_getElem? hA7.tk)).2.2.1
 have hc9:∀ k i,cel (hasS s8 n (-1)) k i = cel s8 k i:=fun _ _=>rfl
 have hx9:∀ i,cel (hasS s8 n (-1)) t5.clk i = cel s6 t5.clk i:=fun i=>by rw [hc9,hc8 _ hcl7,hc7]
 refine ⟨_,s7.pool.length,hC9.tk,(((((hG04.trans hG5).trans hG6).trans hG7).trans hG8).trans hG9),?_,hl8,fun i=>?_,?_,fun e1 e2=>⟨fun k hk i=>?_,?_⟩⟩
 ·show s8.cks = _
  rw [hK8,hck7,hck6,hck5,hck4,hck3,hck2,hck1]
 ·show cel _ t5.clk i ≤ _
  rw [hx9,hc9,hn8,hc7];exact Int.le_refl _
 ·show _ ≤ cel _ t5.clk n
  rw [hx9];exact hG6t
 ·show _ ≤ cel _ t5.clk i
  rw [hx9]
  obtain ⟨k4,q1,q2⟩:=hG04.ac _ k hk
  have q3:=hG5a e1 e2 k4 q1 i
  have q4:=hG6.po t5.clk hcl5 i
  have q5:=q2 i
  omega
 ·obtain ⟨k7,q1,q2⟩:=hG7k e1 e2 (by rw [hac6,hA4.acl];exact hac e2)
  refine ⟨k7,by show s8.acts[_]? = _;rw [hac8];exact q1,fun i=>?_⟩
  show cel _ t5.clk i ≤ _
  rw [hc9,hc9,hc8 _ hcl7,hc8 _ (hA7.iv.wf.acts k7 (List.mem_of_getElem? q1))]
  exact q2 i
end Go.Ab
set_option maxHeartbeats 4000000
namespace Go.Ab
open Go Go.Ab Go.Proofs Go.Ab.Ty
theorem startN_eq:∀ k:Nat,k ≤ 8→Rg.startN Rg.start0 k = ⟨fun v=>if 0 ≤ v ∧ v < (k:Int) then v + 1 else 0,k,-1⟩:=by
 intro k
 induction k with
 | zero =>
   intro _
   show Rg.start0 = _
   unfold Rg.start0
   congr 1
   funext v
   rw [if_neg (by omega)]
 | succ k ih =>
   intro hk
   show Rg.freshR (Rg.startN Rg.start0 k) k = _
   rw [ih (by omega)]
   unfold Rg.freshR
   simp only
   rw [show IntKind.i64.wrap ((k:Int) + 1) = ((k + 1:Nat):Int) by rw [wrap_id (by omega) (by omega)];omega]
   congr 1
   funext v
   unfold Rg.updI
   by_cases e:v = (k:Int)
   ·rw [if_pos e,if_pos (by omega)];omega
   ·rw [if_neg e]
    show (if 0 ≤ v ∧ v < (k:Int) then v + 1 else 0) = _
    by_cases e2:0 ≤ v ∧ v < (k:Int)
    ·rw [if_pos e2,if_pos (by omega)]
    ·rw [if_neg e2,if_neg (by omega)]
theorem startF_eq (c:Cd) (m:Bool) (h:0 ≤ c.params ∧ c.params ≤ 7):(∀ v,(Rg.startF c m).of v = if 0 ≤ v ∧ v < c.params then v + 1 else if m = true ∧ v = c.params then c.params + 1 else 0) ∧ (Rg.startF c m).actor = (if m then c.params + 1 else -1) ∧ 0 ≤ (Rg.startF c m).count ∧ (Rg.startF c m).count ≤ c.params + 1 ∧ (m = true→(Rg.startF c m).count = c.params + 1) ∧ (m = false→(Rg.startF c m).count = c.params):=by
 have hk:=startN_eq c.params.toNat (by omega)
 have hkn:((c.params.toNat:Nat):Int) = c.params:=Int.toNat_of_nonneg h.1
 cases m with
 | false =>
   unfold Rg.startF
   rw [if_neg (by simp),hk]
   simp only [hkn]
   refine ⟨fun v=>?_,by simp,by omega,by omega,by simp,by simp⟩
   split
   ·rfl
   ·simp
 | true =>
   unfold Rg.startF
   rw [if_pos rfl,hk]
   unfold Rg.freshR
   simp only [hkn]
   rw [wrap_id (by omega) (by omega)]
   refine ⟨fun v=>?_,?_,by omega,by omega,by simp,by simp⟩
   ·unfold Rg.updI
    by_cases e:v = c.params
    ·rw [if_pos e,if_neg (by omega),if_pos ⟨trivial,e⟩]
    ·rw [if_neg e]
     show (if 0 ≤ v ∧ v < c.params then v + 1 else 0) = _
     split
     ·rfl
     ·rw [if_neg (fun g=>e g.2)]
   ·unfold Rg.updI
    rw [if_pos rfl];simp
structure RgW (r:Rg.Rg) (m:Int):Prop where
 c0:0 ≤ r.count
 cm:r.count ≤ m
 of:∀ v,r.of v = -1 ∨ (0 ≤ r.of v ∧ r.of v ≤ r.count)
 ac:r.actor = -1 ∨ (0 < r.actor ∧ r.actor ≤ r.count)
theorem RgW.mono {r:Rg.Rg} {m m':Int} (h:RgW r m) (hm:m ≤ m'):RgW r m':=⟨h.c0,by have:=h.cm;omega,h.of,h.ac⟩
theorem RgW.fresh {r:Rg.Rg} {m:Int} (h:RgW r m) (hm:m ≤ 1000) (v:Int):RgW (Rg.freshR r v) (m + 1):=by
 obtain ⟨h1,h2,h3,h4⟩:=h
 have hw:IntKind.i64.wrap (r.count + 1) = r.count + 1:=wrap_id (by omega) (by omega)
 unfold Rg.freshR
 rw [hw]
 refine ⟨by show 0 ≤ r.count + 1;omega,by show r.count + 1 ≤ _;omega,fun w=>?_,?_⟩
 ·show Rg.updI r.of v (r.count + 1) w = -1 ∨ (0 ≤ Rg.updI r.of v (r.count + 1) w ∧ Rg.updI r.of v (r.count + 1) w ≤ r.count + 1)
  unfold Rg.updI
  split
  ·omega
  ·have:=h3 w;omega
 ·show r.actor = -1 ∨ (0 < r.actor ∧ r.actor ≤ r.count + 1)
  omega
theorem RgW.send {r:Rg.Rg} {m:Int} (h:RgW r m) (vs:List Int) (d:Bool):RgW (Rg.sendR r vs d) m:=by
 unfold Rg.sendR
 split
 ·refine ⟨h.c0,h.cm,fun v=>?_,h.ac⟩
  show Rg.goneF r.of (vs.map r.of) 8 v = -1 ∨ _
  unfold Rg.goneF
  simp only
  split
  ·exact .inl rfl
  ·exact h.of v
 ·exact h
theorem RgW.after {r:Rg.Rg} {m:Int} (h:RgW r m) (hm:m ≤ 1000) (st:Stp):RgW (Rg.afterR r st) (m + 1):=by
 have h':RgW r (m + 1):=h.mono (by omega)
 unfold Rg.afterR
 split
 ·exact h.fresh hm _
 split
 ·split
  ·refine ⟨h'.c0,h'.cm,fun v=>?_,h'.ac⟩
   show Rg.updI r.of st.v (r.of st.w) v = -1 ∨ _
   simp only [Rg.updI]
   split
   ·exact h.of _
   ·exact h.of v
  ·exact h'
 split
 ·split
  ·refine ⟨h'.c0,h'.cm,fun v=>?_,h'.ac⟩
   show Rg.repl r.of (Rg.joinO r st.v st.w) (Rg.joinN r st.v st.w) 8 v = -1 ∨ _
   simp only [Rg.joinF,Rg.repl]
   split
   ·unfold Rg.joinN
    split
    ·exact h.of _
    ·exact h.of _
   ·exact h.of v
  ·exact h'
 split
 ·exact h'
 split
 ·exact h'.send _ _
 split
 ·exact h'.send _ _
 ·exact h'
theorem RgW.at {l:List Stp}:∀ {r:Rg.Rg} {m:Int},RgW r m→m + l.length ≤ 1000→RgW (Rg.regAt r l) (m + l.length):=by
 induction l with
 | nil=>intro r m h _;simpa [Rg.regAt] using h
 | cons s l ih =>
   intro r m h hm
   simp only [List.length_cons] at hm ⊢
   have:=ih (h.after (by omega) s) (by omega)
   exact this.mono (by omega)
def Acc1 (p:Tk):Prop:=(Rg.numsF p (Rg.nums p)).2.2 = 0
theorem stepsF_err:∀ (l:List Stp) (r:Rg.Rg) (k k' e:Int),Rg.stepsF r l k = some (k',e)→e ≠ 0:=by
 intro l
 induction l with
 | nil=>intro r k k' e h;simp [Rg.stepsF] at h
 | cons s l ih =>
   intro r k k' e h
   simp only [Rg.stepsF] at h
   split at h
   ·exact ih _ _ _ _ h
   ·rename_i he
    simp only [Option.some.injEq,Prod.mk.injEq] at h
    rw [← h.2];exact he
theorem numsF_zero {p:Tk}:∀ (l:List Int),(Rg.numsF p l).2.2 = 0→∀ n ∈ l,Rg.codeF p n = none:=by
 intro l
 induction l with
 | nil=>intro _ n hn;cases hn
 | cons x l ih =>
   intro h n hn
   simp only [Rg.numsF] at h
   cases hx:Rg.codeF p x with
   | none =>
     rw [hx] at h
     rcases List.mem_cons.1 hn with rfl | hn
     ·exact hx
     ·exact ih h n hn
   | some y =>
     rw [hx] at h
     obtain ⟨k,e⟩:=y
     exact absurd h (stepsF_err _ _ _ _ _ hx)
theorem stepsF_none:∀ (l:List Stp) (r:Rg.Rg) (k:Int),Rg.stepsF r l k = none→∀ (i:Nat) (st:Stp),l[i]? = some st→Rg.afterE (Rg.regAt r (l.take i)) st = 0:=by
 intro l
 induction l with
 | nil=>intro r k h i st hi;simp at hi
 | cons s l ih =>
   intro r k h i st hi
   simp only [Rg.stepsF] at h
   split at h
   ·rename_i he
    cases i with
    | zero=>simp at hi;subst hi;exact he
    | succ i=>exact ih _ _ h i st (by simpa using hi)
   ·cases h
theorem acc_step {s:PRun} (hg:Gi s) (ha:Acc1 s.p) {c:PCall} {st:Stp} (hc:c ∈ s.calls) (h0:0 ≤ c.pc) (he:c.code.steps[c.pc.toNat]? = some st):Rg.afterE (rgc c) st = 0:=by
 have hall:=numsF_zero _ ha
 have hcg:=(hg.ca c hc).cd
 have key:∃ n ∈ Rg.nums s.p,Rg.codeOf s.p n = c.code ∧ decide (n < 0) = decide (0 ≤ c.actor):=by
  rcases hcg with ⟨e1,k,e2⟩ | ⟨e1,e2,k,e3⟩
  ·have hk:=(List.getElem?_eq_some_iff.1 e2).1
   refine ⟨(k:Int),?_,?_,?_⟩
   ·unfold Rg.nums Rg.numC
    exact List.mem_append_left _ (List.mem_map.2 ⟨k,List.mem_range.2 hk,rfl⟩)
   ·unfold Rg.codeOf
    rw [if_neg (by omega)]
    exact nth_at e2
   ·rw [e1,decide_eq_false (by omega:¬ (k:Int) < 0),decide_eq_false (by omega)]
  ·have hk:=(List.getElem?_eq_some_iff.1 e3).1
   refine ⟨-1 - (k:Int),?_,?_,?_⟩
   ·unfold Rg.nums Rg.numM
    exact List.mem_append_right _ (List.mem_map.2 ⟨k,List.mem_range.2 hk,rfl⟩)
   ·unfold Rg.codeOf
    rw [if_pos (by omega),show -1 - (-1 - (k:Int)) = k by omega]
    exact nth_at e3
   ·rw [decide_eq_true (by omega:-1 - (k:Int) < 0),decide_eq_true e1]
 obtain ⟨n,n1,n2,n3⟩:=key
 have h1:=hall n n1
 unfold Rg.codeF at h1
 rw [n2,n3] at h1
 exact stepsF_none _ _ _ h1 _ _ he
end Go.Ab
set_option maxHeartbeats 4000000
namespace Go.Ab
open Go Go.Ab Go.Proofs Go.Ab.Ty
inductive Ow | fr (j:Nat) (r:Int) | ac (a:Int)
 deriving DecidableEq
noncomputable def owc (j:Nat) (c:PCall) (ρ:Int):Ow:=if ρ = (rgc c).actor then .ac c.actor else .fr j ρ
def Good (own:Nat→Ow) (j:Nat) (c:PCall):Prop:=∀ (v:Nat) (x:Int),c.vars[v]? = some x→0 ≤ x→0 < (rgc c).of v→own x.toNat = owc j c ((rgc c).of v)
structure FI (own:Nat→Ow) (s:PRun):Prop where
 fr:∀ (n:Nat) (t:PTask) (i j:Nat) (c:PCall),s.tasks[n]? = some t→i < t.slen→t.sarr[i]? = some j→s.calls[j]? = some c→Good own j c
 ao:∀ a:Nat,(a:Int) < s.p.actors→own a = .ac a
 ln:∀ (o:Nat) (x:Int × Int),s.objs[o]? = some x→0 ≤ x.2→own x.2.toNat = own o
 cl:∀ o:Nat,o < s.objs.length→∀ (j:Nat) (ρ:Int),own o = .fr j ρ→j < s.calls.length
theorem Good.eqs {own:Nat→Ow} {j:Nat} {c c':PCall} (h:Good own j c) (h1:c'.vars = c.vars) (h2:c'.actor = c.actor) (h3:rgc c' = rgc c):Good own j c':=fun v x e1 e2 e3=>by
 rw [h1] at e1;rw [h3] at e3
 unfold owc
 rw [h2,h3]
 exact h v x e1 e2 e3
theorem FI.sm {own:Nat→Ow} {s s':PRun} (h:FI own s) (g:Sm s s'):FI own s':=by
 refine ⟨fun n t' i j c' e1 e2 e3 e4=>?_,by rw [g.fx.p];exact h.ao,by rw [g.fx.objs];exact h.ln,by rw [g.fx.objs,g.cl];exact h.cl⟩
 obtain ⟨t,a1,a2,a3,_⟩:=g.tk n t' e1
 obtain ⟨c,b1,b2,b3,b4,b5⟩:=g.ca j c' e4
 rw [a2] at e3
 exact (h.fr n t i j c a1 (by omega) e3 b1).eqs b2 b3 b5
theorem FI.zs {own:Nat→Ow} {s s':PRun} {n:Nat} (h:FI own s) (g:Zs s s' n):FI own s':=by
 refine ⟨fun n t' i j c' e1 e2 e3 e4=>?_,by rw [g.p];exact h.ao,by rw [g.objs];exact h.ln,by rw [g.objs,g.calls];exact h.cl⟩
 obtain ⟨t,a1,a2⟩:=g.tk n t' e1
 rw [g.calls] at e4
 have q1:t'.sarr = t.sarr:=by rw [a2]
 have q2:t'.slen = t.slen:=by rw [a2]
 exact h.fr n t i j c' a1 (by rw [← q2];exact e2) (by rw [← q1];exact e3) e4
theorem FI.move {own own':Nat→Ow} {s s':PRun} (h:FI own s) (hg:Gi s) (hao:s.p.actors.toNat ≤ s.objs.length) {j:Nat} (hp:s'.p = s.p)
 (hfr:∀ (n:Nat) (t:PTask) (i j1:Nat) (c1:PCall),s'.tasks[n]? = some t→i < t.slen→t.sarr[i]? = some j1→s'.calls[j1]? = some c1→Good own' j1 c1 ∨ (j1 ≠ j ∧ ∃ (n:Nat) (t:PTask) (i:Nat),s.tasks[n]? = some t ∧ i < t.slen ∧ t.sarr[i]? = some j1 ∧ s.calls[j1]? = some c1))
 (ho:∀ o:Nat,o < s.objs.length→∀ (j':Nat) (ρ:Int),j' ≠ j→own o = .fr j' ρ→own' o = .fr j' ρ) (ha:∀ o:Nat,o < s.objs.length→∀ a,own o = .ac a→own' o = .ac a)
 (hl:∀ (o:Nat) (x:Int × Int),s'.objs[o]? = some x→0 ≤ x.2→own' x.2.toNat = own' o) (hc:∀ o:Nat,o < s'.objs.length→∀ (j:Nat) (ρ:Int),own' o = .fr j ρ→j < s'.calls.length):FI own' s':=by
 refine ⟨fun n t i j1 c1 e1 e2 e3 e4=>?_,fun a q=>?_,hl,hc⟩
 ·rcases hfr n t i j1 c1 e1 e2 e3 e4 with g | ⟨g,n',t',i',f1,f2,f3,f4⟩
  ·exact g
  ·have hG:=h.fr n' t' i' j1 c1 f1 f2 f3 f4
   intro v x q1 q2 q3
   have hx:=(hg.ca c1 (List.mem_of_getElem? f4)).vo x (List.mem_of_getElem? q1)
   have hw:=hG v x q1 q2 q3
   unfold owc at hw ⊢
   by_cases e:(rgc c1).of v = (rgc c1).actor
   ·rw [if_pos e] at hw ⊢;exact ha _ (by omega) _ hw
   ·rw [if_neg e] at hw ⊢;exact ho _ (by omega) _ _ g hw
 ·rw [hp] at q
  exact ha a (by omega) _ (h.ao a q)
theorem frames1 {own':Nat→Ow} {s s':PRun} {j:Nat} {c c':PCall} (hc:s.calls[j]? = some c) (h1:s'.calls = s.calls.set j c') (h2:s'.tasks = s.tasks) (hG:Good own' j c') :
 ∀ (n:Nat) (t:PTask) (i j1:Nat) (c1:PCall),s'.tasks[n]? = some t→i < t.slen→t.sarr[i]? = some j1→s'.calls[j1]? = some c1→Good own' j1 c1 ∨ (j1 ≠ j ∧ ∃ (n:Nat) (t:PTask) (i:Nat),s.tasks[n]? = some t ∧ i < t.slen ∧ t.sarr[i]? = some j1 ∧ s.calls[j1]? = some c1):=by
 intro n t i j1 c1 e1 e2 e3 e4
 rw [h1] at e4
 rw [h2] at e1
 by_cases e:j1 = j
 ·subst e
  rw [List.getElem?_set_self (List.getElem?_eq_some_iff.1 hc).1] at e4
  injection e4 with e4;subst e4
  exact .inl hG
 ·rw [List.getElem?_set_ne (fun q=>e q.symm)] at e4
  exact .inr ⟨e,n,t,i,e1,e2,e3,e4⟩
structure CW (c:PCall):Prop where
 w:RgW (rgc c) 30
 vl:c.vars.length ≤ 8
theorem cw_of {s:PRun} (hi:Iv s) (hg:Gi s) {c:PCall} (hc:c ∈ s.calls):CW c:=by
 obtain ⟨l,k,hK⟩:=cdk_of hg hc
 obtain ⟨⟨r1,r2,r3,r4,r5⟩,_⟩:=hK.ok
 rw [hK.lc] at r1 r2 r3 r4 r5
 have hpc:=hi.pcB c hc
 have h0:∀ m:Bool,RgW (Rg.startF c.code m) 5:=fun m=>by
  obtain ⟨f1,f2,f3,f4,f5,f6⟩:=startF_eq c.code m (by omega)
  refine ⟨f3,by omega,fun v=>?_,?_⟩
  ·rw [f1 v]
   cases m with
   | true =>
     have:=f5 rfl
     split
     ·omega
     ·split <;> omega
   | false =>
     have:=f6 rfl
     split
     ·omega
     ·rw [if_neg (fun g=>by cases g.1)];omega
  ·rw [f2]
   cases m with
   | true=>have:=f5 rfl;rw [if_pos rfl];omega
   | false=>rw [if_neg (by simp)];exact .inl rfl
 have hl:=(hg.ca c hc).vl
 refine ⟨?_,by rw [hl];omega⟩
 have h1:=(h0 (decide (0 ≤ c.actor))).at (l:=c.code.steps.take c.pc.toNat) (by rw [List.length_take];omega)
 exact h1.mono (by rw [List.length_take];omega)
theorem must_pos {r:Rg.Rg} {m:Int} (h:RgW r m):∀ {l:List Int},Rg.mustF r l = 0→∀ v ∈ l,0 < r.of v:=by
 intro l
 induction l with
 | nil=>intro _ v hv;cases hv
 | cons x l ih =>
   intro h1 v hv
   simp only [Rg.mustF] at h1
   split at h1
   ·omega
   ·split at h1
    ·omega
    ·rcases List.mem_cons.1 hv with rfl | hv
     ·have:=h.of v;omega
     ·exact ih h1 v hv
theorem send_ok' {r:Rg.Rg} {m:Int} (h:RgW r m) {vs:List Int} {d:Bool} (h1:Rg.sendE r vs d = 0):(∀ v ∈ vs,0 < r.of v ∧ r.of v ≠ r.actor) ∧ (d = true→¬ Rg.dupl r vs) ∧ Rg.sendR r vs d = ⟨Rg.goneF r.of (vs.map r.of) 8,r.count,r.actor⟩:=by
 have h2:Rg.sendR r vs d = ⟨Rg.goneF r.of (vs.map r.of) 8,r.count,r.actor⟩:=by unfold Rg.sendR;rw [if_pos h1]
 unfold Rg.sendE at h1
 split at h1
 ·rename_i q;exact absurd h1 q
 ·rename_i q
  rw [Decidable.not_not] at q
  split at h1
  ·omega
  ·rename_i q2
   split at h1
   ·omega
   ·rename_i q3
    refine ⟨fun v hv=>⟨must_pos h q v hv,fun e=>q3 (by rw [← e];exact List.mem_map_of_mem hv)⟩,fun e g=>q2 ⟨e,g⟩,h2⟩
end Go.Ab
