/- Part of the proof. -/
import Derived.Test.YthgicbkdckpeaaaDoorG39
import Derived.Test.YthgicbkdckpeaaaDoorG38
import Derived.Test.YthgicbkdckpeaaaDoorG37
import Derived.Test.YthgicbkdckpeaaaDoorG15
import Derived.Test.YthgicbkdckpeaaaDoorG17
import Derived.Test.YthgicbkdckpeaaaDoorG09
set_option linter.unusedSimpArgs false
set_option linter.unusedVariables false
set_option maxHeartbeats 4000000
namespace Go.Ab
open Go Go.Ab Go.Proofs Go.Ab.Ty
theorem TI.first {s:PRun} {tn:PTask} {o:Option Nat} (ht:s.tasks = [tn]) (he:s.ends = [o]) (n1:tn.par = -1) (n3:tn.kids = []) (n4:tn.spn = []) (n5:tn.waits = -1) (n6:tn.has = -1)
 (n7:(tn.state = 1 ∧ tn.ending = 0) ∨ (tn.state = 3 ∧ tn.ending = 3 ∧ ∃ j,o = some j)):TI s F0 F0:=by
 have cas:∀ i u,s.tasks[i]? = some u→i = 0 ∧ u = tn:=fun i u e=>by
  rw [ht] at e
  cases i with
  | zero=>simp at e;exact ⟨rfl,e.symm⟩
  | succ i=>simp at e
 refine ⟨fun k t e=>?_,fun p u z e hz=>?_,fun k t i z e g=>?_,fun k t e=>?_,fun k t e=>?_,fun k t e g=>?_,fun k t k' t' e e' _ _=>?_⟩
 ·obtain ⟨rfl,rfl⟩:=cas k t e;exact .inl ⟨rfl,n1⟩
 ·obtain ⟨rfl,rfl⟩:=cas p u e;rw [n3] at hz;cases hz
 ·obtain ⟨rfl,rfl⟩:=cas k t e;rw [n4] at g;simp at g
 ·obtain ⟨rfl,rfl⟩:=cas k t e
  refine ⟨o,by rw [he];rfl,fun g=>?_⟩
  rcases n7 with ⟨a,_⟩ | ⟨_,_,a⟩
  ·omega
  ·exact a
 ·obtain ⟨rfl,rfl⟩:=cas k t e
  rcases n7 with ⟨a1,a2⟩ | ⟨a1,a2,_⟩
  ·exact .inl ⟨a1,a2,by omega⟩
  ·exact .inr (.inr (.inr ⟨.inl a1,by rw [a1,a2],by omega,by omega⟩))
 ·obtain ⟨rfl,rfl⟩:=cas k t e;omega
 ·obtain ⟨rfl,rfl⟩:=cas k t e;exact (cas k' t' e').1.symm
theorem newF_ti (p:Tk) (sched:List Int) (cd:Cd):TI (newF p sched cd) F0 F0 ∧ (newF p sched cd).tasks.length = 1:=by
 unfold newF
 obtain ⟨tn,o,a1,a2,a3,a4,a5,a6,a7,a8,a9,a10,a11,a12,a13⟩:=startF_get (s:=nwS p sched (p.actors.toNat + cd.params.toNat) p.actors.toNat (List.replicate (p.actors.toNat + 1) m32)) (c:=cd) (vs:=varsN p.actors.toNat cd.params.toNat) (a:=m32) (prio:=0) (par:=-1) (canc:=false) rfl (.inl (by decide))
 exact ⟨.first a1 a2 a8 a9 a10 a11 a12 (a13.imp (fun q=>⟨q.1,q.2.1⟩) (fun q=>⟨q.1,q.2.1,q.2.2.2⟩)),by rw [a1];rfl⟩
theorem pikF_ti {s:PRun} (h:TI s F0 F0):TI (pikF s) F0 F0:=by
 unfold pikF
 split
 ·exact h
 ·split
  ·exact h.same rfl rfl actor_id
  ·exact h
theorem kidsJ_len:∀ (ks:List Int) (s:PRun) (e:Nat),(kidsJ s e ks).1.tasks = s.tasks:=by
 intro ks
 induction ks with
 | nil=>intro s e;rfl
 | cons k ks ih =>
   intro s e
   simp only [kidsJ]
   split
   ·split
    ·exact ih _ _
    ·rfl
   ·rfl
theorem wakeP_len (s:PRun) (p:Nat) (tp:PTask) (e:Nat):(wakeP s p tp e).tasks.length = s.tasks.length:=by
 unfold wakeP wakeT
 split
 ·split
  ·simp [PRun.tset,PRun.addP,PRun.addB]
  ·simp [PRun.tset,PRun.addB]
 ·simp [PRun.tset,PRun.addB]
theorem goOnF_len {S:PRun→Nat→PRun} (hS:∀ s n,(S s n).tasks.length = s.tasks.length) (s:PRun) (n j:Nat):(goOnF S s n j).tasks.length = s.tasks.length:=by
 unfold goOnF
 cases ht:s.tasks[n]? with
 | none=>rfl
 | some t =>
   cases hc:s.calls[j]? with
   | none=>rfl
   | some c =>
     simp only
     split
     ·rw [hS,tset_len];rfl
     ·rw [tset_len];rfl
theorem settleF_len:∀ (f:Nat) (s:PRun) (n:Nat),(settleF f s n).tasks.length = s.tasks.length:=by
 intro f
 induction f with
 | zero=>intro s n;rfl
 | succ f ih =>
   intro s n
   simp only [settleF]
   split
   ·rfl
   ·rename_i t ht
    split
    ·rfl
    ·have hk:=kidsJ_len t.kids s t.clk
     split
     ·rename_i s1 e he
      rw [he] at hk;simp only at hk;rw [hk]
     ·rename_i s1 e he
      rw [he] at hk;simp only at hk
      have h2:((s1.enS n e).tset n { t with state:=t.ending }).tasks.length = s.tasks.length:=by rw [tset_len];show s1.tasks.length = _;rw [hk]
      split
      ·exact h2
      ·split
       ·rw [hk]
       ·split
        ·rw [goOnF_len ih,wakeP_len,h2]
        ·rw [ih,h2]
theorem stopF_len (s:PRun) (n:Nat):(stopF s n).tasks.length = s.tasks.length:=by
 unfold stopF
 split
 ·rw [settleF_len,tset_len];exact canL_len
 ·rfl
theorem turnX_tt {s:PRun} (h:GG s) (htn:s.turns.length < 2000) {n j:Nat} {t:PTask} {c:PCall} {st:Stp} {l:Lk} {k i:Nat} (hT:TopC s n t j c st l k i) (h1:t.state = 1) :
 (turnX s n j c st).turns = s.turns ++ [(n:Int)] ∧ s.tasks.length ≤ (turnX s n j c st).tasks.length:=by
 obtain ⟨hi,hg,hz⟩:=h
 obtain ⟨hK,hac⟩:=hT.tok hi hg hz h1
 have hMM:=MM_eq
 have hck:=hz.ck
 obtain ⟨t9,hA9,hb9⟩:=turnB_cs hK hac (by omega) (by omega)
 have hZ:=zs_turnB s n c st
 obtain ⟨hTn,hCk⟩:=turnB_turns s n c st
 have hcan9:canF (turnB s n c st) c st = canF s c st:=canF_cs hA9 c st
 unfold turnX
 obtain ⟨s9,hs9⟩:∃ s9,s9 = turnB s n c st:=⟨_,rfl⟩
 rw [← hs9] at hA9 hZ hTn hCk hcan9 ⊢
 have hI9:=hA9.iv
 have hG9:=hZ.gi hg
 have ht9:=hA9.tk
 have hT9:TopC s9 n t9 j c st l k i:=hT.zs hZ.p hZ.calls ht9 hA9.tsa.1 hA9.tsa.2.1
 have hK9:Tok 80000 s9 n j t9 c st:=hK.cs hA9 (by omega)
 have ho9:s9.objs.length ≤ 200:=by rw [hZ.objs];exact hz.ob
 have hao9:s9.p.actors.toNat ≤ s9.objs.length:=by rw [hZ.objs,hZ.p];exact hz.ao
 have e9t:tkAt s9 n = t9:=tkAt_eq ht9
 rw [e9t]
 cases hcn:canF s c st with
 | false =>
   rw [if_pos rfl]
   exact ⟨by rw [(stopF_fx s9 n).turns,hTn],by rw [stopF_len,hZ.tl];exact Nat.le_refl _⟩
 | true =>
   rw [if_neg (by simp)]
   have hS:Sok s9 n j t9 c st:={ hK9.cs (Cs.refl hI9 ht9) (k':=40000) (by omega) with can:=by rw [hcan9];exact hcn,bh:=hb9 }
   have hSg:=stepF_gi hG9 ho9 hao9 hS hT9 (time:=s.turns.length)
   obtain ⟨r,hr⟩:∃ r,r = stepF s9 n j t9 c st s.turns.length:=⟨_,rfl⟩
   rw [← hr] at hSg ⊢
   obtain ⟨rb,s10⟩:=r
   have d0:=hSg.turns
   have d4:=hSg.tl
   simp only at d0 d4
   have d5:s.tasks.length ≤ s10.tasks.length:=by
    rw [d4,hZ.tl];split <;> omega
   cases rb with
   | false=>rw [if_pos rfl];exact ⟨by rw [d0,hTn],d5⟩
   | true =>
     rw [if_neg (by simp)]
     unfold turnG
     simp only
     obtain ⟨s11,hs11⟩:∃ s11,s11 = if 0 ≤ c.actor ∧ st.op ≠ 12 ∧ st.op ≠ 9 ∧ c.pc ≠ (c.code.steps.length:Int) - 1 then hasS s10 n c.actor else s10:=⟨_,rfl⟩
     rw [← hs11]
     have e1:s11.turns = s10.turns:=by rw [hs11];split <;> rfl
     have e2:s11.tasks.length = s10.tasks.length:=by rw [hs11];split;exact tset_len;rfl
     refine ⟨?_,?_⟩
     ·rw [(goOnF_fx (fun s n=>settleF_fx _ s n) s11 n j).turns,e1,d0,hTn]
     ·rw [goOnF_len (settleF_len _),e2];exact d5
structure RI (s:PRun):Prop where
 gg:GG s
 ti:TI s F0 F0
 tn:∀ x ∈ s.turns,0 ≤ x ∧ x < (s.tasks.length:Int)
 t0:0 < s.tasks.length
theorem pick_top {s:PRun} (h:GG s) (hr:readyF s ≠ []):∃ (n j:Nat) (t:PTask) (c:PCall) (st:Stp) (l:Lk) (k i:Nat),chF s = (n:Int) ∧ TopC (pikF s) n t j c st l k i ∧ t.state = 1 ∧ turnF (pikF s) (chF s).toNat = turnX (pikF s) n j c st ∧ (0 ≤ actF c st→∀ (i:Nat) (u:PTask),i ≠ n→(pikF s).tasks[i]? = some u→u.has ≠ actF c st):=by
 obtain ⟨n,hn,_,t,ht,h1,h2⟩:=rdF_free _ _ (chF_mem hr)
 have hG:=pikF_gg h
 obtain ⟨e1,e2⟩:=pikF_same s
 have e3:(pikF s).calls = s.calls:=by
  unfold pikF;split
  ·rfl
  ·split <;> rfl
 have ht':(pikF s).tasks[n]? = some t:=by rw [e1];exact ht
 obtain ⟨j,c,st,l,k,i,hT⟩:=topC_of hG.iv hG.gi ht' h1
 have hb:blkT (pikF s) n = false:=by
  have e4:blkT (pikF s) n = blkT s n:=by
   unfold blkT nxF
   rw [e1,e3]
   unfold blkF hasN
   rw [e1]
  rw [e4];exact h2
 exact ⟨n,j,t,c,st,l,k,i,hn,hT,h1,by rw [hn,Int.toNat_natCast];exact hT.turnF,blkT_free hT hb⟩
theorem RI.turn {s:PRun} (h:RI s) (htn:s.turns.length < 2000) (hr:readyF s ≠ []):RI (turnF (pikF s) (chF s).toNat) ∧ (turnF (pikF s) (chF s).toNat).turns.length = s.turns.length + 1:=by
 obtain ⟨n,j,t,c,st,l,k,i,hn,hT,h1,hE,hfree⟩:=pick_top h.gg hr
 obtain ⟨e1,e2⟩:=pikF_same s
 rw [hE]
 have hG:=pikF_gg h.gg
 have htn':(pikF s).turns.length < 2000:=by rw [e2];exact htn
 obtain ⟨g1,g2⟩:=turnX_gg hG htn' hT h1
 obtain ⟨g3,g4⟩:=turnX_tt hG htn' hT h1
 have g5:=turnX_ti hG htn' hT h1 (pikF_ti h.ti) hfree
 rw [e1] at g4
 have hnl:n < s.tasks.length:=by rw [← e1];exact (List.getElem?_eq_some_iff.1 hT.ht).1
 refine ⟨⟨g1,g5,fun x hx=>?_,by have:=h.t0;omega⟩,by rw [g2,e2]⟩
 rw [g3,e2] at hx
 rcases List.mem_append.1 hx with hx | hx
 ·have:=h.tn x hx;omega
 ·rw [List.mem_singleton] at hx;omega
theorem runF_ri:∀ (f:Nat) (s:PRun),RI s→2001 ≤ f + s.turns.length→RI (runF f s) ∧ ((runF f s).turns.length = 2000 ∨ readyF (runF f s) = []):=by
 intro f
 induction f with
 | zero=>intro s h hf;have:=h.gg.sz.tn;omega
 | succ f ih =>
   intro s h hf
   unfold runF
   split
   ·rename_i htn
    split
    ·rename_i hr
     have:pikF s = s:=by unfold pikF;rw [if_pos hr]
     rw [this];exact ⟨h,.inr hr⟩
    ·rename_i hr
     obtain ⟨h1,h2⟩:=h.turn htn hr
     exact ih _ h1 (by rw [h2];omega)
   ·rename_i htn
    have:=h.gg.sz.tn
    exact ⟨h,.inl (by omega)⟩
theorem endF_ri {p:Tk} {sched:List Int} (h:okRun p sched):RI (endF p sched) ∧ ((endF p sched).turns.length = 2000 ∨ readyF (endF p sched) = []):=by
 obtain ⟨cd,hcd,hG,hT,_⟩:=new_gg h
 have hgd:p.codes.getD 0 ⟨0,0,[]⟩ = cd:=getD_at hcd
 unfold endF
 rw [hgd]
 obtain ⟨t1,t2⟩:=newF_ti p sched cd
 exact runF_ri 2001 _ ⟨hG,t1,(by rw [hT];intro x hx;cases hx),by omega⟩ (by rw [hT];exact Nat.le_add_right _ _)
end Go.Ab
set_option maxHeartbeats 4000000
namespace Go.Ab
open Go Go.Ab Go.Proofs Go.Ab.Ty
theorem CallE.run0 {R:PRun}:CallE [] [] [] (HH R) (HH R):=CallE.all (H:=[]) (H':=HH R) (Nat.zero_le _)
theorem mvRan {H:List ABlk}:MvR (rb [] ([]:List ABlk).length) H (.tup [ptR,.int 0]) (.tup [ptR,.int 0]):=.tup' ⟨.ptr (by simp [rb,ix]),.pu (.base _),trivial⟩
abbrev bolV (b:Bool):AV:=.base (.bool b)
abbrev bolB (l:List Bool):ABlk:=⟨4,1,l.map bolV⟩
theorem canc_ok {mm:List (Nat × Obj)} (hmm:TabM mm) {p:Tk} {sched:List Int} (h:okRun p sched):FnM Tryd.prog mm 18 [encT p,.lst (sched.map .int)] (.tup [.lst (((endF p sched).tasks.map (·.canc)).map bolV),.int 0]):=by
 obtain ⟨iran,hGE⟩:=ran_good hmm h
 obtain ⟨R,hR⟩:∃ R,R = endF p sched:=⟨_,rfl⟩
 rw [← hR] at iran hGE ⊢
 have hwR:=hGE.iv.wf
 have hlR:=HH_len R
 obtain ⟨co,me,ac⟩:=p
 clear hR
 refine FnM.intro' [(0,encT ⟨co,me,ac⟩),(1,.lst (sched.map .int))] 2 38 Tryd.func18 (by kernel_rfl) rfl rfl rfl rfl rfl ?_
 refine AWp.seq ?_
 refine AWp.join ⟨[(1,.lst (sched.map .int)),(2,.iptr (encT ⟨co,me,ac⟩) 0),(memSlot,.mem mm)],[]⟩ ?_ ?_
 ·refine goF ?_
  exact Wk.selB [] List.nodup_nil (fun b hb=>absurd hb (Nat.not_lt_zero _)) trivial (WkR.all ⟨.pu (Pu_mapInt _),.iptr rfl rfl rfl rfl ⟨.pu (Pu_mapC _),.pu (Pu_mapC _),.pu (.base _),trivial⟩,.pu (.mem _),trivial⟩)
 refine AWp.seq ?_
 refine AWp.join ⟨[(6,ptR),(7,.int 0),(memSlot,.mem mm)],HH R⟩ ?_ ?_
 ·refine reS ?_
  refine ARun.p1 rfl rfl (pl_callHM iran (.inr (by simp +decide only [go_sem, *] <;> rfl)) .run0 rfl (by simp +decide only [go_sem, *] <;> rfl) (args:=[encT ⟨co,me,ac⟩,.lst (sched.map .int)]) ?_ mvRan) ?_
  ·exact ⟨.pu (Pu_encT ⟨co,me,ac⟩),.pu (Pu_mapInt _),trivial⟩
  refine goF ?_
  exact .wf
 clear iran
 refine goF ?_
 refine iff_ ?_ rfl (by simp +decide only [go_sem, *] <;> rfl)
 refine AWp.skip ?_
 refine goF ?_
 refine AWp.weaken (Wk.nilC (E2:=[(6,ptR),(8,.own NN 0 0 0),(23,.own (ix .tk) R.tasks.length 0 R.tasks.length),(24,.int R.tasks.length),(25,.int 0)]) (H2:=HH R) 4 1 (NilB.rf (S:=(· < NN)) (HH_rn hwR)) ⟨.ptr,.nil hlR,.own,.pu (.base _),.pu (.base _),trivial⟩) ?_
 refine AWp.loop (J:=fun i:Nat=>i ≤ R.tasks.length) (fun i=>⟨[(6,ptR),(8,.own NN i 0 i),(23,.own (ix .tk) R.tasks.length 0 R.tasks.length),(24,.int R.tasks.length),(25,.int i)],HH R ++ [bolB ((R.tasks.take i).map (·.canc))]⟩) (fun i=>R.tasks.length - i) 0 (Nat.zero_le _) (.wf (hH:=by simp)) ?_
 rintro i hi
 by_cases hlt:i < R.tasks.length
 ·have hd:decide ((i:Int) < (R.tasks.length:Int)) = true:=decide_eq_true (by omega)
  obtain ⟨t,ht⟩:∃ t,R.tasks[i]? = some t:=⟨_,List.getElem?_eq_getElem hlt⟩
  obtain ⟨g1,g2,g3,g4,_,g6⟩:=hwR.k ht
  have hn32:=hwR.nT
  have htk:R.tasks.take (i + 1) = R.tasks.take i ++ [t]:=by rw [List.take_add_one,ht];rfl
  obtain ⟨l1,hl1⟩:∃ l1,l1 = (R.tasks.take i).map (·.canc):=⟨_,rfl⟩
  have hn1:Hid ((R.tasks.take (i + 1)).map (·.canc) = l1 ++ [t.canc]):=⟨by rw [htk,List.map_append,← hl1];rfl⟩
  have hll1:l1.length = i:=by rw [hl1];simp;omega
  rw [← hl1]
  clear hl1 htk
  refine goF ?_
  refine ift_ ?_ rfl (by simp +decide only [go_sem, *] <;> rfl)
  refine goF ?_
  refine ARun.q1 rfl rfl (ql_ixo (n:=i) (b:=ix .tk) (by simp +decide only [go_sem, *] <;> rfl) (by simp +decide only [go_sem, *] <;> rfl) Tryd.underlying80 (by simp +decide only [go_sem, *] <;> rfl) (by simp) hlt (by simp +decide only [go_sem, *] <;> rfl)) ?_
  refine goF ?_
  refine ARun.p1 rfl rfl (pl_append (b:=NN) (tot:=i) (es:=[bolV t.canc]) (blk:=bolB l1) (by simp +decide only [go_sem, *] <;> rfl) (by simp +decide only [go_sem, *] <;> rfl) (by simp +decide only [go_sem, *] <;> rfl) (by simp [hll1]) Tryd.underlying36 el4 rfl rfl (by simp) (fun e he=>by rw [List.mem_singleton] at he;subst he;exact ⟨rfl,rfl⟩) (by simp;omega) (by simp;omega)) ?_
  refine goF ?_
  rw [wrap_succ (by omega)]
  refine ⟨i + 1,by omega,by omega,?_⟩
  rw [hn1.out]
  exact .wf (hH:=by simp)
 ·have hd:decide ((i:Int) < (R.tasks.length:Int)) = false:=decide_eq_false (by omega)
  have hin:R.tasks.length = i:=by omega
  have hti:R.tasks.take i = R.tasks:=by rw [← hin];exact List.take_length
  rw [hti]
  obtain ⟨l1,hl1⟩:∃ l1,l1 = R.tasks.map (·.canc):=⟨_,rfl⟩
  have hll1:l1.length = i:=by rw [hl1,List.length_map];exact hin
  rw [← hl1]
  clear hl1 hti hin
  refine goF ?_
  refine iff_ ?_ rfl (by simp +decide only [go_sem, *] <;> rfl)
  refine goF ?_
  refine Ret.pub (vs:=[.own NN i 0 i,.int 0]) (by show resVals _ _ [.tmp 4,.tmp 5] = _;simp +decide only [resVals,resVal,ldPtr,ldE,go_sem, *] <;> rfl) ?_
  exact .tup' ⟨.ownM (ty:=4) (sz:=1) (f:=bolV) (Nat.zero_le _) (app_get0 hlR) hll1 (fun x _ c hc=>by simp only [AV.cells,List.mem_singleton] at hc;subst hc;exact .base _),.pu (.base _),trivial⟩
end Go.Ab
set_option maxHeartbeats 4000000
namespace Go.Ab
open Go Go.Ab Go.Proofs Go.Ab.Ty
end Go.Ab
set_option maxHeartbeats 4000000
namespace Go.Ab
open Go Go.Ab Go.Proofs Go.Ab.Ty
def PRun.ws (s:PRun) (l:List Int) (u:Int):PRun:={ s with sched:=l,used:=u }
theorem kidsJ_ws (l:List Int) (u:Int):∀ (ks:List Int) (s:PRun) (e:Nat),kidsJ (s.ws l u) e ks = ((kidsJ s e ks).1.ws l u,(kidsJ s e ks).2):=by
 intro ks
 induction ks with
 | nil=>intro s e;rfl
 | cons k ks ih =>
   intro s e
   have e1:(s.ws l u).tasks = s.tasks:=rfl
   have e2:(s.ws l u).ends = s.ends:=rfl
   simp only [kidsJ,e1,e2]
   split
   ·split
    ·exact ih (s.addP _) _
    ·rfl
   ·rfl
theorem wakeP_ws (s:PRun) (p:Nat) (tp:PTask) (e:Nat) (l:List Int) (u:Int):wakeP (s.ws l u) p tp e = (wakeP s p tp e).ws l u:=by
 unfold wakeP
 have e1:(s.ws l u).calls = s.calls:=rfl
 rw [e1]
 split
 ·split
  ·rfl
  ·rfl
 ·rfl
theorem goOnF_ws {S:PRun→Nat→PRun} {l:List Int} {u:Int} (hS:∀ s n,S (s.ws l u) n = (S s n).ws l u) (s:PRun) (n j:Nat):goOnF S (s.ws l u) n j = (goOnF S s n j).ws l u:=by
 unfold goOnF
 have e1:(s.ws l u).tasks = s.tasks:=rfl
 have e2:(s.ws l u).calls = s.calls:=rfl
 rw [e1,e2]
 cases ht:s.tasks[n]? with
 | none=>rfl
 | some t =>
   cases hc:s.calls[j]? with
   | none=>rfl
   | some c =>
     simp only
     have e3:((s.ws l u).cset j { c with pc:=c.pc + 1 }).calls = (s.cset j { c with pc:=c.pc + 1 }).calls:=rfl
     rw [e3]
     split
     ·exact hS ((s.cset j { c with pc:=c.pc + 1 }).tset n (clo { t with slen:=1 } 3)) n
     ·rfl
theorem settleF_ws (l:List Int) (u:Int):∀ (f:Nat) (s:PRun) (n:Nat),settleF f (s.ws l u) n = (settleF f s n).ws l u:=by
 intro f
 induction f with
 | zero=>intro s n;rfl
 | succ f ih =>
   intro s n
   have e1:(s.ws l u).tasks = s.tasks:=rfl
   simp only [settleF,e1]
   cases ht:s.tasks[n]? with
   | none=>rfl
   | some t =>
     simp only
     split
     ·rfl
     ·rw [kidsJ_ws]
      obtain ⟨K,hK⟩:∃ K,K = kidsJ s t.clk t.kids:=⟨_,rfl⟩
      rw [← hK]
      obtain ⟨s1,e,b⟩:=K
      cases b with
      | false=>rfl
      | true =>
        simp only
        split
        ·rfl
        ·have e2:(s1.ws l u).tasks = s1.tasks:=rfl
         rw [e2]
         cases hp:s1.tasks[t.par.toNat]? with
         | none=>rfl
         | some tp =>
           simp only
           split
           ·have:=goOnF_ws ih (wakeP ((s1.enS n e).tset n { t with state:=t.ending }) t.par.toNat tp e) t.par.toNat (topJ tp)
            rw [← wakeP_ws] at this
            exact this
           ·exact ih ((s1.enS n e).tset n { t with state:=t.ending }) t.par.toNat
theorem dsc_ws (s:PRun) (l:List Int) (u:Int):∀ f n,dsc (s.ws l u) f n = dsc s f n:=by
 intro f
 induction f with
 | zero=>intro n;rfl
 | succ f ih =>
   intro n
   have e1:kidsF (s.ws l u) n = kidsF s n:=rfl
   simp only [dsc,e1,ih]
theorem stopF_ws (s:PRun) (n:Nat) (l:List Int) (u:Int):stopF (s.ws l u) n = (stopF s n).ws l u:=by
 unfold stopF
 have e1:(s.ws l u).tasks = s.tasks:=rfl
 rw [e1]
 cases ht:s.tasks[n]? with
 | none=>rfl
 | some t =>
   have e2:canK (s.ws l u) t.kids = (canK s t.kids).ws l u:=by
    unfold canK
    have:(fun k:Int=>dsc (s.ws l u) ((s.ws l u).tasks.length) k.toNat) = fun k:Int=>dsc s s.tasks.length k.toNat:=funext fun k=>dsc_ws s l u _ _
    rw [this];rfl
   simp only
   rw [e2]
   exact settleF_ws l u (n + 1) ((canK s t.kids).tset n (clo t 4)) n
theorem startF_ws (s:PRun) (c:Cd) (vs a:List Int) (prio par:Int) (canc:Bool) (l:List Int) (u:Int):startF (s.ws l u) c vs a prio par canc = (startF s c vs a prio par canc).ws l u:=by
 unfold startF
 split
 ·exact settleF_ws l u (s.tasks.length + 1) ((startS s c vs a prio par canc).tset s.tasks.length (clo (newT s.calls.length prio canc par s.pool.length) 3)) s.tasks.length
 ·rfl
theorem ws_ite {P:Prop} [Decidable P] {a b a' b':Bool × PRun} {l:List Int} {u:Int} (h1:a = (a'.1,a'.2.ws l u)) (h2:b = (b'.1,b'.2.ws l u)):(if P then a else b) = ((if P then a' else b').1,(if P then a' else b').2.ws l u):=by
 split
 ·exact h1
 ·exact h2
theorem stepF_ws (s:PRun) (n j:Nat) (t:PTask) (c:PCall) (st:Stp) (time:Int) (l:List Int) (u:Int):stepF (s.ws l u) n j t c st time = ((stepF s n j t c st time).1,(stepF s n j t c st time).2.ws l u):=by
 have ho:∀ o,objAt (s.ws l u) o = objAt s o:=fun o=>rfl
 have hov:∀ k,ovr (s.ws l u) k = ovr s k:=fun k=>rfl
 have hp:(s.ws l u).p = s.p:=rfl
 have hd:dsc (s.ws l u) (s.ws l u).tasks.length (kidN t st.n) = dsc s s.tasks.length (kidN t st.n):=dsc_ws s l u _ _
 unfold stepF
 rw [hov,hp,hd,stopF_ws]
 have hst:=startF_ws s (cdAt s.p.codes st.task) (givL c st.vars) (s.pool.getD t.clk []) st.n n t.canc l u
 have hpl:(s.ws l u).pool = s.pool:=rfl
 rw [hpl,hst]
 exact ws_ite rfl (ws_ite (by simp only [ho];split <;> rfl) (ws_ite rfl (ws_ite rfl (ws_ite rfl (ws_ite rfl (ws_ite (ws_ite rfl rfl) (ws_ite rfl (ws_ite (ws_ite rfl rfl) (ws_ite rfl (ws_ite (ws_ite rfl rfl) rfl))))))))))
theorem turnB_ws (s:PRun) (n:Nat) (c:PCall) (st:Stp) (l:List Int) (u:Int):turnB (s.ws l u) n c st = (turnB s n c st).ws l u:=by
 have hb:∀ s:PRun,behK (s.ws l u) n = (behK s n).ws l u:=fun s=>by
  unfold behK
  have:tkAt (s.ws l u) n = tkAt s n:=rfl
  rw [this]
  split <;> rfl
 have hw:∀ s:PRun,awK (s.ws l u) n st = (awK s n st).ws l u:=fun s=>by
  unfold awK
  have e1:∀ k,ovr (s.ws l u) k = ovr s k:=fun k=>rfl
  have e2:tkAt (s.ws l u) n = tkAt s n:=rfl
  rw [e1,e2]
  split <;> rfl
 have ha:∀ (s:PRun) (b:Bool) (a:Int),acK (s.ws l u) n b a = (acK s n b a).ws l u:=fun s b a=>by
  unfold acK
  split <;> rfl
 have hs:∀ (s:PRun) (b:Bool) (a:Int),actS (s.ws l u) n b a = (actS s n b a).ws l u:=fun s b a=>by
  unfold actS
  split <;> rfl
 have hcn:canF (s.ws l u) c st = canF s c st:=rfl
 unfold turnB
 have e0:turnA (s.ws l u) n = (turnA s n).ws l u:=rfl
 rw [hcn,e0,hb]
 have e1:∀ s:PRun,nobS (s.ws l u) n = (nobS s n).ws l u:=fun s=>rfl
 rw [e1,hw,ha]
 have e2:∀ (s:PRun) (x:Int),timeS (s.ws l u) n x = (timeS s n x).ws l u:=fun s x=>rfl
 have e3:(s.ws l u).turns = s.turns:=rfl
 rw [e2,hs,e3]
 rfl
theorem turnF_ws (s:PRun) (n:Nat) (l:List Int) (u:Int):turnF (s.ws l u) n = (turnF s n).ws l u:=by
 have e1:tkAt (s.ws l u) n = tkAt s n:=rfl
 have e2:∀ j,clAt (s.ws l u) j = clAt s j:=fun j=>rfl
 unfold turnF
 rw [e1,e2]
 obtain ⟨c,hc⟩:∃ c,c = clAt s (topJ (tkAt s n)):=⟨_,rfl⟩
 rw [← hc]
 have hcn:canF (s.ws l u) c (stAt c) = canF s c (stAt c):=rfl
 have htu:(s.ws l u).turns = s.turns:=rfl
 unfold turnX
 rw [hcn,turnB_ws,stopF_ws,htu]
 have e3:tkAt ((turnB s n c (stAt c)).ws l u) n = tkAt (turnB s n c (stAt c)) n:=rfl
 rw [e3,stepF_ws]
 split
 ·rfl
 ·simp only
  split
  ·rfl
  ·obtain ⟨X,hX⟩:∃ X,X = (stepF (turnB s n c (stAt c)) n (topJ (tkAt s n)) (tkAt (turnB s n c (stAt c)) n) c (stAt c) s.turns.length).2:=⟨_,rfl⟩
   rw [← hX]
   unfold turnG
   split
   ·exact goOnF_ws (settleF_ws l u (n + 1)) (hasS X n c.actor) n _
   ·exact goOnF_ws (settleF_ws l u (n + 1)) X n _
theorem readyF_ws (s:PRun) (l:List Int) (u:Int):readyF (s.ws l u) = readyF s:=by
 have hb:∀ k,blkT (s.ws l u) k = blkT s k:=fun k=>rfl
 have key:∀ (E:List Int) (m:Nat),rdF (s.ws l u) E m = rdF s E m:=by
  intro E m
  induction m with
  | zero=>rfl
  | succ m ih =>
    have e1:(s.ws l u).tasks = s.tasks:=rfl
    simp only [rdF,ih,e1,hb]
 unfold readyF
 exact congrArg (·.2) (key (effF s) s.tasks.length)
structure Zr (k:Nat) (s s':PRun):Prop where
 eq:s' = s.ws (s.sched ++ List.replicate k 0) s'.used
 us:s'.used = s.used ∨ (s.used = (s.sched.length:Int) ∧ s.used ≤ s'.used)
theorem Zr.sch {k:Nat} {s s':PRun} (h:Zr k s s') (hz:0 ≤ s.used ∧ s.used ≤ (s.sched.length:Int)):schF s' = schF s:=by
 have e:s'.sched = s.sched ++ List.replicate k 0:=by rw [h.eq];rfl
 unfold schF
 rw [e]
 have hr:∀ i:Nat,s.sched.length ≤ i→(s.sched ++ List.replicate k 0).getD i 0 = 0:=fun i hi=>by
  rw [List.getD_eq_getElem?_getD,List.getElem?_append_right hi,List.getElem?_replicate]
  split <;> rfl
 by_cases hlt:s.used < (s.sched.length:Int)
 ·have hu:s'.used = s.used:=by rcases h.us with g | g <;> omega
  rw [if_pos hlt,hu,if_pos (by simp;omega),List.getD_eq_getElem?_getD,List.getElem?_append_left (by omega),← List.getD_eq_getElem?_getD]
 ·rw [if_neg hlt]
  split
  ·exact hr _ (by rcases h.us with g | g <;> omega)
  ·rfl
theorem Zr.pik {k:Nat} {s s':PRun} (h:Zr k s s') (hz:0 ≤ s.used ∧ s.used ≤ (s.sched.length:Int)):Zr k (pikF s) (pikF s'):=by
 have e:s'.sched = s.sched ++ List.replicate k 0:=by rw [h.eq];rfl
 have hr:readyF s' = readyF s:=by rw [h.eq];exact readyF_ws s _ _
 unfold pikF
 rw [hr]
 split
 ·exact h
 ·by_cases hlt:s.used < (s.sched.length:Int)
  ·have hu:s'.used = s.used:=by rcases h.us with g | g <;> omega
   rw [if_pos hlt,if_pos (by rw [e,hu];simp;omega)]
   refine ⟨?_,.inl (by show s'.used + 1 = s.used + 1;rw [hu])⟩
   obtain ⟨h1,_⟩:=h
   rw [h1];rfl
  ·rw [if_neg hlt]
   split
   ·refine ⟨?_,.inr ⟨by omega,by show s.used ≤ s'.used + 1;rcases h.us with g | g <;> omega⟩⟩
    obtain ⟨h1,_⟩:=h
    rw [h1];rfl
   ·exact h
theorem Zr.run {k:Nat}:∀ (f:Nat) (s s':PRun),RI s→Zr k s s'→Zr k (runF f s) (runF f s'):=by
 intro f
 induction f with
 | zero=>intro s s' _ h;exact h
 | succ f ih =>
   intro s s' hR h
   have hz:=hR.gg.sz.us
   have hr:readyF s' = readyF s:=by rw [h.eq];exact readyF_ws s _ _
   have ht:s'.turns = s.turns:=by rw [h.eq];rfl
   have hP:=h.pik hz
   unfold runF
   rw [ht,hr]
   split
   ·rename_i htn
    split
    ·exact hP
    ·rename_i hne
     have hc:chF s' = chF s:=by unfold chF;rw [hr,h.sch hz]
     rw [hc]
     refine ih _ _ (hR.turn htn hne).1 ?_
     have he:=hP.eq
     have hu:=hP.us
     obtain ⟨u,hu1⟩:∃ u,u = (pikF s').used:=⟨_,rfl⟩
     rw [← hu1] at he hu
     rw [he]
     have hX:(turnF (pikF s) (chF s).toNat).sched = (pikF s).sched ∧ (turnF (pikF s) (chF s).toNat).used = (pikF s).used:=by
      have q:=turnF_ws (pikF s) (chF s).toNat (pikF s).sched (pikF s).used
      have q0:(pikF s).ws (pikF s).sched (pikF s).used = pikF s:=rfl
      rw [q0] at q
      rw [q];exact ⟨rfl,rfl⟩
     rw [turnF_ws]
     refine ⟨?_,?_⟩
     ·rw [hX.1];rfl
     ·rw [hX.1,hX.2];exact hu
   ·exact h
end Go.Ab
set_option maxHeartbeats 4000000
namespace Go.Ab
open Go Go.Ab Go.Proofs Go.Ab.Ty
end Go.Ab
set_option maxHeartbeats 4000000
namespace Go.Ab
open Go Go.Ab Go.Proofs Go.Ab.Ty
def trV (R:PRun):TR:=⟨R.lines,R.accs,R.tasks.map (·.state),R.tasks.map (·.par),R.tasks.all fun t=>decide (3 ≤ t.state),R.turns.length⟩
theorem ranV_tr (R:PRun):ranV R = encR (trV R):=rfl
theorem Pu_args (p:Tk) (s:List Int):∀ a ∈ [encT p,AV.lst (s.map .int)],Pu a:=fun a ha=>by
 simp only [List.mem_cons,List.not_mem_nil,or_false] at ha
 rcases ha with rfl | rfl
 ·exact Pu_encT p
 ·exact Pu_mapInt _
end Go.Ab
set_option maxHeartbeats 4000000
namespace Go.Ab.Rg
open Go Go.Ab Go.Proofs Go.Ab.Ty
structure Rg where
 of:Int→Int
 count:Int
 actor:Int
def encR (r:Rg):AV:=.agg [.int (r.of 0),.int (r.of 1),.int (r.of 2),.int (r.of 3),.int (r.of 4),.int (r.of 5),.int (r.of 6),.int (r.of 7),.int r.count,.int r.actor]
attribute [go_sem] encR Nat.mul_one
def updI (f:Int→Int) (n v:Int):Int→Int:=fun k=>if k = n then v else f k
theorem getR {f:Int→Int} {a b:AV} {n:Int} (h0:0 ≤ n) (h8:n < 8):[.int (f 0),.int (f 1),.int (f 2),.int (f 3),.int (f 4),.int (f 5),.int (f 6),.int (f 7),a,b][n.toNat]? = some (.int (f n)):=by
 rcases (by omega:n = 0 ∨ n = 1 ∨ n = 2 ∨ n = 3 ∨ n = 4 ∨ n = 5 ∨ n = 6 ∨ n = 7) with h | h | h | h | h | h | h | h <;> subst h <;> rfl
theorem getR8 {f:Int→Int} {n:Int} (h0:0 ≤ n) (h8:n < 8):[AV.int (f 0),.int (f 1),.int (f 2),.int (f 3),.int (f 4),.int (f 5),.int (f 6),.int (f 7)][n.toNat]? = some (.int (f n)):=by
 rcases (by omega:n = 0 ∨ n = 1 ∨ n = 2 ∨ n = 3 ∨ n = 4 ∨ n = 5 ∨ n = 6 ∨ n = 7) with h | h | h | h | h | h | h | h <;> subst h <;> rfl
theorem setR {f:Int→Int} {a b:AV} {n v:Int} (h0:0 ≤ n) (h8:n < 8):[.int (f 0),.int (f 1),.int (f 2),.int (f 3),.int (f 4),.int (f 5),.int (f 6),.int (f 7),a,b].set n.toNat (.int v) =
 [.int (updI f n v 0),.int (updI f n v 1),.int (updI f n v 2),.int (updI f n v 3),.int (updI f n v 4),.int (updI f n v 5),.int (updI f n v 6),.int (updI f n v 7),a,b]:=by
 rcases (by omega:n = 0 ∨ n = 1 ∨ n = 2 ∨ n = 3 ∨ n = 4 ∨ n = 5 ∨ n = 6 ∨ n = 7) with h | h | h | h | h | h | h | h <;> subst h <;> rfl
theorem Pu_encR (r:Rg):Pu (encR r):=.agg fun c hc=>by
 simp only [List.mem_cons,List.not_mem_nil,or_false] at hc
 rcases hc with rfl | rfl | rfl | rfl | rfl | rfl | rfl | rfl | rfl | rfl <;> exact .base _
attribute [simp] Pu_encR
theorem Pu_cellsR (r:Rg):∀ c ∈ (encR r).cells,Pu c:=fun c hc=>by
 simp only [encR,AV.cells,List.mem_cons,List.not_mem_nil,or_false] at hc
 rcases hc with rfl | rfl | rfl | rfl | rfl | rfl | rfl | rfl | rfl | rfl <;> exact .base _
theorem pl_storeR {P:Program} {H:List ABlk} {ρ:Operand→AV} {t:TypeId} {x y:Operand} {bb ty sz:Nat} {f:Int→Int} {a b:AV} {n v:Int} (hx:ρ x = .ptr bb 1 0 n.toNat) (hy:ρ y = .base (.int .i64 v))
 (hb:H[bb]? = some ⟨ty,sz,[.agg [.int (f 0),.int (f 1),.int (f 2),.int (f 3),.int (f 4),.int (f 5),.int (f 6),.int (f 7),a,b]]⟩) (h0:0 ≤ n) (h8:n < 8) (hsz:szTy P t = some 1) (hmt:ty < mapTy:=by first | decide | exact ltMap rfl) :
 PL P H ρ (.store t x y) .bad (H.set bb ⟨ty,sz,[.agg [.int (updI f n v 0),.int (updI f n v 1),.int (updI f n v 2),.int (updI f n v 3),.int (updI f n v 4),.int (updI f n v 5),.int (updI f n v 6),.int (updI f n v 7),a,b]]⟩):=by
 refine pl_store (v:=.int v) hx hy hb rfl rfl hsz rfl ?_ (hmt:=hmt)
 show stE _ _ [.int v] = _
 simp only [stE,List.length_cons,List.length_nil]
 rw [if_pos (by omega),setR h0 h8]
def freshR (r:Rg) (v:Int):Rg:=⟨updI r.of v (IntKind.i64.wrap (r.count + 1)),IntKind.i64.wrap (r.count + 1),r.actor⟩
theorem fresh_ok (r:Rg) (v:Int) (h0:0 ≤ v) (h8:v < 8):Fn Tryd.prog 101 [encR r,.int v] (encR (freshR r v)):=by
 refine Fn.intro' [(0,encR r),(1,.int v)] 2 15 Tryd.func101 (by kernel_rfl) rfl rfl rfl rfl rfl ?_
 refine goA ?_
 refine ARun.q1 rfl rfl (ql_indexAddr_ptr rfl rfl rfl Tryd.underlying122 h0 h8 sz3) ?_
 refine ARun.p1 rfl rfl (pl_storeR (f:=r.of) (by simp +decide only [go_sem] <;> rfl) (by simp +decide only [go_sem] <;> rfl) (by simp +decide only [go_sem] <;> rfl) h0 h8 sz3) ?_
 refine goA ?_
 exact Ret.data (vs:=[encR (freshR r v)]) (by show resVals _ _ [.cell 4 124] = _;simp +decide only [resVals,resVal,ldPtr,ldE,go_sem, *] <;> rfl) rfl (Pu_encR _)
def mustF (r:Rg):List Int→Int
 | []=>0
 | v :: l=>if r.of v = 0 then 100 else if r.of v = -1 then 220 else mustF r l
theorem mustF_take {r:Rg} {l:List Int} {k:Nat} (h:k ≤ l.length) (hn:∀ i (h:i < k) (h':i < l.length),r.of l[i] ≠ 0 ∧ r.of l[i] ≠ -1):mustF r l = mustF r (l.drop k):=by
 induction l generalizing k with
 | nil=>simp
 | cons x l ih =>
   cases k with
   | zero=>rfl
   | succ k =>
     have h1:=hn 0 (by omega) (by simp)
     simp only [List.getElem_cons_zero] at h1
     simp only [mustF,if_neg h1.1,if_neg h1.2,List.drop_succ_cons]
     exact ih (by simpa using h) fun i hi h'=>by have:=hn (i + 1) (by omega) (by simpa using h');simpa using this
theorem must_ok (r:Rg) (l:List Int) (hl:∀ v ∈ l,0 ≤ v ∧ v < 8):Fn Tryd.prog 102 [encR r,.lst (l.map .int)] (.int (mustF r l)):=by
 refine Fn.intro' [(0,encR r),(1,.lst (l.map .int))] 2 22 Tryd.func102 (by kernel_rfl) rfl rfl rfl rfl rfl ?_
 refine AWp.learn 1 rfl fun hlen=>?_
 rw [List.length_map] at hlen
 refine goA ?_
 refine AWp.loop (J:=fun k:Nat=>k ≤ l.length ∧ ∀ i (h:i < k) (h':i < l.length),r.of l[i] ≠ 0 ∧ r.of l[i] ≠ -1)
  (I:=fun k=>⟨[(9,.int k),(8,.int l.length),(7,.lst (l.map .int)),(2,.ptr 0 1 0 0)],[⟨124,10,[encR r]⟩]⟩) (μ:=fun k=>l.length - k) 0 ⟨Nat.zero_le _,by omega⟩ .wk ?_
 rintro k ⟨hk,hno⟩
 refine goA ?_
 refine ifA (fun hd=>?_) (fun hd=>?_)
 ·simp at hd
  have hr:=hl l[k] (List.getElem_mem hd)
  have hm:=mustF_take hk hno
  rw [List.drop_eq_getElem_cons hd] at hm
  have hg:=getR (f:=r.of) (a:=.int r.count) (b:=.int r.actor) hr.1 hr.2
  refine goA ?_
  refine ARun.q1 rfl rfl (ql_idx rfl rfl Tryd.underlying25 (by omega) (by omega) (by kernel_rfl)) ?_
  refine goA ?_
  refine ARun.q1 rfl rfl (ql_indexAddr_ptr rfl rfl rfl Tryd.underlying122 hr.1 hr.2 sz3) ?_
  repeat (first | (with_reducible first | apply zs | apply zN | apply z1 | apply z2 | apply z3 | apply z4 | apply z5 | apply z6 | refine z7 rfl ?_ | apply zb | apply zk | apply zr | apply ze | apply y1 | apply y2) | ((with_reducible apply zR);(refine ⟨rfl,rfl,?_⟩;simp +decide only [go_sem,List.map];rfl)) | ((with_reducible apply zG);(simp +decide only [go_sem,hg,Nat.mul_one];rfl);(simp +decide only [go_sem,hg,Nat.mul_one];(repeat simp +decide only [go_sem,hg,Nat.mul_one]);rfl)) | (refine zp rfl rfl (pl_box (by simp +decide only [go_sem,hg,Nat.mul_one];rfl) rfl) ?_) | (refine zp rfl rfl (pl_alloc (by simp only [go_sem];rfl) rfl) ?_) | (refine zp rfl rfl (pl_store (by simp +decide only [go_sem,hg,Nat.mul_one];rfl) (by simp +decide only [go_sem,hg,Nat.mul_one];rfl) (by simp +decide only [go_sem];rfl) (by rfl) (by rfl) (by kernel_rfl) (by rfl) (by rfl)) ?_) | fail)
  refine ifA (fun he=>?_) (fun he=>?_)
  ·simp at he
   refine goA ?_
   exact Ret.data rfl (by rw [hm];simp [mustF,he,packA,lk]) (.base _)
  simp at he
  refine goA ?_
  refine ifA (fun hf=>?_) (fun hf=>?_)
  ·simp at hf
   refine goA ?_
   exact Ret.data rfl (by rw [hm];simp [mustF,he,hf,packA,lk]) (.base _)
  ·simp at hf
   refine goA ?_
   rw [wrap_succ (by omega)]
   refine ⟨k + 1,⟨by omega,fun i h h'=>?_⟩,by omega,.wk⟩
   by_cases e:i = k
   ·subst e;exact ⟨he,hf⟩
   ·exact hno i (by omega) h'
 ·simp at hd
  refine goA ?_
  have hm:=mustF_take (k:=l.length) (Nat.le_refl _) fun i h h'=>hno i (by omega) h'
  exact Ret.data rfl (by rw [hm];simp [mustF,packA,lk]) (.base _)
end Go.Ab.Rg
set_option maxHeartbeats 4000000
namespace Go.Ab.Rg
open Go Go.Ab Go.Proofs Go.Ab.Ty
def joinO (r:Rg) (v w:Int):Int:=if r.of v = r.actor then r.of w else r.of v
def joinN (r:Rg) (v w:Int):Int:=if r.of v = r.actor then r.of v else r.of w
def repl (f:Int→Int) (o n:Int) (k:Int):Int→Int:=fun i=>if i < k ∧ f i = o then n else f i
def joinF (r:Rg) (v w:Int):Rg:=⟨repl r.of (joinO r v w) (joinN r v w) 8,r.count,r.actor⟩
theorem repl_0 (f:Int→Int) (o n:Int) (i:Int) (h:0 ≤ i):repl f o n 0 i = f i:=by
 unfold repl;rw [if_neg (by omega)]
theorem repl_hit {f:Int→Int} {o n k:Int} (h:f k = o):updI (repl f o n k) k n = repl f o n (k + 1):=by
 funext i
 unfold updI repl
 by_cases e:i = k
 ·subst e;rw [if_pos rfl,if_pos ⟨by omega,h⟩]
 ·rw [if_neg e]
  by_cases e2:i < k
  ·simp [e2,show i < k + 1 by omega]
  ·simp [e2,show ¬ i < k + 1 by omega]
theorem repl_miss {f:Int→Int} {o n k:Int} (h:f k ≠ o):repl f o n k = repl f o n (k + 1):=by
 funext i
 unfold repl
 by_cases e:i = k
 ·subst e;simp [h]
 ·by_cases e2:i < k
  ·simp [e2,show i < k + 1 by omega]
  ·simp [e2,show ¬ i < k + 1 by omega]
theorem join_ok (r:Rg) (v w:Int) (hv:0 ≤ v ∧ v < 8) (hw:0 ≤ w ∧ w < 8):Fn Tryd.prog 103 [encR r,.int v,.int w] (encR (joinF r v w)):=by
 refine Fn.intro' [(0,encR r),(1,.int v),(2,.int w)] 3 40 Tryd.func103 (by kernel_rfl) rfl rfl rfl rfl rfl ?_
 have gv:=getR (f:=r.of) (a:=.int r.count) (b:=.int r.actor) hv.1 hv.2
 have gw:=getR (f:=r.of) (a:=.int r.count) (b:=.int r.actor) hw.1 hw.2
 refine goA ?_
 refine drA (k:=10) follows (hr:=?_)
 refine goA ?_
 refine ARun.q1 rfl rfl (ql_indexAddr_ptr rfl rfl rfl Tryd.underlying122 hv.1 hv.2 sz3) ?_
 repeat (first | (with_reducible first | apply zs | apply zN | apply z1 | apply z2 | apply z3 | apply z4 | apply z5 | apply z6 | refine z7 rfl ?_ | apply zb | apply zk | apply zr | apply ze | apply y1 | apply y2) | ((with_reducible apply zR);(refine ⟨rfl,rfl,?_⟩;simp +decide only [go_sem,List.map];rfl)) | ((with_reducible apply zG);(simp +decide only [go_sem,gv,Nat.mul_one];rfl);(simp +decide only [go_sem,gv,Nat.mul_one];(repeat simp +decide only [go_sem,gv,Nat.mul_one]);rfl)) | (refine zp rfl rfl (pl_box (by simp +decide only [go_sem,gv,Nat.mul_one];rfl) rfl) ?_) | (refine zp rfl rfl (pl_alloc (by simp only [go_sem];rfl) rfl) ?_) | (refine zp rfl rfl (pl_store (by simp +decide only [go_sem,gv,Nat.mul_one];rfl) (by simp +decide only [go_sem,gv,Nat.mul_one];rfl) (by simp +decide only [go_sem];rfl) (by rfl) (by rfl) (by kernel_rfl) (by rfl) (by rfl)) ?_) | fail)
 refine ARun.q1 rfl rfl (ql_indexAddr_ptr rfl rfl rfl Tryd.underlying122 hw.1 hw.2 sz3) ?_
 repeat (first | (with_reducible first | apply zs | apply zN | apply z1 | apply z2 | apply z3 | apply z4 | apply z5 | apply z6 | refine z7 rfl ?_ | apply zb | apply zk | apply zr | apply ze | apply y1 | apply y2) | ((with_reducible apply zR);(refine ⟨rfl,rfl,?_⟩;simp +decide only [go_sem,List.map];rfl)) | ((with_reducible apply zG);(simp +decide only [go_sem,gw,Nat.mul_one];rfl);(simp +decide only [go_sem,gw,Nat.mul_one];(repeat simp +decide only [go_sem,gw,Nat.mul_one]);rfl)) | (refine zp rfl rfl (pl_box (by simp +decide only [go_sem,gw,Nat.mul_one];rfl) rfl) ?_) | (refine zp rfl rfl (pl_alloc (by simp only [go_sem];rfl) rfl) ?_) | (refine zp rfl rfl (pl_store (by simp +decide only [go_sem,gw,Nat.mul_one];rfl) (by simp +decide only [go_sem,gw,Nat.mul_one];rfl) (by simp +decide only [go_sem];rfl) (by rfl) (by rfl) (by kernel_rfl) (by rfl) (by rfl)) ?_) | fail)
 refine AWp.join ⟨[(7,.int (joinO r v w)),(8,.int (joinN r v w)),(3,.ptr 0 1 0 0),(6,.ptr 1 1 0 0)],[⟨124,10,[encR r]⟩,⟨124,10,[encR ⟨fun _=>0,0,0⟩]⟩]⟩ ?_ ?_
 ·refine ifA (fun ho=>?_) (fun ho=>?_)
  ·simp at ho
   refine goA ?_
   exact .env' (by simp (decide:=true) only [go_sem] <;> simp [Le.refl,joinO,joinN,ho])
  ·simp at ho
   refine goA ?_
   exact .env' (by simp (decide:=true) only [go_sem] <;> simp [Le.refl,joinO,joinN,ho])
 generalize hoo:joinO r v w = o
 generalize hnn:joinN r v w = n
 refine goA ?_
 refine AWp.loop (J:=fun k:Nat=>k ≤ 8)
  (I:=fun k=>⟨[(27,.int k),(26,.agg [.int (r.of 0),.int (r.of 1),.int (r.of 2),.int (r.of 3),.int (r.of 4),.int (r.of 5),.int (r.of 6),.int (r.of 7)]),(7,.int o),(8,.int n),(3,.ptr 0 1 0 0),(6,.ptr 1 1 0 0)],[⟨124,10,[encR ⟨repl r.of o n k,r.count,r.actor⟩]⟩,⟨124,10,[encR ⟨fun _=>0,0,0⟩]⟩]⟩) (μ:=fun k=>8 - k) 0 (Nat.zero_le _) (.env2 (by simp [encR,repl_0]) (by simp (decide:=true) only [go_sem] <;> simp [Le.refl])) ?_
 intro k hk
 refine goA ?_
 refine ifA (fun hd=>?_) (fun hd=>?_)
 ·simp at hd
  refine goA ?_
  have g8:=getR8 (f:=r.of) (n:=k) (by omega) (by omega)
  rw [Int.toNat_natCast] at g8
  refine ARun.q1 rfl rfl (ql_index_arr (sz:=1) rfl rfl Tryd.underlying122 (by omega) (by omega) sz3 (by simp only [go_sem,g8] <;> rfl)) ?_
  refine goA ?_
  refine ifA (fun he=>?_) (fun he=>?_)
  ·simp at he
   refine goA ?_
   refine ARun.q1 rfl rfl (ql_indexAddr_ptr rfl rfl rfl Tryd.underlying122 (by omega) (by omega) sz3) ?_
   refine ARun.p1 rfl rfl (pl_storeR (f:=repl r.of o n k) (n:=k) (by simp +decide only [go_sem] <;> rfl) (by simp +decide only [go_sem] <;> rfl) (by simp +decide only [go_sem] <;> rfl) (by omega) (by omega) sz3) ?_
   refine goA ?_
   rw [wrap_succ (by omega)]
   refine ⟨k + 1,by omega,by omega,.env2 (by simp only [repl_hit he];rfl) (by simp (decide:=true) only [go_sem] <;> simp [Le.refl])⟩
  ·simp at he
   refine goA ?_
   rw [wrap_succ (by omega)]
   refine ⟨k + 1,by omega,by omega,.env2 (by simp only [repl_miss he];rfl) (by simp (decide:=true) only [go_sem] <;> simp [Le.refl])⟩
 ·simp at hd
  have:k = 8:=by omega
  subst this
  refine goA ?_
  exact Ret.data (by show resVals _ _ [.cell 6 124] = _;simp +decide only [resVals,resVal,ldPtr,ldE,go_sem, *] <;> rfl) (by subst hoo;subst hnn;rfl) (Pu_encR _)
end Go.Ab.Rg
