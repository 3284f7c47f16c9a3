/- Part of the proof. -/
import Derived.Test.YthgicbkdckpeaaaDoorG38
import Derived.Test.YthgicbkdckpeaaaDoorG40
import Derived.Test.YthgicbkdckpeaaaDoorG15
set_option linter.unusedSimpArgs false
set_option linter.unusedVariables false
set_option maxHeartbeats 4000000
namespace Go.Ab
open Go Go.Ab Go.Proofs Go.Ab.Ty
def ordF (s:PRun) (a b:Int):Bool × Int:=if 0 ≤ a ∧ 0 ≤ b ∧ a < s.turns.length ∧ b < s.turns.length then (befF s a.toNat b.toNat,0) else (false,1)
theorem ord_bit (a b:Int) (n:Nat):(bif bif bif decide (a < 0) then true else decide (b < 0) then true else decide (a ≥ (n:Int)) then true else decide (b ≥ (n:Int))) = !decide (0 ≤ a ∧ 0 ≤ b ∧ a < n ∧ b < n):=by
 by_cases h1:a < 0 <;> by_cases h2:b < 0 <;> by_cases h3:(n:Int) ≤ a <;> by_cases h4:(n:Int) ≤ b <;> simp [h1,h2,h3,h4] <;> omega
theorem order_ok {mm:List (Nat × Obj)} (hmm:TabM mm) {p:Tk} {sched:List Int} {a b:Int} (h:okRun p sched):FnM Tryd.prog mm 24 [encT p,.lst (sched.map .int),.int a,.int b] (.tup [.bool (ordF (endF p sched) a b).1,.int (ordF (endF p sched) a b).2]):=by
 obtain ⟨iran,hGE⟩:=ran_good hmm h
 have hAT:=endF_at h
 obtain ⟨R,hR⟩:∃ R,R = endF p sched:=⟨_,rfl⟩
 rw [← hR] at iran hGE hAT ⊢
 have hwR:=hGE.iv.wf
 have hlR:=HH_len R
 obtain ⟨co,me,ac⟩:=p
 clear hR
 have hAT:=Hid.mk hAT
 refine FnM.intro' [(0,encT ⟨co,me,ac⟩),(1,.lst (sched.map .int)),(2,.int a),(3,.int b)] 4 51 Tryd.func24 (by kernel_rfl) rfl rfl rfl rfl rfl ?_
 refine AWp.seq ?_
 refine AWp.join ⟨[(1,.lst (sched.map .int)),(2,.int a),(3,.int b),(4,.iptr (encT ⟨co,me,ac⟩) 0),(memSlot,.mem mm)],[]⟩ ?_ ?_
 ·refine goF ?_
  exact Wk.selB [] List.nodup_nil (fun b hb=>absurd hb (Nat.not_lt_zero _)) trivial (WkR.all ⟨.pu (Pu_mapInt _),.pu (.base _),.pu (.base _),.iptr rfl rfl rfl rfl ⟨.pu (Pu_mapC _),.pu (Pu_mapC _),.pu (.base _),trivial⟩,.pu (.mem _),trivial⟩)
 refine AWp.seq ?_
 refine AWp.join ⟨[(2,.int a),(3,.int b),(10,ptR),(11,.int 0),(memSlot,.mem mm)],HH R⟩ ?_ ?_
 ·refine reS ?_
  refine ARun.p1 rfl rfl (pl_callHM iran (.inr (by simp +decide only [go_sem, *] <;> rfl)) .run0 rfl (by simp +decide only [go_sem, *] <;> rfl) (args:=[encT ⟨co,me,ac⟩,.lst (sched.map .int)]) ?_ mvRan) ?_
  ·exact ⟨.pu (Pu_encT ⟨co,me,ac⟩),.pu (Pu_mapInt _),trivial⟩
  refine goF ?_
  exact .wf
 clear iran
 refine goF ?_
 refine iff_ ?_ rfl (by simp +decide only [go_sem, *] <;> rfl)
 refine goF ?_
 by_cases hin:0 ≤ a ∧ 0 ≤ b ∧ a < R.turns.length ∧ b < R.turns.length
 ·have hF:ordF R a b = (befF R a.toNat b.toNat,0):=if_pos hin
  rw [hF]
  refine iff_ ?_ ?_ rfl
  rotate_left
  ·rw [ord_bit];simp only [decide_eq_true hin];rfl
  obtain ⟨a',rfl⟩:∃ a':Nat,a = a':=⟨_,(Int.toNat_of_nonneg hin.1).symm⟩
  obtain ⟨b',rfl⟩:∃ b':Nat,b = b':=⟨_,(Int.toNat_of_nonneg hin.2.1).symm⟩
  have ib:=before_ok hwR (a:=a') (b:=b') (by omega) (by rw [hAT.out.ck];omega) hAT.out.tn
  refine goF ?_
  refine ARun.p1 rfl rfl (pl_callR0 hwR hwR ib rfl (by simp +decide only [go_sem, *] <;> rfl) (by simp +decide only [go_sem, *] <;> rfl) (by
   intro x hx
   simp only [List.mem_cons,List.not_mem_nil,or_false] at hx
   rcases hx with rfl | rfl | rfl
   ·exact .ptr (ix_lt (a:=.rn) trivial)
   ·exact .pu (.base _)
   ·exact .pu (.base _)) (.pu (.base _))) ?_
  refine goF ?_
  rw [show (befF R (a':Int).toNat (b':Int).toNat,(0:Int)) = (befF R a' b',0) from rfl]
  exact Ret.data (vs:=[.bool (befF R a' b'),.int 0]) (by show resVals _ _ [.tmp 8,.tmp 9] = _;simp +decide only [resVals,resVal,ldPtr,ldE,go_sem, *] <;> rfl) rfl (Pu.tup (by simp))
 ·have hF:ordF R a b = (false,1):=if_neg hin
  rw [hF]
  refine ift_ ?_ ?_ rfl
  rotate_left
  ·rw [ord_bit];simp only [decide_eq_false hin];rfl
  refine goF ?_
  exact Ret.data (vs:=[.bool false,.int 1]) (by show resVals _ _ [.tmp 8,.tmp 9] = _;simp +decide only [resVals,resVal,ldPtr,ldE,go_sem, *] <;> rfl) rfl (Pu.tup (by simp))
end Go.Ab
set_option maxHeartbeats 4000000
namespace Go.Ab
open Go Go.Ab Go.Proofs Go.Ab.Ty
def a0:Acc:=⟨0,0,false,0⟩
abbrev rcP (x y:Acc):Bool:=bif bif x.object != y.object then true else decide (x.time = y.time) then true else bif !x.write then !y.write else false
def rcB (s:PRun) (x y:Acc):Bool:=!(rcP x y || befF s x.time.toNat y.time.toNat)
def rcRow (s:PRun) (i m:Nat):List (Int × Int):=((List.range' (i + 1) m).filter fun j=>rcB s (s.accs.getD i a0) (s.accs.getD j a0)).map fun j:Nat=>((i:Int),(j:Int))
def rcUp (s:PRun) (i:Nat):List (Int × Int):=(List.range i).flatMap fun i=>rcRow s i (s.accs.length - (i + 1))
def racesF (s:PRun):List (Int × Int):=(rcUp s s.accs.length).take 50
abbrev encP (x:Int × Int):AV:=.agg [.int x.1,.int x.2]
theorem rcRow_zero (s:PRun) (i:Nat):rcRow s i 0 = []:=rfl
theorem rcRow_succ (s:PRun) (i m:Nat):rcRow s i (m + 1) = rcRow s i m ++ if rcB s (s.accs.getD i a0) (s.accs.getD (i + 1 + m) a0) then [((i:Int),((i + 1 + m:Nat):Int))] else []:=by
 unfold rcRow
 rw [List.range'_1_concat,List.filter_append,List.map_append]
 congr 1
 rw [List.filter_cons,List.filter_nil]
 split <;> rfl
theorem rcUp_succ (s:PRun) (i:Nat):rcUp s (i + 1) = rcUp s i ++ rcRow s i (s.accs.length - (i + 1)):=by
 unfold rcUp
 rw [List.range_succ,List.flatMap_append]
 simp
theorem rcRow_pre (s:PRun) (i m k:Nat):rcRow s i m <+: rcRow s i (m + k):=by
 induction k with
 | zero=>exact List.prefix_rfl
 | succ k ih=>rw [← Nat.add_assoc,rcRow_succ];exact ih.trans (List.prefix_append _ _)
theorem rcUp_pre (s:PRun) (i k:Nat):rcUp s i <+: rcUp s (i + k):=by
 induction k with
 | zero=>exact List.prefix_rfl
 | succ k ih=>rw [← Nat.add_assoc,rcUp_succ];exact ih.trans (List.prefix_append _ _)
theorem rcPart {s:PRun} {i m:Nat} (h:i + 1 + m ≤ s.accs.length) (hl:(rcUp s i ++ rcRow s i m).length = 50):racesF s = rcUp s i ++ rcRow s i m:=by
 have h1:rcUp s i ++ rcRow s i m <+: rcUp s s.accs.length:=by
  obtain ⟨k,hk⟩:∃ k,s.accs.length = (i + 1) + k:=⟨s.accs.length - (i + 1),by omega⟩
  have e1:=rcUp_pre s (i + 1) k
  rw [← hk,rcUp_succ] at e1
  obtain ⟨q,hq⟩:∃ q,s.accs.length - (i + 1) = m + q:=⟨s.accs.length - (i + 1) - m,by omega⟩
  rw [hq] at e1
  exact ((List.prefix_append_right_inj _).2 (rcRow_pre s i m q)).trans e1
 unfold racesF
 rw [List.prefix_iff_eq_take.1 h1,hl]
theorem rcFull {s:PRun} (hl:(rcUp s s.accs.length).length < 50):racesF s = rcUp s s.accs.length:=List.take_of_length_le (by omega)
theorem Wk.trimT {n:Fr} {R:PRun} (hw:WF R) {T T2:List ABlk} {E E2:Env} (hm:n.m = 0) (hT:∀ b ∈ T,RfB (· < NN) b) (h:WkP (HH R ++ (T ++ T2)) (NN + T.length) E E2):Wk n ⟨E,HH R ++ (T ++ T2)⟩ ⟨E2,HH R ++ T⟩:=
 .trimM (NN + T.length) (by omega) (by rw [← List.append_assoc];exact List.take_left' (by simp [HH_len])) h fun blk hb e he c hc=>by
  have h1:RfB (· < NN) blk:=(List.mem_append.1 hb).elim (HH_rn hw blk) (hT blk)
  exact (h1 e he c hc).pub fun b hb=>pre_lt (by omega)
theorem prB_rf {l:List (Int × Int)}:RfB (· < NN) ⟨63,2,l.map encP⟩:=.map fun x _ c hc=>by
 simp only [AV.cells,List.mem_cons,List.not_mem_nil,or_false] at hc
 rcases hc with rfl | rfl <;> exact .pu (.base _)
theorem acB_rf {x:Acc}:RfB (· < NN) ⟨73,4,[.agg [.int x.task,.int x.object,.base (.bool x.write),.int x.time]]⟩:=.one fun c hc=>by
 simp only [List.mem_cons,List.not_mem_nil,or_false] at hc
 rcases hc with rfl | rfl | rfl | rfl <;> exact .pu (.base _)
theorem races_ok {mm:List (Nat × Obj)} (hmm:TabM mm) {p:Tk} {sched:List Int} (h:okRun p sched):FnM Tryd.prog mm 32 [encT p,.lst (sched.map .int)] (.tup [.lst ((racesF (endF p sched)).map encP),.int 0]):=by
 obtain ⟨iran,hGE⟩:=ran_good hmm h
 have hAT:=endF_at h
 obtain ⟨R,hR⟩:∃ R,R = endF p sched:=⟨_,rfl⟩
 rw [← hR] at iran hGE hAT ⊢
 have hwR:=hGE.iv.wf
 have hlR:=HH_len R
 have hn1:=hwR.sz.2.2.1
 obtain ⟨co,me,ac⟩:=p
 clear hR
 have hAT:=Hid.mk hAT
 refine FnM.intro' [(0,encT ⟨co,me,ac⟩),(1,.lst (sched.map .int))] 2 92 Tryd.func32 (by kernel_rfl) rfl rfl rfl rfl rfl ?_
 refine AWp.seq ?_
 refine AWp.join ⟨[(1,.lst (sched.map .int)),(2,.iptr (encT ⟨co,me,ac⟩) 0),(memSlot,.mem mm)],[]⟩ ?_ ?_
 ·refine goF ?_
  exact Wk.selB [] List.nodup_nil (fun b hb=>absurd hb (Nat.not_lt_zero _)) trivial (WkR.all ⟨.pu (Pu_mapInt _),.iptr rfl rfl rfl rfl ⟨.pu (Pu_mapC _),.pu (Pu_mapC _),.pu (.base _),trivial⟩,.pu (.mem _),trivial⟩)
 refine AWp.seq ?_
 refine AWp.join ⟨[(6,ptR),(7,.int 0),(memSlot,.mem mm)],HH R⟩ ?_ ?_
 ·refine reS ?_
  refine ARun.p1 rfl rfl (pl_callHM iran (.inr (by simp +decide only [go_sem, *] <;> rfl)) .run0 rfl (by simp +decide only [go_sem, *] <;> rfl) (args:=[encT ⟨co,me,ac⟩,.lst (sched.map .int)]) ?_ mvRan) ?_
  ·exact ⟨.pu (Pu_encT ⟨co,me,ac⟩),.pu (Pu_mapInt _),trivial⟩
  refine goF ?_
  exact .wf
 clear iran
 refine goF ?_
 refine iff_ ?_ rfl (by simp +decide only [go_sem, *] <;> rfl)
 refine AWp.skip ?_
 refine goF ?_
 refine AWp.weaken (Wk.nilC (E2:=[(6,ptR),(8,.own NN 0 0 0),(25,.own (ix .ac) R.accs.length 0 R.accs.length),(26,.int R.accs.length),(27,.int 0)]) (H2:=HH R) 63 2 (NilB.rf (S:=(· < NN)) (HH_rn hwR)) ⟨.ptr,.nil hlR,.own,.pu (.base _),.pu (.base _),trivial⟩) ?_
 refine AWp.loop (J:=fun i:Nat=>i ≤ R.accs.length ∧ (rcUp R i).length < 50) (fun i=>⟨[(6,ptR),(8,.own NN (rcUp R i).length 0 (rcUp R i).length),(25,.own (ix .ac) R.accs.length 0 R.accs.length),(26,.int R.accs.length),(27,.int i)],HH R ++ [⟨63,2,(rcUp R i).map encP⟩]⟩) (fun i=>R.accs.length - i) 0 ⟨Nat.zero_le _,by show 0 < 50;decide⟩ (.wf (hH:=by simp [rcUp])) ?_
 rintro i ⟨hi,hil⟩
 by_cases hlt:i < R.accs.length
 ·have hd:decide ((i:Int) < (R.accs.length:Int)) = true:=decide_eq_true (by omega)
  obtain ⟨x,hx⟩:∃ x,R.accs[i]? = some x:=⟨_,List.getElem?_eq_getElem hlt⟩
  have hxv:(R.accs.map encA)[i]? = some (encA x):=by rw [List.getElem?_map,hx];rfl
  obtain ⟨u,hu⟩:∃ u,Hid (u = rcUp R i):=⟨_,⟨rfl⟩⟩
  rw [← hu.out] at hil ⊢
  refine goF ?_
  refine ift_ ?_ rfl (by simp +decide only [go_sem, *] <;> rfl)
  refine goF ?_
  refine ARun.q1 rfl rfl (ql_ixo (n:=i) (b:=ix .ac) (by simp +decide only [go_sem, *] <;> rfl) (by simp +decide only [go_sem, *] <;> rfl) Tryd.underlying30 (by simp +decide only [go_sem, *] <;> rfl) (by simp) hlt (by simp +decide only [go_sem, *] <;> rfl)) ?_
  refine goF ?_
  rw [wrap_succ (by omega)]
  have hrow:Hid (∀ m,m < R.accs.length - (i + 1)→rcRow R i (m + 1) = rcRow R i m ++ if rcB R x (R.accs.getD (i + 1 + m) a0) then [((i:Int),((i + 1 + m:Nat):Int))] else []):=⟨fun m _=>by rw [rcRow_succ,getD_at hx]⟩
  refine AWp.loop (J:=fun m:Nat=>i + 1 + m ≤ R.accs.length ∧ (u ++ rcRow R i m).length < 50) (fun m=>⟨[(6,ptR),(8,.own NN (u ++ rcRow R i m).length 0 (u ++ rcRow R i m).length),(9,.int i),(10,.ptr (NN + 1) 1 0 0),(11,.int (i + 1 + m:Nat)),(25,.own (ix .ac) R.accs.length 0 R.accs.length),(26,.int R.accs.length),(27,.int i)],HH R ++ [⟨63,2,(u ++ rcRow R i m).map encP⟩,⟨73,4,[.agg [.int x.task,.int x.object,.base (.bool x.write),.int x.time]]⟩]⟩) (fun m=>R.accs.length - m) 0 ⟨by omega,by simp only [rcRow_zero,List.append_nil];exact hil⟩ ?_ ?_
  ·simp only [rcRow_zero,List.append_nil]
   exact .wf
  rintro m ⟨hm,hml⟩
  obtain ⟨v,hv⟩:∃ v,Hid (v = u ++ rcRow R i m):=⟨_,⟨rfl⟩⟩
  rw [← hv.out] at hml ⊢
  by_cases hj:i + 1 + m < R.accs.length
  ·have hd2:decide (((i + 1 + m:Nat):Int) < (R.accs.length:Int)) = true:=decide_eq_true (by omega)
   obtain ⟨y,hy⟩:∃ y,R.accs[i + 1 + m]? = some y:=⟨_,List.getElem?_eq_getElem hj⟩
   obtain ⟨j,hje⟩:∃ j,Hid (j = i + 1 + m):=⟨_,⟨rfl⟩⟩
   rw [← hje.out] at hy hd2 hj ⊢
   have hyv:(R.accs.map encA)[j]? = some (encA y):=by rw [List.getElem?_map,hy];rfl
   refine goF ?_
   refine ift_ ?_ rfl (by simp +decide only [go_sem, *] <;> rfl)
   refine goF ?_
   refine ARun.q1 rfl rfl (ql_ixo (n:=j) (b:=ix .ac) (by simp +decide only [go_sem, *] <;> rfl) (by simp +decide only [go_sem, *] <;> rfl) Tryd.underlying30 (by simp +decide only [go_sem, *] <;> rfl) (by simp) hj (by simp +decide only [go_sem, *] <;> rfl)) ?_
   refine goF ?_
   obtain ⟨ax0,ax1⟩:=hAT.out.ac x (List.mem_of_getElem? hx)
   obtain ⟨ay0,ay1⟩:=hAT.out.ac y (List.mem_of_getElem? hy)
   have ib:=before_ok hwR (a:=x.time.toNat) (b:=y.time.toNat) (by omega) (by rw [hAT.out.ck];omega) hAT.out.tn
   rw [Int.toNat_of_nonneg ax0,Int.toNat_of_nonneg ay0] at ib
   have hr1:=hrow.out m (by have:=hje.out;omega)
   rw [← hje.out,getD_at hy] at hr1
   have hr1:=Hid.mk hr1
   have iq1:ix .rn < NN + 2:=by have:=ix_lt (a:=.rn) trivial;omega
   have iq2:ix .ac < NN + 2:=by have:=ix_lt (a:=.ac) trivial;omega
   have iq3:ix .rn < NN:=ix_lt (a:=.rn) trivial
   by_cases hq:rcP x y = true
   ·have hv2:u ++ rcRow R i (m + 1) = v:=by
     rw [hr1.out,hv.out,show rcB R x y = false by unfold rcB;rw [hq];rfl]
     simp
    have hv2:=Hid.mk hv2
    unfold rcP at hq
    refine gxA (.bool false) ?_ (hb:=(by simp +decide only [go_sem, *] <;> rfl)) (hx:=by simp [allL])
    refine goF ?_
    refine ift_ ?_ rfl (by simp +decide only [go_sem, *] <;> rfl)
    refine goF ?_
    rw [wrap_succ (by omega)]
    refine ⟨m + 1,⟨by have:=hje.out;omega,by rw [hv2.out];exact hml⟩,by have:=hje.out;omega,?_⟩
    rw [hv2.out,show (((i + 1 + (m + 1):Nat)):Int) = ((j + 1:Nat):Int) by rw [hje.out];rfl]
    exact Wk.trimT (T:=[⟨63,2,v.map encP⟩,⟨73,4,[.agg [.int x.task,.int x.object,.base (.bool x.write),.int x.time]]⟩]) (T2:=[_]) hwR rfl (by simp [prB_rf,acB_rf]) ⟨.ptr iq1,.own (show NN < NN + 2 by omega),.pu (.base _),.ptr (show NN + 1 < NN + 2 by omega),.pu (.base _),.own iq2,.pu (.base _),.pu (.base _),trivial⟩
   rw [Bool.not_eq_true] at hq
   unfold rcP at hq
   refine ARun.gpl rfl rfl (by simp +decide only [go_sem, *] <;> rfl) rfl (pl_callR hwR hwR (T:=[⟨63,2,v.map encP⟩,⟨73,4,[.agg [.int x.task,.int x.object,.base (.bool x.write),.int x.time]]⟩,⟨73,4,[.agg [.int y.task,.int y.object,.base (.bool y.write),.int y.time]]⟩]) ib rfl (by simp +decide only [go_sem, *] <;> rfl) (by simp +decide only [go_sem, *] <;> rfl) (by
    intro z hz
    simp only [List.mem_cons,List.not_mem_nil,or_false] at hz
    rcases hz with rfl | rfl | rfl
    ·exact .ptr iq3
    ·exact .pu (.base _)
    ·exact .pu (.base _)) (.pu (.base _))) ?_
   clear ib
   cases hb:befF R x.time.toNat y.time.toNat with
   | true =>
     have hv2:u ++ rcRow R i (m + 1) = v:=by
      rw [hr1.out,hv.out,show rcB R x y = false by unfold rcB rcP;rw [hq,hb];rfl]
      simp
     have hv2:=Hid.mk hv2
     refine goF ?_
     refine ift_ ?_ rfl (by simp +decide only [go_sem, *] <;> rfl)
     refine goF ?_
     rw [wrap_succ (by omega)]
     refine ⟨m + 1,⟨by have:=hje.out;omega,by rw [hv2.out];exact hml⟩,by have:=hje.out;omega,?_⟩
     rw [hv2.out,show (((i + 1 + (m + 1):Nat)):Int) = ((j + 1:Nat):Int) by rw [hje.out];rfl]
     exact Wk.trimT (T:=[⟨63,2,v.map encP⟩,⟨73,4,[.agg [.int x.task,.int x.object,.base (.bool x.write),.int x.time]]⟩]) (T2:=[_]) hwR rfl (by simp [prB_rf,acB_rf]) ⟨.ptr iq1,.own (show NN < NN + 2 by omega),.pu (.base _),.ptr (show NN + 1 < NN + 2 by omega),.pu (.base _),.own iq2,.pu (.base _),.pu (.base _),trivial⟩
   | false =>
     have hv2:u ++ rcRow R i (m + 1) = v ++ [((i:Int),(j:Int))]:=by
      rw [hr1.out,hv.out,show rcB R x y = true by unfold rcB rcP;rw [hq,hb];rfl]
      simp
     have hv2:=Hid.mk hv2
     refine goF ?_
     refine iff_ ?_ rfl (by simp +decide only [go_sem, *] <;> rfl)
     refine goF ?_
     refine ARun.q1 rfl rfl (ql_buildA (cs:=[.int i,.int j]) Tryd.underlying63 sz3 zero63 (by simp only [placesA_2];rfl)) ?_
     refine goF ?_
     refine ARun.p1 rfl rfl (pl_append (b:=NN) (tot:=v.length) (es:=[encP (i,j)]) (blk:=⟨63,2,v.map encP⟩) (by simp +decide only [go_sem, *] <;> rfl) (by simp +decide only [go_sem, *] <;> rfl) (by simp +decide only [go_sem, *] <;> rfl) (by simp) Tryd.underlying49 el63 rfl rfl (by simp) (fun e he=>by rw [List.mem_singleton] at he;subst he;exact ⟨rfl,rfl⟩) (by simp;omega) (by simp;omega)) ?_
     refine goF ?_
     by_cases h50:v.length + 1 = 50
     ·have hrf:racesF R = v ++ [((i:Int),(j:Int))]:=by
       rw [← hv2.out,hu.out]
       exact rcPart (by have:=hje.out;omega) (by rw [← hu.out,hv2.out,List.length_append];exact h50)
      rw [hrf]
      clear hrf
      refine ift_ ?_ ?_ rfl
      rotate_left
      ·exact decide_eq_true (by omega)
      refine goF ?_
      refine Ret.pub (vs:=[.own NN (v.length + 1) 0 (v.length + 1),.int 0]) (by show resVals _ _ [.tmp 4,.tmp 5] = _;simp +decide only [resVals,resVal,ldPtr,ldE,go_sem, *] <;> rfl) ?_
      exact .tup' ⟨.ownM (ty:=63) (sz:=2) (f:=encP) (Nat.zero_le _) (by rw [List.map_append];exact app_get0 hlR) (by simp) (fun x _ c hc=>by
       simp only [AV.cells,List.mem_cons,List.not_mem_nil,or_false] at hc
       rcases hc with rfl | rfl <;> exact .base _),.pu (.base _),trivial⟩
     ·refine iff_ ?_ ?_ rfl
      rotate_left
      ·exact decide_eq_false (by omega)
      refine goF ?_
      rw [wrap_succ (by omega)]
      refine ⟨m + 1,⟨by have:=hje.out;omega,by rw [hv2.out,List.length_append];show v.length + 1 < 50;omega⟩,by have:=hje.out;omega,?_⟩
      rw [hv2.out,show (((i + 1 + (m + 1):Nat)):Int) = ((j + 1:Nat):Int) by rw [hje.out];rfl,List.map_append,List.length_append,List.length_singleton]
      exact Wk.trimT (T:=[⟨63,2,v.map encP ++ [encP (i,j)]⟩,⟨73,4,[.agg [.int x.task,.int x.object,.base (.bool x.write),.int x.time]]⟩]) (T2:=[_]) hwR rfl (by
       intro b hb
       simp only [List.mem_cons,List.not_mem_nil,or_false] at hb
       rcases hb with rfl | rfl
       ·have:=prB_rf (l:=v ++ [((i:Int),(j:Int))])
        rw [List.map_append] at this
        exact this
       ·exact acB_rf) ⟨.ptr iq1,.own (show NN < NN + 2 by omega),.pu (.base _),.ptr (show NN + 1 < NN + 2 by omega),.pu (.base _),.own iq2,.pu (.base _),.pu (.base _),trivial⟩
  ·have hd2:decide (((i + 1 + m:Nat):Int) < (R.accs.length:Int)) = false:=decide_eq_false (by omega)
   refine goF ?_
   refine iff_ ?_ rfl (by simp +decide only [go_sem, *] <;> rfl)
   refine goF ?_
   have hmn:m = R.accs.length - (i + 1):=by omega
   have hv2:rcUp R (i + 1) = v:=by rw [rcUp_succ,hv.out,← hu.out,← hmn]
   have hv2:=Hid.mk hv2
   rw [wrap_succ (by omega)]
   have iq1:ix .rn < NN + 1:=by have:=ix_lt (a:=.rn) trivial;omega
   have iq2:ix .ac < NN + 1:=by have:=ix_lt (a:=.ac) trivial;omega
   refine ⟨i + 1,⟨by omega,by rw [hv2.out];exact hml⟩,by omega,?_⟩
   rw [hv2.out]
   exact Wk.trimT (T:=[⟨63,2,v.map encP⟩]) (T2:=[_]) hwR rfl (by simp [prB_rf]) ⟨.ptr iq1,.own (show NN < NN + 1 by omega),.own iq2,.pu (.base _),.pu (.base _),trivial⟩
 ·have hd:decide ((i:Int) < (R.accs.length:Int)) = false:=decide_eq_false (by omega)
  have hin:i = R.accs.length:=by omega
  have hrf:racesF R = rcUp R i:=by rw [hin];exact rcFull (by rw [← hin];exact hil)
  rw [hrf]
  obtain ⟨l1,hl1⟩:∃ l1,l1 = rcUp R i:=⟨_,rfl⟩
  rw [← hl1]
  clear hl1 hin hrf
  refine goF ?_
  refine iff_ ?_ rfl (by simp +decide only [go_sem, *] <;> rfl)
  refine goF ?_
  refine Ret.pub (vs:=[.own NN l1.length 0 l1.length,.int 0]) (by show resVals _ _ [.tmp 4,.tmp 5] = _;simp +decide only [resVals,resVal,ldPtr,ldE,go_sem, *] <;> rfl) ?_
  exact .tup' ⟨.ownM (ty:=63) (sz:=2) (f:=encP) (Nat.zero_le _) (app_get0 hlR) rfl (fun x _ c hc=>by
   simp only [AV.cells,List.mem_cons,List.not_mem_nil,or_false] at hc
   rcases hc with rfl | rfl <;> exact .base _),.pu (.base _),trivial⟩
end Go.Ab
set_option maxHeartbeats 4000000
namespace Go.Ab
open Go Go.Ab Go.Proofs Go.Ab.Ty
noncomputable def rgc (c:PCall):Rg.Rg:=Rg.regAt (Rg.startF c.code (decide (0 ≤ c.actor))) (c.code.steps.take c.pc.toNat)
theorem rgc_succ {c:PCall} {st:Stp} (h0:0 ≤ c.pc) (h:c.code.steps[c.pc.toNat]? = some st):rgc { c with pc:=c.pc + 1 } = Rg.afterR (rgc c) st:=by
 unfold rgc
 simp only
 rw [show (c.pc + 1).toNat = c.pc.toNat + 1 by omega,List.take_add_one,h]
 exact Rg.regAt_app _ _ _
theorem after_7 {r:Rg.Rg} {st:Stp} (h:st.op = 7):Rg.afterR r st = r:=by
 unfold Rg.afterR
 rw [if_neg (by omega),if_neg (by omega),if_neg (by omega),if_neg (by omega),if_neg (by omega),if_neg (by omega)]
def cel (s:PRun) (k i:Nat):Int:=(s.pool.getD k []).getD i (-1)
theorem cel_of {s s':PRun} {k:Nat} (h:s'.pool[k]? = s.pool[k]?) (i:Nat):cel s' k i = cel s k i:=by
 unfold cel;simp only [List.getD_eq_getElem?_getD,h]
theorem joinL_ge {a b:List Int} (h:a.length = b.length) (i:Nat):a.getD i (-1) ≤ (joinL a b).getD i (-1) ∧ b.getD i (-1) ≤ (joinL a b).getD i (-1):=by
 unfold joinL
 simp only [List.getD_eq_getElem?_getD,List.getElem?_zipWith]
 rcases Nat.lt_or_ge i a.length with h1 | h1
 ·rw [List.getElem?_eq_getElem h1,List.getElem?_eq_getElem (by omega:i < b.length)]
  simp only [Option.getD_some]
  omega
 ·rw [List.getElem?_eq_none h1,List.getElem?_eq_none (by omega:b.length ≤ i)]
  exact ⟨Int.le_refl _,Int.le_refl _⟩
structure Sm (s s':PRun):Prop where
 fx:Fx s s'
 pl:s.pool.length ≤ s'.pool.length
 po:∀ k,k < s.pool.length→s'.pool[k]? = s.pool[k]?
 tl:s'.tasks.length = s.tasks.length
 tk:∀ (n:Nat) (t':PTask),s'.tasks[n]? = some t'→∃ t:PTask,s.tasks[n]? = some t ∧ t'.sarr = t.sarr ∧ t'.slen ≤ t.slen ∧ (t.clk < s.pool.length→t'.clk < s'.pool.length ∧ ∀ i,cel s t.clk i ≤ cel s' t'.clk i)
 cl:s'.calls.length = s.calls.length
 ca:∀ (j:Nat) (c':PCall),s'.calls[j]? = some c'→∃ c:PCall,s.calls[j]? = some c ∧ c'.vars = c.vars ∧ c'.actor = c.actor ∧ c'.code = c.code ∧ rgc c' = rgc c
 up:∀ (b:Int),(∀ l ∈ s.pool,∀ v ∈ l,v < b)→∀ l ∈ s'.pool,∀ v ∈ l,v < b
theorem Sm.refl (s:PRun):Sm s s:=⟨.refl s,Nat.le_refl _,fun _ _=>rfl,rfl,fun n t h=>⟨t,h,rfl,Nat.le_refl _,fun g=>⟨g,fun _=>Int.le_refl _⟩⟩,rfl,fun j c h=>⟨c,h,rfl,rfl,rfl,rfl⟩,fun b h=>h⟩
theorem Sm.trans {s s1 s2:PRun} (h:Sm s s1) (g:Sm s1 s2):Sm s s2:=by
 refine ⟨h.fx.trans g.fx,Nat.le_trans h.pl g.pl,fun k hk=>(g.po k (Nat.lt_of_lt_of_le hk h.pl)).trans (h.po k hk),g.tl.trans h.tl,fun n t2 e=>?_,g.cl.trans h.cl,fun j c2 e=>?_,fun b e=>g.up b (h.up b e)⟩
 ·obtain ⟨t1,a1,a2,a3,a4⟩:=g.tk n t2 e
  obtain ⟨t,b1,b2,b3,b4⟩:=h.tk n t1 a1
  refine ⟨t,b1,a2.trans b2,Nat.le_trans a3 b3,fun q=>?_⟩
  obtain ⟨q1,q2⟩:=b4 q
  obtain ⟨q3,q4⟩:=a4 q1
  exact ⟨q3,fun i=>Int.le_trans (q2 i) (q4 i)⟩
 ·obtain ⟨c1,a1,a2,a3,a4,a5⟩:=g.ca j c2 e
  obtain ⟨c,b1,b2,b3,b4,b5⟩:=h.ca j c1 a1
  exact ⟨c,b1,a2.trans b2,a3.trans b3,a4.trans b4,a5.trans b5⟩
theorem Sm.tset {s:PRun} {n:Nat} {t t':PTask} (ht:s.tasks[n]? = some t) (h1:t'.sarr = t.sarr) (h2:t'.slen ≤ t.slen) (h3:t.clk < s.pool.length→t'.clk < s.pool.length ∧ ∀ i,cel s t.clk i ≤ cel s t'.clk i):Sm s (s.tset n t'):=by
 refine ⟨⟨rfl,rfl,rfl,rfl,rfl,rfl,rfl,rfl,rfl⟩,Nat.le_refl _,fun _ _=>rfl,tset_len,fun k u e=>?_,rfl,fun j c h=>⟨c,h,rfl,rfl,rfl,rfl⟩,fun b h=>h⟩
 by_cases ek:n = k
 ·subst ek;rw [tset_at ht] at e;injection e with e;subst e;exact ⟨t,ht,h1,h2,h3⟩
 ·rw [tset_ne ek] at e;exact ⟨u,e,rfl,Nat.le_refl _,fun g=>⟨g,fun _=>Int.le_refl _⟩⟩
theorem Sm.enS (s:PRun) (n e:Nat):Sm s (s.enS n e):=⟨⟨rfl,rfl,rfl,rfl,rfl,rfl,rfl,rfl,rfl⟩,Nat.le_refl _,fun _ _=>rfl,rfl,fun n t h=>⟨t,h,rfl,Nat.le_refl _,fun g=>⟨g,fun _=>Int.le_refl _⟩⟩,rfl,fun j c h=>⟨c,h,rfl,rfl,rfl,rfl⟩,fun b h=>h⟩
theorem Sm.addB (s:PRun) (l:List Nat):Sm s (s.addB l):=⟨⟨rfl,rfl,rfl,rfl,rfl,rfl,rfl,rfl,rfl⟩,Nat.le_refl _,fun _ _=>rfl,rfl,fun n t h=>⟨t,h,rfl,Nat.le_refl _,fun g=>⟨g,fun _=>Int.le_refl _⟩⟩,rfl,fun j c h=>⟨c,h,rfl,rfl,rfl,rfl⟩,fun b h=>h⟩
theorem Sm.addP (s:PRun) (l:List Int) (hl:∀ b,(∀ l ∈ s.pool,∀ v ∈ l,v < b)→∀ v ∈ l,v < b):Sm s (s.addP l):=by
 refine ⟨⟨rfl,rfl,rfl,rfl,rfl,rfl,rfl,rfl,rfl⟩,by simp [PRun.addP],fun k hk=>addP_ne (by omega),rfl,fun n t h=>⟨t,h,rfl,Nat.le_refl _,fun g=>⟨by simp [PRun.addP];omega,fun i=>?_⟩⟩,rfl,fun j c h=>⟨c,h,rfl,rfl,rfl,rfl⟩,fun b h l' hl'=>?_⟩
 ·rw [cel_of (s:=s) (s':=s.addP l) (addP_ne (by omega))];exact Int.le_refl _
 ·rcases List.mem_append.1 (show l' ∈ s.pool ++ [l] from hl') with g | g
  ·exact h l' g
  ·rw [List.mem_singleton] at g;subst g;exact hl b h
theorem join_bd {s:PRun} {x y:Nat} (b:Int) (h:∀ l ∈ s.pool,∀ v ∈ l,v < b):∀ v ∈ joinL (s.pool.getD x []) (s.pool.getD y []),v < b:=by
 intro v hv
 unfold joinL at hv
 obtain ⟨i,hi,e⟩:=List.mem_iff_getElem.1 hv
 rw [List.length_zipWith] at hi
 rw [List.getElem_zipWith] at e
 have key:∀ (z i:Nat) (hi:i < (s.pool.getD z []).length),(s.pool.getD z [])[i] < b:=fun z i hi=>by
  have hm:(s.pool.getD z [])[i] ∈ s.pool.getD z []:=List.getElem_mem _
  generalize (s.pool.getD z [])[i] = w at hm
  cases hz:s.pool[z]? with
  | none=>simp [List.getD_eq_getElem?_getD,hz] at hm
  | some l =>
    rw [show s.pool.getD z [] = l by simp [List.getD_eq_getElem?_getD,hz]] at hm
    exact h l (List.mem_of_getElem? hz) _ hm
 have k1:=key x i (by omega)
 have k2:=key y i (by omega)
 omega
theorem Sm.addJ (s:PRun) (x y:Nat):Sm s (s.addP (joinL (s.pool.getD x []) (s.pool.getD y []))):=.addP s _ fun b h=>join_bd b h
theorem kidsJ_sm:∀ (ks:List Int) (s:PRun) (e:Nat),Sm s (kidsJ s e ks).1:=by
 intro ks
 induction ks with
 | nil=>intro s e;exact .refl s
 | cons k ks ih =>
   intro s e
   simp only [kidsJ]
   split
   ·split
    ·exact (Sm.addJ s _ _).trans (ih _ _)
    ·exact .refl s
   ·exact .refl s
theorem Sm.cset {s:PRun} {j:Nat} {c c':PCall} (hc:s.calls[j]? = some c) (h1:c'.vars = c.vars) (h2:c'.actor = c.actor) (h3:c'.code = c.code) (h4:rgc c' = rgc c):Sm s (s.cset j c'):=by
 refine ⟨⟨rfl,rfl,rfl,rfl,rfl,rfl,rfl,rfl,rfl⟩,Nat.le_refl _,fun _ _=>rfl,rfl,fun n t h=>⟨t,h,rfl,Nat.le_refl _,fun g=>⟨g,fun _=>Int.le_refl _⟩⟩,by simp [PRun.cset],fun k x e=>?_,fun b h=>h⟩
 by_cases ek:j = k
 ·subst ek;rw [cset_at hc] at e;injection e with e;subst e;exact ⟨c,hc,h1,h2,h3,h4⟩
 ·rw [cset_ne ek] at e;exact ⟨x,e,rfl,rfl,rfl,rfl⟩
def Oks (S:PRun→Nat→PRun) (f:Nat):Prop:=∀ (s:PRun) (n:Nat),Iv s→Gi s→s.pool.length + 1001 * f ≤ MM→s.behs.length + f ≤ MM→Sm s (S s n)
theorem goOnF_sm {S:PRun→Nat→PRun} {f:Nat} (hS:Oks S f) {s:PRun} (hi:Iv s) (h:Gi s) {n j:Nat} {t:PTask} {c:PCall} (ht:s.tasks[n]? = some t) (hst:t.state < 3) (hwt:t.waits < 0) (hj:t.sarr[t.slen - 1]? = some j) (hc:s.calls[j]? = some c) (hp:c.pc < c.code.steps.length)
 (hN:t.slen = 1→∀ st,c.code.steps[c.pc.toNat]? = some st→st.op = 6→∃ kc:Nat,getM t.spn c.pc = some (kc:Int) ∧ kc < s.tasks.length)
 (hb1:s.pool.length + 1001 * f ≤ MM) (hb2:s.behs.length + f ≤ MM):Sm (s.cset j { c with pc:=c.pc + 1 }) (goOnF S s n j):=by
 have hs0:=hi.stk n t ht
 have ht':(s.cset j { c with pc:=c.pc + 1 }).tasks[n]? = some t:=ht
 unfold goOnF
 rw [ht,hc]
 simp only
 cases hpop:popS (s.cset j { c with pc:=c.pc + 1 }).calls t.sarr (t.slen - 1) j with
 | none =>
   have i1:=hi.go (t':=clo { t with slen:=1 } 3) ht hj hc hp rfl (by show 1 ≤ _;omega) (by show 0 < 1;omega) rfl rfl rfl rfl (by show (2:Int) < 3;omega) hwt (.inr (by show (3:Int) ≤ 3;omega)) (fun e=>by have:(2:Int) = 1:=e;omega)
   exact (Sm.tset (t':=clo { t with slen:=1 } 3) ht' rfl (by show 1 ≤ _;omega) (fun g=>⟨g,fun _=>Int.le_refl _⟩)).trans (hS _ n i1 (h.go hi ht hj hc rfl (by show 1 ≤ _;omega) rfl rfl rfl hwt (fun e=>by have:(2:Int) = 1:=e;omega) hN) hb1 hb2)
 | some m =>
   obtain ⟨p1,p2⟩:=popS_top hpop hj
   exact Sm.tset ht' rfl (by show m + 1 ≤ _;omega) (fun g=>⟨g,fun _=>Int.le_refl _⟩)
theorem wakeP_sm {s:PRun} (h:Iv s) {p e:Nat} {tp:PTask} (ht:s.tasks[p]? = some tp) (he:e < s.pool.length):Sm s (wakeP s p tp e):=by
 obtain ⟨a1,a2,a3,a4⟩:=h.wf.tsk tp (List.mem_of_getElem? ht)
 have h0:=Sm.addB s [e]
 have h1:Sm s (wakeT s p tp e):=h0.trans (Sm.tset (s:=s.addB [e]) ht rfl (Nat.le_refl _) (fun g=>⟨g,fun _=>Int.le_refl _⟩))
 unfold wakeP
 split
 ·split
  ·have e2:((wakeT s p tp e).addP (joinL (s.pool.getD tp.clk []) (s.pool.getD e []))).tset p { tp with waits:=-1,state:=1,beh:=some s.behs.length,clk:=s.pool.length } = ((s.addB [e]).addP (joinL (s.pool.getD tp.clk []) (s.pool.getD e []))).tset p { tp with waits:=-1,state:=1,beh:=some s.behs.length,clk:=s.pool.length }:=by
    simp [wakeT,PRun.tset,PRun.addP,PRun.addB]
   rw [e2]
   have h2:Sm s ((s.addB [e]).addP (joinL (s.pool.getD tp.clk []) (s.pool.getD e []))):=h0.trans (Sm.addJ (s.addB [e]) tp.clk e)
   refine h2.trans (Sm.tset (t:=tp) ht rfl (Nat.le_refl _) fun g=>⟨by simp [PRun.addP,PRun.addB],fun i=>?_⟩)
   have hp1:s.pool[tp.clk]? = some s.pool[tp.clk]:=List.getElem?_eq_getElem a3
   have hp2:s.pool[e]? = some s.pool[e]:=List.getElem?_eq_getElem he
   have l1:=h.wf.pl _ (List.mem_of_getElem? hp1)
   have l2:=h.wf.pl _ (List.mem_of_getElem? hp2)
   have e3:((s.addB [e]).addP (joinL (s.pool.getD tp.clk []) (s.pool.getD e []))).pool[s.pool.length]? = some (joinL (s.pool.getD tp.clk []) (s.pool.getD e [])):=addP_at (s:=s.addB [e])
   have e4:((s.addB [e]).addP (joinL (s.pool.getD tp.clk []) (s.pool.getD e []))).pool[tp.clk]? = s.pool[tp.clk]?:=addP_ne (s:=s.addB [e]) (by show tp.clk ≠ s.pool.length;omega)
   rw [cel_of (s:=s) e4]
   unfold cel
   rw [getD_at e3]
   exact (joinL_ge (by simp only [List.getD_eq_getElem?_getD,hp1,hp2,Option.getD_some];omega) i).1
  ·exact h1
 ·exact h1
theorem settleF_sm:∀ f:Nat,Oks (settleF f) f:=by
 intro f
 induction f with
 | zero=>intro s n _ h _ _;exact .refl s
 | succ f ih =>
   intro s n h hg hb1 hb2
   simp only [settleF]
   split
   ·exact .refl s
   ·rename_i t ht
    split
    ·exact .refl s
    ·rename_i hcl
     obtain ⟨a1,a2,a3,a4⟩:=h.wf.tsk t (List.mem_of_getElem? ht)
     have hkl:=(h.wf.tsz t (List.mem_of_getElem? ht)).2
     obtain ⟨k1,k2,k3,k4,k5⟩:=kidsJ_ok t.kids s t.clk h a3 (by omega)
     have hks:=kidsJ_sm t.kids s t.clk
     split
     ·rename_i s1 e hk
      rw [hk] at hks
      exact hks
     ·rename_i s1 e hk
      rw [hk] at k1 k2 k3 k4 k5 hks
      simp only at k1 k2 k3 k4 k5 hks
      have htl:s1.tasks = s.tasks:=by rw [k3]
      have hcll:s1.calls = s.calls:=by rw [k3]
      have hbl:s1.behs = s.behs:=by rw [k3]
      have ht1:s1.tasks[n]? = some t:=by rw [htl];exact ht
      have hg1:Gi s1:=by rw [k3];exact hg.eqs rfl rfl rfl rfl
      have i2:=k1.end ht1 k2 (fun g=>hcl (.inl g))
      have hed:=h.ed n t ht
      have g2:Gi ((s1.enS n e).tset n { t with state:=t.ending }):=by
       have:Gi (s1.enS n e):=hg1.eqs rfl rfl rfl rfl
       refine this.tset (t:=t) ht1 ⟨rfl,rfl,rfl,rfl,rfl,.inl rfl,fun g=>?_,fun g=>((hg1.ta n t ht1).w7 g).1⟩
       have:t.ending = 1:=g
       omega
      have m2:Sm s ((s1.enS n e).tset n { t with state:=t.ending }):=(hks.trans (Sm.enS s1 n e)).trans (Sm.tset (t:=t) ht1 rfl (Nat.le_refl _) (fun g=>⟨g,fun _=>Int.le_refl _⟩))
      split
      ·exact m2
      ·rename_i hpar
       split
       ·exact hks
       ·rename_i tp htp
        have hpn:t.par.toNat ≠ n:=by
         rcases h.par n t ht with e1 | ⟨p,e1,e2⟩
         ·omega
         ·rw [e1];simp;omega
        have htp2:((s1.enS n e).tset n { t with state:=t.ending }).tasks[t.par.toNat]? = some tp:=by rw [tset_ne (fun g=>hpn g.symm)];exact htp
        split
        ·rename_i hwt
         have hw:=wakeP_iv (e:=e) i2 htp2 (by omega) k2 (by show s1.behs.length < _;rw [hbl];omega) (by show s1.pool.length < _;omega)
         obtain ⟨tq,q1,q2,q3,q4,q5,q6⟩:=wakeP_spn (e:=e) htp2
         obtain ⟨c,c1,c2⟩:=topJ_at i2 htp2
         have hc3:c.pc < c.code.steps.length:=i2.pcI _ tp _ c htp2 (.inr (by omega)) c1 c2
         have hc0:=(i2.pcB c (List.mem_of_getElem? c2)).1
         have hpb:(wakeP ((s1.enS n e).tset n { t with state:=t.ending }) t.par.toNat tp e).pool.length ≤ s1.pool.length + 1:=hw.pl
         have hbb:(wakeP ((s1.enS n e).tset n { t with state:=t.ending }) t.par.toNat tp e).behs.length = s.behs.length + 1:=by rw [hw.bl];show s1.behs.length + 1 = _;rw [hbl]
         have h7:=((g2.ta _ tp htp2).w7 (by omega)).2
         have m3:=wakeP_sm (e:=e) i2 htp2 k2
         have hcw:(wakeP ((s1.enS n e).tset n { t with state:=t.ending }) t.par.toNat tp e).calls[topJ tp]? = some c:=by rw [hw.cl];exact c2
         have hst:c.code.steps[c.pc.toNat]? = some c.code.steps[c.pc.toNat]:=List.getElem?_eq_getElem (by omega)
         have m4:Sm (wakeP ((s1.enS n e).tset n { t with state:=t.ending }) t.par.toNat tp e) ((wakeP ((s1.enS n e).tset n { t with state:=t.ending }) t.par.toNat tp e).cset (topJ tp) { c with pc:=c.pc + 1 }):=
          Sm.cset hcw rfl rfl rfl (by rw [rgc_succ hc0 hst,after_7 (h7 _ c _ c1 c2 hst)])
         exact ((m2.trans m3).trans m4).trans (goOnF_sm ih hw.iv (wakeP_gi g2 htp2 (by omega)) q1 (by omega) (by omega) (by rw [q4,q5];exact c1) hcw hc3 (fun _ st g1 g3=>by have:=h7 _ c st c1 c2 g1;omega) (by omega) (by omega))
        ·exact m2.trans (ih _ t.par.toNat i2 g2 (by show s1.pool.length + _ ≤ _;omega) (by show s1.behs.length + _ ≤ _;rw [hbl];omega))
end Go.Ab
