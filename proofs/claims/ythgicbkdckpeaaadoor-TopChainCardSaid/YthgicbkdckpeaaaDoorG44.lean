/- Part of the proof. -/
import Derived.Test.YthgicbkdckpeaaaDoorG40
import Derived.Test.YthgicbkdckpeaaaDoorG42
import Derived.Test.YthgicbkdckpeaaaDoorG43
set_option linter.unusedSimpArgs false
set_option linter.unusedVariables false
set_option maxHeartbeats 4000000
namespace Go.Ab
open Go Go.Ab Go.Proofs Go.Ab.Ty
abbrev encS0 (s:Stp):AV:=.agg [.int s.op,.int s.v,.int s.w,.int s.n,.int s.task,nilS]
abbrev encC0 (c:Cd):AV:=.agg [.int c.params,.int c.vars,.lst (c.steps.map encS0)]
theorem pu_S0 (s:Stp):∀ c ∈ (encS0 s).cells,Pu c:=fun c hc=>by
 simp only [AV.cells,List.mem_cons,List.not_mem_nil,or_false] at hc
 rcases hc with rfl | rfl | rfl | rfl | rfl | rfl <;> exact .base _
theorem pu_mapS0 (l:List Stp):Pu (.lst (l.map encS0)):=.lst fun e he=>by
 obtain ⟨s,_,rfl⟩:=List.mem_map.1 he
 exact pu_S0 s
theorem pu_C0 (x:Cd):∀ c ∈ (encC0 x).cells,Pu c:=fun c hc=>by
 simp only [AV.cells,List.mem_cons,List.not_mem_nil,or_false] at hc
 rcases hc with rfl | rfl | rfl
 ·exact .base _
 ·exact .base _
 ·exact pu_mapS0 _
abbrev hsC (i:Nat) (T1:ABlk) (q:Nat) (L:List Stp):List ABlk:=[⟨24,3,[.agg [.own 1 i 0 i,nilS,.int 0]]⟩,T1,⟨68,3,[.agg [.int 0,.int 1,.own 3 q 0 q]]⟩,⟨70,6,L.map encS0⟩]
abbrev chA (n k w:Nat):AV:=.agg [.lst ((List.range n).map fun j=>encC0 (chC n k w j)),nilS,.int 0]
theorem chA_le (n k w:Nat):Le (chA n k w) (encT (chP n k w)):=by
 have hv:∀ j st,st ∈ chS n k w j→st.vars = []:=fun j st h=>by
  obtain ⟨pc,hpc⟩:=List.getElem?_of_mem h
  rcases chS_at hpc with ⟨e,_⟩ | ⟨_,⟨_,e | e⟩ | ⟨_,e⟩⟩ <;> rw [e] <;> rfl
 have hsl:∀ j,Le (.lst ((chS n k w j).map encS0)) (.lst ((chS n k w j).map encS)):=fun j=>.lstL (by simp) fun x e d h1 h2=>by
  rw [List.getElem?_map,Option.map_eq_some_iff] at h1 h2
  obtain ⟨s1,g1,rfl⟩:=h1
  obtain ⟨s2,g2,rfl⟩:=h2
  rw [g1] at g2;injection g2 with g2;subst g2
  have:=hv j s1 (List.mem_of_getElem? g1)
  obtain ⟨a1,a2,a3,a4,a5,a6⟩:=s1
  simp only at this
  subst this
  exact ⟨.refl _,.refl _,.refl _,.refl _,.refl _,.nil,trivial⟩
 refine .aggL ⟨.lstL (by simp [chP]) fun x e d h1 h2=>?_,.nil,.refl _,trivial⟩
 simp only [chP,List.map_map] at h2
 rw [List.getElem?_map,Option.map_eq_some_iff] at h1 h2
 obtain ⟨j1,g1,rfl⟩:=h1
 obtain ⟨j2,g2,rfl⟩:=h2
 rw [g1] at g2;injection g2 with g2;subst g2
 exact ⟨.refl _,.refl _,hsl j1,trivial⟩
theorem pu_chA (n k w:Nat):Pu (chA n k w):=.agg fun c hc=>by
 simp only [List.mem_cons,List.not_mem_nil,or_false] at hc
 rcases hc with rfl | rfl | rfl
 ·refine .lst fun e he=>?_
  obtain ⟨j,_,rfl⟩:=List.mem_map.1 he
  exact pu_C0 _
 ·exact .base _
 ·exact .base _
abbrev u8 (a:Nat):AV:=.base (.int .u8 a)
theorem law_chain {mm:List (Nat × Obj)} (hmm:TabM mm) (a b c:Nat) (ha:a ≤ 255) (hb:b ≤ 255) (hc:c ≤ 255) (sched:List Int):FnM Tryd.prog mm 12 [.agg [u8 a,u8 b,u8 c],.lst (sched.map .int)] (.bool true):=by
 refine FnM.intro' [(0,.agg [u8 a,u8 b,u8 c]),(1,.lst (sched.map .int))] 2 232 Tryd.func12 (by kernel_rfl) rfl rfl rfl rfl rfl ?_
 have iam:=meets_ok hmm
 obtain ⟨n,hn⟩:∃ n,n = 2 + a % 6:=⟨_,rfl⟩
 obtain ⟨k,hk⟩:∃ k,k = b % 13:=⟨_,rfl⟩
 obtain ⟨w,hw⟩:∃ w,w = c % 10:=⟨_,rfl⟩
 have hn2:2 ≤ n:=by omega
 have hn7:n ≤ 7:=by omega
 have hk12:k ≤ 12:=by omega
 have hw9:w ≤ 9:=by omega
 have w6:Fn Tryd.prog 37 [.int a,.int 6] (.int ((a % 6:Nat):Int)):=within_ok a 6 ha (by omega) (by omega)
 have w13:Fn Tryd.prog 37 [.int b,.int 13] (.int ((b % 13:Nat):Int)):=within_ok b 13 hb (by omega) (by omega)
 have w10:Fn Tryd.prog 37 [.int c,.int 10] (.int ((c % 10:Nat):Int)):=within_ok c 10 hc (by omega) (by omega)
 have wb:∀ m:Nat,m ≤ 255→IntKind.i64.wrap (m:Int) = m:=fun m hm=>wrap_id (by omega) (by omega)
 refine goB ?_
 refine drA (k:=16) follows (hr:=?_)
 refine goB ?_
 refine ARun.q1 rfl rfl (ql_indexAddr_ptr (k:=.i64) (n:=0) rfl rfl rfl Tryd.underlying64 (by decide) (by decide) sz5) ?_
 refine goB ?_
 rw [wb a ha]
 refine callA (w6) ?_
 refine goB ?_
 refine ARun.q1 rfl rfl (ql_indexAddr_ptr (k:=.i64) (n:=1) rfl rfl rfl Tryd.underlying64 (by decide) (by decide) sz5) ?_
 refine goB ?_
 rw [wb b hb]
 refine callA (w13) ?_
 refine goB ?_
 refine ARun.q1 rfl rfl (ql_indexAddr_ptr (k:=.i64) (n:=2) rfl rfl rfl Tryd.underlying64 (by decide) (by decide) sz5) ?_
 refine goB ?_
 rw [wb c hc]
 refine callA (w10) ?_
 refine goB ?_
 have e5:IntKind.i64.wrap (2 + ((a % 6:Nat):Int)) = n:=by rw [hn];exact (wrap_id (by omega) (by omega)).trans (by omega)
 rw [e5,← hk,← hw]
 clear e5 w6 w13 w10 wb
 refine AWp.cond rfl (fun hc1=>?_) (fun hc1=>?_)
 ·clear hc1
  refine goB ?_
  refine callA (iam) ?_
  refine goB ?_
  exact Ret.data (vs:=[.bool true]) rfl rfl (.base _)
 refine AWp.skip ?_
 have hs:sched.length ≤ 200:=by
  have:=of_decide_eq_false hc1
  omega
 clear hc1
 refine AWp.weaken (s2:=⟨[(1,.lst (sched.map .int)),(5,.int n),(6,.int k),(7,.int w),(memSlot,.mem mm)],[]⟩) (Wk.selB [] List.nodup_nil (fun b hb=>absurd hb (Nat.not_lt_zero _)) trivial (WkR.all ⟨.pu (Pu_mapInt _),.pu (.base _),.pu (.base _),.pu (.base _),.pu (.mem _),trivial⟩)) ?_
 clear hn hk hw ha hb hc
 refine goB ?_
 refine AWp.weaken (Wk.nilC (E2:=[(1,.lst (sched.map .int)),(5,.int n),(6,.int k),(7,.int w),(8,.ptr 0 1 0 0),(9,.int 0),(memSlot,.mem mm)]) (H2:=[⟨24,3,[.agg [.own 1 0 0 0,nilS,.int 0]]⟩]) 68 3 ⟨.one ⟨.nil rfl,.pu (.base _),.pu (.base _),trivial⟩,trivial⟩ ⟨.pu (Pu_mapInt _),.pu (.base _),.pu (.base _),.pu (.base _),.ptr,.pu (.base _),.pu (.mem _),trivial⟩) ?_
 refine AWp.loop (J:=fun i:Nat=>i ≤ n) (fun i=>⟨[(1,.lst (sched.map .int)),(5,.int n),(6,.int k),(7,.int w),(8,.ptr 0 1 0 0),(9,.int i),(memSlot,.mem mm)],[⟨24,3,[.agg [.own 1 i 0 i,nilS,.int 0]]⟩,⟨68,3,(List.range i).map fun j=>encC0 (chC n k w j)⟩]⟩) (fun i=>n - i) 0 (Nat.zero_le _) .wf ?_
 rintro i hi
 refine goB ?_
 by_cases hlt:i < n
 ·refine ift_ ?_ (decide_eq_true (by omega)) rfl
  refine goB ?_
  have hwr:IntKind.i64.wrap ((i:Int) + 1) = (i:Int) + 1:=wrap_id (by omega) (by omega)
  refine bldA pl68 zero68 ?_
  refine goB ?_
  rw [wrap_succ (by omega)]
  obtain ⟨T1,hT1⟩:∃ T1:ABlk,T1 = ⟨68,3,(List.range i).map fun j=>encC0 (chC n k w j)⟩:=⟨_,rfl⟩
  have hT1p:∀ e ∈ T1.es,∀ c ∈ e.cells,Pu c:=fun e he c hc=>by
   rw [hT1] at he
   obtain ⟨j,_,rfl⟩:=List.mem_map.1 he
   exact pu_C0 _ c hc
  have hT1H:=Hid.mk hT1
  rw [← hT1]
  clear hT1
  refine AWp.weaken (Wk.nilC (E2:=[(1,.lst (sched.map .int)),(5,.int n),(6,.int k),(7,.int w),(8,.ptr 0 1 0 0),(9,.int i),(10,.ptr 2 1 0 0),(44,.bool (decide (((i + 1:Nat):Int) < (n:Int)))),(memSlot,.mem mm)]) (H2:=[⟨24,3,[.agg [.own 1 i 0 i,nilS,.int 0]]⟩,T1,⟨68,3,[.agg [.int 0,.int 1,.own 3 0 0 0]]⟩]) 70 6 ⟨.one ⟨.own,.pu (.base _),.pu (.base _),trivial⟩,.pu hT1p,.one ⟨.pu (.base _),.pu (.base _),.nil rfl,trivial⟩,trivial⟩ ⟨.pu (Pu_mapInt _),.pu (.base _),.pu (.base _),.pu (.base _),.ptr,.pu (.base _),.ptr,.pu (.base _),.pu (.mem _),trivial⟩) ?_
  refine AWp.join ⟨[(1,.lst (sched.map .int)),(5,.int n),(6,.int k),(7,.int w),(8,.ptr 0 1 0 0),(9,.int i),(10,.ptr 2 1 0 0),(memSlot,.mem mm)],hsC i T1 (if i + 1 < n then 1 else 0) (if i + 1 < n then [stG 6 ((i:Int) + 1)] else [])⟩ ?_ ?_
  ·by_cases hin:i + 1 < n
   ·refine ift_ ?_ (decide_eq_true (by omega)) rfl
    rw [if_pos hin,if_pos hin]
    refine goB ?_
    refine bldA pl70 zero70 ?_
    refine goB ?_
    rw [hwr]
    refine ARun.p1 rfl rfl (pl_append (b:=3) (tot:=0) (es:=[encS0 (stG 6 ((i:Int) + 1))]) (blk:=⟨70,6,[]⟩) (by simp +decide only [go_sem] <;> rfl) (by simp +decide only [go_sem] <;> rfl) (by simp +decide only [go_sem] <;> rfl) rfl Tryd.underlying66 el70 rfl rfl (by simp) (fun e he=>by rw [List.mem_singleton] at he;subst he;exact ⟨rfl,rfl⟩) (by first | (simp;done) | (simp;omega)) (by first | (simp;done) | (simp;omega))) ?_
    refine goB ?_
    exact .wf
   ·refine iff_ ?_ (decide_eq_false (by omega)) rfl
    rw [if_neg hin,if_neg hin]
    refine goB ?_
    exact .wf
  obtain ⟨L1,hL1⟩:∃ L1,L1 = (if i + 1 < n then [stG 6 ((i:Int) + 1)] else []):=⟨_,rfl⟩
  obtain ⟨q1,hq1⟩:∃ q1,q1 = (if i + 1 < n then 1 else 0):=⟨_,rfl⟩
  have hlq:L1.length = q1:=by rw [hL1,hq1];split <;> rfl
  have hq11:q1 ≤ 1:=by rw [hq1];split <;> omega
  rw [← hL1,← hq1]
  have hL1H:=Hid.mk hL1
  clear hL1 hq1
  refine goB ?_
  refine AWp.join ⟨[(1,.lst (sched.map .int)),(5,.int n),(6,.int k),(7,.int w),(8,.ptr 0 1 0 0),(9,.int i),(10,.ptr 2 1 0 0),(memSlot,.mem mm)],hsC i T1 (if i = 0 then q1 + w + 1 else q1) (if i = 0 then L1 ++ List.replicate w (stG 12 0) ++ [stG 10 0] else L1)⟩ ?_ ?_
  ·by_cases hi0:i = 0
   ·refine ift_ ?_ (decide_eq_true (by omega)) rfl
    rw [if_pos hi0,if_pos hi0]
    refine goB ?_
    refine AWp.loop (J:=fun t:Nat=>t ≤ w) (fun t=>⟨[(1,.lst (sched.map .int)),(5,.int n),(6,.int k),(7,.int w),(8,.ptr 0 1 0 0),(9,.int i),(10,.ptr 2 1 0 0),(11,.int t),(memSlot,.mem mm)],hsC i T1 (q1 + t) (L1 ++ List.replicate t (stG 12 0))⟩) (fun t=>w - t) 0 (Nat.zero_le _) (.wf (hH:=by simp)) ?_
    rintro t ht
    refine goB ?_
    by_cases htw:t < w
    ·refine ift_ ?_ (decide_eq_true (by omega)) rfl
     refine goB ?_
     refine bldA pl70 zero70 ?_
     refine goB ?_
     refine ARun.p1 rfl rfl (pl_append (b:=3) (tot:=q1 + t) (es:=[encS0 (stG 12 0)]) (blk:=⟨70,6,(L1 ++ List.replicate t (stG 12 0)).map encS0⟩) (by simp +decide only [go_sem] <;> rfl) (by simp +decide only [go_sem] <;> rfl) (by simp +decide only [go_sem] <;> rfl) (by simp [hlq]) Tryd.underlying66 el70 rfl rfl (by simp) (fun e he=>by rw [List.mem_singleton] at he;subst he;exact ⟨rfl,rfl⟩) (by first | (simp;done) | (simp;omega)) (by first | (simp;done) | (simp;omega))) ?_
     refine goB ?_
     rw [wrap_succ (by omega)]
     exact ⟨t + 1,by omega,by omega,.wf (hH:=by simp [List.replicate_succ'] <;> rfl)⟩
    ·have htw:t = w:=by omega
     subst htw
     refine iff_ ?_ (decide_eq_false (by omega)) rfl
     refine goB ?_
     refine bldA pl70 zero70 ?_
     refine goB ?_
     refine ARun.p1 rfl rfl (pl_append (b:=3) (tot:=q1 + t) (es:=[encS0 (stG 10 0)]) (blk:=⟨70,6,(L1 ++ List.replicate t (stG 12 0)).map encS0⟩) (by simp +decide only [go_sem] <;> rfl) (by simp +decide only [go_sem] <;> rfl) (by simp +decide only [go_sem] <;> rfl) (by simp [hlq]) Tryd.underlying66 el70 rfl rfl (by simp) (fun e he=>by rw [List.mem_singleton] at he;subst he;exact ⟨rfl,rfl⟩) (by first | (simp;done) | (simp;omega)) (by first | (simp;done) | (simp;omega))) ?_
     refine goB ?_
     exact .wf (hH:=by simp <;> rfl)
   ·refine iff_ ?_ (decide_eq_false (by omega)) rfl
    rw [if_neg hi0,if_neg hi0]
    refine goB ?_
    exact .wf
  obtain ⟨L2,hL2⟩:∃ L2,L2 = (if i = 0 then L1 ++ List.replicate w (stG 12 0) ++ [stG 10 0] else L1):=⟨_,rfl⟩
  obtain ⟨q2,hq2⟩:∃ q2,q2 = (if i = 0 then q1 + w + 1 else q1):=⟨_,rfl⟩
  have hlq2:L2.length = q2:=by rw [hL2,hq2];split <;> simp [hlq] <;> omega
  have hq22:q2 ≤ 11:=by rw [hq2];split <;> omega
  rw [← hL2,← hq2]
  have hL2H:=Hid.mk hL2
  clear hL2 hq2 hlq hq11
  refine goB ?_
  refine AWp.loop (J:=fun t:Nat=>t ≤ k ∧ (i = 0→t = 0)) (fun t=>⟨[(1,.lst (sched.map .int)),(5,.int n),(6,.int k),(7,.int w),(8,.ptr 0 1 0 0),(9,.int i),(10,.ptr 2 1 0 0),(12,.int t),(memSlot,.mem mm)],hsC i T1 (q2 + t) (L2 ++ List.replicate t (stG 11 0))⟩) (fun t=>k - t) 0 ⟨Nat.zero_le _,fun _=>rfl⟩ (.wf (hH:=by simp)) ?_
  rintro t ⟨ht,ht0⟩
  refine goB ?_
  by_cases htk:t < k ∧ 0 < i
  ·refine ift_ ?_ (by simp [htk.1,htk.2]) rfl
   have htk1:=htk.1
   refine goB ?_
   refine bldA pl70 zero70 ?_
   refine goB ?_
   refine ARun.p1 rfl rfl (pl_append (b:=3) (tot:=q2 + t) (es:=[encS0 (stG 11 0)]) (blk:=⟨70,6,(L2 ++ List.replicate t (stG 11 0)).map encS0⟩) (by simp +decide only [go_sem] <;> rfl) (by simp +decide only [go_sem] <;> rfl) (by simp +decide only [go_sem] <;> rfl) (by simp [hlq2]) Tryd.underlying66 el70 rfl rfl (by simp) (fun e he=>by rw [List.mem_singleton] at he;subst he;exact ⟨rfl,rfl⟩) (by first | (simp;done) | (simp;omega)) (by first | (simp;done) | (simp;omega))) ?_
   refine goB ?_
   rw [wrap_succ (by omega)]
   exact ⟨t + 1,⟨by omega,fun h=>by omega⟩,by omega,.wf (hH:=by simp [List.replicate_succ'] <;> rfl)⟩
  refine iff_ ?_ (by by_cases h1:t < k <;> by_cases h2:0 < i <;> simp [h1,h2] <;> omega) rfl
  obtain ⟨L3,hL3⟩:∃ L3,L3 = L2 ++ List.replicate t (stG 11 0):=⟨_,rfl⟩
  obtain ⟨q3,hq3⟩:∃ q3,q3 = q2 + t:=⟨_,rfl⟩
  have hlq3:L3.length = q3:=by rw [hL3,hq3];simp [hlq2]
  have hLC:L3 = chS n k w i:=by
   rw [hL3,hL2H.out,hL1H.out]
   unfold chS chB
   by_cases h0:i = 0
   ·rw [if_pos h0,if_pos h0,ht0 h0];simp
   ·have:t = k:=by omega
    rw [if_neg h0,if_neg h0,this]
  rw [← hL3,← hq3]
  clear hL3 hq3 htk ht0
  have hLCH:=Hid.mk hLC
  clear hLC
  refine AWp.weaken (s2:=⟨[(1,.lst (sched.map .int)),(5,.int n),(6,.int k),(7,.int w),(8,.ptr 0 1 0 0),(9,.int i),(10,.ptr 2 1 0 0),(memSlot,.mem mm)],[⟨24,3,[.agg [.own 1 i 0 i,nilS,.int 0]]⟩,T1,⟨68,3,[encC0 ⟨0,1,L3⟩]⟩]⟩) (Wk.selB [0,1,2] (by decide) (fun b hb=>absurd hb (Nat.not_lt_zero _)) ⟨⟨_,rfl,.one ⟨.own rfl,.pu (.base _),.pu (.base _),trivial⟩⟩,⟨_,rfl,.pu hT1p⟩,⟨_,rfl,.one ⟨.pu (.base _),.pu (.base _),.ownM (ty:=70) (sz:=6) (f:=encS0) rfl rfl hlq3 (fun x _=>pu_S0 x),trivial⟩⟩,trivial⟩ (WkR.all ⟨.pu (Pu_mapInt _),.pu (.base _),.pu (.base _),.pu (.base _),.ptr rfl,.pu (.base _),.ptr rfl,.pu (.mem _),trivial⟩)) ?_
  refine goB ?_
  have hT1:=hT1H.out
  subst hT1
  refine ARun.p1 rfl rfl (pl_append (b:=1) (tot:=i) (es:=[encC0 ⟨0,1,L3⟩]) (blk:=⟨68,3,(List.range i).map fun j=>encC0 (chC n k w j)⟩) (by simp +decide only [go_sem] <;> rfl) (by simp +decide only [go_sem] <;> rfl) (by simp +decide only [go_sem] <;> rfl) (by simp) Tryd.underlying22 el68 rfl rfl (by simp) (fun e he=>by rw [List.mem_singleton] at he;subst he;exact ⟨rfl,rfl⟩) (by simp;omega) (by simp;omega)) ?_
  refine goB ?_
  have hr:((List.range i).map fun j=>encC0 (chC n k w j)) ++ [encC0 ⟨0,1,L3⟩] = (List.range (i + 1)).map fun j=>encC0 (chC n k w j):=by
   rw [List.range_succ,List.map_append,hLCH.out];rfl
  rw [wrap_succ (by omega)]
  refine ⟨i + 1,by omega,by omega,?_⟩
  rw [hr]
  exact Wk.selB [0,1] (by decide) (fun b hb=>absurd hb (Nat.not_lt_zero _)) ⟨⟨_,rfl,.one ⟨.own rfl,.pu (.base _),.pu (.base _),trivial⟩⟩,⟨_,rfl,.pu fun e he c hc=>by
   obtain ⟨j,_,rfl⟩:=List.mem_map.1 he
   exact pu_C0 _ c hc⟩,trivial⟩ (WkR.all ⟨.pu (Pu_mapInt _),.pu (.base _),.pu (.base _),.pu (.base _),.ptr rfl,.pu (.base _),.pu (.mem _),trivial⟩)
 have hin:i = n:=by omega
 subst hin
 refine iff_ ?_ (decide_eq_false (by omega)) rfl
 refine AWp.weaken (s2:=⟨[(1,.lst (sched.map .int)),(5,.int i),(8,.ptr 0 1 0 0),(memSlot,.mem mm)],[⟨24,3,[chA i k w]⟩]⟩) (Wk.selB [0] (by decide) (fun b hb=>absurd hb (Nat.not_lt_zero _)) ⟨⟨_,rfl,.one ⟨.ownM (ty:=68) (sz:=3) (f:=fun j=>encC0 (chC i k w j)) rfl rfl (by simp) (fun x _=>pu_C0 _),.pu (.base _),.pu (.base _),trivial⟩⟩,trivial⟩ (WkR.all ⟨.pu (Pu_mapInt _),.pu (.base _),.ptr rfl,.pu (.mem _),trivial⟩)) ?_
 obtain ⟨hok,hl2,hln,hall⟩:=ch_end hn2 hn7 hk12 hw9 hs
 have irun0:=run_ok hmm hok
 have icn0:=canc_ok hmm hok
 obtain ⟨hRI,_⟩:=endF_ri hok
 rw [ranV_tr] at irun0
 obtain ⟨R,hR⟩:∃ R,R = endF (chP i k w) sched:=⟨_,rfl⟩
 rw [← hR] at irun0 icn0 hl2 hln hall
 clear hR hRI
 obtain ⟨N,hN⟩:∃ N,N = R.tasks.length:=⟨_,rfl⟩
 obtain ⟨S,hS⟩:∃ S,S = R.tasks.map (·.state):=⟨_,rfl⟩
 obtain ⟨P,hP⟩:∃ P,P = R.tasks.map (·.par):=⟨_,rfl⟩
 obtain ⟨C,hC⟩:∃ C,C = R.tasks.map (·.canc):=⟨_,rfl⟩
 have lS:S.length = N:=by rw [hS,List.length_map,hN]
 have lP:P.length = N:=by rw [hP,List.length_map,hN]
 have lC:C.length = N:=by rw [hC,List.length_map,hN]
 have hN2:2 ≤ N:=by omega
 have hNi:N ≤ i:=by omega
 have hfact:∀ j:Nat,j < N→nth 0 P j = (j:Int) - 1 ∧ (nth 0 S j = 3 ∨ (nth 0 S j = 4 ∧ nth false C j = true)) ∧ (j = 0→nth false C j = false):=fun j hj=>by
  obtain ⟨t,ht⟩:∃ t,R.tasks[j]? = some t:=⟨_,List.getElem?_eq_getElem (by omega)⟩
  rw [show nth 0 S j = t.state from nth_at (by rw [hS,List.getElem?_map,ht];rfl),show nth 0 P j = t.par from nth_at (by rw [hP,List.getElem?_map,ht];rfl),show nth false C j = t.canc from nth_at (by rw [hC,List.getElem?_map,ht];rfl)]
  exact hall j t ht
 have hD:(R.tasks.all fun t=>decide (3 ≤ t.state)) = true:=by
  rw [List.all_eq_true]
  intro t ht
  obtain ⟨j,hj⟩:=List.getElem?_of_mem ht
  exact decide_eq_true (by rcases (hall j t hj).2.1 with g | g <;> omega)
 have hE:trV R = ⟨R.lines,R.accs,S,P,true,R.turns.length⟩:=by rw [hS,hP,← hD];rfl
 rw [hE] at irun0
 rw [← hC] at icn0
 generalize R.lines = gz1 at irun0
 generalize R.accs = gz2 at irun0
 generalize R.turns.length = gz4 at irun0
 have hle:=chA_le i k w
 have irun:FnM Tryd.prog mm 17 [chA i k w,.lst (sched.map .int)] _:=irun0.le ⟨hle,.refl _,trivial⟩
 have icn:FnM Tryd.prog mm 18 [chA i k w,.lst (sched.map .int)] _:=icn0.le ⟨hle,.refl _,trivial⟩
 have hpA:∀ x ∈ [chA i k w,AV.lst (sched.map .int)],Pu x:=fun x hx=>by
  simp only [List.mem_cons,List.not_mem_nil,or_false] at hx
  rcases hx with rfl | rfl
  ·exact pu_chA i k w
  ·exact Pu_mapInt _
 clear hE hS hP hC hD hN hall irun0 icn0 hle hok hl2 hln
 refine goB ?_
 refine callA irun ?_ (hp:=hpA)
 refine goB ?_
 refine callA icn ?_ (hp:=hpA)
 refine goB ?_
 refine iff_ ?_ ?_ rfl
 rotate_left
 ·have d1:decide ((S.length:Int) > (i:Int)) = false:=decide_eq_false (by omega)
  have d2:decide ((S.length:Int) < 2) = false:=decide_eq_false (by omega)
  rw [d1,d2]
  simp [lS,lC]
 refine goB ?_
 refine AWp.loop (J:=fun j:Nat=>j ≤ N) (fun j=>⟨[(13,.ptr 1 1 0 0),(15,.lst (C.map bolV)),(17,.int j),(memSlot,.mem mm)],[⟨24,3,[chA i k w]⟩,⟨32,6,[encR ⟨gz1,gz2,S,P,true,gz4⟩]⟩]⟩) (fun j=>N - j) 0 (Nat.zero_le _) .wf ?_
 rintro j hj
 have hwj:IntKind.i64.wrap ((j:Int) - 1) = (j:Int) - 1:=wrap_id (by omega) (by omega)
 refine goB ?_
 by_cases hlt:j < N
 ·refine ift_ ?_ (decide_eq_true (by omega)) rfl
  obtain ⟨f1,f2,f3⟩:=hfact j hlt
  obtain ⟨_,f20,f30⟩:=hfact 0 (by omega)
  refine goB ?_
  rw [hwj]
  refine gqA (h:=fun hg=>ql_idxD (l:=S) (f:=AV.int) 0 (by simp +decide only [go_sem] <;> rfl) (by simp +decide only [go_sem] <;> rfl) Tryd.underlying25 (by omega) (by omega) (by kernel_rfl)) (hr:=?_)
  refine goB ?_
  refine gqA (h:=fun hg=>ql_idxD (l:=S) (f:=AV.int) 0 (by simp +decide only [go_sem] <;> rfl) (by simp +decide only [go_sem] <;> rfl) Tryd.underlying25 (by omega) (by omega) (by kernel_rfl)) (hr:=?_)
  refine goB ?_
  refine gqA (h:=fun hg=>ql_idxD (l:=C) (f:=bolV) false (by simp +decide only [go_sem] <;> rfl) (by simp +decide only [go_sem] <;> rfl) Tryd.underlying36 (by omega) (by omega) (by kernel_rfl)) (hr:=?_)
  refine goB ?_
  refine gqA (h:=fun hg=>ql_idxD (l:=S) (f:=AV.int) 0 (by simp +decide only [go_sem] <;> rfl) (by simp +decide only [go_sem] <;> rfl) Tryd.underlying25 (by omega) (by omega) (by kernel_rfl)) (hr:=?_)
  refine goB ?_
  refine gqA (h:=fun hg=>ql_idxD (l:=S) (f:=AV.int) 0 (by simp +decide only [go_sem] <;> rfl) (by simp +decide only [go_sem] <;> rfl) Tryd.underlying25 (by omega) (by omega) (by kernel_rfl)) (hr:=?_)
  refine goB ?_
  refine gqA (h:=fun hg=>ql_idxD (l:=C) (f:=bolV) false (by simp +decide only [go_sem] <;> rfl) (by simp +decide only [go_sem] <;> rfl) Tryd.underlying36 (by omega) (by omega) (by kernel_rfl)) (hr:=?_)
  refine goB ?_
  have s0:nth 0 S 0 = 3:=by
   rcases f20 with g | ⟨_,g⟩
   ·exact g
   ·rw [f30 rfl] at g;cases g
  have c0:nth false C 0 = false:=f30 rfl
  refine iff_ ?_ ?_ rfl
  rotate_left
  ·rw [f1,s0,c0]
   rcases f2 with g | ⟨g,gc⟩
   ·rw [g];cases nth false C j <;> by_cases h0:(j:Int) = 0 <;> simp [h0]
   ·rw [g,gc];by_cases h0:(j:Int) = 0 <;> simp [h0]
  refine goB ?_
  rw [hwj]
  refine gqA (h:=fun hg=>ql_idxD (l:=C) (f:=bolV) false (by simp +decide only [go_sem] <;> rfl) (by simp +decide only [go_sem] <;> rfl) Tryd.underlying36 (by simp [gc,allL] at hg;omega) (by simp [gc,allL] at hg;omega) (by kernel_rfl)) (hr:=?_)
  refine goB ?_
  refine gqA (h:=fun hg=>ql_idxD (l:=C) (f:=bolV) false (by simp +decide only [go_sem] <;> rfl) (by simp +decide only [go_sem] <;> rfl) Tryd.underlying36 (by simp [gc,allL] at hg;omega) (by simp [gc,allL] at hg;omega) (by kernel_rfl)) (hr:=?_)
  refine goB ?_
  refine gqA (h:=fun hg=>ql_idxD (l:=S) (f:=AV.int) 0 (by simp +decide only [go_sem] <;> rfl) (by simp +decide only [go_sem] <;> rfl) Tryd.underlying25 (by simp [gc,allL] at hg;omega) (by simp [gc,allL] at hg;omega) (by kernel_rfl)) (hr:=?_)
  refine goB ?_
  refine gqA (h:=fun hg=>ql_idxD (l:=S) (f:=AV.int) 0 (by simp +decide only [go_sem] <;> rfl) (by simp +decide only [go_sem] <;> rfl) Tryd.underlying25 (by simp [gc,allL] at hg;omega) (by simp [gc,allL] at hg;omega) (by kernel_rfl)) (hr:=?_)
  refine goB ?_
  refine iff_ ?_ ?_ rfl
  rotate_left
  ·rcases f2 with g | ⟨g,gc⟩
   ·rw [g];simp
   ·rw [gc];simp
  refine goB ?_
  rw [wrap_succ (by omega)]
  exact ⟨j + 1,by omega,by omega,.wf⟩
 refine iff_ ?_ (decide_eq_false (by omega)) rfl
 refine goB ?_
 refine callA (iam) ?_
 refine goB ?_
 exact Ret.data (vs:=[.bool true]) rfl rfl (.base _)
end Go.Ab
