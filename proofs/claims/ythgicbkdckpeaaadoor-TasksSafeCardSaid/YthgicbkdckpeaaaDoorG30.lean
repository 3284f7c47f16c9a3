/- Part of the proof. -/
import Derived.Test.YthgicbkdckpeaaaDoorG29
import Derived.Test.YthgicbkdckpeaaaDoorG13
set_option linter.unusedSimpArgs false
set_option linter.unusedVariables false
set_option maxHeartbeats 4000000
namespace Go.Ab
open Go Go.Ab Go.Proofs Go.Ab.Ty Go.RowKit
theorem new_ok {p:Tk} {sched:List Int} {cd:Cd} {na np:Nat} (hna:p.actors=na) (hna2:na≤100) (hcd:p.codes[0]?=some cd) (hnp:cd.params=np) (hnp2:np≤1000) (hv:(np:Int)≤cd.vars) (hv1:cd.vars≤1000) (hcs:cd.steps.length≤1000) (hsl:sched.length≤1000000) :
 FnH Tryd.prog 60 [encT p,.lst (sched.map .int)] [] ptR (HH (newF p sched cd)):=by
 obtain ⟨co,me,ac⟩:=p
 simp only at hna hcd
 subst hna
 have Pu_cells:∀ {c:AV},c∈(encT ⟨co,me,na⟩).cells→Pu c:=fun {c} hc=>Rg.Pu_cellsT _ c hc
 refine FnH.intro' [(0,encT ⟨co,me,na⟩),(1,.lst (sched.map .int))] 2 81 0 Tryd.func60 (by kernel_rfl) rfl rfl rfl rfl rfl rfl ?_
 refine AWp.seq ?_
 refine AWp.join ⟨[(1,.lst (sched.map .int)),(2,.iptr (encT ⟨co,me,na⟩) 0),(0,encT ⟨co,me,na⟩),(4,.base (.pointer none))],[]⟩ ?_ ?_
 ·refine reS ?_
  refine goF ?_
  refine Wk.selB [] List.nodup_nil (fun b hb=>by simp at hb) trivial (WkR.all ⟨.pu (Pu_mapInt _),.iptr rfl rfl rfl rfl ⟨.pu (Pu_mapC _),.pu (Pu_mapC _),.pu (.base _),trivial⟩,(PubR.pu (Pu_encT ⟨co,me,na⟩)),.pu (.base _),trivial⟩)
 refine goF ?_
 refine bldA (cs:=[.lst (co.map encC),.lst (me.map encC),.int na,.lst (sched.map .int),.int 0,nilS,nilS,nilS,nilS,nilS,nilS,nilS,nilS]) pl83 zero83 ?_
 refine goF ?_
 refine AWp.weaken (Wk.nilC (E2:=[(1,.lst (sched.map .int)),(2,.iptr (encT ⟨co,me,na⟩) 0),(4,.base (.pointer none)),(5,.ptr 0 1 0 0),(15,.int na),(16,.int 0)]) (H2:=[⟨83,13,[.agg [.lst (co.map encC),.lst (me.map encC),.int na,.lst (sched.map .int),.int 0,.own 1 0 0 0,nilS,nilS,nilS,nilS,nilS,nilS,nilS]]⟩]) 157 2 ⟨.one ⟨.pu (Pu_mapC _),.pu (Pu_mapC _),.pu (.base _),.pu (Pu_mapInt _),.pu (.base _),.nil rfl,.pu (.base _),.pu (.base _),.pu (.base _),.pu (.base _),.pu (.base _),.pu (.base _),.pu (.base _),trivial⟩,trivial⟩ ⟨.pu (Pu_mapInt _),.pu (.iptr fun c hc=>Pu_cells hc),.pu (.base _),.ptr,.pu (.base _),.pu (.base _),trivial⟩) ?_
 refine AWp.weaken (Wk.nilC (E2:=[(1,.lst (sched.map .int)),(2,.iptr (encT ⟨co,me,na⟩) 0),(4,.base (.pointer none)),(5,.ptr 0 1 0 0),(15,.int na),(16,.int 0)]) (H2:=[⟨83,13,[.agg [.lst (co.map encC),.lst (me.map encC),.int na,.lst (sched.map .int),.int 0,.own 1 0 0 0,.own 2 0 0 0,nilS,nilS,nilS,nilS,nilS,nilS]]⟩,⟨157,2,[]⟩]) 84 1 ⟨.one ⟨.pu (Pu_mapC _),.pu (Pu_mapC _),.pu (.base _),.pu (Pu_mapInt _),.pu (.base _),.own,.nil rfl,.pu (.base _),.pu (.base _),.pu (.base _),.pu (.base _),.pu (.base _),.pu (.base _),trivial⟩,.pu (fun e he=>by simp at he),trivial⟩ ⟨.pu (Pu_mapInt _),.pu (.iptr fun c hc=>Pu_cells hc),.pu (.base _),.ptr,.pu (.base _),.pu (.base _),trivial⟩) ?_
 refine AWp.weaken (Wk.nilC (E2:=[(1,.lst (sched.map .int)),(2,.iptr (encT ⟨co,me,na⟩) 0),(4,.base (.pointer none)),(5,.ptr 0 1 0 0),(15,.int na),(16,.int 0)]) (H2:=[⟨83,13,[.agg [.lst (co.map encC),.lst (me.map encC),.int na,.lst (sched.map .int),.int 0,.own 1 0 0 0,.own 2 0 0 0,.own 3 0 0 0,nilS,nilS,nilS,nilS,nilS]]⟩,⟨157,2,[]⟩,⟨84,1,[]⟩]) 9 1 ⟨.one ⟨.pu (Pu_mapC _),.pu (Pu_mapC _),.pu (.base _),.pu (Pu_mapInt _),.pu (.base _),.own,.own,.nil rfl,.pu (.base _),.pu (.base _),.pu (.base _),.pu (.base _),.pu (.base _),trivial⟩,.pu (fun e he=>by simp at he),.pu (fun e he=>by simp at he),trivial⟩ ⟨.pu (Pu_mapInt _),.pu (.iptr fun c hc=>Pu_cells hc),.pu (.base _),.ptr,.pu (.base _),.pu (.base _),trivial⟩) ?_
 refine AWp.weaken (Wk.nilC (E2:=[(1,.lst (sched.map .int)),(2,.iptr (encT ⟨co,me,na⟩) 0),(4,.base (.pointer none)),(5,.ptr 0 1 0 0),(15,.int na),(16,.int 0)]) (H2:=[⟨83,13,[.agg [.lst (co.map encC),.lst (me.map encC),.int na,.lst (sched.map .int),.int 0,.own 1 0 0 0,.own 2 0 0 0,.own 3 0 0 0,.own 4 0 0 0,nilS,nilS,nilS,nilS]]⟩,⟨157,2,[]⟩,⟨84,1,[]⟩,⟨9,1,[]⟩]) 73 4 ⟨.one ⟨.pu (Pu_mapC _),.pu (Pu_mapC _),.pu (.base _),.pu (Pu_mapInt _),.pu (.base _),.own,.own,.own,.nil rfl,.pu (.base _),.pu (.base _),.pu (.base _),.pu (.base _),trivial⟩,.pu (fun e he=>by simp at he),.pu (fun e he=>by simp at he),.pu (fun e he=>by simp at he),trivial⟩ ⟨.pu (Pu_mapInt _),.pu (.iptr fun c hc=>Pu_cells hc),.pu (.base _),.ptr,.pu (.base _),.pu (.base _),trivial⟩) ?_
 refine AWp.weaken (Wk.nilC (E2:=[(1,.lst (sched.map .int)),(2,.iptr (encT ⟨co,me,na⟩) 0),(4,.base (.pointer none)),(5,.ptr 0 1 0 0),(15,.int na),(16,.int 0)]) (H2:=[⟨83,13,[.agg [.lst (co.map encC),.lst (me.map encC),.int na,.lst (sched.map .int),.int 0,.own 1 0 0 0,.own 2 0 0 0,.own 3 0 0 0,.own 4 0 0 0,.own 5 0 0 0,nilS,nilS,nilS]]⟩,⟨157,2,[]⟩,⟨84,1,[]⟩,⟨9,1,[]⟩,⟨73,4,[]⟩]) 3 1 ⟨.one ⟨.pu (Pu_mapC _),.pu (Pu_mapC _),.pu (.base _),.pu (Pu_mapInt _),.pu (.base _),.own,.own,.own,.own,.nil rfl,.pu (.base _),.pu (.base _),.pu (.base _),trivial⟩,.pu (fun e he=>by simp at he),.pu (fun e he=>by simp at he),.pu (fun e he=>by simp at he),.pu (fun e he=>by simp at he),trivial⟩ ⟨.pu (Pu_mapInt _),.pu (.iptr fun c hc=>Pu_cells hc),.pu (.base _),.ptr,.pu (.base _),.pu (.base _),trivial⟩) ?_
 refine AWp.weaken (Wk.nilC (E2:=[(1,.lst (sched.map .int)),(2,.iptr (encT ⟨co,me,na⟩) 0),(4,.base (.pointer none)),(5,.ptr 0 1 0 0),(15,.int na),(16,.int 0)]) (H2:=[⟨83,13,[.agg [.lst (co.map encC),.lst (me.map encC),.int na,.lst (sched.map .int),.int 0,.own 1 0 0 0,.own 2 0 0 0,.own 3 0 0 0,.own 4 0 0 0,.own 5 0 0 0,.own 6 0 0 0,nilS,nilS]]⟩,⟨157,2,[]⟩,⟨84,1,[]⟩,⟨9,1,[]⟩,⟨73,4,[]⟩,intB []]) 25 1 ⟨.one ⟨.pu (Pu_mapC _),.pu (Pu_mapC _),.pu (.base _),.pu (Pu_mapInt _),.pu (.base _),.own,.own,.own,.own,.own,.nil rfl,.pu (.base _),.pu (.base _),trivial⟩,.pu (fun e he=>by simp at he),.pu (fun e he=>by simp at he),.pu (fun e he=>by simp at he),.pu (fun e he=>by simp at he),.pu (fun e he=>by simp at he),trivial⟩ ⟨.pu (Pu_mapInt _),.pu (.iptr fun c hc=>Pu_cells hc),.pu (.base _),.ptr,.pu (.base _),.pu (.base _),trivial⟩) ?_
 refine AWp.weaken (Wk.nilC (E2:=[(1,.lst (sched.map .int)),(2,.iptr (encT ⟨co,me,na⟩) 0),(4,.base (.pointer none)),(5,.ptr 0 1 0 0),(15,.int na),(16,.int 0)]) (H2:=[⟨83,13,[.agg [.lst (co.map encC),.lst (me.map encC),.int na,.lst (sched.map .int),.int 0,.own 1 0 0 0,.own 2 0 0 0,.own 3 0 0 0,.own 4 0 0 0,.own 5 0 0 0,.own 6 0 0 0,.own 7 0 0 0,nilS]]⟩,⟨157,2,[]⟩,⟨84,1,[]⟩,⟨9,1,[]⟩,⟨73,4,[]⟩,intB [],⟨25,1,[]⟩]) 25 1 ⟨.one ⟨.pu (Pu_mapC _),.pu (Pu_mapC _),.pu (.base _),.pu (Pu_mapInt _),.pu (.base _),.own,.own,.own,.own,.own,.own,.nil rfl,.pu (.base _),trivial⟩,.pu (fun e he=>by simp at he),.pu (fun e he=>by simp at he),.pu (fun e he=>by simp at he),.pu (fun e he=>by simp at he),.pu (fun e he=>by simp at he),.pu (fun e he=>by simp at he),trivial⟩ ⟨.pu (Pu_mapInt _),.pu (.iptr fun c hc=>Pu_cells hc),.pu (.base _),.ptr,.pu (.base _),.pu (.base _),trivial⟩) ?_
 refine AWp.weaken (Wk.nilC (E2:=[(1,.lst (sched.map .int)),(2,.iptr (encT ⟨co,me,na⟩) 0),(4,.base (.pointer none)),(5,.ptr 0 1 0 0),(15,.int na),(16,.int 0)]) (H2:=[⟨83,13,[.agg [.lst (co.map encC),.lst (me.map encC),.int na,.lst (sched.map .int),.int 0,.own 1 0 0 0,.own 2 0 0 0,.own 3 0 0 0,.own 4 0 0 0,.own 5 0 0 0,.own 6 0 0 0,.own 7 0 0 0,.own 8 0 0 0]]⟩,⟨157,2,[]⟩,⟨84,1,[]⟩,⟨9,1,[]⟩,⟨73,4,[]⟩,intB [],⟨25,1,[]⟩,⟨25,1,[]⟩]) 25 1 ⟨.one ⟨.pu (Pu_mapC _),.pu (Pu_mapC _),.pu (.base _),.pu (Pu_mapInt _),.pu (.base _),.own,.own,.own,.own,.own,.own,.own,.nil rfl,trivial⟩,.pu (fun e he=>by simp at he),.pu (fun e he=>by simp at he),.pu (fun e he=>by simp at he),.pu (fun e he=>by simp at he),.pu (fun e he=>by simp at he),.pu (fun e he=>by simp at he),.pu (fun e he=>by simp at he),trivial⟩ ⟨.pu (Pu_mapInt _),.pu (.iptr fun c hc=>Pu_cells hc),.pu (.base _),.ptr,.pu (.base _),.pu (.base _),trivial⟩) ?_
 obtain ⟨T,hT1,hT2⟩:=HH_newT ⟨co,me,na⟩ sched
 refine AWp.weaken (Wk.pad (fun q hq=>by
  simp only [List.mem_cons,List.not_mem_nil,or_false] at hq
  rcases hq with rfl|rfl|rfl|rfl|rfl|rfl<;>exact .refl _) T hT1) ?_
 refine AWp.weaken (s2:=⟨[(1,.lst (sched.map .int)),(2,.iptr (encT ⟨co,me,na⟩) 0),(4,.base (.pointer none)),(5,ptR),(15,.int na),(16,.int 0)],HH (nwS ⟨co,me,na⟩ sched 0 0 [])⟩) (by rw [← hT2];exact .refl _) ?_
 clear hT1 hT2
 have hI:∀ {no a:Nat} {pool:List (List Int)},no≤1000000→a≤pool.length→a≤1000→pool.length≤1000→(∀l∈pool,l.length=32)→Iv (nwS ⟨co,me,na⟩ sched no a pool):=fun h1 h2 h3 h5 h6=>nwS_iv h1 h2 h3 hsl (by rw [MM_eq];omega) h6
 refine AWp.loop (J:=fun i:Nat=>i≤na) (fun i=>⟨[(1,.lst (sched.map .int)),(2,.iptr (encT ⟨co,me,na⟩) 0),(4,.base (.pointer none)),(5,ptR),(15,.int na),(16,.int i)],HH (nwS ⟨co,me,na⟩ sched i i (List.replicate i z32))⟩) (fun i=>na-i) 0 (Nat.zero_le _) .wf ?_
 rintro i hi
 by_cases hlt:i<na
 ·have hd:decide ((i:Int)<(na:Int))=true:=decide_eq_true (by omega)
  obtain ⟨s,hs⟩:∃s,s=nwS ⟨co,me,na⟩ sched i i (List.replicate i z32):=⟨_,rfl⟩
  have hp32:∀ {k:Nat},∀l∈List.replicate k z32,l.length=32:=fun l hl=>by rw [List.eq_of_mem_replicate hl];rfl
  have hw:WF s:=by rw [hs];exact (hI (by omega) (by simp) (by omega) (by simp;omega) hp32).wf
  have hw2:WF (s.mkO 0):=by rw [hs,nwS_mkO];exact (hI (by omega) (by simp) (by omega) (by simp;omega) hp32).wf
  have hob:s.objs.length≤900000:=by rw [hs];simp [nwS];omega
  have hlen:=HH_len s
  have is:=object_ok hw 0 hob
  obtain ⟨s2,hs2⟩:∃s2,s2=s.mkO 0:=⟨_,rfl⟩
  obtain ⟨sP,hsP⟩:∃sP,sP=s2.addP z32:=⟨_,rfl⟩
  rw [← hs2] at is hw2
  rw [← hs]
  have hs':=Hid.mk hs
  have hs2':=Hid.mk hs2
  have hsP':=Hid.mk hsP
  clear hs hs2 hsP
  refine goF ?_
  refine ift_ ?_ rfl (by simp +decide only [go_sem, *]<;>rfl)
  refine goF ?_
  refine ARun.p1 rfl rfl (pl_callR0 hw hw2 is rfl (by simp +decide only [go_sem, *]<;>rfl) (by simp +decide only [go_sem, *]<;>rfl) (by
   intro a ha
   simp only [List.mem_cons,List.not_mem_nil,or_false] at ha
   rcases ha with rfl|rfl
   ·exact .ptr ixl_rn
   ·exact .pu (.base _)) (.pu (.base _))) ?_
  refine rcS ?_
  refine zOut' ?_
  have hpl2:s2.pool.length<MM:=by rw [hs2'.out,hs'.out,MM_eq];simp [PRun.mkO,nwS];omega
  have hac2:s2.acts.length≤1000:=by rw [hs2'.out,hs'.out];simp [PRun.mkO,nwS];omega
  have hPa:sP.acts=s2.acts:=by rw [hsP'.out];rfl
  have hmk:∀(ρ:Operand→AV) (x y:Operand),ρ x=.int 32→ρ y=.int 32→PL Tryd.prog (HH s2) ρ (.makeSlice 25 x y) (ownC s2.pool.length) (HH sP):=fun ρ x y hx hy=>by
   rw [hsP'.out];exact pl_mkClk0 hw2 hpl2 hx hy
  obtain ⟨s8,hs8⟩:∃s8,s8=addAct sP s2.pool.length:=⟨_,rfl⟩
  have hset:=HH_act (s:=sP) (k:=s2.pool.length)
  have hr:rnB (addAct sP s2.pool.length)=⟨83,13,[.agg [.lst (sP.p.codes.map encC),.lst (sP.p.methods.map encC),.int sP.p.actors,.lst (sP.sched.map .int),.int sP.used,.own (ix .ob) sP.objs.length 0 sP.objs.length,.own (ix .tk) sP.tasks.length 0 sP.tasks.length,.own (ix .ln) sP.lines.length 0 sP.lines.length,.own (ix .ac) sP.accs.length 0 sP.accs.length,.own (ix .tn) sP.turns.length 0 sP.turns.length,.own (ix .ck) sP.cks.length 0 sP.cks.length,.own (ix .en) sP.ends.length 0 sP.ends.length,.own (ix .at') (s2.acts.length+1) 0 (s2.acts.length+1)]]⟩:=by
   simp only [rnB,addAct,List.length_append,List.length_singleton,hPa]
  rw [hr,← hs8,hPa] at hset
  obtain ⟨LC,hLC⟩:∃LC,LC=(HH sP).set (ix .at') ⟨25,1,s2.acts.map ownC++[ownC s2.pool.length]⟩:=⟨_,rfl⟩
  have hLl:LC.length=NN:=by rw [hLC,set_len,HH_len]
  have hLr:LC[ix .rn]?=some (rnB sP):=by rw [hLC,set_get (HH_len sP) ixl_at,if_neg (by simp),HH_get sP _ ixl_rn];rfl
  simp only [rnB,hPa] at hLr
  rw [← hLC] at hset
  have h8:s8=nwS ⟨co,me,na⟩ sched (i+1) (i+1) (List.replicate (i+1) z32):=by
   have e1:s2=nwS ⟨co,me,na⟩ sched (i+1) i (List.replicate i z32):=by rw [hs2'.out,hs'.out,nwS_mkO]
   have e2:s2.pool.length=i:=by rw [e1];simp [nwS]
   rw [hs8,hsP'.out,e2,e1,nwS_addP,nwS_addAct,List.replicate_succ']
  have hs8':=Hid.mk hs8
  have hLC':=Hid.mk hLC
  have h8':=Hid.mk h8
  have hlenP:=HH_len sP
  have hlen2:=HH_len s2
  clear hs8 hLC hr h8 hw hw2 is
  refine drS2 (k:=8) [none,none,none,none,none,some 0,none,some 1] (fun k=>match k with
   | 0=>HH s2
   | 1=>HH sP
   | _=>LC) 2 follows ?_
  refine gS2 ?_
  refine gS2 ?_
  refine gS2 ?_
  refine gS2 ?_
  refine gS2 ?_
  refine GRun.p1 (v:=ownC s2.pool.length) rfl rfl (fun ρ' h=>hmk ρ' _ _ ((h (.const (.int .i64 32)) (by simp [Op.operands])).trans rfl) ((h (.const (.int .i64 32)) (by simp [Op.operands])).trans rfl)) ?_
  refine GRun.q1 (v:=.lst [ownC s2.pool.length]) rfl rfl (fun c _=>ql_bsl Tryd.underlying81 sz25 (by decide) (by kernel_rfl) (by decide) (by (simp +decide only [List.map,go_sem]<;>rfl)) (by (simp +decide only [List.map,go_sem]<;>rfl)) rfl) ?_
  refine GRun.p1 (v:=.own (ix .at') (s2.acts.length+1) 0 (s2.acts.length+1)) rfl rfl (fun ρ' h=>?_) ?_
  ·have h1:=pl_append (P:=Tryd.prog) (ρ:=ρ') (H:=HH sP) (b:=ix .at') (tot:=s2.acts.length) (es:=[ownC s2.pool.length]) (blk:=⟨25,1,s2.acts.map ownC⟩) ((h (.tmp 24) (by simp [Op.operands,Call.operands])).trans (by simp +decide only [go_sem, *]<;>rfl)) ((h (.tmp 26) (by simp [Op.operands,Call.operands])).trans (by simp +decide only [go_sem, *]<;>rfl)) (by simp +decide only [go_sem, *]<;>rfl) (by simp) Tryd.underlying81 el25 rfl rfl (by simp) (fun e he=>by rw [List.mem_singleton] at he;subst he;exact ⟨rfl,rfl⟩) (by simp;omega) (by simp;omega)
   rw [← hLC'.out] at h1
   exact h1
  refine GRun.nil ?_
  refine goF ?_
  rw [wrap_succ (by omega)]
  refine ⟨i+1,by omega,by omega,?_⟩
  rw [← h8'.out]
  exact .wf (hH:=by simp +decide only [go_sem, *]<;>rfl)
 have hin:na=i:=by omega
 subst hin
 have hd:decide ((na:Int)<(na:Int))=false:=decide_eq_false (by omega)
 have hp32:∀ {k:Nat} {x:Int},∀l∈List.replicate k (List.replicate 32 x),l.length=32:=fun l hl=>by rw [List.eq_of_mem_replicate hl];simp
 have hcdm:(co.map encC)[0]?=some (encC cd):=by rw [List.getElem?_map,hcd];rfl
 obtain ⟨S,hS⟩:∃S:Nat→PRun,S=fun k=>nwS ⟨co,me,na⟩ sched (na+k) na (List.replicate na z32):=⟨_,rfl⟩
 have hw:∀k,k≤np→WF (S k):=fun k hk=>by rw [hS];exact (hI (by omega) (by simp) (by omega) (by simp;omega) hp32).wf
 have hlen:∀k,(HH (S k)).length=NN:=fun k=>HH_len _
 have hnx:∀k,(S k).mkO 0=S (k+1):=fun k=>by rw [hS];exact nwS_mkO
 have hol:∀k,(S k).objs.length=na+k:=fun k=>by rw [hS];simp [nwS]
 have hS0:nwS ⟨co,me,na⟩ sched na na (List.replicate na z32)=S 0:=by rw [hS];rfl
 rw [hS0]
 have hS':=Hid.mk hS
 clear hS hS0
 refine goF ?_
 refine iff_ ?_ rfl (by simp +decide only [go_sem, *]<;>rfl)
 refine goF ?_
 refine ARun.q1 rfl rfl (ql_indexAddr_lst (by simp +decide only [go_sem, *]<;>rfl) (by simp +decide only [go_sem, *]<;>rfl) Tryd.underlying22 (by omega) (e:=encC cd) (by exact hcdm) (by kernel_rfl)) ?_
 refine goF ?_
 refine AWp.weaken (Wk.nilC (E2:=[(2,.iptr (encT ⟨co,me,na⟩) 0),(5,ptR),(6,.own NN 0 0 0),(35,.int np),(36,.int 0)]) (H2:=HH (S 0)) 3 1 (NilB.rf (S:=(·<NN)) (HH_rn (hw 0 (by omega)))) ⟨.pu (.iptr fun c hc=>Pu_cells hc),.ptr,.nil (hlen 0),.pu (.base _),.pu (.base _),trivial⟩) ?_
 refine AWp.loop (J:=fun k:Nat=>k≤np) (fun k=>⟨[(2,.iptr (encT ⟨co,me,na⟩) 0),(5,ptR),(6,.own NN k 0 k),(35,.int np),(36,.int k)],HH (S k)++[intB (varsN na k)]⟩) (fun k=>np-k) 0 (Nat.zero_le _) .wf ?_
 rintro k hk
 by_cases hlt2:k<np
 ·have hd2:decide ((k:Int)<(np:Int))=true:=decide_eq_true (by omega)
  have is:=object_ok (hw k hk) 0 (by rw [hol];omega)
  rw [hnx,hol] at is
  have hwk:=hw k hk
  have hwn:=hw (k+1) (by omega)
  have hlk:=hlen k
  have hln:=hlen (k+1)
  have hvl:(varsN na k).length=k:=by simp [varsN]
  have hvs:intB (varsN na (k+1))=⟨3,1,(varsN na k).map AV.int++[.int ((na+k:Nat):Int)]⟩:=by simp [varsN,List.range_succ]
  clear hd
  refine goF ?_
  refine ift_ ?_ rfl (by simp +decide only [go_sem, *]<;>rfl)
  refine goF ?_
  refine ARun.p1 rfl rfl (pl_callR hwk hwn (T:=[intB (varsN na k)]) is rfl (by simp +decide only [go_sem, *]<;>rfl) (by simp +decide only [go_sem, *]<;>rfl) (by
   intro a ha
   simp only [List.mem_cons,List.not_mem_nil,or_false] at ha
   rcases ha with rfl|rfl
   ·exact .ptr ixl_rn
   ·exact .pu (.base _)) (.pu (.base _))) ?_
  refine goF ?_
  refine ARun.p1 rfl rfl (pl_append (b:=NN) (tot:=k) (es:=[.int ((na+k:Nat):Int)]) (blk:=intB (varsN na k)) (by simp +decide only [go_sem, *]<;>rfl) (by simp +decide only [go_sem, *]<;>rfl) (by simp +decide only [go_sem, *]<;>rfl) (by simp [hvl]) Tryd.underlying25 el3 rfl rfl (by simp) (fun e he=>by rw [List.mem_singleton] at he;subst he;exact ⟨rfl,rfl⟩) (by simp;omega) (by simp;omega)) ?_
  refine goF ?_
  rw [wrap_succ (by omega)]
  refine ⟨k+1,by omega,by omega,?_⟩
  exact .wf (hH:=by rw [hvs])
 have hkn:np=k:=by omega
 subst hkn
 have hd2:decide ((np:Int)<(np:Int))=false:=decide_eq_false (by omega)
 have hwk:=hw np (by omega)
 have hlk:=hlen np
 have hvl:(varsN na np).length=np:=by simp [varsN]
 obtain ⟨s,hs⟩:∃s,s=S np:=⟨_,rfl⟩
 rw [← hs] at hwk hlk ⊢
 have hsS:s=nwS ⟨co,me,na⟩ sched (na+np) na (List.replicate na z32):=by rw [hs,hS'.out]
 have hsH:=Hid.mk hsS
 have hpl:s.pool.length=na:=by rw [hsS];simp [nwS]
 have hacl:s.acts.length=na:=by rw [hsS];simp [nwS]
 obtain ⟨sP,hsP⟩:∃sP,sP=s.addP z32:=⟨_,rfl⟩
 have hmk:∀(ρ:Operand→AV) (x y:Operand),ρ x=.int 32→ρ y=.int 32→PL Tryd.prog (HH s++[intB (varsN na np)]) ρ (.makeSlice 25 x y) (ownC na) (HH sP++[intB (varsN na np)]):=fun ρ x y hx hy=>by
  have:=pl_mkClk hwk (T:=[intB (varsN na np)]) (by rw [hpl,MM_eq];omega) hx hy (one_rf intB_rf)
  rw [hpl,← hsP] at this
  exact this
 obtain ⟨U,hU⟩:∃U:List Int→PRun,U=fun l=>nwS ⟨co,me,na⟩ sched (na+np) na (List.replicate na z32++[l]):=⟨_,rfl⟩
 have hU0:sP=U z32:=by rw [hsP,hsS,hU];rfl
 have hnM:na<MM:=by rw [MM_eq];omega
 have hcn:ix (.clk na)<NN:=ix_lt hnM
 have hUw:∀l:List Int,l.length=32→WF (U l):=fun l hl=>by
  rw [hU]
  refine (hI (by omega) (by simp) (by omega) (by simp;omega) fun x hx=>?_).wf
  rcases List.mem_append.1 hx with hx|hx
  ·exact hp32 x hx
  ·rw [List.mem_singleton] at hx;subst hx;exact hl
 have hUg:∀l:List Int,(HH (U l))[ix (.clk na)]?=some (intB l):=fun l=>by
  rw [HH_get _ _ hcn];simp only [blk];rw [hU];simp [nwS]
 have hUs:∀l l':List Int,(HH (U l)).set (ix (.clk na)) (intB l')=HH (U l'):=fun l l'=>by
  rw [HH_pset (s:=U l) (x:=na) (l:=l') (by rw [hU];simp [nwS]) hcn,hU];simp [nwS]
 have hUl:∀l:List Int,(HH (U l)).length=NN:=fun l=>HH_len _
 rw [hU0] at hmk
 have hUp:∀l:List Int,(U l).pool[na]?=some l:=fun l=>by rw [hU];simp [nwS]
 have hUH:=Hid.mk hU
 have hl0:=hUl z32
 have hw0:=hUw z32 rfl
 clear hs hsS hS' hw hlen hnx hol hd hsP hU0 hU
 refine goF ?_
 refine iff_ ?_ rfl (by simp +decide only [go_sem, *]<;>rfl)
 refine goF ?_
 refine ARun.p1 rfl rfl (hmk _ _ _ rfl rfl) ?_
 clear hmk
 have hz:(z32:List Int).length=32:=rfl
 refine goF ?_
 refine AWp.weaken (Wk.giveL hw0 (E2:=[(2,.iptr (encT ⟨co,me,na⟩) 0),(5,ptR),(6,.lst ((varsN na np).map .int)),(7,ownC na),(46,.int 32),(47,.int 0)]) (Nat.zero_le _) ⟨.pu (.iptr fun c hc=>Pu_cells hc),.ptr (pre_lt ixl_rn),.ownM (ty:=3) (sz:=1) (f:=AV.int) pre_NN (app_get0 (hUl _)) hvl (fun x _ c hc=>by simp only [AV.cells,List.mem_singleton] at hc;subst hc;exact .base _),.own (pre_lt hcn),.pu (.base _),.pu (.base _),trivial⟩) ?_
 refine AWp.loop (J:=fun j:Nat=>j≤32) (fun j=>⟨[(2,.iptr (encT ⟨co,me,na⟩) 0),(5,ptR),(6,.lst ((varsN na np).map .int)),(7,ownC na),(46,.int 32),(47,.int j)],HH (U (fillL j))⟩) (fun j=>32-j) 0 (Nat.zero_le _) .wf ?_
 rintro j hj
 by_cases hlt3:j<32
 ·have hd3:decide ((j:Int)<32)=true:=decide_eq_true (by omega)
  obtain ⟨l,hl⟩:∃l,l=fillL j:=⟨_,rfl⟩
  have hll:l.length=32:=by rw [hl];exact fillL_len hj
  have hlg:(l.map AV.int)[j]?=some (.int 0):=by rw [List.getElem?_map,hl,fillL_get hlt3];rfl
  have hset:(HH (U l)).set (ix (.clk na)) ⟨3,1,(l.map AV.int).set j (.int (-1))⟩=HH (U (fillL (j+1))):=by
   have:(⟨3,1,(l.map AV.int).set j (.int (-1))⟩:ABlk)=intB (fillL (j+1)):=by
    rw [← fillL_set hlt3,← hl];simp
   rw [this,hUs]
  have hlp:=hUp l
  have hlL:=hUl l
  rw [← hl]
  clear hl hUs hUp hUg hUw hUl hd2
  refine goF ?_
  refine ift_ ?_ rfl (by simp +decide only [go_sem, *]<;>rfl)
  refine goF ?_
  refine ARun.q1 rfl rfl (ql_ixo (n:=j) (b:=ix (.clk na)) (tot:=32) (len:=32) (blk:=intB l) (by simp +decide only [go_sem, *]<;>rfl) (by simp +decide only [go_sem, *]<;>rfl) Tryd.underlying25 (by simp +decide only [go_sem, *]<;>rfl) (by simp [hll]) (by omega) (by kernel_rfl)) ?_
  refine goF ?_
  refine ARun.p1 rfl rfl (pl_store (b:=ix (.clk na)) (tot:=32) (i:=j) (off:=0) (blk:=intB l) (e:=.int 0) (v:=.int (-1)) (by simp +decide only [go_sem, *]<;>rfl) (by simp +decide only [go_sem, *]<;>rfl) (by simp +decide only [go_sem, *]<;>rfl) (by simp [hll]) hlg (by kernel_rfl) rfl rfl) ?_
  refine goF ?_
  rw [wrap_succ (by omega)]
  refine ⟨j+1,by omega,by omega,?_⟩
  exact .wf (hH:=by simp +decide only [go_sem, *]<;>rfl)
 have hj32:j=32:=by omega
 subst hj32
 have hd3:decide (((32:Nat):Int)<32)=false:=by decide
 have hfm:fillL 32=m32:=List.append_nil _
 rw [hfm]
 obtain ⟨V,hV⟩:∃V:Nat→PRun,V=fun k=>nwS ⟨co,me,na⟩ sched (na+np) na (List.replicate k m32++List.replicate (na-k) z32++[m32]):=⟨_,rfl⟩
 have hV0:U m32=V 0:=by
  rw [hV,hUH.out]
  show nwS _ _ _ _ _=nwS _ _ _ _ _
  rw [List.replicate_zero,List.nil_append,Nat.sub_zero]
 have hVl:∀k,(HH (V k)).length=NN:=fun k=>HH_len _
 have hln:∀k,k≤na→(List.replicate k m32++List.replicate (na-k) z32++[m32]).length=na+1:=fun k hk=>by
  rw [List.length_append,List.length_append,List.length_replicate,List.length_replicate,List.length_singleton];omega
 have hVw:∀k,k≤na→WF (V k):=fun k hk=>by
  rw [hV]
  refine (hI (by omega) (by rw [hln k hk];omega) (by omega) (by rw [hln k hk];omega) fun x hx=>?_).wf
  rcases List.mem_append.1 hx with hx|hx
  ·rcases List.mem_append.1 hx with hx|hx
   ·exact hp32 x hx
   ·exact hp32 x hx
  ·rw [List.mem_singleton] at hx;subst hx;rfl
 have hVp:∀k,k<na→(V k).pool[k]?=some z32:=fun k hk=>by
  rw [hV];simp only [nwS]
  rw [List.append_assoc,List.getElem?_append_right (by rw [List.length_replicate];omega),List.length_replicate,Nat.sub_self,List.getElem?_append_left (by rw [List.length_replicate];omega),List.getElem?_replicate,if_pos (by omega)]
 have hVm:∀k,k≤na→(V k).pool[na]?=some m32:=fun k hk=>by
  rw [hV];simp only [nwS]
  rw [List.getElem?_append_right (by rw [List.length_append,List.length_replicate,List.length_replicate];omega),List.length_append,List.length_replicate,List.length_replicate,show na-(k+(na-k))=0 by omega]
  rfl
 have hVa:∀k,(V k).acts=List.range na:=fun k=>by rw [hV];rfl
 have hVs:∀k,k<na→(HH (V k)).set (ix (.clk k)) (intB m32)=HH (V (k+1)):=fun k hk=>by
  rw [HH_pset (s:=V k) (x:=k) (l:=m32) (by rw [hV];show k<(List.replicate k m32++List.replicate (na-k) z32++[m32]).length;rw [hln k (by omega)];omega) (ix_lt (a:=.clk k) (by show k<MM;omega)),hV]
  simp only [nwS]
  rw [List.append_assoc,List.set_append_right _ _ (by rw [List.length_replicate];omega),List.length_replicate,Nat.sub_self,show na-k=(na-(k+1))+1 by omega,List.replicate_succ,List.cons_append,List.set_cons_zero,List.replicate_succ' (n:=k),List.append_assoc,List.append_assoc]
  rfl
 have hal:(List.range na).length=na:=by simp
 rw [hV0]
 have hVH:=Hid.mk hV
 have hVa0:=hVa 0
 have hVl0:=hVl 0
 clear hUs hUp hUg hUw hUl hd2 hV hV0 hfm
 refine goF ?_
 refine iff_ ?_ rfl (by simp +decide only [go_sem, *]<;>rfl)
 refine goF ?_
 refine AWp.loop (J:=fun k:Nat=>k≤na) (fun k=>⟨[(2,.iptr (encT ⟨co,me,na⟩) 0),(5,ptR),(6,.lst ((varsN na np).map .int)),(7,ownC na),(58,.int na),(59,.int k)],HH (V k)⟩) (fun k=>na-k) 0 (Nat.zero_le _) .wf ?_
 rintro k hk
 by_cases hlt4:k<na
 ·have hd4:decide ((k:Int)<(na:Int))=true:=decide_eq_true (by omega)
  have hpk:=hVp k hlt4
  have hpm:=hVm k hk
  have hak:=hVa k
  have hck:ix (.clk k)<NN:=ix_lt (a:=.clk k) (by show k<MM;omega)
  have hset:=hVs k hlt4
  have hlk:=hVl k
  have hgk:((List.range na).map ownC)[k]?=some (ownC k):=by rw [List.getElem?_map,List.getElem?_range hlt4];rfl
  clear hVs hVa hVm hVp hVw hVl hd3 hVa0 hVl0
  refine goF ?_
  refine ift_ ?_ rfl (by simp +decide only [go_sem, *]<;>rfl)
  refine goF ?_
  refine ARun.q1 rfl rfl (ql_ixo (n:=k) (b:=ix .at') (tot:=na) (len:=na) (blk:=⟨25,1,(List.range na).map ownC⟩) (by simp +decide only [go_sem, *]<;>rfl) (by simp +decide only [go_sem, *]<;>rfl) Tryd.underlying81 (by simp +decide only [go_sem, *]<;>rfl) (by simp) (by omega) (by kernel_rfl)) ?_
  refine goF ?_
  refine ARun.p1 rfl rfl (pl_copyI (k:=.i64) (b:=ix (.clk k)) (n:=32) (d:=z32) (l:=m32) (av:=ownC na) (ty:=3) (by simp +decide only [go_sem, *]<;>rfl) (by simp +decide only [go_sem, *]<;>rfl) rfl (by simp +decide only [go_sem, *]<;>rfl) (.ownM (ty:=3) (sz:=1) (f:=AV.int) (by simp +decide only [go_sem, *]<;>rfl) rfl (fun x _ c hc=>by simp only [AV.cells,List.mem_singleton] at hc;subst hc;exact .base _)) (by decide) Tryd.underlying25 el3) ?_
  refine goF ?_
  rw [wrap_succ (by omega)]
  refine ⟨k+1,by omega,by omega,?_⟩
  exact .wf (hH:=hset)
 have hkn:k=na:=by omega
 subst hkn
 have hd4:decide ((k:Int)<(k:Int))=false:=decide_eq_false (by omega)
 have hVe:V k=nwS ⟨co,me,k⟩ sched (k+np) k (List.replicate (k+1) m32):=by
  rw [hVH.out]
  show nwS _ _ _ _ _=nwS _ _ _ _ _
  rw [Nat.sub_self,List.replicate_zero,List.append_nil,List.replicate_succ' (n:=k)]
 have hlk:=hVl k
 have hwk:=hVw k (by omega)
 have hpk:=hVm k (by omega)
 have hiv:Iv (V k):=by
  rw [hVe]
  exact hI (by omega) (by rw [List.length_replicate];omega) (by omega) (by rw [List.length_replicate];omega) hp32
 obtain ⟨s,hs⟩:∃s,s=V k:=⟨_,rfl⟩
 rw [← hs] at hlk hwk hpk hiv hVe ⊢
 have hnF:newF ⟨co,me,k⟩ sched cd=startF s cd (varsN k np) m32 0 (-1) false:=by
  unfold newF
  simp only
  rw [hVe,hnp,Int.toNat_natCast,Int.toNat_natCast]
 have htl:s.tasks.length=0:=by rw [hVe];rfl
 have hcl0:s.calls.length=0:=by rw [hVe];rfl
 have hbl0:s.behs.length=0:=by rw [hVe];rfl
 have hpl0:s.pool.length=k+1:=by rw [hVe];exact List.length_replicate
 have hMM:=MM_eq
 have is:=start_ok hiv (c:=cd) (vs:=varsN k np) (a:=m32) (prio:=0) (par:=-1) (canc:=false) (x:=k) (by omega) (by omega) (by omega) (by omega) hpk (by omega) hv1 (by rw [hvl];exact hv) hcs (.inl rfl)
 have hwF:WF (startF s cd (varsN k np) m32 0 (-1) false):=(startF_iv hiv (c:=cd) (vs:=varsN k np) (a:=m32) (prio:=0) (par:=-1) (canc:=false) (by omega) (by omega) (by omega) (by omega) rfl hv1 (by rw [hvl];exact hv) hcs (.inl rfl)).iv.wf
 rw [← hnF] at is hwF
 clear hVs hVa hVm hVp hVw hVl hd3 hVa0 hVl0 hs hVe hnF
 refine goF ?_
 refine iff_ ?_ rfl (by simp +decide only [go_sem, *]<;>rfl)
 refine goF ?_
 refine ARun.q1 rfl rfl (ql_indexAddr_lst (by simp +decide only [go_sem, *]<;>rfl) (by simp +decide only [go_sem, *]<;>rfl) Tryd.underlying22 (by omega) (e:=encC cd) (by exact hcdm) (by kernel_rfl)) ?_
 refine goF ?_
 refine ARun.p1 rfl rfl (pl_callR0 hwk hwF is rfl (by simp +decide only [go_sem, *]<;>rfl) (by simp +decide only [go_sem, *]<;>rfl) (by
  intro a ha
  simp only [List.mem_cons,List.not_mem_nil,or_false] at ha
  rcases ha with rfl|rfl|rfl|rfl|rfl|rfl|rfl
  ·exact .ptr ixl_rn
  ·exact .pu (Pu_encC _)
  ·exact .pu (Pu_mapInt _)
  ·exact .pu (.base _)
  ·exact .pu (.base _)
  ·exact .pu (.base _)
  ·exact .own hcn) (.pu (.base _))) ?_
 refine goF ?_
 exact .runM (T:=[]) hwF (Nat.zero_le _) (vs:=[ptR]) (by show resVals _ _ [.tmp 4]=_;simp +decide only [resVals,resVal,ldPtr,ldE,go_sem, *]<;>rfl) (by simp) (.ptr (pre_lt ixl_rn))
end Go.Ab
