/- Part of the proof. -/
import Derived.Test.YthgicbkdckpeaaaDoorG20
set_option linter.unusedSimpArgs false
set_option linter.unusedVariables false
set_option maxHeartbeats 4000000
namespace Go.Ab
open Go Go.Ab Go.Proofs Go.Ab.Ty
theorem tset_tset {s:PRun} {k:Nat} {a b:PTask}:(s.tset k a).tset k b = s.tset k b:=by simp [PRun.tset]
theorem tset_len {s:PRun} {k:Nat} {a:PTask}:(s.tset k a).tasks.length = s.tasks.length:=by simp [PRun.tset]
structure NxS (s:PRun) (k:Nat) (t':PTask) (s1:PRun):Prop where
 eq:s1 = s.tset k t'
 tk:s1.tasks[k]? = some t'
 len:s1.tasks.length = s.tasks.length
theorem NxS.mk' {s:PRun} {k:Nat} {t:PTask} (ht:s.tasks[k]? = some t) (t':PTask):∃ s1,NxS s k t' s1:=⟨_,rfl,tset_at ht,tset_len⟩
theorem NxS.hset {s s1:PRun} {k:Nat} {t t':PTask} (h:NxS s k t' s1) (ht:s.tasks[k]? = some t) (hk:ix (.tsk k) < NN) (h1:t'.sarr = t.sarr) (h2:t'.kids = t.kids) (h3:t'.spn = t.spn):(HH s).set (ix (.tsk k)) (tskB k t') = HH s1:=by
 rw [h.eq];exact HH_tset ht hk h1 h2 h3
def clo (t:PTask) (st:Int):PTask:={ t with ending:=st,state:=2,has:=-1 }
theorem close_ok {s s2:PRun} (hw:WF s) {n:Nat} {t:PTask} {st:Int} (ht:s.tasks[n]? = some t) (hw2:WF s2) (hS:FnH Tryd.prog 122 [ptR,.int n] (HH (s.tset n (clo t st))) (.tup []) (HH s2)) :
 FnH Tryd.prog 108 [ptR,.int n,.int st] (HH s) (.tup []) (HH s2):=by
 obtain ⟨g1,g2,g3,g4,hn,g6⟩:=hw.k ht
 obtain ⟨s1,h1⟩:=NxS.mk' ht { t with ending:=st }
 obtain ⟨s3,h3⟩:=NxS.mk' h1.tk { t with ending:=st,state:=2 }
 have e1:=h1.hset ht g1 rfl rfl rfl
 have e3:=h3.hset h1.tk g1 rfl rfl rfl
 obtain ⟨s4,h4⟩:=NxS.mk' h3.tk (clo t st)
 have e4:=h4.hset h3.tk g1 rfl rfl rfl
 have hs4:s.tset n (clo t st) = s4:=by rw [h4.eq,h3.eq,h1.eq,tset_tset,tset_tset]
 rw [hs4] at hS
 have q1:=h1.tk
 have q3:=h3.tk
 clear hs4 h1 h3 h4
 simp only [tskB,behV,clo] at e1 e3 e4
 refine FnH.intro' [(0,ptR),(1,.int n),(2,.int st)] 3 27 NN Tryd.func108 (by kernel_rfl) rfl rfl rfl rfl rfl (HH_len s) ?_
 refine goF ?_
 refine ARun.q1 rfl rfl (ql_ixo (n:=n) (b:=ix .tk) (by simp +decide only [go_sem, *] <;> rfl) (by simp +decide only [go_sem, *] <;> rfl) Tryd.underlying80 (by simp +decide only [go_sem, *] <;> rfl) (by simp) hn (by simp +decide only [go_sem, *] <;> rfl)) ?_
 refine goF ?_
 refine ARun.p1 rfl rfl (pl_callW hS (by simp [HH_len]) rfl (by simp +decide only [go_sem, *] <;> rfl) (by simp +decide only [go_sem, *] <;> rfl)) ?_
 refine goF ?_
 exact .runV [] hw2 (vs:=[]) (by show resVals _ _ [] = _;simp +decide only [resVals,resVal,ldPtr,ldE,go_sem, *] <;> rfl) (by simp) rfl (.pu (Pu.tup (by simp)))
def popS (cs:List PCall) (sa:List Nat):Nat→Nat→Option Nat
 | 0,j=>match cs[j]? with
   | some c=>if (c.code.steps.length:Int) ≤ c.pc then none else some 0
   | none=>some 0
 | m + 1,j=>match cs[j]? with
   | some c=>if (c.code.steps.length:Int) ≤ c.pc then (match sa[m]? with
     | some j'=>popS cs sa m j'
     | none=>none) else some (m + 1)
   | none=>some (m + 1)
theorem popS_stay {cs:List PCall} {sa:List Nat} {m j:Nat} {c:PCall} (hc:cs[j]? = some c) (h:c.pc < c.code.steps.length):popS cs sa m j = some m:=by
 cases m <;> simp only [popS,hc] <;> rw [if_neg (by omega)]
theorem popS_end {cs:List PCall} {sa:List Nat} {j:Nat} {c:PCall} (hc:cs[j]? = some c) (h:(c.code.steps.length:Int) ≤ c.pc):popS cs sa 0 j = none:=by
 simp only [popS,hc];rw [if_pos h]
theorem popS_pop {cs:List PCall} {sa:List Nat} {m j j':Nat} {c:PCall} (hc:cs[j]? = some c) (h:(c.code.steps.length:Int) ≤ c.pc) (hj:sa[m]? = some j'):popS cs sa (m + 1) j = popS cs sa m j':=by
 simp only [popS,hc,hj];rw [if_pos h]
theorem WF.cset {s:PRun} (hw:WF s) {j:Nat} {c:PCall} (h1:c.vars.length ≤ 1000) (h2:c.code.steps.length ≤ 1000):WF (s.cset j c):=by
 have hl:(s.calls.set j c).length = s.calls.length:=List.length_set
 refine ⟨hw.nT,by show (s.calls.set j c).length ≤ _;rw [hl];exact hw.nC,hw.nK,hw.nB,hw.pl,hw.cks,hw.acts,hw.ends,fun t ht=>?_,hw.behs,hw.endl,hw.sz,hw.tsz,fun x hx=>?_⟩
 ·obtain ⟨a1,a2⟩:=hw.tsk t ht
  exact ⟨fun j hj=>by show _ < (s.calls.set _ _).length;rw [hl];exact a1 j hj,a2⟩
 ·rcases List.mem_or_eq_of_mem_set hx with hx | rfl
  ·exact hw.csz x hx
  ·exact ⟨h1,h2⟩
theorem WF.tset {s:PRun} (hw:WF s) {k:Nat} {t:PTask} (h1:(∀ j ∈ t.sarr,j < s.calls.length) ∧ t.slen ≤ t.sarr.length ∧ t.clk < s.pool.length ∧ ∀ b,t.beh = some b→b < s.behs.length) (h2:t.sarr.length ≤ 1000 ∧ t.kids.length ≤ 1000):WF (s.tset k t):=by
 have hl:(s.tasks.set k t).length = s.tasks.length:=List.length_set
 refine ⟨by show (s.tasks.set k t).length ≤ _;rw [hl];exact hw.nT,hw.nC,hw.nK,hw.nB,hw.pl,hw.cks,hw.acts,hw.ends,fun x hx=>?_,hw.behs,by show _ = (s.tasks.set k t).length;rw [hl];exact hw.endl,hw.sz,fun x hx=>?_,hw.csz⟩
 ·rcases List.mem_or_eq_of_mem_set hx with hx | rfl
  ·exact hw.tsk x hx
  ·exact h1
 ·rcases List.mem_or_eq_of_mem_set hx with hx | rfl
  ·exact hw.tsz x hx
  ·exact h2
theorem WF.tset' {s:PRun} (hw:WF s) {k:Nat} {t t':PTask} (ht:s.tasks[k]? = some t) (h1:t'.sarr = t.sarr) (h2:t'.slen ≤ t.slen) (h3:t'.clk = t.clk) (h4:t'.beh = t.beh) (h5:t'.kids = t.kids):WF (s.tset k t'):=by
 obtain ⟨a1,a2,a3,a4⟩:=hw.tsk t (List.mem_of_getElem? ht)
 exact hw.tset ⟨by rw [h1];exact a1,by rw [h1];omega,by rw [h3];exact a3,by rw [h4];exact a4⟩ (by rw [h1,h5];exact hw.tsz t (List.mem_of_getElem? ht))
theorem tset_self {s:PRun} {k:Nat} {t:PTask} (ht:s.tasks[k]? = some t):s.tset k t = s:=by
 unfold PRun.tset
 have:s.tasks.set k t = s.tasks:=by
  obtain ⟨h1,h2⟩:=List.getElem?_eq_some_iff.1 ht
  rw [← h2];exact List.set_getElem_self h1
 rw [this]
theorem goOn_ok {s s2:PRun} (hw:WF s) {n j m:Nat} {t:PTask} {c:PCall} (ht:s.tasks[n]? = some t) (hm:t.slen = m + 1) (hj:t.sarr[m]? = some j) (hc:s.calls[j]? = some c) (hpc:∀ c ∈ s.calls,0 ≤ c.pc ∧ c.pc ≤ 1000) (hw2:WF s2)
 (hS:popS (s.cset j { c with pc:=c.pc + 1 }).calls t.sarr m j = none→FnH Tryd.prog 122 [ptR,.int n] (HH ((s.cset j { c with pc:=c.pc + 1 }).tset n (clo { t with slen:=1 } 3))) (.tup []) (HH s2))
 (hR:∀ m',popS (s.cset j { c with pc:=c.pc + 1 }).calls t.sarr m j = some m'→s2 = (s.cset j { c with pc:=c.pc + 1 }).tset n { t with slen:=m' + 1 }) :
 FnH Tryd.prog 92 [ptR,.int n,ptC j] (HH s) (.tup []) (HH s2):=by
 obtain ⟨g1,g2,g3,g4,hn,g6⟩:=hw.k ht
 obtain ⟨k1,k2⟩:=hw.c hc
 obtain ⟨p1,p2⟩:=hpc c (List.mem_of_getElem? hc)
 obtain ⟨v1,v2⟩:=hw.csz c (List.mem_of_getElem? hc)
 have e1:=HH_cset (c':={ c with pc:=c.pc + 1 }) hc k1 rfl
 obtain ⟨s1,hs1⟩:∃ s1,s1 = s.cset j { c with pc:=c.pc + 1 }:=⟨_,rfl⟩
 rw [← hs1] at e1 hS hR
 have hw1:WF s1:=by rw [hs1];exact hw.cset v1 v2
 have hpc1:∀ c ∈ s1.calls,0 ≤ c.pc ∧ c.pc ≤ 1001:=fun x hx=>by
  rw [hs1] at hx
  rcases List.mem_or_eq_of_mem_set hx with hx | rfl
  ·have:=hpc x hx;omega
  ·simp only;omega
 have ht1:s1.tasks[n]? = some t:=by rw [hs1];exact ht
 simp only [calB] at e1
 refine FnH.intro' [(0,ptR),(1,.int n),(2,ptC j)] 3 67 NN Tryd.func92 (by kernel_rfl) rfl rfl rfl rfl rfl (HH_len s) ?_
 have hpw:IntKind.i64.wrap (c.pc + 1) = c.pc + 1:=wrap_id (by omega) (by omega)
 have hS':=Hid.mk hS
 have hR':=Hid.mk hR
 have hs1':=Hid.mk hs1
 clear hS hR hs1
 refine goF ?_
 refine ARun.q1 rfl rfl (ql_ixo (n:=n) (b:=ix .tk) (by simp +decide only [go_sem, *] <;> rfl) (by simp +decide only [go_sem, *] <;> rfl) Tryd.underlying80 (by simp +decide only [go_sem, *] <;> rfl) (by simp) hn (by simp +decide only [go_sem, *] <;> rfl)) ?_
 refine goF ?_
 refine AWp.loop (J:=fun x:Nat × Nat × PRun=>x.1 ≤ m ∧ t.sarr[x.1]? = some x.2.1 ∧ x.2.2 = s1.tset n { t with slen:=x.1 + 1 } ∧ popS s1.calls t.sarr x.1 x.2.1 = popS s1.calls t.sarr m j) (fun x=>⟨[(0,ptR),(1,.int n),(2,ptC x.2.1),(6,ptK n)],HH x.2.2⟩) (fun x=>x.1) (m,j,s1) ⟨Nat.le_refl _,hj,by show s1 = _;rw [← hm,tset_self ht1],rfl⟩ (.wf (hH:=e1)) ?_
 rintro ⟨m',j',si⟩ ⟨x1,x2,x3,x4⟩
 simp only at x1 x2 x3 x4
 have hti:si.tasks[n]? = some { t with slen:=m' + 1 }:=by rw [x3];exact tset_at ht1
 have hli:si.tasks.length = s1.tasks.length:=by rw [x3,tset_len]
 have hwi:WF si:=by rw [x3];exact hw1.tset' ht1 rfl (by show m' + 1 ≤ t.slen;omega) rfl rfl rfl
 obtain ⟨c',hc'⟩:∃ c',s1.calls[j']? = some c':=⟨_,List.getElem?_eq_getElem ((hw1.tsk t (List.mem_of_getElem? ht1)).1 j' (List.mem_of_getElem? x2))⟩
 have hci:si.calls[j']? = some c':=by rw [x3];exact hc'
 obtain ⟨f1,f2,f3,f4,fn,f6⟩:=hwi.k hti
 obtain ⟨u1,u2⟩:=hwi.c hci
 have hlc:m' < t.sarr.length:=(List.getElem?_eq_some_iff.1 x2).1
 have ht1000:=(hw1.tsz t (List.mem_of_getElem? ht1)).1
 have x3':=Hid.mk x3
 have x4':=Hid.mk x4
 clear x3 x4 e1 ht1
 refine goF ?_
 refine drA (k:=10) follows (hr:=?_)
 refine goF ?_
 refine ifA (fun hd=>?_) (fun hd=>?_)
 ·simp at hd
  cases m' with
  | zero =>
    have hn0:=x4'.out.symm.trans (popS_end hc' hd)
    have hcl:=close_ok hwi (st:=3) hti hw2 (by rw [x3'.out,tset_tset];exact hS'.out hn0)
    have hd1:decide ((↑(0 + 1:Nat):Int) = 1) = true:=by decide
    clear hn0
    refine goF ?_
    refine ift_ ?_ rfl rfl
    refine goF ?_
    refine ARun.p1 rfl rfl (pl_callW hcl (by simp [HH_len]) rfl (by simp +decide only [go_sem, *] <;> rfl) (by simp +decide only [go_sem, *] <;> rfl)) ?_
    refine goF ?_
    exact .runV [] hw2 (vs:=[]) (by show resVals _ _ [] = _;simp +decide only [resVals,resVal,ldPtr,ldE,go_sem, *] <;> rfl) (by simp) rfl (.pu (Pu.tup (by simp)))
  | succ m' =>
    have hd1:decide ((↑(m' + 1 + 1:Nat):Int) = 1) = false:=by simp;omega
    obtain ⟨j2,hj2⟩:∃ j2,t.sarr[m']? = some j2:=⟨_,List.getElem?_eq_getElem (by omega)⟩
    obtain ⟨s3,h3⟩:=NxS.mk' hti { t with slen:=m' + 1 }
    have e3:=h3.hset hti g1 rfl rfl rfl
    have hp3:=Hid.mk ((popS_pop hc' hd hj2).symm.trans x4'.out)
    have hs3:Hid (s3 = s1.tset n { t with slen:=m' + 1 }):=⟨by rw [h3.eq,x3'.out,tset_tset]⟩
    have q3:=h3.tk
    clear h3
    have hjm:(t.sarr.map ptC)[m']? = some (ptC j2):=by rw [List.getElem?_map,hj2];rfl
    simp only [tskB,behV] at e3
    refine goF ?_
    refine iff_ ?_ rfl rfl
    refine goF ?_
    have hsz0:m' + 1 - 0 = m' + 1:=rfl
    have hwr2:IntKind.i64.wrap ((↑(m' + 1:Nat):Int) - 1) = (m':Int):=by rw [wrap_id (by omega) (by omega)];omega
    have hwr:IntKind.i64.wrap ((↑(m' + 1 + 1:Nat):Int) - 1) = ((m' + 1:Nat):Int):=by rw [wrap_id (by omega) (by omega)];omega
    refine drA (k:=12) follows (hr:=?_)
    refine goF ?_
    refine ARun.q1 rfl rfl (ql_slice_own (b:=ix (.stk n)) (l:=0) (h:=m' + 1) (blk:=⟨135,1,t.sarr.map ptC⟩) (by simp +decide only [go_sem, *] <;> rfl) Tryd.underlying85 (by simp +decide only [go_sem, *] <;> rfl) (by simp) (by simp [bnd,lk,go_sem]) (by simp +decide only [bnd,go_sem, *] <;> rfl) (Nat.zero_le _) (by omega) (by kernel_rfl)) ?_
    refine goF ?_
    refine drA (k:=10) follows (hr:=?_)
    refine goF ?_
    refine ARun.q1 rfl rfl (ql_ixo (n:=m') (b:=ix (.stk n)) (by simp +decide only [go_sem, *] <;> rfl) (by simp +decide only [go_sem, *] <;> rfl) Tryd.underlying85 (by simp +decide only [go_sem, *] <;> rfl) (by simp) (by omega) (by simp +decide only [go_sem, *] <;> rfl)) ?_
    refine goF ?_
    exact ⟨(m',j2,s3),⟨by show m' ≤ m;omega,hj2,hs3.out,hp3.out⟩,by show m' < m' + 1;omega,.wf⟩
 simp at hd
 have hs2:=hR'.out m' (x4'.out.symm.trans (popS_stay hc' hd))
 rw [← x3'.out] at hs2
 subst hs2
 refine goF ?_
 exact .runV [] hw2 (vs:=[]) (by show resVals _ _ [] = _;simp +decide only [resVals,resVal,ldPtr,ldE,go_sem, *] <;> rfl) (by simp) rfl (.pu (Pu.tup (by simp)))
end Go.Ab
set_option maxHeartbeats 4000000
namespace Go.Ab
open Go Go.Ab Go.Proofs Go.Ab.Ty
def PRun.addP (s:PRun) (l:List Int):PRun:={ s with pool:=s.pool ++ [l] }
theorem addP_at {s:PRun} {l:List Int}:(s.addP l).pool[s.pool.length]? = some l:=by simp [PRun.addP]
theorem addP_ne {s:PRun} {l:List Int} {j:Nat} (h:j ≠ s.pool.length):(s.addP l).pool[j]? = s.pool[j]?:=by
 unfold PRun.addP
 simp only
 rcases Nat.lt_or_ge j s.pool.length with h1 | h1
 ·exact List.getElem?_append_left h1
 ·rw [List.getElem?_eq_none (by simp;omega),List.getElem?_eq_none h1]
theorem HH_addP {s:PRun} {l:List Int} {j:Nat} (hj:j = s.pool.length) (h1:ix (.clk j) < NN):(HH s).set (ix (.clk j)) (intB l) = HH (s.addP l):=by
 subst hj
 refine HH_upd (s:=s) (s':=s.addP l) [(.clk s.pool.length,intB l)] (upd1 ⟨h1,by simp only [blk];rw [addP_at]⟩) fun a ha=>?_
 simp only [List.map_cons,List.map_nil,List.mem_singleton] at ha
 cases a with
 | clk j=>simp only [blk];rw [addP_ne fun e=>ha (by rw [e])]
 | _=>rfl
theorem WF.addP {s:PRun} (hw:WF s) {l:List Int} (h1:s.pool.length < MM) (h2:l.length = 32):WF (s.addP l):=by
 have hl:(s.addP l).pool.length = s.pool.length + 1:=by simp [PRun.addP]
 refine ⟨hw.nT,hw.nC,by rw [hl];omega,hw.nB,fun x hx=>?_,fun j hj=>by rw [hl];have:=hw.cks j hj;omega,fun j hj=>by rw [hl];have:=hw.acts j hj;omega,fun o ho j e=>by rw [hl];have:=hw.ends o ho j e;omega,fun t ht=>?_,fun x hx=>?_,hw.endl,hw.sz,hw.tsz,hw.csz⟩
 ·simp only [PRun.addP,List.mem_append,List.mem_singleton] at hx
  rcases hx with hx | rfl
  ·exact hw.pl x hx
  ·exact h2
 ·obtain ⟨a1,a2,a3,a4⟩:=hw.tsk t ht
  exact ⟨a1,a2,by rw [hl];omega,a4⟩
 ·obtain ⟨a1,a2⟩:=hw.behs x hx
  exact ⟨a1,fun j hj=>by rw [hl];have:=a2 j hj;omega⟩
theorem PL.clk {s:PRun} (hw:WF s) {T:List ABlk} {ρ:Operand→AV} {op:Op} {l:List Int} (hM:s.pool.length < MM) (hl:l.length = 32) (h:PL Tryd.prog (HH s ++ T) ρ op (.own (HH s ++ T).length 32 0 32) ((HH s ++ T) ++ [intB l])) (hT:∀ b ∈ T,RfB (Nb (HH s ++ T).length (ix (.clk s.pool.length))) b) :
 PL Tryd.prog (HH s ++ T) ρ op (ownC s.pool.length) (HH (s.addP l) ++ T):=by
 have hi:ix (.clk s.pool.length) < NN:=ix_lt hM
 have h1:=PL.placeS h (p:=ix (.clk s.pool.length)) (blk0:=intB []) (by rw [app_get (HH_len s) hi,HH_get s _ hi];simp only [blk];rw [List.getElem?_eq_none (Nat.le_refl _)]) rfl (by simp;intro e;rw [e] at hl;cases hl) intB_rf (app_rf (HH_nb hw (a:=.clk s.pool.length) (by show ¬ _ < _;omega) (by simp [HH_len])) hT) MvR.ownL
 rw [app_set (HH_len s) hi,HH_addP rfl hi] at h1
 exact h1
theorem pl_join {s:PRun} (hw:WF s) {T:List ABlk} {ρ:Operand→AV} {c:Call} {fx:Operand} {x y:Nat} {a b:List Int} (hM:s.pool.length < MM) (hx:s.pool[x]? = some a) (hy:s.pool[y]? = some b) (hT:∀ b ∈ T,RfB (Nb (HH s ++ T).length (ix (.clk s.pool.length))) b)
 (hc:c.callee = .value fx) (hfx:ρ fx = .clo 87 []) (ha:c.args.toList.map ρ ++ [] = [ownC x,ownC y]):PL Tryd.prog (HH s ++ T) ρ (.call c) (ownC s.pool.length) (HH (s.addP (joinL a b)) ++ T):=by
 obtain ⟨i1,l1⟩:=hw.p hx
 obtain ⟨i2,l2⟩:=hw.p hy
 refine .clk hw hM (by rw [joinL_len (by omega)];exact l1) (pl_callW (join_ok (by rw [app_get (HH_len s) i1,HH_get s _ i1];simp only [blk];rw [hx]) (by rw [app_get (HH_len s) i2,HH_get s _ i2];simp only [blk];rw [hy]) l1 l2 (by decide) (by decide)) (by simp) hc hfx ha) hT
theorem pl_clone {s:PRun} (hw:WF s) {T:List ABlk} {ρ:Operand→AV} {c:Call} {fx:Operand} {x:Nat} {a:List Int} (hM:s.pool.length < MM) (hx:s.pool[x]? = some a) (hT:∀ b ∈ T,RfB (Nb (HH s ++ T).length (ix (.clk s.pool.length))) b)
 (hc:c.callee = .value fx) (hfx:ρ fx = .clo 89 []) (ha:c.args.toList.map ρ ++ [] = [ownC x]):PL Tryd.prog (HH s ++ T) ρ (.call c) (ownC s.pool.length) (HH (s.addP a) ++ T):=by
 obtain ⟨i1,l1⟩:=hw.p hx
 refine .clk hw hM l1 (pl_callW (clone_ok (by rw [app_get (HH_len s) i1,HH_get s _ i1];simp only [blk];rw [hx]) l1 (by decide) (by decide)) (by simp) hc hfx ha) hT
end Go.Ab
set_option maxHeartbeats 4000000
namespace Go.Ab
open Go Go.Ab Go.Proofs Go.Ab.Ty
def PRun.enS (s:PRun) (n j:Nat):PRun:={ s with ends:=s.ends.set n (some j) }
theorem HH_enS {s:PRun} {n j:Nat}:(HH s).set (ix .en) ⟨25,1,(s.ends.set n (some j)).map endV⟩ = HH (s.enS n j):=
 HH_upd (s:=s) (s':=s.enS n j) [(.en,_)] (upd1 ⟨ixl_en,rfl⟩) fun a ha=>by
  cases a with
  | en=>simp at ha
  | rn=>simp only [blk,rnB,PRun.enS,List.length_set]
  | _=>rfl
theorem WF.enS {s:PRun} (hw:WF s) {n j:Nat} (hj:j < s.pool.length):WF (s.enS n j):=by
 refine ⟨hw.nT,hw.nC,hw.nK,hw.nB,hw.pl,hw.cks,hw.acts,fun o ho i e=>?_,hw.tsk,hw.behs,by simp [PRun.enS];exact hw.endl,hw.sz,hw.tsz,hw.csz⟩
 rcases List.mem_or_eq_of_mem_set ho with ho | rfl
 ·exact hw.ends o ho i e
 ·injection e with e;subst e;exact hj
def PRun.addB (s:PRun) (l:List Nat):PRun:={ s with behs:=s.behs ++ [l] }
theorem addB_at {s:PRun} {l:List Nat}:(s.addB l).behs[s.behs.length]? = some l:=by simp [PRun.addB]
theorem addB_ne {s:PRun} {l:List Nat} {j:Nat} (h:j ≠ s.behs.length):(s.addB l).behs[j]? = s.behs[j]?:=by
 unfold PRun.addB
 simp only
 rcases Nat.lt_or_ge j s.behs.length with h1 | h1
 ·exact List.getElem?_append_left h1
 ·rw [List.getElem?_eq_none (by simp;omega),List.getElem?_eq_none h1]
theorem HH_addB {s:PRun} {l:List Nat} {j:Nat} (hj:j = s.behs.length) (h1:ix (.beh j) < NN):(HH s).set (ix (.beh j)) ⟨25,1,l.map ownC⟩ = HH (s.addB l):=by
 subst hj
 refine HH_upd (s:=s) (s':=s.addB l) [(.beh s.behs.length,⟨25,1,l.map ownC⟩)] (upd1 ⟨h1,by simp only [blk];rw [addB_at]⟩) fun a ha=>?_
 simp only [List.map_cons,List.map_nil,List.mem_singleton] at ha
 cases a with
 | beh j=>simp only [blk];rw [addB_ne fun e=>ha (by rw [e])]
 | _=>rfl
theorem WF.addB {s:PRun} (hw:WF s) {j:Nat} (h1:s.behs.length < MM) (h2:j < s.pool.length):WF (s.addB [j]):=by
 have hl:(s.addB [j]).behs.length = s.behs.length + 1:=by simp [PRun.addB]
 refine ⟨hw.nT,hw.nC,hw.nK,by rw [hl];omega,hw.pl,hw.cks,hw.acts,hw.ends,fun t ht=>?_,fun x hx=>?_,hw.endl,hw.sz,hw.tsz,hw.csz⟩
 ·obtain ⟨a1,a2,a3,a4⟩:=hw.tsk t ht
  exact ⟨a1,a2,a3,fun b hb=>by rw [hl];have:=a4 b hb;omega⟩
 ·simp only [PRun.addB,List.mem_append,List.mem_singleton] at hx
  rcases hx with hx | rfl
  ·exact hw.behs x hx
  ·exact ⟨rfl,fun i hi=>by rw [List.mem_singleton] at hi;subst hi;exact h2⟩
theorem pl_beh {s:PRun} (hw:WF s) {ρ:Operand→AV} {x y:Operand} {j:Nat} (hM:s.behs.length < MM) (hj:j < s.pool.length) (hx:ρ x = nilS) (hy:ρ y = .lst [ownC j]) :
 PL Tryd.prog (HH s) ρ (.call { callee:=.builtin .append,args:=#[x,y],argTypes:=#[81,81] }) (.own (ix (.beh s.behs.length)) 1 0 1) (HH (s.addB [j])):=by
 have hi:ix (.beh s.behs.length) < NN:=ix_lt hM
 have h0:=pl_append_nil (P:=Tryd.prog) (H:=HH s) (ρ:=ρ) (s:=x) (x:=y) hx hy Tryd.underlying81 el25 (fun e he=>by rw [List.mem_singleton] at he;subst he;exact ⟨rfl,rfl⟩) (by simp) (by simp)
 have h1:=PL.placeS h0 (p:=ix (.beh s.behs.length)) (blk0:=⟨25,1,[]⟩) (by rw [HH_get s _ hi];simp only [blk];rw [List.getElem?_eq_none (Nat.le_refl _)]) rfl (by simp) (fun e he d hd=>by
  rw [List.mem_singleton] at he;subst he
  simp only [AV.cells,List.mem_singleton] at hd;subst hd
  exact .own ⟨fun e=>(by have:=ix_inj e;cases this),by
   have:ix (.clk j) < NN:=ix_lt (by show j < MM;have:=hw.nK;omega)
   simp only [HH_len];omega⟩) (HH_nb hw (a:=.beh s.behs.length) (by show ¬ _ < _;omega) (by simp [HH_len])) MvR.ownL
 rw [← HH_addB rfl hi]
 exact h1
end Go.Ab
set_option maxHeartbeats 4000000
namespace Go.Ab
open Go Go.Ab Go.Proofs Go.Ab.Ty
def kidsJ:PRun→Nat→List Int→PRun × Nat × Bool
 | s,e,[]=>(s,e,true)
 | s,e,k :: ks=>match s.tasks[k.toNat]?,s.ends[k.toNat]? with
   | some tk,some (some x)=>if 3 ≤ tk.state then kidsJ (s.addP (joinL (s.pool.getD e []) (s.pool.getD x []))) s.pool.length ks else (s,e,false)
   | _,_=>(s,e,false)
def topJ (t:PTask):Nat:=t.sarr.getD (t.slen - 1) 0
def goOnF (S:PRun→Nat→PRun) (s:PRun) (n j:Nat):PRun:=match s.tasks[n]?,s.calls[j]? with
 | some t,some c=>match popS (s.cset j { c with pc:=c.pc + 1 }).calls t.sarr (t.slen - 1) j with
   | none=>S ((s.cset j { c with pc:=c.pc + 1 }).tset n (clo { t with slen:=1 } 3)) n
   | some m=>(s.cset j { c with pc:=c.pc + 1 }).tset n { t with slen:=m + 1 }
 | _,_=>s
def wakeT (s:PRun) (p:Nat) (tp:PTask) (e:Nat):PRun:=(s.addB [e]).tset p { tp with waits:=-1,state:=1,beh:=some s.behs.length }
def wakeP (s:PRun) (p:Nat) (tp:PTask) (e:Nat):PRun:=match s.calls[topJ tp]? with
 | some c=>if c.pc = (c.code.steps.length:Int) - 1 then (((wakeT s p tp e).addP (joinL (s.pool.getD tp.clk []) (s.pool.getD e []))).tset p { tp with waits:=-1,state:=1,beh:=some s.behs.length,clk:=s.pool.length }) else wakeT s p tp e
 | none=>wakeT s p tp e
def settleF:Nat→PRun→Nat→PRun
 | 0,s,_=>s
 | f + 1,s,n=>match s.tasks[n]? with
   | none=>s
   | some t=>if t.ending = 0 ∨ 3 ≤ t.state then s else match kidsJ s t.clk t.kids with
     | (s1,_,false)=>s1
     | (s1,e,true)=>if t.par < 0 then (s1.enS n e).tset n { t with state:=t.ending } else match s1.tasks[t.par.toNat]? with
       | none=>s1
       | some tp=>if tp.waits = n then goOnF (settleF f) (wakeP ((s1.enS n e).tset n { t with state:=t.ending }) t.par.toNat tp e) t.par.toNat (topJ tp)
         else settleF f ((s1.enS n e).tset n { t with state:=t.ending }) t.par.toNat
structure Iv (s:PRun):Prop where
 wf:WF s
 kd:Kok s
 par:∀ (k:Nat) (t:PTask),s.tasks[k]? = some t→t.par = -1 ∨ ∃ p:Nat,t.par = (p:Int) ∧ p < k
 stk:∀ (k:Nat) (t:PTask),s.tasks[k]? = some t→0 < t.slen
 en:∀ (k:Nat) (t:PTask),s.tasks[k]? = some t→3 ≤ t.state→∃ j,s.ends[k]? = some (some j)
 wt:∀ (k:Nat) (t:PTask),s.tasks[k]? = some t→0 ≤ t.waits→t.beh = none
 ed:∀ (k:Nat) (t:PTask),s.tasks[k]? = some t→t.ending = 0 ∨ 3 ≤ t.ending
 dis:∀ (k:Nat) (t:PTask) (k':Nat) (t':PTask) (i i' j:Nat),s.tasks[k]? = some t→s.tasks[k']? = some t'→i < t.slen→i' < t'.slen→t.sarr[i]? = some j→t'.sarr[i']? = some j→k = k' ∧ i = i'
 pcB:∀ c ∈ s.calls,0 ≤ c.pc ∧ c.pc ≤ c.code.steps.length
 pcI:∀ (k:Nat) (t:PTask) (j:Nat) (c:PCall),s.tasks[k]? = some t→(t.state = 1 ∨ 0 ≤ t.waits)→t.sarr[t.slen - 1]? = some j→s.calls[j]? = some c→c.pc < c.code.steps.length
theorem Iv.addP {s:PRun} (h:Iv s) {l:List Int} (h1:s.pool.length < MM) (h2:l.length = 32):Iv (s.addP l):=
 ⟨h.wf.addP h1 h2,⟨h.kd.kd⟩,h.par,h.stk,h.en,h.wt,h.ed,h.dis,h.pcB,h.pcI⟩
theorem Iv.addB {s:PRun} (h:Iv s) {j:Nat} (h1:s.behs.length < MM) (h2:j < s.pool.length):Iv (s.addB [j]):=
 ⟨h.wf.addB h1 h2,⟨h.kd.kd⟩,h.par,h.stk,h.en,h.wt,h.ed,h.dis,h.pcB,h.pcI⟩
theorem Iv.enS {s:PRun} (h:Iv s) {n j:Nat} (hj:j < s.pool.length):Iv (s.enS n j):=
 ⟨h.wf.enS hj,⟨h.kd.kd⟩,h.par,h.stk,fun k t h1 h2=>by
  obtain ⟨i,hi⟩:=h.en k t h1 h2
  show ∃ j',(s.ends.set n (some j))[k]? = _
  rw [List.getElem?_set]
  split
  ·rename_i e
   subst e
   exact ⟨j,by rw [if_pos (List.getElem?_eq_some_iff.1 hi).1]⟩
  ·exact ⟨i,hi⟩,h.wt,h.ed,h.dis,h.pcB,h.pcI⟩
theorem Iv.tset {s:PRun} (h:Iv s) {k:Nat} {t t':PTask} (ht:s.tasks[k]? = some t) (h1:t'.sarr = t.sarr) (h2:t'.slen ≤ t.slen) (h20:0 < t'.slen) (h3:t'.kids = t.kids) (h4:t'.par = t.par) (h5:t'.clk < s.pool.length) (h6:∀ b,t'.beh = some b→b < s.behs.length)
 (h7:3 ≤ t'.state→∃ j,s.ends[k]? = some (some j)) (h8:0 ≤ t'.waits→t'.beh = none) (h9:t'.ending = 0 ∨ 3 ≤ t'.ending)
 (h10:(t'.state = 1 ∨ 0 ≤ t'.waits)→∀ (j:Nat) (c:PCall),t.sarr[t'.slen - 1]? = some j→s.calls[j]? = some c→c.pc < c.code.steps.length):Iv (s.tset k t'):=by
 have key:∀ {p:Nat→PTask→Prop},(∀ i u,s.tasks[i]? = some u→p i u)→p k t'→∀ i u,(s.tset k t').tasks[i]? = some u→p i u:=fun {p} g1 g2 i u hu=>by
  by_cases e:k = i
  ·subst e;rw [tset_at ht] at hu;injection hu with hu;subst hu;exact g2
  ·rw [tset_ne e] at hu;exact g1 i u hu
 obtain ⟨a1,a2,a3,a4⟩:=h.wf.tsk t (List.mem_of_getElem? ht)
 refine ⟨h.wf.tset ⟨by rw [h1];exact a1,by rw [h1];omega,h5,h6⟩ (by rw [h1,h3];exact h.wf.tsz t (List.mem_of_getElem? ht)),⟨key (p:=fun i u=>∀ c:Int,c ∈ u.kids→∃ j:Nat,c = j ∧ i < j ∧ j < (s.tset k t').tasks.length) (by rw [tset_len];exact h.kd.kd) (by rw [tset_len,h3];exact h.kd.kd k t ht)⟩,
  key h.par (by rw [h4];exact h.par k t ht),key h.stk h20,key h.en h7,key h.wt h8,key h.ed h9,?_,h.pcB,fun i u j c hu=>key (p:=fun i u=>(u.state = 1 ∨ 0 ≤ u.waits)→u.sarr[u.slen - 1]? = some j→s.calls[j]? = some c→c.pc < c.code.steps.length) (fun i u hu=>h.pcI i u j c hu) (fun g1 g2=>h10 g1 j c (by rw [← h1];exact g2)) i u hu⟩
 intro i u i' u' x x' j hu hu' hx hx' hj hj'
 have cv:∀ {i:Nat} {u:PTask} {x:Nat},(s.tset k t').tasks[i]? = some u→x < u.slen→u.sarr[x]? = some j→∃ v:PTask,s.tasks[i]? = some v ∧ x < v.slen ∧ v.sarr[x]? = some j:=fun {i u x} hu hx hj=>by
  by_cases e:k = i
  ·subst e;rw [tset_at ht] at hu;injection hu with hu;subst hu;exact ⟨t,ht,by omega,by rw [← h1];exact hj⟩
  ·rw [tset_ne e] at hu;exact ⟨u,hu,hx,hj⟩
 obtain ⟨v,b1,b2,b3⟩:=cv hu hx hj
 obtain ⟨v',b1',b2',b3'⟩:=cv hu' hx' hj'
 exact h.dis i v i' v' x x' j b1 b1' b2 b2' b3 b3'
end Go.Ab
set_option maxHeartbeats 4000000
namespace Go.Ab
open Go Go.Ab Go.Proofs Go.Ab.Ty
theorem getD_some {α:Type} {l:List α} {i:Nat} {x d:α} (h:l[i]? = some x):l.getD i d = x:=by rw [List.getD_eq_getElem?_getD,h];rfl
theorem kidsJ_ok:∀ (ks:List Int) (s:PRun) (e:Nat),Iv s→e < s.pool.length→s.pool.length + ks.length ≤ MM→Iv (kidsJ s e ks).1 ∧ (kidsJ s e ks).2.1 < (kidsJ s e ks).1.pool.length ∧ (kidsJ s e ks).1 = { s with pool:=(kidsJ s e ks).1.pool } ∧ s.pool.length ≤ (kidsJ s e ks).1.pool.length ∧ (kidsJ s e ks).1.pool.length ≤ s.pool.length + ks.length:=by
 intro ks
 induction ks with
 | nil=>intro s e h he hb;exact ⟨h,he,rfl,Nat.le_refl _,Nat.le_refl _⟩
 | cons k ks ih =>
   intro s e h he hb
   have hdone:Iv s ∧ e < s.pool.length ∧ s = { s with pool:=s.pool } ∧ s.pool.length ≤ s.pool.length ∧ s.pool.length ≤ s.pool.length + (k :: ks).length:=⟨h,he,rfl,Nat.le_refl _,by omega⟩
   simp only [List.length_cons] at hb
   simp only [kidsJ]
   split
   ·rename_i tk x h1 h2
    split
    ·have hx:x < s.pool.length:=h.wf.ends _ (List.mem_of_getElem? h2) x rfl
     have hl:∀ i,i < s.pool.length→(s.pool.getD i []).length = 32:=fun i hi=>by
      rw [getD_some (List.getElem?_eq_getElem hi)];exact h.wf.pl _ (List.getElem_mem hi)
     have hpl:(s.addP (joinL (s.pool.getD e []) (s.pool.getD x []))).pool.length = s.pool.length + 1:=by simp [PRun.addP]
     obtain ⟨a1,a2,a3,a4,a5⟩:=ih (s.addP (joinL (s.pool.getD e []) (s.pool.getD x []))) s.pool.length (h.addP (by omega) (by rw [joinL_len (by rw [hl e he,hl x hx]),hl e he])) (by omega) (by omega)
     exact ⟨a1,a2,a3,by omega,by simp only [List.length_cons];omega⟩
    ·exact hdone
   ·exact hdone
theorem Iv.cset {s:PRun} (h:Iv s) {j:Nat} {c c':PCall} (hc:s.calls[j]? = some c) (h1:c'.vars.length ≤ 1000) (h2:c'.code = c.code) (h3:0 ≤ c'.pc ∧ c'.pc ≤ c'.code.steps.length) (h4:∀ (k:Nat) (t:PTask),s.tasks[k]? = some t→(t.state = 1 ∨ 0 ≤ t.waits)→t.sarr[t.slen - 1]? = some j→c'.pc < c'.code.steps.length):Iv (s.cset j c'):=by
 refine ⟨h.wf.cset h1 (by rw [h2];exact (h.wf.csz c (List.mem_of_getElem? hc)).2),⟨h.kd.kd⟩,h.par,h.stk,h.en,h.wt,h.ed,h.dis,fun x hx=>?_,fun k t i x ht hs hi hx=>?_⟩
 ·rcases List.mem_or_eq_of_mem_set hx with hx | rfl
  ·exact h.pcB x hx
  ·exact h3
 ·by_cases e:j = i
  ·subst e;rw [cset_at hc] at hx;injection hx with hx;subst hx;exact h4 k t ht hs hi
  ·rw [cset_ne e] at hx;exact h.pcI k t i x ht hs hi hx
theorem popS_top {cs:List PCall} {sa:List Nat}:∀ {m j m':Nat},popS cs sa m j = some m'→sa[m]? = some j→m' ≤ m ∧ ∀ (i:Nat) (c:PCall),sa[m']? = some i→cs[i]? = some c→c.pc < c.code.steps.length:=by
 intro m
 induction m with
 | zero =>
   intro j m' h hj
   simp only [popS] at h
   split at h
   ·rename_i c hc
    split at h
    ·cases h
    ·injection h with h;subst h
     exact ⟨Nat.le_refl _,fun i c' h1 h2=>by rw [hj] at h1;injection h1 with h1;subst h1;rw [hc] at h2;injection h2 with h2;subst h2;omega⟩
   ·rename_i hc
    injection h with h;subst h
    exact ⟨Nat.le_refl _,fun i c' h1 h2=>by rw [hj] at h1;injection h1 with h1;subst h1;rw [hc] at h2;cases h2⟩
 | succ m ih =>
   intro j m' h hj
   simp only [popS] at h
   split at h
   ·rename_i c hc
    split at h
    ·split at h
     ·rename_i j' hj'
      obtain ⟨a1,a2⟩:=ih h hj'
      exact ⟨by omega,a2⟩
     ·cases h
    ·injection h with h;subst h
     exact ⟨Nat.le_refl _,fun i c' h1 h2=>by rw [hj] at h1;injection h1 with h1;subst h1;rw [hc] at h2;injection h2 with h2;subst h2;omega⟩
   ·rename_i hc
    injection h with h;subst h
    exact ⟨Nat.le_refl _,fun i c' h1 h2=>by rw [hj] at h1;injection h1 with h1;subst h1;rw [hc] at h2;cases h2⟩
theorem Iv.go {s:PRun} (h:Iv s) {n j:Nat} {t t':PTask} {c:PCall} (ht:s.tasks[n]? = some t) (hj:t.sarr[t.slen - 1]? = some j) (hc:s.calls[j]? = some c) (hp:c.pc < c.code.steps.length) (h1:t'.sarr = t.sarr) (h2:t'.slen ≤ t.slen) (h20:0 < t'.slen) (h3:t'.kids = t.kids) (h4:t'.par = t.par) (h5:t'.clk = t.clk) (h6:t'.beh = t.beh)
 (h7:t'.state < 3) (h8:t'.waits < 0) (h9:t'.ending = 0 ∨ 3 ≤ t'.ending) (h10:t'.state = 1→∀ (i:Nat) (x:PCall),t.sarr[t'.slen - 1]? = some i→(s.cset j { c with pc:=c.pc + 1 }).calls[i]? = some x→x.pc < x.code.steps.length):Iv ((s.cset j { c with pc:=c.pc + 1 }).tset n t'):=by
 obtain ⟨a1,a2,a3,a4⟩:=h.wf.tsk t (List.mem_of_getElem? ht)
 have hs0:=h.stk n t ht
 obtain ⟨t0,ht0⟩:∃ t0:PTask,t0 = { t with state:=2,waits:=-1 }:=⟨_,rfl⟩
 have i1:Iv (s.tset n t0):=h.tset ht (by rw [ht0]) (by rw [ht0];exact Nat.le_refl _) (by rw [ht0];exact hs0) (by rw [ht0]) (by rw [ht0]) (by rw [ht0];exact a3) (by rw [ht0];exact a4) (by rw [ht0];intro e;simp at e) (by rw [ht0];intro e;simp at e) (by rw [ht0];exact h.ed n t ht) (by rw [ht0];intro e;simp at e)
 have i2:Iv ((s.tset n t0).cset j { c with pc:=c.pc + 1 }):=i1.cset hc (h.wf.csz c (List.mem_of_getElem? hc)).1 rfl (by have:=h.pcB c (List.mem_of_getElem? hc);simp only;omega) fun k u hu hs hi=>by
  by_cases e:n = k
  ·subst e;rw [tset_at ht] at hu;injection hu with hu;subst hu;rw [ht0] at hs;simp at hs
  ·rw [tset_ne e] at hu
   have:=(h.dis n t k u (t.slen - 1) (u.slen - 1) j ht hu (by omega) (by have:=h.stk k u hu;omega) hj hi).1
   exact absurd this e
 have ht0':((s.tset n t0).cset j { c with pc:=c.pc + 1 }).tasks[n]? = some t0:=tset_at ht
 have i3:=i2.tset (t':=t') ht0' (by rw [ht0];exact h1) (by rw [ht0];exact h2) h20 (by rw [ht0];exact h3) (by rw [ht0];exact h4) (by rw [h5];exact a3) (by rw [h6];exact a4) (fun e=>by omega) (fun e=>by omega) h9 (fun e i x hi hx=>by
  rcases e with e | e
  ·exact h10 e i x (by rw [ht0] at hi;exact hi) hx
  ·omega)
 have he:((s.tset n t0).cset j { c with pc:=c.pc + 1 }).tset n t' = (s.cset j { c with pc:=c.pc + 1 }).tset n t':=by simp [PRun.tset,PRun.cset]
 rw [← he];exact i3
structure Sb (s s':PRun) (f:Nat):Prop where
 tl:s'.tasks.length = s.tasks.length
 cl:s'.calls.length = s.calls.length
 pl:s'.pool.length ≤ s.pool.length + 1001 * f
 bl:s'.behs.length ≤ s.behs.length + f
def Okf (S:PRun→Nat→PRun) (f:Nat):Prop:=∀ (s:PRun) (n:Nat),Iv s→s.pool.length + 1001 * f ≤ MM→s.behs.length + f ≤ MM→Iv (S s n) ∧ Sb s (S s n) f
theorem goOnF_iv {S:PRun→Nat→PRun} {f:Nat} (hS:Okf S f) {s:PRun} (h:Iv s) {n j:Nat} {t:PTask} {c:PCall} (ht:s.tasks[n]? = some t) (hst:t.state < 3) (hwt:t.waits < 0) (hj:t.sarr[t.slen - 1]? = some j) (hc:s.calls[j]? = some c) (hp:c.pc < c.code.steps.length)
 (hb1:s.pool.length + 1001 * f ≤ MM) (hb2:s.behs.length + f ≤ MM):Iv (goOnF S s n j) ∧ Sb s (goOnF S s n j) f:=by
 have hs0:=h.stk n t ht
 have hcl:(s.cset j { c with pc:=c.pc + 1 }).calls.length = s.calls.length:=by simp [PRun.cset]
 unfold goOnF
 rw [ht,hc]
 simp only
 cases hpop:popS (s.cset j { c with pc:=c.pc + 1 }).calls t.sarr (t.slen - 1) j with
 | none =>
   have i1:=h.go (t':=clo { t with slen:=1 } 3) ht hj hc hp rfl (by show 1 ≤ _;omega) (by show 0 < 1;omega) rfl rfl rfl rfl (by show (2:Int) < 3;omega) hwt (.inr (by show (3:Int) ≤ 3;omega)) (fun e=>by have:(2:Int) = 1:=e;omega)
   obtain ⟨b1,b2⟩:=hS _ n i1 hb1 hb2
   exact ⟨b1,⟨by rw [b2.tl,tset_len];rfl,by rw [b2.cl];exact hcl,b2.pl,b2.bl⟩⟩
 | some m =>
   obtain ⟨p1,p2⟩:=popS_top hpop hj
   have i1:=h.go (t':={ t with slen:=m + 1 }) ht hj hc hp rfl (by show m + 1 ≤ _;omega) (by show 0 < m + 1;omega) rfl rfl rfl rfl hst hwt (h.ed n t ht) (fun _ i x hi hx=>p2 i x hi hx)
   exact ⟨i1,⟨by rw [tset_len];rfl,hcl,by show s.pool.length ≤ _;omega,by show s.behs.length ≤ _;omega⟩⟩
end Go.Ab
