/- Part of the proof. -/
import Derived.Test.YthgicbkdckpeaaaDoorG18
set_option linter.unusedSimpArgs false
set_option linter.unusedVariables false
set_option maxHeartbeats 4000000
namespace Go.Ab
open Go Go.Ab Go.Proofs Go.Ab.Ty
theorem WF.k {s:PRun} (hw:WF s) {k:Nat} {t:PTask} (ht:s.tasks[k]? = some t):ix (.tsk k) < NN ∧ ix (.stk k) < NN ∧ ix (.kid k) < NN ∧ ix (.spn k) < NN ∧ k < s.tasks.length ∧ ((List.range s.tasks.length).map ptK)[k]? = some (ptK k):=by
 have hk:k < s.tasks.length:=(List.getElem?_eq_some_iff.1 ht).1
 refine ⟨ix_lt (dom_inR hw (a:=.tsk k) hk),ix_lt (dom_inR hw (a:=.stk k) hk),ix_lt (dom_inR hw (a:=.kid k) hk),ix_lt (dom_inR hw (a:=.spn k) hk),hk,?_⟩
 rw [List.getElem?_map,List.getElem?_range hk];rfl
theorem WF.c {s:PRun} (hw:WF s) {j:Nat} {c:PCall} (hc:s.calls[j]? = some c):ix (.cal j) < NN ∧ ix (.vrs j) < NN:=by
 have hj:j < s.calls.length:=(List.getElem?_eq_some_iff.1 hc).1
 exact ⟨ix_lt (dom_inR hw (a:=.cal j) hj),ix_lt (dom_inR hw (a:=.vrs j) hj)⟩
theorem WF.p {s:PRun} (hw:WF s) {j:Nat} {l:List Int} (hc:s.pool[j]? = some l):ix (.clk j) < NN ∧ l.length = 32:=by
 have hj:j < s.pool.length:=(List.getElem?_eq_some_iff.1 hc).1
 exact ⟨ix_lt (dom_inR hw (a:=.clk j) hj),hw.pl l (List.mem_of_getElem? hc)⟩
theorem GRun.gl {P:Program} {n:Fr} {HS:Nat→List ABlk} {m:Nat} {o:LOp} {l:List LOp} {sl:List (Option Nat)} {E:Env} {K:Env→Prop} {t:Tmp} {want:Bool} {L:List Bool} {v:AV} (hg:o.g = some (t,want)) (hd:dstOk n o.dst = true) (hb:gval want (lk E t) = some L)
 (h:allL L = true→∀ c,c ≤ m→QL P (HS c) (fun x=>stripL L (ev E x)) o.op v) (hr:GRun P n HS m l sl K (putE E o.dst (wrapL L v))):GRun P n HS m (o :: l) (none :: sl) K E:=
 let ⟨E',h1,h2⟩:=hr
 ⟨E',.q o l sl E (wrapL L v) E' (fun c hc=>.gq t want L v hg hd hb fun ha=>by rw [show evF (lk E) = ev E from funext fun x=>(ev_eq E x).symm];exact h ha c hc) h1,h2⟩
theorem gG {P:Program} {n:Fr} {HS:Nat→List ABlk} {o:LOp} {l:List LOp} {sl:List (Option Nat)} {E:Env} {K:Env→Prop} {t:Tmp} {want:Bool} {L:List Bool} {v:AV} (hr:GRun P n HS 1 l sl K (putE E o.dst (wrapL L v))) (hg:o.g = some (t,want):=by rfl) (hd:dstOk n o.dst = true:=by rfl) (hb:gval want (lk E t) = some L:=by (simp +decide only [go_sem, *] <;> rfl))
 (h0:qfun P (HS 0) (fun x=>stripL L (ev E x)) o.op = some v:=by (simp +decide only [go_sem, *] <;> rfl)) (h1:qfun P (HS 1) (fun x=>stripL L (ev E x)) o.op = some v:=by (simp +decide only [go_sem, *] <;> rfl)):GRun P n HS 1 (o :: l) (none :: sl) K E:=
 .gl hg hd hb (fun _ c hc=>ql_fun (by rcases (by omega:c = 0 ∨ c = 1) with h | h <;> subst h <;> assumption)) hr
theorem gX {P:Program} {n:Fr} {HS:Nat→List ABlk} {m:Nat} {o:LOp} {l:List LOp} {sl:List (Option Nat)} {E:Env} {K:Env→Prop} {t:Tmp} {want:Bool} {L:List Bool} {v:AV} (hr:GRun P n HS m l sl K (putE E o.dst (wrapL L v))) (hg:o.g = some (t,want):=by rfl) (hd:dstOk n o.dst = true:=by rfl) (hb:gval want (lk E t) = some L:=by (simp +decide only [go_sem, *] <;> rfl))
 (hx:allL L = false:=by (simp +decide only [go_sem,allL,Bool.false_and,Bool.and_false, *])):GRun P n HS m (o :: l) (none :: sl) K E:=
 .gl hg hd hb (fun h=>by rw [hx] at h;cases h) hr
abbrev stB (st:Stp):ABlk:=⟨70,6,[encS st]⟩
def room (s:PRun):Bool:=decide ((s.objs.length:Int) < 200)
def objL (s:PRun) (n:Int):Int:=(s.objs.getD n.toNat (0,0)).2
def canF (s:PRun) (c:PCall) (st:Stp):Bool:=
 if st.op = 1 then room s
 else if st.op = 2 then setB c [st.w] && (room s || decide (0 ≤ objL s (c.vars.getD st.w.toNat 0)))
 else if st.op = 3 then setB c [st.v,st.w]
 else if st.op = 4 ∨ st.op = 5 then setB c [st.v]
 else if st.op = 6 then bif setB c st.vars then decide ((s.tasks.length:Int) < 32) else false
 else if st.op = 8 ∨ st.op = 9 then setB c st.vars
 else true
structure Vok (s:PRun) (c:PCall) (st:Stp):Prop where
 v:(st.op = 1 ∨ st.op = 2 ∨ st.op = 3 ∨ st.op = 4 ∨ st.op = 5)→inV c st.v
 w:(st.op = 2 ∨ st.op = 3)→inV c st.w
 vs:(st.op = 6 ∨ st.op = 8 ∨ st.op = 9)→∀ v ∈ st.vars,inV c v
 ob:∀ x ∈ c.vars,x < s.objs.length
 vl:st.vars.length ≤ 1000
theorem RetH.runV {rs:List ResultVar} {n:Nat} {d:AV} {s':PRun} {E:Env} {H:List ABlk} {vs:List AV} (T:List ABlk) (hw:WF s') (hv:resVals Tryd.prog ⟨E,H⟩ rs = some vs) (hH:H = HH s' ++ T) (he:packA vs = d) (hd:RfA (· < NN) d):RetH Tryd.prog rs ⟨n,NN⟩ d (HH s') ⟨E,H⟩:=
 .run hw hv hH (by rw [he];exact hd.pub fun b hb=>pre_lt hb)
theorem can2 (a b:Bool):(bif a then true else b) = (a || b):=by cases a <;> rfl
theorem can_ok {s:PRun} (hw:WF s) {j:Nat} {c:PCall} {st:Stp} (hc:s.calls[j]? = some c) (hv:Vok s c st):FnH Tryd.prog 88 [ptR,encS st,ptC j] (HH s) (.bool (canF s c st)) (HH s):=by
 obtain ⟨hj,hj2⟩:=hw.c hc
 obtain ⟨R,hR⟩:∃ R,R = canF s c st:=⟨_,rfl⟩
 rw [← hR]
 have i1:∀ vs:List Int,(∀ v ∈ vs,inV c v)→vs.length ≤ 1000→FnH Tryd.prog 111 [ptC j,.lst (vs.map .int)] (HH s) (.bool (setB c vs)) (HH s):=fun vs h1 h2=>set_ok hw h1 (by omega) hc hj hj2
 have hrl:∀ vs:List Int,∀ a ∈ [ptC j,AV.lst (vs.map .int)],RfA (· < NN) a:=fun vs a ha=>by
  simp only [List.mem_cons,List.not_mem_nil,or_false] at ha
  rcases ha with rfl | rfl
  ·exact .ptr hj
  ·exact .pu (Pu_mapInt _)
 refine FnH.intro' [(0,ptR),(1,encS st),(2,ptC j)] 3 85 NN Tryd.func88 (by kernel_rfl) rfl rfl rfl rfl rfl (HH_len s) ?_
 obtain ⟨o,v,w,n,tk,vs⟩:=st
 obtain ⟨v1,v2,v3,v4,v5⟩:=hv
 simp only at v1 v2 v3 v5
 simp only [canF] at hR
 refine goF ?_
 refine ifA (fun h1=>?_) (fun h1=>?_)
 ·simp at h1
  rw [if_pos h1] at hR
  refine goF ?_
  rw [hR]
  clear hR i1 v1 v2 v3
  exact .runV [stB ⟨1,v,w,n,tk,vs⟩] hw (vs:=[.bool (room s)]) (by show resVals _ _ [.tmp 6] = _;simp +decide only [resVals,resVal,ldPtr,ldE,go_sem, *] <;> rfl) rfl rfl (.pu (.base _))
 simp at h1
 rw [if_neg h1] at hR
 refine goF ?_
 refine ifA (fun h2=>?_) (fun h2=>?_)
 ·simp at h2
  rw [if_pos h2] at hR
  have hw2:=v2 (.inl h2)
  have i2:=i1 [w] (by simp [hw2]) (by simp)
  obtain ⟨w0,w1⟩:=hw2
  obtain ⟨w',rfl⟩:∃ w':Nat,w = w':=⟨_,(Int.toNat_of_nonneg w0).symm⟩
  rw [Int.toNat_natCast] at w1
  obtain ⟨x,hx⟩:∃ x,c.vars[w']? = some x:=⟨_,List.getElem?_eq_getElem w1⟩
  have hvv:=vrsV_own (j:=j) hx
  have hidx:(c.vars.map AV.int)[w']? = some (.int x):=by rw [List.getElem?_map,hx];rfl
  have hxo:=v4 x (List.mem_of_getElem? hx)
  have hsx:setB c [(w':Int)] = !decide (x < 0):=by simp [setB,List.getD_eq_getElem?_getD,hx]
  have hgd:c.vars.getD (w':Int).toNat 0 = x:=by rw [Int.toNat_natCast,List.getD_eq_getElem?_getD,hx];rfl
  rw [hsx,hgd] at hR
  rw [hsx] at i2
  clear v1 v2 v3 hsx hgd h1 i1
  refine AWp.seq ?_
  by_cases hx0:x < 0
  ·have hdx:decide (x < 0) = true:=by simp [hx0]
   rw [hdx] at hR i2
   refine drS (k:=26) [none,none,none,none,some 0,none,none,none,none,none,none,none,none,none,none,none,none,none,none,none,none,none,none,none,none,none] (fun _=>HH s ++ [stB ⟨o,v,w',n,tk,vs⟩]) 1 follows ?_
   refine gS ?_
   refine gS ?_
   refine gS ?_
   refine GRun.q1 (v:=.lst [.int w']) rfl rfl (fun _ _=>ql_buildSlice (by decide) Tryd.underlying25 sz3 (by kernel_rfl) (by decide) (by (simp +decide only [List.map,go_sem, *] <;> rfl)) (by (simp +decide only [List.map,go_sem, *] <;> rfl)) rfl) ?_
   refine GRun.p1 (v:=.bool (false)) rfl rfl (fun ρ' h=>pl_callR hw hw i2 rfl ((h (.func 111) (by simp [Op.operands,Call.operands])).trans rfl) (by
    have e1:=(h (.tmp 21) (by simp [Op.operands,Call.operands])).trans (show _ = ptC j by simp +decide only [go_sem, *] <;> rfl)
    have e2:=(h (.tmp 24) (by simp [Op.operands,Call.operands])).trans (show _ = AV.lst [.int w'] by simp +decide only [go_sem, *] <;> rfl)
    simp only [List.map_cons,List.map_nil,e1,e2];rfl) (hrl _) (.pu (.base _))) ?_
   refine gS ?_
   refine gG ?_
   refine gG ?_
   refine gX (v:=.bad) ?_
   refine gX (v:=.bad) ?_
   refine gX (v:=.bad) ?_
   refine gX (v:=.bad) ?_
   refine gX (v:=.bad) ?_
   refine gX (v:=.bad) ?_
   refine gX (v:=.bad) ?_
   refine gX (v:=.bad) ?_
   refine gX (v:=.bad) ?_
   refine gX (v:=.bad) ?_
   refine gX (v:=.bad) ?_
   refine gX (v:=.bad) ?_
   refine gX (v:=.bad) ?_
   refine gX (v:=.bad) ?_
   refine gX (v:=.bad) ?_
   refine gX (v:=.bad) ?_
   refine gX (v:=.bool false) ?_
   refine gS ?_
   refine GRun.nil ?_
   refine goF ?_
   rw [hR]
   clear hR hrl i2
   exact .runV [stB ⟨2,v,w',n,tk,vs⟩] hw (vs:=[.bool false]) (by show resVals _ _ [.tmp 6] = _;simp +decide only [resVals,resVal,ldPtr,ldE,go_sem, *] <;> rfl) rfl (by simp [packA]) (.pu (.base _))
  have hdx:decide (x < 0) = false:=by simp;omega
  rw [hdx] at hR i2
  obtain ⟨x',rfl⟩:∃ x':Nat,x = x':=⟨_,(Int.toNat_of_nonneg (by omega)).symm⟩
  have hxl:x' < s.objs.length:=by omega
  obtain ⟨y,hy⟩:∃ y,s.objs[x']? = some y:=⟨_,List.getElem?_eq_getElem hxl⟩
  have hyo:objL s (x':Int) = y.2:=by simp [objL,List.getD_eq_getElem?_getD,hy]
  have hyx:(s.objs.map encO)[x']? = some (encO y):=by rw [List.getElem?_map,hy];rfl
  rw [hyo] at hR
  clear hyo hdx hx0 v4
  refine drS (k:=26) [none,none,none,none,some 0,none,none,none,none,none,none,none,none,none,none,none,none,none,none,none,none,none,none,none,none,none] (fun _=>HH s ++ [stB ⟨o,v,w',n,tk,vs⟩]) 1 follows ?_
  refine gS ?_
  refine gS ?_
  refine gS ?_
  refine GRun.q1 (v:=.lst [.int w']) rfl rfl (fun _ _=>ql_buildSlice (by decide) Tryd.underlying25 sz3 (by kernel_rfl) (by decide) (by (simp +decide only [List.map,go_sem, *] <;> rfl)) (by (simp +decide only [List.map,go_sem, *] <;> rfl)) rfl) ?_
  refine GRun.p1 (v:=.bool (true)) rfl rfl (fun ρ' h=>pl_callR hw hw i2 rfl ((h (.func 111) (by simp [Op.operands,Call.operands])).trans rfl) (by
   have e1:=(h (.tmp 21) (by simp [Op.operands,Call.operands])).trans (show _ = ptC j by simp +decide only [go_sem, *] <;> rfl)
   have e2:=(h (.tmp 24) (by simp [Op.operands,Call.operands])).trans (show _ = AV.lst [.int w'] by simp +decide only [go_sem, *] <;> rfl)
   simp only [List.map_cons,List.map_nil,e1,e2];rfl) (hrl _) (.pu (.base _))) ?_
  refine gS ?_
  refine gG ?_
  refine gG ?_
  refine gG ?_
  refine gG ?_
  refine gG ?_
  refine gG ?_
  refine gG ?_
  refine gG ?_
  refine gG ?_
  refine gG ?_
  refine gG ?_
  refine gG ?_
  refine GRun.gl (L:=[true,!decide ((s.objs.length:Int) < 200)]) (v:=.ptr (ix (.vrs j)) c.vars.length w' 0) rfl rfl (by simp +decide only [go_sem] <;> rfl) (fun _ _ _=>ql_ixo (n:=w') (by simp +decide only [go_sem, *] <;> rfl) (by simp +decide only [go_sem, *] <;> rfl) Tryd.underlying25 (by simp +decide only [go_sem, *] <;> rfl) (by simp) w1 (by simp +decide only [go_sem, *] <;> rfl)) ?_
  refine gG ?_
  refine GRun.gl (L:=[true,!decide ((s.objs.length:Int) < 200)]) (v:=.ptr (ix .ob) s.objs.length x' 0) rfl rfl (by simp +decide only [go_sem] <;> rfl) (fun _ _ _=>ql_ixo (n:=x') (by simp +decide only [go_sem, *] <;> rfl) (by simp +decide only [go_sem, *] <;> rfl) Tryd.underlying79 (by simp +decide only [go_sem, *] <;> rfl) (by simp) hxl (by simp +decide only [go_sem, *] <;> rfl)) ?_
  refine gG ?_
  refine gG ?_
  refine gG ?_
  refine gG ?_
  refine gS ?_
  refine GRun.nil ?_
  refine goF ?_
  rw [hR]
  clear hR hrl i2
  exact .runV [stB ⟨2,v,w',n,tk,vs⟩] hw (vs:=[.bool (bif decide ((s.objs.length:Int) < 200) then true else decide (0 ≤ y.2))]) (by show resVals _ _ [.tmp 6] = _;simp +decide only [resVals,resVal,ldPtr,ldE,go_sem, *] <;> rfl) rfl (by rw [can2,Bool.not_false,Bool.true_and];unfold room;rfl) (.pu (.base _))
 simp at h2
 rw [if_neg h2] at hR
 refine goF ?_
 refine ifA (fun h3=>?_) (fun h3=>?_)
 ·simp at h3
  rw [if_pos h3] at hR
  have i2:=i1 [v,w] (by simp [v1 (by omega),v2 (by omega)]) (by simp)
  refine goF ?_
  refine ARun.p1 rfl rfl (pl_callR hw hw (T:=[stB ⟨3,v,w,n,tk,vs⟩]) i2 rfl (by simp +decide only [go_sem, *] <;> rfl) (by simp +decide only [go_sem, *] <;> rfl) (hrl _) (.pu (.base _))) ?_
  refine goF ?_
  rw [hR]
  clear hR i1 v1 v2 v3
  exact .runV [stB ⟨3,v,w,n,tk,vs⟩] hw (vs:=[.bool (setB c [v,w])]) (by show resVals _ _ [.tmp 6] = _;simp +decide only [resVals,resVal,ldPtr,ldE,go_sem, *] <;> rfl) rfl rfl (.pu (.base _))
 simp at h3
 rw [if_neg h3] at hR
 refine goF ?_
 have i2:(o = 4 ∨ o = 5)→FnH Tryd.prog 111 [ptC j,.lst ([v].map .int)] (HH s) (.bool (setB c [v])) (HH s):=fun h=>i1 [v] (by simp [v1 (by omega)]) (by simp)
 refine ifA (fun h4=>?_) (fun h4=>?_)
 ·simp at h4
  rw [if_pos (.inl h4)] at hR
  replace i2:=i2 (.inl h4)
  refine goF ?_
  refine iftd_ rfl (by omega) ?_
  refine goF ?_
  refine ARun.p1 rfl rfl (pl_callR hw hw (T:=[stB ⟨4,v,w,n,tk,vs⟩]) i2 rfl (by simp +decide only [go_sem, *] <;> rfl) (by simp +decide only [go_sem, *] <;> rfl) (hrl _) (.pu (.base _))) ?_
  refine goF ?_
  rw [hR]
  clear hR i1 v1 v2 v3
  exact .runV [stB ⟨4,v,w,n,tk,vs⟩] hw (vs:=[.bool (setB c [v])]) (by show resVals _ _ [.tmp 6] = _;simp +decide only [resVals,resVal,ldPtr,ldE,go_sem, *] <;> rfl) rfl rfl (.pu (.base _))
 simp at h4
 refine goF ?_
 refine ifA (fun h5=>?_) (fun h5=>?_)
 ·simp at h5
  rw [if_pos (.inr h5)] at hR
  replace i2:=i2 (.inr h5)
  refine goF ?_
  refine ARun.p1 rfl rfl (pl_callR hw hw (T:=[stB ⟨5,v,w,n,tk,vs⟩]) i2 rfl (by simp +decide only [go_sem, *] <;> rfl) (by simp +decide only [go_sem, *] <;> rfl) (hrl _) (.pu (.base _))) ?_
  refine goF ?_
  rw [hR]
  clear hR i1 v1 v2 v3
  exact .runV [stB ⟨5,v,w,n,tk,vs⟩] hw (vs:=[.bool (setB c [v])]) (by show resVals _ _ [.tmp 6] = _;simp +decide only [resVals,resVal,ldPtr,ldE,go_sem, *] <;> rfl) rfl rfl (.pu (.base _))
 simp at h5
 rw [if_neg (by omega)] at hR
 refine goF ?_
 clear i2
 have i2:(o = 6 ∨ o = 8 ∨ o = 9)→FnH Tryd.prog 111 [ptC j,.lst (vs.map .int)] (HH s) (.bool (setB c vs)) (HH s):=fun h=>i1 vs (v3 h) v5
 refine ifA (fun h6=>?_) (fun h6=>?_)
 ·simp at h6
  rw [if_pos h6] at hR
  replace i2:=i2 (.inl h6)
  refine goF ?_
  refine ARun.p1 rfl rfl (pl_callR hw hw (T:=[stB ⟨6,v,w,n,tk,vs⟩]) i2 rfl (by simp +decide only [go_sem, *] <;> rfl) (by simp +decide only [go_sem, *] <;> rfl) (hrl _) (.pu (.base _))) ?_
  refine goF ?_
  rw [hR]
  clear hR i1 v1 v2 v3
  exact .runV [stB ⟨6,v,w,n,tk,vs⟩] hw (vs:=[.bool (bif setB c vs then decide ((s.tasks.length:Int) < 32) else false)]) (by show resVals _ _ [.tmp 6] = _;simp +decide only [resVals,resVal,ldPtr,ldE,go_sem, *] <;> rfl) rfl rfl (.pu (.base _))
 simp at h6
 rw [if_neg h6] at hR
 refine goF ?_
 refine ifA (fun h8=>?_) (fun h8=>?_)
 ·simp at h8
  rw [if_pos (.inl h8)] at hR
  replace i2:=i2 (.inr (.inl h8))
  refine goF ?_
  refine iftd_ rfl (by omega) ?_
  refine goF ?_
  refine ARun.p1 rfl rfl (pl_callR hw hw (T:=[stB ⟨8,v,w,n,tk,vs⟩]) i2 rfl (by simp +decide only [go_sem, *] <;> rfl) (by simp +decide only [go_sem, *] <;> rfl) (hrl _) (.pu (.base _))) ?_
  refine goF ?_
  rw [hR]
  clear hR i1 v1 v2 v3
  exact .runV [stB ⟨8,v,w,n,tk,vs⟩] hw (vs:=[.bool (setB c vs)]) (by show resVals _ _ [.tmp 6] = _;simp +decide only [resVals,resVal,ldPtr,ldE,go_sem, *] <;> rfl) rfl rfl (.pu (.base _))
 simp at h8
 refine goF ?_
 refine ifA (fun h9=>?_) (fun h9=>?_)
 ·simp at h9
  rw [if_pos (.inr h9)] at hR
  replace i2:=i2 (.inr (.inr h9))
  refine goF ?_
  refine ARun.p1 rfl rfl (pl_callR hw hw (T:=[stB ⟨9,v,w,n,tk,vs⟩]) i2 rfl (by simp +decide only [go_sem, *] <;> rfl) (by simp +decide only [go_sem, *] <;> rfl) (hrl _) (.pu (.base _))) ?_
  refine goF ?_
  rw [hR]
  clear hR i1 v1 v2 v3
  exact .runV [stB ⟨9,v,w,n,tk,vs⟩] hw (vs:=[.bool (setB c vs)]) (by show resVals _ _ [.tmp 6] = _;simp +decide only [resVals,resVal,ldPtr,ldE,go_sem, *] <;> rfl) rfl rfl (.pu (.base _))
 simp at h9
 rw [if_neg (by omega)] at hR
 refine goF ?_
 rw [hR]
 clear hR i1 v1 v2 v3
 exact .runV [stB ⟨o,v,w,n,tk,vs⟩] hw (vs:=[.bool true]) (by show resVals _ _ [.tmp 6] = _;simp +decide only [resVals,resVal,ldPtr,ldE,go_sem, *] <;> rfl) rfl rfl (.pu (.base _))
end Go.Ab
set_option maxHeartbeats 4000000
namespace Go.Ab
open Go Go.Ab Go.Proofs Go.Ab.Ty
structure Nx (s:PRun) (k:Nat) (t:PTask) (j:Nat) (c:PCall) (st:Stp):Prop where
 ht:s.tasks[k]? = some t
 hm:∃ m,t.slen = m + 1 ∧ t.sarr[m]? = some j
 hc:s.calls[j]? = some c
 hi:∃ i:Nat,c.pc = i ∧ c.code.steps[i]? = some st
theorem nextN {s:PRun} (hw:WF s) {k j:Nat} {t:PTask} {c:PCall} {st:Stp} (h:Nx s k t j c st):FnH Tryd.prog 86 [ptK k] (HH s) (.tup [encS st,ptC j]) (HH s):=by
 obtain ⟨m,h1,h2⟩:=h.hm
 obtain ⟨i,h3,h4⟩:=h.hi
 have hk:=hw.k h.ht
 have hc:=hw.c h.hc
 exact next_ok hw h.ht hk.1 hk.2.1 h1 h2 h.hc hc.1 h3 h4
def actOf (c:PCall) (st:Stp):Int:=if st.op = 8 then st.n else c.actor
def hasN (s:PRun) (k:Nat) (a:Int) (i:Nat):Bool:=match s.tasks[i]? with
 | some t=>bif (i:Int) != (k:Int) then decide (t.has = a) else false
 | none=>false
def blkF (s:PRun) (k:Nat) (a:Int):Bool:=!decide (a < 0) && (List.range s.tasks.length).any (hasN s k a)
theorem blocked_ok {s:PRun} (hw:WF s) {k j:Nat} {t:PTask} {c:PCall} {st:Stp} (h:Nx s k t j c st):FnH Tryd.prog 110 [ptR,.int k] (HH s) (.bool (blkF s k (actOf c st))) (HH s):=by
 have i1:=nextN hw h
 have ht:=h.ht
 have hc:=h.hc
 obtain ⟨hk1,hk2,hk3,hk4,hkl,hrg⟩:=hw.k ht
 obtain ⟨hj,hj2⟩:=hw.c hc
 have hrl:∀ a ∈ [ptK k],RfA (· < NN) a:=fun a ha=>by rw [List.mem_singleton] at ha;subst ha;exact .ptr hk1
 obtain ⟨R,hR⟩:∃ R,R = blkF s k (actOf c st):=⟨_,rfl⟩
 rw [← hR]
 clear h
 refine FnH.intro' [(0,ptR),(1,.int k)] 2 54 NN Tryd.func110 (by kernel_rfl) rfl rfl rfl rfl rfl (HH_len s) ?_
 refine goF ?_
 refine ARun.q1 rfl rfl (ql_ixo (n:=k) (b:=ix .tk) (by simp +decide only [go_sem, *] <;> rfl) (by simp +decide only [go_sem, *] <;> rfl) Tryd.underlying80 (by simp +decide only [go_sem, *] <;> rfl) (by simp) hkl (by simp +decide only [go_sem, *] <;> rfl)) ?_
 refine goF ?_
 refine ARun.p1 rfl rfl (pl_callW i1 (Nat.le_refl _) rfl (by simp +decide only [go_sem, *] <;> rfl) (by simp +decide only [go_sem, *] <;> rfl)) ?_
 refine goF ?_
 have hlen:(HH s).length = NN:=HH_len s
 refine AWp.join ⟨[(0,ptR),(1,.int k),(7,.int (actOf c st))],HH s ++ [stB st]⟩ ?_ ?_
 ·refine ifA (fun h8=>?_) (fun h8=>?_)
  ·simp at h8
   refine goF ?_
   rw [show actOf c st = st.n by rw [actOf,if_pos h8]]
   rw [← h8]
   exact .wf
  simp at h8
  refine goF ?_
  rw [show actOf c st = c.actor by rw [actOf,if_neg h8]]
  exact .wf
 generalize actOf c st = a at *
 clear i1 ht hc hj hj2
 refine goF ?_
 refine ifA (fun ha=>?_) (fun ha=>?_)
 ·simp at ha
  rw [show R = false by rw [hR,blkF];simp [ha]]
  refine goF ?_
  exact .runV [stB st] hw (vs:=[.bool false]) (by show resVals _ _ [.tmp 4] = _;simp +decide only [resVals,resVal,ldPtr,ldE,go_sem, *] <;> rfl) rfl rfl (.pu (.base _))
 simp at ha
 have hR2:R = (List.range s.tasks.length).any (hasN s k a):=by rw [hR,blkF];simp;intro _ _ _;omega
 have hn32:=hw.nT
 refine goF ?_
 refine AWp.loop (J:=fun i:Nat=>i ≤ s.tasks.length ∧ Fst (fun x=>hasN s k a x = false) (List.range s.tasks.length) i) (fun i=>⟨[(0,ptR),(1,.int k),(7,.int a),(35,.own (ix .tk) s.tasks.length 0 s.tasks.length),(36,.int s.tasks.length),(37,.int i)],HH s ++ [stB st]⟩) (fun i=>s.tasks.length - i) 0 ⟨Nat.zero_le _,.zero _ _⟩ .wf ?_
 rintro i ⟨hi,he⟩
 refine goF ?_
 refine ifA (fun hd=>?_) (fun hd=>?_)
 ·simp at hd
  obtain ⟨ti,hti⟩:∃ ti,s.tasks[i]? = some ti:=⟨_,List.getElem?_eq_getElem hd⟩
  obtain ⟨g1,g2,g3,g4,_,g6⟩:=hw.k hti
  have hh:hasN s k a i = bif (i:Int) != (k:Int) then decide (ti.has = a) else false:=by unfold hasN;rw [hti]
  have hsu:hasN s k a i = false→Fst (fun x=>hasN s k a x = false) (List.range s.tasks.length) (i + 1):=fun hp=>he.succ (by rw [List.getElem?_range hd]) hp
  have hny:hasN s k a i = true→R = true:=fun hp=>by rw [hR2,List.any_eq_true];exact ⟨i,List.mem_range.2 hd,hp⟩
  clear he hR hR2
  refine goF ?_
  refine ARun.q1 rfl rfl (ql_ixo (n:=i) (b:=ix .tk) (by simp +decide only [go_sem, *] <;> rfl) (by simp +decide only [go_sem, *] <;> rfl) Tryd.underlying80 (by simp +decide only [go_sem, *] <;> rfl) (by simp) hd (by simp +decide only [go_sem, *] <;> rfl)) ?_
  refine goF ?_
  rw [← hh]
  refine ifA (fun hb=>?_) (fun hb=>?_)
  ·rw [hny hb]
   clear hny hsu hh
   refine goF ?_
   exact .runV [stB st] hw (vs:=[.bool true]) (by show resVals _ _ [.tmp 4] = _;simp +decide only [resVals,resVal,ldPtr,ldE,go_sem, *] <;> rfl) rfl rfl (.pu (.base _))
  clear hny
  refine goF ?_
  rw [wrap_succ (by omega)]
  exact ⟨i + 1,⟨hd,hsu hb⟩,by omega,.wf⟩
 simp at hd
 obtain rfl:i = s.tasks.length:=by omega
 rw [show R = false by rw [hR2,List.any_eq_false];exact fun x hx=>by simp [he.all (by simp) x hx]]
 refine goF ?_
 exact .runV [stB st] hw (vs:=[.bool false]) (by show resVals _ _ [.tmp 4] = _;simp +decide only [resVals,resVal,ldPtr,ldE,go_sem, *] <;> rfl) rfl rfl (.pu (.base _))
end Go.Ab
set_option maxHeartbeats 4000000
namespace Go.Ab
open Go Go.Ab Go.Proofs Go.Ab.Ty
def passE (ts:List PTask):Nat→List Int→List Int × Bool
 | 0,L=>(L,false)
 | k + 1,L=>match ts[k]? with
   | some t=>if 0 ≤ t.waits ∧ (passE ts k L).1.getD t.waits.toNat 0 < (passE ts k L).1.getD k 0 then ((passE ts k L).1.set t.waits.toNat ((passE ts k L).1.getD k 0),true) else passE ts k L
   | none=>passE ts k L
def effI (ts:List PTask):Nat→List Int→List Int
 | 0,L=>L
 | f + 1,L=>if (passE ts ts.length L).2 then effI ts f (passE ts ts.length L).1 else (passE ts ts.length L).1
def effF (s:PRun):List Int:=effI s.tasks 200 (s.tasks.map (·.prio))
def muE (L:List Int):Nat:=(L.map fun x=>(3 - x).toNat).sum
def b3 (L:List Int):Prop:=∀ x ∈ L,x ≤ 3
theorem muE_set:∀ (L:List Int) (w:Nat) (x:Int),w < L.length→L.getD w 0 < x→x ≤ 3→muE (L.set w x) < muE L
 | [],w,x,h,_,_=>by simp at h
 | a :: L,0,x,_,h,h3=>by
   simp only [List.getD_cons_zero] at h
   simp only [muE,List.set_cons_zero,List.map_cons,List.sum_cons]
   omega
 | a :: L,w + 1,x,hw,h,h3=>by
   have:=muE_set L w x (by simpa using hw) (by simpa using h) h3
   simp only [muE,List.set_cons_succ,List.map_cons,List.sum_cons] at this ⊢
   omega
theorem passE_ok {ts:List PTask} {L:List Int} (hl:L.length = ts.length) (h3:b3 L) (hwt:∀ t ∈ ts,t.waits < ts.length):∀ k,k ≤ ts.length→(passE ts k L).1.length = ts.length ∧ b3 (passE ts k L).1 ∧ muE (passE ts k L).1 ≤ muE L ∧ ((passE ts k L).2 = true→muE (passE ts k L).1 < muE L)
 | 0,_=>⟨hl,h3,Nat.le_refl _,fun h=>by cases h⟩
 | k + 1,hk=>by
   obtain ⟨a1,a2,a3,a4⟩:=passE_ok hl h3 hwt k (by omega)
   have ht:ts[k]? = some ts[k]:=List.getElem?_eq_getElem hk
   simp only [passE,ht]
   split
   ·rename_i hc
    have hw1:=hwt ts[k] (List.getElem_mem _)
    have hk3:(passE ts k L).1.getD k 0 ≤ 3:=by
     rw [List.getD_eq_getElem?_getD,List.getElem?_eq_getElem (by omega)]
     exact a2 _ (List.getElem_mem _)
    have hm:=muE_set (passE ts k L).1 ts[k].waits.toNat _ (by omega) hc.2 hk3
    refine ⟨by rw [List.length_set];exact a1,fun x hx=>?_,Nat.le_of_lt (Nat.lt_of_lt_of_le hm a3),fun _=>Nat.lt_of_lt_of_le hm a3⟩
    rcases List.mem_or_eq_of_mem_set hx with h | h
    ·exact a2 x h
    ·rw [h];exact hk3
   ·exact ⟨a1,a2,a3,a4⟩
structure Prok (s:PRun):Prop where
 pr:∀ t ∈ s.tasks,0 ≤ t.prio ∧ t.prio ≤ 3
 wt:∀ t ∈ s.tasks,t.waits < s.tasks.length
theorem muE_le {L:List Int} (h:∀ x ∈ L,0 ≤ x):muE L ≤ 3 * L.length:=by
 induction L with
 | nil=>simp [muE]
 | cons a L ih =>
   have h1:=ih fun x hx=>h x (by simp [hx])
   have h2:=h a (by simp)
   simp only [muE,List.map_cons,List.sum_cons,List.length_cons] at h1 ⊢
   omega
def prI (l:List Int) (i:Nat):List Int:=l.take i ++ List.replicate (l.length - i) 0
theorem prI_len {l:List Int} {i:Nat} (h:i ≤ l.length):(prI l i).length = l.length:=by unfold prI;simp;omega
theorem prI_zero (l:List Int):(prI l 0).map AV.int = List.replicate l.length (AV.int 0):=by unfold prI;simp
theorem prI_succ {l:List Int} {i:Nat} (h:i < l.length):(prI l i).set i l[i] = prI l (i + 1):=by
 unfold prI
 rw [List.set_append_right _ _ (by simp;omega),List.length_take,show i - min i l.length = 0 by omega,show l.length - i = (l.length - (i + 1)) + 1 by omega,List.replicate_succ,List.set_cons_zero,List.take_succ_eq_append_getElem h,List.append_assoc];rfl
theorem prI_all (l:List Int):prI l l.length = l:=by unfold prI;simp
theorem effective_ok {s:PRun} (hw:WF s) (hp:Prok s):FnH Tryd.prog 109 [ptR] (HH s) (.own NN s.tasks.length 0 s.tasks.length) (HH s ++ [intB (effF s)]):=by
 obtain ⟨R,hR⟩:∃ R,R = effF s:=⟨_,rfl⟩
 rw [← hR]
 have hn32:=hw.nT
 have hlen:(HH s).length = NN:=HH_len s
 refine FnH.intro' [(0,ptR)] 1 75 NN Tryd.func109 (by kernel_rfl) rfl rfl rfl rfl rfl (HH_len s) ?_
 refine goF ?_
 refine ARun.p1 rfl rfl (pl_make (z:=.int 0) (by simp +decide only [go_sem, *] <;> rfl) (by simp +decide only [go_sem, *] <;> rfl) Tryd.underlying25 el3 zero3 rfl (by omega) (Int.le_refl _) (by omega) (by omega)) ?_
 refine goF ?_
 obtain ⟨P,hP⟩:∃ P,P = s.tasks.map (·.prio):=⟨_,rfl⟩
 have hPl:P.length = s.tasks.length:=by rw [hP,List.length_map]
 have hpg:Hid (∀ (i:Nat) (t:PTask),s.tasks[i]? = some t→P[i]? = some t.prio):=⟨fun i (t:PTask) h=>by rw [hP,List.getElem?_map,h];rfl⟩
 replace hR:Hid (R = effI s.tasks 200 P):=⟨by rw [hR,hP];rfl⟩
 have hPm:Hid (b3 P ∧ muE P ≤ 96):=⟨by
  rw [hP]
  refine ⟨fun x hx=>?_,?_⟩
  ·obtain ⟨t,h,rfl⟩:=List.mem_map.1 hx;exact (hp.pr t h).2
  ·have:=muE_le (L:=s.tasks.map (·.prio)) fun x hx=>by obtain ⟨t,h,rfl⟩:=List.mem_map.1 hx;exact (hp.pr t h).1
   rw [List.length_map] at this;omega⟩
 clear hP
 rw [← hPl,← prI_zero P,hPl]
 refine AWp.loop (J:=fun i:Nat=>i ≤ s.tasks.length) (fun i=>⟨[(0,ptR),(3,.own NN s.tasks.length 0 s.tasks.length),(18,.own (ix .tk) s.tasks.length 0 s.tasks.length),(19,.int s.tasks.length),(20,.int i)],HH s ++ [intB (prI P i)]⟩) (fun i=>s.tasks.length - i) 0 (Nat.zero_le _) .wf ?_
 ·rintro i hi
  have hpl:=prI_len (l:=P) (i:=i) (by omega)
  rw [hPl] at hpl
  refine goF ?_
  refine ifA (fun hd=>?_) (fun hd=>?_)
  ·simp at hd
   obtain ⟨ti,hti⟩:∃ ti,s.tasks[i]? = some ti:=⟨_,List.getElem?_eq_getElem hd⟩
   obtain ⟨g1,g2,g3,g4,_,g6⟩:=hw.k hti
   have hps:=prI_succ (l:=P) (i:=i) (by omega)
   have hpi:P[i]'(by omega) = ti.prio:=by
    have h1:=hpg.out i ti hti
    rw [List.getElem?_eq_getElem (by omega)] at h1;injection h1
   rw [hpi] at hps
   clear hpi
   refine goF ?_
   refine ARun.q1 rfl rfl (ql_ixo (n:=i) (b:=ix .tk) (by simp +decide only [go_sem, *] <;> rfl) (by simp +decide only [go_sem, *] <;> rfl) Tryd.underlying80 (by simp +decide only [go_sem, *] <;> rfl) (by simp) hd (by simp +decide only [go_sem, *] <;> rfl)) ?_
   refine goF ?_
   refine ARun.q1 rfl rfl (ql_ixo (n:=i) (b:=NN) (by simp +decide only [go_sem, *] <;> rfl) (by simp +decide only [go_sem, *] <;> rfl) Tryd.underlying25 (by simp +decide only [go_sem, *] <;> rfl) (by simp [hpl]) hd (by simp +decide only [go_sem, *] <;> rfl)) ?_
   refine goF ?_
   refine ARun.p1 rfl rfl (pl_store_own (f:=AV.int) (l:=prI P i) (b:=NN) (tot:=s.tasks.length) (i:=i) (ty:=3) (sz:=1) ti.prio (by simp +decide only [go_sem, *] <;> rfl) (by simp +decide only [go_sem, *] <;> rfl) (by simp +decide only [go_sem, *] <;> rfl) hpl (by omega) sz3 rfl rfl) ?_
   refine goF ?_
   rw [wrap_succ (by omega)]
   refine ⟨i + 1,hd,by omega,?_⟩
   rw [← hps]
   exact .wf
  simp at hd
  obtain rfl:i = s.tasks.length:=by omega
  rw [show prI P s.tasks.length = P by rw [← hPl];exact prI_all P]
  refine goF ?_
  refine AWp.loop (J:=fun x:Nat × List Int × Bool=>x.1 + muE x.2.1 ≤ 96 ∧ x.2.1.length = s.tasks.length ∧ b3 x.2.1 ∧ (if x.2.2 then effI s.tasks (200 - x.1) x.2.1 = R else x.2.1 = R)) (fun x=>⟨[(0,ptR),(3,.own NN s.tasks.length 0 s.tasks.length),(6,.bool x.2.2)],HH s ++ [intB x.2.1]⟩) (fun x=>2 * muE x.2.1 + (if x.2.2 then 1 else 0)) (0,P,true) ⟨by have:=hPm.out.2;simp only;omega,hPl,hPm.out.1,by simp;exact hR.out.symm⟩ .wf ?_
  rintro ⟨m,L,b⟩ ⟨j1,j2,j3,j4⟩
  simp only at j1 j2 j3 j4
  clear hPm hpg hR hPl
  refine goF ?_
  cases b with
  | false =>
    simp at j4
    subst j4
    refine iff_ ?_ rfl rfl
    refine goF ?_
    exact RetH.same (vs:=[.own NN s.tasks.length 0 s.tasks.length]) (by show resVals _ _ [.tmp 2] = _;simp +decide only [resVals,resVal,ldPtr,ldE,go_sem, *] <;> rfl) rfl rfl
  | true =>
    simp at j4
    refine ift_ ?_ rfl rfl
    refine goF ?_
    refine AWp.loop (J:=fun i:Nat=>i ≤ s.tasks.length) (fun i=>⟨[(0,ptR),(3,.own NN s.tasks.length 0 s.tasks.length),(6,.bool (passE s.tasks i L).2),(37,.own (ix .tk) s.tasks.length 0 s.tasks.length),(38,.int s.tasks.length),(39,.int i)],HH s ++ [intB (passE s.tasks i L).1]⟩) (fun i=>s.tasks.length - i) 0 (Nat.zero_le _) .wf ?_
    rintro i hi
    obtain ⟨a1,a2,a3,a4⟩:=passE_ok j2 j3 hp.wt i hi
    refine goF ?_
    refine ifA (fun hd=>?_) (fun hd=>?_)
    ·simp at hd
     obtain ⟨ti,hti⟩:∃ ti,s.tasks[i]? = some ti:=⟨_,List.getElem?_eq_getElem hd⟩
     obtain ⟨g1,g2,g3,g4,_,g6⟩:=hw.k hti
     have hwt:=hp.wt ti (List.mem_of_getElem? hti)
     have hps:passE s.tasks (i + 1) L = if 0 ≤ ti.waits ∧ (passE s.tasks i L).1.getD ti.waits.toNat 0 < (passE s.tasks i L).1.getD i 0 then ((passE s.tasks i L).1.set ti.waits.toNat ((passE s.tasks i L).1.getD i 0),true) else passE s.tasks i L:=by simp only [passE,hti]
     clear j4
     obtain ⟨⟨A,b⟩,hA⟩:∃ A,A = passE s.tasks i L:=⟨_,rfl⟩
     rw [← hA] at hps a1 ⊢
     simp only at hps a1 ⊢
     clear hA a2 a3 a4
     obtain ⟨x,hx⟩:∃ x,A[i]? = some x:=⟨_,List.getElem?_eq_getElem (by omega)⟩
     have hxg:A.getD i 0 = x:=by rw [List.getD_eq_getElem?_getD,hx];rfl
     have hxm:(A.map AV.int)[i]? = some (.int x):=by rw [List.getElem?_map,hx];rfl
     rw [hxg] at hps
     by_cases hwa:0 ≤ ti.waits
     ·obtain ⟨v,hv⟩:∃ v:Nat,ti.waits = v:=⟨_,(Int.toNat_of_nonneg hwa).symm⟩
      rw [hv,Int.toNat_natCast] at hps
      rw [hv] at hwt
      obtain ⟨y,hy⟩:∃ y,A[v]? = some y:=⟨_,List.getElem?_eq_getElem (by omega)⟩
      have hyg:A.getD v 0 = y:=by rw [List.getD_eq_getElem?_getD,hy];rfl
      have hym:(A.map AV.int)[v]? = some (.int y):=by rw [List.getElem?_map,hy];rfl
      rw [hyg] at hps
      have hge:decide ((v:Int) ≥ 0) = true:=by simp
      have hvl:v < s.tasks.length:=by omega
      clear hxg hyg hwa hwt
      refine goF ?_
      refine ARun.q1 rfl rfl (ql_ixo (n:=i) (b:=ix .tk) (by simp +decide only [go_sem, *] <;> rfl) (by simp +decide only [go_sem, *] <;> rfl) Tryd.underlying80 (by simp +decide only [go_sem, *] <;> rfl) (by simp) hd (by simp +decide only [go_sem, *] <;> rfl)) ?_
      refine goF ?_
      refine drA (k:=17) follows (hr:=?_)
      refine goF ?_
      refine gqA (h:=fun hg=>ql_ixo (n:=v) (b:=NN) (by simp +decide only [go_sem, *] <;> rfl) (by simp +decide only [go_sem, *] <;> rfl) Tryd.underlying25 (by simp +decide only [go_sem, *] <;> rfl) (by simp [a1]) hvl (by simp +decide only [go_sem, *] <;> rfl)) (hr:=?_)
      refine goF ?_
      refine gqA (h:=fun hg=>ql_ixo (n:=i) (b:=NN) (by simp +decide only [go_sem, *] <;> rfl) (by simp +decide only [go_sem, *] <;> rfl) Tryd.underlying25 (by simp +decide only [go_sem, *] <;> rfl) (by simp [a1]) hd (by simp +decide only [go_sem, *] <;> rfl)) (hr:=?_)
      refine goF ?_
      refine ifA (fun hxy=>?_) (fun hxy=>?_)
      ·simp at hxy
       rw [if_pos ⟨by omega,hxy⟩] at hps
       refine goF ?_
       refine drA (k:=9) follows (hr:=?_)
       refine goF ?_
       refine ARun.q1 rfl rfl (ql_ixo (n:=i) (b:=NN) (by simp +decide only [go_sem, *] <;> rfl) (by simp +decide only [go_sem, *] <;> rfl) Tryd.underlying25 (by simp +decide only [go_sem, *] <;> rfl) (by simp [a1]) hd (by simp +decide only [go_sem, *] <;> rfl)) ?_
       refine goF ?_
       refine ARun.q1 rfl rfl (ql_ixo (n:=v) (b:=NN) (by simp +decide only [go_sem, *] <;> rfl) (by simp +decide only [go_sem, *] <;> rfl) Tryd.underlying25 (by simp +decide only [go_sem, *] <;> rfl) (by simp [a1]) hvl (by simp +decide only [go_sem, *] <;> rfl)) ?_
       refine goF ?_
       refine ARun.p1 rfl rfl (pl_store_own (f:=AV.int) (l:=A) (b:=NN) (tot:=s.tasks.length) (i:=v) (ty:=3) (sz:=1) x (by simp +decide only [go_sem, *] <;> rfl) (by simp +decide only [go_sem, *] <;> rfl) (by simp +decide only [go_sem, *] <;> rfl) a1 (by omega) sz3 rfl rfl) ?_
       refine goF ?_
       rw [wrap_succ (by omega)]
       refine ⟨i + 1,hd,by omega,?_⟩
       rw [hps]
       exact .wf
      simp at hxy
      rw [if_neg (by omega)] at hps
      refine goF ?_
      rw [wrap_succ (by omega)]
      refine ⟨i + 1,hd,by omega,?_⟩
      rw [hps]
      exact .wf
     rw [if_neg (by omega)] at hps
     have hge:decide (ti.waits ≥ 0) = false:=by simp;omega
     clear hxg hwt
     refine goF ?_
     refine ARun.q1 rfl rfl (ql_ixo (n:=i) (b:=ix .tk) (by simp +decide only [go_sem, *] <;> rfl) (by simp +decide only [go_sem, *] <;> rfl) Tryd.underlying80 (by simp +decide only [go_sem, *] <;> rfl) (by simp) hd (by simp +decide only [go_sem, *] <;> rfl)) ?_
     refine goF ?_
     refine drA (k:=17) follows (hr:=?_)
     refine goF ?_
     refine gxA .bad ?_
     refine gxA (.int 0) ?_
     refine goF ?_
     refine gxA .bad ?_
     refine gxA (.int 0) ?_
     refine goF ?_
     refine iff_ ?_ rfl rfl
     refine goF ?_
     rw [wrap_succ (by omega)]
     refine ⟨i + 1,hd,by omega,?_⟩
     rw [hps]
     exact .wf
    simp at hd
    obtain rfl:i = s.tasks.length:=by omega
    refine goF ?_
    cases hb:(passE s.tasks s.tasks.length L).2 with
    | true =>
      rw [show 200 - m = (199 - m) + 1 by omega,effI,if_pos hb] at j4
      have:=a4 hb
      refine ⟨(m + 1,(passE s.tasks s.tasks.length L).1,true),⟨by simp only;omega,a1,a2,?_⟩,by simp;omega,?_⟩
      ·simp only [if_true];rw [show 200 - (m + 1) = 199 - m by omega];exact j4
      ·clear j4;exact .wf
    | false =>
      rw [show 200 - m = (199 - m) + 1 by omega,effI,if_neg (by simp [hb])] at j4
      refine ⟨(m,(passE s.tasks s.tasks.length L).1,false),⟨by simp only;omega,a1,a2,?_⟩,by simp;omega,?_⟩
      ·simp;exact j4
      ·clear j4;exact .wf
end Go.Ab
