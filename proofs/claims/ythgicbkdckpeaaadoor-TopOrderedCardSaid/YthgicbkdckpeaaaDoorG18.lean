/- Part of the proof. -/
import Derived.Test.YthgicbkdckpeaaaDoorG17
set_option linter.unusedSimpArgs false
set_option linter.unusedVariables false
set_option maxHeartbeats 4000000
namespace Go.Ab
open Go Go.Ab Go.Proofs Go.Ab.Ty
structure WF (s:PRun):Prop where
 nT:s.tasks.length ≤ 32
 nC:s.calls.length ≤ MM
 nK:s.pool.length ≤ MM
 nB:s.behs.length ≤ MM
 pl:∀ l ∈ s.pool,l.length = 32
 cks:∀ j ∈ s.cks,j < s.pool.length
 acts:∀ j ∈ s.acts,j < s.pool.length
 ends:∀ o ∈ s.ends,∀ j,o = some j→j < s.pool.length
 tsk:∀ t ∈ s.tasks,(∀ j ∈ t.sarr,j < s.calls.length) ∧ t.slen ≤ t.sarr.length ∧ t.clk < s.pool.length ∧ ∀ b,t.beh = some b→b < s.behs.length
 behs:∀ l ∈ s.behs,l.length = 1 ∧ ∀ j ∈ l,j < s.pool.length
 endl:s.ends.length = s.tasks.length
 sz:s.objs.length ≤ 1000000 ∧ s.lines.length ≤ 1000000 ∧ s.accs.length ≤ 1000000 ∧ s.turns.length ≤ 1000000 ∧ s.cks.length ≤ 1000000 ∧ s.acts.length ≤ 1000 ∧ s.sched.length ≤ 1000000
 tsz:∀ t ∈ s.tasks,t.sarr.length ≤ 1000 ∧ t.kids.length ≤ 1000
 csz:∀ c ∈ s.calls,c.vars.length ≤ 1000 ∧ c.code.steps.length ≤ 1000
def dom (s:PRun):Nm→Prop
 | .tsk k | .stk k | .kid k | .spn k=>k < s.tasks.length
 | .cal j | .vrs j=>j < s.calls.length
 | .clk j=>j < s.pool.length
 | .beh j=>j < s.behs.length
 | _=>True
theorem dom_inR {s:PRun} (h:WF s) {a:Nm} (hd:dom s a):a.inR:=by
 have:=h.nT;have:=h.nC;have:=h.nK;have:=h.nB;have:=MM_eq
 cases a <;> simp only [dom,Nm.inR] at * <;> omega
def Sd (s:PRun) (b:Nat):Prop:=∃ a,dom s a ∧ b = ix a
theorem Sd.of {s:PRun} {a:Nm} (h:dom s a):Sd s (ix a):=⟨a,h,rfl⟩
theorem Sd.lt {s:PRun} (hw:WF s) {b:Nat} (h:Sd s b):b < NN:=by
 obtain ⟨a,hd,rfl⟩:=h
 exact ix_lt (dom_inR hw hd)
theorem RfB.map {α:Type} {S:Nat→Prop} {ty sz:Nat} {l:List α} {f:α→AV} (h:∀ x ∈ l,∀ c ∈ (f x).cells,RfA S c):RfB S ⟨ty,sz,l.map f⟩:=fun e he c hc=>by
 obtain ⟨x,hx,rfl⟩:=List.mem_map.1 he
 exact h x hx c hc
theorem RfB.nil {S:Nat→Prop} {ty sz:Nat}:RfB S ⟨ty,sz,[]⟩:=fun e he=>by cases he
theorem RfB.int {S:Nat→Prop} (l:List Int):RfB S (intB l):=.map fun x _ c hc=>by
 simp only [AV.cells,List.mem_singleton] at hc;subst hc;exact .pu (.base _)
theorem RfB.one {S:Nat→Prop} {ty sz:Nat} {cs:List AV} (h:∀ c ∈ cs,RfA S c):RfB S ⟨ty,sz,[.agg cs]⟩:=fun e he c hc=>by
 rw [List.mem_singleton] at he;subst he
 exact h c hc
theorem RfB.clks {s:PRun} {l:List Nat} (h:∀ j ∈ l,j < s.pool.length):RfB (Sd s) ⟨25,1,l.map ownC⟩:=.map fun j hj c hc=>by
 simp only [AV.cells,List.mem_singleton] at hc;subst hc
 exact .own (.of (a:=.clk j) (h j hj))
theorem blk_rf {s:PRun} (hw:WF s) (a:Nm):RfB (Sd s) (blk s a):=by
 cases a with
 | rn =>
   refine .one fun c hc=>?_
   simp only [List.mem_cons,List.not_mem_nil,or_false] at hc
   rcases hc with rfl | rfl | rfl | rfl | rfl | rfl | rfl | rfl | rfl | rfl | rfl | rfl | rfl
   ·exact .pu (by simp)
   ·exact .pu (by simp)
   ·exact .pu (.base _)
   ·exact .pu (Pu_mapInt _)
   ·exact .pu (.base _)
   all_goals exact .own (.of trivial)
 | ob =>
   exact .map fun x _ c hc=>by
    simp only [AV.cells,List.mem_cons,List.not_mem_nil,or_false] at hc
    rcases hc with rfl | rfl <;> exact .pu (.base _)
 | tk =>
   exact .map fun k hk c hc=>by
    simp only [AV.cells,List.mem_singleton] at hc;subst hc
    exact .ptr (.of (a:=.tsk k) (List.mem_range.1 hk))
 | ln =>
   exact .map fun x _ c hc=>by simp only [AV.cells,List.mem_singleton] at hc;subst hc;exact .pu (.base _)
 | ac =>
   exact .map fun x _ c hc=>by
    simp only [encA,AV.cells,List.mem_cons,List.not_mem_nil,or_false] at hc
    rcases hc with rfl | rfl | rfl | rfl <;> exact .pu (.base _)
 | tn=>exact .int _
 | ck=>exact .clks hw.cks
 | en =>
   exact .map fun o ho c hc=>by
    cases o with
    | none=>simp only [endV,AV.cells,List.mem_singleton] at hc;subst hc;exact .pu (.base _)
    | some j=>simp only [endV,AV.cells,List.mem_singleton] at hc;subst hc;exact .own (.of (a:=.clk j) (hw.ends _ ho j rfl))
 | at'=>exact .clks hw.acts
 | tsk k =>
   simp only [blk]
   split
   ·rename_i t ht
    obtain ⟨h1,h2,h3,h4⟩:=hw.tsk t (List.mem_of_getElem? ht)
    have hk:k < s.tasks.length:=(List.getElem?_eq_some_iff.1 ht).1
    refine .one fun c hc=>?_
    simp only [List.mem_cons,List.not_mem_nil,or_false] at hc
    rcases hc with rfl | rfl | rfl | rfl | rfl | rfl | rfl | rfl | rfl | rfl | rfl | rfl
    ·exact .own (.of (a:=.stk k) hk)
    ·exact .pu (.base _)
    ·exact .pu (.base _)
    ·exact .pu (.base _)
    ·cases hb:t.kids with
     | nil=>exact .pu (.base _)
     | cons a l=>exact .own (.of (a:=.kid k) hk)
    ·exact .mapv (.of (a:=.spn k) hk)
    ·exact .pu (.base _)
    ·exact .pu (.base _)
    ·exact .pu (.base _)
    ·exact .pu (.base _)
    ·exact .own (.of (a:=.clk t.clk) h3)
    ·cases hb:t.beh with
     | none=>exact .pu (.base _)
     | some j=>exact .own (.of (a:=.beh j) (h4 j hb))
   ·exact .nil
 | stk k =>
   simp only [blk]
   split
   ·rename_i t ht
    obtain ⟨h1,h2,h3,h4⟩:=hw.tsk t (List.mem_of_getElem? ht)
    exact .map fun j hj c hc=>by
     simp only [AV.cells,List.mem_singleton] at hc;subst hc
     exact .ptr (.of (a:=.cal j) (h1 j hj))
   ·exact .nil
 | kid k =>
   simp only [blk]
   split <;> exact .int _
 | spn k =>
   simp only [blk]
   split
   ·refine fun e he c hc=>?_
    simp only [mapB,List.mem_singleton] at he;subst he
    simp only [AV.cells,List.mem_cons,List.not_mem_nil,or_false] at hc
    rcases hc with rfl | rfl
    ·exact .pu (.agg fun c hc=>by obtain ⟨x,_,rfl⟩:=List.mem_map.1 hc;exact .base _)
    ·exact .pu (.agg fun c hc=>by obtain ⟨x,_,rfl⟩:=List.mem_map.1 hc;exact .base _)
   ·exact .nil
 | cal j =>
   simp only [blk]
   split
   ·rename_i c hc0
    have hj:j < s.calls.length:=(List.getElem?_eq_some_iff.1 hc0).1
    refine .one fun c' hc=>?_
    simp only [List.mem_cons,List.not_mem_nil,or_false] at hc
    rcases hc with rfl | rfl | rfl | rfl | rfl | rfl
    ·exact .pu (.base _)
    ·exact .pu (.base _)
    ·exact .pu (by simp)
    ·cases c.vars with
     | nil=>exact .pu (.lst (by simp))
     | cons v l=>exact .own (.of (a:=.vrs j) hj)
    ·exact .pu (.base _)
    ·exact .pu (.base _)
   ·exact .nil
 | vrs j =>
   simp only [blk]
   split <;> exact .int _
 | clk j =>
   simp only [blk]
   split <;> exact .int _
 | beh j =>
   simp only [blk]
   split
   ·rename_i l hl
    exact .clks (hw.behs l (List.mem_of_getElem? hl)).2
   ·exact .nil
theorem HH_rf {s:PRun} (hw:WF s):∀ b ∈ HH s,RfB (Sd s) b:=fun b hb=>by
 unfold HH hp at hb
 obtain ⟨i,_,rfl⟩:=List.mem_map.1 hb
 exact blk_rf hw _
theorem HH_rn {s:PRun} (hw:WF s):∀ b ∈ HH s,RfB (· < NN) b:=fun b hb=>(HH_rf hw b hb).mono fun _ h=>h.lt hw
theorem pl_callR {s s':PRun} (hw:WF s) (hw':WF s') {T:List ABlk} {ρ:Operand→AV} {c:Call} {fx:Operand} {f:FuncId} {caps args:List AV} {d:AV} (hf:FnH Tryd.prog f args (HH s) d (HH s')) (hc:c.callee = .value fx) (hfx:ρ fx = .clo f caps) (ha:c.args.toList.map ρ ++ caps = args) (hr:∀ a ∈ args,RfA (· < NN) a) (hd:RfA (· < NN) d):PL Tryd.prog (HH s ++ T) ρ (.call c) d (HH s' ++ T):=by
 have hlr:∀ b,b < NN→ro (List.range NN) b = some b:=fun b hb=>by rw [ro_range2,if_pos hb]
 refine pl_callH hf (.pre (HH_len s) (HH_len s') (HH_rn hw) (HH_rn hw')) hc hfx ?_ (hd.mv fun b hb=>rb_range2 hb)
 rw [ha]
 clear ha hf
 induction args with
 | nil=>trivial
 | cons a l ih=>exact ⟨(hr a (by simp)).mv hlr,ih fun x hx=>hr x (by simp [hx])⟩
theorem RetH.run {rs:List ResultVar} {n:Nat} {d:AV} {s':PRun} {E:Env} {H T:List ABlk} {vs:List AV} (hw:WF s') (hv:resVals Tryd.prog ⟨E,H⟩ rs = some vs) (hH:H = HH s' ++ T) (hd:PubR (pre NN) H (packA vs) d):RetH Tryd.prog rs ⟨n,NN⟩ d (HH s') ⟨E,H⟩:=by
 have hl:=HH_len s'
 refine ⟨_,vs,pre NN,id,.refl _,hv,.pre (by rw [hH];simp [hl]) (Nat.le_refl _) hl fun j b1 b2 h1 h2=>?_,hd⟩
 have hj:=(List.getElem?_eq_some_iff.1 h2).1
 simp only at h1
 rw [hH,List.getElem?_append_left hj,h2] at h1
 injection h1 with h1;subst h1
 refine ⟨rfl,rfl,rfl,fun i e e2 h3 h4=>?_⟩
 rw [h3] at h4;injection h4 with h4;subst h4
 refine ⟨rfl,fun k c c2 h5 h6=>?_⟩
 rw [h5] at h6;injection h6 with h6;subst h6
 exact (HH_rn hw b2 (List.mem_of_getElem? h2) e (List.mem_of_getElem? h3) c (List.mem_of_getElem? h5)).pub fun b hb=>pre_lt hb
theorem over_ok {s:PRun} {k:Nat} {t:PTask} (ht:s.tasks[k]? = some t) (hk:ix (.tsk k) < NN):FnH Tryd.prog 40 [ptK k] (HH s) (.bool (decide (3 ≤ t.state))) (HH s):=by
 refine FnH.intro' [(0,ptK k)] 1 8 NN Tryd.func40 (by kernel_rfl) rfl rfl rfl rfl rfl (HH_len s) ?_
 refine goF ?_
 exact RetH.same (vs:=[.bool (decide (t.state ≥ 3))]) (by kernel_rfl) rfl rfl
theorem next_ok {s:PRun} (hw:WF s) {k j m i:Nat} {t:PTask} {c:PCall} {st:Stp} (ht:s.tasks[k]? = some t) (hk:ix (.tsk k) < NN) (hk2:ix (.stk k) < NN) (hm:t.slen = m + 1) (hj:t.sarr[m]? = some j) (hc:s.calls[j]? = some c) (hcl:ix (.cal j) < NN)
 (hi:c.pc = i) (hst:c.code.steps[i]? = some st):FnH Tryd.prog 86 [ptK k] (HH s) (.tup [encS st,ptC j]) (HH s):=by
 refine FnH.intro' [(0,ptK k)] 1 29 NN Tryd.func86 (by kernel_rfl) rfl rfl rfl rfl rfl (HH_len s) ?_
 refine goF ?_
 refine drA (k:=12) follows (hr:=?_)
 refine goF ?_
 have hidx:(t.sarr.map ptC)[m]? = some (ptC j):=by rw [List.getElem?_map,hj];rfl
 have hsx:(c.code.steps.map encS)[i]? = some (encS st):=by rw [List.getElem?_map,hst];rfl
 have hil:i < c.code.steps.length:=(List.getElem?_eq_some_iff.1 hst).1
 have hts:=(hw.tsz t (List.mem_of_getElem? ht)).1
 have hcs:=(hw.csz c (List.mem_of_getElem? hc)).2
 have hml:m < t.sarr.length:=(List.getElem?_eq_some_iff.1 hj).1
 rw [show IntKind.i64.wrap (((m + 1:Nat):Int) - 1) = (m:Int) by rw [wrap_id (by omega) (by omega)];omega]
 refine ARun.q1 rfl rfl (ql_ixo (n:=m) (by simp +decide only [go_sem, *] <;> rfl) (by simp +decide only [go_sem, *] <;> rfl) Tryd.underlying85 (by simp +decide only [go_sem, *] <;> rfl) (by simp) (by omega) (by simp +decide only [go_sem, *] <;> rfl)) ?_
 refine goF ?_
 refine drS (k:=13) [none,none,none,none,none,none,none,none,none,none,none,none,some 0] (fun c=>match c with
  | 0=>HH s ++ [⟨70,6,[(.agg [.base (.int .i64 (0)),.base (.int .i64 (0)),.base (.int .i64 (0)),.base (.int .i64 (0)),.base (.int .i64 (0)),.base (.slice none 0 0)])]⟩]
  | _=>HH s ++ [⟨70,6,[encS st]⟩]) 1 follows ?_
 refine gS ?_
 refine gS ?_
 refine gS ?_
 refine gS ?_
 refine gS ?_
 refine gS ?_
 refine gS ?_
 refine gS ?_
 refine gS ?_
 refine GRun.q1 rfl rfl (fun c _=>ql_indexAddr_lst (by simp +decide only [go_sem, *] <;> rfl) (by simp +decide only [go_sem, *] <;> rfl) Tryd.underlying66 (by omega) (e:=encS st) hsx (by kernel_rfl)) ?_
 refine gS ?_
 refine gS ?_
 refine GRun.p1 (v:=.bad) rfl rfl (fun ρ' h=>?_) ?_
 ·have h1:=pl_store (P:=Tryd.prog) (ρ:=ρ') (H:=HH s ++ [⟨70,6,[(.agg [.base (.int .i64 (0)),.base (.int .i64 (0)),.base (.int .i64 (0)),.base (.int .i64 (0)),.base (.int .i64 (0)),.base (.slice none 0 0)])]⟩]) (b:=NN) (tot:=1) (i:=0) (off:=0) (blk:=⟨70,6,[(.agg [.base (.int .i64 (0)),.base (.int .i64 (0)),.base (.int .i64 (0)),.base (.int .i64 (0)),.base (.int .i64 (0)),.base (.slice none 0 0)])]⟩) (v:=encS st) ((h (.tmp 2) (by simp [Op.operands])).trans (by simp +decide only [go_sem, *] <;> rfl)) ((h (.tmp 27) (by simp [Op.operands])).trans (by simp +decide only [go_sem, *] <;> rfl)) (by simp +decide only [go_sem, *] <;> rfl) rfl rfl sz70 rfl rfl
  rw [app_set0 (HH_len s)] at h1
  exact h1
 refine GRun.nil ?_
 refine goF ?_
 refine RetH.run hw (vs:=[encS st,ptC j]) (T:=[⟨70,6,[encS st]⟩]) (by show resVals _ _ [.cell 2 70,.tmp 3] = _;simp +decide only [resVals,resVal,ldPtr,ldE,go_sem, *] <;> rfl) rfl (PubR.tup' ⟨.pu (Pu_encS st),.ptr (pre_lt hcl),trivial⟩)
end Go.Ab
set_option maxHeartbeats 4000000
namespace Go.Ab
open Go Go.Ab Go.Proofs Go.Ab.Ty
theorem HH_upd {s s':PRun} (l:List (Nm × ABlk)) (hl:∀ p ∈ l,ix p.1 < NN ∧ p.2 = blk s' p.1) (h:∀ a,a ∉ l.map (·.1)→blk s' a = blk s a):l.foldl (fun L p=>L.set (ix p.1) p.2) (HH s) = HH s':=by
 have key:∀ (l:List (Nm × ABlk)) (L:List ABlk),L.length = NN→(∀ p ∈ l,ix p.1 < NN ∧ p.2 = blk s' p.1)→(∀ a:Nm,a.inR→a ∉ l.map (·.1)→L[ix a]? = some (blk s' a))→l.foldl (fun L p=>L.set (ix p.1) p.2) L = HH s':=by
  intro l
  induction l with
  | nil=>intro L hL _ h2;exact HH_eq hL fun a ha=>h2 a ha (by simp)
  | cons p l ih =>
    intro L hL h1 h2
    refine ih _ (by rw [List.length_set];exact hL) (fun q hq=>h1 q (by simp [hq])) fun a ha hn=>?_
    rw [set_get hL (h1 p (by simp)).1]
    split
    ·rename_i e;subst e;rw [(h1 p (by simp)).2]
    ·rename_i e
     exact h2 a ha (by simp only [List.map_cons,List.mem_cons,not_or];exact ⟨fun e'=>e e'.symm,hn⟩)
 exact key l _ (HH_len s) hl fun a ha hn=>by rw [HH_get s a (ix_lt ha),h a hn]
theorem upd1 {s':PRun} {a:Nm} {A:ABlk} (h1:ix a < NN ∧ A = blk s' a):∀ p ∈ [(a,A)],ix p.1 < NN ∧ p.2 = blk s' p.1:=fun p hp=>by
 rw [List.mem_singleton] at hp;subst hp;exact h1
theorem upd2 {s':PRun} {a b:Nm} {A B:ABlk} (h1:ix a < NN ∧ A = blk s' a) (h2:ix b < NN ∧ B = blk s' b):∀ p ∈ [(a,A),(b,B)],ix p.1 < NN ∧ p.2 = blk s' p.1:=fun p hp=>by
 simp only [List.mem_cons,List.not_mem_nil,or_false] at hp
 rcases hp with rfl | rfl
 ·exact h1
 ·exact h2
def PRun.tset (s:PRun) (k:Nat) (t:PTask):PRun:={ s with tasks:=s.tasks.set k t }
def PRun.cset (s:PRun) (j:Nat) (c:PCall):PRun:={ s with calls:=s.calls.set j c }
theorem tset_at {s:PRun} {k:Nat} {t t':PTask} (ht:s.tasks[k]? = some t):(s.tset k t').tasks[k]? = some t':=by
 unfold PRun.tset;simp only;rw [List.getElem?_set_self (List.getElem?_eq_some_iff.1 ht).1]
theorem tset_ne {s:PRun} {k j:Nat} {t':PTask} (h:k ≠ j):(s.tset k t').tasks[j]? = s.tasks[j]?:=by
 unfold PRun.tset;simp only;rw [List.getElem?_set_ne h]
theorem cset_at {s:PRun} {k:Nat} {t t':PCall} (ht:s.calls[k]? = some t):(s.cset k t').calls[k]? = some t':=by
 unfold PRun.cset;simp only;rw [List.getElem?_set_self (List.getElem?_eq_some_iff.1 ht).1]
theorem cset_ne {s:PRun} {k j:Nat} {t':PCall} (h:k ≠ j):(s.cset k t').calls[j]? = s.calls[j]?:=by
 unfold PRun.cset;simp only;rw [List.getElem?_set_ne h]
theorem blk_tset {s:PRun} {k:Nat} {t':PTask} {a:Nm} (h1:a ≠ .tsk k) (h2:a ≠ .stk k) (h3:a ≠ .kid k) (h4:a ≠ .spn k):blk (s.tset k t') a = blk s a:=by
 cases a with
 | tsk j=>simp only [blk];rw [tset_ne fun e=>h1 (by rw [e])]
 | stk j=>simp only [blk];rw [tset_ne fun e=>h2 (by rw [e])]
 | kid j=>simp only [blk];rw [tset_ne fun e=>h3 (by rw [e])]
 | spn j=>simp only [blk];rw [tset_ne fun e=>h4 (by rw [e])]
 | rn=>simp only [blk,rnB,PRun.tset,List.length_set]
 | tk=>simp only [blk,PRun.tset,List.length_set]
 | _=>rfl
theorem HH_tset {s:PRun} {k:Nat} {t t':PTask} (ht:s.tasks[k]? = some t) (hk:ix (.tsk k) < NN) (h1:t'.sarr = t.sarr) (h2:t'.kids = t.kids) (h3:t'.spn = t.spn):(HH s).set (ix (.tsk k)) (tskB k t') = HH (s.tset k t'):=by
 refine HH_upd (s:=s) (s':=s.tset k t') [(.tsk k,tskB k t')] (fun p hp=>?_) fun a ha=>?_
 ·rw [List.mem_singleton] at hp;subst hp
  exact ⟨hk,by simp only [blk];rw [tset_at ht]⟩
 ·simp only [List.map_cons,List.map_nil,List.mem_singleton] at ha
  by_cases e2:a = .stk k
  ·subst e2;simp only [blk];rw [tset_at ht,ht];simp only [h1]
  by_cases e3:a = .kid k
  ·subst e3;simp only [blk];rw [tset_at ht,ht];simp only [h2]
  by_cases e4:a = .spn k
  ·subst e4;simp only [blk];rw [tset_at ht,ht];simp only [h3]
  exact blk_tset ha e2 e3 e4
theorem blk_cset {s:PRun} {j:Nat} {c':PCall} {a:Nm} (h1:a ≠ .cal j) (h2:a ≠ .vrs j):blk (s.cset j c') a = blk s a:=by
 cases a with
 | cal i=>simp only [blk];rw [cset_ne fun e=>h1 (by rw [e])]
 | vrs i=>simp only [blk];rw [cset_ne fun e=>h2 (by rw [e])]
 | _=>rfl
theorem HH_cset {s:PRun} {j:Nat} {c c':PCall} (hc:s.calls[j]? = some c) (hj:ix (.cal j) < NN) (h1:c'.vars = c.vars):(HH s).set (ix (.cal j)) (calB j c') = HH (s.cset j c'):=by
 refine HH_upd (s:=s) (s':=s.cset j c') [(.cal j,calB j c')] (fun p hp=>?_) fun a ha=>?_
 ·rw [List.mem_singleton] at hp;subst hp
  exact ⟨hj,by simp only [blk];rw [cset_at hc]⟩
 ·simp only [List.map_cons,List.map_nil,List.mem_singleton] at ha
  by_cases e2:a = .vrs j
  ·subst e2;simp only [blk];rw [cset_at hc,hc];simp only [h1]
  exact blk_cset ha e2
theorem vrsV_len {j:Nat}:∀ {l m:List Int},l.length = m.length→vrsV j l = vrsV j m
 | [],[],_=>rfl
 | [],_ :: _,h=>by simp at h
 | _ :: _,[],h=>by simp at h
 | a :: l,b :: m,h=>by simp only [List.length_cons] at h;simp only [vrsV];rw [show l.length = m.length by omega]
theorem HH_vset {s:PRun} {j:Nat} {c c':PCall} (hc:s.calls[j]? = some c) (hj:ix (.vrs j) < NN) (hl:c'.vars.length = c.vars.length) (h1:c' = { c with vars:=c'.vars }):(HH s).set (ix (.vrs j)) (intB c'.vars) = HH (s.cset j c'):=by
 refine HH_upd (s:=s) (s':=s.cset j c') [(.vrs j,intB c'.vars)] (fun p hp=>?_) fun a ha=>?_
 ·rw [List.mem_singleton] at hp;subst hp
  exact ⟨hj,by simp only [blk];rw [cset_at hc]⟩
 ·simp only [List.map_cons,List.map_nil,List.mem_singleton] at ha
  by_cases e2:a = .cal j
  ·subst e2;simp only [blk];rw [cset_at hc,hc]
   simp only
   have hv:vrsV j c'.vars = vrsV j c.vars:=vrsV_len hl
   rw [calB,calB,hv,h1]
  exact blk_cset e2 ha
def PRun.mkO (s:PRun) (n:Int):PRun:={ s with objs:=s.objs ++ [(n,-1)] }
theorem object_ok {s:PRun} (hw:WF s) (n:Int) (hn:s.objs.length ≤ 900000):FnH Tryd.prog 82 [ptR,.int n] (HH s) (.int s.objs.length) (HH (s.mkO n)):=by
 refine FnH.intro' [(0,ptR),(1,.int n)] 2 22 NN Tryd.func82 (by kernel_rfl) rfl rfl rfl rfl rfl (HH_len s) ?_
 refine goF ?_
 refine bldA pl157 zero157 ?_
 refine goF ?_
 refine ARun.p1 rfl rfl (pl_append (b:=ix .ob) (tot:=s.objs.length) (es:=[encO (n,-1)]) (by simp +decide only [go_sem, *] <;> rfl) (by simp +decide only [go_sem, *] <;> rfl) (by simp +decide only [go_sem, *] <;> rfl) (by simp) Tryd.underlying79 el157 rfl rfl (by simp) (fun e he=>by rw [List.mem_singleton] at he;subst he;exact ⟨rfl,rfl⟩) (by simp;omega) (by simp;omega)) ?_
 refine goF ?_
 rw [show IntKind.i64.wrap (((s.objs.length + 1:Nat):Int) - 1) = (s.objs.length:Int) by rw [wrap_id (by omega) (by omega)];omega]
 refine RetH.same (vs:=[.int s.objs.length]) (by show resVals _ _ [.tmp 4] = _;simp +decide only [resVals,resVal,ldPtr,ldE,go_sem, *] <;> rfl) rfl ?_
 refine HH_upd (s:=s) (s':=s.mkO n) [(.ob,_),(.rn,_)] (upd2 ⟨ixl_ob,?_⟩ ⟨ixl_rn,?_⟩) fun a ha=>?_
 ·simp [blk,PRun.mkO]
 ·simp [blk,PRun.mkO]
 ·cases a <;> first | rfl | simp at ha
end Go.Ab
set_option maxHeartbeats 4000000
namespace Go.Ab
open Go Go.Ab Go.Proofs Go.Ab.Ty
def Fst {α:Type} (p:α→Prop) (l:List α) (k:Nat):Prop:=∀ j,∀ h:j < l.length,j < k→p l[j]
theorem Fst.zero {α:Type} (p:α→Prop) (l:List α):Fst p l 0:=fun j _ h=>absurd h (Nat.not_lt_zero _)
theorem Fst.succ {α:Type} {p:α→Prop} {l:List α} {k:Nat} (h:Fst p l k) {x:α} (hx:l[k]? = some x) (h2:p x):Fst p l (k + 1):=fun j hj hlt=>by
 rcases Nat.lt_or_ge j k with h3 | h3
 ·exact h j hj h3
 ·obtain rfl:j = k:=by omega
  rw [List.getElem?_eq_getElem hj] at hx;injection hx with hx
  rw [hx];exact h2
theorem Fst.all {α:Type} {p:α→Prop} {l:List α} {k:Nat} (h:Fst p l k) (hk:l.length ≤ k):∀ x ∈ l,p x:=fun x hx=>by
 obtain ⟨j,hj,rfl⟩:=List.mem_iff_getElem.1 hx
 exact h j hj (by omega)
theorem gtM {α:Type} {l:List α} {f:α→AV} {k:Nat} (h:k < l.length):(l.map f)[k]? = some (f l[k]):=by
 rw [List.getElem?_map,List.getElem?_eq_getElem h];rfl
theorem MvR.ofid {r:Nat→Option Nat} {H:List ABlk} {a:AV} (h:∀ b,b < H.length→r b = some b):MvR r H a a:=fun H2 w O ι ι2 u v hu=>hu.mono
 ⟨fun _ _ _ h=>h,fun p c h1 _=>h1,fun b blk hb=>by
  obtain ⟨blk2,e1,e2,e3,e4⟩:=v b b blk (h b (List.getElem?_eq_some_iff.1 hb).1) hb
  exact ⟨blk2,e1,Nat.le_of_eq e2.symm,fun _=>⟨e3,e4⟩⟩,
  fun b x blk blk' c ty fz _ _ _ _ h=>⟨c,ty,fz,h,rfl⟩⟩
theorem BlkMv.ofid {r:Nat→Option Nat} {H:List ABlk} {b:ABlk} (h:∀ b,b < H.length→r b = some b):BlkMv r H b b:=
 ⟨rfl,rfl,rfl,fun i e e2 h1 h2=>by
  rw [h1] at h2;injection h2 with h2;subst h2
  exact ⟨rfl,fun k c c2 h3 h4=>by
   rw [h3] at h4;injection h4 with h4;subst h4
   exact .ofid h⟩⟩
theorem rb_range3 {n j:Nat}:rb (List.range n) n j = some j:=by
 unfold rb
 rw [List.length_range]
 split
 ·rename_i h;rw [List.getElem?_range h]
 ·congr 1;omega
theorem CallE.all {H H':List ABlk} (hl:H.length ≤ H'.length):CallE (List.range H.length) H H H' H':=
 ⟨List.nodup_range,List.length_range,fun j b hj=>by
  obtain ⟨h1,h2⟩:=List.getElem?_eq_some_iff.1 hj
  rw [List.length_range] at h1
  rw [List.getElem_range] at h2
  subst h2
  exact ⟨H[j],H[j],List.getElem?_eq_getElem h1,List.getElem?_eq_getElem h1,.ofid fun b hb=>by rw [ro_range2,if_pos hb]⟩,hl,by omega,fun b hb hn=>absurd (List.mem_range.2 hb) hn,fun j c bk hr hb=>by
  rw [rb_range3] at hr;injection hr with hr;subst hr
  exact ⟨bk,hb,.ofid fun b _=>rb_range3⟩⟩
theorem MvL.ofid {r:Nat→Option Nat} {H:List ABlk} (h:∀ b,b < H.length→r b = some b):∀ l:List AV,MvL r H l l
 | []=>trivial
 | _ :: l=>⟨.ofid h,MvL.ofid h l⟩
theorem pl_callW {H H':List ABlk} {ρ:Operand→AV} {c:Call} {fx:Operand} {f:FuncId} {caps args:List AV} {d:AV} (hf:FnH Tryd.prog f args H d H') (hl:H.length ≤ H'.length) (hc:c.callee = .value fx) (hfx:ρ fx = .clo f caps) (ha:c.args.toList.map ρ ++ caps = args):PL Tryd.prog H ρ (.call c) d H':=
 pl_callH hf (.all hl) hc hfx (by rw [ha];exact .ofid (fun b hb=>by rw [ro_range2,if_pos hb]) _) (.ofid fun b _=>rb_range3)
def oi:Option Nat→Int
 | some i=>i
 | none=>-1
theorem fidx_some {α:Type} {p:α→Bool} {l:List α} {k:Nat} (h:Fst (fun x=>p x = false) l k) (hk:k < l.length) (hp:p l[k] = true):l.findIdx? p = some k:=by
 rw [List.findIdx?_eq_some_iff_getElem]
 exact ⟨hk,hp,fun j hj=>by have:=h j (by omega) hj;simp [this]⟩
theorem fidx_none {α:Type} {p:α→Bool} {l:List α} {k:Nat} (h:Fst (fun x=>p x = false) l k) (hk:l.length ≤ k):l.findIdx? p = none:=by
 rw [List.findIdx?_eq_none_iff]
 exact fun x hx=>h.all hk x hx
theorem oi_any {p:Int→Bool} {l:List Int}:(0 ≤ oi (l.findIdx? p)) ↔ l.any p = true:=by
 cases hx:l.findIdx? p with
 | none =>
   rw [List.findIdx?_eq_none_iff] at hx
   simp [oi]
   exact hx
 | some i =>
   have:=List.findIdx?_eq_some_iff_getElem.1 hx
   simp [oi]
   exact ⟨_,List.getElem_mem _,this.2.1⟩
theorem idxI_ok (H:List ABlk) (p:Int→Bool) (fid:FuncId) (caps:List AV) (l:List Int) (hl:l.length ≤ 1000000) (h:∀ x ∈ l,FnH Tryd.prog fid (.int x :: caps) H (.bool (p x)) H) :
 FnH Tryd.prog 126 [.lst (l.map .int),.clo fid caps] H (.int (oi (l.findIdx? p))) H:=by
 obtain ⟨R,hR⟩:∃ R,R = oi (l.findIdx? p):=⟨_,rfl⟩
 rw [← hR]
 refine FnH.intro' [(0,.lst (l.map .int)),(1,.clo fid caps)] 2 19 H.length Tryd.func126 (by kernel_rfl) rfl rfl rfl rfl rfl rfl ?_
 refine goF ?_
 refine AWp.loopP (J:=fun k:Nat=>k ≤ l.length ∧ Fst (fun x=>p x = false) l k) (fun k=>[(8,.int k)]) (fun k=>l.length - k) 0 ⟨Nat.zero_le _,.zero _ _⟩ .wk ?_
 rintro k ⟨hk,he⟩
 refine goF ?_
 refine ifA (fun hd=>?_) (fun hd=>?_)
 ·simp at hd
  have hnx:nth 0 l (k:Int) = l[k]:=nth_eq hd
  have ih:=h _ (List.getElem_mem hd)
  have hfs:=fun hp=>fidx_some (p:=p) he hd hp
  have hsu:=fun hp=>he.succ (List.getElem?_eq_getElem hd) hp
  generalize l[k] = x at *
  clear he h
  refine goF ?_
  refine ARun.p1 rfl rfl (pl_callW ih (Nat.le_refl _) rfl (by simp +decide only [go_sem, *] <;> rfl) (by simp +decide only [go_sem, *] <;> rfl)) ?_
  refine goF ?_
  refine ifA (fun hp=>?_) (fun hp=>?_)
  ·refine goF ?_
   rw [hR,hfs hp]
   exact RetH.same (vs:=[.int k]) (by show resVals _ _ [.tmp 4] = _;simp +decide only [resVals,resVal,ldPtr,ldE,go_sem, *] <;> rfl) rfl rfl
  refine goF ?_
  rw [wrap_succ (by omega)]
  exact ⟨k + 1,⟨hd,hsu hp⟩,by omega,.wk⟩
 simp at hd
 refine goF ?_
 rw [hR,fidx_none he (by omega)]
 exact RetH.same (vs:=[.int (-1)]) (by show resVals _ _ [.tmp 4] = _;simp +decide only [resVals,resVal,ldPtr,ldE,go_sem, *] <;> rfl) rfl rfl
theorem conI_ok (H:List ABlk) (p:Int→Bool) (fid:FuncId) (caps:List AV) (l:List Int) (hl:l.length ≤ 1000000) (h:∀ x ∈ l,FnH Tryd.prog fid (.int x :: caps) H (.bool (p x)) H) :
 FnH Tryd.prog 123 [.lst (l.map .int),.clo fid caps] H (.bool (l.any p)) H:=by
 have i1:=idxI_ok H p fid caps l hl h
 clear h
 refine FnH.intro' [(0,.lst (l.map .int)),(1,.clo fid caps)] 2 9 H.length Tryd.func123 (by kernel_rfl) rfl rfl rfl rfl rfl rfl ?_
 refine goF ?_
 refine ARun.p1 rfl rfl (pl_callW i1 (Nat.le_refl _) rfl (by simp +decide only [go_sem, *] <;> rfl) (by simp +decide only [go_sem, *] <;> rfl)) ?_
 refine goF ?_
 refine RetH.same (vs:=[.bool (decide (oi (l.findIdx? p) ≥ 0))]) (by show resVals _ _ [.tmp 4] = _;simp +decide only [resVals,resVal,ldPtr,ldE,go_sem, *] <;> rfl) ?_ rfl
 show AV.bool _ = _
 congr 1
 rw [Bool.eq_iff_iff,decide_eq_true_iff]
 exact oi_any
end Go.Ab
set_option maxHeartbeats 4000000
namespace Go.Ab
open Go Go.Ab Go.Proofs Go.Ab.Ty
theorem vrsV_own {j:Nat} {l:List Int} {i:Nat} {x:Int} (h:l[i]? = some x):vrsV j l = .own (ix (.vrs j)) l.length 0 l.length:=by
 cases l with
 | nil=>simp at h
 | cons a l=>rfl
abbrev pcB (j:Nat):ABlk:=⟨135,1,[ptC j]⟩
theorem set1_ok {s:PRun} {j v:Nat} {c:PCall} {x:Int} (hc:s.calls[j]? = some c) (hx:c.vars[v]? = some x) (hj:ix (.cal j) < NN) (hj2:ix (.vrs j) < NN):FnH Tryd.prog 124 [.int v,.ptr NN 1 0 0] (HH s ++ [pcB j]) (.bool (decide (x < 0))) (HH s ++ [pcB j]):=by
 have hvv:=vrsV_own (j:=j) hx
 have hidx:(c.vars.map AV.int)[v]? = some (.int x):=by rw [List.getElem?_map,hx];rfl
 have hvl:v < c.vars.length:=(List.getElem?_eq_some_iff.1 hx).1
 refine FnH.intro' [(0,.int v),(1,.ptr NN 1 0 0)] 2 12 (NN + 1) Tryd.func124 (by kernel_rfl) rfl rfl rfl rfl rfl (by simp [HH_len]) ?_
 refine goF ?_
 refine ARun.q1 rfl rfl (ql_ixo (n:=v) (by simp +decide only [go_sem, *] <;> rfl) (by simp +decide only [go_sem, *] <;> rfl) Tryd.underlying25 (by simp +decide only [go_sem, *] <;> rfl) (by simp) hvl (by simp +decide only [go_sem, *] <;> rfl)) ?_
 refine goF ?_
 exact RetH.same (vs:=[.bool (decide (x < 0))]) (by show resVals _ _ [.tmp 3] = _;simp +decide only [resVals,resVal,ldPtr,ldE,go_sem, *] <;> rfl) rfl rfl
def setB (c:PCall) (vs:List Int):Bool:=!(vs.any fun v=>decide (c.vars.getD v.toNat 0 < 0))
def inV (c:PCall) (v:Int):Prop:=0 ≤ v ∧ v.toNat < c.vars.length
theorem set_ok {s:PRun} (hw:WF s) {j:Nat} {c:PCall} {vs:List Int} (hvs:∀ v ∈ vs,inV c v) (hl:vs.length ≤ 1000000) (hc:s.calls[j]? = some c) (hj:ix (.cal j) < NN) (hj2:ix (.vrs j) < NN):FnH Tryd.prog 111 [ptC j,.lst (vs.map .int)] (HH s) (.bool (setB c vs)) (HH s):=by
 have i1:=conI_ok (HH s ++ [pcB j]) (fun v=>decide (c.vars.getD v.toNat 0 < 0)) 124 [.ptr NN 1 0 0] vs hl fun v hv=>by
  obtain ⟨h1,h2⟩:=hvs v hv
  have hx:c.vars[v.toNat]? = some (c.vars.getD v.toNat 0):=by rw [List.getD_eq_getElem?_getD,List.getElem?_eq_getElem h2];rfl
  have:=set1_ok hc hx hj hj2
  rwa [Int.toNat_of_nonneg h1] at this
 refine FnH.intro' [(0,ptC j),(1,.lst (vs.map .int))] 2 9 NN Tryd.func111 (by kernel_rfl) rfl rfl rfl rfl rfl (HH_len s) ?_
 refine goF ?_
 refine ARun.p1 rfl rfl (pl_callW i1 (Nat.le_refl _) rfl (by simp +decide only [go_sem, *] <;> rfl) (by simp +decide only [go_sem, *] <;> rfl)) ?_
 refine goF ?_
 refine RetH.run hw (vs:=[.bool (setB c vs)]) (T:=[pcB j]) (by show resVals _ _ [.tmp 4] = _;simp +decide only [resVals,resVal,ldPtr,ldE,go_sem, *] <;> rfl) rfl (.pu (.base _))
theorem NilB.rf {H:List ABlk} {S:Nat→Prop}:∀ {L:List ABlk},(∀ b ∈ L,RfB S b)→NilB H L L
 | [],_=>trivial
 | b :: L,h=>⟨⟨rfl,rfl,rfl,fun i e e2 h1 h2=>by
    rw [h1] at h2;injection h2 with h2;subst h2
    exact ⟨rfl,fun k c c2 h3 h4=>by
     rw [h3] at h4;injection h4 with h4;subst h4
     exact .mv ((h b (by simp) e (List.mem_of_getElem? h1) c (List.mem_of_getElem? h3)).mv fun _ _=>rfl)⟩⟩,NilB.rf fun x hx=>h x (by simp [hx])⟩
def givL (c:PCall) (vs:List Int):List Int:=vs.map fun v=>c.vars.getD v.toNat 0
theorem given_ok {s:PRun} (hw:WF s) {j:Nat} {c:PCall} {vs:List Int} (hvs:∀ v ∈ vs,inV c v) (hl:vs.length ≤ 1000000) (hc:s.calls[j]? = some c) (hj:ix (.cal j) < NN) (hj2:ix (.vrs j) < NN):FnH Tryd.prog 115 [ptC j,.lst (vs.map .int)] (HH s) (.own NN (givL c vs).length 0 (givL c vs).length) (HH s ++ [intB (givL c vs)]):=by
 refine FnH.intro' [(0,ptC j),(1,.lst (vs.map .int))] 2 26 NN Tryd.func115 (by kernel_rfl) rfl rfl rfl rfl rfl (HH_len s) ?_
 refine goF ?_
 refine AWp.weaken (Wk.nilC (E2:=[(0,ptC j),(5,.own NN 0 0 0),(8,.lst (vs.map .int)),(9,.int vs.length),(10,.int 0)]) (H2:=HH s) 3 1 (.rf (HH_rf hw)) ⟨.ptr,.nil (HH_len s),.pu (Pu_mapInt _),.pu (.base _),.pu (.base _),trivial⟩) ?_
 refine AWp.loop (J:=fun i:Nat=>i ≤ vs.length) (fun i=>⟨[(0,ptC j),(5,.own NN i 0 i),(8,.lst (vs.map .int)),(9,.int vs.length),(10,.int i)],HH s ++ [intB (givL c (vs.take i))]⟩) (fun i=>vs.length - i) 0 (Nat.zero_le _) .wf ?_
 rintro i hi
 refine goF ?_
 refine ifA (fun hd=>?_) (fun hd=>?_)
 ·simp at hd
  have hnx:nth 0 vs (i:Int) = vs[i]:=nth_eq hd
  obtain ⟨h1,h2⟩:=hvs _ (List.getElem_mem hd)
  have htk:givL c (vs.take (i + 1)) = givL c (vs.take i) ++ [c.vars.getD vs[i].toNat 0]:=by unfold givL;rw [List.take_succ_eq_append_getElem hd,List.map_append];rfl
  have hgl:(givL c (vs.take i)).length = i:=by unfold givL;rw [List.length_map,List.length_take];omega
  generalize givL c (vs.take i) = A at *
  have hx:c.vars[vs[i].toNat]? = some (c.vars.getD vs[i].toNat 0):=by rw [List.getD_eq_getElem?_getD,List.getElem?_eq_getElem h2];rfl
  generalize c.vars.getD vs[i].toNat 0 = x at *
  obtain ⟨v,hv⟩:∃ v:Nat,vs[i] = v:=⟨_,(Int.toNat_of_nonneg h1).symm⟩
  rw [hv] at hnx hx h2
  simp only [Int.toNat_natCast] at hx h2
  have hvv:=vrsV_own (j:=j) hx
  have hidx:(c.vars.map AV.int)[v]? = some (.int x):=by rw [List.getElem?_map,hx];rfl
  clear hvs
  refine goF ?_
  refine ARun.q1 rfl rfl (ql_ixo (n:=v) (by simp +decide only [go_sem, *] <;> rfl) (by simp +decide only [go_sem, *] <;> rfl) Tryd.underlying25 (by simp +decide only [go_sem, *] <;> rfl) (by simp) h2 (by simp +decide only [go_sem, *] <;> rfl)) ?_
  refine goF ?_
  refine ARun.p1 rfl rfl (pl_append (b:=NN) (tot:=i) (es:=[.int x]) (by simp +decide only [go_sem, *] <;> rfl) (by simp +decide only [go_sem, *] <;> rfl) (by simp +decide only [go_sem, *] <;> rfl) (by simp;omega) Tryd.underlying25 el3 rfl rfl (by simp) (fun e he=>by rw [List.mem_singleton] at he;subst he;exact ⟨rfl,rfl⟩) (by simp;omega) (by simp;omega)) ?_
  refine goF ?_
  rw [wrap_succ (by omega)]
  refine ⟨i + 1,hd,by omega,?_⟩
  rw [htk,show intB (A ++ [x]) = ⟨3,1,A.map AV.int ++ [AV.int x]⟩ by rw [intB,List.map_append];rfl]
  exact .wf
 simp at hd
 obtain rfl:i = vs.length:=by omega
 rw [List.take_length]
 have hgl:(givL c vs).length = vs.length:=by unfold givL;rw [List.length_map]
 rw [hgl]
 refine goF ?_
 exact RetH.same (vs:=[.own NN vs.length 0 vs.length]) (by show resVals _ _ [.tmp 4] = _;simp +decide only [resVals,resVal,ldPtr,ldE,go_sem, *] <;> rfl) rfl rfl
@[go_sem] theorem aH_get0 {H T:List ABlk}:(H ++ T)[H.length]? = T[0]?:=by rw [List.getElem?_append_right (Nat.le_refl _),Nat.sub_self]
@[go_sem] theorem aH_set0 {H T:List ABlk} {X:ABlk}:(H ++ T).set H.length X = H ++ T.set 0 X:=by rw [List.set_append_right _ _ (Nat.le_refl _),Nat.sub_self]
theorem aH_get {H:List ABlk} {b:Nat} {X:ABlk} (h:H[b]? = some X) (T:List ABlk):(H ++ T)[b]? = some X:=by rw [List.getElem?_append_left (List.getElem?_eq_some_iff.1 h).1];exact h
theorem Lend.int {H:List ABlk} {b ty n:Nat} {l:List Int} (h:H[b]? = some ⟨ty,1,l.map AV.int⟩) (hn:l.length = n):Lend H (.own b n 0 n) (.lst (l.map AV.int)):=.ownM h hn fun x _ c hc=>by
 simp only [AV.cells,List.mem_singleton] at hc;subst hc;exact .base _
theorem clone_ok {H:List ABlk} {b n:Nat} {l:List Int} (hb:H[b]? = some (intB l)) (hn:l.length = n) (h0:0 < n) (h1:n ≤ 1000000):FnH Tryd.prog 89 [.own b n 0 n] H (.own H.length n 0 n) (H ++ [intB l]):=by
 refine FnH.intro' [(0,.own b n 0 n)] 1 8 H.length Tryd.func89 (by kernel_rfl) rfl rfl rfl rfl rfl rfl ?_
 refine goE ?_
 refine ARun.q1 rfl rfl (ql_eqnil_own (b:=b) (tot:=n) (off:=0) (len:=n) (by simp +decide only [go_sem, *] <;> rfl) hb (by simp [hn]) h0 (by simp +decide only [go_sem, *] <;> rfl) Tryd.underlying25) ?_
 refine goE ?_
 refine iff_ ?_ ?_ rfl
 rotate_left
 ·rfl
 refine goE ?_
 refine ARun.p1 rfl rfl (pl_buildSlice (es:=[]) (by decide) Tryd.underlying25 sz3 (by kernel_rfl) (by decide) (by (simp +decide only [List.map,go_sem] <;> rfl)) (by (simp +decide only [List.map,go_sem] <;> rfl)) rfl) ?_
 refine goE ?_
 refine ARun.p1 rfl rfl (pl_appendL (b:=H.length) (tot:=0) (size:=1) (bytes:=8) (es:=l.map AV.int) (av:=.own b n 0 n) (blk:=⟨3,1,[]⟩) (by simp +decide only [go_sem, *] <;> rfl) (by simp +decide only [go_sem, *] <;> rfl) (Lend.int (ty:=3) (aH_get hb _) hn) (fun e he=>by obtain ⟨x,_,rfl⟩:=List.mem_map.1 he;exact ⟨_,rfl⟩) (by simp +decide only [go_sem, *] <;> rfl) rfl Tryd.underlying25 el3 rfl rfl (by simp;omega) (fun e he=>by obtain ⟨x,_,rfl⟩:=List.mem_map.1 he;exact ⟨rfl,rfl⟩) (by simp;omega) (by simp;omega)) ?_
 refine goE ?_
 exact RetH.same (vs:=[.own H.length n 0 n]) (by show resVals _ _ [.tmp 2] = _;simp +decide only [resVals,resVal,ldPtr,ldE,go_sem, *] <;> rfl) rfl rfl
def joinL (a b:List Int):List Int:=List.zipWith max a b
theorem joinL_len {a b:List Int} (h:a.length = b.length):(joinL a b).length = a.length:=by unfold joinL;rw [List.length_zipWith,h,Nat.min_self]
def joinK (a b:List Int) (k:Nat):List Int:=joinL (a.take k) (b.take k) ++ a.drop k
theorem joinK_all {a b:List Int} (h:a.length = b.length):joinK a b a.length = joinL a b:=by unfold joinK;rw [List.take_length,h,List.take_length,← h,List.drop_length,List.append_nil]
theorem joinK_len {a b:List Int} (h:a.length = b.length) {k:Nat} (hk:k ≤ a.length):(joinK a b k).length = a.length:=by
 unfold joinK;rw [List.length_append,joinL_len (by simp [h]),List.length_take,List.length_drop];omega
theorem joinK_at {a b:List Int} (h:a.length = b.length) {k:Nat} (hk:k < a.length):(joinK a b k)[k]? = some a[k]:=by
 unfold joinK
 have:(joinL (a.take k) (b.take k)).length = k:=by rw [joinL_len (by simp [h]),List.length_take];omega
 rw [List.getElem?_append_right (by omega),this,Nat.sub_self,List.getElem?_drop,Nat.add_zero,List.getElem?_eq_getElem hk]
theorem joinK_succ {a b:List Int} (h:a.length = b.length) {k:Nat} (hk:k < a.length):joinK a b (k + 1) = (joinK a b k).set k (max a[k] (b[k]'(by omega))):=by
 have hk2:k < b.length:=by omega
 have hl:(joinL (a.take k) (b.take k)).length = k:=by rw [joinL_len (by simp [h]),List.length_take];omega
 have e1:joinL (a.take (k + 1)) (b.take (k + 1)) = joinL (a.take k) (b.take k) ++ [max a[k] b[k]]:=by
  unfold joinL
  rw [List.take_succ_eq_append_getElem hk,List.take_succ_eq_append_getElem hk2,List.zipWith_append (by simp;omega)]
  rfl
 unfold joinK
 rw [e1,List.set_append_right _ _ (by omega),hl,Nat.sub_self,List.drop_eq_getElem_cons hk,List.set_cons_zero,List.append_assoc]
 rfl
theorem join_ok {H:List ABlk} {b c n:Nat} {l m:List Int} (hb:H[b]? = some (intB l)) (hc:H[c]? = some (intB m)) (hn:l.length = n) (hm:m.length = n) (h0:0 < n) (h1:n ≤ 1000000):FnH Tryd.prog 87 [.own b n 0 n,.own c n 0 n] H (.own H.length n 0 n) (H ++ [intB (joinL l m)]):=by
 have i1:=clone_ok hb hn h0 h1
 have hlm:l.length = m.length:=by omega
 have hc':=aH_get hc
 refine FnH.intro' [(0,.own b n 0 n),(1,.own c n 0 n)] 2 28 H.length Tryd.func87 (by kernel_rfl) rfl rfl rfl rfl rfl rfl ?_
 refine goF ?_
 refine ARun.p1 rfl rfl (pl_callW i1 (by simp) rfl (by simp +decide only [go_sem, *] <;> rfl) (by simp +decide only [go_sem, *] <;> rfl)) ?_
 refine goF ?_
 refine AWp.loop (J:=fun k:Nat=>k ≤ n) (fun k=>⟨[(5,.own H.length n 0 n),(10,.own c n 0 n),(11,.int n),(12,.int k)],H ++ [intB (joinK l m k)]⟩) (fun k=>n - k) 0 (Nat.zero_le _) .wf ?_
 rintro k hk
 have hjl:=joinK_len hlm (k:=k) (by omega)
 rw [hn] at hjl
 refine goF ?_
 refine ifA (fun hd=>?_) (fun hd=>?_)
 ·simp at hd
  have hjs:=joinK_succ hlm (k:=k) (by omega)
  have hja:=joinK_at hlm (k:=k) (by omega)
  have hm2:k < m.length:=by omega
  have hmk:(m.map AV.int)[k]? = some (.int m[k]):=gtM hm2
  generalize l[k] = x at *
  generalize m[k] = y at *
  generalize joinK l m k = A at *
  have hak:(A.map AV.int)[k]? = some (.int x):=by rw [List.getElem?_map,hja];rfl
  clear i1
  refine goF ?_
  refine ARun.q1 rfl rfl (ql_ixo (n:=k) (b:=c) (tot:=n) (len:=n) (blk:=intB m) (by simp +decide only [go_sem, *] <;> rfl) (by simp +decide only [go_sem, *] <;> rfl) Tryd.underlying25 (hc' _) (by simp [hm]) hd (by simp +decide only [go_sem, *] <;> rfl)) ?_
  refine goF ?_
  refine ARun.q1 rfl rfl (ql_ixo (n:=k) (b:=H.length) (tot:=n) (len:=n) (blk:=intB A) (by simp +decide only [go_sem, *] <;> rfl) (by simp +decide only [go_sem, *] <;> rfl) Tryd.underlying25 (by simp) (by simp [hjl]) hd (by simp +decide only [go_sem, *] <;> rfl)) ?_
  refine goF ?_
  refine ARun.q1 rfl rfl (ql_ixo (n:=k) (b:=H.length) (tot:=n) (len:=n) (blk:=intB A) (by simp +decide only [go_sem, *] <;> rfl) (by simp +decide only [go_sem, *] <;> rfl) Tryd.underlying25 (by simp) (by simp [hjl]) hd (by simp +decide only [go_sem, *] <;> rfl)) ?_
  refine goF ?_
  refine ARun.p1 rfl rfl (pl_store_own (f:=AV.int) (l:=A) (b:=H.length) (tot:=n) (i:=k) (ty:=3) (sz:=1) (max x y) (by simp +decide only [go_sem, *] <;> rfl) (by simp +decide only [go_sem, *] <;> rfl) (by simp) hjl (by omega) sz3 rfl rfl) ?_
  refine goF ?_
  rw [wrap_succ (by omega)]
  refine ⟨k + 1,hd,by omega,?_⟩
  rw [hjs]
  exact .wf
 simp at hd
 obtain rfl:k = n:=by omega
 rw [show joinK l m k = joinL l m by rw [← hn];exact joinK_all hlm]
 refine goF ?_
 exact RetH.same (vs:=[.own H.length k 0 k]) (by show resVals _ _ [.tmp 4] = _;simp +decide only [resVals,resVal,ldPtr,ldE,go_sem, *] <;> rfl) rfl rfl
end Go.Ab
