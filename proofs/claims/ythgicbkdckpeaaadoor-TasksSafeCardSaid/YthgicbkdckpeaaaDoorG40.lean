/- Part of the proof. -/
import Derived.Test.YthgicbkdckpeaaaDoorG39
import Derived.Test.YthgicbkdckpeaaaDoorG35
set_option linter.unusedSimpArgs false
set_option linter.unusedVariables false
set_option maxHeartbeats 4000000
namespace Go.Ab
open Go Go.Ab Go.Proofs Go.Ab.Ty
theorem startN_eq:∀k:Nat,k≤8→Rg.startN Rg.start0 k=⟨fun v=>if 0≤v∧v<(k:Int) then v+1 else 0,k,-1⟩:=by
 intro k
 induction k with
 | zero =>
   intro _
   show Rg.start0=_
   unfold Rg.start0
   congr 1
   funext v
   rw [if_neg (by omega)]
 | succ k ih =>
   intro hk
   show Rg.freshR (Rg.startN Rg.start0 k) k=_
   rw [ih (by omega)]
   unfold Rg.freshR
   simp only
   rw [show IntKind.i64.wrap ((k:Int)+1)=((k+1:Nat):Int) by rw [wrap_id (by omega) (by omega)];omega]
   congr 1
   funext v
   unfold Rg.updI
   by_cases e:v=(k:Int)
   ·rw [if_pos e,if_pos (by omega)];omega
   ·rw [if_neg e]
    show (if 0≤v∧v<(k:Int) then v+1 else 0)=_
    by_cases e2:0≤v∧v<(k:Int)
    ·rw [if_pos e2,if_pos (by omega)]
    ·rw [if_neg e2,if_neg (by omega)]
theorem startF_eq (c:Cd) (m:Bool) (h:0≤c.params∧c.params≤7):(∀v,(Rg.startF c m).of v=if 0≤v∧v<c.params then v+1 else if m=true∧v=c.params then c.params+1 else 0)∧(Rg.startF c m).actor=(if m then c.params+1 else -1)∧0≤(Rg.startF c m).count∧(Rg.startF c m).count≤c.params+1∧(m=true→(Rg.startF c m).count=c.params+1)∧(m=false→(Rg.startF c m).count=c.params):=by
 have hk:=startN_eq c.params.toNat (by omega)
 have hkn:((c.params.toNat:Nat):Int)=c.params:=Int.toNat_of_nonneg h.1
 cases m with
 | false =>
   unfold Rg.startF
   rw [if_neg (by simp),hk]
   simp only [hkn]
   refine ⟨fun v=>?_,by simp,by omega,by omega,by simp,by simp⟩
   split
   ·rfl
   ·simp
 | true =>
   unfold Rg.startF
   rw [if_pos rfl,hk]
   unfold Rg.freshR
   simp only [hkn]
   rw [wrap_id (by omega) (by omega)]
   refine ⟨fun v=>?_,?_,by omega,by omega,by simp,by simp⟩
   ·unfold Rg.updI
    by_cases e:v=c.params
    ·rw [if_pos e,if_neg (by omega),if_pos ⟨trivial,e⟩]
    ·rw [if_neg e]
     show (if 0≤v∧v<c.params then v+1 else 0)=_
     split
     ·rfl
     ·rw [if_neg (fun g=>e g.2)]
   ·unfold Rg.updI
    rw [if_pos rfl];simp
structure RgW (r:Rg.Rg) (m:Int):Prop where
 c0:0≤r.count
 cm:r.count≤m
 of:∀v,r.of v = -1∨(0≤r.of v∧r.of v≤r.count)
 ac:r.actor = -1∨(0<r.actor∧r.actor≤r.count)
theorem RgW.mono {r:Rg.Rg} {m m':Int} (h:RgW r m) (hm:m≤m'):RgW r m':=⟨h.c0,by have:=h.cm;omega,h.of,h.ac⟩
theorem RgW.fresh {r:Rg.Rg} {m:Int} (h:RgW r m) (hm:m≤1000) (v:Int):RgW (Rg.freshR r v) (m+1):=by
 obtain ⟨h1,h2,h3,h4⟩:=h
 have hw:IntKind.i64.wrap (r.count+1)=r.count+1:=wrap_id (by omega) (by omega)
 unfold Rg.freshR
 rw [hw]
 refine ⟨by show 0≤r.count+1;omega,by show r.count+1≤_;omega,fun w=>?_,?_⟩
 ·show Rg.updI r.of v (r.count+1) w = -1∨(0≤Rg.updI r.of v (r.count+1) w∧Rg.updI r.of v (r.count+1) w≤r.count+1)
  unfold Rg.updI
  split
  ·omega
  ·have:=h3 w;omega
 ·show r.actor = -1∨(0<r.actor∧r.actor≤r.count+1)
  omega
theorem RgW.send {r:Rg.Rg} {m:Int} (h:RgW r m) (vs:List Int) (d:Bool):RgW (Rg.sendR r vs d) m:=by
 unfold Rg.sendR
 split
 ·refine ⟨h.c0,h.cm,fun v=>?_,h.ac⟩
  show Rg.goneF r.of (vs.map r.of) 8 v = -1∨_
  unfold Rg.goneF
  simp only
  split
  ·exact .inl rfl
  ·exact h.of v
 ·exact h
theorem RgW.after {r:Rg.Rg} {m:Int} (h:RgW r m) (hm:m≤1000) (st:Stp):RgW (Rg.afterR r st) (m+1):=by
 have h':RgW r (m+1):=h.mono (by omega)
 unfold Rg.afterR
 split
 ·exact h.fresh hm _
 split
 ·split
  ·refine ⟨h'.c0,h'.cm,fun v=>?_,h'.ac⟩
   show Rg.updI r.of st.v (r.of st.w) v = -1∨_
   simp only [Rg.updI]
   split
   ·exact h.of _
   ·exact h.of v
  ·exact h'
 split
 ·split
  ·refine ⟨h'.c0,h'.cm,fun v=>?_,h'.ac⟩
   show Rg.repl r.of (Rg.joinO r st.v st.w) (Rg.joinN r st.v st.w) 8 v = -1∨_
   simp only [Rg.joinF,Rg.repl]
   split
   ·unfold Rg.joinN
    split
    ·exact h.of _
    ·exact h.of _
   ·exact h.of v
  ·exact h'
 split
 ·exact h'
 split
 ·exact h'.send _ _
 split
 ·exact h'.send _ _
 ·exact h'
theorem RgW.at {l:List Stp}:∀ {r:Rg.Rg} {m:Int},RgW r m→m+l.length≤1000→RgW (Rg.regAt r l) (m+l.length):=by
 induction l with
 | nil=>intro r m h _;simpa [Rg.regAt] using h
 | cons s l ih =>
   intro r m h hm
   simp only [List.length_cons] at hm ⊢
   have:=ih (h.after (by omega) s) (by omega)
   exact this.mono (by omega)
def Acc1 (p:Tk):Prop:=(Rg.numsF p (Rg.nums p)).2.2=0
theorem stepsF_err:∀(l:List Stp) (r:Rg.Rg) (k k' e:Int),Rg.stepsF r l k=some (k',e)→e≠0:=by
 intro l
 induction l with
 | nil=>intro r k k' e h;simp [Rg.stepsF] at h
 | cons s l ih =>
   intro r k k' e h
   simp only [Rg.stepsF] at h
   split at h
   ·exact ih _ _ _ _ h
   ·rename_i he
    simp only [Option.some.injEq,Prod.mk.injEq] at h
    rw [← h.2];exact he
theorem numsF_zero {p:Tk}:∀(l:List Int),(Rg.numsF p l).2.2=0→∀n∈l,Rg.codeF p n=none:=by
 intro l
 induction l with
 | nil=>intro _ n hn;cases hn
 | cons x l ih =>
   intro h n hn
   simp only [Rg.numsF] at h
   cases hx:Rg.codeF p x with
   | none =>
     rw [hx] at h
     rcases List.mem_cons.1 hn with rfl|hn
     ·exact hx
     ·exact ih h n hn
   | some y =>
     rw [hx] at h
     obtain ⟨k,e⟩:=y
     exact absurd h (stepsF_err _ _ _ _ _ hx)
theorem stepsF_none:∀(l:List Stp) (r:Rg.Rg) (k:Int),Rg.stepsF r l k=none→∀(i:Nat) (st:Stp),l[i]?=some st→Rg.afterE (Rg.regAt r (l.take i)) st=0:=by
 intro l
 induction l with
 | nil=>intro r k h i st hi;simp at hi
 | cons s l ih =>
   intro r k h i st hi
   simp only [Rg.stepsF] at h
   split at h
   ·rename_i he
    cases i with
    | zero=>simp at hi;subst hi;exact he
    | succ i=>exact ih _ _ h i st (by simpa using hi)
   ·cases h
theorem acc_step {s:PRun} (hg:Gi s) (ha:Acc1 s.p) {c:PCall} {st:Stp} (hc:c∈s.calls) (h0:0≤c.pc) (he:c.code.steps[c.pc.toNat]?=some st):Rg.afterE (rgc c) st=0:=by
 have hall:=numsF_zero _ ha
 have hcg:=(hg.ca c hc).cd
 have key:∃n∈Rg.nums s.p,Rg.codeOf s.p n=c.code∧decide (n<0)=decide (0≤c.actor):=by
  rcases hcg with ⟨e1,k,e2⟩|⟨e1,e2,k,e3⟩
  ·have hk:=(List.getElem?_eq_some_iff.1 e2).1
   refine ⟨(k:Int),?_,?_,?_⟩
   ·unfold Rg.nums Rg.numC
    exact List.mem_append_left _ (List.mem_map.2 ⟨k,List.mem_range.2 hk,rfl⟩)
   ·unfold Rg.codeOf
    rw [if_neg (by omega)]
    exact nth_at e2
   ·rw [e1,decide_eq_false (by omega:¬(k:Int)<0),decide_eq_false (by omega)]
  ·have hk:=(List.getElem?_eq_some_iff.1 e3).1
   refine ⟨-1-(k:Int),?_,?_,?_⟩
   ·unfold Rg.nums Rg.numM
    exact List.mem_append_right _ (List.mem_map.2 ⟨k,List.mem_range.2 hk,rfl⟩)
   ·unfold Rg.codeOf
    rw [if_pos (by omega),show -1-(-1-(k:Int))=k by omega]
    exact nth_at e3
   ·rw [decide_eq_true (by omega:-1-(k:Int)<0),decide_eq_true e1]
 obtain ⟨n,n1,n2,n3⟩:=key
 have h1:=hall n n1
 unfold Rg.codeF at h1
 rw [n2,n3] at h1
 exact stepsF_none _ _ _ h1 _ _ he
end Go.Ab
set_option maxHeartbeats 4000000
namespace Go.Ab
open Go Go.Ab Go.Proofs Go.Ab.Ty
inductive Ow|fr (j:Nat) (r:Int)|ac (a:Int)
 deriving DecidableEq
noncomputable def owc (j:Nat) (c:PCall) (ρ:Int):Ow:=if ρ=(rgc c).actor then .ac c.actor else .fr j ρ
def Good (own:Nat→Ow) (j:Nat) (c:PCall):Prop:=∀(v:Nat) (x:Int),c.vars[v]?=some x→0≤x→0<(rgc c).of v→own x.toNat=owc j c ((rgc c).of v)
structure FI (own:Nat→Ow) (s:PRun):Prop where
 fr:∀(n:Nat) (t:PTask) (i j:Nat) (c:PCall),s.tasks[n]?=some t→i<t.slen→t.sarr[i]?=some j→s.calls[j]?=some c→Good own j c
 ao:∀a:Nat,(a:Int)<s.p.actors→own a=.ac a
 ln:∀(o:Nat) (x:Int × Int),s.objs[o]?=some x→0≤x.2→own x.2.toNat=own o
 cl:∀o:Nat,o<s.objs.length→∀(j:Nat) (ρ:Int),own o=.fr j ρ→j<s.calls.length
theorem Good.eqs {own:Nat→Ow} {j:Nat} {c c':PCall} (h:Good own j c) (h1:c'.vars=c.vars) (h2:c'.actor=c.actor) (h3:rgc c'=rgc c):Good own j c':=fun v x e1 e2 e3=>by
 rw [h1] at e1;rw [h3] at e3
 unfold owc
 rw [h2,h3]
 exact h v x e1 e2 e3
theorem FI.sm {own:Nat→Ow} {s s':PRun} (h:FI own s) (g:Sm s s'):FI own s':=by
 refine ⟨fun n t' i j c' e1 e2 e3 e4=>?_,by rw [g.fx.p];exact h.ao,by rw [g.fx.objs];exact h.ln,by rw [g.fx.objs,g.cl];exact h.cl⟩
 obtain ⟨t,a1,a2,a3,_⟩:=g.tk n t' e1
 obtain ⟨c,b1,b2,b3,b4,b5⟩:=g.ca j c' e4
 rw [a2] at e3
 exact (h.fr n t i j c a1 (by omega) e3 b1).eqs b2 b3 b5
theorem FI.zs {own:Nat→Ow} {s s':PRun} {n:Nat} (h:FI own s) (g:Zs s s' n):FI own s':=by
 refine ⟨fun n t' i j c' e1 e2 e3 e4=>?_,by rw [g.p];exact h.ao,by rw [g.objs];exact h.ln,by rw [g.objs,g.calls];exact h.cl⟩
 obtain ⟨t,a1,a2⟩:=g.tk n t' e1
 rw [g.calls] at e4
 have q1:t'.sarr=t.sarr:=by rw [a2]
 have q2:t'.slen=t.slen:=by rw [a2]
 exact h.fr n t i j c' a1 (by rw [← q2];exact e2) (by rw [← q1];exact e3) e4
theorem FI.move {own own':Nat→Ow} {s s':PRun} (h:FI own s) (hg:Gi s) (hao:s.p.actors.toNat≤s.objs.length) {j:Nat} (hp:s'.p=s.p)
 (hfr:∀(n:Nat) (t:PTask) (i j1:Nat) (c1:PCall),s'.tasks[n]?=some t→i<t.slen→t.sarr[i]?=some j1→s'.calls[j1]?=some c1→Good own' j1 c1∨(j1≠j∧∃(n:Nat) (t:PTask) (i:Nat),s.tasks[n]?=some t∧i<t.slen∧t.sarr[i]?=some j1∧s.calls[j1]?=some c1))
 (ho:∀o:Nat,o<s.objs.length→∀(j':Nat) (ρ:Int),j'≠j→own o=.fr j' ρ→own' o=.fr j' ρ) (ha:∀o:Nat,o<s.objs.length→∀a,own o=.ac a→own' o=.ac a)
 (hl:∀(o:Nat) (x:Int × Int),s'.objs[o]?=some x→0≤x.2→own' x.2.toNat=own' o) (hc:∀o:Nat,o<s'.objs.length→∀(j:Nat) (ρ:Int),own' o=.fr j ρ→j<s'.calls.length):FI own' s':=by
 refine ⟨fun n t i j1 c1 e1 e2 e3 e4=>?_,fun a q=>?_,hl,hc⟩
 ·rcases hfr n t i j1 c1 e1 e2 e3 e4 with g|⟨g,n',t',i',f1,f2,f3,f4⟩
  ·exact g
  ·have hG:=h.fr n' t' i' j1 c1 f1 f2 f3 f4
   intro v x q1 q2 q3
   have hx:=(hg.ca c1 (List.mem_of_getElem? f4)).vo x (List.mem_of_getElem? q1)
   have hw:=hG v x q1 q2 q3
   unfold owc at hw ⊢
   by_cases e:(rgc c1).of v=(rgc c1).actor
   ·rw [if_pos e] at hw ⊢;exact ha _ (by omega) _ hw
   ·rw [if_neg e] at hw ⊢;exact ho _ (by omega) _ _ g hw
 ·rw [hp] at q
  exact ha a (by omega) _ (h.ao a q)
theorem frames1 {own':Nat→Ow} {s s':PRun} {j:Nat} {c c':PCall} (hc:s.calls[j]?=some c) (h1:s'.calls=s.calls.set j c') (h2:s'.tasks=s.tasks) (hG:Good own' j c') :
 ∀(n:Nat) (t:PTask) (i j1:Nat) (c1:PCall),s'.tasks[n]?=some t→i<t.slen→t.sarr[i]?=some j1→s'.calls[j1]?=some c1→Good own' j1 c1∨(j1≠j∧∃(n:Nat) (t:PTask) (i:Nat),s.tasks[n]?=some t∧i<t.slen∧t.sarr[i]?=some j1∧s.calls[j1]?=some c1):=by
 intro n t i j1 c1 e1 e2 e3 e4
 rw [h1] at e4
 rw [h2] at e1
 by_cases e:j1=j
 ·subst e
  rw [List.getElem?_set_self (List.getElem?_eq_some_iff.1 hc).1] at e4
  injection e4 with e4;subst e4
  exact .inl hG
 ·rw [List.getElem?_set_ne (fun q=>e q.symm)] at e4
  exact .inr ⟨e,n,t,i,e1,e2,e3,e4⟩
structure CW (c:PCall):Prop where
 w:RgW (rgc c) 30
 vl:c.vars.length≤8
theorem cw_of {s:PRun} (hi:Iv s) (hg:Gi s) {c:PCall} (hc:c∈s.calls):CW c:=by
 obtain ⟨l,k,hK⟩:=cdk_of hg hc
 obtain ⟨⟨r1,r2,r3,r4,r5⟩,_⟩:=hK.ok
 rw [hK.lc] at r1 r2 r3 r4 r5
 have hpc:=hi.pcB c hc
 have h0:∀m:Bool,RgW (Rg.startF c.code m) 5:=fun m=>by
  obtain ⟨f1,f2,f3,f4,f5,f6⟩:=startF_eq c.code m (by omega)
  refine ⟨f3,by omega,fun v=>?_,?_⟩
  ·rw [f1 v]
   cases m with
   | true =>
     have:=f5 rfl
     split
     ·omega
     ·split<;>omega
   | false =>
     have:=f6 rfl
     split
     ·omega
     ·rw [if_neg (fun g=>by cases g.1)];omega
  ·rw [f2]
   cases m with
   | true=>have:=f5 rfl;rw [if_pos rfl];omega
   | false=>rw [if_neg (by simp)];exact .inl rfl
 have hl:=(hg.ca c hc).vl
 refine ⟨?_,by rw [hl];omega⟩
 have h1:=(h0 (decide (0≤c.actor))).at (l:=c.code.steps.take c.pc.toNat) (by rw [List.length_take];omega)
 exact h1.mono (by rw [List.length_take];omega)
theorem must_pos {r:Rg.Rg} {m:Int} (h:RgW r m):∀ {l:List Int},Rg.mustF r l=0→∀v∈l,0<r.of v:=by
 intro l
 induction l with
 | nil=>intro _ v hv;cases hv
 | cons x l ih =>
   intro h1 v hv
   simp only [Rg.mustF] at h1
   split at h1
   ·omega
   ·split at h1
    ·omega
    ·rcases List.mem_cons.1 hv with rfl|hv
     ·have:=h.of v;omega
     ·exact ih h1 v hv
theorem send_ok' {r:Rg.Rg} {m:Int} (h:RgW r m) {vs:List Int} {d:Bool} (h1:Rg.sendE r vs d=0):(∀v∈vs,0<r.of v∧r.of v≠r.actor)∧(d=true→¬Rg.dupl r vs)∧Rg.sendR r vs d=⟨Rg.goneF r.of (vs.map r.of) 8,r.count,r.actor⟩:=by
 have h2:Rg.sendR r vs d=⟨Rg.goneF r.of (vs.map r.of) 8,r.count,r.actor⟩:=by unfold Rg.sendR;rw [if_pos h1]
 unfold Rg.sendE at h1
 split at h1
 ·rename_i q;exact absurd h1 q
 ·rename_i q
  rw [Decidable.not_not] at q
  split at h1
  ·omega
  ·rename_i q2
   split at h1
   ·omega
   ·rename_i q3
    refine ⟨fun v hv=>⟨must_pos h q v hv,fun e=>q3 (by rw [← e];exact List.mem_map_of_mem hv)⟩,fun e g=>q2 ⟨e,g⟩,h2⟩
end Go.Ab
set_option maxHeartbeats 4000000
namespace Go.Ab
open Go Go.Ab Go.Proofs Go.Ab.Ty
theorem after_actor (r:Rg.Rg) (st:Stp):(Rg.afterR r st).actor=r.actor:=by
 unfold Rg.afterR Rg.freshR Rg.joinF Rg.sendR
 (repeat' split)<;>rfl
theorem regAt_actor (l:List Stp):∀r:Rg.Rg,(Rg.regAt r l).actor=r.actor:=by
 induction l with
 | nil=>intro r;rfl
 | cons s l ih=>intro r;show (Rg.regAt (Rg.afterR r s) l).actor=_;rw [ih,after_actor]
structure OpH (own:Nat→Ow) (s:PRun) (j:Nat) (c:PCall) (st:Stp):Prop where
 fi:FI own s
 iv:Iv s
 gi:Gi s
 ao:s.p.actors.toNat≤s.objs.length
 hc:s.calls[j]?=some c
 gd:Good own j c
 p0:0≤c.pc
 es:c.code.steps[c.pc.toNat]?=some st
 ac:Rg.afterE (rgc c) st=0
theorem OpH.rg {own:Nat→Ow} {s:PRun} {j:Nat} {c:PCall} {st:Stp} (h:OpH own s j c st) (w:List Int):rgc { c with vars:=w,pc:=c.pc+1 }=Rg.afterR (rgc c) st:=rgc_succ (c:={ c with vars:=w }) h.p0 h.es
theorem OpH.vo {own:Nat→Ow} {s:PRun} {j:Nat} {c:PCall} {st:Stp} (h:OpH own s j c st) {v:Nat} {x:Int} (e:c.vars[v]?=some x):x<s.objs.length:=(h.gi.ca c (List.mem_of_getElem? h.hc)).vo x (List.mem_of_getElem? e)
theorem OpH.cw {own:Nat→Ow} {s:PRun} {j:Nat} {c:PCall} {st:Stp} (h:OpH own s j c st):CW c:=cw_of h.iv h.gi (List.mem_of_getElem? h.hc)
theorem OpH.act {own:Nat→Ow} {s:PRun} {j:Nat} {c:PCall} {st:Stp} (h:OpH own s j c st) (ha:(rgc c).actor ≠ -1):0≤c.actor:=by
 obtain ⟨l,k,hK⟩:=cdk_of h.gi (List.mem_of_getElem? h.hc)
 obtain ⟨⟨r1,r2,r3,r4,r5⟩,_⟩:=hK.ok
 rw [hK.lc] at r1 r2
 obtain ⟨f1,f2,f3,f4,f5,f6⟩:=startF_eq c.code (decide (0≤c.actor)) (by omega)
 unfold rgc at ha
 rw [regAt_actor,f2] at ha
 rcases Int.lt_or_le c.actor 0 with g|g
 ·rw [decide_eq_false (by omega)] at ha
  exact absurd rfl ha
 ·exact g
theorem FI.op1 {own:Nat→Ow} {s s':PRun} {j:Nat} {c:PCall} {st:Stp} (h:OpH own s j c st) (ho:st.op=1) (hv:0≤st.v) {z:Int} (hp:s'.p=s.p) (ht:s'.tasks=s.tasks)
 (hcl:s'.calls=s.calls.set j { c with vars:=c.vars.set st.v.toNat s.objs.length,pc:=c.pc+1 }) (hob:s'.objs=s.objs++[(z,-1)]):∃own',FI own' s'∧∀o,o<s.objs.length→own' o=own o:=by
 have hjl:=(List.getElem?_eq_some_iff.1 h.hc).1
 have hW:=h.cw.w
 have hr:Rg.afterR (rgc c) st=Rg.freshR (rgc c) st.v:=by unfold Rg.afterR;rw [if_pos ho]
 have hw:IntKind.i64.wrap ((rgc c).count+1)=(rgc c).count+1:=wrap_id (by have:=hW.c0;omega) (by have:=hW.cm;omega)
 refine ⟨fun o=>if o=s.objs.length then .fr j ((rgc c).count+1) else own o,?_,fun o hlt=>if_neg (by omega)⟩
 have hold:∀o,o<s.objs.length→(if o=s.objs.length then Ow.fr j ((rgc c).count+1) else own o)=own o:=fun o hlt=>if_neg (by omega)
 refine h.fi.move h.gi h.ao (j:=j) hp (frames1 h.hc hcl ht fun v x e1 e2 e3=>?_) (fun o hlt j' ρ _ e=>by rw [hold o hlt];exact e) (fun o hlt a e=>by rw [hold o hlt];exact e) (fun o x e1 e2=>?_) (fun o hlt j' ρ e=>?_)
 ·unfold owc
  rw [h.rg,hr] at e3 ⊢
  simp only at e1
  by_cases ev:v=st.v.toNat
  ·subst ev
   rw [List.getElem?_set] at e1
   simp only [if_true] at e1
   split at e1
   ·injection e1 with e1;subst e1
    have q:(Rg.freshR (rgc c) st.v).of (st.v.toNat:Int)=(rgc c).count+1:=by
     unfold Rg.freshR Rg.updI;simp only;rw [if_pos (by omega),hw]
    rw [q,Int.toNat_natCast,if_pos rfl,if_neg]
    show (rgc c).count+1≠(rgc c).actor
    have:=hW.ac;have:=hW.c0;omega
   ·cases e1
  ·rw [List.getElem?_set_ne (fun e=>ev e.symm)] at e1
   have q:(Rg.freshR (rgc c) st.v).of (v:Int)=(rgc c).of v:=by
    unfold Rg.freshR Rg.updI;simp only;rw [if_neg (by omega)]
   have hx:=h.vo e1
   rw [q] at e3 ⊢
   rw [hold _ (by omega)]
   exact h.gd v x e1 e2 e3
 ·rw [hob] at e1
  rcases Nat.lt_or_ge o s.objs.length with q|q
  ·rw [List.getElem?_append_left q] at e1
   have:=h.gi.ob x (List.mem_of_getElem? e1)
   rw [hold _ q,hold _ (by omega)]
   exact h.fi.ln o x e1 e2
  ·rw [List.getElem?_append_right q] at e1
   cases hq:o-s.objs.length with
   | zero=>rw [hq] at e1;simp at e1;subst e1;simp at e2
   | succ m=>rw [hq] at e1;simp at e1
 ·rw [hcl,List.length_set]
  by_cases q:o=s.objs.length
  ·rw [if_pos q] at e;injection e with e;omega
  ·rw [if_neg q] at e
   rw [hob] at hlt;simp at hlt
   exact h.fi.cl o (by omega) j' ρ e
theorem FI.op45 {own:Nat→Ow} {s s':PRun} {j:Nat} {c:PCall} {st:Stp} (h:OpH own s j c st) (ho:st.op≠1∧st.op≠2∧st.op≠3∧st.op≠6∧st.op≠8∧st.op≠9) (hp:s'.p=s.p) (ht:s'.tasks=s.tasks∨(∀(n:Nat) (t':PTask),s'.tasks[n]?=some t'→∃t:PTask,s.tasks[n]?=some t∧t'.sarr=t.sarr∧t'.slen=t.slen))
 (hcl:s'.calls=s.calls.set j { c with pc:=c.pc+1 }) (hob:s'.objs.length=s.objs.length) (hlk:∀(o:Nat) (x:Int × Int),s'.objs[o]?=some x→∃y:Int × Int,s.objs[o]?=some y∧x.2=y.2):FI own s':=by
 have hr:Rg.afterR (rgc c) st=rgc c:=by
  obtain ⟨a1,a2,a3,a4,a5,a6⟩:=ho
  unfold Rg.afterR
  rw [if_neg a1,if_neg a2,if_neg a3]
  split
  ·rfl
  split
  ·omega
  ·rfl
 have hG:Good own j { c with pc:=c.pc+1 }:=h.gd.eqs rfl rfl (by have:=h.rg c.vars;rw [hr] at this;exact this)
 refine ⟨fun n t' i j1 c1 e1 e2 e3 e4=>?_,by rw [hp];exact h.fi.ao,fun o x e1 e2=>?_,by rw [hob,hcl,List.length_set];exact h.fi.cl⟩
 ·have hq:∃t:PTask,s.tasks[n]?=some t∧t'.sarr=t.sarr∧t'.slen=t.slen:=by
   rcases ht with ht|ht
   ·rw [ht] at e1;exact ⟨t',e1,rfl,rfl⟩
   ·exact ht n t' e1
  obtain ⟨t,q1,q2,q3⟩:=hq
  rw [hcl] at e4
  by_cases e:j1=j
  ·subst e
   rw [List.getElem?_set_self (List.getElem?_eq_some_iff.1 h.hc).1] at e4
   injection e4 with e4;subst e4;exact hG
  ·rw [List.getElem?_set_ne (fun q=>e q.symm)] at e4
   exact h.fi.fr n t i j1 c1 q1 (by omega) (by rw [← q2];exact e3) e4
 ·obtain ⟨y,q1,q2⟩:=hlk o x e1
  rw [q2] at e2 ⊢
  exact h.fi.ln o y q1 e2
theorem FI.op2a {own:Nat→Ow} {s s':PRun} {j:Nat} {c:PCall} {st:Stp} (h:OpH own s j c st) (ho:st.op=2) (hv:0≤st.v) (hw0:0≤st.w) {x0:Int} (hx:c.vars[st.w.toNat]?=some x0) (hx0:0≤x0) {y:Int × Int} (hy:s.objs[x0.toNat]?=some y) (hy0:0≤y.2)
 (hp:s'.p=s.p) (ht:s'.tasks=s.tasks) (hcl:s'.calls=s.calls.set j { c with vars:=c.vars.set st.v.toNat y.2,pc:=c.pc+1 }) (hob:s'.objs=s.objs):FI own s':=by
 have hjl:=(List.getElem?_eq_some_iff.1 h.hc).1
 have hW:=h.cw.w
 have hE:Rg.mustF (rgc c) [st.w]=0:=by
  have:=h.ac
  unfold Rg.afterE at this
  rw [if_neg (by omega),if_pos ho] at this
  exact this
 have hr:Rg.afterR (rgc c) st=⟨Rg.updI (rgc c).of st.v ((rgc c).of st.w),(rgc c).count,(rgc c).actor⟩:=by
  unfold Rg.afterR;rw [if_neg (by omega),if_pos ho,if_pos hE]
 have hpos:=must_pos hW hE st.w (by simp)
 have hwn:((st.w.toNat:Nat):Int)=st.w:=Int.toNat_of_nonneg hw0
 refine h.fi.move h.gi h.ao (j:=j) hp (frames1 h.hc hcl ht fun v x e1 e2 e3=>?_) (fun o hlt j' ρ _ e=>e) (fun o hlt a e=>e) (fun o x e1 e2=>?_) (fun o hlt j' ρ e=>?_)
 ·unfold owc
  rw [h.rg,hr] at e3 ⊢
  simp only at e1 e3 ⊢
  by_cases ev:v=st.v.toNat
  ·subst ev
   rw [List.getElem?_set] at e1
   simp only [if_true] at e1
   split at e1
   ·injection e1 with e1;subst e1
    have q:Rg.updI (rgc c).of st.v ((rgc c).of st.w) (st.v.toNat:Int)=(rgc c).of st.w:=by
     unfold Rg.updI;rw [if_pos (by omega)]
    rw [q,h.fi.ln _ y hy hy0]
    have:=h.gd st.w.toNat x0 hx hx0 (by rw [hwn];exact hpos)
    rw [hwn] at this
    exact this
   ·cases e1
  ·rw [List.getElem?_set_ne (fun e=>ev e.symm)] at e1
   have q:Rg.updI (rgc c).of st.v ((rgc c).of st.w) (v:Int)=(rgc c).of v:=by
    unfold Rg.updI;rw [if_neg (by omega)]
   rw [q] at e3 ⊢
   exact h.gd v x e1 e2 e3
 ·rw [hob] at e1;exact h.fi.ln o x e1 e2
 ·rw [hcl,List.length_set];rw [hob] at hlt;exact h.fi.cl o hlt j' ρ e
end Go.Ab
set_option maxHeartbeats 4000000
namespace Go.Ab
open Go Go.Ab Go.Proofs Go.Ab.Ty
def Mv (own own':Nat→Ow) (s:PRun) (j:Nat) (a:Int):Prop:=∀o,o<s.objs.length→own' o=own o∨((∃ρ,own o=.fr j ρ)∧((∃(j':Nat) (ρ':Int),own' o=.fr j' ρ'∧(j'=j∨j'=s.calls.length))∨(0≤a∧own' o=.ac a)))
theorem FI.op2b {own:Nat→Ow} {s s':PRun} {j:Nat} {c:PCall} {st:Stp} (h:OpH own s j c st) (ho:st.op=2) (hv:0≤st.v) (hw0:0≤st.w) {x0:Int} (hx:c.vars[st.w.toNat]?=some x0) (hx0:0≤x0) {z z1:Int}
 (hp:s'.p=s.p) (ht:s'.tasks=s.tasks) (hcl:s'.calls=s.calls.set j { c with vars:=c.vars.set st.v.toNat s.objs.length,pc:=c.pc+1 }) (hob:s'.objs=(s.objs++[(z1,-1)]).set x0.toNat (z,(s.objs.length:Int))):∃own',FI own' s'∧∀o,o<s.objs.length→own' o=own o:=by
 have hjl:=(List.getElem?_eq_some_iff.1 h.hc).1
 have hW:=h.cw.w
 have hxl:=h.vo hx
 have hE:Rg.mustF (rgc c) [st.w]=0:=by
  have:=h.ac
  unfold Rg.afterE at this
  rw [if_neg (by omega),if_pos ho] at this
  exact this
 have hr:Rg.afterR (rgc c) st=⟨Rg.updI (rgc c).of st.v ((rgc c).of st.w),(rgc c).count,(rgc c).actor⟩:=by
  unfold Rg.afterR;rw [if_neg (by omega),if_pos ho,if_pos hE]
 have hpos:=must_pos hW hE st.w (by simp)
 have hwn:((st.w.toNat:Nat):Int)=st.w:=Int.toNat_of_nonneg hw0
 obtain ⟨own',hown⟩:∃own':Nat→Ow,own'=fun o=>if o=s.objs.length then own x0.toNat else own o:=⟨_,rfl⟩
 have hold:∀o,o<s.objs.length→own' o=own o:=fun o hlt=>by rw [hown];exact if_neg (by omega)
 have hnew:own' s.objs.length=own x0.toNat:=by rw [hown];exact if_pos rfl
 refine ⟨own',?_,hold⟩
 refine h.fi.move h.gi h.ao (j:=j) hp (frames1 h.hc hcl ht fun v x e1 e2 e3=>?_) (fun o hlt j' ρ _ e=>by rw [hold o hlt];exact e) (fun o hlt a e=>by rw [hold o hlt];exact e) (fun o x e1 e2=>?_) (fun o hlt j' ρ e=>?_)
 ·unfold owc
  rw [h.rg,hr] at e3 ⊢
  simp only at e1 e3 ⊢
  by_cases ev:v=st.v.toNat
  ·subst ev
   rw [List.getElem?_set] at e1
   simp only [if_true] at e1
   split at e1
   ·injection e1 with e1;subst e1
    have q:Rg.updI (rgc c).of st.v ((rgc c).of st.w) (st.v.toNat:Int)=(rgc c).of st.w:=by
     unfold Rg.updI;rw [if_pos (by omega)]
    rw [q,Int.toNat_natCast,hnew]
    have:=h.gd st.w.toNat x0 hx hx0 (by rw [hwn];exact hpos)
    rw [hwn] at this
    exact this
   ·cases e1
  ·rw [List.getElem?_set_ne (fun e=>ev e.symm)] at e1
   have q:Rg.updI (rgc c).of st.v ((rgc c).of st.w) (v:Int)=(rgc c).of v:=by
    unfold Rg.updI;rw [if_neg (by omega)]
   have hxl2:=h.vo e1
   rw [q] at e3 ⊢
   rw [hold _ (by omega)]
   exact h.gd v x e1 e2 e3
 ·rw [hob] at e1
  by_cases ex:o=x0.toNat
  ·subst ex
   rw [List.getElem?_set_self (by simp;omega)] at e1
   injection e1 with e1;subst e1
   simp only [Int.toNat_natCast]
   rw [hnew,hold _ (by omega)]
  ·rw [List.getElem?_set_ne (fun e=>ex e.symm)] at e1
   rcases Nat.lt_or_ge o s.objs.length with q|q
   ·rw [List.getElem?_append_left q] at e1
    have:=h.gi.ob x (List.mem_of_getElem? e1)
    rw [hold _ q,hold _ (by omega)]
    exact h.fi.ln o x e1 e2
   ·rw [List.getElem?_append_right q] at e1
    cases hq:o-s.objs.length with
    | zero=>rw [hq] at e1;simp at e1;subst e1;simp at e2
    | succ m=>rw [hq] at e1;simp at e1
 ·rw [hcl,List.length_set]
  by_cases q:o=s.objs.length
  ·rw [q,hnew] at e;exact h.fi.cl x0.toNat (by omega) j' ρ e
  ·rw [hob] at hlt
   simp at hlt
   rw [hold o (by omega)] at e
   exact h.fi.cl o (by omega) j' ρ e
theorem FI.op3 {own:Nat→Ow} {s s':PRun} {j:Nat} {c:PCall} {st:Stp} (h:OpH own s j c st) (ho:st.op=3) (hv0:0≤st.v) (hw0:0≤st.w) {xv xw:Int} (hxv:c.vars[st.v.toNat]?=some xv) (hxv0:0≤xv) (hxw:c.vars[st.w.toNat]?=some xw) (hxw0:0≤xw) {z:Int}
 (hp:s'.p=s.p) (ht:s'.tasks=s.tasks) (hcl:s'.calls=s.calls.set j { c with pc:=c.pc+1 }) (hob:s'.objs=s.objs.set xv.toNat (z,xw)):∃own',FI own' s'∧Mv own own' s j c.actor:=by
 have hjl:=(List.getElem?_eq_some_iff.1 h.hc).1
 have hW:=h.cw.w
 have hvl:=h.cw.vl
 have hxvl:=h.vo hxv
 have hxwl:=h.vo hxw
 have hE:Rg.mustF (rgc c) [st.v,st.w]=0:=by
  have:=h.ac
  unfold Rg.afterE at this
  rw [if_neg (by omega),if_neg (by omega),if_pos ho] at this
  exact this
 have hr:Rg.afterR (rgc c) st=Rg.joinF (rgc c) st.v st.w:=by
  unfold Rg.afterR;rw [if_neg (by omega),if_neg (by omega),if_pos ho,if_pos hE]
 have hpv:=must_pos hW hE st.v (by simp)
 have hpw:=must_pos hW hE st.w (by simp)
 have hvn:((st.v.toNat:Nat):Int)=st.v:=Int.toNat_of_nonneg hv0
 have hwn:((st.w.toNat:Nat):Int)=st.w:=Int.toNat_of_nonneg hw0
 have gv:own xv.toNat=owc j c ((rgc c).of st.v):=by
  have:=h.gd st.v.toNat xv hxv hxv0 (by rw [hvn];exact hpv)
  rwa [hvn] at this
 have gw:own xw.toNat=owc j c ((rgc c).of st.w):=by
  have:=h.gd st.w.toNat xw hxw hxw0 (by rw [hwn];exact hpw)
  rwa [hwn] at this
 obtain ⟨O,hO⟩:∃O,O=Rg.joinO (rgc c) st.v st.w:=⟨_,rfl⟩
 obtain ⟨N,hN⟩:∃N,N=Rg.joinN (rgc c) st.v st.w:=⟨_,rfl⟩
 -- how a region's owner moves
 obtain ⟨mv,hmv⟩:∃mv:Ow→Ow,mv=fun w=>if w=.fr j O then owc j c N else w:=⟨_,rfl⟩
 have mvc:∀ρ,mv (owc j c ρ)=owc j c (if ρ=O then N else ρ):=fun ρ=>by
  rw [hmv]
  simp only
  by_cases e:ρ=(rgc c).actor
  ·have e1:owc j c ρ=.ac c.actor:=if_pos e
   rw [e1,if_neg (by simp)]
   by_cases e2:ρ=O
   ·rw [if_pos e2]
    have:N=(rgc c).actor:=by
     rw [hN];unfold Rg.joinN
     rw [hO] at e2;unfold Rg.joinO at e2
     split
     ·rename_i g;exact g
     ·rename_i g;rw [if_neg g] at e2;exact absurd (e2 ▸ e) g
    exact (if_pos this).symm
   ·rw [if_neg e2];exact e1.symm
  ·have e1:owc j c ρ=.fr j ρ:=if_neg e
   rw [e1]
   by_cases e2:ρ=O
   ·rw [if_pos e2,if_pos (by rw [e2])]
   ·rw [if_neg e2,if_neg (by simp [e2]),e1]
 have mva:∀a,mv (.ac a)=.ac a:=fun a=>by rw [hmv];exact if_neg (by simp)
 have mvo:∀j' ρ,j'≠j→mv (.fr j' ρ)=.fr j' ρ:=fun j' ρ g=>by rw [hmv];exact if_neg (by simp [g])
 have hactor:∀ρ,ρ=(rgc c).actor→0<ρ→0≤c.actor:=fun ρ e g=>h.act (by omega)
 refine ⟨fun o=>mv (own o),?_,fun o hlt=>?_⟩
 ·refine h.fi.move h.gi h.ao (j:=j) hp (frames1 h.hc hcl ht fun v x e1 e2 e3=>?_) (fun o hlt j' ρ g e=>by show mv (own o)=_;rw [e];exact mvo _ _ g) (fun o hlt a e=>by show mv (own o)=_;rw [e];exact mva a) (fun o x e1 e2=>?_) (fun o hlt j' ρ e=>?_)
  ·show mv (own x.toNat)=_
   have hv8:(v:Int)<8:=by
    have:v<c.vars.length:=(List.getElem?_eq_some_iff.1 e1).1
    omega
   have q:(Rg.joinF (rgc c) st.v st.w).of (v:Int)=if (rgc c).of v=O then N else (rgc c).of v:=by
    unfold Rg.joinF Rg.repl
    simp only
    rw [← hO,← hN]
    by_cases e:(rgc c).of v=O
    ·rw [if_pos ⟨hv8,e⟩,if_pos e]
    ·rw [if_neg (fun g=>e g.2),if_neg e]
   unfold owc
   rw [h.rg,hr] at e3 ⊢
   rw [q] at e3 ⊢
   have hpos:0<(rgc c).of v:=by
    by_cases e:(rgc c).of v=O
    ·rw [e,hO];unfold Rg.joinO;split
     ·exact hpw
     ·exact hpv
    ·rw [if_neg e] at e3;exact e3
   rw [h.gd v x e1 e2 hpos,mvc]
   rfl
  ·show mv (own x.2.toNat)=mv (own o)
   rw [hob] at e1
   by_cases ex:o=xv.toNat
   ·subst ex
    rw [List.getElem?_set_self (by omega)] at e1
    injection e1 with e1;subst e1
    show mv (own xw.toNat)=_
    rw [gw,gv,mvc,mvc]
    have hvw:(if (rgc c).of st.w=O then N else (rgc c).of st.w)=(if (rgc c).of st.v=O then N else (rgc c).of st.v):=by
     rw [hO,hN];unfold Rg.joinO Rg.joinN
     by_cases g:(rgc c).of st.v=(rgc c).actor
     ·simp only [if_pos g]
      by_cases g2:(rgc c).of st.v=(rgc c).of st.w
      ·rw [if_pos g2];simp
      ·rw [if_neg g2];simp
     ·simp only [if_neg g]
      by_cases g2:(rgc c).of st.w=(rgc c).of st.v
      ·rw [if_pos g2];simp
      ·rw [if_neg g2];simp
    rw [hvw]
   ·rw [List.getElem?_set_ne (fun e=>ex e.symm)] at e1
    rw [h.fi.ln o x e1 e2]
  ·rw [hcl,List.length_set]
   rw [hob,List.length_set] at hlt
   have e':mv (own o)=.fr j' ρ:=e
   rw [hmv] at e'
   simp only at e'
   split at e'
   ·unfold owc at e'
    split at e'
    ·cases e'
    ·injection e' with e';omega
   ·exact h.fi.cl o hlt j' ρ e'
 ·show mv (own o)=own o∨_
  rw [hmv]
  simp only
  by_cases e:own o=.fr j O
  ·refine .inr ⟨⟨O,e⟩,?_⟩
   rw [if_pos e]
   by_cases e2:N=(rgc c).actor
   ·refine .inr ⟨hactor N e2 ?_,if_pos e2⟩
    rw [hN];unfold Rg.joinN;split
    ·exact hpv
    ·exact hpw
   ·exact .inl ⟨j,N,if_neg e2,.inl rfl⟩
  ·rw [if_neg e];exact .inl rfl
end Go.Ab
set_option maxHeartbeats 4000000
namespace Go.Ab
open Go Go.Ab Go.Proofs Go.Ab.Ty
def mvS (j:Nat) (sent:List Int) (dst:Int→Ow):Ow→Ow
 | .fr j' ρ=>if j'=j∧ρ∈sent then dst ρ else .fr j' ρ
 | .ac a=>.ac a
structure SendH (own:Nat→Ow) (s:PRun) (j:Nat) (c:PCall) (st:Stp) (d:Bool):Prop where
 h:OpH own s j c st
 r:Rg.afterR (rgc c) st=Rg.sendR (rgc c) st.vars d
 e:Rg.sendE (rgc c) st.vars d=0
 v:∀v∈st.vars,inV c v∧0≤c.vars.getD v.toNat 0
theorem SendH.good {own:Nat→Ow} {s:PRun} {j:Nat} {c:PCall} {st:Stp} {d:Bool} (g:SendH own s j c st d) (dst:Int→Ow) {own':Nat→Ow} (ho:∀o,o<s.objs.length→own' o=mvS j (st.vars.map (rgc c).of) dst (own o)):Good own' j { c with pc:=c.pc+1 }:=by
 obtain ⟨q1,q2,q3⟩:=send_ok' g.h.cw.w g.e
 intro v x e1 e2 e3
 have hvl:=g.h.cw.vl
 have hv8:(v:Int)<8:=by
  have:v<c.vars.length:=(List.getElem?_eq_some_iff.1 e1).1
  omega
 have hxl:=g.h.vo e1
 have hrg:=g.h.rg c.vars
 rw [g.r,q3] at hrg
 have hof:(rgc { c with pc:=c.pc+1 }).of (v:Int)=if (rgc c).of v∈st.vars.map (rgc c).of then -1 else (rgc c).of v:=by
  rw [hrg]
  show Rg.goneF _ _ _ _=_
  unfold Rg.goneF
  by_cases e:(rgc c).of v∈st.vars.map (rgc c).of
  ·rw [if_pos ⟨hv8,e⟩,if_pos e]
  ·rw [if_neg (fun k=>e k.2),if_neg e]
 have hac:(rgc { c with pc:=c.pc+1 }).actor=(rgc c).actor:=by rw [hrg]
 unfold owc
 rw [hof] at e3 ⊢
 rw [hac]
 have hn:(rgc c).of v∉st.vars.map (rgc c).of:=fun k=>by rw [if_pos k] at e3;omega
 rw [if_neg hn] at e3 ⊢
 rw [ho _ (by omega)]
 have:=g.h.gd v x e1 e2 e3
 rw [this]
 unfold owc
 split
 ·rfl
 ·exact if_neg (fun k=>hn k.2)
theorem SendH.goes {own:Nat→Ow} {s:PRun} {j:Nat} {c:PCall} {st:Stp} {d:Bool} (g:SendH own s j c st d) (dst:Int→Ow) {v:Int} (hv:v∈st.vars):own (c.vars.getD v.toNat 0).toNat=.fr j ((rgc c).of v)∧mvS j (st.vars.map (rgc c).of) dst (own (c.vars.getD v.toNat 0).toNat)=dst ((rgc c).of v):=by
 obtain ⟨q1,q2,q3⟩:=send_ok' g.h.cw.w g.e
 obtain ⟨⟨a1,a2⟩,a3⟩:=g.v v hv
 obtain ⟨b1,b2⟩:=q1 v hv
 have hx:c.vars[v.toNat]?=some c.vars[v.toNat]:=List.getElem?_eq_getElem a2
 rw [getD_at hx] at a3 ⊢
 have hvn:((v.toNat:Nat):Int)=v:=Int.toNat_of_nonneg a1
 have h1:=g.h.gd v.toNat _ hx a3 (by rw [hvn];exact b1)
 rw [hvn] at h1
 have h2:own c.vars[v.toNat].toNat=.fr j ((rgc c).of v):=by rw [h1];exact if_neg b2
 refine ⟨h2,?_⟩
 rw [h2]
 exact if_pos ⟨rfl,List.mem_map_of_mem hv⟩
theorem mvS_ne {j j':Nat} {sent:List Int} {dst:Int→Ow} {ρ:Int} (h:j'≠j):mvS j sent dst (.fr j' ρ)=.fr j' ρ:=if_neg (fun k=>h k.1)
theorem FI.op8 {own:Nat→Ow} {s s':PRun} {j:Nat} {c:PCall} {st:Stp} (g:SendH own s j c st false) (hn0:0≤st.n) (hn1:st.n<s.p.actors) {v0:Int} (hv0:v0∈st.vars) {z:Int}
 (hp:s'.p=s.p) (ht:s'.tasks=s.tasks) (hcl:s'.calls=s.calls.set j { c with pc:=c.pc+1 }) (hob:s'.objs=s.objs.set st.n.toNat (z,c.vars.getD v0.toNat 0)):∃own',FI own' s'∧Mv own own' s j st.n:=by
 have h:=g.h
 have hao:=h.ao
 have hN:own st.n.toNat=.ac st.n:=by rw [h.fi.ao st.n.toNat (by omega),Int.toNat_of_nonneg hn0]
 refine ⟨fun o=>mvS j (st.vars.map (rgc c).of) (fun _=>.ac st.n) (own o),?_,fun o hlt=>?_⟩
 ·refine h.fi.move h.gi h.ao (j:=j) hp (frames1 h.hc hcl ht (g.good (fun _=>.ac st.n) fun o _=>rfl)) (fun o hlt j' ρ k e=>by show mvS _ _ _ (own o)=_;rw [e];exact mvS_ne k) (fun o hlt a e=>by show mvS _ _ _ (own o)=_;rw [e];rfl) (fun o x e1 e2=>?_) (fun o hlt j' ρ e=>?_)
  ·show mvS _ _ _ (own x.2.toNat)=mvS _ _ _ (own o)
   rw [hob] at e1
   by_cases ex:o=st.n.toNat
   ·subst ex
    rw [List.getElem?_set_self (by omega)] at e1
    injection e1 with e1;subst e1
    rw [hN]
    exact (g.goes (fun _=>.ac st.n) hv0).2
   ·rw [List.getElem?_set_ne (fun e=>ex e.symm)] at e1
    rw [h.fi.ln o x e1 e2]
  ·rw [hcl,List.length_set]
   rw [hob,List.length_set] at hlt
   have e':mvS j (st.vars.map (rgc c).of) (fun _=>.ac st.n) (own o)=.fr j' ρ:=e
   cases ho:own o with
   | ac a=>rw [ho] at e';cases e'
   | fr j1 ρ1 =>
     rw [ho] at e'
     simp only [mvS] at e'
     split at e'
     ·cases e'
     ·injection e' with e1 e2;subst e1;exact h.fi.cl o hlt _ _ ho
 ·show mvS _ _ _ (own o)=own o∨_
  cases ho:own o with
  | ac a=>exact .inl rfl
  | fr j1 ρ1 =>
    by_cases e:j1=j∧ρ1∈st.vars.map (rgc c).of
    ·refine .inr ⟨⟨ρ1,by rw [e.1]⟩,.inr ⟨hn0,?_⟩⟩
     show mvS _ _ _ (own o)=_
     rw [ho];exact if_pos e
    ·exact .inl (if_neg e)
theorem SendH.new {own:Nat→Ow} {s:PRun} {j J:Nat} {c:PCall} {st:Stp} (g:SendH own s j c st true) {cd:Cd} (hl:(st.vars.length:Int)=cd.params) (h4:cd.params≤7) {a:Int} {ex:List Int} (hex:(ex=[]∧a<0)∨(ex=[a]∧0≤a∧a<s.p.actors)) {own':Nat→Ow}
 (ho:∀o,o<s.objs.length→own' o=mvS j (st.vars.map (rgc c).of) (fun ρ=>.fr J ((st.vars.map (rgc c).of).idxOf ρ+1)) (own o)):Good own' J (newC cd (givL c st.vars++ex) a):=by
 obtain ⟨q1,q2,q3⟩:=send_ok' g.h.cw.w g.e
 have hao:=g.h.ao
 obtain ⟨f1,f2,_⟩:=startF_eq cd (decide (0≤a)) (by omega)
 have hr:rgc (newC cd (givL c st.vars++ex) a)=Rg.startF cd (decide (0≤a)):=by
  unfold rgc newC
  simp only [Int.toNat_zero,List.take_zero]
  rfl
 have hnd:(st.vars.map (rgc c).of).Nodup:=by
  unfold List.Nodup
  rw [List.pairwise_iff_getElem]
  intro i k hi hk hik e
  rw [List.getElem_map,List.getElem_map] at e
  rw [List.length_map] at hi hk
  exact q2 rfl ⟨k,i,hk,hik,e.symm⟩
 have hgl:(givL c st.vars).length=st.vars.length:=List.length_map _
 intro v x e1 e2 e3
 unfold owc
 rw [hr] at e3 ⊢
 rw [f2]
 unfold newC at e1
 simp only at e1
 rcases Nat.lt_or_ge v st.vars.length with hv|hv
 ·rw [List.append_assoc,List.getElem?_append_left (by omega)] at e1
  have hvv:st.vars[v]?=some st.vars[v]:=List.getElem?_eq_getElem hv
  unfold givL at e1
  rw [List.getElem?_map,hvv] at e1
  injection e1 with e1
  subst e1
  replace e2:0≤c.vars.getD (st.vars[v]).toNat 0:=e2
  have hmem:=List.getElem_mem hv
  have hin:=(g.v _ hmem).1
  have hxl:(c.vars.getD (st.vars[v]).toNat 0).toNat<s.objs.length:=by
   obtain ⟨y,hx⟩:∃y,c.vars[(st.vars[v]).toNat]?=some y:=⟨_,List.getElem?_eq_getElem hin.2⟩
   rw [getD_at hx] at e2 ⊢
   have:=g.h.vo hx
   omega
  have hof:(Rg.startF cd (decide (0≤a))).of (v:Int)=(v:Int)+1:=by rw [f1,if_pos (by omega)]
  show own' (c.vars.getD (st.vars[v]).toNat 0).toNat=_
  rw [ho _ hxl,(g.goes _ hmem).2,hof]
  rw [if_neg]
  ·congr 1
   have hi:(st.vars.map (rgc c).of).idxOf ((rgc c).of st.vars[v])=v:=by
    have:=hnd.idxOf_getElem v (by rw [List.length_map];exact hv)
    rwa [List.getElem_map] at this
   rw [hi]
  ·split<;>omega
 ·rcases hex with ⟨rfl,ha⟩|⟨rfl,ha,hap⟩
  ·rw [List.append_nil,List.getElem?_append_right (by omega),List.getElem?_replicate] at e1
   split at e1
   ·injection e1 with e1;omega
   ·cases e1
  ·rcases Nat.lt_or_ge st.vars.length v with hv2|hv2
   ·rw [List.getElem?_append_right (by simp [hgl];omega),List.getElem?_replicate] at e1
    split at e1
    ·injection e1 with e1;omega
    ·cases e1
   ·have hve:v=st.vars.length:=by omega
    rw [List.append_assoc,List.getElem?_append_right (by omega)] at e1
    rw [show v-(givL c st.vars).length=0 by omega] at e1
    have hxa:x=a:=by simpa using e1.symm
    subst hxa
    have hoa:own x.toNat=.ac x:=by rw [g.h.fi.ao x.toNat (by omega),Int.toNat_of_nonneg ha]
    have hdt:decide (0≤x)=true:=decide_eq_true ha
    have hof:(Rg.startF cd (decide (0≤x))).of (v:Int)=cd.params+1:=by rw [f1,if_neg (by omega),if_pos ⟨hdt,by omega⟩]
    rw [ho _ (by omega),hoa,hof,hdt,if_pos rfl,if_pos rfl]
    rfl
end Go.Ab
