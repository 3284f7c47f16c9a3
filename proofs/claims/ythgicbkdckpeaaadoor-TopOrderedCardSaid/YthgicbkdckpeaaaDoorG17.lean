/- The data of task programs. -/
import Derived.Test.YthgicbkdckpeaaaDoorG16
import Derived.Test.YthgicbkdckpeaaaDoorG13
set_option linter.unusedSimpArgs false
set_option linter.unusedVariables false
set_option maxHeartbeats 4000000
namespace Go.Ab
open Go Go.Ab Go.Proofs Go.Ab.Ty
structure Stp where
 op:Int
 v:Int
 w:Int
 n:Int
 task:Int
 vars:List Int
structure Cd where
 params:Int
 vars:Int
 steps:List Stp
structure Tk where
 codes:List Cd
 methods:List Cd
 actors:Int
def encI (x:Int):AV:=.base (.int .i64 x)
@[go_sem] theorem encI_eq (x:Int):encI x = .base (.int .i64 x):=rfl
def encS (s:Stp):AV:=.agg [.int s.op,.int s.v,.int s.w,.int s.n,.int s.task,.lst (s.vars.map .int)]
def encC (c:Cd):AV:=.agg [.int c.params,.int c.vars,.lst (c.steps.map encS)]
def encT (p:Tk):AV:=.agg [.lst (p.codes.map encC),.lst (p.methods.map encC),.int p.actors]
attribute [go_sem] encS encC encT List.length_map
structure Lk where
 p:Tk
 c:Cd
 own:Int
 method:Bool
def encL (l:Lk):AV:=.agg [.lst (l.p.codes.map encC),.lst (l.p.methods.map encC),.int l.p.actors,.int l.c.params,.int l.c.vars,.lst (l.c.steps.map encS),.int l.own,.base (.bool l.method)]
attribute [go_sem] encL
theorem Pu_mapS (l:List Stp):Pu (.lst (l.map encS)):=.lst fun e he c hc=>by
 obtain ⟨x,_,rfl⟩:=List.mem_map.1 he
 simp only [encS,AV.cells,List.mem_cons,List.not_mem_nil,or_false] at hc
 rcases hc with rfl | rfl | rfl | rfl | rfl | rfl <;> first | exact .base _ | exact Pu_mapInt _
theorem Pu_encS (s:Stp):Pu (encS s):=.agg fun c hc=>by
 simp only [List.mem_cons,List.not_mem_nil,or_false] at hc
 rcases hc with rfl | rfl | rfl | rfl | rfl | rfl <;> first | exact .base _ | exact Pu_mapInt _
theorem Pu_encC (s:Cd):Pu (encC s):=.agg fun c hc=>by
 simp only [List.mem_cons,List.not_mem_nil,or_false] at hc
 rcases hc with rfl | rfl | rfl <;> first | exact .base _ | exact Pu_mapS _
theorem Pu_mapC (l:List Cd):Pu (.lst (l.map encC)):=.lst fun e he c hc=>by
 obtain ⟨x,_,rfl⟩:=List.mem_map.1 he
 simp only [encC,AV.cells,List.mem_cons,List.not_mem_nil,or_false] at hc
 rcases hc with rfl | rfl | rfl <;> first | exact .base _ | exact Pu_mapS _
theorem Pu_encT (s:Tk):Pu (encT s):=.agg fun c hc=>by
 simp only [List.mem_cons,List.not_mem_nil,or_false] at hc
 rcases hc with rfl | rfl | rfl <;> first | exact .base _ | exact Pu_mapC _
theorem Pu_encL (s:Lk):Pu (encL s):=.agg fun c hc=>by
 simp only [List.mem_cons,List.not_mem_nil,or_false] at hc
 rcases hc with rfl | rfl | rfl | rfl | rfl | rfl | rfl | rfl <;> first | exact .base _ | exact Pu_mapC _ | exact Pu_mapS _
def Stp.Bd (s:Stp):Prop:=s.vars.length ≤ 9223372036854775807
def Cd.Bd (c:Cd):Prop:=c.steps.length ≤ 9223372036854775807 ∧ ∀ s ∈ c.steps,s.Bd
def Tk.Bd (p:Tk):Prop:=p.codes.length ≤ 9223372036854775807 ∧ p.methods.length ≤ 9223372036854775807 ∧ (∀ c ∈ p.codes,c.Bd) ∧ (∀ c ∈ p.methods,c.Bd)
section
variable {w:World} {O:Nat→Prop} {ι:Nat→Option Nat} {H:List ABlk} {u:Value}
theorem VR.bdL {l:List Stp} (h:VR w O ι H (.lst (l.map encS)) u):l.length ≤ 9223372036854775807 ∧ ∀ s ∈ l,s.Bd:=by
 refine ⟨by simpa using h.lst_len,fun s hs=>?_⟩
 obtain ⟨v,hv⟩:=h.lst_el (List.mem_map_of_mem hs) (j:=5) rfl
 simpa [Stp.Bd] using hv.lst_len
theorem VR.bdM {l:List Cd} (h:VR w O ι H (.lst (l.map encC)) u):l.length ≤ 9223372036854775807 ∧ ∀ c ∈ l,c.Bd:=by
 refine ⟨by simpa using h.lst_len,fun s hs=>?_⟩
 obtain ⟨v,hv⟩:=h.lst_el (List.mem_map_of_mem hs) (j:=2) rfl
 exact hv.bdL
theorem VR.bdT {p:Tk} (h:VR w O ι H (encT p) u):p.Bd:=by
 obtain ⟨v,hv⟩:=h.agg_el (j:=0) rfl
 obtain ⟨v2,hv2⟩:=h.agg_el (j:=1) rfl
 exact ⟨hv.bdM.1,hv2.bdM.1,hv.bdM.2,hv2.bdM.2⟩
end
attribute [simp] Pu_mapS Pu_encS Pu_encC Pu_mapC Pu_encT Pu_encL
end Go.Ab
set_option maxHeartbeats 4000000
namespace Go.Ab.Rg
open Go Go.Ab Go.Proofs Go.Ab.Ty
def idxF (l:List Int) (v:Int):Int:=match l.findIdx? (· == v) with
 | some i=>i
 | none=>-1
theorem idx_found {l:List Int} {v:Int} {k:Nat} (hk:k < l.length) (hno:∀ i (h:i < k) (h':i < l.length),l[i] ≠ v) (hv:v = l[k]):idxF l v = k:=by
 have:l.findIdx? (· == v) = some k:=by
  rw [List.findIdx?_eq_some_iff_getElem]
  exact ⟨hk,by simp [hv],fun j hj=>by simpa using hno j hj (by omega)⟩
 simp [idxF,this]
theorem idx_none {l:List Int} {v:Int} (hno:∀ i (h:i < l.length),l[i] ≠ v):idxF l v = -1:=by
 have:l.findIdx? (· == v) = none:=by
  rw [List.findIdx?_eq_none_iff]
  intro x hx
  obtain ⟨i,hi,rfl⟩:=List.mem_iff_getElem.1 hx
  simpa using hno i hi
 simp [idxF,this]
theorem index_ok (l:List Int) (v:Int):Fn Tryd.prog 121 [.lst (l.map .int),.int v] (.int (idxF l v)):=by
 refine Fn.intro' [(0,.lst (l.map .int)),(1,.int v)] 2 19 Tryd.func121 (by kernel_rfl) rfl rfl rfl rfl rfl ?_
 refine AWp.learn 0 rfl fun hlen=>?_
 rw [List.length_map] at hlen
 refine goA ?_
 try simp only [List.length_map]
 refine AWp.loop (J:=fun k:Nat=>k ≤ l.length ∧ ∀ i (h:i < k) (h':i < l.length),l[i] ≠ v)
  (I:=fun k=>⟨[(8,.int k),(7,.int l.length),(0,.lst (l.map .int)),(1,.int v)],[]⟩) (μ:=fun k=>l.length - k) 0 ⟨Nat.zero_le _,by omega⟩ .wk ?_
 rintro k ⟨hk,hno⟩
 refine goA ?_
 refine ifA (fun hc=>?_) (fun hc=>?_)
 ·simp at hc
  refine goA ?_
  refine ARun.q1 rfl rfl (ql_indexAddr_lst rfl rfl Tryd.underlying25 (by omega) (e:=.int l[k]) (by simp [hc]) (by kernel_rfl)) ?_
  refine goA ?_
  refine ifA (fun hd=>?_) (fun hd=>?_)
  ·refine goA ?_
   exact Ret.data rfl (by simp at hd;rw [idx_found hc hno hd];rfl) (.base _)
  ·simp at hd
   refine goA ?_
   rw [wrap_succ (by omega)]
   refine ⟨k + 1,⟨by omega,fun i h h'=>?_⟩,by omega,.wk⟩
   by_cases e:i = k
   ·subst e;exact fun h=>hd h.symm
   ·exact hno i (by omega) h'
 ·simp at hc
  refine goA ?_
  exact Ret.data rfl (by rw [idx_none (fun i h=>hno i (by omega) h)];rfl) (.base _)
theorem idxF_mem (l:List Int) (v:Int):decide (0 ≤ idxF l v) = l.contains v:=by
 unfold idxF
 cases h:l.findIdx? (· == v) with
 | none =>
   rw [List.findIdx?_eq_none_iff] at h
   have:¬ v ∈ l:=fun hm=>by simpa using h v hm
   simp [this]
 | some i =>
   rw [List.findIdx?_eq_some_iff_getElem] at h
   obtain ⟨hi,he,_⟩:=h
   have:v ∈ l:=by rw [← beq_iff_eq.1 he];exact List.getElem_mem _
   simp [this]
theorem contains_ok (l:List Int) (v:Int):Fn Tryd.prog 105 [.lst (l.map .int),.int v] (.bool (l.contains v)):=by
 refine Fn.intro' [(0,.lst (l.map .int)),(1,.int v)] 2 9 Tryd.func105 (by kernel_rfl) rfl rfl rfl rfl rfl ?_
 refine goA ?_
 refine ARun.q1 rfl rfl (ql_call rfl rfl (by simp [lk,ev,Pu_mapInt,Pu.base]) (index_ok l v)) ?_
 refine goA ?_
 exact Ret.data rfl (by simp only [go_sem];rw [← idxF_mem]) (.base _)
end Go.Ab.Rg
set_option maxHeartbeats 4000000
namespace Go.Ab.Rg
open Go Go.Ab Go.Proofs Go.Ab.Ty
def okVars (cv:Int) (vs:List Int):Prop:=(∀ v ∈ vs,0 ≤ v ∧ v < cv) ∧ vs.Nodup
instance (cv:Int) (vs:List Int):Decidable (okVars cv vs):=by unfold okVars;infer_instance
theorem okVars_bad {cv:Int} {vs:List Int} {k:Nat} (hk:k < vs.length) (h:vs[k] < 0 ∨ cv ≤ vs[k] ∨ vs[k] ∈ vs.take k):¬ okVars cv vs:=by
 rintro ⟨h1,h2⟩
 have:=h1 _ (List.getElem_mem hk)
 rcases h with h | h | h
 ·omega
 ·omega
 ·obtain ⟨i,hi,he⟩:=List.mem_iff_getElem.1 h
  rw [List.length_take] at hi
  rw [List.getElem_take] at he
  rw [List.nodup_iff_pairwise_ne,List.pairwise_iff_getElem] at h2
  exact h2 i k (by omega) hk (by omega) he
theorem okVars_good {cv:Int} {vs:List Int} (h:∀ k (hk:k < vs.length),0 ≤ vs[k] ∧ vs[k] < cv ∧ vs[k] ∉ vs.take k):okVars cv vs:=by
 refine ⟨fun v hv=>?_,?_⟩
 ·obtain ⟨i,hi,rfl⟩:=List.mem_iff_getElem.1 hv
  exact ⟨(h i hi).1,(h i hi).2.1⟩
 ·rw [List.nodup_iff_pairwise_ne,List.pairwise_iff_getElem]
  intro i j hi hj hij he
  refine (h j hj).2.2 (List.mem_iff_getElem.2 ⟨i,by rw [List.length_take];omega,?_⟩)
  rw [List.getElem_take];exact he
theorem vars_ok (l:Lk) (vs:List Int) (n:Int):Fn Tryd.prog 78 [encL l,.lst (vs.map .int),.int n] (.bool (decide (vs.length = n ∧ okVars l.c.vars vs))):=by
 refine Fn.intro' [(0,encL l),(1,.lst (vs.map .int)),(2,.int n)] 3 37 Tryd.func78 (by kernel_rfl) rfl rfl rfl rfl rfl ?_
 refine AWp.learn 1 rfl fun hlen=>?_
 rw [List.length_map] at hlen
 refine goA ?_
 refine ifA (fun hc=>?_) (fun hc=>?_)
 ·refine goA ?_
  exact Ret.data rfl (by simp at hc;simp [hc,packA,lk]) (.base _)
 simp at hc
 refine goA ?_
 refine AWp.loop (J:=fun k:Nat=>k ≤ vs.length ∧ ∀ i (h:i < k) (h':i < vs.length),0 ≤ vs[i] ∧ vs[i] < l.c.vars ∧ vs[i] ∉ vs.take i)
  (I:=fun k=>⟨[(15,.int k),(14,.int vs.length),(13,.lst (vs.map .int)),(1,.lst (vs.map .int)),(3,.ptr 0 1 0 0)],[⟨75,8,[encL l]⟩]⟩) (μ:=fun k=>vs.length - k) 0 ⟨Nat.zero_le _,by omega⟩ .wk ?_
 rintro k ⟨hk,hno⟩
 refine goA ?_
 refine ifA (fun hd=>?_) (fun hd=>?_)
 ·simp at hd
  refine goA ?_
  refine ARun.q1 rfl rfl (ql_idx rfl rfl Tryd.underlying25 (by omega) (by omega) (by kernel_rfl)) ?_
  refine goA ?_
  refine gqA (h:=fun hg=>ql_slice_pre (l:=vs) (f:=.int) (by simp +decide only [go_sem] <;> rfl) (by simp +decide only [go_sem] <;> rfl) Tryd.underlying25 (by omega) (by omega) (by kernel_rfl) (fun _=>rfl)) (hr:=?_)
  refine goA ?_
  refine gcallA (i:=fun hg=>contains_ok (vs.take k) vs[k]) (hr:=?_)
  refine goA ?_
  refine ifA (fun he=>?_) (fun he=>?_)
  ·simp at he
   refine goA ?_
   have:=okVars_bad hd (or_assoc.1 he)
   exact Ret.data rfl (by simp [packA,lk,this]) (.base _)
  ·simp at he
   refine goA ?_
   rw [wrap_succ (by omega)]
   refine ⟨k + 1,⟨by omega,fun i h h'=>?_⟩,by omega,.wk⟩
   by_cases e:i = k
   ·subst e;exact ⟨by omega,by omega,he.2⟩
   ·exact hno i (by omega) h'
 ·simp at hd
  refine goA ?_
  exact Ret.data rfl (by simp [packA,lk,hc];exact okVars_good fun i hi=>hno i (by omega) hi) (.base _)
end Go.Ab.Rg
set_option maxHeartbeats 4000000
namespace Go.Ab.Rg
open Go Go.Ab Go.Proofs Go.Ab.Ty
def stp0:Stp:=⟨0,0,0,0,0,[]⟩
abbrev stp (l:List Stp) (n:Int):Stp:=nth stp0 l n
theorem spawned_ok (l:Lk) (at':Int) (s:Stp) (ha:at' ≤ l.c.steps.length) :
 Fn Tryd.prog 79 [encL l,.int at',encS s] (.bool (decide ((0 ≤ s.n ∧ s.n < at') ∧ (stp l.c.steps s.n).op = 6))):=by
 refine Fn.intro' [(0,encL l),(1,.int at'),(2,encS s)] 3 27 Tryd.func79 (by kernel_rfl) rfl rfl rfl rfl rfl ?_
 refine goA ?_
 refine gqA (h:=fun hg=>ql_idxD (l:=l.c.steps) (f:=encS) stp0 (by simp +decide only [go_sem] <;> rfl) (by simp +decide only [go_sem] <;> rfl) Tryd.underlying66 (by simp [gc,allL] at hg;omega) (by simp [gc,allL] at hg;omega) (by kernel_rfl)) (hr:=?_)
 refine goA ?_
 exact Ret.bool rfl (by simp)
theorem step1_ok (x s:Stp):Fn Tryd.prog 81 [encS x,.iptr (encS s) 0] (.bool (decide (x.op = 7 ∧ x.n = s.n))):=by
 refine Fn.intro' [(0,encS x),(1,.iptr (encS s) 0)] 2 14 Tryd.func81 (by kernel_rfl) rfl rfl rfl rfl rfl ?_
 refine goA ?_
 exact Ret.data rfl (by simp [packA,lk]) (.base _)
def idxP (p:Stp→Bool) (l:List Stp):Int:=match l.findIdx? p with
 | some i=>i
 | none=>-1
theorem idxP_found {p:Stp→Bool} {l:List Stp} {k:Nat} (hk:k < l.length) (hno:∀ i (h:i < k) (h':i < l.length),¬ p l[i]) (hv:p l[k]):idxP p l = k:=by
 have:l.findIdx? p = some k:=by
  rw [List.findIdx?_eq_some_iff_getElem]
  exact ⟨hk,hv,fun j hj=>by simpa using hno j hj (by omega)⟩
 simp [idxP,this]
theorem idxP_none {p:Stp→Bool} {l:List Stp} (hno:∀ i (h:i < l.length),¬ p l[i]):idxP p l = -1:=by
 have:l.findIdx? p = none:=by
  rw [List.findIdx?_eq_none_iff]
  intro x hx
  obtain ⟨i,hi,rfl⟩:=List.mem_iff_getElem.1 hx
  simpa using hno i hi
 simp [idxP,this]
theorem idxP_any (p:Stp→Bool) (l:List Stp):decide (0 ≤ idxP p l) = l.any p:=by
 unfold idxP
 cases h:l.findIdx? p with
 | none =>
   rw [List.findIdx?_eq_none_iff] at h
   have:l.any p = false:=by simpa using h
   simp [this]
 | some i =>
   rw [List.findIdx?_eq_some_iff_getElem] at h
   obtain ⟨hi,he,_⟩:=h
   have:l.any p = true:=List.any_eq_true.2 ⟨_,List.getElem_mem hi,he⟩
   simp [this]
theorem indexFunc_ok (l:List Stp) (f:FuncId) (caps:List AV) (p:Stp→Bool) (hp:∀ x,Fn Tryd.prog f (encS x :: caps) (.bool (p x))) (hc:∀ c ∈ caps,Pu c) :
 Fn Tryd.prog 106 [.lst (l.map encS),.clo f caps] (.int (idxP p l)):=by
 refine Fn.intro' [(0,.lst (l.map encS)),(1,.clo f caps)] 2 19 Tryd.func106 (by kernel_rfl) rfl rfl rfl rfl rfl ?_
 refine AWp.learn 0 rfl fun hlen=>?_
 rw [List.length_map] at hlen
 refine goA ?_
 refine AWp.loop (J:=fun k:Nat=>k ≤ l.length ∧ ∀ i (h:i < k) (h':i < l.length),¬ p l[i])
  (I:=fun k=>⟨[(8,.int k),(7,.int l.length),(0,.lst (l.map encS)),(1,.clo f caps)],[]⟩) (μ:=fun k=>l.length - k) 0 ⟨Nat.zero_le _,by omega⟩ .wk ?_
 rintro k ⟨hk,hno⟩
 refine goA ?_
 refine ifA (fun hd=>?_) (fun hd=>?_)
 ·simp at hd
  refine goA ?_
  refine ARun.q1 rfl rfl (ql_idx rfl rfl Tryd.underlying66 (by omega) (by omega) (by kernel_rfl)) ?_
  refine goA ?_
  refine ARun.q1 rfl rfl (ql_callC (hp l[k]) rfl (by simp +decide only [go_sem] <;> rfl) (by simp (decide:=true) only [go_sem,List.map]) (by simpa using hc)) ?_
  refine goA ?_
  refine ifA (fun he=>?_) (fun he=>?_)
  ·refine goA ?_
   exact Ret.data rfl (by rw [idxP_found hd hno he];rfl) (.base _)
  ·refine goA ?_
   rw [wrap_succ (by omega)]
   refine ⟨k + 1,⟨by omega,fun i h h'=>?_⟩,by omega,.wk⟩
   by_cases e:i = k
   ·subst e;simp [he]
   ·exact hno i (by omega) h'
 ·simp at hd
  refine goA ?_
  exact Ret.data rfl (by rw [idxP_none fun i hi=>hno i (by omega) hi];rfl) (.base _)
theorem containsFunc_ok (l:List Stp) (f:FuncId) (caps:List AV) (p:Stp→Bool) (hp:∀ x,Fn Tryd.prog f (encS x :: caps) (.bool (p x))) (hc:∀ c ∈ caps,Pu c) :
 Fn Tryd.prog 80 [.lst (l.map encS),.clo f caps] (.bool (l.any p)):=by
 refine Fn.intro' [(0,.lst (l.map encS)),(1,.clo f caps)] 2 9 Tryd.func80 (by kernel_rfl) rfl rfl rfl rfl rfl ?_
 refine goA ?_
 refine ARun.q1 rfl rfl (ql_callC (indexFunc_ok l f caps p hp hc) rfl (by simp +decide only [go_sem] <;> rfl) (by simp (decide:=true) only [go_sem,List.map]) (by simpa using Pu.clo hc)) ?_
 refine goA ?_
 exact Ret.data rfl (by simp [packA,lk,idxP_any]) (.base _)
end Go.Ab.Rg
set_option maxHeartbeats 4000000
namespace Go.Ab.Rg
open Go Go.Ab Go.Proofs Go.Ab.Ty
def cd0:Cd:=⟨0,0,[]⟩
abbrev cod (l:List Cd) (n:Int):Cd:=nth cd0 l n
abbrev plain (s:Stp):Prop:=s.v = 0 ∧ s.w = 0
def noneT (s:Stp):Prop:=s.task = 0 ∧ s.vars.length = 0
def spawn (l:Lk) (at':Int) (s:Stp):Prop:=(0 ≤ s.n ∧ s.n < at') ∧ (stp l.c.steps s.n).op = 6
def okStep (l:Lk) (at':Int) (s:Stp):Prop:=
 (s.op = 1 ∨ s.op = 5) ∧ okVars l.c.vars [s.v] ∧ s.w = 0 ∧ -1000 ≤ s.n ∧ s.n ≤ 1000 ∧ noneT s
 ∨ (s.op = 2 ∨ s.op = 3) ∧ okVars l.c.vars [s.v,s.w] ∧ s.n = 0 ∧ noneT s
 ∨ s.op = 4 ∧ okVars l.c.vars [s.v] ∧ s.w = 0 ∧ s.n = 0 ∧ noneT s
 ∨ s.op = 6 ∧ plain s ∧ 0 ≤ s.n ∧ s.n ≤ 3 ∧ 0 < s.task ∧ s.task < l.p.codes.length ∧ (l.method = false→l.own < s.task) ∧ s.vars.length = (cod l.p.codes s.task).params ∧ okVars l.c.vars s.vars
 ∨ (s.op = 7 ∨ s.op = 10) ∧ plain s ∧ l.method = false ∧ noneT s ∧ spawn l at' s ∧ (s.op = 7→∀ x ∈ l.c.steps.take at'.toNat,¬ (x.op = 7 ∧ x.n = s.n))
 ∨ s.op = 8 ∧ plain s ∧ l.method = false ∧ 0 ≤ s.n ∧ s.n < l.p.actors ∧ s.task = 0 ∧ (1:Int) ≤ s.vars.length ∧ (s.vars.length:Int) ≤ 4 ∧ okVars l.c.vars s.vars
 ∨ s.op = 9 ∧ plain s ∧ 0 ≤ s.n ∧ s.n < l.p.actors ∧ 0 ≤ s.task ∧ s.task < l.p.methods.length ∧ (l.method = true→s.task < l.own) ∧ s.vars.length = (cod l.p.methods s.task).params ∧ okVars l.c.vars s.vars
 ∨ (s.op = 11 ∨ s.op = 12) ∧ plain s ∧ s.n = 0 ∧ noneT s
theorem Pu_cellsS (s:Stp):∀ c ∈ (encS s).cells,Pu c:=fun c hc=>by
 simp only [encS,AV.cells,List.mem_cons,List.not_mem_nil,or_false] at hc
 rcases hc with rfl | rfl | rfl | rfl | rfl | rfl <;> first | exact .base _ | exact Pu_mapInt _
theorem step_ok (l:Lk) (at':Int) (h0:0 ≤ at') (h1:at' < l.c.steps.length) (b:Bool) (hb:b = true ↔ okStep l at' (stp l.c.steps at')) :
 Fn Tryd.prog 58 [encL l,.int at'] (.bool b):=by
 refine Fn.intro' [(0,encL l),(1,.int at')] 2 324 Tryd.func58 (by kernel_rfl) rfl rfl rfl rfl rfl ?_
 refine goA ?_
 refine ARun.q1 rfl rfl (ql_idxD (l:=l.c.steps) (f:=encS) stp0 rfl rfl Tryd.underlying66 h0 h1 (by kernel_rfl)) ?_
 generalize hs:nth stp0 l.c.steps at' = s
 rw [stp,hs] at hb
 refine goA ?_
 let S:=fun (t:Nat) (b:Bool)=>(⟨[(t,.bool b),(2,.ptr 0 1 0 0),(5,.ptr 1 1 0 0),(6,.bool (decide (plain s))),(22,.int s.op),(1,.int at')],[⟨75,8,[encL l]⟩,⟨70,6,[encS s]⟩]⟩:ASt)
 have hpl:(bif decide (s.v = 0) then decide (s.w = 0) else false) = decide (plain s):=by rw [Bool.eq_iff_iff];simp
 refine AWp.join (S 23 (decide (s.op = 1 ∨ s.op = 5))) ?_ ?_
 ·refine ifA (fun ho=>?_) (fun ho=>?_)
  ·refine goA ?_
   exact .env' (by simp (decide:=true) only [go_sem,hpl];simp at ho;simp [ho,Le.refl])
  ·refine goA ?_
   exact .env' (by simp (decide:=true) only [go_sem,hpl];simp at ho;simp [ho,Le.refl])
 simp only [S]
 refine ifA (fun ho=>?_) (fun ho=>?_)
 ·simp at ho
  refine goA ?_
  refine bslA Tryd.underlying25 sz3 ?_
  refine goA ?_
  refine callA (vars_ok l [s.v] 1) ?_
  refine goA ?_
  exact Ret.bool rfl (by rw [hb];rcases ho with ho | ho <;> simp [okStep,ho,noneT,and_assoc])
 simp at ho
 refine goA ?_
 refine AWp.join (S 57 (decide (s.op = 2 ∨ s.op = 3))) ?_ ?_
 ·refine ifA (fun h2=>?_) (fun h2=>?_)
  ·refine goA ?_
   exact .env' (by simp (decide:=true) only [go_sem,hpl];simp at h2;simp [h2,Le.refl])
  ·refine goA ?_
   exact .env' (by simp (decide:=true) only [go_sem,hpl];simp at h2;simp [h2,Le.refl])
 simp only [S]
 refine ifA (fun h2=>?_) (fun h2=>?_)
 ·simp at h2
  refine goA ?_
  refine bslA Tryd.underlying25 sz3 ?_
  refine goA ?_
  refine callA (vars_ok l [s.v,s.w] 2) ?_
  refine goA ?_
  exact Ret.bool rfl (by rw [hb];rcases h2 with h2 | h2 <;> simp [okStep,h2,noneT,and_assoc])
 simp at h2
 refine goA ?_
 refine ifA (fun h4=>?_) (fun h4=>?_)
 ·simp at h4
  refine goA ?_
  refine bslA Tryd.underlying25 sz3 ?_
  refine goA ?_
  refine callA (vars_ok l [s.v] 1) ?_
  refine goA ?_
  exact Ret.bool rfl (by rw [hb];simp [okStep,h4,noneT,and_assoc])
 simp at h4
 refine goA ?_
 refine ifA (fun h6=>?_) (fun h6=>?_)
 ·simp at h6
  refine goA ?_
  refine ifA (fun hc=>?_) (fun hc=>?_)
  ·refine goA ?_
   exact Ret.bool rfl (by rw [hb];simp [okStep,h6];simp at hc;intro e1 e2 e3 e4 e5 e6 e7 e8;rcases hc with ((((((h | h) | h) | h) | h) | h) | ⟨h,h'⟩) <;> first | exact absurd e1 h | exact absurd e2 h | omega | (have:=e7 h;omega))
  simp at hc
  refine goA ?_
  refine drA (k:=12) follows (hr:=?_)
  refine goA ?_
  refine ARun.q1 rfl rfl (ql_idxD (l:=l.p.codes) (f:=encC) cd0 rfl rfl Tryd.underlying22 (by omega) (by omega) (by kernel_rfl)) ?_
  refine goA ?_
  refine callA (vars_ok l s.vars (cod l.p.codes s.task).params) ?_
  refine goA ?_
  exact Ret.bool rfl (by rw [hb];simp [okStep,h6,plain];intros;simp_all)
 simp at h6
 refine goA ?_
 refine AWp.join (S 163 (decide (s.op = 7 ∨ s.op = 10))) ?_ ?_
 ·refine ifA (fun h2=>?_) (fun h2=>?_)
  ·refine goA ?_
   exact .env' (by simp (decide:=true) only [go_sem,hpl];simp at h2;simp [h2,Le.refl])
  ·refine goA ?_
   exact .env' (by simp (decide:=true) only [go_sem,hpl];simp at h2;simp [h2,Le.refl])
 simp only [S]
 refine ifA (fun h7=>?_) (fun h7=>?_)
 ·simp at h7
  refine goA ?_
  refine gcallA (i:=fun hg=>spawned_ok l at' s (by omega)) (hr:=?_)
  refine goA ?_
  refine ifA (fun hc=>?_) (fun hc=>?_)
  ·refine goA ?_
   exact Ret.bool rfl (by rw [hb];simp at hc;rcases h7 with h | h <;> simp [okStep,h,spawn,noneT,plain] <;> intro e1 e2 e3 e4 e5 e6 e7 <;> rcases hc with ((((h | h) | h) | h) | h) | ((h | h) | h) <;> simp_all <;> omega)
  simp at hc
  refine goA ?_
  refine gqA (h:=fun hg=>ql_slice_pre (l:=l.c.steps) (f:=encS) (by simp +decide only [go_sem] <;> rfl) (by simp +decide only [go_sem] <;> rfl) Tryd.underlying66 (by omega) (by omega) sz70 (fun _=>rfl)) (hr:=?_)
  refine goA ?_
  refine ARun.gl rfl rfl (by simp +decide only [go_sem] <;> rfl) (fun hg=>ql_callM (args:=[.lst ((l.c.steps.take at'.toNat).map encS),.clo 81 [.iptr (encS s) 0]]) rfl (by simp +decide only [go_sem] <;> rfl) (by simp (decide:=true) only [go_sem,List.map,LendL];exact ⟨.pu (Pu_mapS _),.clo' ⟨.iptr rfl rfl rfl (.pu (Pu_cellsS s)),trivial⟩⟩) (.base _) (containsFunc_ok _ 81 [.iptr (encS s) 0] (fun x=>decide (x.op = 7 ∧ x.n = s.n)) (fun x=>step1_ok x s) (by simp [Pu.iptr (Pu_cellsS s)]))) ?_
  refine goA ?_
  exact Ret.bool rfl (by rw [hb];obtain ⟨⟨⟨⟨⟨e1,e2⟩,e3⟩,e4⟩,e5⟩,e6⟩:=hc;rcases h7 with h | h <;> simp [okStep,h,spawn,noneT,plain,e1,e2,e3,e4,e5,e6])
 simp at h7
 refine goA ?_
 refine ifA (fun h8=>?_) (fun h8=>?_)
 ·simp at h8
  refine goA ?_
  refine gcallA (i:=fun hg=>vars_ok l s.vars s.vars.length) (hr:=?_)
  refine goA ?_
  exact Ret.bool rfl (by rw [hb];simp [okStep,h8,and_assoc])
 simp at h8
 refine goA ?_
 refine ifA (fun h9=>?_) (fun h9=>?_)
 ·simp at h9
  refine goA ?_
  refine ifA (fun hc=>?_) (fun hc=>?_)
  ·refine goA ?_
   exact Ret.bool rfl (by rw [hb];simp [okStep,h9];simp at hc;intro e1 e2 e3 e4 e5 e6 e7 e8;rcases hc with ((((((h | h) | h) | h) | h) | h) | ⟨h,h'⟩) <;> first | exact absurd e1 h | exact absurd e2 h | omega | (have:=e7 h;omega))
  simp at hc
  refine goA ?_
  refine drA (k:=12) follows (hr:=?_)
  refine goA ?_
  refine ARun.q1 rfl rfl (ql_idxD (l:=l.p.methods) (f:=encC) cd0 rfl rfl Tryd.underlying22 (by omega) (by omega) (by kernel_rfl)) ?_
  refine goA ?_
  refine callA (vars_ok l s.vars (cod l.p.methods s.task).params) ?_
  refine goA ?_
  exact Ret.bool rfl (by rw [hb];simp [okStep,h9,plain];intros;simp_all)
 simp at h9
 refine goA ?_
 refine AWp.join (S 304 (decide (s.op = 11 ∨ s.op = 12))) ?_ ?_
 ·refine ifA (fun h2=>?_) (fun h2=>?_)
  ·refine goA ?_
   exact .env' (by simp (decide:=true) only [go_sem,hpl];simp at h2;simp [h2,Le.refl])
  ·refine goA ?_
   exact .env' (by simp (decide:=true) only [go_sem,hpl];simp at h2;simp [h2,Le.refl])
 simp only [S]
 refine ifA (fun h11=>?_) (fun h11=>?_)
 ·simp at h11
  refine goA ?_
  exact Ret.bool rfl (by rw [hb];rcases h11 with h | h <;> simp [okStep,h,noneT,and_assoc])
 simp at h11
 refine goA ?_
 exact Ret.bool rfl (by rw [hb];simp [okStep, *])
end Go.Ab.Rg
set_option maxHeartbeats 4000000
namespace Go.Ab.Rg
open Go Go.Ab Go.Proofs Go.Ab.Ty
def okCode (l:Lk):Prop:=(0 ≤ l.c.params ∧ l.c.params ≤ 4 ∧ (if l.method then l.c.params + 1 else l.c.params) ≤ l.c.vars ∧ l.c.vars ≤ 8 ∧ l.c.steps.length ≤ 20) ∧
 ∀ i:Nat,i < l.c.steps.length→okStep l i (stp l.c.steps i)
open Classical in
theorem code_ok (l:Lk) (b:Bool) (hb:b = true ↔ okCode l):Fn Tryd.prog 38 [encL l] (.bool b):=by
 refine Fn.intro' [(0,encL l)] 1 54 Tryd.func38 (by kernel_rfl) rfl rfl rfl rfl rfl ?_
 refine goA ?_
 refine AWp.join ⟨[(3,.int (if l.method then IntKind.i64.wrap (l.c.params + 1) else l.c.params)),(1,.ptr 0 1 0 0)],[⟨75,8,[encL l]⟩]⟩ ?_ ?_
 ·refine ifA (fun hm=>?_) (fun hm=>?_)
  ·refine goA ?_
   exact .env' (by simp (decide:=true) only [go_sem,hm,if_true] <;> simp [Le.refl])
  ·refine goA ?_
   exact .env' (by simp (decide:=true) only [go_sem,hm] <;> simp [Le.refl])
 refine goA ?_
 refine ifA (fun hc=>?_) (fun hc=>?_)
 ·simp at hc
  refine goA ?_
  refine Ret.bool rfl ?_
  rw [hb]
  simp only [Bool.false_eq_true,false_iff]
  rintro ⟨⟨e1,e2,e3,e4,e5⟩,-⟩
  rw [wrap_id (by omega) (by omega)] at hc
  omega
 simp at hc
 have hp:0 ≤ l.c.params ∧ l.c.params ≤ 4:=by omega
 rw [wrap_id (by omega) (by omega)] at hc
 refine goA ?_
 refine AWp.loop (J:=fun k:Nat=>k ≤ l.c.steps.length ∧ ∀ i:Nat,i < k→okStep l i (stp l.c.steps i))
  (I:=fun k=>⟨[(46,.int k),(45,.int l.c.steps.length),(1,.ptr 0 1 0 0)],[⟨75,8,[encL l]⟩]⟩) (μ:=fun k=>l.c.steps.length - k) 0 ⟨Nat.zero_le _,by omega⟩ .wk ?_
 rintro k ⟨hk,hno⟩
 refine goA ?_
 refine ifA (fun hd=>?_) (fun hd=>?_)
 ·simp at hd
  refine goA ?_
  refine callA (step_ok l k (by omega) (by omega) (decide (okStep l k (stp l.c.steps k))) (by simp)) ?_
  refine goA ?_
  refine ifA (fun he=>?_) (fun he=>?_)
  ·simp at he
   refine goA ?_
   refine Ret.bool rfl ?_
   rw [hb]
   simp only [Bool.false_eq_true,false_iff]
   exact fun h=>he (h.2 k hd)
  ·simp at he
   refine goA ?_
   rw [wrap_succ (by omega)]
   refine ⟨k + 1,⟨by omega,fun i h=>?_⟩,by omega,.wk⟩
   by_cases e:i = k
   ·subst e;exact he
   ·exact hno i (by omega)
 ·simp at hd
  refine goA ?_
  refine Ret.bool rfl ?_
  rw [hb]
  simp only [true_iff]
  exact ⟨by omega,fun i hi=>hno i (by omega)⟩
end Go.Ab.Rg
set_option maxHeartbeats 4000000
namespace Go.Ab.Rg
open Go Go.Ab Go.Proofs Go.Ab.Ty
def okValid (p:Tk):Prop:=(1 ≤ p.codes.length ∧ p.codes.length ≤ 8 ∧ p.methods.length ≤ 6 ∧ 0 ≤ p.actors ∧ p.actors ≤ 4) ∧
 (∀ i:Nat,i < p.codes.length→okCode ⟨p,cod p.codes i,i,false⟩) ∧ ∀ i:Nat,i < p.methods.length→okCode ⟨p,cod p.methods i,i,true⟩
theorem Pu_cellsT (p:Tk):∀ c ∈ (encT p).cells,Pu c:=fun c hc=>by
 simp only [encT,AV.cells,List.mem_cons,List.not_mem_nil,or_false] at hc
 rcases hc with rfl | rfl | rfl <;> first | exact .base _ | exact Pu_mapC _
theorem Pub_blkT {H:List ABlk} {k:Nat} (p:Tk):∀ blk ∈ [(⟨24,3,[encT p]⟩:ABlk)],∀ e ∈ blk.es,∀ c ∈ e.cells,Pub H k c c:=fun blk hb e he c hc=>by
 rw [List.mem_singleton] at hb;subst hb
 rw [List.mem_singleton] at he;subst he
 exact .pu (Pu_cellsT p c hc)
open Classical in
theorem valid_ok (p:Tk) (b:Bool) (hb:b = true ↔ okValid p):Fn Tryd.prog 15 [encT p] (.bool b):=by
 refine Fn.intro' [(0,encT p)] 1 63 Tryd.func15 (by kernel_rfl) rfl rfl rfl rfl rfl ?_
 refine goA ?_
 refine ifA (fun hc=>?_) (fun hc=>?_)
 ·simp at hc
  refine goA ?_
  refine Ret.bool rfl ?_
  rw [hb]
  simp only [Bool.false_eq_true,false_iff]
  rintro ⟨⟨e1,e2,e3,e4,e5⟩,-⟩
  omega
 simp at hc
 refine goA ?_
 refine AWp.loop (J:=fun k:Nat=>k ≤ p.codes.length ∧ ∀ i:Nat,i < k→okCode ⟨p,cod p.codes i,i,false⟩)
  (I:=fun k=>⟨[(36,.int k),(35,.int p.codes.length),(34,.lst (p.codes.map encC)),(1,.ptr 0 1 0 0)],[⟨24,3,[encT p]⟩]⟩) (μ:=fun k=>p.codes.length - k) 0 ⟨Nat.zero_le _,by omega⟩ .wk ?_
 rintro k ⟨hk,hno⟩
 refine goA ?_
 refine ifA (fun hd=>?_) (fun hd=>?_)
 ·simp at hd
  refine goA ?_
  refine ARun.q1 rfl rfl (ql_idxD (l:=p.codes) (f:=encC) cd0 rfl rfl Tryd.underlying22 (by omega) (by omega) (by kernel_rfl)) ?_
  refine goA ?_
  refine bldA pl75 zero75 ?_
  refine goA ?_
  refine callA (code_ok ⟨p,cod p.codes k,k,false⟩ (decide (okCode ⟨p,cod p.codes k,k,false⟩)) (by simp)) ?_
  refine goA ?_
  refine ifA (fun he=>?_) (fun he=>?_)
  ·simp at he
   refine goA ?_
   refine Ret.bool rfl ?_
   rw [hb]
   simp only [Bool.false_eq_true,false_iff]
   exact fun h=>he (h.2.1 k hd)
  ·simp at he
   refine goA ?_
   rw [wrap_succ (by omega)]
   refine ⟨k + 1,⟨by omega,fun i h=>?_⟩,by omega,.trim' 1 rfl (by simp (decide:=true) only [go_sem,WkP];exact ⟨.pu (.base _),.pu (.base _),.pu (Pu_mapC _),.ptr (by decide)⟩) (Pub_blkT p)⟩
   by_cases e:i = k
   ·subst e;exact he
   ·exact hno i (by omega)
 simp at hd
 refine goA ?_
 refine AWp.loop (J:=fun k:Nat=>k ≤ p.methods.length ∧ ∀ i:Nat,i < k→okCode ⟨p,cod p.methods i,i,true⟩)
  (I:=fun k=>⟨[(51,.int k),(50,.int p.methods.length),(49,.lst (p.methods.map encC)),(1,.ptr 0 1 0 0)],[⟨24,3,[encT p]⟩]⟩) (μ:=fun k=>p.methods.length - k) 0 ⟨Nat.zero_le _,by omega⟩ .wk ?_
 rintro k2 ⟨hk2,hno2⟩
 refine goA ?_
 refine ifA (fun hd2=>?_) (fun hd2=>?_)
 ·simp at hd2
  refine goA ?_
  refine ARun.q1 rfl rfl (ql_idxD (l:=p.methods) (f:=encC) cd0 rfl rfl Tryd.underlying22 (by omega) (by omega) (by kernel_rfl)) ?_
  refine goA ?_
  refine bldA pl75 zero75 ?_
  refine goA ?_
  refine callA (code_ok ⟨p,cod p.methods k2,k2,true⟩ (decide (okCode ⟨p,cod p.methods k2,k2,true⟩)) (by simp)) ?_
  refine goA ?_
  refine ifA (fun he=>?_) (fun he=>?_)
  ·simp at he
   refine goA ?_
   refine Ret.bool rfl ?_
   rw [hb]
   simp only [Bool.false_eq_true,false_iff]
   exact fun h=>he (h.2.2 k2 hd2)
  ·simp at he
   refine goA ?_
   rw [wrap_succ (by omega)]
   refine ⟨k2 + 1,⟨by omega,fun i h=>?_⟩,by omega,.trim' 1 rfl (by simp (decide:=true) only [go_sem,WkP];exact ⟨.pu (.base _),.pu (.base _),.pu (Pu_mapC _),.ptr (by decide)⟩) (Pub_blkT p)⟩
   by_cases e:i = k2
   ·subst e;exact he
   ·exact hno2 i (by omega)
 ·simp at hd2
  refine goA ?_
  refine Ret.bool rfl ?_
  rw [hb]
  simp only [true_iff]
  exact ⟨by omega,fun i hi=>hno i (by omega),fun i hi=>hno2 i (by omega)⟩
end Go.Ab.Rg
set_option maxHeartbeats 4000000
namespace Go.Ab
open Go Go.Ab Go.Proofs Go.Ab.Ty
structure Acc where
 task:Int
 object:Int
 write:Bool
 time:Int
def encA (x:Acc):AV:=.agg [.int x.task,.int x.object,.base (.bool x.write),.int x.time]
structure PCall where
 code:Cd
 vars:List Int
 pc:Int
 actor:Int
structure PTask where
 sarr:List Nat
 slen:Nat
 prio:Int
 canc:Bool
 par:Int
 kids:List Int
 spn:List (Int × Int)
 waits:Int
 ending:Int
 state:Int
 has:Int
 clk:Nat
 beh:Option Nat
structure PRun where
 p:Tk
 sched:List Int
 used:Int
 objs:List (Int × Int)
 tasks:List PTask
 lines:List ByteArray
 accs:List Acc
 turns:List Int
 cks:List Nat
 ends:List (Option Nat)
 acts:List Nat
 calls:List PCall
 pool:List (List Int)
 behs:List (List Nat)
inductive Nm | rn | ob | tk | ln | ac | tn | ck | en | at' | tsk (k:Nat) | stk (k:Nat) | kid (k:Nat) | spn (k:Nat) | cal (k:Nat) | vrs (k:Nat) | clk (k:Nat) | beh (k:Nat)
 deriving DecidableEq
def ix:Nm→Nat
 | .rn=>0 | .ob=>1 | .tk=>2 | .ln=>3 | .ac=>4 | .tn=>5 | .ck=>6 | .en=>7 | .at'=>8
 | .tsk k=>9 + 8 * k | .stk k=>10 + 8 * k | .kid k=>11 + 8 * k | .spn k=>12 + 8 * k | .cal k=>13 + 8 * k | .vrs k=>14 + 8 * k | .clk k=>15 + 8 * k | .beh k=>16 + 8 * k
def nmT (c k:Nat):Nm:=if c = 0 then .tsk k else if c = 1 then .stk k else if c = 2 then .kid k else if c = 3 then .spn k else if c = 4 then .cal k else if c = 5 then .vrs k else if c = 6 then .clk k else .beh k
def nmR (i:Nat):Nm:=if i = 0 then .rn else if i = 1 then .ob else if i = 2 then .tk else if i = 3 then .ln else if i = 4 then .ac else if i = 5 then .tn else if i = 6 then .ck else if i = 7 then .en else .at'
def nm (i:Nat):Nm:=if i < 9 then nmR i else nmT ((i - 9) % 8) ((i - 9) / 8)
theorem nm_ge {i c k:Nat} (h:i = 9 + 8 * k + c) (hc:c < 8):nm i = nmT c k:=by
 unfold nm
 rw [if_neg (by omega),show (i - 9) % 8 = c by omega,show (i - 9) / 8 = k by omega]
theorem nm_ix (a:Nm):nm (ix a) = a:=by
 cases a with
 | tsk k=>exact nm_ge (c:=0) (by simp only [ix];omega) (by decide)
 | stk k=>exact nm_ge (c:=1) (by simp only [ix];omega) (by decide)
 | kid k=>exact nm_ge (c:=2) (by simp only [ix];omega) (by decide)
 | spn k=>exact nm_ge (c:=3) (by simp only [ix];omega) (by decide)
 | cal k=>exact nm_ge (c:=4) (by simp only [ix];omega) (by decide)
 | vrs k=>exact nm_ge (c:=5) (by simp only [ix];omega) (by decide)
 | clk k=>exact nm_ge (c:=6) (by simp only [ix];omega) (by decide)
 | beh k=>exact nm_ge (c:=7) (by simp only [ix];omega) (by decide)
 | _=>rfl
theorem ix_nm (i:Nat):ix (nm i) = i:=by
 unfold nm
 split
 ·unfold nmR
  (repeat' split) <;> simp only [ix] <;> omega
 ·unfold nmT
  (repeat' split) <;> simp only [ix] <;> omega
theorem ix_inj {a b:Nm} (h:ix a = ix b):a = b:=by rw [← nm_ix a,← nm_ix b,h]
theorem MM_ex:∃ n:Nat,n = 100000000:=⟨_,rfl⟩
noncomputable def MM:Nat:=MM_ex.choose
theorem MM_eq:MM = 100000000:=MM_ex.choose_spec
noncomputable def NN:Nat:=9 + 8 * MM
def Nm.inR:Nm→Prop
 | .tsk k | .stk k | .kid k | .spn k | .cal k | .vrs k | .clk k | .beh k=>k < MM
 | _=>True
theorem ix_lt {a:Nm} (h:a.inR):ix a < NN:=by cases a <;> simp only [ix,NN,Nm.inR] at * <;> omega
theorem inR_nm {i:Nat} (h:i < NN):(nm i).inR:=by
 have h2:=ix_nm i
 cases e:nm i <;> rw [e] at h2 <;> simp only [ix,Nm.inR,NN] at * <;> omega
abbrev nilS:AV:=.base (.slice none 0 0)
abbrev ownC (j:Nat):AV:=.own (ix (.clk j)) 32 0 32
def endV:Option Nat→AV
 | some j=>ownC j
 | none=>nilS
def behV:Option Nat→AV
 | some j=>.own (ix (.beh j)) 1 0 1
 | none=>nilS
def kidV (k:Nat):List Int→AV
 | []=>nilS
 | _ :: l=>.own (ix (.kid k)) (l.length + 1) 0 (l.length + 1)
theorem kidV_own {k:Nat} {l:List Int} {i:Nat} {x:Int} (h:l[i]? = some x):kidV k l = .own (ix (.kid k)) l.length 0 l.length:=by
 cases l with
 | nil=>simp at h
 | cons a l=>rfl
def vrsV (j:Nat):List Int→AV
 | []=>.lst []
 | v :: l=>.own (ix (.vrs j)) (l.length + 1) 0 (l.length + 1)
abbrev ptK (k:Nat):AV:=.ptr (ix (.tsk k)) 1 0 0
abbrev ptC (j:Nat):AV:=.ptr (ix (.cal j)) 1 0 0
abbrev ptR:AV:=.ptr (ix .rn) 1 0 0
abbrev encO (x:Int × Int):AV:=.agg [.int x.1,.int x.2]
abbrev rnB (s:PRun):ABlk:=⟨83,13,[.agg [.lst (s.p.codes.map encC),.lst (s.p.methods.map encC),.int s.p.actors,.lst (s.sched.map .int),.int s.used,.own (ix .ob) s.objs.length 0 s.objs.length,.own (ix .tk) s.tasks.length 0 s.tasks.length,.own (ix .ln) s.lines.length 0 s.lines.length,.own (ix .ac) s.accs.length 0 s.accs.length,.own (ix .tn) s.turns.length 0 s.turns.length,.own (ix .ck) s.cks.length 0 s.cks.length,.own (ix .en) s.ends.length 0 s.ends.length,.own (ix .at') s.acts.length 0 s.acts.length]]⟩
abbrev tskB (k:Nat) (t:PTask):ABlk:=⟨88,12,[.agg [.own (ix (.stk k)) t.sarr.length 0 t.slen,.int t.prio,.base (.bool t.canc),.int t.par,kidV k t.kids,.mapv (ix (.spn k)),.int t.waits,.int t.ending,.int t.state,.int t.has,ownC t.clk,behV t.beh]]⟩
abbrev encI1 (n:Int):Value:=.int .i64 n
abbrev spnB (m:List (Int × Int)):ABlk:=mapB encI1 AV.int m
abbrev calB (j:Nat) (c:PCall):ABlk:=⟨140,6,[.agg [.int c.code.params,.int c.code.vars,.lst (c.code.steps.map encS),vrsV j c.vars,.int c.pc,.int c.actor]]⟩
abbrev intB (l:List Int):ABlk:=⟨3,1,l.map AV.int⟩
def blk (s:PRun):Nm→ABlk
 | .rn=>rnB s
 | .ob=>⟨157,2,s.objs.map encO⟩
 | .tk=>⟨84,1,(List.range s.tasks.length).map ptK⟩
 | .ln=>⟨9,1,s.lines.map fun x=>.base (.string x)⟩
 | .ac=>⟨73,4,s.accs.map encA⟩
 | .tn=>intB s.turns
 | .ck=>⟨25,1,s.cks.map ownC⟩
 | .en=>⟨25,1,s.ends.map endV⟩
 | .at'=>⟨25,1,s.acts.map ownC⟩
 | .tsk k=>match s.tasks[k]? with
   | some t=>tskB k t
   | none=>⟨88,12,[]⟩
 | .stk k=>match s.tasks[k]? with
   | some t=>⟨135,1,t.sarr.map ptC⟩
   | none=>⟨135,1,[]⟩
 | .kid k=>match s.tasks[k]? with
   | some t=>intB t.kids
   | none=>intB []
 | .spn k=>match s.tasks[k]? with
   | some t=>spnB t.spn
   | none=>⟨mapTy,2,[]⟩
 | .cal j=>match s.calls[j]? with
   | some c=>calB j c
   | none=>⟨140,6,[]⟩
 | .vrs j=>match s.calls[j]? with
   | some c=>intB c.vars
   | none=>intB []
 | .clk j=>match s.pool[j]? with
   | some l=>intB l
   | none=>intB []
 | .beh j=>match s.behs[j]? with
   | some l=>⟨25,1,l.map ownC⟩
   | none=>⟨25,1,[]⟩
noncomputable def HH (s:PRun):List ABlk:=hp NN fun i=>blk s (nm i)
theorem HH_len (s:PRun):(HH s).length = NN:=hp_len
@[go_sem] theorem HH_get (s:PRun) (a:Nm) (h:ix a < NN):(HH s)[ix a]? = some (blk s a):=by
 unfold HH;rw [hp_get h,nm_ix]
theorem HH_eq {L:List ABlk} {s:PRun} (hl:L.length = NN) (h:∀ a:Nm,a.inR→L[ix a]? = some (blk s a)):L = HH s:=
 hp_ext hl fun i hi=>by have:=h (nm i) (inR_nm hi);rw [ix_nm] at this;exact this
@[go_sem] theorem set_get {L:List ABlk} {a b:Nm} {X:ABlk} (hl:L.length = NN) (h:ix a < NN):(L.set (ix a) X)[ix b]? = if a = b then some X else L[ix b]?:=by
 rw [List.getElem?_set]
 by_cases e:a = b
 ·subst e;rw [if_pos rfl,if_pos rfl,if_pos (by rw [hl];exact h)]
 ·rw [if_neg e,if_neg fun e'=>e (ix_inj e')]
theorem set_len {L:List ABlk} {i:Nat} {X:ABlk}:(L.set i X).length = L.length:=List.length_set
@[go_sem] theorem app_get {L T:List ABlk} {a:Nm} (hl:L.length = NN) (h:ix a < NN):(L ++ T)[ix a]? = L[ix a]?:=List.getElem?_append_left (by rw [hl];exact h)
@[go_sem] theorem app_set {L T:List ABlk} {a:Nm} {X:ABlk} (hl:L.length = NN) (h:ix a < NN):(L ++ T).set (ix a) X = L.set (ix a) X ++ T:=List.set_append_left _ _ (by rw [hl];exact h)
@[go_sem] theorem app_getT {L T:List ABlk} {i:Nat} (hl:L.length = NN):(L ++ T)[NN + i]? = T[i]?:=by rw [List.getElem?_append_right (by omega),hl];congr 1;omega
@[go_sem] theorem app_get0 {L T:List ABlk} (hl:L.length = NN):(L ++ T)[NN]? = T[0]?:=by rw [List.getElem?_append_right (by omega),hl];congr 1;omega
@[go_sem] theorem app_setT {L T:List ABlk} {i:Nat} {X:ABlk} (hl:L.length = NN):(L ++ T).set (NN + i) X = L ++ T.set i X:=by rw [List.set_append_right _ _ (by omega),hl];congr 2;omega
@[go_sem] theorem app_set0 {L T:List ABlk} {X:ABlk} (hl:L.length = NN):(L ++ T).set NN X = L ++ T.set 0 X:=by rw [List.set_append_right _ _ (by omega),hl];congr 2;omega
@[go_sem] theorem app_app {L T U:List ABlk}:(L ++ T) ++ U = L ++ (T ++ U):=List.append_assoc _ _ _
theorem ixl_rn:ix .rn < NN:=ix_lt trivial
theorem ixl_ob:ix .ob < NN:=ix_lt trivial
theorem ixl_tk:ix .tk < NN:=ix_lt trivial
theorem ixl_ln:ix .ln < NN:=ix_lt trivial
theorem ixl_ac:ix .ac < NN:=ix_lt trivial
theorem ixl_tn:ix .tn < NN:=ix_lt trivial
theorem ixl_ck:ix .ck < NN:=ix_lt trivial
theorem ixl_en:ix .en < NN:=ix_lt trivial
theorem ixl_at:ix .at' < NN:=ix_lt trivial
attribute [go_sem] List.length_range List.length_append List.length_cons List.length_nil Nat.zero_add HH_len set_len blk endV behV encA ixl_rn ixl_ob ixl_tk ixl_ln ixl_ac ixl_tn ixl_ck ixl_en ixl_at
theorem lenFk {H:List ABlk} {k:Nat} {l:List Int} (h:H[ix (.kid k)]? = some (intB l)):lenF Tryd.prog H 25 (kidV k l) = some (.int l.length):=by
 cases l with
 | nil=>simp only [kidV,nilS,lenF];rw [Tryd.underlying25];rfl
 | cons a l=>simp only [kidV,lenF,fresh,h];rw [Tryd.underlying25];simp
theorem lenFv {H:List ABlk} {k:Nat} {l:List Int} (h:H[ix (.vrs k)]? = some (intB l)):lenF Tryd.prog H 25 (vrsV k l) = some (.int l.length):=by
 cases l with
 | nil=>simp only [vrsV,nilS,lenF];rw [Tryd.underlying25];rfl
 | cons a l=>simp only [vrsV,lenF,fresh,h];rw [Tryd.underlying25];simp
end Go.Ab
