/- Part of the proof. -/
import Derived.Test.YthgicbkdckpeaaaDoorG14
set_option linter.unusedSimpArgs false
set_option linter.unusedVariables false
set_option maxHeartbeats 4000000
namespace Go.Ab.Rg
open Go Go.Ab Go.Proofs Go.Ab.Ty
def okCode (l:Lk):Prop:=(0≤l.c.params∧l.c.params≤4∧(if l.method then l.c.params+1 else l.c.params)≤l.c.vars∧l.c.vars≤8∧l.c.steps.length≤20) ∧
 ∀i:Nat,i<l.c.steps.length→okStep l i (stp l.c.steps i)
open Classical in
theorem code_ok (l:Lk) (b:Bool) (hb:b=true↔okCode l):Fn Tryd.prog 38 [encL l] (.bool b):=by
 refine Fn.intro' [(0,encL l)] 1 54 Tryd.func38 (by kernel_rfl) rfl rfl rfl rfl rfl ?_
 refine goA ?_
 refine AWp.join ⟨[(3,.int (if l.method then IntKind.i64.wrap (l.c.params+1) else l.c.params)),(1,.ptr 0 1 0 0)],[⟨75,8,[encL l]⟩]⟩ ?_ ?_
 ·refine ifA (fun hm=>?_) (fun hm=>?_)
  ·refine goA ?_
   exact .env' (by simp (decide:=true) only [go_sem,hm,if_true]<;>simp [Le.refl])
  ·refine goA ?_
   exact .env' (by simp (decide:=true) only [go_sem,hm]<;>simp [Le.refl])
 refine goA ?_
 refine ifA (fun hc=>?_) (fun hc=>?_)
 ·simp at hc
  refine goA ?_
  refine Ret.bool rfl ?_
  rw [hb]
  simp only [Bool.false_eq_true,false_iff]
  rintro ⟨⟨e1,e2,e3,e4,e5⟩,-⟩
  rw [wrap_id (by omega) (by omega)] at hc
  omega
 simp at hc
 have hp:0≤l.c.params∧l.c.params≤4:=by omega
 rw [wrap_id (by omega) (by omega)] at hc
 refine goA ?_
 refine AWp.loop (J:=fun k:Nat=>k≤l.c.steps.length∧∀i:Nat,i<k→okStep l i (stp l.c.steps i))
  (I:=fun k=>⟨[(46,.int k),(45,.int l.c.steps.length),(1,.ptr 0 1 0 0)],[⟨75,8,[encL l]⟩]⟩) (μ:=fun k=>l.c.steps.length-k) 0 ⟨Nat.zero_le _,by omega⟩ .wk ?_
 rintro k ⟨hk,hno⟩
 refine goA ?_
 refine ifA (fun hd=>?_) (fun hd=>?_)
 ·simp at hd
  refine goA ?_
  refine callA (step_ok l k (by omega) (by omega) (decide (okStep l k (stp l.c.steps k))) (by simp)) ?_
  refine goA ?_
  refine ifA (fun he=>?_) (fun he=>?_)
  ·simp at he
   refine goA ?_
   refine Ret.bool rfl ?_
   rw [hb]
   simp only [Bool.false_eq_true,false_iff]
   exact fun h=>he (h.2 k hd)
  ·simp at he
   refine goA ?_
   rw [wrap_succ (by omega)]
   refine ⟨k+1,⟨by omega,fun i h=>?_⟩,by omega,.wk⟩
   by_cases e:i=k
   ·subst e;exact he
   ·exact hno i (by omega)
 ·simp at hd
  refine goA ?_
  refine Ret.bool rfl ?_
  rw [hb]
  simp only [true_iff]
  exact ⟨by omega,fun i hi=>hno i (by omega)⟩
end Go.Ab.Rg
set_option maxHeartbeats 4000000
namespace Go.Ab.Rg
open Go Go.Ab Go.Proofs Go.Ab.Ty
def okValid (p:Tk):Prop:=(1≤p.codes.length∧p.codes.length≤8∧p.methods.length≤6∧0≤p.actors∧p.actors≤4) ∧
 (∀i:Nat,i<p.codes.length→okCode ⟨p,cod p.codes i,i,false⟩)∧∀i:Nat,i<p.methods.length→okCode ⟨p,cod p.methods i,i,true⟩
theorem Pu_cellsT (p:Tk):∀c∈(encT p).cells,Pu c:=fun c hc=>by
 simp only [encT,AV.cells,List.mem_cons,List.not_mem_nil,or_false] at hc
 rcases hc with rfl|rfl|rfl<;>first|exact .base _|exact Pu_mapC _
theorem Pub_blkT {H:List ABlk} {k:Nat} (p:Tk):∀blk∈[(⟨24,3,[encT p]⟩:ABlk)],∀e∈blk.es,∀c∈e.cells,Pub H k c c:=fun blk hb e he c hc=>by
 rw [List.mem_singleton] at hb;subst hb
 rw [List.mem_singleton] at he;subst he
 exact .pu (Pu_cellsT p c hc)
open Classical in
theorem valid_ok (p:Tk) (b:Bool) (hb:b=true↔okValid p):Fn Tryd.prog 15 [encT p] (.bool b):=by
 refine Fn.intro' [(0,encT p)] 1 63 Tryd.func15 (by kernel_rfl) rfl rfl rfl rfl rfl ?_
 refine goA ?_
 refine ifA (fun hc=>?_) (fun hc=>?_)
 ·simp at hc
  refine goA ?_
  refine Ret.bool rfl ?_
  rw [hb]
  simp only [Bool.false_eq_true,false_iff]
  rintro ⟨⟨e1,e2,e3,e4,e5⟩,-⟩
  omega
 simp at hc
 refine goA ?_
 refine AWp.loop (J:=fun k:Nat=>k≤p.codes.length∧∀i:Nat,i<k→okCode ⟨p,cod p.codes i,i,false⟩)
  (I:=fun k=>⟨[(36,.int k),(35,.int p.codes.length),(34,.lst (p.codes.map encC)),(1,.ptr 0 1 0 0)],[⟨24,3,[encT p]⟩]⟩) (μ:=fun k=>p.codes.length-k) 0 ⟨Nat.zero_le _,by omega⟩ .wk ?_
 rintro k ⟨hk,hno⟩
 refine goA ?_
 refine ifA (fun hd=>?_) (fun hd=>?_)
 ·simp at hd
  refine goA ?_
  refine ARun.q1 rfl rfl (ql_idxD (l:=p.codes) (f:=encC) cd0 rfl rfl Tryd.underlying22 (by omega) (by omega) (by kernel_rfl)) ?_
  refine goA ?_
  refine bldA pl75 zero75 ?_
  refine goA ?_
  refine callA (code_ok ⟨p,cod p.codes k,k,false⟩ (decide (okCode ⟨p,cod p.codes k,k,false⟩)) (by simp)) ?_
  refine goA ?_
  refine ifA (fun he=>?_) (fun he=>?_)
  ·simp at he
   refine goA ?_
   refine Ret.bool rfl ?_
   rw [hb]
   simp only [Bool.false_eq_true,false_iff]
   exact fun h=>he (h.2.1 k hd)
  ·simp at he
   refine goA ?_
   rw [wrap_succ (by omega)]
   refine ⟨k+1,⟨by omega,fun i h=>?_⟩,by omega,.trim' 1 rfl (by simp (decide:=true) only [go_sem,WkP];exact ⟨.pu (.base _),.pu (.base _),.pu (Pu_mapC _),.ptr (by decide)⟩) (Pub_blkT p)⟩
   by_cases e:i=k
   ·subst e;exact he
   ·exact hno i (by omega)
 simp at hd
 refine goA ?_
 refine AWp.loop (J:=fun k:Nat=>k≤p.methods.length∧∀i:Nat,i<k→okCode ⟨p,cod p.methods i,i,true⟩)
  (I:=fun k=>⟨[(51,.int k),(50,.int p.methods.length),(49,.lst (p.methods.map encC)),(1,.ptr 0 1 0 0)],[⟨24,3,[encT p]⟩]⟩) (μ:=fun k=>p.methods.length-k) 0 ⟨Nat.zero_le _,by omega⟩ .wk ?_
 rintro k2 ⟨hk2,hno2⟩
 refine goA ?_
 refine ifA (fun hd2=>?_) (fun hd2=>?_)
 ·simp at hd2
  refine goA ?_
  refine ARun.q1 rfl rfl (ql_idxD (l:=p.methods) (f:=encC) cd0 rfl rfl Tryd.underlying22 (by omega) (by omega) (by kernel_rfl)) ?_
  refine goA ?_
  refine bldA pl75 zero75 ?_
  refine goA ?_
  refine callA (code_ok ⟨p,cod p.methods k2,k2,true⟩ (decide (okCode ⟨p,cod p.methods k2,k2,true⟩)) (by simp)) ?_
  refine goA ?_
  refine ifA (fun he=>?_) (fun he=>?_)
  ·simp at he
   refine goA ?_
   refine Ret.bool rfl ?_
   rw [hb]
   simp only [Bool.false_eq_true,false_iff]
   exact fun h=>he (h.2.2 k2 hd2)
  ·simp at he
   refine goA ?_
   rw [wrap_succ (by omega)]
   refine ⟨k2+1,⟨by omega,fun i h=>?_⟩,by omega,.trim' 1 rfl (by simp (decide:=true) only [go_sem,WkP];exact ⟨.pu (.base _),.pu (.base _),.pu (Pu_mapC _),.ptr (by decide)⟩) (Pub_blkT p)⟩
   by_cases e:i=k2
   ·subst e;exact he
   ·exact hno2 i (by omega)
 ·simp at hd2
  refine goA ?_
  refine Ret.bool rfl ?_
  rw [hb]
  simp only [true_iff]
  exact ⟨by omega,fun i hi=>hno i (by omega),fun i hi=>hno2 i (by omega)⟩
end Go.Ab.Rg
set_option maxHeartbeats 4000000
namespace Go.Ab
open Go Go.Ab Go.Proofs Go.Ab.Ty
structure Acc where
 task:Int
 object:Int
 write:Bool
 time:Int
def encA (x:Acc):AV:=.agg [.int x.task,.int x.object,.base (.bool x.write),.int x.time]
structure PCall where
 code:Cd
 vars:List Int
 pc:Int
 actor:Int
structure PTask where
 sarr:List Nat
 slen:Nat
 prio:Int
 canc:Bool
 par:Int
 kids:List Int
 spn:List (Int × Int)
 waits:Int
 ending:Int
 state:Int
 has:Int
 clk:Nat
 beh:Option Nat
structure PRun where
 p:Tk
 sched:List Int
 used:Int
 objs:List (Int × Int)
 tasks:List PTask
 lines:List ByteArray
 accs:List Acc
 turns:List Int
 cks:List Nat
 ends:List (Option Nat)
 acts:List Nat
 calls:List PCall
 pool:List (List Int)
 behs:List (List Nat)
inductive Nm|rn|ob|tk|ln|ac|tn|ck|en|at'|tsk (k:Nat)|stk (k:Nat)|kid (k:Nat)|spn (k:Nat)|cal (k:Nat)|vrs (k:Nat)|clk (k:Nat)|beh (k:Nat)
 deriving DecidableEq
def ix:Nm→Nat
 | .rn=>0 | .ob=>1 | .tk=>2 | .ln=>3 | .ac=>4 | .tn=>5 | .ck=>6 | .en=>7 | .at'=>8
 | .tsk k=>9+8*k | .stk k=>10+8*k | .kid k=>11+8*k | .spn k=>12+8*k | .cal k=>13+8*k | .vrs k=>14+8*k | .clk k=>15+8*k | .beh k=>16+8*k
def nmT (c k:Nat):Nm:=if c=0 then .tsk k else if c=1 then .stk k else if c=2 then .kid k else if c=3 then .spn k else if c=4 then .cal k else if c=5 then .vrs k else if c=6 then .clk k else .beh k
def nmR (i:Nat):Nm:=if i=0 then .rn else if i=1 then .ob else if i=2 then .tk else if i=3 then .ln else if i=4 then .ac else if i=5 then .tn else if i=6 then .ck else if i=7 then .en else .at'
def nm (i:Nat):Nm:=if i<9 then nmR i else nmT ((i-9) % 8) ((i-9) / 8)
theorem nm_ge {i c k:Nat} (h:i=9+8*k+c) (hc:c<8):nm i=nmT c k:=by
 unfold nm
 rw [if_neg (by omega),show (i-9) % 8=c by omega,show (i-9) / 8=k by omega]
theorem nm_ix (a:Nm):nm (ix a)=a:=by
 cases a with
 | tsk k=>exact nm_ge (c:=0) (by simp only [ix];omega) (by decide)
 | stk k=>exact nm_ge (c:=1) (by simp only [ix];omega) (by decide)
 | kid k=>exact nm_ge (c:=2) (by simp only [ix];omega) (by decide)
 | spn k=>exact nm_ge (c:=3) (by simp only [ix];omega) (by decide)
 | cal k=>exact nm_ge (c:=4) (by simp only [ix];omega) (by decide)
 | vrs k=>exact nm_ge (c:=5) (by simp only [ix];omega) (by decide)
 | clk k=>exact nm_ge (c:=6) (by simp only [ix];omega) (by decide)
 | beh k=>exact nm_ge (c:=7) (by simp only [ix];omega) (by decide)
 | _=>rfl
theorem ix_nm (i:Nat):ix (nm i)=i:=by
 unfold nm
 split
 ·unfold nmR
  (repeat' split)<;>simp only [ix]<;>omega
 ·unfold nmT
  (repeat' split)<;>simp only [ix]<;>omega
theorem ix_inj {a b:Nm} (h:ix a=ix b):a=b:=by rw [← nm_ix a,← nm_ix b,h]
theorem MM_ex:∃n:Nat,n=100000000:=⟨_,rfl⟩
noncomputable def MM:Nat:=MM_ex.choose
theorem MM_eq:MM=100000000:=MM_ex.choose_spec
noncomputable def NN:Nat:=9+8*MM
def Nm.inR:Nm→Prop
 | .tsk k | .stk k | .kid k | .spn k | .cal k | .vrs k | .clk k | .beh k=>k<MM
 | _=>True
theorem ix_lt {a:Nm} (h:a.inR):ix a<NN:=by cases a<;>simp only [ix,NN,Nm.inR] at*<;> omega
theorem inR_nm {i:Nat} (h:i<NN):(nm i).inR:=by
 have h2:=ix_nm i
 cases e:nm i<;>rw [e] at h2<;>simp only [ix,Nm.inR,NN] at*<;> omega
abbrev nilS:AV:=.base (.slice none 0 0)
abbrev ownC (j:Nat):AV:=.own (ix (.clk j)) 32 0 32
def endV:Option Nat→AV
 | some j=>ownC j
 | none=>nilS
def behV:Option Nat→AV
 | some j=>.own (ix (.beh j)) 1 0 1
 | none=>nilS
def kidV (k:Nat):List Int→AV
 | []=>nilS
 | _::l=>.own (ix (.kid k)) (l.length+1) 0 (l.length+1)
theorem kidV_own {k:Nat} {l:List Int} {i:Nat} {x:Int} (h:l[i]?=some x):kidV k l=.own (ix (.kid k)) l.length 0 l.length:=by
 cases l with
 | nil=>simp at h
 | cons a l=>rfl
def vrsV (j:Nat):List Int→AV
 | []=>.lst []
 | v::l=>.own (ix (.vrs j)) (l.length+1) 0 (l.length+1)
abbrev ptK (k:Nat):AV:=.ptr (ix (.tsk k)) 1 0 0
abbrev ptC (j:Nat):AV:=.ptr (ix (.cal j)) 1 0 0
abbrev ptR:AV:=.ptr (ix .rn) 1 0 0
abbrev encO (x:Int × Int):AV:=.agg [.int x.1,.int x.2]
abbrev rnB (s:PRun):ABlk:=⟨83,13,[.agg [.lst (s.p.codes.map encC),.lst (s.p.methods.map encC),.int s.p.actors,.lst (s.sched.map .int),.int s.used,.own (ix .ob) s.objs.length 0 s.objs.length,.own (ix .tk) s.tasks.length 0 s.tasks.length,.own (ix .ln) s.lines.length 0 s.lines.length,.own (ix .ac) s.accs.length 0 s.accs.length,.own (ix .tn) s.turns.length 0 s.turns.length,.own (ix .ck) s.cks.length 0 s.cks.length,.own (ix .en) s.ends.length 0 s.ends.length,.own (ix .at') s.acts.length 0 s.acts.length]]⟩
abbrev tskB (k:Nat) (t:PTask):ABlk:=⟨88,12,[.agg [.own (ix (.stk k)) t.sarr.length 0 t.slen,.int t.prio,.base (.bool t.canc),.int t.par,kidV k t.kids,.mapv (ix (.spn k)),.int t.waits,.int t.ending,.int t.state,.int t.has,ownC t.clk,behV t.beh]]⟩
abbrev encI1 (n:Int):Value:=.int .i64 n
abbrev spnB (m:List (Int × Int)):ABlk:=mapB encI1 AV.int m
abbrev calB (j:Nat) (c:PCall):ABlk:=⟨140,6,[.agg [.int c.code.params,.int c.code.vars,.lst (c.code.steps.map encS),vrsV j c.vars,.int c.pc,.int c.actor]]⟩
abbrev intB (l:List Int):ABlk:=⟨3,1,l.map AV.int⟩
def blk (s:PRun):Nm→ABlk
 | .rn=>rnB s
 | .ob=>⟨157,2,s.objs.map encO⟩
 | .tk=>⟨84,1,(List.range s.tasks.length).map ptK⟩
 | .ln=>⟨9,1,s.lines.map fun x=>.base (.string x)⟩
 | .ac=>⟨73,4,s.accs.map encA⟩
 | .tn=>intB s.turns
 | .ck=>⟨25,1,s.cks.map ownC⟩
 | .en=>⟨25,1,s.ends.map endV⟩
 | .at'=>⟨25,1,s.acts.map ownC⟩
 | .tsk k=>match s.tasks[k]? with
   | some t=>tskB k t
   | none=>⟨88,12,[]⟩
 | .stk k=>match s.tasks[k]? with
   | some t=>⟨135,1,t.sarr.map ptC⟩
   | none=>⟨135,1,[]⟩
 | .kid k=>match s.tasks[k]? with
   | some t=>intB t.kids
   | none=>intB []
 | .spn k=>match s.tasks[k]? with
   | some t=>spnB t.spn
   | none=>⟨mapTy,2,[]⟩
 | .cal j=>match s.calls[j]? with
   | some c=>calB j c
   | none=>⟨140,6,[]⟩
 | .vrs j=>match s.calls[j]? with
   | some c=>intB c.vars
   | none=>intB []
 | .clk j=>match s.pool[j]? with
   | some l=>intB l
   | none=>intB []
 | .beh j=>match s.behs[j]? with
   | some l=>⟨25,1,l.map ownC⟩
   | none=>⟨25,1,[]⟩
noncomputable def HH (s:PRun):List ABlk:=hp NN fun i=>blk s (nm i)
theorem HH_len (s:PRun):(HH s).length=NN:=hp_len
@[go_sem] theorem HH_get (s:PRun) (a:Nm) (h:ix a<NN):(HH s)[ix a]?=some (blk s a):=by
 unfold HH;rw [hp_get h,nm_ix]
theorem HH_eq {L:List ABlk} {s:PRun} (hl:L.length=NN) (h:∀a:Nm,a.inR→L[ix a]?=some (blk s a)):L=HH s:=
 hp_ext hl fun i hi=>by have:=h (nm i) (inR_nm hi);rw [ix_nm] at this;exact this
@[go_sem] theorem set_get {L:List ABlk} {a b:Nm} {X:ABlk} (hl:L.length=NN) (h:ix a<NN):(L.set (ix a) X)[ix b]?=if a=b then some X else L[ix b]?:=by
 rw [List.getElem?_set]
 by_cases e:a=b
 ·subst e;rw [if_pos rfl,if_pos rfl,if_pos (by rw [hl];exact h)]
 ·rw [if_neg e,if_neg fun e'=>e (ix_inj e')]
theorem set_len {L:List ABlk} {i:Nat} {X:ABlk}:(L.set i X).length=L.length:=List.length_set
@[go_sem] theorem app_get {L T:List ABlk} {a:Nm} (hl:L.length=NN) (h:ix a<NN):(L++T)[ix a]?=L[ix a]?:=List.getElem?_append_left (by rw [hl];exact h)
@[go_sem] theorem app_set {L T:List ABlk} {a:Nm} {X:ABlk} (hl:L.length=NN) (h:ix a<NN):(L++T).set (ix a) X=L.set (ix a) X++T:=List.set_append_left _ _ (by rw [hl];exact h)
@[go_sem] theorem app_getT {L T:List ABlk} {i:Nat} (hl:L.length=NN):(L++T)[NN+i]?=T[i]?:=by rw [List.getElem?_append_right (by omega),hl];congr 1;omega
@[go_sem] theorem app_get0 {L T:List ABlk} (hl:L.length=NN):(L++T)[NN]?=T[0]?:=by rw [List.getElem?_append_right (by omega),hl];congr 1;omega
@[go_sem] theorem app_setT {L T:List ABlk} {i:Nat} {X:ABlk} (hl:L.length=NN):(L++T).set (NN+i) X=L++T.set i X:=by rw [List.set_append_right _ _ (by omega),hl];congr 2;omega
@[go_sem] theorem app_set0 {L T:List ABlk} {X:ABlk} (hl:L.length=NN):(L++T).set NN X=L++T.set 0 X:=by rw [List.set_append_right _ _ (by omega),hl];congr 2;omega
@[go_sem] theorem app_app {L T U:List ABlk}:(L++T)++U=L++(T++U):=List.append_assoc _ _ _
theorem ixl_rn:ix .rn<NN:=ix_lt trivial
theorem ixl_ob:ix .ob<NN:=ix_lt trivial
theorem ixl_tk:ix .tk<NN:=ix_lt trivial
theorem ixl_ln:ix .ln<NN:=ix_lt trivial
theorem ixl_ac:ix .ac<NN:=ix_lt trivial
theorem ixl_tn:ix .tn<NN:=ix_lt trivial
theorem ixl_ck:ix .ck<NN:=ix_lt trivial
theorem ixl_en:ix .en<NN:=ix_lt trivial
theorem ixl_at:ix .at'<NN:=ix_lt trivial
attribute [go_sem] List.length_range List.length_append List.length_cons List.length_nil Nat.zero_add HH_len set_len blk endV behV encA ixl_rn ixl_ob ixl_tk ixl_ln ixl_ac ixl_tn ixl_ck ixl_en ixl_at
theorem lenFk {H:List ABlk} {k:Nat} {l:List Int} (h:H[ix (.kid k)]?=some (intB l)):lenF Tryd.prog H 25 (kidV k l)=some (.int l.length):=by
 cases l with
 | nil=>simp only [kidV,nilS,lenF];rw [Tryd.underlying25];rfl
 | cons a l=>simp only [kidV,lenF,fresh,h];rw [Tryd.underlying25];simp
theorem lenFv {H:List ABlk} {k:Nat} {l:List Int} (h:H[ix (.vrs k)]?=some (intB l)):lenF Tryd.prog H 25 (vrsV k l)=some (.int l.length):=by
 cases l with
 | nil=>simp only [vrsV,nilS,lenF];rw [Tryd.underlying25];rfl
 | cons a l=>simp only [vrsV,lenF,fresh,h];rw [Tryd.underlying25];simp
end Go.Ab
set_option maxHeartbeats 4000000
namespace Go.Ab
open Go Go.Ab Go.Proofs Go.Ab.Ty
structure WF (s:PRun):Prop where
 nT:s.tasks.length≤32
 nC:s.calls.length≤MM
 nK:s.pool.length≤MM
 nB:s.behs.length≤MM
 pl:∀l∈s.pool,l.length=32
 cks:∀j∈s.cks,j<s.pool.length
 acts:∀j∈s.acts,j<s.pool.length
 ends:∀o∈s.ends,∀j,o=some j→j<s.pool.length
 tsk:∀t∈s.tasks,(∀j∈t.sarr,j<s.calls.length)∧t.slen≤t.sarr.length∧t.clk<s.pool.length∧∀b,t.beh=some b→b<s.behs.length
 behs:∀l∈s.behs,l.length=1∧∀j∈l,j<s.pool.length
 endl:s.ends.length=s.tasks.length
 sz:s.objs.length≤1000000∧s.lines.length≤1000000∧s.accs.length≤1000000∧s.turns.length≤1000000∧s.cks.length≤1000000∧s.acts.length≤1000∧s.sched.length≤1000000
 tsz:∀t∈s.tasks,t.sarr.length≤1000∧t.kids.length≤1000
 csz:∀c∈s.calls,c.vars.length≤1000∧c.code.steps.length≤1000
def dom (s:PRun):Nm→Prop
 | .tsk k | .stk k | .kid k | .spn k=>k<s.tasks.length
 | .cal j | .vrs j=>j<s.calls.length
 | .clk j=>j<s.pool.length
 | .beh j=>j<s.behs.length
 | _=>True
theorem dom_inR {s:PRun} (h:WF s) {a:Nm} (hd:dom s a):a.inR:=by
 have:=h.nT;have:=h.nC;have:=h.nK;have:=h.nB;have:=MM_eq
 cases a<;>simp only [dom,Nm.inR] at*<;> omega
def Sd (s:PRun) (b:Nat):Prop:=∃a,dom s a∧b=ix a
theorem Sd.of {s:PRun} {a:Nm} (h:dom s a):Sd s (ix a):=⟨a,h,rfl⟩
theorem Sd.lt {s:PRun} (hw:WF s) {b:Nat} (h:Sd s b):b<NN:=by
 obtain ⟨a,hd,rfl⟩:=h
 exact ix_lt (dom_inR hw hd)
theorem RfB.map {α:Type} {S:Nat→Prop} {ty sz:Nat} {l:List α} {f:α→AV} (h:∀x∈l,∀c∈(f x).cells,RfA S c):RfB S ⟨ty,sz,l.map f⟩:=fun e he c hc=>by
 obtain ⟨x,hx,rfl⟩:=List.mem_map.1 he
 exact h x hx c hc
theorem RfB.nil {S:Nat→Prop} {ty sz:Nat}:RfB S ⟨ty,sz,[]⟩:=fun e he=>by cases he
theorem RfB.int {S:Nat→Prop} (l:List Int):RfB S (intB l):=.map fun x _ c hc=>by
 simp only [AV.cells,List.mem_singleton] at hc;subst hc;exact .pu (.base _)
theorem RfB.one {S:Nat→Prop} {ty sz:Nat} {cs:List AV} (h:∀c∈cs,RfA S c):RfB S ⟨ty,sz,[.agg cs]⟩:=fun e he c hc=>by
 rw [List.mem_singleton] at he;subst he
 exact h c hc
theorem RfB.clks {s:PRun} {l:List Nat} (h:∀j∈l,j<s.pool.length):RfB (Sd s) ⟨25,1,l.map ownC⟩:=.map fun j hj c hc=>by
 simp only [AV.cells,List.mem_singleton] at hc;subst hc
 exact .own (.of (a:=.clk j) (h j hj))
theorem blk_rf {s:PRun} (hw:WF s) (a:Nm):RfB (Sd s) (blk s a):=by
 cases a with
 | rn =>
   refine .one fun c hc=>?_
   simp only [List.mem_cons,List.not_mem_nil,or_false] at hc
   rcases hc with rfl|rfl|rfl|rfl|rfl|rfl|rfl|rfl|rfl|rfl|rfl|rfl|rfl
   ·exact .pu (by simp)
   ·exact .pu (by simp)
   ·exact .pu (.base _)
   ·exact .pu (Pu_mapInt _)
   ·exact .pu (.base _)
   all_goals exact .own (.of trivial)
 | ob =>
   exact .map fun x _ c hc=>by
    simp only [AV.cells,List.mem_cons,List.not_mem_nil,or_false] at hc
    rcases hc with rfl|rfl<;>exact .pu (.base _)
 | tk =>
   exact .map fun k hk c hc=>by
    simp only [AV.cells,List.mem_singleton] at hc;subst hc
    exact .ptr (.of (a:=.tsk k) (List.mem_range.1 hk))
 | ln =>
   exact .map fun x _ c hc=>by simp only [AV.cells,List.mem_singleton] at hc;subst hc;exact .pu (.base _)
 | ac =>
   exact .map fun x _ c hc=>by
    simp only [encA,AV.cells,List.mem_cons,List.not_mem_nil,or_false] at hc
    rcases hc with rfl|rfl|rfl|rfl<;>exact .pu (.base _)
 | tn=>exact .int _
 | ck=>exact .clks hw.cks
 | en =>
   exact .map fun o ho c hc=>by
    cases o with
    | none=>simp only [endV,AV.cells,List.mem_singleton] at hc;subst hc;exact .pu (.base _)
    | some j=>simp only [endV,AV.cells,List.mem_singleton] at hc;subst hc;exact .own (.of (a:=.clk j) (hw.ends _ ho j rfl))
 | at'=>exact .clks hw.acts
 | tsk k =>
   simp only [blk]
   split
   ·rename_i t ht
    obtain ⟨h1,h2,h3,h4⟩:=hw.tsk t (List.mem_of_getElem? ht)
    have hk:k<s.tasks.length:=(List.getElem?_eq_some_iff.1 ht).1
    refine .one fun c hc=>?_
    simp only [List.mem_cons,List.not_mem_nil,or_false] at hc
    rcases hc with rfl|rfl|rfl|rfl|rfl|rfl|rfl|rfl|rfl|rfl|rfl|rfl
    ·exact .own (.of (a:=.stk k) hk)
    ·exact .pu (.base _)
    ·exact .pu (.base _)
    ·exact .pu (.base _)
    ·cases hb:t.kids with
     | nil=>exact .pu (.base _)
     | cons a l=>exact .own (.of (a:=.kid k) hk)
    ·exact .mapv (.of (a:=.spn k) hk)
    ·exact .pu (.base _)
    ·exact .pu (.base _)
    ·exact .pu (.base _)
    ·exact .pu (.base _)
    ·exact .own (.of (a:=.clk t.clk) h3)
    ·cases hb:t.beh with
     | none=>exact .pu (.base _)
     | some j=>exact .own (.of (a:=.beh j) (h4 j hb))
   ·exact .nil
 | stk k =>
   simp only [blk]
   split
   ·rename_i t ht
    obtain ⟨h1,h2,h3,h4⟩:=hw.tsk t (List.mem_of_getElem? ht)
    exact .map fun j hj c hc=>by
     simp only [AV.cells,List.mem_singleton] at hc;subst hc
     exact .ptr (.of (a:=.cal j) (h1 j hj))
   ·exact .nil
 | kid k =>
   simp only [blk]
   split<;>exact .int _
 | spn k =>
   simp only [blk]
   split
   ·refine fun e he c hc=>?_
    simp only [mapB,List.mem_singleton] at he;subst he
    simp only [AV.cells,List.mem_cons,List.not_mem_nil,or_false] at hc
    rcases hc with rfl|rfl
    ·exact .pu (.agg fun c hc=>by obtain ⟨x,_,rfl⟩:=List.mem_map.1 hc;exact .base _)
    ·exact .pu (.agg fun c hc=>by obtain ⟨x,_,rfl⟩:=List.mem_map.1 hc;exact .base _)
   ·exact .nil
 | cal j =>
   simp only [blk]
   split
   ·rename_i c hc0
    have hj:j<s.calls.length:=(List.getElem?_eq_some_iff.1 hc0).1
    refine .one fun c' hc=>?_
    simp only [List.mem_cons,List.not_mem_nil,or_false] at hc
    rcases hc with rfl|rfl|rfl|rfl|rfl|rfl
    ·exact .pu (.base _)
    ·exact .pu (.base _)
    ·exact .pu (by simp)
    ·cases c.vars with
     | nil=>exact .pu (.lst (by simp))
     | cons v l=>exact .own (.of (a:=.vrs j) hj)
    ·exact .pu (.base _)
    ·exact .pu (.base _)
   ·exact .nil
 | vrs j =>
   simp only [blk]
   split<;>exact .int _
 | clk j =>
   simp only [blk]
   split<;>exact .int _
 | beh j =>
   simp only [blk]
   split
   ·rename_i l hl
    exact .clks (hw.behs l (List.mem_of_getElem? hl)).2
   ·exact .nil
theorem HH_rf {s:PRun} (hw:WF s):∀b∈HH s,RfB (Sd s) b:=fun b hb=>by
 unfold HH hp at hb
 obtain ⟨i,_,rfl⟩:=List.mem_map.1 hb
 exact blk_rf hw _
theorem HH_rn {s:PRun} (hw:WF s):∀b∈HH s,RfB (·<NN) b:=fun b hb=>(HH_rf hw b hb).mono fun _ h=>h.lt hw
theorem pl_callR {s s':PRun} (hw:WF s) (hw':WF s') {T:List ABlk} {ρ:Operand→AV} {c:Call} {fx:Operand} {f:FuncId} {caps args:List AV} {d:AV} (hf:FnH Tryd.prog f args (HH s) d (HH s')) (hc:c.callee=.value fx) (hfx:ρ fx=.clo f caps) (ha:c.args.toList.map ρ++caps=args) (hr:∀a∈args,RfA (·<NN) a) (hd:RfA (·<NN) d):PL Tryd.prog (HH s++T) ρ (.call c) d (HH s'++T):=by
 have hlr:∀b,b<NN→ro (List.range NN) b=some b:=fun b hb=>by rw [ro_range2,if_pos hb]
 refine pl_callH hf (.pre (HH_len s) (HH_len s') (HH_rn hw) (HH_rn hw')) hc hfx ?_ (hd.mv fun b hb=>rb_range2 hb)
 rw [ha]
 clear ha hf
 induction args with
 | nil=>trivial
 | cons a l ih=>exact ⟨(hr a (by simp)).mv hlr,ih fun x hx=>hr x (by simp [hx])⟩
theorem RetH.run {rs:List ResultVar} {n:Nat} {d:AV} {s':PRun} {E:Env} {H T:List ABlk} {vs:List AV} (hw:WF s') (hv:resVals Tryd.prog ⟨E,H⟩ rs=some vs) (hH:H=HH s'++T) (hd:PubR (pre NN) H (packA vs) d):RetH Tryd.prog rs ⟨n,NN⟩ d (HH s') ⟨E,H⟩:=by
 have hl:=HH_len s'
 refine ⟨_,vs,pre NN,id,.refl _,hv,.pre (by rw [hH];simp [hl]) (Nat.le_refl _) hl fun j b1 b2 h1 h2=>?_,hd⟩
 have hj:=(List.getElem?_eq_some_iff.1 h2).1
 simp only at h1
 rw [hH,List.getElem?_append_left hj,h2] at h1
 injection h1 with h1;subst h1
 refine ⟨rfl,rfl,rfl,fun i e e2 h3 h4=>?_⟩
 rw [h3] at h4;injection h4 with h4;subst h4
 refine ⟨rfl,fun k c c2 h5 h6=>?_⟩
 rw [h5] at h6;injection h6 with h6;subst h6
 exact (HH_rn hw b2 (List.mem_of_getElem? h2) e (List.mem_of_getElem? h3) c (List.mem_of_getElem? h5)).pub fun b hb=>pre_lt hb
theorem over_ok {s:PRun} {k:Nat} {t:PTask} (ht:s.tasks[k]?=some t) (hk:ix (.tsk k)<NN):FnH Tryd.prog 40 [ptK k] (HH s) (.bool (decide (3≤t.state))) (HH s):=by
 refine FnH.intro' [(0,ptK k)] 1 8 NN Tryd.func40 (by kernel_rfl) rfl rfl rfl rfl rfl (HH_len s) ?_
 refine goF ?_
 exact RetH.same (vs:=[.bool (decide (t.state≥3))]) (by kernel_rfl) rfl rfl
theorem next_ok {s:PRun} (hw:WF s) {k j m i:Nat} {t:PTask} {c:PCall} {st:Stp} (ht:s.tasks[k]?=some t) (hk:ix (.tsk k)<NN) (hk2:ix (.stk k)<NN) (hm:t.slen=m+1) (hj:t.sarr[m]?=some j) (hc:s.calls[j]?=some c) (hcl:ix (.cal j)<NN)
 (hi:c.pc=i) (hst:c.code.steps[i]?=some st):FnH Tryd.prog 86 [ptK k] (HH s) (.tup [encS st,ptC j]) (HH s):=by
 refine FnH.intro' [(0,ptK k)] 1 29 NN Tryd.func86 (by kernel_rfl) rfl rfl rfl rfl rfl (HH_len s) ?_
 refine goF ?_
 refine drA (k:=12) follows (hr:=?_)
 refine goF ?_
 have hidx:(t.sarr.map ptC)[m]?=some (ptC j):=by rw [List.getElem?_map,hj];rfl
 have hsx:(c.code.steps.map encS)[i]?=some (encS st):=by rw [List.getElem?_map,hst];rfl
 have hil:i<c.code.steps.length:=(List.getElem?_eq_some_iff.1 hst).1
 have hts:=(hw.tsz t (List.mem_of_getElem? ht)).1
 have hcs:=(hw.csz c (List.mem_of_getElem? hc)).2
 have hml:m<t.sarr.length:=(List.getElem?_eq_some_iff.1 hj).1
 rw [show IntKind.i64.wrap (((m+1:Nat):Int)-1)=(m:Int) by rw [wrap_id (by omega) (by omega)];omega]
 refine ARun.q1 rfl rfl (ql_ixo (n:=m) (by simp +decide only [go_sem, *]<;>rfl) (by simp +decide only [go_sem, *]<;>rfl) Tryd.underlying85 (by simp +decide only [go_sem, *]<;>rfl) (by simp) (by omega) (by simp +decide only [go_sem, *]<;>rfl)) ?_
 refine goF ?_
 refine drS (k:=13) [none,none,none,none,none,none,none,none,none,none,none,none,some 0] (fun c=>match c with
  | 0=>HH s++[⟨70,6,[(.agg [.base (.int .i64 (0)),.base (.int .i64 (0)),.base (.int .i64 (0)),.base (.int .i64 (0)),.base (.int .i64 (0)),.base (.slice none 0 0)])]⟩]
  | _=>HH s++[⟨70,6,[encS st]⟩]) 1 follows ?_
 refine gS ?_
 refine gS ?_
 refine gS ?_
 refine gS ?_
 refine gS ?_
 refine gS ?_
 refine gS ?_
 refine gS ?_
 refine gS ?_
 refine GRun.q1 rfl rfl (fun c _=>ql_indexAddr_lst (by simp +decide only [go_sem, *]<;>rfl) (by simp +decide only [go_sem, *]<;>rfl) Tryd.underlying66 (by omega) (e:=encS st) hsx (by kernel_rfl)) ?_
 refine gS ?_
 refine gS ?_
 refine GRun.p1 (v:=.bad) rfl rfl (fun ρ' h=>?_) ?_
 ·have h1:=pl_store (P:=Tryd.prog) (ρ:=ρ') (H:=HH s++[⟨70,6,[(.agg [.base (.int .i64 (0)),.base (.int .i64 (0)),.base (.int .i64 (0)),.base (.int .i64 (0)),.base (.int .i64 (0)),.base (.slice none 0 0)])]⟩]) (b:=NN) (tot:=1) (i:=0) (off:=0) (blk:=⟨70,6,[(.agg [.base (.int .i64 (0)),.base (.int .i64 (0)),.base (.int .i64 (0)),.base (.int .i64 (0)),.base (.int .i64 (0)),.base (.slice none 0 0)])]⟩) (v:=encS st) ((h (.tmp 2) (by simp [Op.operands])).trans (by simp +decide only [go_sem, *]<;>rfl)) ((h (.tmp 27) (by simp [Op.operands])).trans (by simp +decide only [go_sem, *]<;>rfl)) (by simp +decide only [go_sem, *]<;>rfl) rfl rfl sz70 rfl rfl
  rw [app_set0 (HH_len s)] at h1
  exact h1
 refine GRun.nil ?_
 refine goF ?_
 refine RetH.run hw (vs:=[encS st,ptC j]) (T:=[⟨70,6,[encS st]⟩]) (by show resVals _ _ [.cell 2 70,.tmp 3]=_;simp +decide only [resVals,resVal,ldPtr,ldE,go_sem, *]<;>rfl) rfl (PubR.tup' ⟨.pu (Pu_encS st),.ptr (pre_lt hcl),trivial⟩)
end Go.Ab
set_option maxHeartbeats 4000000
namespace Go.Ab
open Go Go.Ab Go.Proofs Go.Ab.Ty
theorem HH_upd {s s':PRun} (l:List (Nm × ABlk)) (hl:∀p∈l,ix p.1<NN∧p.2=blk s' p.1) (h:∀a,a∉l.map (·.1)→blk s' a=blk s a):l.foldl (fun L p=>L.set (ix p.1) p.2) (HH s)=HH s':=by
 have key:∀(l:List (Nm × ABlk)) (L:List ABlk),L.length=NN→(∀p∈l,ix p.1<NN∧p.2=blk s' p.1)→(∀a:Nm,a.inR→a∉l.map (·.1)→L[ix a]?=some (blk s' a))→l.foldl (fun L p=>L.set (ix p.1) p.2) L=HH s':=by
  intro l
  induction l with
  | nil=>intro L hL _ h2;exact HH_eq hL fun a ha=>h2 a ha (by simp)
  | cons p l ih =>
    intro L hL h1 h2
    refine ih _ (by rw [List.length_set];exact hL) (fun q hq=>h1 q (by simp [hq])) fun a ha hn=>?_
    rw [set_get hL (h1 p (by simp)).1]
    split
    ·rename_i e;subst e;rw [(h1 p (by simp)).2]
    ·rename_i e
     exact h2 a ha (by simp only [List.map_cons,List.mem_cons,not_or];exact ⟨fun e'=>e e'.symm,hn⟩)
 exact key l _ (HH_len s) hl fun a ha hn=>by rw [HH_get s a (ix_lt ha),h a hn]
theorem upd1 {s':PRun} {a:Nm} {A:ABlk} (h1:ix a<NN∧A=blk s' a):∀p∈[(a,A)],ix p.1<NN∧p.2=blk s' p.1:=fun p hp=>by
 rw [List.mem_singleton] at hp;subst hp;exact h1
theorem upd2 {s':PRun} {a b:Nm} {A B:ABlk} (h1:ix a<NN∧A=blk s' a) (h2:ix b<NN∧B=blk s' b):∀p∈[(a,A),(b,B)],ix p.1<NN∧p.2=blk s' p.1:=fun p hp=>by
 simp only [List.mem_cons,List.not_mem_nil,or_false] at hp
 rcases hp with rfl|rfl
 ·exact h1
 ·exact h2
def PRun.tset (s:PRun) (k:Nat) (t:PTask):PRun:={ s with tasks:=s.tasks.set k t }
def PRun.cset (s:PRun) (j:Nat) (c:PCall):PRun:={ s with calls:=s.calls.set j c }
theorem tset_at {s:PRun} {k:Nat} {t t':PTask} (ht:s.tasks[k]?=some t):(s.tset k t').tasks[k]?=some t':=by
 unfold PRun.tset;simp only;rw [List.getElem?_set_self (List.getElem?_eq_some_iff.1 ht).1]
theorem tset_ne {s:PRun} {k j:Nat} {t':PTask} (h:k≠j):(s.tset k t').tasks[j]?=s.tasks[j]?:=by
 unfold PRun.tset;simp only;rw [List.getElem?_set_ne h]
theorem cset_at {s:PRun} {k:Nat} {t t':PCall} (ht:s.calls[k]?=some t):(s.cset k t').calls[k]?=some t':=by
 unfold PRun.cset;simp only;rw [List.getElem?_set_self (List.getElem?_eq_some_iff.1 ht).1]
theorem cset_ne {s:PRun} {k j:Nat} {t':PCall} (h:k≠j):(s.cset k t').calls[j]?=s.calls[j]?:=by
 unfold PRun.cset;simp only;rw [List.getElem?_set_ne h]
theorem blk_tset {s:PRun} {k:Nat} {t':PTask} {a:Nm} (h1:a≠.tsk k) (h2:a≠.stk k) (h3:a≠.kid k) (h4:a≠.spn k):blk (s.tset k t') a=blk s a:=by
 cases a with
 | tsk j=>simp only [blk];rw [tset_ne fun e=>h1 (by rw [e])]
 | stk j=>simp only [blk];rw [tset_ne fun e=>h2 (by rw [e])]
 | kid j=>simp only [blk];rw [tset_ne fun e=>h3 (by rw [e])]
 | spn j=>simp only [blk];rw [tset_ne fun e=>h4 (by rw [e])]
 | rn=>simp only [blk,rnB,PRun.tset,List.length_set]
 | tk=>simp only [blk,PRun.tset,List.length_set]
 | _=>rfl
theorem HH_tset {s:PRun} {k:Nat} {t t':PTask} (ht:s.tasks[k]?=some t) (hk:ix (.tsk k)<NN) (h1:t'.sarr=t.sarr) (h2:t'.kids=t.kids) (h3:t'.spn=t.spn):(HH s).set (ix (.tsk k)) (tskB k t')=HH (s.tset k t'):=by
 refine HH_upd (s:=s) (s':=s.tset k t') [(.tsk k,tskB k t')] (fun p hp=>?_) fun a ha=>?_
 ·rw [List.mem_singleton] at hp;subst hp
  exact ⟨hk,by simp only [blk];rw [tset_at ht]⟩
 ·simp only [List.map_cons,List.map_nil,List.mem_singleton] at ha
  by_cases e2:a=.stk k
  ·subst e2;simp only [blk];rw [tset_at ht,ht];simp only [h1]
  by_cases e3:a=.kid k
  ·subst e3;simp only [blk];rw [tset_at ht,ht];simp only [h2]
  by_cases e4:a=.spn k
  ·subst e4;simp only [blk];rw [tset_at ht,ht];simp only [h3]
  exact blk_tset ha e2 e3 e4
theorem blk_cset {s:PRun} {j:Nat} {c':PCall} {a:Nm} (h1:a≠.cal j) (h2:a≠.vrs j):blk (s.cset j c') a=blk s a:=by
 cases a with
 | cal i=>simp only [blk];rw [cset_ne fun e=>h1 (by rw [e])]
 | vrs i=>simp only [blk];rw [cset_ne fun e=>h2 (by rw [e])]
 | _=>rfl
theorem HH_cset {s:PRun} {j:Nat} {c c':PCall} (hc:s.calls[j]?=some c) (hj:ix (.cal j)<NN) (h1:c'.vars=c.vars):(HH s).set (ix (.cal j)) (calB j c')=HH (s.cset j c'):=by
 refine HH_upd (s:=s) (s':=s.cset j c') [(.cal j,calB j c')] (fun p hp=>?_) fun a ha=>?_
 ·rw [List.mem_singleton] at hp;subst hp
  exact ⟨hj,by simp only [blk];rw [cset_at hc]⟩
 ·simp only [List.map_cons,List.map_nil,List.mem_singleton] at ha
  by_cases e2:a=.vrs j
  ·subst e2;simp only [blk];rw [cset_at hc,hc];simp only [h1]
  exact blk_cset ha e2
theorem vrsV_len {j:Nat}:∀ {l m:List Int},l.length=m.length→vrsV j l=vrsV j m
 | [],[],_=>rfl
 | [],_::_,h=>by simp at h
 | _::_,[],h=>by simp at h
 | a::l,b::m,h=>by simp only [List.length_cons] at h;simp only [vrsV];rw [show l.length=m.length by omega]
theorem HH_vset {s:PRun} {j:Nat} {c c':PCall} (hc:s.calls[j]?=some c) (hj:ix (.vrs j)<NN) (hl:c'.vars.length=c.vars.length) (h1:c'={ c with vars:=c'.vars }):(HH s).set (ix (.vrs j)) (intB c'.vars)=HH (s.cset j c'):=by
 refine HH_upd (s:=s) (s':=s.cset j c') [(.vrs j,intB c'.vars)] (fun p hp=>?_) fun a ha=>?_
 ·rw [List.mem_singleton] at hp;subst hp
  exact ⟨hj,by simp only [blk];rw [cset_at hc]⟩
 ·simp only [List.map_cons,List.map_nil,List.mem_singleton] at ha
  by_cases e2:a=.cal j
  ·subst e2;simp only [blk];rw [cset_at hc,hc]
   simp only
   have hv:vrsV j c'.vars=vrsV j c.vars:=vrsV_len hl
   rw [calB,calB,hv,h1]
  exact blk_cset e2 ha
def PRun.mkO (s:PRun) (n:Int):PRun:={ s with objs:=s.objs++[(n,-1)] }
theorem object_ok {s:PRun} (hw:WF s) (n:Int) (hn:s.objs.length≤900000):FnH Tryd.prog 82 [ptR,.int n] (HH s) (.int s.objs.length) (HH (s.mkO n)):=by
 refine FnH.intro' [(0,ptR),(1,.int n)] 2 22 NN Tryd.func82 (by kernel_rfl) rfl rfl rfl rfl rfl (HH_len s) ?_
 refine goF ?_
 refine bldA pl157 zero157 ?_
 refine goF ?_
 refine ARun.p1 rfl rfl (pl_append (b:=ix .ob) (tot:=s.objs.length) (es:=[encO (n,-1)]) (by simp +decide only [go_sem, *]<;>rfl) (by simp +decide only [go_sem, *]<;>rfl) (by simp +decide only [go_sem, *]<;>rfl) (by simp) Tryd.underlying79 el157 rfl rfl (by simp) (fun e he=>by rw [List.mem_singleton] at he;subst he;exact ⟨rfl,rfl⟩) (by simp;omega) (by simp;omega)) ?_
 refine goF ?_
 rw [show IntKind.i64.wrap (((s.objs.length+1:Nat):Int)-1)=(s.objs.length:Int) by rw [wrap_id (by omega) (by omega)];omega]
 refine RetH.same (vs:=[.int s.objs.length]) (by show resVals _ _ [.tmp 4]=_;simp +decide only [resVals,resVal,ldPtr,ldE,go_sem, *]<;>rfl) rfl ?_
 refine HH_upd (s:=s) (s':=s.mkO n) [(.ob,_),(.rn,_)] (upd2 ⟨ixl_ob,?_⟩ ⟨ixl_rn,?_⟩) fun a ha=>?_
 ·simp [blk,PRun.mkO]
 ·simp [blk,PRun.mkO]
 ·cases a<;>first|rfl|simp at ha
end Go.Ab
