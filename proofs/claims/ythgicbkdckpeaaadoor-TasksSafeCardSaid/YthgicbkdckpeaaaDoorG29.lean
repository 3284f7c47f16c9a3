/- Part of the proof. -/
import Derived.Test.YthgicbkdckpeaaaDoorG28
import Derived.Test.YthgicbkdckpeaaaDoorG13
import Derived.Test.YthgicbkdckpeaaaDoorG15
set_option linter.unusedSimpArgs false
set_option linter.unusedVariables false
set_option maxHeartbeats 4000000
namespace Go.Ab
open Go Go.Ab Go.Proofs Go.Ab.Ty Go.RowKit
def runF:Nat→PRun→PRun
 | 0,s=>s
 | f+1,s=>if s.turns.length<2000 then (if readyF s=[] then pikF s else runF f (turnF (pikF s) (chF s).toNat)) else s
structure RunG (mm:List (Nat × Obj)) (G:PRun→Prop):Prop where
 wf:∀s,G s→WF s
 pk:∀s,G s→Prok s∧Rdy s
 tn:∀s,G s→s.turns.length<2000→readyF s≠[]→∃n:Nat,chF s=n∧WF (pikF s)∧FnHM Tryd.prog mm 62 [ptR,.int n] (HH (pikF s)) (.tup []) (HH (turnF (pikF s) n))∧G (turnF (pikF s) n)∧(turnF (pikF s) n).turns.length=s.turns.length+1
abbrev TT:List ABlk:=[rpB,rpB]
theorem TT_rf:∀b∈TT,RfB (·<NN) b:=by
 intro b hb
 simp only [List.mem_cons,List.not_mem_nil,or_false] at hb
 have hr:RfB (·<NN) rpB:=fun e he c hc=>by
  rw [List.mem_singleton] at he;subst he
  simp only [AV.cells,List.mem_singleton] at hc;subst hc
  exact .ptr ixl_rn
 rcases hb with rfl|rfl
 ·exact hr
 ·exact hr
abbrev yldV (l:Nat):Value:=.func (.yield l) #[] #[]
noncomputable abbrev envL (l:Nat) (mm:List (Nat × Obj)):Env:=[(0,.base (yldV l)),(1,.ptr (NN+1) 1 0 0),(memSlot,.mem mm)]
theorem run1_walk {mm:List (Nat × Obj)} {G:PRun→Prop} (hG:RunG mm G) {s0:PRun} (h0:G s0) {w1:Base} {O:Nat→Prop} {l:Nat} {R:PRun} (hR:R=runF (2001-s0.turns.length) s0) (hle0:s0.turns.length≤2000)
 (hY:∀(s:PRun) (n:Nat),G s→WF (pikF s)→FnHM Tryd.prog mm 62 [ptR,.int n] (HH (pikF s)) (.tup []) (HH (turnF (pikF s) n))→WF (turnF (pikF s) n)→AWpF Tryd.prog ⟨24,NN+2⟩ w1 O yldC (fun e s'=>e=.normal∧Wk ⟨24,NN+2⟩ s' ⟨(23,.bool false)::envL l mm,HH (turnF (pikF s) n)++TT⟩) ⟨(3,.int n)::(4,.bool true)::envL l mm,HH (pikF s)++TT⟩) :
 AWpF Tryd.prog ⟨24,NN+2⟩ w1 O ((Tryd.f84.body).getD .skip) (fun e s'=>(e=.normal∨e=.ret)∧Wk ⟨24,NN+2⟩ s' ⟨envL l mm,HH R++TT⟩) ⟨envL l mm,HH s0++TT⟩:=by
 refine AWpF.block ?_
 refine AWpF.loop (J:=fun s=>G s∧R=runF (2001-s.turns.length) s∧s.turns.length≤2000) (fun s=>⟨envL l mm,HH s++TT⟩) (fun s=>2000-s.turns.length) s0 ?_ (.refl _) ?_
 ·exact ⟨h0,hR,hle0⟩
 rintro s ⟨hGs,hRs,hle⟩
 have hw:=hG.wf s hGs
 obtain ⟨hpk1,hpk2⟩:=hG.pk s hGs
 have hlen:=HH_len s
 have hpick:=pick_ok hw hpk1 hpk2
 by_cases hlt:s.turns.length<2000
 ·have hd:decide ((s.turns.length:Int)<2000)=true:=decide_eq_true (by omega)
  have hlt':=Hid.mk hlt
  clear hlt
  refine AWpF.step ⟨envL l mm,HH s++TT⟩ ?_ ?_
  ·refine goF ?_
   refine ift_ ?_ rfl (by simp +decide only [go_sem, *]<;>rfl)
   refine goF ?_
   exact .wf
  refine AWpF.block ?_
  by_cases hr:readyF s=[]
  ·rw [if_pos hr] at hpick
   have hwP:WF (pikF s):=by unfold pikF;rw [if_pos hr];exact hw
   have hRe:R=pikF s:=by
    rw [hRs]
    obtain ⟨f,hf⟩:∃f,2001-s.turns.length=f+1:=⟨2000-s.turns.length,by have:=hlt'.out;omega⟩
    rw [hf];unfold runF;rw [if_pos hlt'.out,if_pos hr]
   have hr':=Hid.mk hr
   clear hr hRs
   refine AWpF.of ?_
   refine goF ?_
   refine ARun.p1 rfl rfl (pl_callR hw hwP (T:=TT) hpick rfl (by simp +decide only [go_sem, *]<;>rfl) (by simp +decide only [go_sem, *]<;>rfl) (by intro a ha;rw [List.mem_singleton] at ha;subst ha;exact .ptr ixl_rn) (.pu (Pu.tup (by simp)))) ?_
   refine goF ?_
   refine gxA (.bool true) ?_
   refine gxA (.bool false) ?_
   refine goF ?_
   refine ift_ ?_ rfl (by simp +decide only [go_sem, *]<;>rfl)
   refine goF ?_
   exact ⟨.inr rfl,by rw [hRe];exact .wf⟩
  ·rw [if_neg hr] at hpick
   obtain ⟨n,hn,hwP,hturn,hGn,htn⟩:=hG.tn s hGs hlt'.out hr
   rw [hn] at hpick
   have hRn:R=runF (2001-(turnF (pikF s) n).turns.length) (turnF (pikF s) n):=by
    rw [hRs]
    have:=hlt'.out
    obtain ⟨f,hf⟩:∃f,2001-s.turns.length=f+1:=⟨2000-s.turns.length,by omega⟩
    rw [hf,htn,show 2001-(s.turns.length+1)=f by omega]
    show (if s.turns.length<2000 then (if readyF s=[] then pikF s else runF f (turnF (pikF s) (chF s).toNat)) else s)=_
    rw [if_pos this,if_neg hr,hn,Int.toNat_natCast]
   refine AWpF.step ⟨(3,.int n)::(4,.bool true)::envL l mm,HH (pikF s)++TT⟩ ?_ ?_
   ·clear hRn hRs hr hn htn hGn hturn
    refine goF ?_
    refine ARun.p1 rfl rfl (pl_callR hw hwP (T:=TT) hpick rfl (by simp +decide only [go_sem, *]<;>rfl) (by simp +decide only [go_sem, *]<;>rfl) (by intro a ha;rw [List.mem_singleton] at ha;subst ha;exact .ptr ixl_rn) (.pu (Pu.tup (by simp)))) ?_
    refine goF ?_
    exact .wf
   refine AWpF.seq ?_
   refine AWpF.mono (hY s n hGs hwP hturn (hG.wf _ hGn)) ?_
   rintro e s' ⟨rfl,hwk⟩
   refine AWpF.weaken hwk (AWpF.of ?_)
   have hlt2:=hlt'.out
   clear hpick hturn hwk
   refine iff_ ?_ rfl (by simp +decide only [go_sem, *]<;>rfl)
   refine AWp.skip ?_
   exact ⟨turnF (pikF s) n,⟨hGn,hRn,by omega⟩,by omega,.wf⟩
 ·have hd:decide ((s.turns.length:Int)<2000)=false:=decide_eq_false (by omega)
  have hRe:R=s:=by
   rw [hRs]
   obtain ⟨f,hf⟩:∃f,2001-s.turns.length=f+1:=⟨2000-s.turns.length,by omega⟩
   rw [hf];unfold runF;rw [if_neg hlt]
  clear hlt hRs hpick
  refine AWpF.of ?_
  refine goF ?_
  refine iff_ ?_ rfl (by simp +decide only [go_sem, *]<;>rfl)
  refine goF ?_
  exact ⟨.inl rfl,by rw [hRe];exact .wf⟩
end Go.Ab
set_option maxHeartbeats 4000000
namespace Go.Ab
open Go Go.Ab Go.Proofs Go.Ab.Ty Go.RowKit
def crlT:Call:={ callee:=.value (.func 62),args:=#[.tmp 0,.tmp 1],argTypes:=#[] }
theorem exec_call {P:Program} {f:FuncId} {fn:Func} {a:Act} {o:Oper} {c:Call} {fx:Operand} {args:Array Value} {w:World} (g1:P.funcs[f]?=some fn) (g2:(fn.name == "runtime.NumGoroutine")=false) (g3:fn.body.isNone=false) (ho:o.op=.call c) (hc:c.callee=.value fx) (hX:a.eval fx=.func (.func f) #[] #[]) (ha:c.args.map a.eval++#[]=args) :
 (execOp a.eval o).run P w=.ok (.enter f args) w:=by
 subst ha
 unfold execOp
 rw [ho]
 simp only [resolve,hc,Deferred.ofValue,hX,Sem.run_bind,Sem.run_pure,Result.andThen_ok,invoke,Array.empty_append,callFunc_run g1 g2 g3]
theorem PL.calls {P:Program} {f:FuncId} {fn:Func} {H H':List ABlk} {ρ:Operand→AV} {c:Call} {fx:Operand} {d:AV} {args:Array Value} (h:PL P H ρ (.call c) d H') (g1:P.funcs[f]?=some fn) (g2:(fn.name == "runtime.NumGoroutine")=false) (g3:fn.body.isNone=false) (hc:c.callee=.value fx)
 {w0:Base} {O:Nat→Prop} {ι:Nat→Option Nat} {W:World} {a:Act} (hs:Sit w0 O ι H W) (hv:∀x,VR W (OO O ι H) ι H (ρ x) (a.eval x)) (hX:a.eval fx=.func (.func f) #[] #[]) (ha:c.args.map a.eval++#[]=args) :
 Calls P f args W fun e w'=>∃v,e=.returned v∧∃ι2,Sit w0 O ι2 H' w'∧Goes W (OO O ι H) ι H w' (OO O ι2 H') ι2 H':=by
 have h1:=h { dst:=some 1000,op:=.call c,type:=0,pos:="",after:=#[],guard:=none } rfl w0 O ι a W hs hv (fun _ w'=>∃ι2,Sit w0 O ι2 H' w'∧Goes W (OO O ι H) ι H w' (OO O ι2 H') ι2 H') (fun _ _ _=>False) fun v w' ι2 k1 k2 k3=>⟨ι2,k1,k2⟩
 unfold Oper.wp at h1
 rw [exec_call (o:={ dst:=some 1000,op:=.call c,type:=0,pos:="",after:=#[],guard:=none }) g1 g2 g3 rfl hc hX ha,Oper.upon_enter] at h1
 refine h1.mono ?_
 rintro e w' he
 cases e with
 | returned v=>exact ⟨v,rfl,he⟩
 | panicked ch=>exact he.elim
 | outgrown=>obtain ⟨_,_,h⟩:=he;exact h.elim
theorem turn_calls {mm:List (Nat × Obj)} {sp s':PRun} {n:Nat} (hwP:WF sp) (hwT:WF s') (hturn:FnHM Tryd.prog mm 62 [ptR,.int n] (HH sp) (.tup []) (HH s')) {w0:Base} {O:Nat→Prop} {ι:Nat→Option Nat} {W:World} {u:Value}
 (hs:Sit w0 O ι (HH sp++TT) W) (hu:VR W (OO O ι (HH sp++TT)) ι (HH sp++TT) ptR u) (hm:∀q∈mm,¬OO O ι (HH sp++TT) q.1∧W.heap[q.1]?=some q.2) :
 Calls Tryd.prog 62 #[u,.int .i64 n] W fun e w'=>∃v,e=.returned v∧∃ι2,Sit w0 O ι2 (HH s'++TT) w'∧Goes W (OO O ι (HH sp++TT)) ι (HH sp++TT) w' (OO O ι2 (HH s'++TT)) ι2 (HH s'++TT):=by
 obtain ⟨ρ,hρt,hρf,hρo⟩:∃ρ:Operand→AV,(∀t,ρ (.tmp t)=if t=0 then ptR else if t=1 then .int n else if t=memSlot then .mem mm else .bad)∧(∀f,ρ (.func f)=.clo f [])∧∀x,(∃v,x=.const v)∨(∃g,x=.global g)→ρ x=.bad:=⟨fun
  | .tmp t=>if t=0 then ptR else if t=1 then .int n else if t=memSlot then .mem mm else .bad
  | .func f=>.clo f []
  | _=>.bad,fun _=>rfl,fun _=>rfl,fun x hx=>by rcases hx with ⟨v,rfl⟩|⟨g,rfl⟩<;>rfl⟩
 have e0:ρ (.tmp 0)=ptR:=by rw [hρt,if_pos rfl]
 have e1:ρ (.tmp 1)=.int n:=by rw [hρt,if_neg (by decide),if_pos rfl]
 have em:ρ (.tmp memSlot)=.mem mm:=by rw [hρt,if_neg (by decide),if_neg (by decide),if_pos rfl]
 have hargs:crlT.args.toList.map ρ++[]=[ptR,.int n]:=by
  show [ρ (.tmp 0),ρ (.tmp 1)]++[]=_
  rw [e0,e1];rfl
 have hPL:PL Tryd.prog (HH sp++TT) ρ (.call crlT) (.tup []) (HH s'++TT):=pl_callRM hwP hwT (T:=TT) hturn (.inr em) (fx:=.func 62) rfl (hρf _) hargs (by
  intro a ha
  simp only [List.mem_cons,List.not_mem_nil,or_false] at ha
  rcases ha with rfl|rfl
  ·exact .ptr ixl_rn
  ·exact .pu (.base _)) (.pu (Pu.tup (by simp)))
 obtain ⟨a',ha'⟩:∃a':Act,a'={ tmps:=#[u,.int .i64 n,undef],defers:=[] }:=⟨_,rfl⟩
 have hval:∀x,VR W (OO O ι (HH sp++TT)) ι (HH sp++TT) (ρ x) (a'.eval x):=fun x=>by
  rw [ha']
  cases x with
  | tmp t =>
    rw [hρt]
    by_cases e0:t=0
    ·subst e0;rw [if_pos rfl];exact hu
    ·rw [if_neg e0]
     by_cases e1:t=1
     ·subst e1;rw [if_pos rfl];exact .base _
     ·rw [if_neg e1]
      split
      ·exact .mem _ _ hm
      ·exact .bad _
  | func f=>rw [hρf];exact .clo f [] #[] rfl (by simp)
  | const v=>rw [hρo _ (.inl ⟨v,rfl⟩)];exact .bad _
  | global g=>rw [hρo _ (.inr ⟨g,rfl⟩)];exact .bad _
 have q1:a'.eval (.func 62)=.func (.func 62) #[] #[]:=by rw [ha'];rfl
 have q2:crlT.args.map a'.eval++#[]=#[u,.int .i64 n]:=by
  rw [ha']
  simp [crlT,Act.eval]
 have:=hPL.calls Tryd.func62 (by kernel_rfl) (by kernel_rfl) (fx:=.func 62) rfl hs hval q1 q2
 exact this
end Go.Ab
set_option maxHeartbeats 4000000
namespace Go.Ab
open Go Go.Ab Go.Proofs Go.Ab.Ty Go.RowKit
theorem HHT_lt {s:PRun}:(HH s++TT)[NN]?=some rpB:=app_get0 (HH_len s)
theorem vr_getD {w:World} {O:Nat→Prop} {ι:Nat→Option Nat} {H:List ABlk} {T:Array Value} {t:Nat} {v:Value} (ht:t<T.size) (h:VR w O ι H (.base v) (T.getD t undef)):T[t]?=some v:=by
 have:=h.base_inv
 rw [Array.getD_eq_getD_getElem?,Array.getElem?_eq_getElem ht] at this
 rw [Array.getElem?_eq_getElem ht]
 exact congrArg some this
theorem yield_walk {fn:FuncId} {mm:List (Nat × Obj)} {s0:PRun} {W1:World} {ι1:Nat→Option Nat} {O1:Nat→Prop} {l x7:Nat} {rec:Loop}
 (hl:W1.heap[l]?=some (.loop rec)) (hOl:O1 l) (hlr:¬rng ι1 (HH s0++TT) l) (hst:rec.state=.ready) (hpend:rec.pending=none) (r1:rec.params=#[20]) (r2:rec.fn=fn) (r3:rec.assign=asgC) (r4:rec.body=bdyC)
 (h25:rec.tmps.size=25) (h7:rec.tmps[7]?=some (.pointer (some ⟨x7,0,none⟩))) (hx7:ι1 (NN)=some x7) (hc7:∃c ty fz,W1.heap[x7]?=some (.cells c ty fz))
 {sp s':PRun} {n:Nat} (hwP:WF sp) (hwT:WF s') (hturn:FnHM Tryd.prog mm 62 [ptR,.int n] (HH sp) (.tup []) (HH s')) :
 AWpF Tryd.prog ⟨24,NN+2⟩ ⟨W1,rng ι1 (HH s0++TT),HH s0++TT,ι1⟩ O1 yldC (fun e st=>e=.normal∧Wk ⟨24,NN+2⟩ st ⟨(23,.base (.bool false))::envL l mm,HH s'++TT⟩) ⟨(3,.int n)::(4,.bool true)::envL l mm,HH sp++TT⟩:=by
 intro ι a W hs
 have hsit:=hs.sit
 have hlt:l<W1.heap.size:=heap_lt hl
 have hlW:W.heap[l]?=some (.loop rec):=(hsit.below.block l hlt hlr).trans hl
 have hns:∀c ty fz,W.heap[l]?≠some (.cells c ty fz):=fun c ty fz e=>by rw [hlW] at e;cases e
 -- the runner's box
 obtain ⟨b7,e7,_,f7⟩:=hsit.hist.blk (NN) rpB HHT_lt
 rw [HHT_lt] at e7;injection e7 with e7;subst e7
 have hi7:ι (NN)=some x7:=(f7 rfl).2.trans hx7
 obtain ⟨c7,ty7,fz7,hc7⟩:=hc7
 obtain ⟨c7',ty7',fz7',hc7',_⟩:=hsit.hist.size (NN) x7 rpB rpB c7 ty7 fz7 HHT_lt HHT_lt rfl hx7 hc7
 have hg1:Goes W (OO O1 ι (HH sp++TT)) ι (HH sp++TT) (W.putObj l (.loop { rec with state:=.busy })) (OO O1 ι (HH sp++TT)) ι (HH sp++TT):=Goes.put hOl hns
 have hsb:=hsit.rebase (o:=.loop { rec with state:=.busy }) hOl hns
 have hp7:VR W (OO O1 ι (HH sp++TT)) ι (HH sp++TT) (.ptr (NN) 1 0 0) (.pointer (some ⟨x7,0*rpB.sz+0,none⟩)):=.ptr _ _ _ _ _ _ HHT_lt rfl hi7 ⟨c7',ty7',fz7',hc7'⟩
 obtain ⟨y,hy,hyy,hel⟩:=(hp7.mono hg1).ptr_inv hsb HHT_lt rfl (e:=ptR) rfl
 rw [hi7] at hy;injection hy with hy;subst hy
 obtain ⟨u,hu1,hu2⟩:=hel 0 ptR rfl
 have hu1:(W.putObj l (.loop { rec with state:=.busy })).cell? ⟨x7,0,none⟩=some u:=by simpa using hu1
 have hmv:=hs.vals memSlot
 have hm:∀q∈mm,¬OO O1 ι (HH sp++TT) q.1∧(W.putObj l (.loop { rec with state:=.busy })).heap[q.1]?=some q.2:=by
  have h1:VR W (OO O1 ι (HH sp++TT)) ι (HH sp++TT) (.mem mm) (a.tmps.getD memSlot undef):=hmv
  have h2:=h1.mono hg1
  cases h2 with
  | mem _ _ h=>exact h
 have hcalls:=turn_calls hwP hwT hturn hsb hu2 hm
 have hsz:a.tmps.size=24:=hs.size
 have h0:a.tmps[0]?=some (yldV l):=vr_getD (by omega) (hs.vals 0)
 have h3:a.tmps[3]?=some (.int .i64 n):=vr_getD (by omega) (hs.vals 3)
 have h4:a.tmps[4]?=some (.bool true):=vr_getD (by omega) (hs.vals 4)
 have hrec:({ ({ rec with state:=.busy }:Loop) with state:=if (none:Option Code).isNone then .ready else .done,pending:=none }:Loop)=rec:=by
  cases rec
  simp only at hst hpend
  subst hst hpend
  rfl
 refine yield_ok (k:=n) (R:=fun w2=>∃ι2,Sit ⟨W1,rng ι1 (HH s0++TT),HH s0++TT,ι1⟩ O1 ι2 (HH s'++TT) w2∧(∀x u,VR W (OO O1 ι (HH sp++TT)) ι (HH sp++TT) x u→VR w2 (OO O1 ι2 (HH s'++TT)) ι2 (HH s'++TT) x u)) hsz hs.defers h0 h3 h4 hlW r1 r2 r3 r4 ?_ ?_
 ·refine round_ok h25 h7 (run_beginRound hlW hst) hu1 (hcalls.mono ?_)
  rintro e w' ⟨v,rfl,ι2,h5,h6⟩
  obtain ⟨q1,q2,q3⟩:=hsit.back hOl hlW (fun c ty fz=>by intro h;cases h) (fun c ty fz=>by intro h;cases h) h5
  refine ⟨v,rfl,w'.putObj l (.loop rec),?_,ι2,q2,fun x u hv=>((hv.mono hg1).mono h6).mono q3⟩
  rw [run_endRound none q1,hrec]
  rfl
 ·rintro a' w' g1 g2 g3 g4 g5 ⟨ι2,q1,q2⟩
  refine ⟨_,ι2,⟨rfl,.refl _⟩,⟨q1,g2,g1,hs.hand,fun t=>?_⟩⟩
  have gd:∀ {t:Nat} {v:Value},a'.tmps[t]?=some v→a'.tmps.getD t undef=v:=fun h=>by
   rw [Array.getD_eq_getD_getElem?,h];rfl
  show VR w' _ ι2 _ (if 23=t then AV.base (.bool false) else if 0=t then AV.base (yldV l) else if 1=t then AV.ptr (NN+1) 1 0 0 else if memSlot=t then AV.mem mm else .bad) _
  split
  ·rename_i e;subst e
   rw [gd g5];exact .base _
  ·split
   ·rename_i e;subst e
    rw [gd g3];exact .base _
   ·split
    ·rename_i e;subst e
     have h1:=hs.vals 1
     have h1:VR W (OO O1 ι (HH sp++TT)) ι (HH sp++TT) (.ptr (NN+1) 1 0 0) (a.tmps.getD 1 undef):=h1
     have e1:a'.tmps.getD 1 undef=a.tmps.getD 1 undef:=by rw [Array.getD_eq_getD_getElem?,Array.getD_eq_getD_getElem?,g4]
     rw [e1];exact q2 _ _ h1
    ·split
     ·have h1:VR W (OO O1 ι (HH sp++TT)) ι (HH sp++TT) (.mem mm) (a.tmps.getD memSlot undef):=hmv
      have h2:=q2 _ _ h1
      cases h2 with
      | mem _ _ h=>exact .mem _ _ h
     ·exact .bad _
end Go.Ab
set_option maxHeartbeats 4000000
namespace Go.Ab
open Go Go.Ab Go.Proofs Go.Ab.Ty Go.RowKit
theorem getD_app0 {x y:Value} {T:Array Value}:(#[x,y]++T).getD 0 undef=x:=by
 rw [Array.getD_eq_getD_getElem?,Array.getElem?_append_left (by simp)];rfl
theorem getD_app1 {x y:Value} {T:Array Value}:(#[x,y]++T).getD 1 undef=y:=by
 rw [Array.getD_eq_getD_getElem?,Array.getElem?_append_left (by simp)];rfl
theorem run1_calls {mm:List (Nat × Obj)} {G:PRun→Prop} (hG:RunG mm G) {s0:PRun} (h0:G s0) {R:PRun} (hR:R=runF (2001-s0.turns.length) s0) (hle0:s0.turns.length≤2000) {fn:FuncId} {W1:World} {ι1:Nat→Option Nat} {O1:Nat→Prop} {l x7:Nat} {rec:Loop}
 (hl:W1.heap[l]?=some (.loop rec)) (hOl:O1 l) (hst:rec.state=.ready) (hpend:rec.pending=none) (r1:rec.params=#[20]) (r2:rec.fn=fn) (r3:rec.assign=asgC) (r4:rec.body=bdyC)
 (h25:rec.tmps.size=25) (h7:rec.tmps[7]?=some (.pointer (some ⟨x7,0,none⟩))) (hx7:ι1 (NN)=some x7) (hc7:∃c ty fz,W1.heap[x7]?=some (.cells c ty fz))
 (hS:Sit ⟨W1,rng ι1 (HH s0++TT),HH s0++TT,ι1⟩ O1 ι1 (HH s0++TT) W1) {cx:Value} (hcx:VR W1 (OO O1 ι1 (HH s0++TT)) ι1 (HH s0++TT) (.ptr (NN+1) 1 0 0) cx)
 (hm:∀q∈mm,¬OO O1 ι1 (HH s0++TT) q.1∧W1.heap[q.1]?=some q.2) :
 Calls Tryd.prog 84 #[yldV l,cx] W1 fun e w'=>∃v,e=.returned v∧∃ι2,Sit ⟨W1,rng ι1 (HH s0++TT),HH s0++TT,ι1⟩ O1 ι2 (HH R++TT) w':=by
 have hlr:¬rng ι1 (HH s0++TT) l:=fun ⟨b,hb,hx⟩=>hS.disj l b hOl hb hx
 refine calls_of_wp Tryd.func84 (c:=(Tryd.f84.body).getD .skip) (by kernel_rfl) ?_
 have hs:SR ⟨24,NN+2⟩ ⟨W1,rng ι1 (HH s0++TT),HH s0++TT,ι1⟩ O1 ⟨envL l mm,HH s0++TT⟩ ι1 { tmps:=#[yldV l,cx]++Array.replicate 22 undef,defers:=[] } W1:=by
  refine ⟨hS,rfl,by simp,by show (HH s0++TT).length=NN+2;rw [List.length_append,HH_len];rfl,fun t=>?_⟩
  show VR W1 _ ι1 _ (if 0=t then AV.base (yldV l) else if 1=t then AV.ptr (NN+1) 1 0 0 else if memSlot=t then AV.mem mm else .bad) ((#[yldV l,cx]++Array.replicate 22 undef).getD t undef)
  split
  ·rename_i e;subst e;rw [getD_app0];exact .base _
  ·split
   ·rename_i e;subst e;rw [getD_app1];exact hcx
   ·split
    ·exact .mem _ _ hm
    ·exact .bad _
 have key:=run1_walk hG h0 (w1:=⟨W1,rng ι1 (HH s0++TT),HH s0++TT,ι1⟩) (O:=O1) (l:=l) hR hle0 (fun s n hGs hwP hturn hwT=>yield_walk hl hOl hlr hst hpend r1 r2 r3 r4 h25 h7 hx7 hc7 hwP hwT hturn)
 refine wp_mono (key ι1 _ W1 hs) ?_
 rintro e a w' ⟨s',ι',⟨he,hwk⟩,hs'⟩
 obtain ⟨ι2,hs2⟩:=hwk _ _ _ _ _ hs'
 have hres:(results Tryd.f84 a.tmps).run Tryd.prog w'=.ok (.tuple #[]) w':=by
  simp [results,Go.Proofs.Tryd.f84]
 rcases he with rfl|rfl
 ·exact ⟨hs2.defers,_,hres,_,rfl,ι2,hs2.sit⟩
 ·exact ⟨hs2.defers,_,hres,_,rfl,ι2,hs2.sit⟩
theorem ran_loop {mm:List (Nat × Obj)} {G:PRun→Prop} (hG:RunG mm G) {s0:PRun} (h0:G s0) {R:PRun} (hR:R=runF (2001-s0.turns.length) s0) (hle0:s0.turns.length≤2000)
 {E:Env} {w0:Base} {O:Nat→Prop} {ι:Nat→Option Nat} {a:Act} {W:World} (hs:SR ⟨25,0⟩ w0 O ⟨E,HH s0++TT⟩ ι a W) (e7:lk E 7=.ptr (NN) 1 0 0) (e19:lk E 19=.clo 84 [.ptr (NN+1) 1 0 0]) (em:lk E memSlot=.mem mm) {Q:Exit→Act→World→Prop}
 (hQ:∀(W2:World) (ι2:Nat→Option Nat) (x7:Nat) (u:Value),W2.heap[W.heap.size]?=some (.deferred (some []))→w0.w.heap.size≤W.heap.size→Sit w0 (andTwo O W) ι2 (HH R++TT) W2→a.tmps[7]?=some (.pointer (some ⟨x7,0,none⟩))→W2.cell? ⟨x7,0,none⟩=some u →
   VR W2 (OO (andTwo O W) ι2 (HH R++TT)) ι2 (HH R++TT) ptR u→Q .normal { tmps:=a.tmps,defers:=[{ target:=.collected W.heap.size,args:=#[] }] } W2) :
 (Code.block 0 (.rangeFunc (.tmp 19) #[20] asgC bdyC)).wp Tryd.prog Q a W:=by
 refine wp_block ?_
 refine (wpIn_wide (n:=1)).1 ?_
 refine wpIn_rangeFunc fun fn _=>?_
 have hsit:=hs.sit
 have hsz:a.tmps.size=25:=hs.size
 have v7:=hs.vals 7
 rw [e7] at v7
 obtain ⟨x7,hx7,hv7,hc7⟩:∃x7,ι (NN)=some x7∧a.tmps.getD 7 undef=.pointer (some ⟨x7,0,none⟩)∧∃c ty fz,W.heap[x7]?=some (.cells c ty fz):=by
  generalize hu:a.tmps.getD 7 undef=U at v7
  cases v7 with
  | stalePtr b tot i off blk ad hb h=>rw [HHT_lt] at hb;injection hb with hb;subst hb;simp at h
  | ptr b tot i off blk x hb ht hi hcx=>exact ⟨x,hi,by simp,hcx⟩
 have h7:a.tmps[7]?=some (.pointer (some ⟨x7,0,none⟩)):=vr_getD (by omega) (by rw [hv7];exact .base _:VR W (OO O ι (HH s0++TT)) ι (HH s0++TT) (.base (.pointer (some ⟨x7,0,none⟩))) _)
 have v19:=hs.vals 19
 rw [e19] at v19
 obtain ⟨cx,hv19,hcx⟩:∃cx,a.tmps.getD 19 undef=.func (.func 84) #[] #[cx]∧VR W (OO O ι (HH s0++TT)) ι (HH s0++TT) (.ptr (NN+1) 1 0 0) cx:=by
  generalize hu:a.tmps.getD 19 undef=U at v19
  cases v19 with
  | clo f cs arr hlen h =>
    obtain ⟨ls⟩:=arr
    match ls,hlen with
    | [cx],_=>exact ⟨cx,rfl,h 0 _ cx rfl rfl⟩
 have vm:=hs.vals memSlot
 rw [em] at vm
 obtain ⟨rec,hrec⟩:∃rec:Loop,rec={ state:=.ready,pending:=none,fn:=fn,tmps:=a.tmps,params:=#[20],assign:=asgC,body:=bdyC,defers:=W.heap.size }:=⟨_,rfl⟩
 have hmore:=hsit.more (o1:=.deferred (some [])) (o2:=.loop rec)
 have hgo:=two_goes (O:=O) (ι:=ι) (H:=HH s0++TT) (W:=W) (o1:=.deferred (some [])) (o2:=.loop rec)
 have hD:W.heap.size≤W.heap.size+1:=by omega
 refine ⟨W.heap.size+1,[{ target:=.collected W.heap.size,args:=#[] }],two W (.deferred (some [])) (.loop rec),{ target:=.fn (.func 84) #[cx],args:=#[yldV (W.heap.size+1)] },two W (.deferred (some [])) (.loop rec),84,#[yldV (W.heap.size+1),cx],two W (.deferred (some [])) (.loop rec),?_,?_,fun _ _=>trivial,?_,fun h=>(by cases h),?_⟩
 ·rw [hrec];exact run_enterLoop_outer fn a.tmps #[20] asgC bdyC
 ·have hX:a.eval (.tmp 19)=.func (.func 84) #[] #[cx]:=hv19
  simp only [resolve,rangeCall,Deferred.ofValue,hX,Sem.run_bind,Sem.run_pure,Result.andThen_ok]
  simp [Act.eval]
 ·simp only [invoke,callFunc_run Tryd.func84 (by kernel_rfl) (by kernel_rfl)]
  rfl
 ·refine callsIn_wide.2 ?_
  have hcalls:=run1_calls hG h0 hR hle0 (fn:=fn) (l:=W.heap.size+1) (x7:=x7) (rec:=rec) (O1:=andTwo O W) (ι1:=ι) (cx:=cx) two_2 (.inr (.inr rfl)) (by rw [hrec]) (by rw [hrec]) (by rw [hrec]) (by rw [hrec]) (by rw [hrec]) (by rw [hrec]) (by rw [hrec];exact hsz) (by rw [hrec];exact h7) hx7
   (by obtain ⟨c,ty,fz,hc⟩:=hc7;exact ⟨c,ty,fz,by rw [two_old (heap_lt hc)];exact hc⟩) hmore (hcx.mono hgo) (by
     have h2:=vm.mono hgo
     cases h2 with
     | mem _ _ h=>exact h)
  refine hcalls.mono ?_
  rintro e w' ⟨v,rfl,ι2,h5⟩
  obtain ⟨q1,q2,q3⟩:=hsit.fromMore h5
  have hns:∀c ty fz,w'.heap[W.heap.size+1]?≠some (.cells c ty fz):=fun c ty fz e=>by rw [q3] at e;cases e
  have q4:=q1.putN (l:=W.heap.size+1) (o:=.loop { rec with state:=.exhausted }) (.inr (.inr rfl)) (by have:=hsit.below.size;omega) hns
  refine ⟨_,_,run_endLoop q3 (by rw [hrec];simp),?_⟩
  have hp:rec.pending=none:=by rw [hrec]
  rw [hp]
  -- the box of the runner
  obtain ⟨b7,e7,_,f7⟩:=h5.hist.blk (NN) rpB HHT_lt
  rw [HHT_lt] at e7;injection e7 with e7;subst e7
  have hi7:ι2 (NN)=some x7:=(f7 rfl).2.trans hx7
  obtain ⟨c7,ty7,fz7,hc7⟩:=hc7
  obtain ⟨c7',ty7',fz7',hc7',_⟩:=h5.hist.size (NN) x7 rpB rpB c7 ty7 fz7 HHT_lt HHT_lt rfl hx7 (by rw [two_old (heap_lt hc7)];exact hc7)
  have hx:x7≠W.heap.size+1:=fun e=>by subst e;rw [q3] at hc7';cases hc7'
  have hp7:VR (w'.putObj (W.heap.size+1) (.loop { rec with state:=.exhausted })) (OO (andTwo O W) ι2 (HH R++TT)) ι2 (HH R++TT) (.ptr (NN) 1 0 0) (.pointer (some ⟨x7,0*rpB.sz+0,none⟩)):=.ptr _ _ _ _ _ _ HHT_lt rfl hi7 ⟨c7',ty7',fz7',by rw [put_other hx];exact hc7'⟩
  obtain ⟨y,hy,hyy,hel⟩:=hp7.ptr_inv q4 HHT_lt rfl (e:=ptR) rfl
  rw [hi7] at hy;injection hy with hy;subst hy
  obtain ⟨u,hu1,hu2⟩:=hel 0 ptR rfl
  have:=hQ _ ι2 x7 u (by rw [put_other (by omega)];exact q2) hsit.below.size q4 h7 (by simpa using hu1) hu2
  have hd:a.defers=[]:=hs.defers
  simpa [Exit.inBlock,hd,hp] using this
end Go.Ab
set_option maxHeartbeats 4000000
namespace Go.Ab
open Go Go.Ab Go.Proofs Go.Ab.Ty
theorem runm_ok {s:PRun} (hw:WF s):FnH Tryd.prog 61 [ptR] (HH s) (.clo 84 [.ptr NN 1 0 0]) (HH s++[rpB]):=by
 have hlen:=HH_len s
 refine FnH.intro' [(0,ptR)] 1 4 NN Tryd.func61 (by kernel_rfl) rfl rfl rfl rfl rfl (HH_len s) ?_
 refine goE ?_
 have hl:(HH s++[rpB]).length=NN+1:=by simp [HH_len]
 have hr:∀b∈HH s++[rpB],RfB (·<NN) b:=fun b hb=>by
  rcases List.mem_append.1 hb with h|h
  ·exact HH_rn hw _ h
  ·exact TT_rf b (by rw [List.mem_singleton] at h;subst h;simp)
 refine ⟨_,[.clo 84 [.ptr NN 1 0 0]],pre (NN+1),id,.refl _,(by show resVals _ _ [.tmp 2]=_;simp +decide only [resVals,resVal,ldPtr,ldE,go_sem, *]<;>rfl),.pre (by rw [hl];omega) (Nat.le_succ _) hl fun j b1 b2 h1 h2=>?_,.clo rfl fun j c d h1 h2=>?_⟩
 ·simp only at h1
  rw [h1] at h2
  injection h2 with h2;subst h2
  refine ⟨rfl,rfl,rfl,fun i e e2 h3 h4=>?_⟩
  rw [h3] at h4;injection h4 with h4;subst h4
  refine ⟨rfl,fun k c c2 h5 h6=>?_⟩
  rw [h5] at h6;injection h6 with h6;subst h6
  exact (hr _ (List.mem_of_getElem? h1) e (List.mem_of_getElem? h3) c (List.mem_of_getElem? h5)).pub fun b hb=>pre_lt (by omega)
 ·cases j with
  | zero=>cases h1;cases h2;exact .ptr (pre_lt (by omega))
  | succ j=>cases h1
end Go.Ab
set_option maxHeartbeats 4000000
namespace Go.Ab
open Go Go.Ab Go.Proofs Go.Ab.Ty
def chkI (b:Bool) (n:Nat):Int:=if b then (if 200<n then 2 else 0) else 230
theorem checked_ok (p:Tk) (l:List Int) (b:Bool) (hb:b=true↔Rg.okValid p):Fn Tryd.prog 59 [encT p,.lst (l.map .int)] (.int (chkI b l.length)):=by
 refine Fn.intro' [(0,encT p),(1,.lst (l.map .int))] 2 13 Tryd.func59 (by kernel_rfl) rfl rfl rfl rfl rfl ?_
 refine goA ?_
 refine callA (Rg.valid_ok p b hb) ?_
 refine goA ?_
 cases b with
 | false =>
   refine ift_ ?_ rfl (by simp +decide only [go_sem, *]<;>rfl)
   refine goA ?_
   exact Ret.data (vs:=[.int 230]) rfl rfl (.base _)
 | true =>
   refine iff_ ?_ rfl (by simp +decide only [go_sem, *]<;>rfl)
   refine goA ?_
   refine ifA (fun hd=>?_) (fun hd=>?_)
   ·simp at hd
    refine goA ?_
    refine Ret.data (vs:=[.int 2]) rfl ?_ (.base _)
    unfold chkI;rw [if_pos rfl,if_pos (by omega)];rfl
   ·simp at hd
    refine goA ?_
    refine Ret.data (vs:=[.int 0]) rfl ?_ (.base _)
    unfold chkI;rw [if_pos rfl,if_neg (by omega)];rfl
end Go.Ab
set_option maxHeartbeats 4000000
namespace Go.Ab
open Go Go.Ab Go.Proofs Go.Ab.Ty
def nwS (p:Tk) (sched:List Int) (no na:Nat) (pool:List (List Int)):PRun:=⟨p,sched,0,List.replicate no (0,-1),[],[],[],[],[],[],List.range na,[],pool,[]⟩
abbrev z32:List Int:=List.replicate 32 0
abbrev m32:List Int:=List.replicate 32 (-1)
def varsN (na np:Nat):List Int:=(List.range np).map fun i=>((na+i:Nat):Int)
noncomputable def newF (p:Tk) (sched:List Int) (cd:Cd):PRun:=
 startF (nwS p sched (p.actors.toNat+cd.params.toNat) p.actors.toNat (List.replicate (p.actors.toNat+1) m32)) cd (varsN p.actors.toNat cd.params.toNat) m32 0 (-1) false
theorem nwS_iv {p:Tk} {sched:List Int} {no na:Nat} {pool:List (List Int)} (h1:no≤1000000) (h2:na≤pool.length) (h3:na≤1000) (h4:sched.length≤1000000) (h5:pool.length≤MM) (h6:∀l∈pool,l.length=32):Iv (nwS p sched no na pool):=by
 have hn:∀ {α:Type} {k:Nat} {x:α},([]:List α)[k]?=some x→False:=fun h=>by simp at h
 refine ⟨⟨by simp [nwS],by simp [nwS],h5,by simp [nwS],h6,by simp [nwS],fun j hj=>?_,by simp [nwS],by simp [nwS],by simp [nwS],rfl,⟨by simpa [nwS] using h1,by simp [nwS],by simp [nwS],by simp [nwS],by simp [nwS],by simpa [nwS] using h3,h4⟩,by simp [nwS],by simp [nwS]⟩,⟨fun k t h=>(hn h).elim⟩,fun k t h=>(hn h).elim,fun k t h=>(hn h).elim,fun k t h=>(hn h).elim,fun k t h=>(hn h).elim,fun k t h=>(hn h).elim,fun k t k' t' i i' j h=>(hn h).elim,fun c hc=>by simp [nwS] at hc,fun k t j c h=>(hn h).elim⟩
 have:=List.mem_range.1 hj
 show j<pool.length
 omega
theorem nwS_mkO {p:Tk} {sched:List Int} {no na:Nat} {pool:List (List Int)}:(nwS p sched no na pool).mkO 0=nwS p sched (no+1) na pool:=by
 simp [nwS,PRun.mkO,List.replicate_succ']
theorem nwS_addP {p:Tk} {sched:List Int} {no na:Nat} {pool:List (List Int)} {l:List Int}:(nwS p sched no na pool).addP l=nwS p sched no na (pool++[l]):=rfl
def addAct (s:PRun) (k:Nat):PRun:={ s with acts:=s.acts++[k] }
theorem nwS_addAct {p:Tk} {sched:List Int} {no na:Nat} {pool:List (List Int)}:addAct (nwS p sched no na pool) na=nwS p sched no (na+1) pool:=by
 simp [nwS,addAct,List.range_succ]
theorem HH_act {s:PRun} {k:Nat}:((HH s).set (ix .at') ⟨25,1,s.acts.map ownC++[ownC k]⟩).set (ix .rn) (rnB (addAct s k))=HH (addAct s k):=by
 refine HH_upd (s:=s) (s':=addAct s k) [(.at',_),(.rn,_)] (upd2 ⟨ixl_at,?_⟩ ⟨ixl_rn,rfl⟩) fun a ha=>?_
 ·simp [blk,addAct]
 ·cases a<;>first|rfl|simp at ha
theorem HH_new {p:Tk} {sched:List Int} {T:List ABlk} (hT:T.length=NN-9) (hT2:∀i,i<NN-9→T[i]?=some (blk (nwS p sched 0 0 []) (nm (9+i)))) :
 [rnB (nwS p sched 0 0 []),⟨157,2,[]⟩,⟨84,1,[]⟩,⟨9,1,[]⟩,⟨73,4,[]⟩,intB [],⟨25,1,[]⟩,⟨25,1,[]⟩,⟨25,1,[]⟩]++T=HH (nwS p sched 0 0 []):=by
 have hNN:9≤NN:=by unfold NN;omega
 refine HH_eq (by simp [hT];omega) fun a ha=>?_
 have hl:=ix_lt ha
 by_cases h:ix a<9
 ·cases a<;>first|rfl|(simp only [ix] at h;omega)
 ·rw [List.getElem?_append_right (by simp;omega)]
  have:=hT2 (ix a-9) (by omega)
  rw [show 9+(ix a-9)=ix a by omega,nm_ix] at this
  exact this
theorem HH_newT (p:Tk) (sched:List Int):∃T:List ABlk,(∀b∈T,b.es=[]) ∧
 [rnB (nwS p sched 0 0 []),⟨157,2,[]⟩,⟨84,1,[]⟩,⟨9,1,[]⟩,⟨73,4,[]⟩,intB [],⟨25,1,[]⟩,⟨25,1,[]⟩,⟨25,1,[]⟩]++T=HH (nwS p sched 0 0 []):=by
 have hNN:9≤NN:=by unfold NN;omega
 have hg:∀i,i<NN-9→((HH (nwS p sched 0 0 [])).drop 9)[i]?=some (blk (nwS p sched 0 0 []) (nm (9+i))):=fun i hi=>by
  rw [List.getElem?_drop]
  have:=HH_get (nwS p sched 0 0 []) (nm (9+i)) (by rw [ix_nm];omega)
  rw [ix_nm] at this;exact this
 refine ⟨(HH (nwS p sched 0 0 [])).drop 9,fun b hb=>?_,HH_new (by rw [List.length_drop,HH_len]) hg⟩
 obtain ⟨i,hi⟩:=List.getElem?_of_mem hb
 have hil:i<NN-9:=by
  have:=(List.getElem?_eq_some_iff.1 hi).1
  rw [List.length_drop,HH_len] at this;exact this
 rw [hg i hil] at hi
 injection hi with hi;subst hi
 have h9:=ix_nm (9+i)
 cases h:nm (9+i)<;>rw [h] at h9<;>first|(simp only [ix] at h9;omega)|rfl
theorem pl_callR0 {s s':PRun} (hw:WF s) (hw':WF s') {ρ:Operand→AV} {c:Call} {fx:Operand} {f:FuncId} {caps args:List AV} {d:AV} (hf:FnH Tryd.prog f args (HH s) d (HH s')) (hc:c.callee=.value fx) (hfx:ρ fx=.clo f caps) (ha:c.args.toList.map ρ++caps=args) (hr:∀a∈args,RfA (·<NN) a) (hd:RfA (·<NN) d):PL Tryd.prog (HH s) ρ (.call c) d (HH s'):=by
 have:=pl_callR hw hw' (T:=[]) hf hc hfx ha hr hd
 simpa using this
theorem pl_mkClk {s:PRun} (hw:WF s) {ρ:Operand→AV} {x y:Operand} (hM:s.pool.length<MM) (hx:ρ x=.int 32) (hy:ρ y=.int 32) {T:List ABlk} (hT:∀b∈T,RfB (Nb (HH s++T).length (ix (.clk s.pool.length))) b):PL Tryd.prog (HH s++T) ρ (.makeSlice 25 x y) (ownC s.pool.length) (HH (s.addP z32)++T):=by
 have h1:=pl_make (P:=Tryd.prog) (H:=HH s++T) (ρ:=ρ) (n:=32) (m:=32) hx hy Tryd.underlying25 el3 zero3 (by kernel_rfl) (by decide) (by decide) (by decide) (by decide)
 exact .clk hw hM rfl h1 hT
theorem pl_mkClk0 {s:PRun} (hw:WF s) {ρ:Operand→AV} {x y:Operand} (hM:s.pool.length<MM) (hx:ρ x=.int 32) (hy:ρ y=.int 32):PL Tryd.prog (HH s) ρ (.makeSlice 25 x y) (ownC s.pool.length) (HH (s.addP z32)):=by
 have:=pl_mkClk hw hM hx hy (T:=[]) (by simp)
 simpa using this
theorem Wk.giveL {n:Fr} {s:PRun} (hw:WF s) {T:List ABlk} {E E2:Env} (hm:n.m≤NN) (h:WkR (pre NN) (HH s++T) E E2):Wk n ⟨E,HH s++T⟩ ⟨E2,HH s⟩:=
 Wk.sel (q:=id) (.pre (by simp [HH_len]) hm (HH_len s) fun j b1 b2 h1 h2=>by
  have hj:=(List.getElem?_eq_some_iff.1 h2).1
  rw [List.getElem?_append_left hj,h2] at h1
  injection h1 with h1;subst h1
  refine ⟨rfl,rfl,rfl,fun i e e2 h3 h4=>?_⟩
  rw [h3] at h4;injection h4 with h4;subst h4
  refine ⟨rfl,fun k c c2 h5 h6=>?_⟩
  rw [h5] at h6;injection h6 with h6;subst h6
  exact (HH_rn hw b2 (List.mem_of_getElem? h2) e (List.mem_of_getElem? h3) c (List.mem_of_getElem? h5)).pub fun b hb=>pre_lt hb) (WkR.all h)
theorem pre_NN:pre NN NN=none:=by unfold pre;rw [if_neg (by omega)]
def fillL (j:Nat):List Int:=List.replicate j (-1)++List.replicate (32-j) 0
theorem fillL_len {j:Nat} (h:j≤32):(fillL j).length=32:=by simp [fillL];omega
theorem fillL_get {j:Nat} (h:j<32):(fillL j)[j]?=some 0:=by
 unfold fillL
 rw [List.getElem?_append_right (by simp),List.getElem?_replicate]
 simp;omega
theorem fillL_set {j:Nat} (h:j<32):(fillL j).set j (-1)=fillL (j+1):=by
 unfold fillL
 rw [List.set_append_right _ _ (by simp),List.length_replicate,Nat.sub_self,show 32-j=(32-(j+1))+1 by omega,List.replicate_succ,List.set_cons_zero,List.replicate_succ' (n:=j),List.append_assoc]
 rfl
theorem RetH.runM {rs:List ResultVar} {n:Fr} {d:AV} {s':PRun} {E:Env} {H T:List ABlk} {vs:List AV} (hw:WF s') (hm:n.m≤NN) (hv:resVals Tryd.prog ⟨E,H⟩ rs=some vs) (hH:H=HH s'++T) (hd:PubR (pre NN) H (packA vs) d):RetH Tryd.prog rs n d (HH s') ⟨E,H⟩:=by
 have hl:=HH_len s'
 refine ⟨_,vs,pre NN,id,.refl _,hv,.pre (by rw [hH];simp [hl]) hm hl fun j b1 b2 h1 h2=>?_,hd⟩
 have hj:=(List.getElem?_eq_some_iff.1 h2).1
 simp only at h1
 rw [hH,List.getElem?_append_left hj,h2] at h1
 injection h1 with h1;subst h1
 refine ⟨rfl,rfl,rfl,fun i e e2 h3 h4=>?_⟩
 rw [h3] at h4;injection h4 with h4;subst h4
 refine ⟨rfl,fun k c c2 h5 h6=>?_⟩
 rw [h5] at h6;injection h6 with h6;subst h6
 exact (HH_rn hw b2 (List.mem_of_getElem? h2) e (List.mem_of_getElem? h3) c (List.mem_of_getElem? h5)).pub fun b hb=>pre_lt hb
end Go.Ab
