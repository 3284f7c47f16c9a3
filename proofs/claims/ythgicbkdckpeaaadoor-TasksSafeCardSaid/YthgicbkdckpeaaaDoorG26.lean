/- Part of the proof. -/
import Derived.Test.YthgicbkdckpeaaaDoorG25
import Derived.Test.YthgicbkdckpeaaaDoorG12
set_option linter.unusedSimpArgs false
set_option linter.unusedVariables false
set_option maxHeartbeats 4000000
namespace Go.Ab
open Go Go.Ab Go.Proofs Go.Ab.Ty
theorem HH_addN {s:PRun} {n:Nat}:((HH s).set (ix .tn) (intB (s.turns++[(n:Int)]))).set (ix .rn) (rnB (turnA s n))=HH (turnA s n):=by
 refine HH_upd (s:=s) (s':=turnA s n) [(.tn,_),(.rn,_)] (upd2 ⟨ixl_tn,?_⟩ ⟨ixl_rn,rfl⟩) fun a ha=>?_
 ·simp [blk,turnA]
 ·cases a<;>first|rfl|simp at ha
theorem HH_pset {s:PRun} {x:Nat} {l:List Int} (hx:x<s.pool.length) (h1:ix (.clk x)<NN):(HH s).set (ix (.clk x)) (intB l)=HH { s with pool:=s.pool.set x l }:=by
 refine HH_upd (s:=s) (s':={ s with pool:=s.pool.set x l }) [(.clk x,intB l)] (upd1 ⟨h1,by simp only [blk];rw [List.getElem?_set_self hx]⟩) fun a ha=>?_
 simp only [List.map_cons,List.map_nil,List.mem_singleton] at ha
 cases a with
 | clk j=>simp only [blk];rw [List.getElem?_set_ne fun e=>ha (by rw [e])]
 | _=>rfl
theorem HH_at {s:PRun} {l:List Nat} (hl:l.length=s.acts.length):(HH s).set (ix .at') ⟨25,1,l.map ownC⟩=HH { s with acts:=l }:=
 HH_upd (s:=s) (s':={ s with acts:=l }) [(.at',_)] (upd1 ⟨ixl_at,rfl⟩) fun a ha=>by
  cases a with
  | at'=>simp at ha
  | rn=>simp only [blk,rnB,hl]
  | _=>rfl
def addK (s:PRun) (k:Nat):PRun:={ s with cks:=s.cks++[k] }
theorem HH_ck {s:PRun} {k:Nat}:((HH s).set (ix .ck) ⟨25,1,s.cks.map ownC++[ownC k]⟩).set (ix .rn) (rnB (addK s k))=HH (addK s k):=by
 refine HH_upd (s:=s) (s':=addK s k) [(.ck,_),(.rn,_)] (upd2 ⟨ixl_ck,?_⟩ ⟨ixl_rn,rfl⟩) fun a ha=>?_
 ·simp [blk,addK]
 ·cases a<;>first|rfl|simp at ha
theorem pl_callRM {mm:List (Nat × Obj)} {s s':PRun} (hw:WF s) (hw':WF s') {T:List ABlk} {ρ:Operand→AV} {c:Call} {fx:Operand} {f:FuncId} {caps args:List AV} {d:AV} (hf:FnHM Tryd.prog mm f args (HH s) d (HH s')) (hmm:MemIn mm ρ) (hc:c.callee=.value fx) (hfx:ρ fx=.clo f caps) (ha:c.args.toList.map ρ++caps=args) (hr:∀a∈args,RfA (·<NN) a) (hd:RfA (·<NN) d):PL Tryd.prog (HH s++T) ρ (.call c) d (HH s'++T):=by
 have hlr:∀b,b<NN→ro (List.range NN) b=some b:=fun b hb=>by rw [ro_range2,if_pos hb]
 refine pl_callHM hf hmm (.pre (HH_len s) (HH_len s') (HH_rn hw) (HH_rn hw')) hc hfx ?_ (hd.mv fun b hb=>rb_range2 hb)
 rw [ha]
 clear ha hf
 induction args with
 | nil=>trivial
 | cons a l ih=>exact ⟨(hr a (by simp)).mv hlr,ih fun x hx=>hr x (by simp [hx])⟩
theorem stB_rf {st:Stp} {S:Nat→Prop}:∀b∈[stB st],RfB S b:=one_rf (.one fun c hc=>by
 simp only [List.mem_cons,List.not_mem_nil,or_false] at hc
 rcases hc with rfl|rfl|rfl|rfl|rfl|rfl<;>first|exact .pu (.base _)|exact .pu (Pu_mapInt _))
theorem turn_ok {mm:List (Nat × Obj)} (hmm:TabM mm) {s:PRun} {n j:Nat} {t:PTask} {c:PCall} {st:Stp} (h:Tok 80010 s n j t c st) (hss:c.code.steps[c.pc.toNat]?=some st) (hac:0≤actF c st→(actF c st).toNat<s.acts.length) (hz1:s.turns.length≤900000) (hz2:s.cks.length≤900000) :
 FnHM Tryd.prog mm 62 [ptR,.int n] (HH s) (.tup []) (HH (turnX s n j c st)):=by
 have hiv:=h.iv
 have hw:=hiv.wf
 have ht:=h.ht
 have hc:=h.hc
 obtain ⟨g1,g2,g3,g4,hn,g6⟩:=hw.k ht
 obtain ⟨k1,k2⟩:=hw.c hc
 have hlen:=HH_len s
 have hs0:=hiv.stk n t ht
 obtain ⟨m,hm⟩:∃m,t.slen=m+1:=⟨t.slen-1,by omega⟩
 have hjm:t.sarr[m]?=some j:=by have:=h.tp;rw [hm] at this;exact this
 have inx:=next_ok hw ht g1 g2 hm hjm hc k1 (i:=c.pc.toNat) (Int.toNat_of_nonneg h.pc.1).symm hss
 refine FnHM.intro' [(0,ptR),(1,.int n)] 2 223 NN Tryd.func62 (by kernel_rfl) rfl rfl rfl rfl rfl rfl (HH_len s) ?_
 refine goF ?_
 refine ARun.q1 rfl rfl (ql_ixo (n:=n) (b:=ix .tk) (by simp +decide only [go_sem, *]<;>rfl) (by simp +decide only [go_sem, *]<;>rfl) Tryd.underlying80 (by simp +decide only [go_sem, *]<;>rfl) (by simp) hn (by simp +decide only [go_sem, *]<;>rfl)) ?_
 refine goF ?_
 refine ARun.p1 rfl rfl (pl_callW inx (by simp [HH_len]) rfl (by simp +decide only [go_sem, *]<;>rfl) (by simp +decide only [go_sem, *]<;>rfl)) ?_
 refine rcS ?_
 refine zOut' ?_
 refine reS ?_
 refine zOut' ?_
 have hset:=HH_addN (s:=s) (n:=n)
 have hr:rnB (turnA s n)=⟨83,13,[.agg [.lst (s.p.codes.map encC),.lst (s.p.methods.map encC),.int s.p.actors,.lst (s.sched.map .int),.int s.used,.own (ix .ob) s.objs.length 0 s.objs.length,.own (ix .tk) s.tasks.length 0 s.tasks.length,.own (ix .ln) s.lines.length 0 s.lines.length,.own (ix .ac) s.accs.length 0 s.accs.length,.own (ix .tn) (s.turns.length+1) 0 (s.turns.length+1),.own (ix .ck) s.cks.length 0 s.cks.length,.own (ix .en) s.ends.length 0 s.ends.length,.own (ix .at') s.acts.length 0 s.acts.length]]⟩:=by
  simp only [rnB,turnA,List.length_append,List.length_singleton]
 rw [hr] at hset
 have he:intB (s.turns++[(n:Int)])=⟨3,1,s.turns.map AV.int++[.int n]⟩:=by simp
 rw [he] at hset
 have hset':=hset
 clear hr he
 have hA:=Cs.turnA hiv ht (by omega)
 obtain ⟨s1,hs1⟩:∃s1,s1=turnA s n:=⟨_,rfl⟩
 rw [← hs1] at hset hset' hA
 have hA':=Hid.mk hA
 have hs1':=Hid.mk hs1
 have ht1:=hA.tk
 have hw1:=hA.iv.wf
 have hn1:n<s1.tasks.length:=by rw [hA.tl];exact hn
 have hc1:s1.calls[j]?=some c:=by rw [hA.calls];exact hc
 clear hA hs1 inx hm hjm
 refine AWp.seq ?_
 refine AWp.join ⟨[(0,ptR),(1,.int n),(4,ptK n),(5,.ptr NN 1 0 0),(6,ptC j),(7,.int s.turns.length),(memSlot,.mem mm)],HH s1++[stB st]⟩ ?_ ?_
 ·refine reS ?_
  refine ARun.p1 rfl rfl (pl_append (b:=ix .tn) (tot:=s.turns.length) (es:=[.int n]) (blk:=intB s.turns) (by simp +decide only [go_sem, *]<;>rfl) (by simp +decide only [go_sem, *]<;>rfl) (by simp +decide only [go_sem, *]<;>rfl) (by simp) Tryd.underlying25 el3 rfl rfl (by simp) (fun e he=>by rw [List.mem_singleton] at he;subst he;exact ⟨rfl,rfl⟩) (by simp;omega) (by simp;omega)) ?_
  refine goF ?_
  exact .wf (hH:=by simp +decide only [go_sem, *]<;>rfl)
 clear hset
 refine AWp.seq ?_
 -- what the turn is behind
 have hp1:s1.pool.length+80010≤MM:=by have:=hA'.out.pl;have:=h.hP;omega
 have hbx:∀b,t.beh=some b→∃x,s1.behs[b]?=some [x]∧x<s1.pool.length∧behX s1 b=x:=fun b hb=>by
  have hbl:=(hw1.tsk t (List.mem_of_getElem? ht1)).2.2.2 b hb
  have hbm:s1.behs[b]?=some s1.behs[b]:=List.getElem?_eq_getElem hbl
  obtain ⟨e1,e2⟩:=hw1.behs _ (List.mem_of_getElem? hbm)
  obtain ⟨x,hx⟩:∃x,s1.behs[b]=[x]:=List.length_eq_one_iff.1 e1
  rw [hx] at hbm e2
  exact ⟨x,hbm,e2 x (by simp),by unfold behX;rw [getD_at hbm];rfl⟩
 have hb2:Cs s1 n t 1 (behK s1 n) (tkAt (behK s1 n) n):=by
  unfold behK
  rw [tkAt_eq ht1]
  cases hbh:t.beh with
  | none=>simp only;rw [tkAt_eq ht1];exact (Cs.refl hA'.out.iv ht1).mono (by omega)
  | some b =>
    obtain ⟨x,e1,e2,e3⟩:=hbx b hbh
    simp only
    rw [e3]
    have:=Cs.clkJ hA'.out.iv ht1 e2 (by omega)
    rw [tkAt_eq this.tk]
    exact this
 obtain ⟨s2,hs2⟩:∃s2,s2=behK s1 n:=⟨_,rfl⟩
 obtain ⟨t2,ht2'⟩:∃t2,t2=tkAt s2 n:=⟨_,rfl⟩
 rw [← hs2,← ht2'] at hb2
 have ht2:=hb2.tk
 refine AWp.join ⟨[(0,ptR),(1,.int n),(4,ptK n),(5,.ptr NN 1 0 0),(6,ptC j),(7,.int s.turns.length),(memSlot,.mem mm)],HH s2++[stB st]⟩ ?_ ?_
 ·cases hbh:t.beh with
  | none =>
    have e2:s2=s1:=by rw [hs2];unfold behK;rw [tkAt_eq ht1,hbh]
    rw [e2]
    refine goF ?_
    refine AWp.turn ?_
    refine goF ?_
    refine iff_ ?_ rfl (by simp +decide only [go_sem, *]<;>rfl)
    refine goF ?_
    exact .wf
  | some b =>
    obtain ⟨x,e1,e2,e3⟩:=hbx b hbh
    have hbM:ix (.beh b)<NN:=ix_lt (a:=.beh b) (by have:=(hw1.tsk t (List.mem_of_getElem? ht1)).2.2.2 b hbh;have:=hw1.nB;show b<MM;omega)
    have hcl:=plA_at (hw1.tsk t (List.mem_of_getElem? ht1)).2.2.1
    have hxl:=plA_at e2
    obtain ⟨sP,hsP⟩:∃sP,sP=s1.addP (joinL (plA s1 t.clk) (plA s1 x)):=⟨_,rfl⟩
    have hj:∀(ρ:Operand→AV) (cl:Call) (fx:Operand),cl.callee=.value fx→ρ fx=.clo 87 []→cl.args.toList.map ρ++[]=[ownC t.clk,ownC x]→PL Tryd.prog (HH s1++[stB st]) ρ (.call cl) (ownC s1.pool.length) (HH sP++[stB st]):=fun ρ cl fx q1 q2 q3=>by
     rw [hsP];exact pl_join hw1 (by omega) hcl hxl stB_rf q1 q2 q3
    have htP:sP.tasks[n]?=some t:=by rw [hsP];exact ht1
    have hset:=HH_tset (s:=sP) (t':={ t with clk:=s1.pool.length }) htP g1 rfl rfl rfl
    have es2:s2=sP.tset n { t with clk:=s1.pool.length }:=by
     have:behK s1 n=clkJ s1 n x:=by unfold behK;rw [tkAt_eq ht1,hbh];exact congrArg (clkJ s1 n) e3
     rw [hs2,this,hsP];unfold clkJ;rw [tkAt_eq ht1]
    rw [← es2] at hset
    have hs2':=Hid.mk hs2
    have htS:=ht2
    have es2':=Hid.mk es2
    have hsP':=Hid.mk hsP
    simp only [tskB,behV,hbh] at hset
    clear hs2 es2 hsP e3 hcl hxl hb2 hbx
    refine goF ?_
    refine AWp.turn ?_
    refine goF ?_
    refine ift_ ?_ rfl (by simp +decide only [go_sem, *]<;>rfl)
    refine goF ?_
    refine ARun.q1 rfl rfl (ql_ixo (n:=0) (b:=ix (.beh b)) (tot:=1) (len:=1) (blk:=⟨25,1,[ownC x]⟩) (by simp +decide only [go_sem, *]<;>rfl) (by simp +decide only [go_sem, *]<;>rfl) Tryd.underlying81 (by simp +decide only [go_sem, *]<;>rfl) rfl (by decide) (by simp +decide only [go_sem, *]<;>rfl)) ?_
    refine goF ?_
    refine ARun.p1 rfl rfl (hj _ _ _ rfl (by simp +decide only [go_sem, *]<;>rfl) (by simp +decide only [go_sem, *]<;>rfl)) ?_
    refine goF ?_
    refine AWpI.turn ?_
    refine goF ?_
    refine iff_ ?_ rfl (by simp +decide only [go_sem, *]<;>rfl)
    refine goF ?_
    exact .wf
 have hs2X:=Hid.mk hs2
 have hs2H:=Hid.mk hs2
 have hb2H:=Hid.mk hb2
 clear hb2 hbx hs2 ht2'
 obtain ⟨s3,w3⟩:=NxS.mk' ht2 { t2 with beh:=none }
 have e3:=w3.hset ht2 g1 rfl rfl rfl
 have ht3:=w3.tk
 have hs3:Hid (s3=nobS s2 n):=⟨by rw [w3.eq];unfold nobS;rw [tkAt_eq ht2]⟩
 have hC3:Cs s1 n t 1 s3 { t2 with beh:=none }:=by
  rw [w3.eq]
  exact (hb2H.out.trans (Cs.tset (t':={ t2 with beh:=none }) hb2H.out.iv ht2 ⟨rfl,rfl,rfl,rfl⟩ ⟨rfl,rfl,rfl,rfl,rfl⟩ ((hb2H.out.iv.wf.tsk t2 (List.mem_of_getElem? ht2)).2.2.1) (.inr rfl)))
 have hc3:s3.calls[j]?=some c:=by rw [hC3.calls];exact hc1
 simp only [tskB,behV] at e3
 have hC3H:=Hid.mk hC3
 clear hC3 w3
 refine AWp.seq ?_
 refine AWp.join ⟨[(0,ptR),(1,.int n),(4,ptK n),(5,.ptr NN 1 0 0),(6,ptC j),(7,.int s.turns.length),(memSlot,.mem mm)],HH s3++[stB st]⟩ ?_ ?_
 ·refine reS ?_
  exact zOut' (.wf (hH:=by simp +decide only [go_sem, *]<;>rfl))
 clear e3
 refine AWp.seq ?_
 -- whose turn it is
 refine AWp.join ⟨[(0,ptR),(1,.int n),(4,ptK n),(5,.ptr NN 1 0 0),(6,ptC j),(7,.int s.turns.length),(10,.int c.actor),(memSlot,.mem mm)],HH s3++[stB st]⟩ ?_ ?_
 ·refine reS ?_
  exact zOut' .wf
 refine AWp.seq ?_
 refine AWp.join ⟨[(0,ptR),(1,.int n),(4,ptK n),(5,.ptr NN 1 0 0),(6,ptC j),(7,.int s.turns.length),(10,.int (actF c st)),(memSlot,.mem mm)],HH s3++[stB st]⟩ ?_ ?_
 ·refine goF ?_
  by_cases h8:st.op=8
  ·have hd:(st.op==8)=true:=by simp [h8]
   have ha8:actF c st=st.n:=if_pos h8
   refine ift_ ?_ rfl (by simp +decide only [go_sem, *]<;>rfl)
   refine goF ?_
   rw [ha8]
   exact .wf
  ·have hd:(st.op==8)=false:=by simp [h8]
   have ha8:actF c st=c.actor:=if_neg h8
   refine iff_ ?_ rfl (by simp +decide only [go_sem, *]<;>rfl)
   refine goF ?_
   rw [ha8]
   exact .wf
 obtain ⟨a,haF⟩:∃a,a=actF c st:=⟨_,rfl⟩
 rw [← haF] at hac ⊢
 have haF':=Hid.mk haF
 have hac':=Hid.mk hac
 clear haF hac
 -- what it waited for
 obtain ⟨t3,ht3e⟩:∃t3,t3={ t2 with beh:=none }:=⟨_,rfl⟩
 rw [← ht3e] at ht3
 have hb3:t3.beh=none:=by rw [ht3e]
 have hC3:Cs s1 n t 1 s3 t3:=by rw [ht3e];exact hC3H.out
 have hI3:=hC3.iv
 have hw3:=hI3.wf
 have hA3:Cs s n t 1 s3 t3:=(hA'.out.trans hC3).mono (by omega)
 have hp3:s3.pool.length+80009≤MM:=by have:=hC3.pl;omega
 clear hC3H ht3e ht2
 have hcl3:=(hw3.tsk t3 (List.mem_of_getElem? ht3)).2.2.1
 have h7:st.op=7→∃(kc:Nat) (tc:PTask),getM t3.spn st.n=some (kc:Int)∧kc<s3.tasks.length∧s3.tasks[kc]?=some tc∧kidN t3 st.n=kc∧ovr s3 kc=decide (3≤tc.state)∧(3≤tc.state→∃x,s3.ends[kc]?=some (some x)∧x<s3.pool.length∧endX s3 kc=x):=fun e=>by
  obtain ⟨kc,q1,q2⟩:=h.r7 (.inl e)
  rw [← hA3.tsa.2.2.2] at q1
  rw [← hA3.tl] at q2
  have htc:s3.tasks[kc]?=some s3.tasks[kc]:=List.getElem?_eq_getElem q2
  refine ⟨kc,s3.tasks[kc],q1,q2,htc,by unfold kidN;rw [q1];rfl,by unfold ovr;rw [htc],fun h3=>?_⟩
  obtain ⟨x,hx⟩:=hI3.en kc _ htc h3
  exact ⟨x,hx,hw3.ends _ (List.mem_of_getElem? hx) x rfl,by unfold endX;rw [getD_at hx];rfl⟩
 obtain ⟨s4,hs4⟩:∃s4,s4=awK s3 n st:=⟨_,rfl⟩
 have hC4:∃t4,Cs s3 n t3 1 s4 t4∧t4.beh=none:=by
  rw [hs4]
  unfold awK
  rw [tkAt_eq ht3]
  split
  ·rename_i hh
   obtain ⟨kc,tc,q1,q2,q3,q4,q5,q6⟩:=h7 hh.1
   rw [q4,q5] at hh
   obtain ⟨x,x1,x2,x3⟩:=q6 (of_decide_eq_true hh.2)
   rw [q4,x3]
   exact ⟨_,Cs.clkJ hI3 ht3 x2 (by omega),hb3⟩
  ·exact ⟨t3,(Cs.refl hI3 ht3).mono (by omega),hb3⟩
 refine AWp.seq ?_
 refine AWp.join ⟨[(0,ptR),(1,.int n),(4,ptK n),(5,.ptr NN 1 0 0),(6,ptC j),(7,.int s.turns.length),(10,.int a),(memSlot,.mem mm)],HH s4++[stB st]⟩ ?_ ?_
 ·by_cases h70:st.op=7
  ·obtain ⟨kc,tc,q1,q2,q3,q4,q5,q6⟩:=h7 h70
   obtain ⟨y1,y2,y3,y4,yn,y6⟩:=hw3.k q3
   have io:=over_ok q3 y1
   have q1':=Hid.mk q1
   have hd:(st.op==7)=true:=by simp [h70]
   have h7H:=Hid.mk h70
   clear h7 q1 h70
   refine goF ?_
   refine ift_ ?_ rfl (by simp +decide only [go_sem, *]<;>rfl)
   refine goF ?_
   refine drA (k:=6) follows (hr:=?_)
   refine goF ?_
   refine ARun.q1 rfl rfl (ql_lookup (a:=st.n) (m:=t3.spn) (enc:=encI1) (f:=AV.int) (b:=ix (.spn n)) (by simp +decide only [go_sem, *]<;>rfl) (by simp +decide only [go_sem, *]<;>rfl) (by simp +decide only [go_sem, *]<;>rfl) Tryd.underlying86 Tryd.underlying3 (KeyEnc.int _) zero3) ?_
   rw [q1'.out,Option.map_some,Option.getD_some]
   refine goF ?_
   refine ARun.q1 rfl rfl (ql_ixo (n:=kc) (b:=ix .tk) (by simp +decide only [go_sem, *]<;>rfl) (by simp +decide only [go_sem, *]<;>rfl) Tryd.underlying80 (by simp +decide only [go_sem, *]<;>rfl) (by simp) q2 (by simp +decide only [go_sem, *]<;>rfl)) ?_
   refine goF ?_
   refine ARun.p1 rfl rfl (pl_callR hw3 hw3 (T:=[stB st]) io rfl (by simp +decide only [go_sem, *]<;>rfl) (by simp +decide only [go_sem, *]<;>rfl) ?_ (.pu (.base _))) ?_
   ·intro a ha
    rw [List.mem_singleton] at ha;subst ha;exact .ptr y1
   refine goF ?_
   by_cases h3:3≤tc.state
   ·have hd3:decide (3≤tc.state)=true:=by simp [h3]
    obtain ⟨x,x1,x2,x3⟩:=q6 h3
    refine ift_ ?_ rfl (by simp +decide only [go_sem, *]<;>rfl)
    refine goF ?_
    have hem:(s3.ends.map endV)[kc]?=some (ownC x):=by rw [List.getElem?_map,x1];rfl
    have hkl:kc<s3.ends.length:=(List.getElem?_eq_some_iff.1 x1).1
    have hclA:=plA_at hcl3
    have hxA:=plA_at x2
    obtain ⟨sP,hsP⟩:∃sP,sP=s3.addP (joinL (plA s3 t3.clk) (plA s3 x)):=⟨_,rfl⟩
    have hj:∀(ρ:Operand→AV) (cl:Call) (fx:Operand),cl.callee=.value fx→ρ fx=.clo 87 []→cl.args.toList.map ρ++[]=[ownC t3.clk,ownC x]→PL Tryd.prog (HH s3++[stB st]) ρ (.call cl) (ownC s3.pool.length) (HH sP++[stB st]):=fun ρ cl fx q1 q2 q3=>by
     rw [hsP];exact pl_join hw3 (by omega) hclA hxA stB_rf q1 q2 q3
    have htP:sP.tasks[n]?=some t3:=by rw [hsP];exact ht3
    have hPe:sP.ends=s3.ends:=by rw [hsP];rfl
    have hset:=HH_tset (s:=sP) (t':={ t3 with clk:=s3.pool.length }) htP g1 rfl rfl rfl
    have es4:s4=sP.tset n { t3 with clk:=s3.pool.length }:=by
     have:awK s3 n st=clkJ s3 n x:=by unfold awK;rw [tkAt_eq ht3,q4,q5,hd3,if_pos ⟨h7H.out,rfl⟩,x3]
     rw [hs4,this,hsP];unfold clkJ;rw [tkAt_eq ht3]
    rw [← es4] at hset
    have es4':=Hid.mk es4
    have hs4':=Hid.mk hs4
    have hsP':=Hid.mk hsP
    simp only [tskB,behV,hb3] at hset
    clear hs4 es4 hsP x3 x1 hclA hxA q5 q6
    refine drS (k:=13) [none,none,none,none,none,none,none,none,none,none,none,none,some 0] (fun k=>match k with
     | 0=>HH s3++[stB st]
     | _=>HH sP++[stB st]) 1 follows ?_
    refine gS ?_
    refine gS ?_
    refine gS ?_
    refine gS ?_
    refine gS ?_
    refine gS ?_
    refine gS ?_
    refine gS ?_
    refine gS ?_
    refine gS ?_
    refine GRun.q1 (v:=.ptr (ix .en) s3.ends.length kc 0) rfl rfl (fun c hc=>?_) ?_
    ·rcases c with _|c
     ·exact ql_ixo (n:=kc) (b:=ix .en) (by simp +decide only [go_sem, *]<;>rfl) (by simp +decide only [go_sem, *]<;>rfl) Tryd.underlying81 (by simp +decide only [go_sem, *]<;>rfl) (by simp) hkl (by simp +decide only [go_sem, *]<;>rfl)
     ·exact ql_ixo (n:=kc) (b:=ix .en) (by simp +decide only [go_sem, *]<;>rfl) (by simp +decide only [go_sem, *]<;>rfl) Tryd.underlying81 (by simp +decide only [go_sem, *]<;>rfl) (by simp [hPe]) hkl (by simp +decide only [go_sem, *]<;>rfl)
    refine gS ?_
    refine GRun.p1 (v:=ownC s3.pool.length) rfl rfl (fun ρ' h=>hj ρ' _ _ rfl ((h (.func 87) (by simp [Op.operands,Call.operands])).trans (by simp +decide only [go_sem, *]<;>rfl)) (by
     simp only [List.map]
     rw [h (.tmp 94) (by simp [Op.operands,Call.operands]),h (.tmp 101) (by simp [Op.operands,Call.operands])]
     simp +decide only [go_sem, *]<;>rfl)) ?_
    refine GRun.nil ?_
    refine goF ?_
    exact .wf (hH:=by simp +decide only [go_sem, *]<;>rfl)
   ·have hd3:decide (3≤tc.state)=false:=by simp [h3]
    have e4:s4=s3:=by rw [hs4];unfold awK;rw [tkAt_eq ht3,q4,q5,hd3,if_neg (by simp)]
    rw [e4]
    refine iff_ ?_ rfl (by simp +decide only [go_sem, *]<;>rfl)
    refine goF ?_
    exact .wf
  ·have hd:(st.op==7)=false:=by simp [h70]
   have e4:s4=s3:=by rw [hs4];unfold awK;rw [if_neg (fun e=>h70 e.1)]
   rw [e4]
   clear h7
   refine goF ?_
   refine iff_ ?_ rfl (by simp +decide only [go_sem, *]<;>rfl)
   refine goF ?_
   exact .wf
 -- whether it can be done
 obtain ⟨t4,hC4',hb4⟩:=hC4
 have hA4:Cs s n t 2 s4 t4:=(hA3.trans hC4').mono (by omega)
 have hI4:=hC4'.iv
 have hw4:=hI4.wf
 have ht4:=hC4'.tk
 have hp4:s4.pool.length+80008≤MM:=by have:=hC4'.pl;omega
 have hc4:s4.calls[j]?=some c:=by rw [hA4.calls];exact hc
 have hcl4:=(hw4.tsk t4 (List.mem_of_getElem? ht4)).2.2.1
 have hT4:=h.cs hA4 (k':=80008) (by omega)
 have hcan:=can_ok hw4 hc4 hT4.vok
 rw [canF_cs hA4] at hcan
 obtain ⟨cn,hcn⟩:∃cn,cn=canF s c st:=⟨_,rfl⟩
 rw [← hcn] at hcan
 have hcnH:=Hid.mk hcn
 have hs4H:=Hid.mk hs4
 have hs3H:=hs3
 clear h7 hcn hs4 hc3 ht3 hb3 hC3 hA3 hC4' hI3 hw3 hcl3 hp3 ht1 hw1 hn1 hp1 hc1 hb2H hs2H
 refine AWp.seq ?_
 refine AWp.join ⟨[(0,ptR),(1,.int n),(4,ptK n),(5,.ptr NN 1 0 0),(6,ptC j),(7,.int s.turns.length),(10,.int a),(12,.bool cn),(memSlot,.mem mm)],HH s4++[stB st]⟩ ?_ ?_
 ·refine reS ?_
  refine ARun.p1 rfl rfl (pl_callR hw4 hw4 (T:=[stB st]) hcan rfl (by simp +decide only [go_sem, *]<;>rfl) (by simp +decide only [go_sem, *]<;>rfl) ?_ (.pu (.base _))) ?_
  ·intro a ha
   simp only [List.mem_cons,List.not_mem_nil,or_false] at ha
   rcases ha with rfl|rfl|rfl
   ·exact .ptr ixl_rn
   ·exact .pu (Pu_encS _)
   ·exact .ptr k1
  refine rcS ?_
  exact zOut' .wf
 clear hcan
 -- behind the actor's last turn
 have hac4:0≤a→∃(an y:Nat),a=an∧an<s4.acts.length∧s4.acts[an]?=some y∧y<s4.pool.length∧s4.acts.getD a.toNat 0=y:=fun h0=>by
  have h1:=hac'.out h0
  rw [← hA4.acl] at h1
  have h2:s4.acts[a.toNat]?=some s4.acts[a.toNat]:=List.getElem?_eq_getElem h1
  exact ⟨a.toNat,s4.acts[a.toNat],(Int.toNat_of_nonneg h0).symm,h1,h2,hw4.acts _ (List.mem_of_getElem? h2),getD_at h2⟩
 obtain ⟨s5,hs5⟩:∃s5,s5=acK s4 n cn a:=⟨_,rfl⟩
 have hC5:∃t5,Cs s4 n t4 1 s5 t5∧t5.beh=none:=by
  rw [hs5]
  unfold acK
  split
  ·rename_i hh
   obtain ⟨an,y,q1,q2,q3,q4,q5⟩:=hac4 hh.2
   rw [q5]
   exact ⟨_,Cs.clkJ hI4 ht4 q4 (by omega),hb4⟩
  ·exact ⟨t4,(Cs.refl hI4 ht4).mono (by omega),hb4⟩
 refine AWp.seq ?_
 refine AWp.join ⟨[(0,ptR),(1,.int n),(4,ptK n),(5,.ptr NN 1 0 0),(6,ptC j),(7,.int s.turns.length),(10,.int a),(12,.bool cn),(memSlot,.mem mm)],HH s5++[stB st]⟩ ?_ ?_
 ·cases cn with
  | false =>
    have e5:s5=s4:=by rw [hs5];unfold acK;rw [if_neg (by simp)]
    rw [e5]
    clear hac4
    refine goF ?_
    refine iff_ ?_ rfl (by simp +decide only [go_sem, *]<;>rfl)
    refine goF ?_
    exact .wf
  | true =>
    by_cases h0:0≤a
    ·obtain ⟨an,y,q1,q2,q3,q4,q5⟩:=hac4 h0
     have hd:decide (a≥0)=true:=by simp [h0]
     subst q1
     have hem:(s4.acts.map ownC)[an]?=some (ownC y):=by rw [List.getElem?_map,q3];rfl
     have hclA:=plA_at hcl4
     have hyA:=plA_at q4
     obtain ⟨sP,hsP⟩:∃sP,sP=s4.addP (joinL (plA s4 t4.clk) (plA s4 y)):=⟨_,rfl⟩
     have hj:∀(ρ:Operand→AV) (cl:Call) (fx:Operand),cl.callee=.value fx→ρ fx=.clo 87 []→cl.args.toList.map ρ++[]=[ownC t4.clk,ownC y]→PL Tryd.prog (HH s4++[stB st]) ρ (.call cl) (ownC s4.pool.length) (HH sP++[stB st]):=fun ρ cl fx q1 q2 q3=>by
      rw [hsP];exact pl_join hw4 (by omega) hclA hyA stB_rf q1 q2 q3
     have htP:sP.tasks[n]?=some t4:=by rw [hsP];exact ht4
     have hPe:sP.acts=s4.acts:=by rw [hsP];rfl
     have hset:=HH_tset (s:=sP) (t':={ t4 with clk:=s4.pool.length }) htP g1 rfl rfl rfl
     have es5:s5=sP.tset n { t4 with clk:=s4.pool.length }:=by
      rw [hs5,hsP];unfold acK;rw [if_pos ⟨rfl,h0⟩,q5];unfold clkJ;rw [tkAt_eq ht4]
     rw [← es5] at hset
     have es5':=Hid.mk es5
     have hs5':=Hid.mk hs5
     have hsP':=Hid.mk hsP
     simp only [tskB,behV,hb4] at hset
     clear hs5 es5 hsP q5 hclA hyA hac4
     refine goF ?_
     refine ift_ ?_ rfl (by simp +decide only [go_sem, *]<;>rfl)
     refine goF ?_
     refine drS (k:=13) [none,none,none,none,none,none,none,none,none,none,none,none,some 0] (fun k=>match k with
      | 0=>HH s4++[stB st]
      | _=>HH sP++[stB st]) 1 follows ?_
     refine gS ?_
     refine gS ?_
     refine gS ?_
     refine gS ?_
     refine gS ?_
     refine gS ?_
     refine gS ?_
     refine gS ?_
     refine gS ?_
     refine gS ?_
     refine GRun.q1 (v:=.ptr (ix .at') s4.acts.length an 0) rfl rfl (fun c hc=>?_) ?_
     ·rcases c with _|c
      ·exact ql_ixo (n:=an) (b:=ix .at') (by simp +decide only [go_sem, *]<;>rfl) (by simp +decide only [go_sem, *]<;>rfl) Tryd.underlying81 (by simp +decide only [go_sem, *]<;>rfl) (by simp) q2 (by simp +decide only [go_sem, *]<;>rfl)
      ·exact ql_ixo (n:=an) (b:=ix .at') (by simp +decide only [go_sem, *]<;>rfl) (by simp +decide only [go_sem, *]<;>rfl) Tryd.underlying81 (by simp +decide only [go_sem, *]<;>rfl) (by simp [hPe]) q2 (by simp +decide only [go_sem, *]<;>rfl)
     refine gS ?_
     refine GRun.p1 (v:=ownC s4.pool.length) rfl rfl (fun ρ' h=>hj ρ' _ _ rfl ((h (.func 87) (by simp [Op.operands,Call.operands])).trans (by simp +decide only [go_sem, *]<;>rfl)) (by
      simp only [List.map]
      rw [h (.tmp 118) (by simp [Op.operands,Call.operands]),h (.tmp 125) (by simp [Op.operands,Call.operands])]
      simp +decide only [go_sem, *]<;>rfl)) ?_
     refine GRun.nil ?_
     refine goF ?_
     exact .wf (hH:=by simp +decide only [go_sem, *]<;>rfl)
    ·have e5:s5=s4:=by rw [hs5];unfold acK;rw [if_neg (fun e=>h0 e.2)]
     have hd:decide (a≥0)=false:=decide_eq_false (by omega)
     rw [e5]
     clear hac4
     refine goF ?_
     refine iff_ ?_ rfl (by simp +decide only [go_sem, *]<;>rfl)
     refine goF ?_
     exact .wf
 obtain ⟨t5,hC5',hb5⟩:=hC5
 have hA5:Cs s n t 3 s5 t5:=(hA4.trans hC5').mono (by omega)
 have hI5:=hC5'.iv
 have hw5:=hI5.wf
 have ht5:=hC5'.tk
 have hp5:s5.pool.length+80007≤MM:=by have:=hC5'.pl;omega
 have hcl5:=(hw5.tsk t5 (List.mem_of_getElem? ht5)).2.2.1
 have hac5:0≤a→a.toNat<s5.acts.length:=fun h0=>by rw [hA5.acl];exact hac'.out h0
 have hs5H:=Hid.mk hs5
 clear hac4 hC5' hs5 hI4 hw4 ht4 hp4 hc4 hcl4 hT4 hb4
 -- the time of the turn
 have hn32:n<32:=by have:=hw.nT;omega
 have hlA:=(hw5.p (plA_at hcl5)).2
 have hclM:ix (.clk t5.clk)<NN:=(hw5.p (plA_at hcl5)).1
 obtain ⟨s6,hs6⟩:∃s6,s6=timeS s5 n s.turns.length:=⟨_,rfl⟩
 have hC6:Cs s5 n t5 0 s6 t5:=by rw [hs6];exact Cs.timeS hI5 ht5
 have hset6:(HH s5).set (ix (.clk t5.clk)) (intB ((plA s5 t5.clk).set n (s.turns.length:Int)))=HH s6:=by
  rw [hs6];unfold timeS;rw [tkAt_eq ht5];exact HH_pset hcl5 hclM
 have hplA:=plA_at hcl5
 have hs6H:=Hid.mk hs6
 have hC6H:=Hid.mk hC6
 clear hC6 hs6
 refine AWp.seq ?_
 refine AWp.join ⟨[(0,ptR),(1,.int n),(4,ptK n),(5,.ptr NN 1 0 0),(6,ptC j),(7,.int s.turns.length),(10,.int a),(12,.bool cn),(memSlot,.mem mm)],HH s6++[stB st]⟩ ?_ ?_
 ·refine reS ?_
  refine ARun.q1 rfl rfl (ql_ixo (n:=n) (b:=ix (.clk t5.clk)) (by simp +decide only [go_sem, *]<;>rfl) (by simp +decide only [go_sem, *]<;>rfl) Tryd.underlying25 (by simp +decide only [go_sem, *]<;>rfl) (by simp [hlA]) hn32 (by simp +decide only [go_sem, *]<;>rfl)) ?_
  refine rcS ?_
  refine ARun.p1 rfl rfl (pl_store_own (f:=AV.int) (l:=plA s5 t5.clk) (b:=ix (.clk t5.clk)) (tot:=32) (i:=n) (ty:=3) (sz:=1) (s.turns.length:Int) (by simp +decide only [go_sem, *]<;>rfl) (by simp +decide only [go_sem, *]<;>rfl) (by simp +decide only [go_sem, *]<;>rfl) hlA (by rw [hlA];exact hn32) sz3 rfl rfl) ?_
  exact zOut' (.wf (hH:=by simp +decide only [go_sem, *]<;>rfl))
 have hC6:=hC6H.out
 have hA6:Cs s n t 3 s6 t5:=(hA5.trans hC6).mono (by omega)
 have hI6:=hC6.iv
 have hw6:=hI6.wf
 have ht6:=hC6.tk
 have hp6:s6.pool.length+80007≤MM:=by have:=hC6.pl;omega
 have hcl6:=(hw6.tsk t5 (List.mem_of_getElem? ht6)).2.2.1
 have hac6:0≤a→a.toNat<s6.acts.length:=fun h0=>by rw [hA6.acl];exact hac'.out h0
 clear hplA hset6 hac5 hC6 hI5 hw5 ht5 hp5 hcl5 hlA
 obtain ⟨s7,hs7⟩:∃s7,s7=actS s6 n cn a:=⟨_,rfl⟩
 have hC7:Cs s6 n t5 1 s7 t5:=by rw [hs7];exact Cs.actS hI6 ht6 (by omega)
 refine AWp.seq ?_
 refine AWp.join ⟨[(0,ptR),(1,.int n),(4,ptK n),(5,.ptr NN 1 0 0),(6,ptC j),(7,.int s.turns.length),(10,.int a),(12,.bool cn),(memSlot,.mem mm)],HH s7++[stB st]⟩ ?_ ?_
 ·have hC7':=Hid.mk hC7
  clear hC7
  cases cn with
  | false =>
    have e7:s7=s6:=by rw [hs7];unfold actS;rw [if_neg (by simp)]
    rw [e7]
    refine goF ?_
    refine iff_ ?_ rfl (by simp +decide only [go_sem, *]<;>rfl)
    refine goF ?_
    exact .wf
  | true =>
    by_cases h0:0≤a
    ·have h1:=hac6 h0
     obtain ⟨an,hq1⟩:∃an:Nat,a=an:=⟨_,(Int.toNat_of_nonneg h0).symm⟩
     subst hq1
     rw [Int.toNat_natCast] at h1
     have hd:decide ((an:Int)≥0)=true:=by simp
     have hclA:=plA_at hcl6
     obtain ⟨sP,hsP⟩:∃sP,sP=s6.addP (plA s6 t5.clk):=⟨_,rfl⟩
     have hj:∀(ρ:Operand→AV) (cl:Call) (fx:Operand),cl.callee=.value fx→ρ fx=.clo 89 []→cl.args.toList.map ρ++[]=[ownC t5.clk]→PL Tryd.prog (HH s6++[stB st]) ρ (.call cl) (ownC s6.pool.length) (HH sP++[stB st]):=fun ρ cl fx q1 q2 q3=>by
      rw [hsP];exact pl_clone hw6 (by omega) hclA stB_rf q1 q2 q3
     have htP:sP.tasks[n]?=some t5:=by rw [hsP];exact ht6
     have hPe:sP.acts=s6.acts:=by rw [hsP];rfl
     have hset:=HH_at (s:=sP) (l:=sP.acts.set an s6.pool.length) List.length_set
     have es7:s7={ sP with acts:=sP.acts.set an s6.pool.length }:=by
      rw [hs7,hsP];unfold actS;rw [if_pos ⟨rfl,by omega⟩,tkAt_eq ht6];rfl
     rw [← es7,List.map_set,hPe] at hset
     have es7':=Hid.mk es7
     have hs7':=Hid.mk hs7
     have hsP':=Hid.mk hsP
     clear hs7 es7 hsP hclA hac6
     refine goF ?_
     refine ift_ ?_ rfl (by simp +decide only [go_sem, *]<;>rfl)
     refine goF ?_
     refine drS (k:=10) [none,none,none,none,none,none,none,none,none,some 0] (fun k=>match k with
      | 0=>HH s6++[stB st]
      | _=>HH sP++[stB st]) 1 follows ?_
     refine gS ?_
     refine gS ?_
     refine gS ?_
     refine gS ?_
     refine gS ?_
     refine gS ?_
     refine gS ?_
     refine gS ?_
     refine gS ?_
     refine GRun.p1 (v:=ownC s6.pool.length) rfl rfl (fun ρ' h=>hj ρ' _ _ rfl ((h (.func 89) (by simp [Op.operands,Call.operands])).trans (by simp +decide only [go_sem, *]<;>rfl)) (by
      simp only [List.map]
      rw [h (.tmp 149) (by simp [Op.operands,Call.operands])]
      simp +decide only [go_sem, *]<;>rfl)) ?_
     refine GRun.nil ?_
     refine goF ?_
     refine ARun.q1 rfl rfl (ql_ixo (n:=an) (b:=ix .at') (by simp +decide only [go_sem, *]<;>rfl) (by simp +decide only [go_sem, *]<;>rfl) Tryd.underlying81 (by simp +decide only [go_sem, *]<;>rfl) (by simp [hPe]) h1 (by simp +decide only [go_sem, *]<;>rfl)) ?_
     refine ARun.p1 rfl rfl (pl_store (b:=ix .at') (tot:=s6.acts.length) (i:=an) (off:=0) (blk:=⟨25,1,s6.acts.map ownC⟩) (v:=ownC s6.pool.length) (by simp +decide only [go_sem, *]<;>rfl) (by simp +decide only [go_sem, *]<;>rfl) (by simp +decide only [go_sem, *]<;>rfl) (by simp) (by rw [List.getElem?_map,List.getElem?_eq_getElem h1];rfl) (by kernel_rfl) rfl rfl) ?_
     refine goF ?_
     exact .wf (hH:=by simp +decide only [go_sem, *]<;>rfl)
    ·have e7:s7=s6:=by rw [hs7];unfold actS;rw [if_neg (fun e=>h0 e.2)]
     have hd:decide (a≥0)=false:=decide_eq_false (by omega)
     rw [e7]
     refine goF ?_
     refine iff_ ?_ rfl (by simp +decide only [go_sem, *]<;>rfl)
     refine goF ?_
     exact .wf
 have hA7:Cs s n t 4 s7 t5:=(hA6.trans hC7).mono (by omega)
 have hI7:=hC7.iv
 have hw7:=hI7.wf
 have ht7:=hC7.tk
 have hp7:s7.pool.length+80006≤MM:=by have:=hC7.pl;omega
 have hcl7:=(hw7.tsk t5 (List.mem_of_getElem? ht7)).2.2.1
 have hz7:s7.cks.length≤900000:=by
  have e3:(behK s1 n).cks=s1.cks:=by unfold behK;split<;>rfl
  have e4:(awK s3 n st).cks=s3.cks:=by unfold awK;split<;>rfl
  have e5:(acK s4 n cn a).cks=s4.cks:=by unfold acK;split<;>rfl
  have e7:(actS s6 n cn a).cks=s6.cks:=by unfold actS;split<;>rfl
  rw [hs7,e7,hs6H.out]
  show s5.cks.length≤_
  rw [hs5H.out,e5,hs4H.out,e4,hs3H.out]
  show s2.cks.length≤_
  have hs2x:s2.cks=s1.cks:=by rw [hs2X.out,e3]
  rw [hs2x,hs1'.out];exact hz2
 have hs7H:=Hid.mk hs7
 clear hs7 hC7 hI6 hw6 ht6 hp6 hcl6 hac6
 obtain ⟨s8,hs8⟩:∃s8,s8=ckS s7 n:=⟨_,rfl⟩
 have hC8:Cs s7 n t5 1 s8 t5:=by rw [hs8];exact Cs.ckS hI7 ht7 (by omega) (by omega)
 have hclA:=plA_at hcl7
 obtain ⟨sP,hsP⟩:∃sP,sP=s7.addP (plA s7 t5.clk):=⟨_,rfl⟩
 have hj:∀(ρ:Operand→AV) (cl:Call) (fx:Operand),cl.callee=.value fx→ρ fx=.clo 89 []→cl.args.toList.map ρ++[]=[ownC t5.clk]→PL Tryd.prog (HH s7++[stB st]) ρ (.call cl) (ownC s7.pool.length) (HH sP++[stB st]):=fun ρ cl fx q1 q2 q3=>by
  rw [hsP];exact pl_clone hw7 (by omega) hclA stB_rf q1 q2 q3
 have htP:sP.tasks[n]?=some t5:=by rw [hsP];exact ht7
 have hPe:sP.cks=s7.cks:=by rw [hsP];rfl
 have hset:=HH_ck (s:=sP) (k:=s7.pool.length)
 have es8:s8=addK sP s7.pool.length:=by rw [hs8,hsP];unfold ckS;rw [tkAt_eq ht7];rfl
 have hr:rnB (addK sP s7.pool.length)=⟨83,13,[.agg [.lst (sP.p.codes.map encC),.lst (sP.p.methods.map encC),.int sP.p.actors,.lst (sP.sched.map .int),.int sP.used,.own (ix .ob) sP.objs.length 0 sP.objs.length,.own (ix .tk) sP.tasks.length 0 sP.tasks.length,.own (ix .ln) sP.lines.length 0 sP.lines.length,.own (ix .ac) sP.accs.length 0 sP.accs.length,.own (ix .tn) sP.turns.length 0 sP.turns.length,.own (ix .ck) (s7.cks.length+1) 0 (s7.cks.length+1),.own (ix .en) sP.ends.length 0 sP.ends.length,.own (ix .at') sP.acts.length 0 sP.acts.length]]⟩:=by
  simp only [rnB,addK,List.length_append,List.length_singleton,hPe]
 rw [hr,← es8,hPe] at hset
 obtain ⟨LC,hLC⟩:∃LC,LC=(HH sP).set (ix .ck) ⟨25,1,s7.cks.map ownC++[ownC s7.pool.length]⟩:=⟨_,rfl⟩
 have hLl:LC.length=NN:=by rw [hLC,set_len,HH_len]
 have hLr:LC[ix .rn]?=some (rnB sP):=by rw [hLC,set_get (HH_len sP) ixl_ck,if_neg (by simp),HH_get sP _ ixl_rn];rfl
 have hLt:LC[ix (.tsk n)]?=some (tskB n t5):=by rw [hLC,set_get (HH_len sP) ixl_ck,if_neg (by simp),HH_get sP _ g1];simp only [blk];rw [htP]
 simp only [tskB,behV,hb5] at hLt
 simp only [rnB,hPe] at hLr
 rw [← hLC] at hset
 have es8':=Hid.mk es8
 have hs8':=Hid.mk hs8
 have hsP':=Hid.mk hsP
 have hLC':=Hid.mk hLC
 have hC8H:=Hid.mk hC8
 clear hs8 es8 hsP hclA hr hC8 hLC
 refine AWp.seq ?_
 refine AWp.join ⟨[(0,ptR),(1,.int n),(4,ptK n),(5,.ptr NN 1 0 0),(6,ptC j),(7,.int s.turns.length),(10,.int a),(12,.bool cn),(memSlot,.mem mm)],HH s8++[stB st]⟩ ?_ ?_
 ·refine drS (k:=12) [none,none,none,none,none,none,none,none,none,some 0,none,some 1] (fun k=>match k with
   | 0=>HH s7++[stB st]
   | 1=>HH sP++[stB st]
   | _=>LC++[stB st]) 2 follows ?_
  refine gS2 ?_
  refine gS2 ?_
  refine gS2 ?_
  refine gS2 ?_
  refine gS2 ?_
  refine gS2 ?_
  refine gS2 ?_
  refine gS2 ?_
  refine gS2 ?_
  refine GRun.p1 (v:=ownC s7.pool.length) rfl rfl (fun ρ' h=>hj ρ' _ _ rfl ((h (.func 89) (by simp [Op.operands,Call.operands])).trans (by simp +decide only [go_sem, *]<;>rfl)) (by
   simp only [List.map]
   rw [h (.tmp 160) (by simp [Op.operands,Call.operands])]
   simp +decide only [go_sem, *]<;>rfl)) ?_
  refine GRun.q1 (v:=.lst [ownC s7.pool.length]) rfl rfl (fun c _=>ql_bsl Tryd.underlying81 sz25 (by decide) (by kernel_rfl) (by decide) (by (simp +decide only [List.map,go_sem]<;>rfl)) (by (simp +decide only [List.map,go_sem]<;>rfl)) rfl) ?_
  refine GRun.p1 (v:=.own (ix .ck) (s7.cks.length+1) 0 (s7.cks.length+1)) rfl rfl (fun ρ' h=>?_) ?_
  ·have h1:=pl_append (P:=Tryd.prog) (ρ:=ρ') (H:=HH sP++[stB st]) (b:=ix .ck) (tot:=s7.cks.length) (es:=[ownC s7.pool.length]) (blk:=⟨25,1,s7.cks.map ownC⟩) ((h (.tmp 156) (by simp [Op.operands,Call.operands])).trans (by simp +decide only [go_sem, *]<;>rfl)) ((h (.tmp 162) (by simp [Op.operands,Call.operands])).trans (by simp +decide only [go_sem, *]<;>rfl)) (by simp +decide only [go_sem, *]<;>rfl) (by simp) Tryd.underlying81 el25 rfl rfl (by simp) (fun e he=>by rw [List.mem_singleton] at he;subst he;exact ⟨rfl,rfl⟩) (by simp;omega) (by simp;omega)
   rw [app_set (HH_len sP) ixl_ck,← hLC'.out] at h1
   exact h1
  refine GRun.nil ?_
  refine goF ?_
  exact .wf (hH:=by simp +decide only [go_sem, *]<;>rfl)
 -- nothing is had any more
 have hC8:=hC8H.out
 have hA8:Cs s n t 5 s8 t5:=(hA7.trans hC8).mono (by omega)
 have hI8:=hC8.iv
 have ht8:=hC8.tk
 obtain ⟨t9,ht9e⟩:∃t9,t9={ t5 with has:=(-1:Int) }:=⟨_,rfl⟩
 obtain ⟨s9,hs9⟩:∃s9,s9=hasS s8 n (-1):=⟨_,rfl⟩
 have hset9:(HH s8).set (ix (.tsk n)) (tskB n { t5 with has:=(-1:Int) })=HH s9:=by
  rw [hs9];unfold hasS;rw [tkAt_eq ht8];exact HH_tset ht8 g1 rfl rfl rfl
 have hC9:Cs s8 n t5 0 s9 t9:=by
  rw [hs9,ht9e];unfold hasS;rw [tkAt_eq ht8]
  exact Cs.tset hI8 ht8 ⟨rfl,rfl,rfl,rfl⟩ ⟨rfl,rfl,rfl,rfl,rfl⟩ (hI8.wf.tsk t5 (List.mem_of_getElem? ht8)).2.2.1 (.inl rfl)
 have hb9:t9.beh=none:=by rw [ht9e];exact hb5
 have hA9:Cs s n t 10 s9 t9:=(hA8.trans hC9).mono (by omega)
 have hC9H:=Hid.mk hC9
 have hA9H:=Hid.mk hA9
 have ht9H:=Hid.mk ht9e
 have hs9H:=Hid.mk hs9
 simp only [tskB,behV,hb5] at hset9
 clear hset hLl hLr hLt hPe htP hj hI7 hw7 ht7 hp7 hcl7 hz7 hC8 hC9 hA9 hb9 ht9e hs9 hA7 hA6 hA5 hA4 hA8
 refine AWp.seq ?_
 refine AWp.join ⟨[(0,ptR),(1,.int n),(4,ptK n),(5,.ptr NN 1 0 0),(6,ptC j),(7,.int s.turns.length),(12,.bool cn),(memSlot,.mem mm)],HH s9++[stB st]⟩ ?_ ?_
 ·refine reS ?_
  exact zOut' (.wf (hH:=by simp +decide only [go_sem, *]<;>rfl))
 have hA9:=hA9H.out
 have hb9:t9.beh=none:=by rw [ht9H.out];exact hb5
 have hT9:Tok 80000 s9 n j t9 c st:=h.cs hA9 (by omega)
 have hI9:=hT9.iv
 have hw9:=hI9.wf
 have ht9:=hT9.ht
 have hc9:=hT9.hc
 have hcan9:canF s9 c st=cn:=by rw [canF_cs hA9];exact hcnH.out.symm
 have hB9:turnB s n c st=s9:=by
  unfold turnB
  rw [← hs1'.out,← hs2X.out,← hs3H.out,← haF'.out,← hcnH.out,← hs4H.out,← hs5H.out,← hs6H.out,← hs7H.out,← hs8'.out,← hs9H.out]
 clear hset9 hI8 ht8 hb5
 unfold turnX
 rw [hB9,← hcnH.out,tkAt_eq ht9]
 have hst9:=hT9.st1
 have hwt9:=hT9.wt
 have hSok:cn=true→Sok s9 n j t9 c st:=fun e=>{ hT9.cs (Cs.refl hI9 ht9) (k':=40000) (by omega) with can:=by rw [hcan9];exact e,bh:=hb9 }
 have hbB:=hT9.hB
 have hbP:=hT9.hP
 have hn32:n<32:=by have:=hw.nT;omega
 have hpcl:=hT9.pcl
 have htp:=hT9.tp
 have hacR:=hT9.hac
 have hpcb:=hT9.pc
 have hstl:=(hw9.csz c (List.mem_of_getElem? hc9)).2
 have hT9H:=Hid.mk hT9
 have h9H:=Hid.mk hI9
 clear hT9 hcan9 hB9 hA9 hb9 hwt9 hst9 hI9 ht hc hw hiv
 cases hcn2:cn with
 | false =>
   obtain ⟨is,hIs,_⟩:=stop_ok h9H.out ht9 (by rw [hT9H.out.st1];decide) hT9H.out.wt (by omega) (by omega)
   have hwS:=hIs.wf
   clear hIs hSok
   refine goF ?_
   refine ift_ ?_ rfl (by simp +decide only [go_sem, *]<;>rfl)
   refine goF ?_
   refine ARun.p1 rfl rfl (pl_callR hw9 hwS (T:=[stB st]) is rfl (by simp +decide only [go_sem, *]<;>rfl) (by simp +decide only [go_sem, *]<;>rfl) (rfRi _) (.pu (Pu.tup (by simp)))) ?_
   refine goF ?_
   exact .runV [stB st] hwS (vs:=[]) (by show resVals _ _ []=_;simp +decide only [resVals,resVal,ldPtr,ldE,go_sem, *]<;>rfl) rfl rfl (.pu (Pu.tup (by simp)))
 | true =>
   have hS:=hSok hcn2
   have hstp:=step_ok hmm hS (time:=s.turns.length)
   have hR:=stepF_iv hS (time:=s.turns.length)
   obtain ⟨r,hr⟩:∃r,r=stepF s9 n j t9 c st s.turns.length:=⟨_,rfl⟩
   rw [← hr] at hstp hR ⊢
   obtain ⟨rb,s10⟩:=r
   simp only at hstp
   have hw10:=hR.iv.wf
   have hRH:=Hid.mk hR
   have hrH:=Hid.mk hr
   clear hS hSok hR hr hcn2
   refine goF ?_
   refine iff_ ?_ rfl (by simp +decide only [go_sem, *]<;>rfl)
   refine goF ?_
   have hwr:IntKind.i64.wrap ((c.code.steps.length:Int)-1)=(c.code.steps.length:Int)-1:=wrap_id (by omega) (by omega)
   refine drA (k:=12) follows (hr:=?_)
   refine goF ?_
   refine ARun.p1 rfl rfl (pl_callRM hw9 hw10 (T:=[stB st]) hstp (.inr (by simp +decide only [go_sem, *]<;>rfl)) rfl (by simp +decide only [go_sem, *]<;>rfl) (by simp +decide only [go_sem, *]<;>rfl) (by
    intro a ha
    simp only [List.mem_cons,List.not_mem_nil,or_false] at ha
    rcases ha with rfl|rfl|rfl|rfl|rfl
    ·exact .ptr ixl_rn
    ·exact .pu (.base _)
    ·exact .pu (Pu_encS _)
    ·exact .ptr k1
    ·exact .pu (.base _)) (.pu (.base _))) ?_
   refine goF ?_
   cases rb with
   | false =>
     refine ift_ ?_ rfl (by simp +decide only [go_sem, *]<;>rfl)
     refine goF ?_
     exact .runV [stB st] hw10 (vs:=[]) (by show resVals _ _ []=_;simp +decide only [resVals,resVal,ldPtr,ldE,go_sem, *]<;>rfl) rfl rfl (.pu (Pu.tup (by simp)))
   | true =>
     obtain ⟨t10,c10,r1,r2,r3,r4,r5,r6,r7,r8,r9,r10⟩:=hRH.out.go rfl
     have hI10:=Hid.mk hRH.out.iv
     obtain ⟨s11,hs11⟩:∃s11,s11=if 0≤c.actor∧st.op≠12∧st.op≠9∧c.pc≠(c.code.steps.length:Int)-1 then hasS s10 n c.actor else s10:=⟨_,rfl⟩
     have hC11:∃t11,Cs s10 n t10 0 s11 t11:=by
      rw [hs11]
      split
      ·refine ⟨{ t10 with has:=c.actor },?_⟩
       unfold hasS;rw [tkAt_eq r1]
       exact Cs.tset hI10.out r1 ⟨rfl,rfl,rfl,rfl⟩ ⟨rfl,rfl,rfl,rfl,rfl⟩ (hI10.out.wf.tsk t10 (List.mem_of_getElem? r1)).2.2.1 (.inl rfl)
      ·exact ⟨t10,Cs.refl hI10.out r1⟩
     have hset:=HH_tset (t':={ t10 with has:=c.actor }) r1 g1 rfl rfl rfl
     have hhas:s10.tset n { t10 with has:=c.actor }=hasS s10 n c.actor:=by unfold hasS;rw [tkAt_eq r1]
     rw [hhas] at hset
     have r2':=Hid.mk r2
     have r3':=Hid.mk r3
     have r4':=Hid.mk r4
     have r5':=Hid.mk r5
     have r6':=Hid.mk r6
     have r8':=Hid.mk r8
     have r9':=Hid.mk r9
     have hX:turnG s10 n j c st=goOnF (settleF (n+1)) s11 n j:=by unfold turnG;rw [hs11]
     simp only [Bool.true_eq_false,if_false]
     rw [hX]
     clear r2 r3 r4 r5 r6 r8 r9 hhas hX
     have hs11H:=Hid.mk hs11
     simp only [tskB,behV] at hset
     refine AWp.join ⟨[(0,ptR),(1,.int n),(4,ptK n),(5,.ptr NN 1 0 0),(6,ptC j),(13,.bool (decide (c.pc=(c.code.steps.length:Int)-1)))],HH s10++[stB st]⟩ ?_ ?_
     ·refine iff_ ?_ rfl (by simp +decide only [go_sem, *]<;>rfl)
      refine goF ?_
      exact .wf
     refine AWp.seq ?_
     refine AWp.join ⟨[(0,ptR),(1,.int n),(6,ptC j)],HH s11++[stB st]⟩ ?_ ?_
     ·by_cases ha:0≤c.actor
      ·have hd1:decide (c.actor≥0)=true:=by simp [ha]
       by_cases h12:st.op=12
       ·have hd2:(st.op != 12)=false:=by simp [h12]
        have e11:s11=s10:=by rw [hs11,if_neg (fun e=>e.2.1 h12)]
        rw [e11]
        clear hs11 h12
        refine goF ?_
        refine iff_ ?_ rfl (by simp +decide only [go_sem, *]<;>rfl)
        refine goF ?_
        exact .wf
       ·have hd2:(st.op != 12)=true:=by simp [h12]
        by_cases h9:st.op=9
        ·have hd3:(st.op != 9)=false:=by simp [h9]
         have e11:s11=s10:=by rw [hs11,if_neg (fun e=>e.2.2.1 h9)]
         rw [e11]
         clear hs11 h9 h12
         refine goF ?_
         refine iff_ ?_ rfl (by simp +decide only [go_sem, *]<;>rfl)
         refine goF ?_
         exact .wf
        ·have hd3:(st.op != 9)=true:=by simp [h9]
         by_cases hl:c.pc=(c.code.steps.length:Int)-1
         ·have hd4:decide (c.pc=(c.code.steps.length:Int)-1)=true:=by simp [hl]
          have e11:s11=s10:=by rw [hs11,if_neg (fun e=>e.2.2.2 hl)]
          rw [e11]
          clear hs11 h9 h12 hl
          refine goF ?_
          refine iff_ ?_ rfl (by simp +decide only [go_sem, *]<;>rfl)
          refine goF ?_
          exact .wf
         ·have hd4:decide (c.pc=(c.code.steps.length:Int)-1)=false:=by simp [hl]
          have e11:s11=hasS s10 n c.actor:=by rw [hs11,if_pos ⟨ha,h12,h9,hl⟩]
          rw [← e11] at hset
          clear hs11 h9 h12 hl e11
          refine goF ?_
          refine ift_ ?_ rfl (by simp +decide only [go_sem, *]<;>rfl)
          refine goF ?_
          exact .wf (hH:=by simp +decide only [go_sem, *]<;>rfl)
      ·have hd1:decide (c.actor≥0)=false:=by simp;omega
       have e11:s11=s10:=by rw [hs11,if_neg (fun e=>ha e.1)]
       rw [e11]
       clear hs11
       refine goF ?_
       refine iff_ ?_ rfl (by simp +decide only [go_sem, *]<;>rfl)
       refine goF ?_
       exact .wf
     clear hs11 hset
     obtain ⟨t11,hC11'⟩:=hC11
     obtain ⟨w1,w2,w3,w4⟩:=hC11'.tsa
     obtain ⟨v1,v2,v3,v4,v5⟩:=hC11'.tst
     have hI11:=hC11'.iv
     have ht11:=hC11'.tk
     have hc11:s11.calls[j]?=some c10:=by rw [hC11'.calls];exact r7
     have h1001:1001*(n+1)≤40000:=Nat.le_trans (Nat.mul_le_mul_left 1001 (show n+1≤33 by omega)) (by decide)
     have hpl:=hC11'.pl
     have hpl10:=hRH.out.pl
     have hbl10:=hRH.out.bl
     simp only at hpl10 hbl10
     have hP11:s11.pool.length+1001*(n+1)≤MM:=by
      obtain ⟨F,hF⟩:∃F,F=1001*(n+1):=⟨_,rfl⟩
      rw [← hF] at h1001 ⊢
      omega
     have hB11:s11.behs.length+(n+1)≤MM:=by rw [hC11'.behs];omega
     have hst11:t11.state<3:=by rw [v1,r4'.out];decide
     have hwt11:t11.waits<0:=by rw [v3,r6'.out];exact hT9H.out.wt
     have htp11:t11.sarr[t11.slen-1]?=some j:=by rw [w1,w2,r2'.out,r3'.out];exact htp
     have hp11:c10.pc<c10.code.steps.length:=by rw [r8'.out,r9'.out];exact hpcl
     have hG:=goOnF_walk (settleF_iv (n+1)) (settleF_walk (n+1)) hI11 ht11 (Nat.lt_succ_self n) hst11 hwt11 htp11 hc11 hp11 hP11 hB11
     have hGi:=(goOnF_iv (settleF_iv (n+1)) hI11 ht11 hst11 hwt11 htp11 hc11 hp11 hP11 hB11).1
     obtain ⟨R,hR⟩:∃R,R=goOnF (settleF (n+1)) s11 n j:=⟨_,rfl⟩
     rw [← hR] at hG hGi ⊢
     have hwR:=hGi.wf
     have hw11:=hI11.wf
     clear hGi hR hP11 hB11 hp11 htp11 hwt11 hst11 hI11 hC11' ht11 hc11
     refine goF ?_
     refine ARun.p1 rfl rfl (pl_callR hw11 hwR (T:=[stB st]) hG rfl (by simp +decide only [go_sem, *]<;>rfl) (by simp +decide only [go_sem, *]<;>rfl) (by
      intro a ha
      simp only [List.mem_cons,List.not_mem_nil,or_false] at ha
      rcases ha with rfl|rfl|rfl
      ·exact .ptr ixl_rn
      ·exact .pu (.base _)
      ·exact .ptr k1) (.pu (Pu.tup (by simp)))) ?_
     refine goF ?_
     exact .runV [stB st] hwR (vs:=[]) (by show resVals _ _ []=_;simp +decide only [resVals,resVal,ldPtr,ldE,go_sem, *]<;>rfl) rfl rfl (.pu (Pu.tup (by simp)))
end Go.Ab
