/- The library's text of strconv.Itoa, laid at this program. -/
import Derived.Shelf.Strconv.Itoa3
import Derived.Test.YthgicbkdckpeaaaDoorG21
import Derived.Test.YthgicbkdckpeaaaDoorG14
import Derived.Test.YthgicbkdckpeaaaDoorG12
set_option linter.unusedSimpArgs false
set_option linter.unusedVariables false
set_option maxHeartbeats 4000000
namespace Go.Ab
open Go Go.Ab Go.Proofs Go.Ab.Ty
theorem step_b {s:PRun} (h:Iv s) {n j:Nat} {t:PTask} {c:PCall} {vn wn o:Nat} {x:Int × Int} {nn tk:Int} {vs:List Int} {time:Int} (ht:s.tasks[n]?=some t) (hc:s.calls[j]?=some c) (hac:-1≤c.actor∧c.actor≤1000) (hv:c.vars[wn]?=some (o:Int)) (hvn:vn<c.vars.length) (hx2:0≤x.2) (ho:s.objs[o]?=some x) (hac2:s.accs.length≤900000) :
 FnH Tryd.prog 91 [ptR,.int n,encS ⟨2,vn,wn,nn,tk,vs⟩,ptC j,.int time] (HH s) (.bool true) (HH ((s.addA ⟨whoF c n,o,false,time⟩).cset j { c with vars:=c.vars.set vn x.2 })):=by
 have hw:=h.wf
 obtain ⟨g1,g2,g3,g4,hn,g6⟩:=hw.k ht
 obtain ⟨k1,k2⟩:=hw.c hc
 have hlen:=HH_len s
 refine FnH.intro' [(0,ptR),(1,.int n),(2,encS ⟨2,vn,wn,nn,tk,vs⟩),(3,ptC j),(4,.int time)] 5 372 NN Tryd.func91 (by kernel_rfl) rfl rfl rfl rfl rfl (HH_len s) ?_
 refine goF ?_
 refine ARun.q1 rfl rfl (ql_ixo (n:=n) (b:=ix .tk) (by simp +decide only [go_sem, *]<;>rfl) (by simp +decide only [go_sem, *]<;>rfl) Tryd.underlying80 (by simp +decide only [go_sem, *]<;>rfl) (by simp) hn (by simp +decide only [go_sem, *]<;>rfl)) ?_
 refine goF ?_
 refine AWp.join ⟨[(1,.int n),(3,ptC j),(5,.ptr NN 1 0 0),(7,.ptr (NN+1) 1 0 0),(9,.ptr (NN+2) 1 0 0),(12,.ptr (NN+3) 1 0 0),(11,ptK n),(10,.bool false)],HH s++stT ⟨2,vn,wn,nn,tk,vs⟩ time (whoF c n)⟩ ?_ ?_
 ·by_cases ha:0≤c.actor
  ·have hd:decide (c.actor≥0)=true:=by simp [ha]
   have hwr:IntKind.i64.wrap (-1-c.actor) = -1-c.actor:=wrap_id (by omega) (by omega)
   have hwf:whoF c n = -1-c.actor:=if_pos ha
   refine ift_ ?_ rfl (by simp +decide only [go_sem, *]<;>rfl)
   refine goF ?_
   rw [hwf]
   exact .wf (hH:=by show (HH s++_).set (NN+3) _=_;rw [app_setT (HH_len s)];rfl)
  ·have hd:decide (c.actor≥0)=false:=by simp;omega
   have hwf:whoF c n=n:=if_neg ha
   refine iff_ ?_ rfl (by simp +decide only [go_sem, *]<;>rfl)
   refine goF ?_
   rw [hwf]
   exact .wf
 obtain ⟨who,hwho⟩:∃who,who=whoF c n:=⟨_,rfl⟩
 rw [← hwho]
 clear hwho
 have hvv:=vrsV_own (j:=j) hv
 have hvm:(c.vars.map AV.int)[wn]?=some (.int o):=by rw [List.getElem?_map,hv];rfl
 have hvl:wn<c.vars.length:=(List.getElem?_eq_some_iff.1 hv).1
 have is:=step1_ok (s:=s) (st:=⟨2,vn,wn,nn,tk,vs⟩) (time:=time) (who:=who) (o:=o) (w:=false) hac2
 refine goF ?_
 refine iff_ ?_ rfl (by simp +decide only [go_sem, *]<;>rfl)
 refine goF ?_
 refine ift_ ?_ rfl (by simp +decide only [go_sem, *]<;>rfl)
 refine goF ?_
 refine drA (k:=6) follows (hr:=?_)
 refine goF ?_
 refine ARun.q1 rfl rfl (ql_ixo (n:=wn) (b:=ix (.vrs j)) (by simp +decide only [go_sem, *]<;>rfl) (by simp +decide only [go_sem, *]<;>rfl) Tryd.underlying25 (by simp +decide only [go_sem, *]<;>rfl) (by simp) hvl (by simp +decide only [go_sem, *]<;>rfl)) ?_
 refine goF ?_
 refine ARun.p1 rfl rfl (pl_callW (caps:=[.ptr NN 1 0 0,.ptr (NN+3) 1 0 0,.ptr (NN+2) 1 0 0]) is (by simp [HH_len]) rfl (by simp +decide only [go_sem,List.map]) (by simp +decide only [go_sem, *]<;>rfl)) ?_
 obtain ⟨s1,hs1⟩:∃s1,s1=s.addA ⟨who,o,false,time⟩:=⟨_,rfl⟩
 have hs1':Hid (s.addA ⟨who,o,false,time⟩=s1):=⟨hs1.symm⟩
 have hc1:s1.calls[j]?=some c:=by rw [hs1];exact hc
 have ho1:s1.objs[o]?=some x:=by rw [hs1];exact ho
 have hw1:WF s1:=by rw [hs1];exact (h.addA _ (by omega)).wf
 clear hs1 is
 rw [hs1'.out]
 have hol:o<s1.objs.length:=(List.getElem?_eq_some_iff.1 ho1).1
 have hom:(s1.objs.map encO)[o]?=some (encO x):=by rw [List.getElem?_map,ho1];rfl
 refine goF ?_
 refine ARun.q1 rfl rfl (ql_ixo (n:=o) (b:=ix .ob) (by simp +decide only [go_sem, *]<;>rfl) (by simp +decide only [go_sem, *]<;>rfl) Tryd.underlying79 (by simp +decide only [go_sem, *]<;>rfl) (by simp) hol (by simp +decide only [go_sem, *]<;>rfl)) ?_
 refine goF ?_
 have hd:decide (x.2<0)=false:=by simp;omega
 refine iff_ ?_ rfl (by simp +decide only [go_sem, *]<;>rfl)
 refine goF ?_
 obtain ⟨z,hz⟩:∃z,c.vars[vn]?=some z:=⟨_,List.getElem?_eq_getElem hvn⟩
 have hset:=HH_vset (s:=s1) (c':={ c with vars:=c.vars.set vn x.2 }) hc1 k2 (by simp) rfl
 have hwZ:=hw1.cset (j:=j) (c:={ c with vars:=c.vars.set vn x.2 }) (by simp;exact (hw.csz c (List.mem_of_getElem? hc)).1) (hw.csz c (List.mem_of_getElem? hc)).2
 refine drA (k:=14) follows (hr:=?_)
 refine goF ?_
 refine ARun.q1 rfl rfl (ql_ixo (n:=o) (b:=ix .ob) (by simp +decide only [go_sem, *]<;>rfl) (by simp +decide only [go_sem, *]<;>rfl) Tryd.underlying79 (by simp +decide only [go_sem, *]<;>rfl) (by simp) hol (by simp +decide only [go_sem, *]<;>rfl)) ?_
 refine goF ?_
 refine ARun.q1 rfl rfl (ql_ixo (n:=vn) (b:=ix (.vrs j)) (by simp +decide only [go_sem, *]<;>rfl) (by simp +decide only [go_sem, *]<;>rfl) Tryd.underlying25 (by simp +decide only [go_sem, *]<;>rfl) (by simp) hvn (by simp +decide only [go_sem, *]<;>rfl)) ?_
 refine ARun.p1 rfl rfl (pl_store_own (f:=AV.int) (l:=c.vars) (b:=ix (.vrs j)) (tot:=c.vars.length) (i:=vn) (ty:=3) (sz:=1) x.2 (by simp +decide only [go_sem, *]<;>rfl) (by simp +decide only [go_sem, *]<;>rfl) (by simp +decide only [go_sem, *]<;>rfl) rfl hvn sz3 rfl rfl) ?_
 refine goF ?_
 exact .runV (stT ⟨2,vn,wn,nn,tk,vs⟩ time who) hwZ (vs:=[.bool true]) (by show resVals _ _ [.tmp 10]=_;simp +decide only [resVals,resVal,ldPtr,ldE,go_sem, *]<;>rfl) rfl rfl (.pu (.base _))
end Go.Ab
set_option maxHeartbeats 4000000
namespace Go.Ab
open Go Go.Ab Go.Proofs Go.Ab.Ty
theorem step_b2 {s:PRun} (h:Iv s) {n j:Nat} {t:PTask} {c:PCall} {vn wn o:Nat} {x:Int × Int} {nn tk:Int} {vs:List Int} {time:Int} (ht:s.tasks[n]?=some t) (hc:s.calls[j]?=some c) (hac:-1≤c.actor∧c.actor≤1000) (hv:c.vars[wn]?=some (o:Int)) (hvn:vn<c.vars.length) (hx2:x.2<0) (hob:s.objs.length≤900000) (ho:s.objs[o]?=some x) (hac2:s.accs.length≤800000) :
 FnH Tryd.prog 91 [ptR,.int n,encS ⟨2,vn,wn,nn,tk,vs⟩,ptC j,.int time] (HH s) (.bool true) (HH (((((s.addA ⟨whoF c n,o,false,time⟩).mkO 0).setO o (x.1,s.objs.length)).addA ⟨whoF c n,o,true,time⟩).cset j { c with vars:=c.vars.set vn s.objs.length })):=by
 have hw:=h.wf
 obtain ⟨g1,g2,g3,g4,hn,g6⟩:=hw.k ht
 obtain ⟨k1,k2⟩:=hw.c hc
 have hlen:=HH_len s
 refine FnH.intro' [(0,ptR),(1,.int n),(2,encS ⟨2,vn,wn,nn,tk,vs⟩),(3,ptC j),(4,.int time)] 5 372 NN Tryd.func91 (by kernel_rfl) rfl rfl rfl rfl rfl (HH_len s) ?_
 refine goF ?_
 refine ARun.q1 rfl rfl (ql_ixo (n:=n) (b:=ix .tk) (by simp +decide only [go_sem, *]<;>rfl) (by simp +decide only [go_sem, *]<;>rfl) Tryd.underlying80 (by simp +decide only [go_sem, *]<;>rfl) (by simp) hn (by simp +decide only [go_sem, *]<;>rfl)) ?_
 refine goF ?_
 refine AWp.join ⟨[(1,.int n),(3,ptC j),(5,.ptr NN 1 0 0),(7,.ptr (NN+1) 1 0 0),(9,.ptr (NN+2) 1 0 0),(12,.ptr (NN+3) 1 0 0),(11,ptK n),(10,.bool false)],HH s++stT ⟨2,vn,wn,nn,tk,vs⟩ time (whoF c n)⟩ ?_ ?_
 ·by_cases ha:0≤c.actor
  ·have hd:decide (c.actor≥0)=true:=by simp [ha]
   have hwr:IntKind.i64.wrap (-1-c.actor) = -1-c.actor:=wrap_id (by omega) (by omega)
   have hwf:whoF c n = -1-c.actor:=if_pos ha
   refine ift_ ?_ rfl (by simp +decide only [go_sem, *]<;>rfl)
   refine goF ?_
   rw [hwf]
   exact .wf (hH:=by show (HH s++_).set (NN+3) _=_;rw [app_setT (HH_len s)];rfl)
  ·have hd:decide (c.actor≥0)=false:=by simp;omega
   have hwf:whoF c n=n:=if_neg ha
   refine iff_ ?_ rfl (by simp +decide only [go_sem, *]<;>rfl)
   refine goF ?_
   rw [hwf]
   exact .wf
 obtain ⟨who,hwho⟩:∃who,who=whoF c n:=⟨_,rfl⟩
 rw [← hwho]
 clear hwho
 have hvv:=vrsV_own (j:=j) hv
 have hvm:(c.vars.map AV.int)[wn]?=some (.int o):=by rw [List.getElem?_map,hv];rfl
 have hvl:wn<c.vars.length:=(List.getElem?_eq_some_iff.1 hv).1
 have is:=step1_ok (s:=s) (st:=⟨2,vn,wn,nn,tk,vs⟩) (time:=time) (who:=who) (o:=o) (w:=false) (by omega)
 refine goF ?_
 refine iff_ ?_ rfl (by simp +decide only [go_sem, *]<;>rfl)
 refine goF ?_
 refine ift_ ?_ rfl (by simp +decide only [go_sem, *]<;>rfl)
 refine goF ?_
 refine drA (k:=6) follows (hr:=?_)
 refine goF ?_
 refine ARun.q1 rfl rfl (ql_ixo (n:=wn) (b:=ix (.vrs j)) (by simp +decide only [go_sem, *]<;>rfl) (by simp +decide only [go_sem, *]<;>rfl) Tryd.underlying25 (by simp +decide only [go_sem, *]<;>rfl) (by simp) hvl (by simp +decide only [go_sem, *]<;>rfl)) ?_
 refine goF ?_
 refine ARun.p1 rfl rfl (pl_callW (caps:=[.ptr NN 1 0 0,.ptr (NN+3) 1 0 0,.ptr (NN+2) 1 0 0]) is (by simp [HH_len]) rfl (by simp +decide only [go_sem,List.map]) (by simp +decide only [go_sem, *]<;>rfl)) ?_
 obtain ⟨s1,hs1⟩:∃s1,s1=s.addA ⟨who,o,false,time⟩:=⟨_,rfl⟩
 have hs1':Hid (s.addA ⟨who,o,false,time⟩=s1):=⟨hs1.symm⟩
 have hc1:s1.calls[j]?=some c:=by rw [hs1];exact hc
 have ho1:s1.objs[o]?=some x:=by rw [hs1];exact ho
 have hw1:WF s1:=by rw [hs1];exact (h.addA _ (by omega)).wf
 clear hs1 is
 rw [hs1'.out]
 have hol:o<s1.objs.length:=(List.getElem?_eq_some_iff.1 ho1).1
 have hom:(s1.objs.map encO)[o]?=some (encO x):=by rw [List.getElem?_map,ho1];rfl
 refine goF ?_
 refine ARun.q1 rfl rfl (ql_ixo (n:=o) (b:=ix .ob) (by simp +decide only [go_sem, *]<;>rfl) (by simp +decide only [go_sem, *]<;>rfl) Tryd.underlying79 (by simp +decide only [go_sem, *]<;>rfl) (by simp) hol (by simp +decide only [go_sem, *]<;>rfl)) ?_
 refine goF ?_
 have hd:decide (x.2<0)=true:=by simp;omega
 have hlO:s1.objs.length=s.objs.length:=by rw [← hs1'.out];rfl
 have hac1:s1.accs.length≤800001:=by rw [← hs1'.out];simp [PRun.addA];omega
 refine ift_ ?_ rfl (by simp +decide only [go_sem, *]<;>rfl)
 refine goF ?_
 have hwO:WF (s1.mkO 0):=hw1.mkO 0 (by omega)
 refine ARun.p1 rfl rfl (pl_callR hw1 hwO (T:=stT ⟨2,vn,wn,nn,tk,vs⟩ time who) (object_ok hw1 0 (by omega)) rfl (by simp +decide only [go_sem, *]<;>rfl) (by simp +decide only [go_sem, *]<;>rfl) (rfRi _) (.pu (.base _))) ?_
 rw [hlO]
 have hlO':Hid (s1.objs.length=s.objs.length):=⟨hlO⟩
 clear hlO
 obtain ⟨s2,hs2⟩:∃s2,s2=s1.mkO 0:=⟨_,rfl⟩
 have hs2':Hid (s1.mkO 0=s2):=⟨hs2.symm⟩
 have hc2:s2.calls[j]?=some c:=by rw [hs2];exact hc1
 have ho2:s2.objs[o]?=some x:=by rw [hs2];show (s1.objs++[(0,-1)])[o]?=_;rw [List.getElem?_append_left hol];exact ho1
 have hw2:WF s2:=by rw [hs2];exact hwO
 have hl2:Hid (s2.objs.length=s.objs.length+1):=⟨by rw [hs2];show (s1.objs++[(0,-1)]).length=_;rw [List.length_append,hlO'.out];rfl⟩
 clear hs2 hwO
 rw [hs2'.out]
 have hol2:o<s2.objs.length:=(List.getElem?_eq_some_iff.1 ho2).1
 have hom2:(s2.objs.map encO)[o]?=some (encO x):=by rw [List.getElem?_map,ho2];rfl
 have e1:=HH_setO (s:=s2) (o:=o) (x:=(x.1,(s.objs.length:Int)))
 rw [List.map_set] at e1
 clear ho1 hom hol hc1
 refine goF ?_
 refine ARun.q1 rfl rfl (ql_ixo (n:=o) (b:=ix .ob) (by simp +decide only [go_sem, *]<;>rfl) (by simp +decide only [go_sem, *]<;>rfl) Tryd.underlying79 (by simp +decide only [go_sem, *]<;>rfl) (by simp) hol2 (by simp +decide only [go_sem, *]<;>rfl)) ?_
 refine goF ?_
 refine ARun.p1 rfl rfl (pl_store (b:=ix .ob) (tot:=s2.objs.length) (i:=o) (off:=1) (blk:=⟨157,2,s2.objs.map encO⟩) (v:=.int s.objs.length) (by simp +decide only [go_sem, *]<;>rfl) (by simp +decide only [go_sem, *]<;>rfl) (by simp +decide only [go_sem, *]<;>rfl) (by simp) hom2 sz3 rfl rfl) ?_
 obtain ⟨s3,hs3⟩:∃s3,s3=s2.setO o (x.1,(s.objs.length:Int)):=⟨_,rfl⟩
 rw [← hs3] at e1
 have hs3':Hid (s2.setO o (x.1,(s.objs.length:Int))=s3):=⟨hs3.symm⟩
 have hc3:s3.calls[j]?=some c:=by rw [hs3];exact hc2
 have ho3:s3.objs[o]?=some (x.1,(s.objs.length:Int)):=by rw [hs3];show (s2.objs.set o _)[o]?=_;rw [List.getElem?_set_self hol2]
 have hw3:WF s3:=by
  rw [hs3]
  exact ⟨hw2.1,hw2.2,hw2.3,hw2.4,hw2.5,hw2.6,hw2.7,hw2.8,hw2.9,hw2.10,hw2.11,by
   obtain ⟨a1,a2⟩:=hw2.12
   exact ⟨by simp only [PRun.setO,List.length_set];exact a1,a2⟩,hw2.13,hw2.14⟩
 have hac3:s3.accs.length≤800001:=by rw [hs3,← hs2'.out];exact hac1
 have is2:=step1_ok (s:=s3) (st:=⟨2,vn,wn,nn,tk,vs⟩) (time:=time) (who:=who) (o:=o) (w:=true) (by omega)
 clear hs3 ho2 hom2 hol2 hc2 hac1
 rw [hs3'.out]
 refine goF ?_
 refine ARun.p1 rfl rfl (pl_callW (caps:=[.ptr NN 1 0 0,.ptr (NN+3) 1 0 0,.ptr (NN+2) 1 0 0]) is2 (by simp [HH_len]) rfl (by simp +decide only [go_sem,List.map]) (by simp +decide only [go_sem, *]<;>rfl)) ?_
 obtain ⟨s4,hs4⟩:∃s4,s4=s3.addA ⟨who,o,true,time⟩:=⟨_,rfl⟩
 have hs4':Hid (s3.addA ⟨who,o,true,time⟩=s4):=⟨hs4.symm⟩
 have hc4:s4.calls[j]?=some c:=by rw [hs4];exact hc3
 have ho4:s4.objs[o]?=some (x.1,(s.objs.length:Int)):=by rw [hs4];exact ho3
 have hw4:WF s4:=by
  rw [hs4]
  exact ⟨hw3.1,hw3.2,hw3.3,hw3.4,hw3.5,hw3.6,hw3.7,hw3.8,hw3.9,hw3.10,hw3.11,by
   obtain ⟨a1,a2,a3,a4⟩:=hw3.12
   exact ⟨a1,a2,by simp [PRun.addA];omega,a4⟩,hw3.13,hw3.14⟩
 clear hs4 is2 ho3 hc3 e1
 rw [hs4'.out]
 have hol4:o<s4.objs.length:=(List.getElem?_eq_some_iff.1 ho4).1
 have hom4:(s4.objs.map encO)[o]?=some (encO (x.1,(s.objs.length:Int))):=by rw [List.getElem?_map,ho4];rfl
 refine goF ?_
 obtain ⟨z,hz⟩:∃z,c.vars[vn]?=some z:=⟨_,List.getElem?_eq_getElem hvn⟩
 have hset:=HH_vset (s:=s4) (c':={ c with vars:=c.vars.set vn (s.objs.length:Int) }) hc4 k2 (by simp) rfl
 have hwZ:=hw4.cset (j:=j) (c:={ c with vars:=c.vars.set vn (s.objs.length:Int) }) (by simp;exact (hw.csz c (List.mem_of_getElem? hc)).1) (hw.csz c (List.mem_of_getElem? hc)).2
 refine drA (k:=14) follows (hr:=?_)
 refine goF ?_
 refine ARun.q1 rfl rfl (ql_ixo (n:=o) (b:=ix .ob) (by simp +decide only [go_sem, *]<;>rfl) (by simp +decide only [go_sem, *]<;>rfl) Tryd.underlying79 (by simp +decide only [go_sem, *]<;>rfl) (by simp) hol4 (by simp +decide only [go_sem, *]<;>rfl)) ?_
 refine goF ?_
 refine ARun.q1 rfl rfl (ql_ixo (n:=vn) (b:=ix (.vrs j)) (by simp +decide only [go_sem, *]<;>rfl) (by simp +decide only [go_sem, *]<;>rfl) Tryd.underlying25 (by simp +decide only [go_sem, *]<;>rfl) (by simp) hvn (by simp +decide only [go_sem, *]<;>rfl)) ?_
 refine ARun.p1 rfl rfl (pl_store_own (f:=AV.int) (l:=c.vars) (b:=ix (.vrs j)) (tot:=c.vars.length) (i:=vn) (ty:=3) (sz:=1) (s.objs.length:Int) (by simp +decide only [go_sem, *]<;>rfl) (by simp +decide only [go_sem, *]<;>rfl) (by simp +decide only [go_sem, *]<;>rfl) rfl hvn sz3 rfl rfl) ?_
 refine goF ?_
 exact .runV (stT ⟨2,vn,wn,nn,tk,vs⟩ time who) hwZ (vs:=[.bool true]) (by show resVals _ _ [.tmp 10]=_;simp +decide only [resVals,resVal,ldPtr,ldE,go_sem, *]<;>rfl) rfl rfl (.pu (.base _))
end Go.Ab
namespace Go.Ab
open Go Go.Proofs Go.Shelf Go.RowKit
def renI:Go.Shelf.Ren:=⟨fun|171=>114|243=>125|246=>127|283=>128|284=>129|285=>130|286=>131|129=>133|317=>132|318=>134|319=>135|320=>136|337=>137|338=>138|n=>n,fun|37=>167|46=>106|51=>178|53=>171|171=>170|173=>174|212=>177|213=>179|232=>182|233=>183|n=>n,fun|17=>0|18=>1|19=>2|n=>n⟩
theorem laysI:LaysM.n171 Tryd.prog renI:={
 mixed:=by kernel_rfl
 f129:=Tryd.func133.trans (by kernel_rfl)
 f171:=Tryd.func114.trans (by kernel_rfl)
 f243:=Tryd.func125.trans (by kernel_rfl)
 f246:=Tryd.func127.trans (by kernel_rfl)
 f283:=Tryd.func128.trans (by kernel_rfl)
 f284:=Tryd.func129.trans (by kernel_rfl)
 f285:=Tryd.func130.trans (by kernel_rfl)
 f286:=Tryd.func131.trans (by kernel_rfl)
 f317:=Tryd.func132.trans (by kernel_rfl)
 f318:=Tryd.func134.trans (by kernel_rfl)
 f319:=Tryd.func135.trans (by kernel_rfl)
 f320:=Tryd.func136.trans (by kernel_rfl)
 f337:=Tryd.func137.trans (by kernel_rfl)
 f338:=Tryd.func138.trans (by kernel_rfl)
 t0:=Tryd.underlying0
 a0:=Tryd.isAgg0
 z0:=Tryd.sizeOf0
 v0:=Tryd.zeroValue0
 t2:=Tryd.underlying2
 a2:=Tryd.isAgg2
 z2:=Tryd.sizeOf2
 v2:=Tryd.zeroValue2
 t3:=Tryd.underlying3
 a3:=Tryd.isAgg3
 z3:=Tryd.sizeOf3
 v3:=Tryd.zeroValue3
 t4:=Tryd.underlying4
 a4:=Tryd.isAgg4
 z4:=Tryd.sizeOf4
 v4:=Tryd.zeroValue4
 t5:=Tryd.underlying5
 a5:=Tryd.isAgg5
 z5:=Tryd.sizeOf5
 v5:=Tryd.zeroValue5
 t9:=Tryd.underlying9
 a9:=Tryd.isAgg9
 z9:=Tryd.sizeOf9
 v9:=Tryd.zeroValue9
 t20:=Tryd.underlying20
 a20:=Tryd.isAgg20
 z20:=Tryd.sizeOf20
 v20:=Tryd.zeroValue20
 t37:=Tryd.underlying167
 a37:=Tryd.isAgg167
 z37:=Tryd.sizeOf167
 v37:=Tryd.zeroValue167
 t46:=Tryd.underlying106
 a46:=Tryd.isAgg106
 z46:=Tryd.sizeOf106
 v46:=Tryd.zeroValue106
 t51:=Tryd.underlying178
 a51:=Tryd.isAgg178
 z51:=Tryd.sizeOf178
 v51:=Tryd.zeroValue178
 t53:=Tryd.underlying171
 a53:=Tryd.isAgg171
 z53:=Tryd.sizeOf171
 v53:=Tryd.zeroValue171
 t171:=Tryd.underlying170
 a171:=Tryd.isAgg170
 z171:=Tryd.sizeOf170
 v171:=Tryd.zeroValue170
 t173:=Tryd.underlying174
 a173:=Tryd.isAgg174
 z173:=Tryd.sizeOf174
 v173:=Tryd.zeroValue174
 t212:=Tryd.underlying177
 a212:=Tryd.isAgg177
 z212:=Tryd.sizeOf177
 v212:=Tryd.zeroValue177
 t213:=Tryd.underlying179
 a213:=Tryd.isAgg179
 z213:=Tryd.sizeOf179
 t232:=Tryd.underlying182
 a232:=Tryd.isAgg182
 z232:=Tryd.sizeOf182
 v232:=Tryd.zeroValue182
 t233:=Tryd.underlying183
 a233:=Tryd.isAgg183
 z233:=Tryd.sizeOf183
 v233:=Tryd.zeroValue183
 g17:=by kernel_rfl
 g18:=by kernel_rfl
 g19:=by kernel_rfl
 i0:=by kernel_rfl
 i2:=by kernel_rfl
 i3:=by kernel_rfl
 i4:=by kernel_rfl
 i5:=by kernel_rfl
 i9:=by kernel_rfl
 i20:=by kernel_rfl
 i37:=by kernel_rfl
 i46:=by kernel_rfl
 i51:=by kernel_rfl
 i53:=by kernel_rfl
 i171:=by kernel_rfl
 i173:=by kernel_rfl
 i212:=by kernel_rfl
 i232:=by kernel_rfl
 i233:=by kernel_rfl
 m17:=by kernel_rfl
 m18:=by kernel_rfl
 m19:=by kernel_rfl }
end Go.Ab
namespace Go.Ab
open Go Go.Proofs Go.Shelf Go.RowKit
def TabM (m:List (Nat × Obj)):Prop:=∃ty fz,m=[(0,.cells (Lib.pow10Tab.map fun z=>Value.int .u64 z).toArray ty fz)]
theorem TabM.is {m:List (Nat × Obj)} (hm:TabM m) {w:World} (h:∀p∈m,w.heap[p.1]?=some p.2):Lib.TabIs Tryd.prog w "internal/strconv.uint64pow10" .u64 Lib.pow10Tab:=by
 obtain ⟨ty,fz,rfl⟩:=hm
 have h1:=h _ (List.mem_singleton.2 rfl)
 have h2:Tryd.prog.globalNamed "internal/strconv.uint64pow10" = some 0:=laysI.m17
 simp only at h1
 simp only [Lib.TabIs,World.var?,h2,Option.bind_some,h1]
theorem below_grow' (w:World) (k:Nat) (os:Array Obj):Below w.heap.size w (Sort.grow (w.drewN k) os):=by
 refine ⟨rfl,rfl,rfl,?_,fun j hj=>?_⟩
 ·show w.heap.size≤(w.heap++os).size
  rw [Array.size_append];omega
 ·show (w.heap++os)[j]?=_
  rw [Array.getElem?_append_left hj]
def itoaB (n:Int):ByteArray:=⟨(Lib.itoa n).toArray⟩
theorem itoa_ok {m:List (Nat × Obj)} (hm:TabM m) (n:Int) (h0:-9223372036854775808≤n) (h1:n≤9223372036854775807):FnM Tryd.prog m 114 [.int n] (.base (.string (itoaB n))):=by
 refine ⟨⟨Tryd.f114,by kernel_rfl,by kernel_rfl,by kernel_rfl⟩,fun w O vs hmm hO hl hv=>?_⟩
 have hv0:vs=#[.int .i64 n]:=by
  have h1:vs.size=1:=hl
  have h2:vs[0]?=some vs[0]:=Array.getElem?_eq_getElem (by omega)
  have h3:=(hv 0 _ _ rfl h2).base_inv
  apply Array.ext (by simp [h1])
  intro i hi1 hi2
  have:i=0:=by simp at hi2;omega
  subst this;simpa using h3
 subst hv0
 have hc:=Any.strconv_Itoa laysI n h0 h1 w (hm.is fun p hp=>(hmm p hp).2)
 refine Calls.mono (show Calls Tryd.prog 114 #[.int .i64 n] w _ from hc) ?_
 rintro e w' ⟨rfl,k,os,rfl⟩
 exact ⟨_,rfl,.base _,below_grow' w k os⟩
end Go.Ab
set_option maxHeartbeats 4000000
namespace Go.Ab
open Go Go.Ab Go.Proofs Go.Ab.Ty
def colB:ByteArray:={ data:=#[58] }
theorem nDig_le (u:Nat) (h:u<18446744073709551616):Lib.nDigits u≤20:=by
 rcases Nat.eq_zero_or_pos u with rfl|h1
 ·rw [Lib.nDigits_small (by omega)];omega
 ·have:=Lib.numDigits_eq u h1 h
  split at this<;>omega
theorem itoaB_size {n:Int} (h0:-1000000≤n) (h1:n≤1000000):(itoaB n).size≤21:=by
 show (Lib.itoa n).toArray.size≤21
 rw [List.size_toArray]
 by_cases hneg:n<0
 ·obtain ⟨u,rfl⟩:∃u:Nat,n = -(u:Int):=⟨n.natAbs,by omega⟩
  rw [Lib.itoa_neg u (by omega),List.length_cons,Lib.decDigits_length]
  have:=nDig_le u (by omega)
  omega
 ·obtain ⟨u,rfl⟩:∃u:Nat,n=u:=⟨n.toNat,by omega⟩
  rw [Lib.itoa_nonneg,Lib.decDigits_length]
  have:=nDig_le u (by omega)
  omega
def lineF (n:Nat) (x:Int):ByteArray:=itoaB n++colB++itoaB x
def PRun.addL (s:PRun) (x:ByteArray):PRun:={ s with lines:=s.lines++[x] }
theorem HH_addL {s:PRun} {x:ByteArray}:((HH s).set (ix .ln) ⟨9,1,s.lines.map (fun x=>.base (.string x))++[.base (.string x)]⟩).set (ix .rn) (rnB (s.addL x))=HH (s.addL x):=by
 refine HH_upd (s:=s) (s':=s.addL x) [(.ln,_),(.rn,_)] (upd2 ⟨ixl_ln,?_⟩ ⟨ixl_rn,rfl⟩) fun a ha=>?_
 ·simp [blk,PRun.addL]
 ·cases a<;>first|rfl|simp at ha
theorem step_d {mm:List (Nat × Obj)} (hmm:TabM mm) {s:PRun} (h:Iv s) {n j:Nat} {t:PTask} {c:PCall} {vn o:Nat} {x:Int × Int} {w nn tk:Int} {vs:List Int} {time:Int} (ht:s.tasks[n]?=some t) (hc:s.calls[j]?=some c) (hac:-1≤c.actor∧c.actor≤1000) (hv:c.vars[vn]?=some (o:Int)) (ho:s.objs[o]?=some x) (hx:-1000000≤x.1∧x.1≤1000000) (hac2:s.accs.length≤900000) (hln:s.lines.length≤900000) :
 FnHM Tryd.prog mm 91 [ptR,.int n,encS ⟨4,vn,w,nn,tk,vs⟩,ptC j,.int time] (HH s) (.bool true) (HH ((s.addA ⟨whoF c n,o,false,time⟩).addL (lineF n x.1))):=by
 have hw:=h.wf
 obtain ⟨g1,g2,g3,g4,hn,g6⟩:=hw.k ht
 obtain ⟨k1,k2⟩:=hw.c hc
 have hlen:=HH_len s
 refine FnHM.intro' [(0,ptR),(1,.int n),(2,encS ⟨4,vn,w,nn,tk,vs⟩),(3,ptC j),(4,.int time)] 5 372 NN Tryd.func91 (by kernel_rfl) rfl rfl rfl rfl rfl rfl (HH_len s) ?_
 refine goF ?_
 refine ARun.q1 rfl rfl (ql_ixo (n:=n) (b:=ix .tk) (by simp +decide only [go_sem, *]<;>rfl) (by simp +decide only [go_sem, *]<;>rfl) Tryd.underlying80 (by simp +decide only [go_sem, *]<;>rfl) (by simp) hn (by simp +decide only [go_sem, *]<;>rfl)) ?_
 refine goF ?_
 refine AWp.join ⟨[(1,.int n),(3,ptC j),(5,.ptr NN 1 0 0),(7,.ptr (NN+1) 1 0 0),(9,.ptr (NN+2) 1 0 0),(12,.ptr (NN+3) 1 0 0),(11,ptK n),(10,.bool false),(memSlot,.mem mm)],HH s++stT ⟨4,vn,w,nn,tk,vs⟩ time (whoF c n)⟩ ?_ ?_
 ·by_cases ha:0≤c.actor
  ·have hd:decide (c.actor≥0)=true:=by simp [ha]
   have hwr:IntKind.i64.wrap (-1-c.actor) = -1-c.actor:=wrap_id (by omega) (by omega)
   have hwf:whoF c n = -1-c.actor:=if_pos ha
   refine ift_ ?_ rfl (by simp +decide only [go_sem, *]<;>rfl)
   refine goF ?_
   rw [hwf]
   exact .wf (hH:=by show (HH s++_).set (NN+3) _=_;rw [app_setT (HH_len s)];rfl)
  ·have hd:decide (c.actor≥0)=false:=by simp;omega
   have hwf:whoF c n=n:=if_neg ha
   refine iff_ ?_ rfl (by simp +decide only [go_sem, *]<;>rfl)
   refine goF ?_
   rw [hwf]
   exact .wf
 obtain ⟨who,hwho⟩:∃who,who=whoF c n:=⟨_,rfl⟩
 rw [← hwho]
 clear hwho
 have hvv:=vrsV_own (j:=j) hv
 have hvm:(c.vars.map AV.int)[vn]?=some (.int o):=by rw [List.getElem?_map,hv];rfl
 have hvl:vn<c.vars.length:=(List.getElem?_eq_some_iff.1 hv).1
 have is:=step1_ok (s:=s) (st:=⟨4,vn,w,nn,tk,vs⟩) (time:=time) (who:=who) (o:=o) (w:=false) hac2
 refine goF ?_
 refine iff_ ?_ rfl (by simp +decide only [go_sem, *]<;>rfl)
 refine goF ?_
 refine iff_ ?_ rfl (by simp +decide only [go_sem, *]<;>rfl)
 refine goF ?_
 refine iff_ ?_ rfl (by simp +decide only [go_sem, *]<;>rfl)
 refine goF ?_
 refine ift_ ?_ rfl (by simp +decide only [go_sem, *]<;>rfl)
 refine goF ?_
 refine drA (k:=6) follows (hr:=?_)
 refine goF ?_
 refine ARun.q1 rfl rfl (ql_ixo (n:=vn) (b:=ix (.vrs j)) (by simp +decide only [go_sem, *]<;>rfl) (by simp +decide only [go_sem, *]<;>rfl) Tryd.underlying25 (by simp +decide only [go_sem, *]<;>rfl) (by simp) hvl (by simp +decide only [go_sem, *]<;>rfl)) ?_
 refine goF ?_
 refine ARun.p1 rfl rfl (pl_callW (caps:=[.ptr NN 1 0 0,.ptr (NN+3) 1 0 0,.ptr (NN+2) 1 0 0]) is (by simp [HH_len]) rfl (by simp +decide only [go_sem,List.map]) (by simp +decide only [go_sem, *]<;>rfl)) ?_
 obtain ⟨s1,hs1⟩:∃s1,s1=s.addA ⟨who,o,false,time⟩:=⟨_,rfl⟩
 have hs1':Hid (s.addA ⟨who,o,false,time⟩=s1):=⟨hs1.symm⟩
 have hc1:s1.calls[j]?=some c:=by rw [hs1];exact hc
 have ho1:s1.objs[o]?=some x:=by rw [hs1];exact ho
 have hw1:WF s1:=by rw [hs1];exact (h.addA _ (by omega)).wf
 have hl1:s1.lines.length≤900000:=by rw [hs1];exact hln
 clear hs1 is
 rw [hs1'.out]
 have hol:o<s1.objs.length:=(List.getElem?_eq_some_iff.1 ho1).1
 have hom:(s1.objs.map encO)[o]?=some (encO x):=by rw [List.getElem?_map,ho1];rfl
 refine goF ?_
 obtain ⟨T,hT⟩:∃T,T=stT ⟨4,vn,w,nn,tk,vs⟩ time who:=⟨_,rfl⟩
 have hset:=HH_addL (s:=s1) (x:=lineF n x.1)
 have hn32:=hw.nT
 refine drS (k:=20) [none,none,none,none,none,none,none,none,none,none,none,none,none,none,none,none,none,none,none,some 0] (fun k=>match k with
  | 0=>HH s1++stT ⟨4,vn,w,nn,tk,vs⟩ time who
  | _=>(HH s1).set (ix .ln) ⟨9,1,s1.lines.map (fun x=>.base (.string x))++[.base (.string (lineF n x.1))]⟩++stT ⟨4,vn,w,nn,tk,vs⟩ time who) 1 follows ?_
 refine gS ?_
 refine gS ?_
 refine gS ?_
 refine gS ?_
 refine gS ?_
 refine gS ?_
 refine GRun.q1 rfl rfl (fun c _=>ql_callC (itoa_ok hmm n (by omega) (by omega)) rfl rfl (by simp +decide only [go_sem, *]<;>rfl) (by simp) (.inr (by simp +decide only [go_sem, *]<;>rfl))) ?_
 refine GRun.q1 (v:=.base (.string (itoaB n++colB))) rfl rfl (fun c _=>ql_addStr (a:=itoaB n) (b:=colB) (by simp +decide only [go_sem, *]<;>rfl) rfl (by have:colB.size=1:=rfl;have:=itoaB_size (n:=(n:Int)) (by omega) (by omega);omega)) ?_
 refine gS ?_
 refine gS ?_
 refine gS ?_
 refine gS ?_
 refine gS ?_
 refine GRun.q1 (v:=.ptr (ix .ob) s1.objs.length o 0) rfl rfl (fun c hc=>?_) ?_
 ·rcases c with _|c
  ·exact ql_ixo (n:=o) (b:=ix .ob) (by simp +decide only [go_sem, *]<;>rfl) (by simp +decide only [go_sem, *]<;>rfl) Tryd.underlying79 (by simp +decide only [go_sem, *]<;>rfl) (by simp) hol (by simp +decide only [go_sem, *]<;>rfl)
  ·exact ql_ixo (n:=o) (b:=ix .ob) (by simp +decide only [go_sem, *]<;>rfl) (by simp +decide only [go_sem, *]<;>rfl) Tryd.underlying79 (by simp +decide only [go_sem, *]<;>rfl) (by simp) hol (by simp +decide only [go_sem, *]<;>rfl)
 refine gS ?_
 refine gS ?_
 refine GRun.q1 rfl rfl (fun c _=>ql_callC (itoa_ok hmm x.1 (by omega) (by omega)) rfl rfl (by simp +decide only [go_sem, *]<;>rfl) (by simp) (.inr (by simp +decide only [go_sem, *]<;>rfl))) ?_
 refine GRun.q1 (v:=.base (.string (lineF n x.1))) rfl rfl (fun c _=>ql_addStr (a:=itoaB n++colB) (b:=itoaB x.1) (by simp +decide only [go_sem, *]<;>rfl) (by simp +decide only [go_sem, *]<;>rfl) (by have:colB.size=1:=rfl;have:=itoaB_size (n:=(n:Int)) (by omega) (by omega);have:=itoaB_size hx.1 hx.2;simp only [ByteArray.size_append];omega)) ?_
 refine GRun.q1 (v:=.lst [.base (.string (lineF n x.1))]) rfl rfl (fun c _=>ql_bsl Tryd.underlying29 sz9 (by decide) (by kernel_rfl) (by decide) (by (simp +decide only [List.map,go_sem]<;>rfl)) (by (simp +decide only [List.map,go_sem]<;>rfl)) rfl) ?_
 refine GRun.p1 (v:=.own (ix .ln) (s1.lines.length+1) 0 (s1.lines.length+1)) rfl rfl (fun ρ' h=>?_) ?_
 ·have h1:=pl_append (P:=Tryd.prog) (ρ:=ρ') (H:=HH s1++stT ⟨4,vn,w,nn,tk,vs⟩ time who) (b:=ix .ln) (tot:=s1.lines.length) (es:=[.base (.string (lineF n x.1))]) (blk:=⟨9,1,s1.lines.map fun x=>.base (.string x)⟩) ((h (.tmp 157) (by simp [Op.operands,Call.operands])).trans (by simp +decide only [go_sem, *]<;>rfl)) ((h (.tmp 171) (by simp [Op.operands,Call.operands])).trans (by simp +decide only [go_sem, *]<;>rfl)) (by simp +decide only [go_sem, *]<;>rfl) (by simp) Tryd.underlying29 el9 rfl rfl (by simp) (fun e he=>by rw [List.mem_singleton] at he;subst he;exact ⟨rfl,rfl⟩) (by simp;omega) (by simp;omega)
  rw [app_set (HH_len s1) ixl_ln] at h1
  exact h1
 refine GRun.nil ?_
 have hr:rnB (s1.addL (lineF n x.1))=⟨83,13,[.agg [.lst (s1.p.codes.map encC),.lst (s1.p.methods.map encC),.int s1.p.actors,.lst (s1.sched.map .int),.int s1.used,.own (ix .ob) s1.objs.length 0 s1.objs.length,.own (ix .tk) s1.tasks.length 0 s1.tasks.length,.own (ix .ln) (s1.lines.length+1) 0 (s1.lines.length+1),.own (ix .ac) s1.accs.length 0 s1.accs.length,.own (ix .tn) s1.turns.length 0 s1.turns.length,.own (ix .ck) s1.cks.length 0 s1.cks.length,.own (ix .en) s1.ends.length 0 s1.ends.length,.own (ix .at') s1.acts.length 0 s1.acts.length]]⟩:=by
  simp only [rnB,PRun.addL,List.length_append,List.length_singleton]
 rw [hr] at hset
 have hset':=hset
 have hw2:WF (s1.addL (lineF n x.1)):=⟨hw1.1,hw1.2,hw1.3,hw1.4,hw1.5,hw1.6,hw1.7,hw1.8,hw1.9,hw1.10,hw1.11,by
  obtain ⟨a1,a2,a3⟩:=hw1.12
  exact ⟨a1,by simp only [PRun.addL,List.length_append,List.length_singleton];omega,a3⟩,hw1.13,hw1.14⟩
 refine goF ?_
 exact .runV (stT ⟨4,vn,w,nn,tk,vs⟩ time who) hw2 (vs:=[.bool true]) (by show resVals _ _ [.tmp 10]=_;simp +decide only [resVals,resVal,ldPtr,ldE,go_sem, *]<;>rfl) rfl rfl (.pu (.base _))
end Go.Ab
set_option maxHeartbeats 4000000
namespace Go.Ab
open Go Go.Ab Go.Proofs Go.Ab.Ty
theorem startF_at {s:PRun} {n:Nat} {t:PTask} {cd:Cd} {vs a:List Int} {pr:Int} {canc:Bool} (ht:s.tasks[n]?=some t) (hen:t.ending=0) (hwt:t.waits<0):(startF s cd vs a pr n canc).tasks[n]?=some t∧(startF s cd vs a pr n canc).calls=s.calls++[newC cd vs (-1)]∧(startF s cd vs a pr n canc).tasks.length=s.tasks.length+1:=by
 have hn:=(List.getElem?_eq_some_iff.1 ht).1
 unfold startF
 split
 ·rename_i hc0
  obtain ⟨k,hk⟩:∃k,k=s.tasks.length:=⟨_,rfl⟩
  obtain ⟨x,hx⟩:∃x,x=newT s.calls.length pr canc n s.pool.length:=⟨_,rfl⟩
  obtain ⟨S,hS⟩:∃S,S=(startS s cd vs a pr n canc).tset s.tasks.length (clo x 3):=⟨_,rfl⟩
  have hS1:S.tasks[k]?=some (clo x 3):=by rw [hS,hk];exact tset_at (t:=x) (by rw [hx];exact addT_at)
  have hSn:S.tasks[n]?=some t:=by rw [hS,tset_ne (by omega)];exact (addT_old hn).trans ht
  have hSc:S.calls=s.calls++[newC cd vs (-1)]:=by rw [hS];rfl
  have hSl:S.tasks.length=k+1:=by rw [hS,tset_len,hk];simp [startS,PRun.addT,PRun.addP,PRun.addC]
  rw [← hx,← hS,← hk]
  have hx2:x.kids=[]∧x.par=n:=by rw [hx];exact ⟨rfl,rfl⟩
  have hkj:kidsJ S (clo x 3).clk (clo x 3).kids=(S,(clo x 3).clk,true):=by show kidsJ S x.clk x.kids=(S,x.clk,true);rw [hx2.1];rfl
  unfold settleF
  rw [hS1]
  simp only
  rw [if_neg (by show ¬((3:Int)=0∨3≤(2:Int));omega),hkj]
  simp only
  have hpar:(clo x 3).par=n:=hx2.2
  obtain ⟨Z,hZd⟩:∃Z,Z=(S.enS k (clo x 3).clk).tset k { clo x 3 with state:=(clo x 3).ending }:=⟨_,rfl⟩
  rw [← hZd,if_neg (by rw [hpar];omega),hpar,Int.toNat_natCast,hSn]
  simp only
  rw [if_neg (by omega)]
  obtain ⟨f,hf⟩:∃f,k=f+1:=⟨k-1,by omega⟩
  have hZ:Z.tasks[n]?=some t:=by rw [hZd,tset_ne (by omega)];exact hSn
  have hR:settleF k Z n=Z:=by
   rw [hf];unfold settleF;rw [hZ];simp only;rw [if_pos (.inl hen)]
  rw [hR]
  exact ⟨hZ,by rw [hZd];exact hSc,by rw [hZd,tset_len];exact hSl⟩
 ·exact ⟨(addT_old hn).trans ht,rfl,by simp [startS,PRun.addT,PRun.addP,PRun.addC]⟩
theorem blk_rfK {s:PRun} (hw:WF s) {n:Nat} {t:PTask} (ht:s.tasks[n]?=some t) (hk:t.kids=[]) (a:Nm):RfB (fun b=>Sd s b∧b≠ix (.kid n)) (blk s a):=by
 have key:∀ {a:Nm},a≠.kid n→dom s a→Sd s (ix a)∧ix a≠ix (.kid n):=fun {a} h1 h2=>⟨.of h2,fun e=>h1 (ix_inj e)⟩
 have clks:∀ {l:List Nat},(∀j∈l,j<s.pool.length)→RfB (fun b=>Sd s b∧b≠ix (.kid n)) ⟨25,1,l.map ownC⟩:=fun {l} h=>.map fun j hj c hc=>by
  simp only [AV.cells,List.mem_singleton] at hc;subst hc
  exact .own (key (by simp) (h j hj))
 cases a with
 | rn =>
   refine .one fun c hc=>?_
   simp only [List.mem_cons,List.not_mem_nil,or_false] at hc
   rcases hc with rfl|rfl|rfl|rfl|rfl|rfl|rfl|rfl|rfl|rfl|rfl|rfl|rfl
   ·exact .pu (by simp)
   ·exact .pu (by simp)
   ·exact .pu (.base _)
   ·exact .pu (Pu_mapInt _)
   ·exact .pu (.base _)
   all_goals exact .own (key (by simp) trivial)
 | ob =>
   exact .map fun x _ c hc=>by
    simp only [AV.cells,List.mem_cons,List.not_mem_nil,or_false] at hc
    rcases hc with rfl|rfl<;>exact .pu (.base _)
 | tk =>
   exact .map fun k hk c hc=>by
    simp only [AV.cells,List.mem_singleton] at hc;subst hc
    exact .ptr (key (by simp) (List.mem_range.1 hk))
 | ln =>
   exact .map fun x _ c hc=>by simp only [AV.cells,List.mem_singleton] at hc;subst hc;exact .pu (.base _)
 | ac =>
   exact .map fun x _ c hc=>by
    simp only [encA,AV.cells,List.mem_cons,List.not_mem_nil,or_false] at hc
    rcases hc with rfl|rfl|rfl|rfl<;>exact .pu (.base _)
 | tn=>exact .int _
 | ck=>exact clks hw.cks
 | en =>
   exact .map fun o ho c hc=>by
    cases o with
    | none=>simp only [endV,AV.cells,List.mem_singleton] at hc;subst hc;exact .pu (.base _)
    | some j=>simp only [endV,AV.cells,List.mem_singleton] at hc;subst hc;exact .own (key (by simp) (hw.ends _ ho j rfl))
 | at'=>exact clks hw.acts
 | tsk k =>
   simp only [blk]
   split
   ·rename_i t' ht'
    obtain ⟨h1,h2,h3,h4⟩:=hw.tsk t' (List.mem_of_getElem? ht')
    have hkk:k<s.tasks.length:=(List.getElem?_eq_some_iff.1 ht').1
    refine .one fun c hc=>?_
    simp only [List.mem_cons,List.not_mem_nil,or_false] at hc
    rcases hc with rfl|rfl|rfl|rfl|rfl|rfl|rfl|rfl|rfl|rfl|rfl|rfl
    ·exact .own (key (by simp) hkk)
    ·exact .pu (.base _)
    ·exact .pu (.base _)
    ·exact .pu (.base _)
    ·cases hb:t'.kids with
     | nil=>exact .pu (.base _)
     | cons a l =>
       refine .own (key (fun e=>?_) (a:=.kid k) hkk)
       injection e with e;subst e
       rw [ht'] at ht;injection ht with ht;subst ht
       rw [hk] at hb;cases hb
    ·exact .mapv (key (by simp) hkk)
    ·exact .pu (.base _)
    ·exact .pu (.base _)
    ·exact .pu (.base _)
    ·exact .pu (.base _)
    ·exact .own (key (by simp) h3)
    ·cases hb:t'.beh with
     | none=>exact .pu (.base _)
     | some j=>exact .own (key (by simp) (h4 j hb))
   ·exact .nil
 | stk k =>
   simp only [blk]
   split
   ·rename_i t' ht'
    obtain ⟨h1,h2,h3,h4⟩:=hw.tsk t' (List.mem_of_getElem? ht')
    exact .map fun j hj c hc=>by
     simp only [AV.cells,List.mem_singleton] at hc;subst hc
     exact .ptr (key (by simp) (h1 j hj))
   ·exact .nil
 | kid k =>
   simp only [blk]
   split<;>exact .int _
 | spn k =>
   simp only [blk]
   split
   ·refine fun e he c hc=>?_
    simp only [mapB,List.mem_singleton] at he;subst he
    simp only [AV.cells,List.mem_cons,List.not_mem_nil,or_false] at hc
    rcases hc with rfl|rfl
    ·exact .pu (.agg fun c hc=>by obtain ⟨x,_,rfl⟩:=List.mem_map.1 hc;exact .base _)
    ·exact .pu (.agg fun c hc=>by obtain ⟨x,_,rfl⟩:=List.mem_map.1 hc;exact .base _)
   ·exact .nil
 | cal j =>
   simp only [blk]
   split
   ·rename_i c hc0
    have hj:j<s.calls.length:=(List.getElem?_eq_some_iff.1 hc0).1
    refine .one fun c' hc=>?_
    simp only [List.mem_cons,List.not_mem_nil,or_false] at hc
    rcases hc with rfl|rfl|rfl|rfl|rfl|rfl
    ·exact .pu (.base _)
    ·exact .pu (.base _)
    ·exact .pu (by simp)
    ·cases c.vars with
     | nil=>exact .pu (.lst (by simp))
     | cons v l=>exact .own (key (by simp) hj)
    ·exact .pu (.base _)
    ·exact .pu (.base _)
   ·exact .nil
 | vrs j =>
   simp only [blk]
   split<;>exact .int _
 | clk j =>
   simp only [blk]
   split<;>exact .int _
 | beh j =>
   simp only [blk]
   split
   ·rename_i l hl
    exact clks (hw.behs l (List.mem_of_getElem? hl)).2
   ·exact .nil
theorem HH_nbK {s:PRun} (hw:WF s) {n:Nat} {t:PTask} (ht:s.tasks[n]?=some t) (hk:t.kids=[]) {q:Nat} (hq:NN≤q):∀b∈HH s,RfB (Nb q (ix (.kid n))) b:=fun b hb=>by
 unfold HH hp at hb
 obtain ⟨i,_,rfl⟩:=List.mem_map.1 hb
 exact (blk_rfK hw ht hk _).mono fun i hi=>⟨hi.2,by have:=hi.1.lt hw;omega⟩
theorem HH_kid {s:PRun} {n:Nat} {t:PTask} {l:List Int} (ht:s.tasks[n]?=some t) (h1:ix (.tsk n)<NN) (h2:ix (.kid n)<NN):((HH s).set (ix (.kid n)) (intB l)).set (ix (.tsk n)) (tskB n { t with kids:=l })=HH (s.tset n { t with kids:=l }):=by
 refine HH_upd (s:=s) (s':=s.tset n { t with kids:=l }) [(.kid n,intB l),(.tsk n,_)] (upd2 ⟨h2,by simp only [blk];rw [tset_at ht]⟩ ⟨h1,by simp only [blk];rw [tset_at ht]⟩) fun a ha=>?_
 simp only [List.map_cons,List.map_nil,List.mem_cons,List.not_mem_nil,or_false,not_or] at ha
 cases a with
 | tsk i=>simp only [blk];rw [tset_ne fun e=>ha.2 (by rw [e])]
 | kid i=>simp only [blk];rw [tset_ne fun e=>ha.1 (by rw [e])]
 | stk i =>
   simp only [blk]
   by_cases e:n=i
   ·subst e;rw [tset_at ht,ht]
   ·rw [tset_ne e]
 | spn i =>
   simp only [blk]
   by_cases e:n=i
   ·subst e;rw [tset_at ht,ht]
   ·rw [tset_ne e]
 | rn=>simp only [blk,rnB,tset_len];rfl
 | tk=>simp only [blk,tset_len]
 | _=>rfl
theorem HH_spn {s:PRun} {n:Nat} {t:PTask} {l:List (Int × Int)} (ht:s.tasks[n]?=some t) (h1:ix (.spn n)<NN):(HH s).set (ix (.spn n)) (spnB l)=HH (s.tset n { t with spn:=l }):=by
 refine HH_upd (s:=s) (s':=s.tset n { t with spn:=l }) [(.spn n,spnB l)] (upd1 ⟨h1,by simp only [blk];rw [tset_at ht]⟩) fun a ha=>?_
 simp only [List.map_cons,List.map_nil,List.mem_cons,List.not_mem_nil,or_false,not_or] at ha
 cases a with
 | spn i=>simp only [blk];rw [tset_ne fun e=>ha (by rw [e])]
 | tsk i =>
   simp only [blk]
   by_cases e:n=i
   ·subst e;rw [tset_at ht,ht]
   ·rw [tset_ne e]
 | kid i =>
   simp only [blk]
   by_cases e:n=i
   ·subst e;rw [tset_at ht,ht]
   ·rw [tset_ne e]
 | stk i =>
   simp only [blk]
   by_cases e:n=i
   ·subst e;rw [tset_at ht,ht]
   ·rw [tset_ne e]
 | rn=>simp only [blk,rnB,tset_len];rfl
 | tk=>simp only [blk,tset_len]
 | _=>rfl
end Go.Ab
