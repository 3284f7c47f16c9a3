/- Part of the proof. -/
import Derived.Test.YthgicbkdckpeaaaDoorG15
set_option linter.unusedSimpArgs false
set_option linter.unusedVariables false
set_option maxHeartbeats 4000000
namespace Go.Ab
open Go Go.Ab Go.Proofs Go.Ab.Ty
def Fst {α:Type} (p:α→Prop) (l:List α) (k:Nat):Prop:=∀j,∀h:j<l.length,j<k→p l[j]
theorem Fst.zero {α:Type} (p:α→Prop) (l:List α):Fst p l 0:=fun j _ h=>absurd h (Nat.not_lt_zero _)
theorem Fst.succ {α:Type} {p:α→Prop} {l:List α} {k:Nat} (h:Fst p l k) {x:α} (hx:l[k]?=some x) (h2:p x):Fst p l (k+1):=fun j hj hlt=>by
 rcases Nat.lt_or_ge j k with h3|h3
 ·exact h j hj h3
 ·obtain rfl:j=k:=by omega
  rw [List.getElem?_eq_getElem hj] at hx;injection hx with hx
  rw [hx];exact h2
theorem Fst.all {α:Type} {p:α→Prop} {l:List α} {k:Nat} (h:Fst p l k) (hk:l.length≤k):∀x∈l,p x:=fun x hx=>by
 obtain ⟨j,hj,rfl⟩:=List.mem_iff_getElem.1 hx
 exact h j hj (by omega)
theorem gtM {α:Type} {l:List α} {f:α→AV} {k:Nat} (h:k<l.length):(l.map f)[k]?=some (f l[k]):=by
 rw [List.getElem?_map,List.getElem?_eq_getElem h];rfl
theorem MvR.ofid {r:Nat→Option Nat} {H:List ABlk} {a:AV} (h:∀b,b<H.length→r b=some b):MvR r H a a:=fun H2 w O ι ι2 u v hu=>hu.mono
 ⟨fun _ _ _ h=>h,fun p c h1 _=>h1,fun b blk hb=>by
  obtain ⟨blk2,e1,e2,e3,e4⟩:=v b b blk (h b (List.getElem?_eq_some_iff.1 hb).1) hb
  exact ⟨blk2,e1,Nat.le_of_eq e2.symm,fun _=>⟨e3,e4⟩⟩,
  fun b x blk blk' c ty fz _ _ _ _ h=>⟨c,ty,fz,h,rfl⟩⟩
theorem BlkMv.ofid {r:Nat→Option Nat} {H:List ABlk} {b:ABlk} (h:∀b,b<H.length→r b=some b):BlkMv r H b b:=
 ⟨rfl,rfl,rfl,fun i e e2 h1 h2=>by
  rw [h1] at h2;injection h2 with h2;subst h2
  exact ⟨rfl,fun k c c2 h3 h4=>by
   rw [h3] at h4;injection h4 with h4;subst h4
   exact .ofid h⟩⟩
theorem rb_range3 {n j:Nat}:rb (List.range n) n j=some j:=by
 unfold rb
 rw [List.length_range]
 split
 ·rename_i h;rw [List.getElem?_range h]
 ·congr 1;omega
theorem CallE.all {H H':List ABlk} (hl:H.length≤H'.length):CallE (List.range H.length) H H H' H':=
 ⟨List.nodup_range,List.length_range,fun j b hj=>by
  obtain ⟨h1,h2⟩:=List.getElem?_eq_some_iff.1 hj
  rw [List.length_range] at h1
  rw [List.getElem_range] at h2
  subst h2
  exact ⟨H[j],H[j],List.getElem?_eq_getElem h1,List.getElem?_eq_getElem h1,.ofid fun b hb=>by rw [ro_range2,if_pos hb]⟩,hl,by omega,fun b hb hn=>absurd (List.mem_range.2 hb) hn,fun j c bk hr hb=>by
  rw [rb_range3] at hr;injection hr with hr;subst hr
  exact ⟨bk,hb,.ofid fun b _=>rb_range3⟩⟩
theorem MvL.ofid {r:Nat→Option Nat} {H:List ABlk} (h:∀b,b<H.length→r b=some b):∀l:List AV,MvL r H l l
 | []=>trivial
 | _::l=>⟨.ofid h,MvL.ofid h l⟩
theorem pl_callW {H H':List ABlk} {ρ:Operand→AV} {c:Call} {fx:Operand} {f:FuncId} {caps args:List AV} {d:AV} (hf:FnH Tryd.prog f args H d H') (hl:H.length≤H'.length) (hc:c.callee=.value fx) (hfx:ρ fx=.clo f caps) (ha:c.args.toList.map ρ++caps=args):PL Tryd.prog H ρ (.call c) d H':=
 pl_callH hf (.all hl) hc hfx (by rw [ha];exact .ofid (fun b hb=>by rw [ro_range2,if_pos hb]) _) (.ofid fun b _=>rb_range3)
def oi:Option Nat→Int
 | some i=>i
 | none=>-1
theorem fidx_some {α:Type} {p:α→Bool} {l:List α} {k:Nat} (h:Fst (fun x=>p x=false) l k) (hk:k<l.length) (hp:p l[k]=true):l.findIdx? p=some k:=by
 rw [List.findIdx?_eq_some_iff_getElem]
 exact ⟨hk,hp,fun j hj=>by have:=h j (by omega) hj;simp [this]⟩
theorem fidx_none {α:Type} {p:α→Bool} {l:List α} {k:Nat} (h:Fst (fun x=>p x=false) l k) (hk:l.length≤k):l.findIdx? p=none:=by
 rw [List.findIdx?_eq_none_iff]
 exact fun x hx=>h.all hk x hx
theorem oi_any {p:Int→Bool} {l:List Int}:(0≤oi (l.findIdx? p))↔l.any p=true:=by
 cases hx:l.findIdx? p with
 | none =>
   rw [List.findIdx?_eq_none_iff] at hx
   simp [oi]
   exact hx
 | some i =>
   have:=List.findIdx?_eq_some_iff_getElem.1 hx
   simp [oi]
   exact ⟨_,List.getElem_mem _,this.2.1⟩
theorem idxI_ok (H:List ABlk) (p:Int→Bool) (fid:FuncId) (caps:List AV) (l:List Int) (hl:l.length≤1000000) (h:∀x∈l,FnH Tryd.prog fid (.int x::caps) H (.bool (p x)) H) :
 FnH Tryd.prog 126 [.lst (l.map .int),.clo fid caps] H (.int (oi (l.findIdx? p))) H:=by
 obtain ⟨R,hR⟩:∃R,R=oi (l.findIdx? p):=⟨_,rfl⟩
 rw [← hR]
 refine FnH.intro' [(0,.lst (l.map .int)),(1,.clo fid caps)] 2 19 H.length Tryd.func126 (by kernel_rfl) rfl rfl rfl rfl rfl rfl ?_
 refine goF ?_
 refine AWp.loopP (J:=fun k:Nat=>k≤l.length∧Fst (fun x=>p x=false) l k) (fun k=>[(8,.int k)]) (fun k=>l.length-k) 0 ⟨Nat.zero_le _,.zero _ _⟩ .wk ?_
 rintro k ⟨hk,he⟩
 refine goF ?_
 refine ifA (fun hd=>?_) (fun hd=>?_)
 ·simp at hd
  have hnx:nth 0 l (k:Int)=l[k]:=nth_eq hd
  have ih:=h _ (List.getElem_mem hd)
  have hfs:=fun hp=>fidx_some (p:=p) he hd hp
  have hsu:=fun hp=>he.succ (List.getElem?_eq_getElem hd) hp
  generalize l[k]=x at *
  clear he h
  refine goF ?_
  refine ARun.p1 rfl rfl (pl_callW ih (Nat.le_refl _) rfl (by simp +decide only [go_sem, *]<;>rfl) (by simp +decide only [go_sem, *]<;>rfl)) ?_
  refine goF ?_
  refine ifA (fun hp=>?_) (fun hp=>?_)
  ·refine goF ?_
   rw [hR,hfs hp]
   exact RetH.same (vs:=[.int k]) (by show resVals _ _ [.tmp 4]=_;simp +decide only [resVals,resVal,ldPtr,ldE,go_sem, *]<;>rfl) rfl rfl
  refine goF ?_
  rw [wrap_succ (by omega)]
  exact ⟨k+1,⟨hd,hsu hp⟩,by omega,.wk⟩
 simp at hd
 refine goF ?_
 rw [hR,fidx_none he (by omega)]
 exact RetH.same (vs:=[.int (-1)]) (by show resVals _ _ [.tmp 4]=_;simp +decide only [resVals,resVal,ldPtr,ldE,go_sem, *]<;>rfl) rfl rfl
theorem conI_ok (H:List ABlk) (p:Int→Bool) (fid:FuncId) (caps:List AV) (l:List Int) (hl:l.length≤1000000) (h:∀x∈l,FnH Tryd.prog fid (.int x::caps) H (.bool (p x)) H) :
 FnH Tryd.prog 123 [.lst (l.map .int),.clo fid caps] H (.bool (l.any p)) H:=by
 have i1:=idxI_ok H p fid caps l hl h
 clear h
 refine FnH.intro' [(0,.lst (l.map .int)),(1,.clo fid caps)] 2 9 H.length Tryd.func123 (by kernel_rfl) rfl rfl rfl rfl rfl rfl ?_
 refine goF ?_
 refine ARun.p1 rfl rfl (pl_callW i1 (Nat.le_refl _) rfl (by simp +decide only [go_sem, *]<;>rfl) (by simp +decide only [go_sem, *]<;>rfl)) ?_
 refine goF ?_
 refine RetH.same (vs:=[.bool (decide (oi (l.findIdx? p)≥0))]) (by show resVals _ _ [.tmp 4]=_;simp +decide only [resVals,resVal,ldPtr,ldE,go_sem, *]<;>rfl) ?_ rfl
 show AV.bool _=_
 congr 1
 rw [Bool.eq_iff_iff,decide_eq_true_iff]
 exact oi_any
end Go.Ab
set_option maxHeartbeats 4000000
namespace Go.Ab
open Go Go.Ab Go.Proofs Go.Ab.Ty
theorem vrsV_own {j:Nat} {l:List Int} {i:Nat} {x:Int} (h:l[i]?=some x):vrsV j l=.own (ix (.vrs j)) l.length 0 l.length:=by
 cases l with
 | nil=>simp at h
 | cons a l=>rfl
abbrev pcB (j:Nat):ABlk:=⟨135,1,[ptC j]⟩
theorem set1_ok {s:PRun} {j v:Nat} {c:PCall} {x:Int} (hc:s.calls[j]?=some c) (hx:c.vars[v]?=some x) (hj:ix (.cal j)<NN) (hj2:ix (.vrs j)<NN):FnH Tryd.prog 124 [.int v,.ptr NN 1 0 0] (HH s++[pcB j]) (.bool (decide (x<0))) (HH s++[pcB j]):=by
 have hvv:=vrsV_own (j:=j) hx
 have hidx:(c.vars.map AV.int)[v]?=some (.int x):=by rw [List.getElem?_map,hx];rfl
 have hvl:v<c.vars.length:=(List.getElem?_eq_some_iff.1 hx).1
 refine FnH.intro' [(0,.int v),(1,.ptr NN 1 0 0)] 2 12 (NN+1) Tryd.func124 (by kernel_rfl) rfl rfl rfl rfl rfl (by simp [HH_len]) ?_
 refine goF ?_
 refine ARun.q1 rfl rfl (ql_ixo (n:=v) (by simp +decide only [go_sem, *]<;>rfl) (by simp +decide only [go_sem, *]<;>rfl) Tryd.underlying25 (by simp +decide only [go_sem, *]<;>rfl) (by simp) hvl (by simp +decide only [go_sem, *]<;>rfl)) ?_
 refine goF ?_
 exact RetH.same (vs:=[.bool (decide (x<0))]) (by show resVals _ _ [.tmp 3]=_;simp +decide only [resVals,resVal,ldPtr,ldE,go_sem, *]<;>rfl) rfl rfl
def setB (c:PCall) (vs:List Int):Bool:=!(vs.any fun v=>decide (c.vars.getD v.toNat 0<0))
def inV (c:PCall) (v:Int):Prop:=0≤v∧v.toNat<c.vars.length
theorem set_ok {s:PRun} (hw:WF s) {j:Nat} {c:PCall} {vs:List Int} (hvs:∀v∈vs,inV c v) (hl:vs.length≤1000000) (hc:s.calls[j]?=some c) (hj:ix (.cal j)<NN) (hj2:ix (.vrs j)<NN):FnH Tryd.prog 111 [ptC j,.lst (vs.map .int)] (HH s) (.bool (setB c vs)) (HH s):=by
 have i1:=conI_ok (HH s++[pcB j]) (fun v=>decide (c.vars.getD v.toNat 0<0)) 124 [.ptr NN 1 0 0] vs hl fun v hv=>by
  obtain ⟨h1,h2⟩:=hvs v hv
  have hx:c.vars[v.toNat]?=some (c.vars.getD v.toNat 0):=by rw [List.getD_eq_getElem?_getD,List.getElem?_eq_getElem h2];rfl
  have:=set1_ok hc hx hj hj2
  rwa [Int.toNat_of_nonneg h1] at this
 refine FnH.intro' [(0,ptC j),(1,.lst (vs.map .int))] 2 9 NN Tryd.func111 (by kernel_rfl) rfl rfl rfl rfl rfl (HH_len s) ?_
 refine goF ?_
 refine ARun.p1 rfl rfl (pl_callW i1 (Nat.le_refl _) rfl (by simp +decide only [go_sem, *]<;>rfl) (by simp +decide only [go_sem, *]<;>rfl)) ?_
 refine goF ?_
 refine RetH.run hw (vs:=[.bool (setB c vs)]) (T:=[pcB j]) (by show resVals _ _ [.tmp 4]=_;simp +decide only [resVals,resVal,ldPtr,ldE,go_sem, *]<;>rfl) rfl (.pu (.base _))
theorem NilB.rf {H:List ABlk} {S:Nat→Prop}:∀ {L:List ABlk},(∀b∈L,RfB S b)→NilB H L L
 | [],_=>trivial
 | b::L,h=>⟨⟨rfl,rfl,rfl,fun i e e2 h1 h2=>by
    rw [h1] at h2;injection h2 with h2;subst h2
    exact ⟨rfl,fun k c c2 h3 h4=>by
     rw [h3] at h4;injection h4 with h4;subst h4
     exact .mv ((h b (by simp) e (List.mem_of_getElem? h1) c (List.mem_of_getElem? h3)).mv fun _ _=>rfl)⟩⟩,NilB.rf fun x hx=>h x (by simp [hx])⟩
def givL (c:PCall) (vs:List Int):List Int:=vs.map fun v=>c.vars.getD v.toNat 0
theorem given_ok {s:PRun} (hw:WF s) {j:Nat} {c:PCall} {vs:List Int} (hvs:∀v∈vs,inV c v) (hl:vs.length≤1000000) (hc:s.calls[j]?=some c) (hj:ix (.cal j)<NN) (hj2:ix (.vrs j)<NN):FnH Tryd.prog 115 [ptC j,.lst (vs.map .int)] (HH s) (.own NN (givL c vs).length 0 (givL c vs).length) (HH s++[intB (givL c vs)]):=by
 refine FnH.intro' [(0,ptC j),(1,.lst (vs.map .int))] 2 26 NN Tryd.func115 (by kernel_rfl) rfl rfl rfl rfl rfl (HH_len s) ?_
 refine goF ?_
 refine AWp.weaken (Wk.nilC (E2:=[(0,ptC j),(5,.own NN 0 0 0),(8,.lst (vs.map .int)),(9,.int vs.length),(10,.int 0)]) (H2:=HH s) 3 1 (.rf (HH_rf hw)) ⟨.ptr,.nil (HH_len s),.pu (Pu_mapInt _),.pu (.base _),.pu (.base _),trivial⟩) ?_
 refine AWp.loop (J:=fun i:Nat=>i≤vs.length) (fun i=>⟨[(0,ptC j),(5,.own NN i 0 i),(8,.lst (vs.map .int)),(9,.int vs.length),(10,.int i)],HH s++[intB (givL c (vs.take i))]⟩) (fun i=>vs.length-i) 0 (Nat.zero_le _) .wf ?_
 rintro i hi
 refine goF ?_
 refine ifA (fun hd=>?_) (fun hd=>?_)
 ·simp at hd
  have hnx:nth 0 vs (i:Int)=vs[i]:=nth_eq hd
  obtain ⟨h1,h2⟩:=hvs _ (List.getElem_mem hd)
  have htk:givL c (vs.take (i+1))=givL c (vs.take i)++[c.vars.getD vs[i].toNat 0]:=by unfold givL;rw [List.take_succ_eq_append_getElem hd,List.map_append];rfl
  have hgl:(givL c (vs.take i)).length=i:=by unfold givL;rw [List.length_map,List.length_take];omega
  generalize givL c (vs.take i)=A at *
  have hx:c.vars[vs[i].toNat]?=some (c.vars.getD vs[i].toNat 0):=by rw [List.getD_eq_getElem?_getD,List.getElem?_eq_getElem h2];rfl
  generalize c.vars.getD vs[i].toNat 0=x at *
  obtain ⟨v,hv⟩:∃v:Nat,vs[i]=v:=⟨_,(Int.toNat_of_nonneg h1).symm⟩
  rw [hv] at hnx hx h2
  simp only [Int.toNat_natCast] at hx h2
  have hvv:=vrsV_own (j:=j) hx
  have hidx:(c.vars.map AV.int)[v]?=some (.int x):=by rw [List.getElem?_map,hx];rfl
  clear hvs
  refine goF ?_
  refine ARun.q1 rfl rfl (ql_ixo (n:=v) (by simp +decide only [go_sem, *]<;>rfl) (by simp +decide only [go_sem, *]<;>rfl) Tryd.underlying25 (by simp +decide only [go_sem, *]<;>rfl) (by simp) h2 (by simp +decide only [go_sem, *]<;>rfl)) ?_
  refine goF ?_
  refine ARun.p1 rfl rfl (pl_append (b:=NN) (tot:=i) (es:=[.int x]) (by simp +decide only [go_sem, *]<;>rfl) (by simp +decide only [go_sem, *]<;>rfl) (by simp +decide only [go_sem, *]<;>rfl) (by simp;omega) Tryd.underlying25 el3 rfl rfl (by simp) (fun e he=>by rw [List.mem_singleton] at he;subst he;exact ⟨rfl,rfl⟩) (by simp;omega) (by simp;omega)) ?_
  refine goF ?_
  rw [wrap_succ (by omega)]
  refine ⟨i+1,hd,by omega,?_⟩
  rw [htk,show intB (A++[x])=⟨3,1,A.map AV.int++[AV.int x]⟩ by rw [intB,List.map_append];rfl]
  exact .wf
 simp at hd
 obtain rfl:i=vs.length:=by omega
 rw [List.take_length]
 have hgl:(givL c vs).length=vs.length:=by unfold givL;rw [List.length_map]
 rw [hgl]
 refine goF ?_
 exact RetH.same (vs:=[.own NN vs.length 0 vs.length]) (by show resVals _ _ [.tmp 4]=_;simp +decide only [resVals,resVal,ldPtr,ldE,go_sem, *]<;>rfl) rfl rfl
@[go_sem] theorem aH_get0 {H T:List ABlk}:(H++T)[H.length]?=T[0]?:=by rw [List.getElem?_append_right (Nat.le_refl _),Nat.sub_self]
@[go_sem] theorem aH_set0 {H T:List ABlk} {X:ABlk}:(H++T).set H.length X=H++T.set 0 X:=by rw [List.set_append_right _ _ (Nat.le_refl _),Nat.sub_self]
theorem aH_get {H:List ABlk} {b:Nat} {X:ABlk} (h:H[b]?=some X) (T:List ABlk):(H++T)[b]?=some X:=by rw [List.getElem?_append_left (List.getElem?_eq_some_iff.1 h).1];exact h
theorem Lend.int {H:List ABlk} {b ty n:Nat} {l:List Int} (h:H[b]?=some ⟨ty,1,l.map AV.int⟩) (hn:l.length=n):Lend H (.own b n 0 n) (.lst (l.map AV.int)):=.ownM h hn fun x _ c hc=>by
 simp only [AV.cells,List.mem_singleton] at hc;subst hc;exact .base _
theorem clone_ok {H:List ABlk} {b n:Nat} {l:List Int} (hb:H[b]?=some (intB l)) (hn:l.length=n) (h0:0<n) (h1:n≤1000000):FnH Tryd.prog 89 [.own b n 0 n] H (.own H.length n 0 n) (H++[intB l]):=by
 refine FnH.intro' [(0,.own b n 0 n)] 1 8 H.length Tryd.func89 (by kernel_rfl) rfl rfl rfl rfl rfl rfl ?_
 refine goE ?_
 refine ARun.q1 rfl rfl (ql_eqnil_own (b:=b) (tot:=n) (off:=0) (len:=n) (by simp +decide only [go_sem, *]<;>rfl) hb (by simp [hn]) h0 (by simp +decide only [go_sem, *]<;>rfl) Tryd.underlying25) ?_
 refine goE ?_
 refine iff_ ?_ ?_ rfl
 rotate_left
 ·rfl
 refine goE ?_
 refine ARun.p1 rfl rfl (pl_buildSlice (es:=[]) (by decide) Tryd.underlying25 sz3 (by kernel_rfl) (by decide) (by (simp +decide only [List.map,go_sem]<;>rfl)) (by (simp +decide only [List.map,go_sem]<;>rfl)) rfl) ?_
 refine goE ?_
 refine ARun.p1 rfl rfl (pl_appendL (b:=H.length) (tot:=0) (size:=1) (bytes:=8) (es:=l.map AV.int) (av:=.own b n 0 n) (blk:=⟨3,1,[]⟩) (by simp +decide only [go_sem, *]<;>rfl) (by simp +decide only [go_sem, *]<;>rfl) (Lend.int (ty:=3) (aH_get hb _) hn) (fun e he=>by obtain ⟨x,_,rfl⟩:=List.mem_map.1 he;exact ⟨_,rfl⟩) (by simp +decide only [go_sem, *]<;>rfl) rfl Tryd.underlying25 el3 rfl rfl (by simp;omega) (fun e he=>by obtain ⟨x,_,rfl⟩:=List.mem_map.1 he;exact ⟨rfl,rfl⟩) (by simp;omega) (by simp;omega)) ?_
 refine goE ?_
 exact RetH.same (vs:=[.own H.length n 0 n]) (by show resVals _ _ [.tmp 2]=_;simp +decide only [resVals,resVal,ldPtr,ldE,go_sem, *]<;>rfl) rfl rfl
def joinL (a b:List Int):List Int:=List.zipWith max a b
theorem joinL_len {a b:List Int} (h:a.length=b.length):(joinL a b).length=a.length:=by unfold joinL;rw [List.length_zipWith,h,Nat.min_self]
def joinK (a b:List Int) (k:Nat):List Int:=joinL (a.take k) (b.take k)++a.drop k
theorem joinK_all {a b:List Int} (h:a.length=b.length):joinK a b a.length=joinL a b:=by unfold joinK;rw [List.take_length,h,List.take_length,← h,List.drop_length,List.append_nil]
theorem joinK_len {a b:List Int} (h:a.length=b.length) {k:Nat} (hk:k≤a.length):(joinK a b k).length=a.length:=by
 unfold joinK;rw [List.length_append,joinL_len (by simp [h]),List.length_take,List.length_drop];omega
theorem joinK_at {a b:List Int} (h:a.length=b.length) {k:Nat} (hk:k<a.length):(joinK a b k)[k]?=some a[k]:=by
 unfold joinK
 have:(joinL (a.take k) (b.take k)).length=k:=by rw [joinL_len (by simp [h]),List.length_take];omega
 rw [List.getElem?_append_right (by omega),this,Nat.sub_self,List.getElem?_drop,Nat.add_zero,List.getElem?_eq_getElem hk]
theorem joinK_succ {a b:List Int} (h:a.length=b.length) {k:Nat} (hk:k<a.length):joinK a b (k+1)=(joinK a b k).set k (max a[k] (b[k]'(by omega))):=by
 have hk2:k<b.length:=by omega
 have hl:(joinL (a.take k) (b.take k)).length=k:=by rw [joinL_len (by simp [h]),List.length_take];omega
 have e1:joinL (a.take (k+1)) (b.take (k+1))=joinL (a.take k) (b.take k)++[max a[k] b[k]]:=by
  unfold joinL
  rw [List.take_succ_eq_append_getElem hk,List.take_succ_eq_append_getElem hk2,List.zipWith_append (by simp;omega)]
  rfl
 unfold joinK
 rw [e1,List.set_append_right _ _ (by omega),hl,Nat.sub_self,List.drop_eq_getElem_cons hk,List.set_cons_zero,List.append_assoc]
 rfl
theorem join_ok {H:List ABlk} {b c n:Nat} {l m:List Int} (hb:H[b]?=some (intB l)) (hc:H[c]?=some (intB m)) (hn:l.length=n) (hm:m.length=n) (h0:0<n) (h1:n≤1000000):FnH Tryd.prog 87 [.own b n 0 n,.own c n 0 n] H (.own H.length n 0 n) (H++[intB (joinL l m)]):=by
 have i1:=clone_ok hb hn h0 h1
 have hlm:l.length=m.length:=by omega
 have hc':=aH_get hc
 refine FnH.intro' [(0,.own b n 0 n),(1,.own c n 0 n)] 2 28 H.length Tryd.func87 (by kernel_rfl) rfl rfl rfl rfl rfl rfl ?_
 refine goF ?_
 refine ARun.p1 rfl rfl (pl_callW i1 (by simp) rfl (by simp +decide only [go_sem, *]<;>rfl) (by simp +decide only [go_sem, *]<;>rfl)) ?_
 refine goF ?_
 refine AWp.loop (J:=fun k:Nat=>k≤n) (fun k=>⟨[(5,.own H.length n 0 n),(10,.own c n 0 n),(11,.int n),(12,.int k)],H++[intB (joinK l m k)]⟩) (fun k=>n-k) 0 (Nat.zero_le _) .wf ?_
 rintro k hk
 have hjl:=joinK_len hlm (k:=k) (by omega)
 rw [hn] at hjl
 refine goF ?_
 refine ifA (fun hd=>?_) (fun hd=>?_)
 ·simp at hd
  have hjs:=joinK_succ hlm (k:=k) (by omega)
  have hja:=joinK_at hlm (k:=k) (by omega)
  have hm2:k<m.length:=by omega
  have hmk:(m.map AV.int)[k]?=some (.int m[k]):=gtM hm2
  generalize l[k]=x at *
  generalize m[k]=y at *
  generalize joinK l m k=A at *
  have hak:(A.map AV.int)[k]?=some (.int x):=by rw [List.getElem?_map,hja];rfl
  clear i1
  refine goF ?_
  refine ARun.q1 rfl rfl (ql_ixo (n:=k) (b:=c) (tot:=n) (len:=n) (blk:=intB m) (by simp +decide only [go_sem, *]<;>rfl) (by simp +decide only [go_sem, *]<;>rfl) Tryd.underlying25 (hc' _) (by simp [hm]) hd (by simp +decide only [go_sem, *]<;>rfl)) ?_
  refine goF ?_
  refine ARun.q1 rfl rfl (ql_ixo (n:=k) (b:=H.length) (tot:=n) (len:=n) (blk:=intB A) (by simp +decide only [go_sem, *]<;>rfl) (by simp +decide only [go_sem, *]<;>rfl) Tryd.underlying25 (by simp) (by simp [hjl]) hd (by simp +decide only [go_sem, *]<;>rfl)) ?_
  refine goF ?_
  refine ARun.q1 rfl rfl (ql_ixo (n:=k) (b:=H.length) (tot:=n) (len:=n) (blk:=intB A) (by simp +decide only [go_sem, *]<;>rfl) (by simp +decide only [go_sem, *]<;>rfl) Tryd.underlying25 (by simp) (by simp [hjl]) hd (by simp +decide only [go_sem, *]<;>rfl)) ?_
  refine goF ?_
  refine ARun.p1 rfl rfl (pl_store_own (f:=AV.int) (l:=A) (b:=H.length) (tot:=n) (i:=k) (ty:=3) (sz:=1) (max x y) (by simp +decide only [go_sem, *]<;>rfl) (by simp +decide only [go_sem, *]<;>rfl) (by simp) hjl (by omega) sz3 rfl rfl) ?_
  refine goF ?_
  rw [wrap_succ (by omega)]
  refine ⟨k+1,hd,by omega,?_⟩
  rw [hjs]
  exact .wf
 simp at hd
 obtain rfl:k=n:=by omega
 rw [show joinK l m k=joinL l m by rw [← hn];exact joinK_all hlm]
 refine goF ?_
 exact RetH.same (vs:=[.own H.length k 0 k]) (by show resVals _ _ [.tmp 4]=_;simp +decide only [resVals,resVal,ldPtr,ldE,go_sem, *]<;>rfl) rfl rfl
end Go.Ab
set_option maxHeartbeats 4000000
namespace Go.Ab
open Go Go.Ab Go.Proofs Go.Ab.Ty
theorem WF.k {s:PRun} (hw:WF s) {k:Nat} {t:PTask} (ht:s.tasks[k]?=some t):ix (.tsk k)<NN∧ix (.stk k)<NN∧ix (.kid k)<NN∧ix (.spn k)<NN∧k<s.tasks.length∧((List.range s.tasks.length).map ptK)[k]?=some (ptK k):=by
 have hk:k<s.tasks.length:=(List.getElem?_eq_some_iff.1 ht).1
 refine ⟨ix_lt (dom_inR hw (a:=.tsk k) hk),ix_lt (dom_inR hw (a:=.stk k) hk),ix_lt (dom_inR hw (a:=.kid k) hk),ix_lt (dom_inR hw (a:=.spn k) hk),hk,?_⟩
 rw [List.getElem?_map,List.getElem?_range hk];rfl
theorem WF.c {s:PRun} (hw:WF s) {j:Nat} {c:PCall} (hc:s.calls[j]?=some c):ix (.cal j)<NN∧ix (.vrs j)<NN:=by
 have hj:j<s.calls.length:=(List.getElem?_eq_some_iff.1 hc).1
 exact ⟨ix_lt (dom_inR hw (a:=.cal j) hj),ix_lt (dom_inR hw (a:=.vrs j) hj)⟩
theorem WF.p {s:PRun} (hw:WF s) {j:Nat} {l:List Int} (hc:s.pool[j]?=some l):ix (.clk j)<NN∧l.length=32:=by
 have hj:j<s.pool.length:=(List.getElem?_eq_some_iff.1 hc).1
 exact ⟨ix_lt (dom_inR hw (a:=.clk j) hj),hw.pl l (List.mem_of_getElem? hc)⟩
theorem GRun.gl {P:Program} {n:Fr} {HS:Nat→List ABlk} {m:Nat} {o:LOp} {l:List LOp} {sl:List (Option Nat)} {E:Env} {K:Env→Prop} {t:Tmp} {want:Bool} {L:List Bool} {v:AV} (hg:o.g=some (t,want)) (hd:dstOk n o.dst=true) (hb:gval want (lk E t)=some L)
 (h:allL L=true→∀c,c≤m→QL P (HS c) (fun x=>stripL L (ev E x)) o.op v) (hr:GRun P n HS m l sl K (putE E o.dst (wrapL L v))):GRun P n HS m (o::l) (none::sl) K E:=
 let ⟨E',h1,h2⟩:=hr
 ⟨E',.q o l sl E (wrapL L v) E' (fun c hc=>.gq t want L v hg hd hb fun ha=>by rw [show evF (lk E)=ev E from funext fun x=>(ev_eq E x).symm];exact h ha c hc) h1,h2⟩
theorem gG {P:Program} {n:Fr} {HS:Nat→List ABlk} {o:LOp} {l:List LOp} {sl:List (Option Nat)} {E:Env} {K:Env→Prop} {t:Tmp} {want:Bool} {L:List Bool} {v:AV} (hr:GRun P n HS 1 l sl K (putE E o.dst (wrapL L v))) (hg:o.g=some (t,want):=by rfl) (hd:dstOk n o.dst=true:=by rfl) (hb:gval want (lk E t)=some L:=by (simp +decide only [go_sem, *]<;>rfl))
 (h0:qfun P (HS 0) (fun x=>stripL L (ev E x)) o.op=some v:=by (simp +decide only [go_sem, *]<;>rfl)) (h1:qfun P (HS 1) (fun x=>stripL L (ev E x)) o.op=some v:=by (simp +decide only [go_sem, *]<;>rfl)):GRun P n HS 1 (o::l) (none::sl) K E:=
 .gl hg hd hb (fun _ c hc=>ql_fun (by rcases (by omega:c=0∨c=1) with h|h<;>subst h<;>assumption)) hr
theorem gX {P:Program} {n:Fr} {HS:Nat→List ABlk} {m:Nat} {o:LOp} {l:List LOp} {sl:List (Option Nat)} {E:Env} {K:Env→Prop} {t:Tmp} {want:Bool} {L:List Bool} {v:AV} (hr:GRun P n HS m l sl K (putE E o.dst (wrapL L v))) (hg:o.g=some (t,want):=by rfl) (hd:dstOk n o.dst=true:=by rfl) (hb:gval want (lk E t)=some L:=by (simp +decide only [go_sem, *]<;>rfl))
 (hx:allL L=false:=by (simp +decide only [go_sem,allL,Bool.false_and,Bool.and_false, *])):GRun P n HS m (o::l) (none::sl) K E:=
 .gl hg hd hb (fun h=>by rw [hx] at h;cases h) hr
abbrev stB (st:Stp):ABlk:=⟨70,6,[encS st]⟩
def room (s:PRun):Bool:=decide ((s.objs.length:Int)<200)
def objL (s:PRun) (n:Int):Int:=(s.objs.getD n.toNat (0,0)).2
def canF (s:PRun) (c:PCall) (st:Stp):Bool:=
 if st.op=1 then room s
 else if st.op=2 then setB c [st.w]&&(room s||decide (0≤objL s (c.vars.getD st.w.toNat 0)))
 else if st.op=3 then setB c [st.v,st.w]
 else if st.op=4∨st.op=5 then setB c [st.v]
 else if st.op=6 then bif setB c st.vars then decide ((s.tasks.length:Int)<32) else false
 else if st.op=8∨st.op=9 then setB c st.vars
 else true
structure Vok (s:PRun) (c:PCall) (st:Stp):Prop where
 v:(st.op=1∨st.op=2∨st.op=3∨st.op=4∨st.op=5)→inV c st.v
 w:(st.op=2∨st.op=3)→inV c st.w
 vs:(st.op=6∨st.op=8∨st.op=9)→∀v∈st.vars,inV c v
 ob:∀x∈c.vars,x<s.objs.length
 vl:st.vars.length≤1000
theorem RetH.runV {rs:List ResultVar} {n:Nat} {d:AV} {s':PRun} {E:Env} {H:List ABlk} {vs:List AV} (T:List ABlk) (hw:WF s') (hv:resVals Tryd.prog ⟨E,H⟩ rs=some vs) (hH:H=HH s'++T) (he:packA vs=d) (hd:RfA (·<NN) d):RetH Tryd.prog rs ⟨n,NN⟩ d (HH s') ⟨E,H⟩:=
 .run hw hv hH (by rw [he];exact hd.pub fun b hb=>pre_lt hb)
theorem can2 (a b:Bool):(bif a then true else b)=(a||b):=by cases a<;>rfl
theorem can_ok {s:PRun} (hw:WF s) {j:Nat} {c:PCall} {st:Stp} (hc:s.calls[j]?=some c) (hv:Vok s c st):FnH Tryd.prog 88 [ptR,encS st,ptC j] (HH s) (.bool (canF s c st)) (HH s):=by
 obtain ⟨hj,hj2⟩:=hw.c hc
 obtain ⟨R,hR⟩:∃R,R=canF s c st:=⟨_,rfl⟩
 rw [← hR]
 have i1:∀vs:List Int,(∀v∈vs,inV c v)→vs.length≤1000→FnH Tryd.prog 111 [ptC j,.lst (vs.map .int)] (HH s) (.bool (setB c vs)) (HH s):=fun vs h1 h2=>set_ok hw h1 (by omega) hc hj hj2
 have hrl:∀vs:List Int,∀a∈[ptC j,AV.lst (vs.map .int)],RfA (·<NN) a:=fun vs a ha=>by
  simp only [List.mem_cons,List.not_mem_nil,or_false] at ha
  rcases ha with rfl|rfl
  ·exact .ptr hj
  ·exact .pu (Pu_mapInt _)
 refine FnH.intro' [(0,ptR),(1,encS st),(2,ptC j)] 3 85 NN Tryd.func88 (by kernel_rfl) rfl rfl rfl rfl rfl (HH_len s) ?_
 obtain ⟨o,v,w,n,tk,vs⟩:=st
 obtain ⟨v1,v2,v3,v4,v5⟩:=hv
 simp only at v1 v2 v3 v5
 simp only [canF] at hR
 refine goF ?_
 refine ifA (fun h1=>?_) (fun h1=>?_)
 ·simp at h1
  rw [if_pos h1] at hR
  refine goF ?_
  rw [hR]
  clear hR i1 v1 v2 v3
  exact .runV [stB ⟨1,v,w,n,tk,vs⟩] hw (vs:=[.bool (room s)]) (by show resVals _ _ [.tmp 6]=_;simp +decide only [resVals,resVal,ldPtr,ldE,go_sem, *]<;>rfl) rfl rfl (.pu (.base _))
 simp at h1
 rw [if_neg h1] at hR
 refine goF ?_
 refine ifA (fun h2=>?_) (fun h2=>?_)
 ·simp at h2
  rw [if_pos h2] at hR
  have hw2:=v2 (.inl h2)
  have i2:=i1 [w] (by simp [hw2]) (by simp)
  obtain ⟨w0,w1⟩:=hw2
  obtain ⟨w',rfl⟩:∃w':Nat,w=w':=⟨_,(Int.toNat_of_nonneg w0).symm⟩
  rw [Int.toNat_natCast] at w1
  obtain ⟨x,hx⟩:∃x,c.vars[w']?=some x:=⟨_,List.getElem?_eq_getElem w1⟩
  have hvv:=vrsV_own (j:=j) hx
  have hidx:(c.vars.map AV.int)[w']?=some (.int x):=by rw [List.getElem?_map,hx];rfl
  have hxo:=v4 x (List.mem_of_getElem? hx)
  have hsx:setB c [(w':Int)]=!decide (x<0):=by simp [setB,List.getD_eq_getElem?_getD,hx]
  have hgd:c.vars.getD (w':Int).toNat 0=x:=by rw [Int.toNat_natCast,List.getD_eq_getElem?_getD,hx];rfl
  rw [hsx,hgd] at hR
  rw [hsx] at i2
  clear v1 v2 v3 hsx hgd h1 i1
  refine AWp.seq ?_
  by_cases hx0:x<0
  ·have hdx:decide (x<0)=true:=by simp [hx0]
   rw [hdx] at hR i2
   refine drS (k:=26) [none,none,none,none,some 0,none,none,none,none,none,none,none,none,none,none,none,none,none,none,none,none,none,none,none,none,none] (fun _=>HH s++[stB ⟨o,v,w',n,tk,vs⟩]) 1 follows ?_
   refine gS ?_
   refine gS ?_
   refine gS ?_
   refine GRun.q1 (v:=.lst [.int w']) rfl rfl (fun _ _=>ql_buildSlice (by decide) Tryd.underlying25 sz3 (by kernel_rfl) (by decide) (by (simp +decide only [List.map,go_sem, *]<;>rfl)) (by (simp +decide only [List.map,go_sem, *]<;>rfl)) rfl) ?_
   refine GRun.p1 (v:=.bool (false)) rfl rfl (fun ρ' h=>pl_callR hw hw i2 rfl ((h (.func 111) (by simp [Op.operands,Call.operands])).trans rfl) (by
    have e1:=(h (.tmp 21) (by simp [Op.operands,Call.operands])).trans (show _=ptC j by simp +decide only [go_sem, *]<;>rfl)
    have e2:=(h (.tmp 24) (by simp [Op.operands,Call.operands])).trans (show _=AV.lst [.int w'] by simp +decide only [go_sem, *]<;>rfl)
    simp only [List.map_cons,List.map_nil,e1,e2];rfl) (hrl _) (.pu (.base _))) ?_
   refine gS ?_
   refine gG ?_
   refine gG ?_
   refine gX (v:=.bad) ?_
   refine gX (v:=.bad) ?_
   refine gX (v:=.bad) ?_
   refine gX (v:=.bad) ?_
   refine gX (v:=.bad) ?_
   refine gX (v:=.bad) ?_
   refine gX (v:=.bad) ?_
   refine gX (v:=.bad) ?_
   refine gX (v:=.bad) ?_
   refine gX (v:=.bad) ?_
   refine gX (v:=.bad) ?_
   refine gX (v:=.bad) ?_
   refine gX (v:=.bad) ?_
   refine gX (v:=.bad) ?_
   refine gX (v:=.bad) ?_
   refine gX (v:=.bad) ?_
   refine gX (v:=.bool false) ?_
   refine gS ?_
   refine GRun.nil ?_
   refine goF ?_
   rw [hR]
   clear hR hrl i2
   exact .runV [stB ⟨2,v,w',n,tk,vs⟩] hw (vs:=[.bool false]) (by show resVals _ _ [.tmp 6]=_;simp +decide only [resVals,resVal,ldPtr,ldE,go_sem, *]<;>rfl) rfl (by simp [packA]) (.pu (.base _))
  have hdx:decide (x<0)=false:=by simp;omega
  rw [hdx] at hR i2
  obtain ⟨x',rfl⟩:∃x':Nat,x=x':=⟨_,(Int.toNat_of_nonneg (by omega)).symm⟩
  have hxl:x'<s.objs.length:=by omega
  obtain ⟨y,hy⟩:∃y,s.objs[x']?=some y:=⟨_,List.getElem?_eq_getElem hxl⟩
  have hyo:objL s (x':Int)=y.2:=by simp [objL,List.getD_eq_getElem?_getD,hy]
  have hyx:(s.objs.map encO)[x']?=some (encO y):=by rw [List.getElem?_map,hy];rfl
  rw [hyo] at hR
  clear hyo hdx hx0 v4
  refine drS (k:=26) [none,none,none,none,some 0,none,none,none,none,none,none,none,none,none,none,none,none,none,none,none,none,none,none,none,none,none] (fun _=>HH s++[stB ⟨o,v,w',n,tk,vs⟩]) 1 follows ?_
  refine gS ?_
  refine gS ?_
  refine gS ?_
  refine GRun.q1 (v:=.lst [.int w']) rfl rfl (fun _ _=>ql_buildSlice (by decide) Tryd.underlying25 sz3 (by kernel_rfl) (by decide) (by (simp +decide only [List.map,go_sem, *]<;>rfl)) (by (simp +decide only [List.map,go_sem, *]<;>rfl)) rfl) ?_
  refine GRun.p1 (v:=.bool (true)) rfl rfl (fun ρ' h=>pl_callR hw hw i2 rfl ((h (.func 111) (by simp [Op.operands,Call.operands])).trans rfl) (by
   have e1:=(h (.tmp 21) (by simp [Op.operands,Call.operands])).trans (show _=ptC j by simp +decide only [go_sem, *]<;>rfl)
   have e2:=(h (.tmp 24) (by simp [Op.operands,Call.operands])).trans (show _=AV.lst [.int w'] by simp +decide only [go_sem, *]<;>rfl)
   simp only [List.map_cons,List.map_nil,e1,e2];rfl) (hrl _) (.pu (.base _))) ?_
  refine gS ?_
  refine gG ?_
  refine gG ?_
  refine gG ?_
  refine gG ?_
  refine gG ?_
  refine gG ?_
  refine gG ?_
  refine gG ?_
  refine gG ?_
  refine gG ?_
  refine gG ?_
  refine gG ?_
  refine GRun.gl (L:=[true,!decide ((s.objs.length:Int)<200)]) (v:=.ptr (ix (.vrs j)) c.vars.length w' 0) rfl rfl (by simp +decide only [go_sem]<;>rfl) (fun _ _ _=>ql_ixo (n:=w') (by simp +decide only [go_sem, *]<;>rfl) (by simp +decide only [go_sem, *]<;>rfl) Tryd.underlying25 (by simp +decide only [go_sem, *]<;>rfl) (by simp) w1 (by simp +decide only [go_sem, *]<;>rfl)) ?_
  refine gG ?_
  refine GRun.gl (L:=[true,!decide ((s.objs.length:Int)<200)]) (v:=.ptr (ix .ob) s.objs.length x' 0) rfl rfl (by simp +decide only [go_sem]<;>rfl) (fun _ _ _=>ql_ixo (n:=x') (by simp +decide only [go_sem, *]<;>rfl) (by simp +decide only [go_sem, *]<;>rfl) Tryd.underlying79 (by simp +decide only [go_sem, *]<;>rfl) (by simp) hxl (by simp +decide only [go_sem, *]<;>rfl)) ?_
  refine gG ?_
  refine gG ?_
  refine gG ?_
  refine gG ?_
  refine gS ?_
  refine GRun.nil ?_
  refine goF ?_
  rw [hR]
  clear hR hrl i2
  exact .runV [stB ⟨2,v,w',n,tk,vs⟩] hw (vs:=[.bool (bif decide ((s.objs.length:Int)<200) then true else decide (0≤y.2))]) (by show resVals _ _ [.tmp 6]=_;simp +decide only [resVals,resVal,ldPtr,ldE,go_sem, *]<;>rfl) rfl (by rw [can2,Bool.not_false,Bool.true_and];unfold room;rfl) (.pu (.base _))
 simp at h2
 rw [if_neg h2] at hR
 refine goF ?_
 refine ifA (fun h3=>?_) (fun h3=>?_)
 ·simp at h3
  rw [if_pos h3] at hR
  have i2:=i1 [v,w] (by simp [v1 (by omega),v2 (by omega)]) (by simp)
  refine goF ?_
  refine ARun.p1 rfl rfl (pl_callR hw hw (T:=[stB ⟨3,v,w,n,tk,vs⟩]) i2 rfl (by simp +decide only [go_sem, *]<;>rfl) (by simp +decide only [go_sem, *]<;>rfl) (hrl _) (.pu (.base _))) ?_
  refine goF ?_
  rw [hR]
  clear hR i1 v1 v2 v3
  exact .runV [stB ⟨3,v,w,n,tk,vs⟩] hw (vs:=[.bool (setB c [v,w])]) (by show resVals _ _ [.tmp 6]=_;simp +decide only [resVals,resVal,ldPtr,ldE,go_sem, *]<;>rfl) rfl rfl (.pu (.base _))
 simp at h3
 rw [if_neg h3] at hR
 refine goF ?_
 have i2:(o=4∨o=5)→FnH Tryd.prog 111 [ptC j,.lst ([v].map .int)] (HH s) (.bool (setB c [v])) (HH s):=fun h=>i1 [v] (by simp [v1 (by omega)]) (by simp)
 refine ifA (fun h4=>?_) (fun h4=>?_)
 ·simp at h4
  rw [if_pos (.inl h4)] at hR
  replace i2:=i2 (.inl h4)
  refine goF ?_
  refine iftd_ rfl (by omega) ?_
  refine goF ?_
  refine ARun.p1 rfl rfl (pl_callR hw hw (T:=[stB ⟨4,v,w,n,tk,vs⟩]) i2 rfl (by simp +decide only [go_sem, *]<;>rfl) (by simp +decide only [go_sem, *]<;>rfl) (hrl _) (.pu (.base _))) ?_
  refine goF ?_
  rw [hR]
  clear hR i1 v1 v2 v3
  exact .runV [stB ⟨4,v,w,n,tk,vs⟩] hw (vs:=[.bool (setB c [v])]) (by show resVals _ _ [.tmp 6]=_;simp +decide only [resVals,resVal,ldPtr,ldE,go_sem, *]<;>rfl) rfl rfl (.pu (.base _))
 simp at h4
 refine goF ?_
 refine ifA (fun h5=>?_) (fun h5=>?_)
 ·simp at h5
  rw [if_pos (.inr h5)] at hR
  replace i2:=i2 (.inr h5)
  refine goF ?_
  refine ARun.p1 rfl rfl (pl_callR hw hw (T:=[stB ⟨5,v,w,n,tk,vs⟩]) i2 rfl (by simp +decide only [go_sem, *]<;>rfl) (by simp +decide only [go_sem, *]<;>rfl) (hrl _) (.pu (.base _))) ?_
  refine goF ?_
  rw [hR]
  clear hR i1 v1 v2 v3
  exact .runV [stB ⟨5,v,w,n,tk,vs⟩] hw (vs:=[.bool (setB c [v])]) (by show resVals _ _ [.tmp 6]=_;simp +decide only [resVals,resVal,ldPtr,ldE,go_sem, *]<;>rfl) rfl rfl (.pu (.base _))
 simp at h5
 rw [if_neg (by omega)] at hR
 refine goF ?_
 clear i2
 have i2:(o=6∨o=8∨o=9)→FnH Tryd.prog 111 [ptC j,.lst (vs.map .int)] (HH s) (.bool (setB c vs)) (HH s):=fun h=>i1 vs (v3 h) v5
 refine ifA (fun h6=>?_) (fun h6=>?_)
 ·simp at h6
  rw [if_pos h6] at hR
  replace i2:=i2 (.inl h6)
  refine goF ?_
  refine ARun.p1 rfl rfl (pl_callR hw hw (T:=[stB ⟨6,v,w,n,tk,vs⟩]) i2 rfl (by simp +decide only [go_sem, *]<;>rfl) (by simp +decide only [go_sem, *]<;>rfl) (hrl _) (.pu (.base _))) ?_
  refine goF ?_
  rw [hR]
  clear hR i1 v1 v2 v3
  exact .runV [stB ⟨6,v,w,n,tk,vs⟩] hw (vs:=[.bool (bif setB c vs then decide ((s.tasks.length:Int)<32) else false)]) (by show resVals _ _ [.tmp 6]=_;simp +decide only [resVals,resVal,ldPtr,ldE,go_sem, *]<;>rfl) rfl rfl (.pu (.base _))
 simp at h6
 rw [if_neg h6] at hR
 refine goF ?_
 refine ifA (fun h8=>?_) (fun h8=>?_)
 ·simp at h8
  rw [if_pos (.inl h8)] at hR
  replace i2:=i2 (.inr (.inl h8))
  refine goF ?_
  refine iftd_ rfl (by omega) ?_
  refine goF ?_
  refine ARun.p1 rfl rfl (pl_callR hw hw (T:=[stB ⟨8,v,w,n,tk,vs⟩]) i2 rfl (by simp +decide only [go_sem, *]<;>rfl) (by simp +decide only [go_sem, *]<;>rfl) (hrl _) (.pu (.base _))) ?_
  refine goF ?_
  rw [hR]
  clear hR i1 v1 v2 v3
  exact .runV [stB ⟨8,v,w,n,tk,vs⟩] hw (vs:=[.bool (setB c vs)]) (by show resVals _ _ [.tmp 6]=_;simp +decide only [resVals,resVal,ldPtr,ldE,go_sem, *]<;>rfl) rfl rfl (.pu (.base _))
 simp at h8
 refine goF ?_
 refine ifA (fun h9=>?_) (fun h9=>?_)
 ·simp at h9
  rw [if_pos (.inr h9)] at hR
  replace i2:=i2 (.inr (.inr h9))
  refine goF ?_
  refine ARun.p1 rfl rfl (pl_callR hw hw (T:=[stB ⟨9,v,w,n,tk,vs⟩]) i2 rfl (by simp +decide only [go_sem, *]<;>rfl) (by simp +decide only [go_sem, *]<;>rfl) (hrl _) (.pu (.base _))) ?_
  refine goF ?_
  rw [hR]
  clear hR i1 v1 v2 v3
  exact .runV [stB ⟨9,v,w,n,tk,vs⟩] hw (vs:=[.bool (setB c vs)]) (by show resVals _ _ [.tmp 6]=_;simp +decide only [resVals,resVal,ldPtr,ldE,go_sem, *]<;>rfl) rfl rfl (.pu (.base _))
 simp at h9
 rw [if_neg (by omega)] at hR
 refine goF ?_
 rw [hR]
 clear hR i1 v1 v2 v3
 exact .runV [stB ⟨o,v,w,n,tk,vs⟩] hw (vs:=[.bool true]) (by show resVals _ _ [.tmp 6]=_;simp +decide only [resVals,resVal,ldPtr,ldE,go_sem, *]<;>rfl) rfl rfl (.pu (.base _))
end Go.Ab
set_option maxHeartbeats 4000000
namespace Go.Ab
open Go Go.Ab Go.Proofs Go.Ab.Ty
structure Nx (s:PRun) (k:Nat) (t:PTask) (j:Nat) (c:PCall) (st:Stp):Prop where
 ht:s.tasks[k]?=some t
 hm:∃m,t.slen=m+1∧t.sarr[m]?=some j
 hc:s.calls[j]?=some c
 hi:∃i:Nat,c.pc=i∧c.code.steps[i]?=some st
theorem nextN {s:PRun} (hw:WF s) {k j:Nat} {t:PTask} {c:PCall} {st:Stp} (h:Nx s k t j c st):FnH Tryd.prog 86 [ptK k] (HH s) (.tup [encS st,ptC j]) (HH s):=by
 obtain ⟨m,h1,h2⟩:=h.hm
 obtain ⟨i,h3,h4⟩:=h.hi
 have hk:=hw.k h.ht
 have hc:=hw.c h.hc
 exact next_ok hw h.ht hk.1 hk.2.1 h1 h2 h.hc hc.1 h3 h4
def actOf (c:PCall) (st:Stp):Int:=if st.op=8 then st.n else c.actor
def hasN (s:PRun) (k:Nat) (a:Int) (i:Nat):Bool:=match s.tasks[i]? with
 | some t=>bif (i:Int) != (k:Int) then decide (t.has=a) else false
 | none=>false
def blkF (s:PRun) (k:Nat) (a:Int):Bool:=!decide (a<0)&&(List.range s.tasks.length).any (hasN s k a)
theorem blocked_ok {s:PRun} (hw:WF s) {k j:Nat} {t:PTask} {c:PCall} {st:Stp} (h:Nx s k t j c st):FnH Tryd.prog 110 [ptR,.int k] (HH s) (.bool (blkF s k (actOf c st))) (HH s):=by
 have i1:=nextN hw h
 have ht:=h.ht
 have hc:=h.hc
 obtain ⟨hk1,hk2,hk3,hk4,hkl,hrg⟩:=hw.k ht
 obtain ⟨hj,hj2⟩:=hw.c hc
 have hrl:∀a∈[ptK k],RfA (·<NN) a:=fun a ha=>by rw [List.mem_singleton] at ha;subst ha;exact .ptr hk1
 obtain ⟨R,hR⟩:∃R,R=blkF s k (actOf c st):=⟨_,rfl⟩
 rw [← hR]
 clear h
 refine FnH.intro' [(0,ptR),(1,.int k)] 2 54 NN Tryd.func110 (by kernel_rfl) rfl rfl rfl rfl rfl (HH_len s) ?_
 refine goF ?_
 refine ARun.q1 rfl rfl (ql_ixo (n:=k) (b:=ix .tk) (by simp +decide only [go_sem, *]<;>rfl) (by simp +decide only [go_sem, *]<;>rfl) Tryd.underlying80 (by simp +decide only [go_sem, *]<;>rfl) (by simp) hkl (by simp +decide only [go_sem, *]<;>rfl)) ?_
 refine goF ?_
 refine ARun.p1 rfl rfl (pl_callW i1 (Nat.le_refl _) rfl (by simp +decide only [go_sem, *]<;>rfl) (by simp +decide only [go_sem, *]<;>rfl)) ?_
 refine goF ?_
 have hlen:(HH s).length=NN:=HH_len s
 refine AWp.join ⟨[(0,ptR),(1,.int k),(7,.int (actOf c st))],HH s++[stB st]⟩ ?_ ?_
 ·refine ifA (fun h8=>?_) (fun h8=>?_)
  ·simp at h8
   refine goF ?_
   rw [show actOf c st=st.n by rw [actOf,if_pos h8]]
   rw [← h8]
   exact .wf
  simp at h8
  refine goF ?_
  rw [show actOf c st=c.actor by rw [actOf,if_neg h8]]
  exact .wf
 generalize actOf c st=a at *
 clear i1 ht hc hj hj2
 refine goF ?_
 refine ifA (fun ha=>?_) (fun ha=>?_)
 ·simp at ha
  rw [show R=false by rw [hR,blkF];simp [ha]]
  refine goF ?_
  exact .runV [stB st] hw (vs:=[.bool false]) (by show resVals _ _ [.tmp 4]=_;simp +decide only [resVals,resVal,ldPtr,ldE,go_sem, *]<;>rfl) rfl rfl (.pu (.base _))
 simp at ha
 have hR2:R=(List.range s.tasks.length).any (hasN s k a):=by rw [hR,blkF];simp;intro _ _ _;omega
 have hn32:=hw.nT
 refine goF ?_
 refine AWp.loop (J:=fun i:Nat=>i≤s.tasks.length∧Fst (fun x=>hasN s k a x=false) (List.range s.tasks.length) i) (fun i=>⟨[(0,ptR),(1,.int k),(7,.int a),(35,.own (ix .tk) s.tasks.length 0 s.tasks.length),(36,.int s.tasks.length),(37,.int i)],HH s++[stB st]⟩) (fun i=>s.tasks.length-i) 0 ⟨Nat.zero_le _,.zero _ _⟩ .wf ?_
 rintro i ⟨hi,he⟩
 refine goF ?_
 refine ifA (fun hd=>?_) (fun hd=>?_)
 ·simp at hd
  obtain ⟨ti,hti⟩:∃ti,s.tasks[i]?=some ti:=⟨_,List.getElem?_eq_getElem hd⟩
  obtain ⟨g1,g2,g3,g4,_,g6⟩:=hw.k hti
  have hh:hasN s k a i=bif (i:Int) != (k:Int) then decide (ti.has=a) else false:=by unfold hasN;rw [hti]
  have hsu:hasN s k a i=false→Fst (fun x=>hasN s k a x=false) (List.range s.tasks.length) (i+1):=fun hp=>he.succ (by rw [List.getElem?_range hd]) hp
  have hny:hasN s k a i=true→R=true:=fun hp=>by rw [hR2,List.any_eq_true];exact ⟨i,List.mem_range.2 hd,hp⟩
  clear he hR hR2
  refine goF ?_
  refine ARun.q1 rfl rfl (ql_ixo (n:=i) (b:=ix .tk) (by simp +decide only [go_sem, *]<;>rfl) (by simp +decide only [go_sem, *]<;>rfl) Tryd.underlying80 (by simp +decide only [go_sem, *]<;>rfl) (by simp) hd (by simp +decide only [go_sem, *]<;>rfl)) ?_
  refine goF ?_
  rw [← hh]
  refine ifA (fun hb=>?_) (fun hb=>?_)
  ·rw [hny hb]
   clear hny hsu hh
   refine goF ?_
   exact .runV [stB st] hw (vs:=[.bool true]) (by show resVals _ _ [.tmp 4]=_;simp +decide only [resVals,resVal,ldPtr,ldE,go_sem, *]<;>rfl) rfl rfl (.pu (.base _))
  clear hny
  refine goF ?_
  rw [wrap_succ (by omega)]
  exact ⟨i+1,⟨hd,hsu hb⟩,by omega,.wf⟩
 simp at hd
 obtain rfl:i=s.tasks.length:=by omega
 rw [show R=false by rw [hR2,List.any_eq_false];exact fun x hx=>by simp [he.all (by simp) x hx]]
 refine goF ?_
 exact .runV [stB st] hw (vs:=[.bool false]) (by show resVals _ _ [.tmp 4]=_;simp +decide only [resVals,resVal,ldPtr,ldE,go_sem, *]<;>rfl) rfl rfl (.pu (.base _))
end Go.Ab
