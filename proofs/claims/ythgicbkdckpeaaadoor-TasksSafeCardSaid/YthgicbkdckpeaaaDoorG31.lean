/- Part of the proof. -/
import Derived.Test.YthgicbkdckpeaaaDoorG30
set_option linter.unusedSimpArgs false
set_option linter.unusedVariables false
set_option maxHeartbeats 4000000
namespace Go.Ab
open Go Go.Ab Go.Proofs Go.Ab.Ty Go.RowKit
attribute [local go_sem] Oper.semAt_some
theorem wp_seq_awp {P:Program} {n:Fr} {w0:Base} {O:Nat→Prop} {x y:Code} {S0:ASt} (S1:ASt) {ι:Nat→Option Nat} {a:Act} {w:World} {Q:Exit→Act→World→Prop} (hs:SR n w0 O S0 ι a w) (h:AWp P n x (fun e s'=>e=.normal∧Wk n s' S1) S0)
 (hk:∀ι a w,SR n w0 O S1 ι a w→y.wp P Q a w):(Code.seq x y).wp P Q a w:=by
 refine wp_seq (wp_mono (h w0 O ι a w hs) ?_)
 rintro e a w ⟨s',ι',⟨rfl,h1⟩,h2⟩
 obtain ⟨ι2,h3⟩:=h1 _ _ _ _ _ h2
 exact hk ι2 a w h3
theorem ran_tail {fn:Func} {a:Act} {W2:World} {D x7:Nat} {u:Value} {R:Ending→World→Prop} (hfn:fn.results=#[.tmp 4,.tmp 5]) (h25:a.tmps.size=25) (h7:a.tmps[7]?=some (.pointer (some ⟨x7,0,none⟩))) (hD:W2.heap[D]?=some (.deferred (some []))) (hx:W2.cell? ⟨x7,0,none⟩=some u)
 (hR:R (.returned (.tuple #[u,.int .i64 0])) (W2.putObj D (.deferred none))) :
 (Code.seq (.region 8 #[{ dst:=some 24,op:=.load 76 (.tmp 7),type:=76,pos:="tasks.go:443",after:=#[],guard:=none },{ dst:=some 4,op:=.assign (.tmp 24),type:=76,pos:="tasks.go:443",after:=#[{ on:=0,ground:=.data },{ on:=0,ground:=.phase }],guard:=none },{ dst:=some 5,op:=.assign (.const (.int .i64 0)),type:=33,pos:="tasks.go:443",after:=#[{ on:=1,ground:=.chain },{ on:=0,ground:=.phase },{ on:=1,ground:=.phase }],guard:=none }] false) .ret).wp Tryd.prog (bodyPostM Fence.wide 1 Tryd.prog fn R) { tmps:=a.tmps,defers:=[{ target:=.collected D,args:=#[] }] } W2:=by
 obtain ⟨T,DD⟩:=a
 simp only at h25 h7
 obtain ⟨v0,v1,v2,v3,v4,v5,v6,v7,v8,v9,v10,v11,v12,v13,v14,v15,v16,v17,v18,v19,v20,v21,v22,v23,v24,rfl⟩:=arr25 h25
 simp at h7
 subst h7
 refine (wpIn_wide (n:=1)).1 ?_
 gi_wp2
 refine ⟨by simp,.inl ⟨D,_,rfl,run_takeDeferred hD,_,?_,hR⟩⟩
 simp [results,hfn]
theorem ran_ok {mm:List (Nat × Obj)} {G:PRun→Prop} (hG:RunG mm G) {p:Tk} {sched:List Int} {s0 R:PRun} (h0:G s0) (hR:R=runF (2001-s0.turns.length) s0) (hle:s0.turns.length≤2000) (hwR:WF R)
 (hck:Fn Tryd.prog 59 [encT p,.lst (sched.map .int)] (.int 0)) (hnw:FnH Tryd.prog 60 [encT p,.lst (sched.map .int)] [] ptR (HH s0)) :
 FnHM Tryd.prog mm 39 [encT p,.lst (sched.map .int)] [] (.tup [ptR,.int 0]) (HH R):=by
 have hw0:=hG.wf s0 h0
 have irun:=runm_ok hw0
 have hl0:=HH_len s0
 have hnn:Hid (NN+1=NN+1):=⟨rfl⟩
 refine ⟨⟨_,Tryd.func39,by kernel_rfl,rfl⟩,fun w O ι vs hS hmem hl hv=>?_⟩
 refine callsIn_wide.1 (callsIn_of_wp_marks (F:=Fence.wide) (n:=1) Tryd.func39 (c:=_) (by rfl) trivial ?_)
 refine wpIn_wide.2 ?_
 have hs:SR ⟨25,0⟩ ⟨w,rng ι [],[],ι⟩ O ⟨[(0,encT p),(1,.lst (sched.map .int)),(memSlot,.mem mm)],[]⟩ ι { tmps:=vs++Array.replicate (25-vs.size) undef,defers:=[] } w:=by
  have hl2:vs.size=2:=hl
  refine ⟨hS,rfl,by simp;omega,rfl,fun t=>?_⟩
  show VR _ _ _ _ (lk (([encT p,.lst (sched.map .int)].zipIdx 0).map (fun (a,i)=>(i,a))++[(memSlot,.mem mm)]) t) _
  rw [lk_argsX [encT p,.lst (sched.map .int)] 0 t]
  split
  ·rename_i htt
   simp only [Nat.sub_zero]
   have htl:t<[encT p,AV.lst (sched.map .int)].length:=by omega
   rw [List.getElem?_eq_getElem htl,Option.getD_some]
   have hu:vs[t]?=some vs[t]:=Array.getElem?_eq_getElem (by simp at htl;omega)
   have h1:=hv t _ _ (List.getElem?_eq_getElem htl) hu
   rw [Array.getD_eq_getD_getElem?,Array.getElem?_append_left (by simp at htl;omega),hu]
   exact h1
  ·show VR _ _ _ _ (if memSlot=t then AV.mem mm else .bad) _
   split
   ·exact .mem _ _ hmem
   ·exact .bad _
 refine wp_seq_awp ⟨[(1,.lst (sched.map .int)),(2,.iptr (encT p) 0),(memSlot,.mem mm)],[]⟩ hs ?_ fun ι a w2 hs=>?_
 ·refine goF ?_
  exact ⟨rfl,Wk.selB [] List.nodup_nil (fun b hb=>by simp at hb) trivial (WkR.all ⟨.pu (Pu_mapInt _),.iptr rfl rfl rfl rfl ⟨.pu (Pu_mapC _),.pu (Pu_mapC _),.pu (.base _),trivial⟩,.pu (.mem _),trivial⟩)⟩
 refine wp_seq_awp ⟨[(1,.lst (sched.map .int)),(2,.iptr (encT p) 0),(memSlot,.mem mm)],[]⟩ hs ?_ fun ι a w3 hs=>?_
 ·refine goF ?_
  refine callA (hck) ?_
  refine goF ?_
  refine iff_ ?_ rfl (by simp +decide only [go_sem, *]<;>rfl)
  refine goF ?_
  exact ⟨rfl,.wf⟩
 refine wp_seq_awp ⟨[(7,.ptr NN 1 0 0),(memSlot,.mem mm)],HH s0++[rpB]⟩ hs ?_ fun ι a w4 hs=>?_
 ·refine goF ?_
  refine ARun.p1 rfl rfl (pl_callW hnw (Nat.zero_le _) rfl (by simp +decide only [go_sem, *]<;>rfl) (by simp +decide only [go_sem, *]<;>rfl)) ?_
  refine goF ?_
  refine ⟨rfl,?_⟩
  simp only [hl0]
  exact .wf (hH:=by simp +decide only [go_sem, *]<;>rfl)
 refine wp_seq ?_
 refine wp_seq_awp ⟨[(7,.ptr NN 1 0 0),(19,.clo 84 [.ptr (NN+1) 1 0 0]),(memSlot,.mem mm)],HH s0++TT⟩ hs ?_ fun ι a w5 hs=>?_
 ·have hcE:CallE (List.range NN) (HH s0++[rpB]) (HH s0) (HH s0++[rpB]) (HH s0++[rpB]++[rpB]):=.preN hl0 (HH_rn hw0) (TT_rf _ (by simp))
  have hcl:MvR (rb (List.range NN) (HH s0++[rpB]).length) (HH s0++[rpB]) (.clo 84 [.ptr NN 1 0 0]) (.clo 84 [.ptr (NN+1) 1 0 0]):=.clo rfl fun j c d h1 h2=>by
   cases j with
   | zero =>
     cases h1;cases h2
     refine .ptr ?_
     unfold rb
     rw [List.length_range,if_neg (by omega),List.length_append,hl0]
     simp
   | succ j=>cases h1
  refine goF ?_
  refine ARun.p1 rfl rfl (pl_callH irun hcE rfl (by simp +decide only [go_sem, *]<;>rfl) (args:=[ptR]) ?_ hcl) ?_
  ·exact ⟨.ptr (by rw [ro_range2,if_pos ixl_rn]),trivial⟩
  refine goF ?_
  exact ⟨rfl,.wf (hH:=by rw [List.append_assoc];rfl)⟩
 refine ran_loop hG h0 hR hle hs rfl rfl rfl fun W2 ι2 x7 u hD hsz hsit h7 hx hu=>?_
 refine ran_tail (fn:=Tryd.f39) rfl hs.size h7 hD hx ?_
 have hnsD:∀c ty fz,W2.heap[w5.heap.size]?≠some (.cells c ty fz):=fun c ty fz e=>by rw [hD] at e;cases e
 have hg:=Goes.put (o:=Obj.deferred none) (H:=HH R++TT) (ι:=ι2) (O:=andTwo O w5) (W:=W2) (.inr (.inl rfl)) hnsD
 have q1:=hsit.putN (l:=w5.heap.size) (o:=.deferred none) (.inr (.inl rfl)) hsz hnsD
 have q2:Sit _ O ι2 (HH R++TT) _:=q1.lessO fun x hx=>.inl hx
 have hsel:Sel 0 (pre NN) id (HH R++TT) (HH R):=.pre (by simp [HH_len]) (Nat.zero_le _) (HH_len R) fun j b1 b2 h1 h2=>by
  have hj:=(List.getElem?_eq_some_iff.1 h2).1
  rw [List.getElem?_append_left hj,h2] at h1
  injection h1 with h1;subst h1
  refine ⟨rfl,rfl,rfl,fun i e e2 h3 h4=>?_⟩
  rw [h3] at h4;injection h4 with h4;subst h4
  refine ⟨rfl,fun k c c2 h5 h6=>?_⟩
  rw [h5] at h6;injection h6 with h6;subst h6
  exact (HH_rn hwR b2 (List.mem_of_getElem? h2) e (List.mem_of_getElem? h3) c (List.mem_of_getElem? h5)).pub fun b hb=>pre_lt hb
 refine ⟨_,_,rfl,q2.sel rfl hsel,?_⟩
 have hu2:VR (W2.putObj w5.heap.size (.deferred none)) (OO O ι2 (HH R++TT)) ι2 (HH R++TT) ptR u:=(hu.mono hg).lessO fun x hx=>hx.elim (fun h=>.inl (.inl h)) .inr
 refine .tup [ptR,.int 0] #[u,.int .i64 0] rfl fun j c v hc hv=>?_
 rcases j with _|_|j
 ·cases hc;cases hv
  exact PubR.ptr (r:=pre NN) (pre_lt ixl_rn) (HH R) _ _ O ι2 _ u q2 (hsel.view ι2) hu2
 ·cases hc;cases hv
  exact .base _
 ·cases hc
end Go.Ab
