/- Calls that change own memory where memory holds the library's tables. -/
import Derived.RangeFuncRecord
import Derived.Test.YthgicbkdckpeaaaDoorG13
set_option linter.unusedSimpArgs false
set_option linter.unusedVariables false
namespace Go.Ab
open Go Go.RowKit
def FnHM (P:Program) (m:List (Nat × Obj)) (f:FuncId) (args:List AV) (H:List ABlk) (d:AV) (H':List ABlk):Prop:=
 (∃ fn,P.funcs[f]? = some fn ∧ (fn.name == "runtime.NumGoroutine") = false ∧ fn.body.isNone = false) ∧
 ∀ (w:World) (O:Nat→Prop) (ι:Nat→Option Nat) (vs:Array Value),Sit ⟨w,rng ι H,H,ι⟩ O ι H w→(∀ p ∈ m,¬ OO O ι H p.1 ∧ w.heap[p.1]? = some p.2)→vs.size = args.length →
  (∀ (j:Nat) (a:AV) (u:Value),args[j]? = some a→vs[j]? = some u→VR w (OO O ι H) ι H a u) →
  Calls P f vs w fun e w'=>∃ v ι',e = .returned v ∧ Sit ⟨w,rng ι H,H,ι⟩ O ι' H' w' ∧ VR w' (OO O ι' H') ι' H' d v
theorem FnH.m {P:Program} {m:List (Nat × Obj)} {f:FuncId} {args:List AV} {d:AV} {H H':List ABlk} (h:FnH P f args H d H'):FnHM P m f args H d H':=⟨h.1,fun w O ι vs hS _=>h.2 w O ι vs hS⟩
section
variable {P:Program}
theorem lk_argsX {X:Env}:∀ (l:List AV) (k t:Nat),lk ((l.zipIdx k).map (fun (a,i)=>(i,a)) ++ X) t = if k ≤ t ∧ t < k + l.length then (l[t - k]?).getD .bad else lk X t:=by
 intro l
 induction l with
 | nil=>intro k t;simp;intro h1 h2;omega
 | cons x l ih =>
   intro k t
   simp only [List.zipIdx_cons,List.map_cons,List.cons_append,lk,ih,List.length_cons]
   split
   ·rename_i e;subst e;simp
   ·rename_i e
    by_cases hlt:k ≤ t ∧ t < k + (l.length + 1)
    ·rw [if_pos (by omega),if_pos hlt,show t - k = (t - (k + 1)) + 1 by omega];rfl
    ·rw [if_neg (by omega),if_neg hlt]
theorem FnHM.intro {m:List (Nat × Obj)} {f:FuncId} {fn:Func} {c:Code} {args:List AV} {d:AV} {H H':List ABlk} (hf:P.funcs[f]? = some fn) (hn:(fn.name == "runtime.NumGoroutine") = false) (hb:fn.body = some c) (ha:args.length ≤ fn.ntmps) (hms:fn.ntmps ≤ memSlot)
 (h:AWp P ⟨fn.ntmps,H.length⟩ c (retHQ P fn.results.toList ⟨fn.ntmps,H.length⟩ d H') ⟨(args.zipIdx.map fun (a,i)=>(i,a)) ++ [(memSlot,.mem m)],H⟩):FnHM P m f args H d H':=by
 refine ⟨⟨fn,hf,hn,by rw [hb];rfl⟩,fun w O ι vs hS hmem hl hv=>?_⟩
 refine calls_of_wp hf hb ?_
 have hs:SR ⟨fn.ntmps,H.length⟩ ⟨w,rng ι H,H,ι⟩ O ⟨(args.zipIdx.map fun (a,i)=>(i,a)) ++ [(memSlot,.mem m)],H⟩ ι { tmps:=vs ++ Array.replicate (fn.ntmps - vs.size) undef,defers:=[] } w:=by
  refine ⟨hS,rfl,by simp;omega,rfl,fun t=>?_⟩
  show VR _ _ _ _ (lk (args.zipIdx.map (fun (a,i)=>(i,a)) ++ [(memSlot,.mem m)]) t) _
  rw [lk_argsX args 0 t]
  split
  ·rename_i htt
   simp only [Nat.sub_zero]
   have htl:t < args.length:=by omega
   rw [List.getElem?_eq_getElem htl,Option.getD_some]
   have hu:vs[t]? = some vs[t]:=Array.getElem?_eq_getElem (by omega)
   have h1:=hv t _ _ (List.getElem?_eq_getElem htl) hu
   rw [Array.getD_eq_getD_getElem?,Array.getElem?_append_left (by omega),hu]
   exact h1
  ·show VR _ _ _ _ (if memSlot = t then AV.mem m else .bad) _
   split
   ·exact .mem _ _ hmem
   ·exact .bad _
 refine wp_mono (h _ O ι _ w hs) ?_
 have fin:∀ (s':ASt) (ι':Nat→Option Nat) (a:Act) (w':World),RetH P fn.results.toList ⟨fn.ntmps,H.length⟩ d H' s'→SR ⟨fn.ntmps,H.length⟩ ⟨w,rng ι H,H,ι⟩ O s' ι' a w' →
  a.defers = [] ∧ ∃ v,(results fn a.tmps).run P w' = .ok v w' ∧ ∃ v' ι2,Ending.returned v = .returned v' ∧ Sit ⟨w,rng ι H,H,ι⟩ O ι2 H' w' ∧ VR w' (OO O ι2 H') ι2 H' d v':=by
  rintro s0 ι0 a w' ⟨s',rs,r,q,hw,h1,h2,h3⟩ hs0
  obtain ⟨ι',hs'⟩:=hw _ _ _ _ _ hs0
  obtain ⟨u,h4,h5⟩:=results_run hs' h1
  exact ⟨hs'.defers,u,h4,u,_,rfl,hs'.sit.sel hs'.hand h2,h3 H' _ w' O ι' _ u hs'.sit (h2.view ι') h5⟩
 rintro e a w' ⟨s',ι',h1,h2⟩
 cases e with
 | normal=>exact fin s' ι' a w' h1 h2
 | ret=>exact fin s' ι' a w' h1 h2
 | _=>exact h1.elim
theorem FnHM.intro' {m':List (Nat × Obj)} {f:FuncId} {fn:Func} {c:Code} {args:List AV} {d:AV} {H H':List ABlk} (E:Env) (m n k:Nat) (hf:P.funcs[f]? = some fn) (hn:(fn.name == "runtime.NumGoroutine") = false) (hb:fn.body = some c)
 (hm:args.length = m) (hnt:fn.ntmps = n) (ha:Nat.ble m n = true) (hms:Nat.ble n memSlot = true) (hE:args.zipIdx.map (fun (a,i)=>(i,a)) = E) (hk:H.length = k)
 (h:AWp P ⟨n,k⟩ c (retHQ P fn.results.toList ⟨n,k⟩ d H') ⟨E ++ [(memSlot,.mem m')],H⟩):FnHM P m' f args H d H':=by
 refine FnHM.intro hf hn hb (by rw [hm,hnt];exact Nat.le_of_ble_eq_true ha) (by rw [hnt];exact Nat.le_of_ble_eq_true hms) ?_
 rw [hE,hnt,hk];exact h
end
section
variable {P:Program} {HC:List ABlk}
theorem pl_callHM {m:List (Nat × Obj)} {ρ:Operand→AV} {c:Call} {fx:Operand} {f:FuncId} {caps args:List AV} {d d':AV} {e:List Nat} {H H' HC':List ABlk} (hf:FnHM P m f args H d H') (hmm:MemIn m ρ) (hE:CallE e HC H H' HC') (hc:c.callee = .value fx)
 (hfx:ρ fx = .clo f caps) (ha:MvL (ro e) HC (c.args.toList.map ρ ++ caps) args) (hd:MvR (rb e HC.length) H' d d'):PL P HC ρ (.call c) d' HC':=by
 intro o ho w0 O ι a w hs hv K Q hK
 obtain ⟨⟨fn,g1,g2,g3⟩,g4⟩:=hf
 have h5:=hv fx
 rw [hfx] at h5
 generalize hX:a.eval fx = X at h5
 cases h5 with
 | clo f caps arr hlen hcap =>
 have hargs:∀ (j:Nat) (x:AV) (u:Value),(c.args.toList.map ρ ++ caps)[j]? = some x→(c.args.map a.eval ++ arr)[j]? = some u→VR w (OO O ι HC) ι HC x u:=by
  intro j x u hx hu
  rw [List.getElem?_append] at hx
  rw [Array.getElem?_append] at hu
  simp only [List.length_map,Array.length_toList,Array.size_map] at hx hu
  split at hx
  ·rename_i hj
   rw [if_pos hj] at hu
   simp only [List.getElem?_map,Array.getElem?_map,Array.getElem?_toList,Option.map_eq_some_iff] at hx hu
   obtain ⟨y,hy,rfl⟩:=hx
   obtain ⟨z,hz,rfl⟩:=hu
   rw [hy] at hz;cases hz
   exact hv y
  ·rename_i hj
   rw [if_neg hj] at hu
   exact hcap _ _ _ hx hu
 have hrun:(execOp a.eval o).run P w = .ok (.enter f (c.args.map a.eval ++ arr)) w:=by
  unfold execOp
  rw [ho]
  simp only [resolve,hc,Deferred.ofValue,hX,Sem.run_bind,Sem.run_pure,Result.andThen_ok,invoke,Array.empty_append,callFunc_run g1 g2 g3]
 -- the callee's numbers
 let ι1:Nat→Option Nat:=fun j=>(e[j]?).bind ι
 have hι1:∀ j b,e[j]? = some b→ι1 j = ι b:=fun j b h=>by simp [ι1,h]
 have hjlt:∀ j,j < H.length→∃ b,e[j]? = some b:=fun j hj=>⟨_,List.getElem?_eq_getElem (by rw [hE.len];exact hj)⟩
 have hblt:∀ j b,e[j]? = some b→b < HC.length:=fun j b h=>by
  obtain ⟨bc,bk,h1,_⟩:=hE.inn j b h
  exact (List.getElem?_eq_some_iff.1 h1).1
 have huniq:∀ i j b,e[i]? = some b→e[j]? = some b→i = j:=fun i j b h1 h2=>by
  obtain ⟨h1l,h1e⟩:=List.getElem?_eq_some_iff.1 h1
  obtain ⟨h2l,h2e⟩:=List.getElem?_eq_some_iff.1 h2
  exact (List.getElem_inj hE.one).1 (h1e.trans h2e.symm)
 have hlt:∀ b x,b < HC.length→ι b = some x→x < w.heap.size:=fun b x hb hx=>(hs.heap b _ x (List.getElem?_eq_getElem hb) hx).2.lt
 have hrngI:∀ x,rng ι1 H x ↔ ∃ j b,e[j]? = some b ∧ ι b = some x:=fun x=>by
  constructor
  ·rintro ⟨j,hj,hx⟩
   obtain ⟨b,hb⟩:=hjlt j hj
   exact ⟨j,b,hb,by rw [← hι1 j b hb];exact hx⟩
  ·rintro ⟨j,b,hb,hx⟩
   exact ⟨j,by rw [← hE.len];exact (List.getElem?_eq_some_iff.1 hb).1,by rw [hι1 j b hb];exact hx⟩
 let O1:Nat→Prop:=fun x=>OO O ι HC x ∧ ¬ rng ι1 H x
 have hOO1:∀ x,OO O1 ι1 H x ↔ OO O ι HC x:=fun x=>by
  constructor
  ·rintro (h | h)
   ·exact h.1
   ·obtain ⟨j,b,hb,hx⟩:=(hrngI x).1 h
    exact .inr ⟨b,hblt j b hb,hx⟩
  ·intro h
   by_cases hr:rng ι1 H x
   ·exact .inr hr
   ·exact .inl ⟨h,hr⟩
 have hidx:Idx (ro e) ι ι1 HC H:=fun b j blk hr hb=>by
  have hj:=ro_some hr
  obtain ⟨bc,bk,k1,k2,k3,k4,k5,_⟩:=hE.inn j b hj
  rw [hb] at k1;injection k1 with k1;subst k1
  exact ⟨bk,k2,k5,k4,hι1 j b hj⟩
 have hS1:Sit ⟨w,rng ι1 H,H,ι1⟩ O1 ι1 H w:=by
  refine ⟨fun j bk x h1 h2=>⟨.inr ⟨j,(List.getElem?_eq_some_iff.1 h1).1,h2⟩,?_⟩,fun j bk h1 h2=>?_,fun i j x hi hj h1 h2=>?_,Bel.refl ..,fun x hx=>?_,fun x j hO hj hx=>hO.2 ⟨j,hj,hx⟩,.refl ..⟩
  ·obtain ⟨b,hb⟩:=hjlt j (List.getElem?_eq_some_iff.1 h1).1
   obtain ⟨bc,bk',k1,k2,k3⟩:=hE.inn j b hb
   rw [h1] at k2;injection k2 with k2;subst k2
   exact k3.br hOO1 hidx (hs.heap b bc x k1 (by rw [← hι1 j b hb];exact h2)).2
  ·obtain ⟨b,hb⟩:=hjlt j (List.getElem?_eq_some_iff.1 h1).1
   obtain ⟨bc,bk',k1,k2,k3,k4,k5,_⟩:=hE.inn j b hb
   rw [h1] at k2;injection k2 with k2;subst k2
   have:=hs.empt b bc k1 (by rw [← hι1 j b hb];exact h2)
   rw [this] at k5
   exact List.eq_nil_of_length_eq_zero k5
  ·obtain ⟨b,hb⟩:=hjlt i hi
   obtain ⟨b',hb'⟩:=hjlt j hj
   rw [hι1 i b hb] at h1;rw [hι1 j b' hb'] at h2
   have:=hs.inj b b' x (hblt i b hb) (hblt j b' hb') h1 h2
   subst this
   exact huniq i j b hb hb'
  ·rcases hx.1 with h | ⟨b,hb,hx⟩
   ·exact hs.old x h
   ·exact hlt b x hb hx
 unfold Oper.wp
 rw [hrun,Oper.upon_enter]
 refine (g4 w O1 ι1 (c.args.map a.eval ++ arr) hS1 (fun p hp=>⟨fun h=>(hmm.get (hv (.tmp memSlot)) p hp).1 ((hOO1 p.1).1 h),(hmm.get (hv (.tmp memSlot)) p hp).2⟩) (by have:=ha.len;simp only [List.length_append,List.length_map,Array.length_toList] at this;simp [hlen,← this]) fun j x u hx hu=>?_).mono ?_
 ·have hj:j < (c.args.toList.map ρ ++ caps).length:=by rw [ha.len];exact (List.getElem?_eq_some_iff.1 hx).1
  have h1:=List.getElem?_eq_getElem hj
  exact (ha.get j _ x h1 hx H w _ ι ι1 u hidx (hargs j _ u h1 hu)).lessO fun y hy=>(hOO1 y).1 hy
 rintro ex w' ⟨v,ι2,rfl,hS2,hv2⟩
 -- back to the caller's numbers
 let ι3:Nat→Option Nat:=fun b=>match ro e b with
  | some j=>ι2 j
  | none=>if b < HC.length then ι b else ι2 (H.length + (b - HC.length))
 have hroE:∀ j b,e[j]? = some b→ro e b = some j:=fun j b h=>by
  cases hr:ro e b with
  | none =>
    unfold ro at hr
    rw [List.findIdx?_eq_none_iff] at hr
    have:=hr b (List.mem_of_getElem? h)
    simp at this
  | some j'=>rw [huniq j' j b (ro_some hr) h]
 have hroN:∀ b,b ∉ e→ro e b = none:=fun b h=>by
  cases hr:ro e b with
  | none=>rfl
  | some j=>exact absurd (List.mem_of_getElem? (ro_some hr)) h
 have i3e:∀ j b,e[j]? = some b→ι3 b = ι2 j:=fun j b h=>by simp only [ι3,hroE j b h]
 have i3s:∀ b,b < HC.length→b ∉ e→ι3 b = ι b:=fun b hb h=>by simp only [ι3,hroN b h,hb,if_true]
 have hmem:∀ b,b ∈ e→b < HC.length:=fun b h=>by
  obtain ⟨j,hj⟩:=List.getElem?_of_mem h
  exact hblt j b hj
 have i3n:∀ k,ι3 (HC.length + k) = ι2 (H.length + k):=fun k=>by
  simp only [ι3,hroN (HC.length + k) fun h=>by have:=hmem _ h;omega]
  rw [if_neg (by omega),Nat.add_sub_cancel_left]
 have hrb:∀ j,j < H'.length→∃ b,rb e HC.length j = some b ∧ ι3 b = ι2 j ∧ b < HC'.length:=fun j hj=>by
  unfold rb
  by_cases h:j < e.length
  ·rw [if_pos h,List.getElem?_eq_getElem h]
   have h1:=List.getElem?_eq_getElem h
   exact ⟨_,rfl,i3e j _ h1,by have:=hblt j _ h1;rw [hE.len2];omega⟩
  ·rw [if_neg h]
   refine ⟨_,rfl,?_,?_⟩
   ·rw [i3n,hE.len];congr 1;have:=hE.len;omega
   ·rw [hE.len2];have:=hE.len;omega
 have hidx3:Idx (rb e HC.length) ι2 ι3 H' HC':=fun j b bk hr hb=>by
  obtain ⟨bc,k1,k2,k3,k4,_⟩:=hE.out j b bk hr hb
  obtain ⟨b',h1,h2,_⟩:=hrb j (List.getElem?_eq_some_iff.1 hb).1
  rw [hr] at h1;injection h1 with h1;subst h1
  exact ⟨bc,k1,k4,k3,h2⟩
 -- every block of the caller is one that stayed, or one of the callee's
 have hwhat:∀ b,b < HC'.length→(b < HC.length ∧ b ∉ e) ∨ ∃ j,j < H'.length ∧ rb e HC.length j = some b:=fun b hb=>by
  by_cases h:b < HC.length
  ·by_cases hbe:b ∈ e
   ·obtain ⟨j,hj⟩:=List.getElem?_of_mem hbe
    have hjl:=(List.getElem?_eq_some_iff.1 hj).1
    exact .inr ⟨j,by have:=hE.len;have:=hE.le;omega,by unfold rb;rw [if_pos hjl];exact hj⟩
   ·exact .inl ⟨h,hbe⟩
  ·have:=hE.len;have:=hE.len2;have:=hE.le
   exact .inr ⟨H.length + (b - HC.length),by omega,by unfold rb;rw [if_neg (by omega)];congr 1;omega⟩
 have hsz:w.heap.size ≤ w'.heap.size:=hS2.below.size
 have hblkW:∀ x,x < w.heap.size→¬ rng ι1 H x→w'.heap[x]? = w.heap[x]?:=fun x h1 h2=>hS2.below.block x h1 h2
 have hnew:∀ j x,j < H'.length→ι2 j = some x→w.heap.size ≤ x ∨ rng ι1 H x:=fun j x hj hx=>(hS2.heap j _ x (List.getElem?_eq_getElem hj) hx).1
 have hstay:∀ b x,b < HC.length→b ∉ e→ι b = some x→¬ rng ι1 H x:=fun b x hb hbe hx hr=>by
  obtain ⟨j,b',hb',hx'⟩:=(hrngI x).1 hr
  have:=hs.inj b b' x hb (hblt j b' hb') hx hx'
  subst this
  exact hbe (List.mem_of_getElem? hb')
 have hOO3:∀ x,OO O ι3 HC' x ↔ OO O1 ι2 H' x:=fun x=>by
  constructor
  ·rintro (h | ⟨b,hb,hx⟩)
   ·refine .inl ⟨.inl h,fun hr=>?_⟩
    obtain ⟨j,b,hb,hx⟩:=(hrngI x).1 hr
    exact hs.disj x b h (hblt j b hb) hx
   ·rcases hwhat b hb with ⟨h1,h2⟩ | ⟨j,hj,hr⟩
    ·rw [i3s b h1 h2] at hx
     exact .inl ⟨.inr ⟨b,h1,hx⟩,hstay b x h1 h2 hx⟩
    ·obtain ⟨b',k1,k2,_⟩:=hrb j hj
     rw [hr] at k1;injection k1 with k1;subst k1
     exact .inr ⟨j,hj,by rw [← k2];exact hx⟩
  ·rintro (⟨h,hr⟩ | ⟨j,hj,hx⟩)
   ·rcases h with h | ⟨b,hb,hx⟩
    ·exact .inl h
    ·have hbe:b ∉ e:=fun hbe=>by
      obtain ⟨j,hj⟩:=List.getElem?_of_mem hbe
      exact hr ((hrngI x).2 ⟨j,b,hj,hx⟩)
     exact .inr ⟨b,by rw [hE.len2];omega,by rw [i3s b hb hbe];exact hx⟩
   ·obtain ⟨b,k1,k2,k3⟩:=hrb j hj
    exact .inr ⟨b,k3,by rw [k2];exact hx⟩
 have g:Goes w (OO O ι HC) ι HC w' (OO O ι3 HC') ι3 HC':=by
  refine ⟨fun p u h hcell=>?_,fun p u h hcell h'=>?_,fun b blk h=>?_,fun b x blk blk' c1 ty fz h1 h2 h3 hi h=>?_⟩
  ·have hl:=heap_lt hcell
   rw [hblkW p hl fun hr=>?_]
   ·exact hcell
   ·obtain ⟨j,b,hb,hx⟩:=(hrngI _).1 hr
    exact h (.inr ⟨b,hblt j b hb,hx⟩)
  ·have hl:=heap_lt hcell
   rcases (hOO3 _).1 h' with h' | ⟨j,hj,hx⟩
   ·exact h h'.1
   ·rcases hnew j _ hj hx with h1 | h1
    ·omega
    ·obtain ⟨j',b,hb,hx'⟩:=(hrngI _).1 h1
     exact h (.inr ⟨b,hblt j' b hb,hx'⟩)
  ·have hb:=(List.getElem?_eq_some_iff.1 h).1
   by_cases hbe:b ∈ e
   ·obtain ⟨j,hj⟩:=List.getElem?_of_mem hbe
    obtain ⟨bc,bk,k1,k2,k3,k4,k5,_⟩:=hE.inn j b hj
    rw [h] at k1;injection k1 with k1;subst k1
    obtain ⟨bk2,f1,f2,f3⟩:=hS2.hist.blk j bk k2
    have hr:rb e HC.length j = some b:=by unfold rb;rw [if_pos (List.getElem?_eq_some_iff.1 hj).1];exact hj
    obtain ⟨bc2,m1,m2,m3,m4,_⟩:=hE.out j b bk2 hr f1
    refine ⟨bc2,m1,by omega,fun he=>?_⟩
    obtain ⟨n1,n2⟩:=f3 (by omega)
    exact ⟨by rw [m3,n1,k4],by rw [i3e j b hj,n2];exact hι1 j b hj⟩
   ·exact ⟨blk,by rw [hE.stay b hb hbe];exact h,Nat.le_refl _,fun _=>⟨rfl,i3s b hb hbe⟩⟩
  ·have hb:=(List.getElem?_eq_some_iff.1 h1).1
   by_cases hbe:b ∈ e
   ·obtain ⟨j,hj⟩:=List.getElem?_of_mem hbe
    obtain ⟨bc,bk,k1,k2,k3,k4,k5,_⟩:=hE.inn j b hj
    rw [h1] at k1;injection k1 with k1;subst k1
    obtain ⟨bk2,f1,f2,f3⟩:=hS2.hist.blk j bk k2
    have hr:rb e HC.length j = some b:=by unfold rb;rw [if_pos (List.getElem?_eq_some_iff.1 hj).1];exact hj
    obtain ⟨bc2,m1,m2,m3,m4,_⟩:=hE.out j b bk2 hr f1
    rw [h2] at m1;injection m1 with m1;subst m1
    exact hS2.hist.size j x bk bk2 c1 ty fz k2 f1 (by omega) ((hι1 j b hj).trans hi) h
   ·exact ⟨c1,ty,fz,by rw [hblkW x (hlt b x hb hi) (hstay b x hb hbe hi)];exact h,rfl⟩
 have hS3:Sit w0 O ι3 HC' w':=by
  refine ⟨fun b bk x h1 h2=>?_,fun b bk h1 h2=>?_,fun b b' x hb hb' h1 h2=>?_,?_,fun x hx=>Nat.lt_of_lt_of_le (hs.old x hx) hsz,fun x b hO hb hx=>?_,hs.hist.trans g.grow⟩
  ·have hb:=(List.getElem?_eq_some_iff.1 h1).1
   rcases hwhat b hb with ⟨k1,k2⟩ | ⟨j,hj,hr⟩
   ·rw [hE.stay b k1 k2] at h1
    rw [i3s b k1 k2] at h2
    obtain ⟨m1,m2⟩:=hs.heap b bk x h1 h2
    exact ⟨m1,m2.mono g (hblkW x m2.lt (hstay b x k1 k2 h2))⟩
   ·obtain ⟨b',k1,k2,_⟩:=hrb j hj
    rw [hr] at k1;injection k1 with k1;subst k1
    obtain ⟨bc,m1,m2⟩:=hE.out j b _ hr (List.getElem?_eq_getElem hj)
    rw [h1] at m1;injection m1 with m1;subst m1
    rw [k2] at h2
    obtain ⟨n1,n2⟩:=hS2.heap j _ x (List.getElem?_eq_getElem hj) h2
    refine ⟨?_,m2.br hOO3 hidx3 n2⟩
    rcases n1 with n1 | n1
    ·exact .inl (Nat.le_trans hs.below.size n1)
    ·obtain ⟨j',b',hb',hx'⟩:=(hrngI x).1 n1
     exact (hs.heap b' _ x (List.getElem?_eq_getElem (hblt j' b' hb')) hx').1
  ·have hb:=(List.getElem?_eq_some_iff.1 h1).1
   rcases hwhat b hb with ⟨k1,k2⟩ | ⟨j,hj,hr⟩
   ·rw [hE.stay b k1 k2] at h1
    rw [i3s b k1 k2] at h2
    exact hs.empt b bk h1 h2
   ·obtain ⟨b',k1,k2,_⟩:=hrb j hj
    rw [hr] at k1;injection k1 with k1;subst k1
    obtain ⟨bc,m1,m2,m3,m4,_⟩:=hE.out j b _ hr (List.getElem?_eq_getElem hj)
    rw [h1] at m1;injection m1 with m1;subst m1
    rw [k2] at h2
    have:=hS2.empt j _ (List.getElem?_eq_getElem hj) h2
    rw [this] at m4
    exact List.eq_nil_of_length_eq_zero m4
  ·rcases hwhat b hb with ⟨k1,k2⟩ | ⟨j,hj,hr⟩ <;> rcases hwhat b' hb' with ⟨k1',k2'⟩ | ⟨j',hj',hr'⟩
   ·rw [i3s b k1 k2] at h1;rw [i3s b' k1' k2'] at h2
    exact hs.inj b b' x k1 k1' h1 h2
   ·exfalso
    rw [i3s b k1 k2] at h1
    obtain ⟨b2,m1,m2,_⟩:=hrb j' hj'
    rw [hr'] at m1;injection m1 with m1;subst m1
    rw [m2] at h2
    rcases hnew j' x hj' h2 with n | n
    ·have:=hlt b x k1 h1;omega
    ·exact hstay b x k1 k2 h1 n
   ·exfalso
    rw [i3s b' k1' k2'] at h2
    obtain ⟨b2,m1,m2,_⟩:=hrb j hj
    rw [hr] at m1;injection m1 with m1;subst m1
    rw [m2] at h1
    rcases hnew j x hj h1 with n | n
    ·have:=hlt b' x k1' h2;omega
    ·exact hstay b' x k1' k2' h2 n
   ·obtain ⟨b2,m1,m2,_⟩:=hrb j hj
    rw [hr] at m1;injection m1 with m1;subst m1
    obtain ⟨b3,m1',m2',_⟩:=hrb j' hj'
    rw [hr'] at m1';injection m1' with m1';subst m1'
    rw [m2] at h1;rw [m2'] at h2
    have:=hS2.inj j j' x hj hj' h1 h2
    subst this
    rw [hr] at hr';injection hr' with hr'
  ·refine hs.below.change hS2.below.os hS2.below.tape hS2.below.output hsz fun k hk hne=>?_
   by_cases hr:rng ι1 H k
   ·obtain ⟨j,b,hb,hx⟩:=(hrngI k).1 hr
    exact (hs.heap b _ k (List.getElem?_eq_getElem (hblt j b hb)) hx).1
   ·exact absurd (hblkW k hk hr) hne
  ·rcases hwhat b hb with ⟨k1,k2⟩ | ⟨j,hj,hr⟩
   ·rw [i3s b k1 k2] at hx;exact hs.disj x b hO k1 hx
   ·obtain ⟨b',k1,k2,_⟩:=hrb j hj
    rw [hr] at k1;injection k1 with k1;subst k1
    rw [k2] at hx
    refine hS2.disj x j ⟨.inl hO,fun hr=>?_⟩ hj hx
    obtain ⟨j',b',hb',hx'⟩:=(hrngI x).1 hr
    exact hs.disj x b' hO (hblt j' b' hb') hx'
 exact hK v w' ι3 hS3 g ((hd HC' w' _ ι2 ι3 v hidx3 hv2).lessO fun y hy=>(hOO3 y).1 hy)
theorem PL.dropP {H H1:List ABlk} {ρ:Operand→AV} {op:Op} {v v2:AV} {B:ABlk} (h:PL P H ρ op v (H1 ++ [B])) (hlen:H.length = H1.length) (hH:∀ (b:Nat) (blk:ABlk),H1[b]? = some blk→BlkMv (drp H1.length) (H1 ++ [B]) blk blk)
 (hv:PubR (pre H1.length) (H1 ++ [B]) v v2):PL P H ρ op v2 H1:=by
 intro o ho w0 O ι a w hs hr K Q hK
 refine h o ho w0 O ι a w hs hr K Q fun u w' ι' h1 h2 h3=>?_
 obtain ⟨k1,k3⟩:=h1.drop (fun b hb=>by
  obtain ⟨blk',q1,_⟩:=hs.hist.blk b _ (List.getElem?_eq_getElem hb)
  rw [← hlen];exact (List.getElem?_eq_some_iff.1 q1).1) hH
 have gl:∀ b,b < H1.length→(H1 ++ [B])[b]? = H1[b]?:=fun b h=>List.getElem?_append_left h
 refine hK u w' ι' k1 ⟨h2.obj,fun q u hq hc hO=>h2.outo q u hq hc (k3 _ hO),fun b blk hb=>?_,fun b x blk blk' c ty fz e1 e2 e3 e4 e5=>?_⟩ (hv H1 _ w' O ι' ι' u h1 ⟨fun b j blk e1 e2=>?_,fun j x hj hx=>⟨j,by simp;omega,pre_lt hj,hx⟩⟩ h3)
 ·obtain ⟨blk',q1,q2,q3⟩:=h2.blk b blk hb
  have hbl:b < H1.length:=by rw [← hlen];exact (List.getElem?_eq_some_iff.1 hb).1
  rw [gl b hbl] at q1
  exact ⟨blk',q1,q2,q3⟩
 ·have hbl:b < H1.length:=by rw [← hlen];exact (List.getElem?_eq_some_iff.1 e1).1
  exact h2.size b x blk blk' c ty fz e1 (by rw [gl b hbl];exact e2) e3 e4 e5
 ·unfold pre at e1
  split at e1
  ·rename_i hlt
   injection e1 with e1;subst e1
   rw [gl b hlt] at e2
   exact ⟨blk,e2,rfl,rfl,rfl⟩
  ·cases e1
end
end Go.Ab
namespace Go.Ab
open Go Go.RowKit
section
variable {p q:Prop}
theorem rcS (h:q) (k:Hid q→p:=by intro hq__;(repeat (first | ((with_reducible apply zG);(simp +decide only [go_sem, *];rfl);(simp +decide only [go_sem, *];(repeat simp +decide only [go_sem, *]);rfl)) | (refine zp rfl rfl (pl_box (by simp +decide only [go_sem, *];rfl) rfl) ?_) | (refine zp rfl rfl (pl_alloc (by simp only [go_sem, *];rfl) rfl) ?_) | (refine zp rfl rfl (pl_store (by simp +decide only [go_sem, *];rfl) (by simp +decide only [go_sem, *];rfl) (by simp +decide only [go_sem, *];rfl) (by rfl) (by rfl) (by kernel_rfl) (by rfl) (by rfl)) ?_) | (refine zq rfl rfl (qi rfl rfl (by simp only [go_sem, *];rfl) (by first | omega | (simp;omega)) (by kernel_rfl)) ?_) | (refine zq rfl rfl (qo rfl rfl (by simp only [go_sem, *];rfl) rfl (by first | omega | (simp;omega)) (by simp only [go_sem, *] <;> rfl)) ?_) | (refine zq rfl rfl (qw 0 _ rfl rfl (by first | rfl | (simp only [Nat.zero_add] <;> rfl)) (by first | omega | (simp;omega)) (by simp only [go_sem, *] <;> rfl)) ?_) | (refine zq rfl rfl (qb (by simp only [go_sem, *];rfl) (by simp only [go_sem, *];rfl) (by decide) (by kernel_rfl) (by simp +decide only [List.map,go_sem, *] <;> rfl) (by simp +decide only [List.map,go_sem, *] <;> rfl) (by rfl)) ?_) | (refine zq rfl rfl (qn rfl rfl) ?_) | (refine zq rfl rfl (qx rfl rfl) ?_)));exact hq__.out):p:=k ⟨h⟩
theorem reS (h:q) (k:Hid q→p:=by intro hq__;(repeat (with_reducible apply zs));((with_reducible apply zR);(refine ⟨rfl,rfl,?_⟩;simp +decide only [go_sem, *,List.map];rfl));(repeat (first | ((with_reducible apply zG);(simp +decide only [go_sem, *];rfl);(simp +decide only [go_sem, *];(repeat simp +decide only [go_sem, *]);rfl)) | (refine zp rfl rfl (pl_box (by simp +decide only [go_sem, *];rfl) rfl) ?_) | (refine zp rfl rfl (pl_alloc (by simp only [go_sem, *];rfl) rfl) ?_) | (refine zp rfl rfl (pl_store (by simp +decide only [go_sem, *];rfl) (by simp +decide only [go_sem, *];rfl) (by simp +decide only [go_sem, *];rfl) (by rfl) (by rfl) (by kernel_rfl) (by rfl) (by rfl)) ?_) | (refine zq rfl rfl (qi rfl rfl (by simp only [go_sem, *];rfl) (by first | omega | (simp;omega)) (by kernel_rfl)) ?_) | (refine zq rfl rfl (qo rfl rfl (by simp only [go_sem, *];rfl) rfl (by first | omega | (simp;omega)) (by simp only [go_sem, *] <;> rfl)) ?_) | (refine zq rfl rfl (qw 0 _ rfl rfl (by first | rfl | (simp only [Nat.zero_add] <;> rfl)) (by first | omega | (simp;omega)) (by simp only [go_sem, *] <;> rfl)) ?_) | (refine zq rfl rfl (qb (by simp only [go_sem, *];rfl) (by simp only [go_sem, *];rfl) (by decide) (by kernel_rfl) (by simp +decide only [List.map,go_sem, *] <;> rfl) (by simp +decide only [List.map,go_sem, *] <;> rfl) (by rfl)) ?_) | (refine zq rfl rfl (qn rfl rfl) ?_) | (refine zq rfl rfl (qx rfl rfl) ?_)));exact hq__.out):p:=k ⟨h⟩
end
section
variable {P:Program} {n:Fr} {q:Bool} {K:ASt→Prop} {Q:Exit→ASt→Prop} {s:ASt}
theorem zOut' (h:K s):ARun P n q [] (thenQ K Q .normal) s:=zN (z1 h)
end
end Go.Ab
namespace Go.Ab
open Go Go.RowKit
def AWpF (P:Program) (n:Fr) (w0:Base) (O:Nat→Prop) (c:Code) (Q:Exit→ASt→Prop) (s:ASt):Prop:=
 ∀ (ι:Nat→Option Nat) (a:Act) (w:World),SR n w0 O s ι a w→c.wp P (liftQ w0 O n Q) a w
section
variable {P:Program} {n:Fr} {w0:Base} {O:Nat→Prop} {Q:Exit→ASt→Prop} {s:ASt}
theorem AWpF.of {c:Code} (h:AWp P n c Q s):AWpF P n w0 O c Q s:=fun ι a w hs=>h w0 O ι a w hs
theorem AWpF.mono {c:Code} {Q':Exit→ASt→Prop} (h:AWpF P n w0 O c Q' s) (hq:∀ e s,Q' e s→Q e s):AWpF P n w0 O c Q s:=
 fun ι a w hs=>wp_mono (h ι a w hs) fun e a w ⟨s',ι',h1,h2⟩=>⟨s',ι',hq _ _ h1,h2⟩
theorem AWpF.seq {x y:Code} (h:AWpF P n w0 O x (thenQ (AWpF P n w0 O y Q) Q) s):AWpF P n w0 O (.seq x y) Q s:=by
 intro ι a w hs
 refine wp_seq (wp_mono (h ι a w hs) ?_)
 rintro e a w ⟨s',ι',h1,h2⟩
 cases e with
 | normal=>exact h1 ι' a w h2
 | _=>exact ⟨s',ι',h1,h2⟩
theorem AWpF.step {x y:Code} (S2:ASt) (h:AWp P n x (thenQ (fun s'=>Wk n s' S2) Q) s) (h2:AWpF P n w0 O y Q S2):AWpF P n w0 O (.seq x y) Q s:=by
 refine .seq ?_
 intro ι a w hs
 refine wp_mono (h w0 O ι a w hs) ?_
 rintro e a w ⟨s',ι',h3,h4⟩
 cases e with
 | normal =>
   obtain ⟨ι2,h5⟩:=h3 _ _ _ _ _ h4
   exact ⟨S2,ι2,h2,h5⟩
 | _=>exact ⟨s',ι',h3,h4⟩
theorem AWpF.block {id:Nat} {c:Code} (h:AWpF P n w0 O c (blkQ id Q) s):AWpF P n w0 O (.block id c) Q s:=by
 intro ι a w hs
 refine wp_block (wp_mono (h ι a w hs) ?_)
 rintro e a w ⟨s',ι',h1,h2⟩
 cases e with
 | exit id' =>
   simp only [blkQ] at h1
   simp only [Exit.inBlock]
   split
   ·rename_i e;rw [if_pos e] at h1;exact ⟨s',ι',h1,h2⟩
   ·rename_i e;rw [if_neg e] at h1;exact ⟨s',ι',h1,h2⟩
 | _=>exact ⟨s',ι',h1,h2⟩
theorem AWpF.weaken {c:Code} {s2:ASt} (hw:Wk n s s2) (h:AWpF P n w0 O c Q s2):AWpF P n w0 O c Q s:=by
 intro ι a w hs
 obtain ⟨ι2,hs2⟩:=hw _ _ _ _ _ hs
 exact h ι2 a w hs2
theorem AWpF.loop {X:Type} (J:X→Prop) (I:X→ASt) (μ:X→Nat) {c:Code} (x0:X) (h0:J x0) (hw:Wk n s (I x0))
 (hr:∀ x,J x→AWpF P n w0 O c (thenQ (fun s'=>∃ y,J y ∧ μ y < μ x ∧ Wk n s' (I y)) Q) (I x)):AWpF P n w0 O (.loop c) Q s:=by
 intro ι a w hs
 obtain ⟨ι0,hs0⟩:=hw _ _ _ _ _ hs
 have key:∀ (m:Nat) (x:X),μ x = m→J x→∀ ι a w,SR n w0 O (I x) ι a w→∀ (b:Frame) (k:List Item) (cs:List Frame),
  ∃ e a' w',liftQ w0 O n Q e a' w' ∧ Arrives P (lone (b.at a (.code c :: .inLoop c :: k)) cs w) b k cs e a' w':=by
  intro m
  induction m using Nat.strongRecOn with
  | _ m ih =>
    intro x hm hx ι a w hs b k cs
    obtain ⟨e,a1,w1,⟨s',ι',hq,hs'⟩,harr⟩:=hr x hx ι a w hs b (.inLoop c :: k) cs
    cases e with
    | normal =>
      obtain ⟨y,hy,hlt,hwk⟩:=hq
      obtain ⟨ι2,hs2⟩:=hwk _ _ _ _ _ hs'
      obtain ⟨e2,a2,w2,hq2,harr2⟩:=ih (μ y) (hm ▸ hlt) y rfl hy ι2 a1 w1 hs2 b k cs
      exact ⟨e2,a2,w2,hq2,.of_steps (Steps.trans harr (.one step_inLoop)) harr2⟩
    | exit id=>exact ⟨_,a1,w1,⟨s',ι',hq,hs'⟩,.pass (x:=.inLoop c) rfl (fun _ _=>.inl (by simp)) harr⟩
    | goto l=>exact ⟨_,a1,w1,⟨s',ι',hq,hs'⟩,.pass (x:=.inLoop c) rfl (fun _ _=>.inl (by simp)) harr⟩
    | ret=>exact ⟨_,a1,w1,⟨s',ι',hq,hs'⟩,.pass (x:=.inLoop c) rfl (fun _ _=>.inl (by simp)) harr⟩
    | panic ch=>exact ⟨_,a1,w1,⟨s',ι',hq,hs'⟩,.pass (x:=.inLoop c) rfl (fun _ _=>.inl (by simp)) harr⟩
    | outgrown=>exact ⟨_,a1,w1,⟨s',ι',hq,hs'⟩,.pass (x:=.inLoop c) rfl (fun _ _=>.inl (by simp)) harr⟩
 intro b k cs
 obtain ⟨e,a',w',hq,harr⟩:=key _ x0 rfl h0 ι0 a w hs0 b k cs
 exact ⟨e,a',w',hq,.of_steps (.one step_loop) harr⟩
end
end Go.Ab
namespace Go.Ab
open Go Go.RowKit
section
variable {w0:Base} {O:Nat→Prop} {ι ι2:Nat→Option Nat} {H H2:List ABlk} {W W2:World} {l:Nat} {o o2:Obj}
theorem put_other {w:World} {l:Nat} {o:Obj} {k:Nat} (h:k ≠ l):(w.putObj l o).heap[k]? = w.heap[k]?:=by
 unfold World.putObj
 simp only
 rw [Array.getElem?_setIfInBounds]
 rw [if_neg fun e=>h e.symm]
theorem put_same {w:World} {l:Nat} {o:Obj} (h:l < w.heap.size):(w.putObj l o).heap[l]? = some o:=by
 unfold World.putObj
 simp only
 rw [Array.getElem?_setIfInBounds,if_pos rfl,if_pos h]
theorem put_size {w:World} {l:Nat} {o:Obj}:(w.putObj l o).heap.size = w.heap.size:=by
 unfold World.putObj
 simp
theorem Goes.put (hO:O l) (hns:∀ c ty fz,W.heap[l]? ≠ some (.cells c ty fz)):Goes W (OO O ι H) ι H (W.putObj l o) (OO O ι H) ι H:=by
 refine ⟨fun p u hp hu=>?_,fun p u hp _=>hp,fun b blk hb=>⟨blk,hb,Nat.le_refl _,fun _=>⟨rfl,rfl⟩⟩,fun b x blk blk' c ty fz h1 h2 _ hi hc=>?_⟩
 ·rw [put_other (k:=p) (l:=l) fun e=>hp (.inl (by rw [e];exact hO))];exact hu
 ·refine ⟨c,ty,fz,?_,rfl⟩
  rw [put_other (k:=x) (l:=l) fun e=>hns c ty fz (by rw [← e];exact hc)];exact hc
theorem Sit.rebase (hs:Sit w0 O ι H W) (hO:O l) (hns:∀ c ty fz,W.heap[l]? ≠ some (.cells c ty fz)):Sit ⟨W.putObj l o,rng ι H,H,ι⟩ O ι H (W.putObj l o):=by
 refine ⟨fun b blk x h1 h2=>⟨.inr ⟨b,(List.getElem?_eq_some_iff.1 h1).1,h2⟩,?_⟩,hs.empt,hs.inj,.refl ..,fun x hx=>by rw [put_size];exact hs.old x hx,hs.disj,.refl ..⟩
 refine (hs.heap b blk x h1 h2).2.mono (Goes.put hO hns) (put_other fun e=>?_)
 exact hs.disj l b hO (List.getElem?_eq_some_iff.1 h1).1 (e ▸ h2)
theorem Sit.back (hs:Sit w0 O ι H W) (hO:O l) (hl:W.heap[l]? = some o) (hns:∀ c ty fz,o ≠ .cells c ty fz) (hns2:∀ c ty fz,o2 ≠ .cells c ty fz) (h2:Sit ⟨W.putObj l o2,rng ι H,H,ι⟩ O ι2 H2 W2) :
 W2.heap[l]? = some o2 ∧ Sit w0 O ι2 H2 (W2.putObj l o) ∧ Goes W2 (OO O ι2 H2) ι2 H2 (W2.putObj l o) (OO O ι2 H2) ι2 H2:=by
 have hlt:l < W.heap.size:=(Array.getElem?_eq_some_iff.1 hl).1
 have hlr:¬ rng ι H l:=fun ⟨b,hb,hx⟩=>hs.disj l b hO hb hx
 have hl2:W2.heap[l]? = some o2:=by
  have:=h2.below.block l (by show l < (W.putObj l o2).heap.size;rw [put_size];exact hlt) hlr
  rw [this];exact put_same hlt
 have hlt2:l < W2.heap.size:=(Array.getElem?_eq_some_iff.1 hl2).1
 have hg2:Goes W2 (OO O ι2 H2) ι2 H2 (W2.putObj l o) (OO O ι2 H2) ι2 H2:=Goes.put hO fun c ty fz e=>by rw [hl2] at e;injection e with e;exact hns2 c ty fz e
 have hg1:Goes W (OO O ι H) ι H (W.putObj l o2) (OO O ι H) ι H:=Goes.put hO fun c ty fz e=>by rw [hl] at e;injection e with e;exact hns c ty fz e
 have hsz:w0.w.heap.size ≤ W.heap.size:=hs.below.size
 have hin:∀ x,rng ι H x→w0.w.heap.size ≤ x ∨ w0.S x:=fun x ⟨b,hb,hx⟩=>(hs.heap b _ x (List.getElem?_eq_getElem hb) hx).1
 refine ⟨hl2,⟨fun b blk x h3 h4=>?_,h2.empt,h2.inj,⟨?_,?_,?_,?_,fun k hk hS=>?_⟩,fun x hx=>by rw [put_size];exact h2.old x hx,h2.disj,?_⟩,hg2⟩
 ·obtain ⟨h5,h6⟩:=h2.heap b blk x h3 h4
  refine ⟨?_,h6.mono hg2 (put_other fun e=>h2.disj l b hO (List.getElem?_eq_some_iff.1 h3).1 (e ▸ h4))⟩
  rcases h5 with h5 | h5
  ·have:(W.putObj l o2).heap.size ≤ x:=h5
   rw [put_size] at this
   exact .inl (by omega)
  ·exact hin x h5
 ·exact h2.below.os.trans hs.below.os
 ·exact h2.below.tape.trans hs.below.tape
 ·exact h2.below.output.trans hs.below.output
 ·have:(W.putObj l o2).heap.size ≤ W2.heap.size:=h2.below.size
  rw [put_size] at this ⊢
  omega
 ·by_cases e:k = l
  ·subst e
   rw [put_same hlt2,← hl];exact hs.below.block k hk hS
  ·rw [put_other e]
   have hkr:¬ rng ι H k:=fun hr=>by
    rcases hin k hr with h | h
    ·omega
    ·exact hS h
   rw [h2.below.block k (by show k < (W.putObj l o2).heap.size;rw [put_size];omega) hkr]
   show (W.putObj l o2).heap[k]? = _
   rw [put_other e];exact hs.below.block k hk hS
 ·exact ((hs.hist.trans hg1.grow).trans h2.hist).trans hg2.grow
end
end Go.Ab
namespace Go.Ab
open Go Go.RowKit
section
variable {w0:Base} {O O2:Nat→Prop} {ι ι2:Nat→Option Nat} {H H2:List ABlk} {W W2:World} {l:Nat} {o o1 o2:Obj}
theorem Sit.lessO (hs:Sit w0 O ι H W) (h:∀ x,O2 x→O x):Sit w0 O2 ι H W:=
 ⟨fun b blk x h1 h2=>⟨(hs.heap b blk x h1 h2).1,(hs.heap b blk x h1 h2).2.lessO fun y hy=>hy.elim (fun k=>.inl (h y k)) .inr⟩,hs.empt,hs.inj,hs.below,fun x hx=>hs.old x (h x hx),fun x b hx=>hs.disj x b (h x hx),hs.hist⟩
theorem Sit.putN (hs:Sit w0 O ι H W) (hO:O l) (hl:w0.w.heap.size ≤ l) (hns:∀ c ty fz,W.heap[l]? ≠ some (.cells c ty fz)):Sit w0 O ι H (W.putObj l o):=by
 have hg:Goes W (OO O ι H) ι H (W.putObj l o) (OO O ι H) ι H:=Goes.put hO hns
 refine ⟨fun b blk x h1 h2=>⟨(hs.heap b blk x h1 h2).1,(hs.heap b blk x h1 h2).2.mono hg (put_other fun e=>hs.disj l b hO (List.getElem?_eq_some_iff.1 h1).1 (e ▸ h2))⟩,hs.empt,hs.inj,⟨hs.below.os,hs.below.tape,hs.below.output,by rw [put_size];exact hs.below.size,fun k hk hS=>?_⟩,fun x hx=>by rw [put_size];exact hs.old x hx,hs.disj,hs.hist.trans hg.grow⟩
 rw [put_other (by omega)];exact hs.below.block k hk hS
abbrev two (W:World) (o1 o2:Obj):World:=(W.alloc o1).alloc o2
abbrev andTwo (O:Nat→Prop) (W:World):Nat→Prop:=fun x=>O x ∨ x = W.heap.size ∨ x = W.heap.size + 1
theorem two_size:(two W o1 o2).heap.size = W.heap.size + 2:=by
 show ((W.heap.push o1).push o2).size = _
 rw [Array.size_push,Array.size_push]
theorem two_old {k:Nat} (h:k < W.heap.size):(two W o1 o2).heap[k]? = W.heap[k]?:=by
 show ((W.heap.push o1).push o2)[k]? = _
 rw [Array.getElem?_push,if_neg (by simp;omega),Array.getElem?_push,if_neg (by omega)]
theorem two_1:(two W o1 o2).heap[W.heap.size]? = some o1:=by
 show ((W.heap.push o1).push o2)[W.heap.size]? = _
 rw [Array.getElem?_push,if_neg (by simp),Array.getElem?_push,if_pos rfl]
theorem two_2:(two W o1 o2).heap[W.heap.size + 1]? = some o2:=by
 show ((W.heap.push o1).push o2)[W.heap.size + 1]? = _
 rw [Array.getElem?_push,if_pos (by simp)]
theorem two_grow:Grow W ι H (two W o1 o2) ι H:=
 ⟨fun b blk hb=>⟨blk,hb,Nat.le_refl _,fun _=>⟨rfl,rfl⟩⟩,fun b x blk blk' c ty fz h1 h2 _ hi hc=>⟨c,ty,fz,by rw [two_old (heap_lt hc)];exact hc,rfl⟩⟩
theorem two_goes:Goes W (OO O ι H) ι H (two W o1 o2) (OO (andTwo O W) ι H) ι H:=
 ⟨fun p u hp hu=>by rw [two_old (heap_lt hu)];exact hu,fun p u hp hu hO=>by
  have:=heap_lt hu
  rcases hO with (h | h | h) | h
  ·exact hp (.inl h)
  ·omega
  ·omega
  ·exact hp (.inr h),(two_grow (W:=W) (o1:=o1) (o2:=o2)).blk,(two_grow (W:=W) (o1:=o1) (o2:=o2)).size⟩
theorem Sit.more (hs:Sit w0 O ι H W):Sit ⟨two W o1 o2,rng ι H,H,ι⟩ (andTwo O W) ι H (two W o1 o2):=by
 have hlt:∀ b x,b < H.length→ι b = some x→x < W.heap.size:=fun b x hb hx=>(hs.heap b _ x (List.getElem?_eq_getElem hb) hx).2.lt
 refine ⟨fun b blk x h1 h2=>⟨.inr ⟨b,(List.getElem?_eq_some_iff.1 h1).1,h2⟩,(hs.heap b blk x h1 h2).2.mono two_goes (two_old (hlt b x (List.getElem?_eq_some_iff.1 h1).1 h2))⟩,hs.empt,hs.inj,.refl ..,fun x hx=>?_,fun x b hO hb hx=>?_,.refl ..⟩
 ·rw [two_size]
  rcases hx with h | h | h
  ·have:=hs.old x h;omega
  ·omega
  ·omega
 ·rcases hO with h | h | h
  ·exact hs.disj x b h hb hx
  ·have:=hlt b x hb hx;omega
  ·have:=hlt b x hb hx;omega
theorem Sit.fromMore (hs:Sit w0 O ι H W) (h2:Sit ⟨two W o1 o2,rng ι H,H,ι⟩ (andTwo O W) ι2 H2 W2) :
 Sit w0 (andTwo O W) ι2 H2 W2 ∧ W2.heap[W.heap.size]? = some o1 ∧ W2.heap[W.heap.size + 1]? = some o2:=by
 have hlt:∀ x,rng ι H x→x < W.heap.size:=fun x ⟨b,hb,hx⟩=>(hs.heap b _ x (List.getElem?_eq_getElem hb) hx).2.lt
 have hin:∀ x,rng ι H x→w0.w.heap.size ≤ x ∨ w0.S x:=fun x ⟨b,hb,hx⟩=>(hs.heap b _ x (List.getElem?_eq_getElem hb) hx).1
 have hsz:w0.w.heap.size ≤ W.heap.size:=hs.below.size
 have hblk:∀ k,k < W.heap.size + 2→¬ rng ι H k→W2.heap[k]? = (two W o1 o2).heap[k]?:=fun k hk hr=>h2.below.block k (by show k < (two W o1 o2).heap.size;rw [two_size];exact hk) hr
 have hsz2:W.heap.size + 2 ≤ W2.heap.size:=by
  have:(two W o1 o2).heap.size ≤ W2.heap.size:=h2.below.size
  rw [two_size] at this;exact this
 refine ⟨⟨fun b blk x h3 h4=>⟨?_,(h2.heap b blk x h3 h4).2⟩,h2.empt,h2.inj,⟨h2.below.os.trans hs.below.os,h2.below.tape.trans hs.below.tape,h2.below.output.trans hs.below.output,by omega,fun k hk hS=>?_⟩,h2.old,h2.disj,(hs.hist.trans (two_grow (o1:=o1) (o2:=o2))).trans h2.hist⟩,?_,?_⟩
 ·rcases (h2.heap b blk x h3 h4).1 with h5 | h5
  ·have:(two W o1 o2).heap.size ≤ x:=h5
   rw [two_size] at this
   exact .inl (by omega)
  ·exact hin x h5
 ·have hkr:¬ rng ι H k:=fun hr=>by
   rcases hin k hr with h | h
   ·omega
   ·exact hS h
  rw [hblk k (by omega) hkr,two_old (by omega)];exact hs.below.block k hk hS
 ·rw [hblk _ (by omega) fun hr=>by have:=hlt _ hr;omega];exact two_1
 ·rw [hblk _ (by omega) fun hr=>by have:=hlt _ hr;omega];exact two_2
end
end Go.Ab
