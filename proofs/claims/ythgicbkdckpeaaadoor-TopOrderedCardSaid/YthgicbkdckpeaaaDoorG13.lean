/- Appending to an own slice that is shorter than its block. -/
import Derived.Test.YthgicbkdckpeaaaDoorG12
import Derived.Test.YthgicbkdckpeaaaDoorG11
set_option linter.unusedSimpArgs false
set_option linter.unusedVariables false
namespace Go.Ab
open Go Go.RowKit
section
variable {P:Program} {H:List ABlk}
theorem append_in_run {w:World} {t ty el:TypeId} {bytes:Nat} (ht:P.underlying t = some (.slice el)) (hel:elI P el 1 bytes = true) {z len cap c2:Nat} {a2:Addr} {u:Value}
 (hc:(w.cell? ⟨z,len,none⟩).isSome = true) (hf:w.frozen? ⟨z,len,none⟩ = false) (hu:u.oneCell' = true) (hl:w.cell? a2 = some u) (hs2:a2.spot = none) (hlt:len + 1 ≤ cap) :
 (Builtin.append_ #[t,t] ty #[.slice (some ⟨z,0,none⟩) len cap,.slice (some a2) 1 c2]).run P w = .ok (.slice (some ⟨z,0,none⟩) (len + 1) cap) (w.setCells z len [u]):=by
 obtain ⟨i0,zz,h1,h2,h3,h4,h5,h6,_⟩:=elI_inv hel
 have hld:(load a2).run P w = .ok u w:=by
  obtain ⟨b,o,s⟩:=a2
  simp only at hs2;subst hs2
  simp [hl]
 have hst:=run_storeCells_cells (P:=P) z len [u] 0 w (fun j hj=>by simp at hj;subst hj;exact hc) (fun j hj=>by simp at hj;subst hj;exact hf) (fun v hv=>by simp at hv;subst hv;exact hu)
 have hadd:((⟨z,0,none⟩:Addr).add len) = ⟨z,len,none⟩:=by unfold Addr.add;split <;> simp_all
 have hadd0:(a2.add 0) = a2:=by
  obtain ⟨b,o,s⟩:=a2
  simp only at hs2;subst hs2
  unfold Addr.add;split <;> simp_all
 simp only [Nat.add_zero] at hst
 simp [Builtin.append_,run_underlying ht,sizeOf,typeInfo,h1,h3,Builtin.lenOf,Builtin.firstCells,loadCells,loadCellsFrom,hadd0,hld,hlt,hadd,hst]
theorem pl_appendIn {ρ:Operand→AV} {s x:Operand} {t el:TypeId} {b tot len bytes:Nat} {blk:ABlk} {v:AV} (hsv:ρ s = .own b tot 0 len) (hx:ρ x = .lst [v]) (hv1:v.cells = [v]) (hok:okCells v = true) (hb:H[b]? = some blk) (htot:blk.es.length = tot)
 (hlt:len < tot) (hs1:blk.sz = 1) (ht:P.underlying t = some (.slice el)) (hel:elI P el 1 bytes = true) (hmt:blk.ty < mapTy:=by decide) :
 PL P H ρ (.call { callee:=.builtin .append,args:=#[s,x],argTypes:=#[t,t] }) (.own b tot 0 (len + 1)) (H.set b { blk with es:=blk.es.set len v }):=by
 refine PL.of_run fun w0 O ι a w hs hv o ho=>?_
 have h1:=hv s;rw [hsv] at h1
 have h2:=hv x;rw [hx] at h2
 generalize he1:a.eval s = X1 at h1
 generalize he2:a.eval x = X2 at h2
 cases h1 with
 | staleOwn b tot off len blk' a n c hb' hlt'=>rw [hb] at hb';cases hb';omega
 | ownNil b blk' hb' he hi=>omega
 | own b tot off len blk' z n cap ad hb' ht' hi hn hl hcap ha =>
 rw [hb] at hb';cases hb'
 subst hn
 obtain ⟨rfl,hmx,c,ty,fz,hcz,hc2⟩:=ha (.inr rfl)
 rw [Nat.zero_mul] at *
 rw [hs1,Nat.mul_one,Nat.zero_add] at hc2
 obtain ⟨hz0,c0,hc0,hcl,hsz',hrow⟩:=hs.heap b blk z hb hi
 have hcz':=rowAt_inv hc0 ⟨c,ty,fz,hcz⟩ hmt
 rw [hcz] at hcz';injection hcz' with hcz';injection hcz' with e1 e2 e3;subst e1;subst e2;subst e3
 rw [hs1,Nat.mul_one] at hcl
 cases h2 with
 | lst es a2 m cap2 sz val hm hcap2 hmax hlen hspot hcc hvv =>
 simp only [List.length_singleton] at hm;subst hm
 have hsz1:sz = 1:=by have:=hlen v (by simp);rw [hv1] at this;simpa using this.symm
 subst hsz1
 have hsp:=hspot v (by simp)
 have hcell:=(hcc 0 0 v v rfl (by rw [hv1];rfl)).2
 have hval:=hvv 0 0 v v rfl (by rw [hv1];rfl)
 have hca:w.cell? a2 = some (val 0 0):=by
  rw [← hcell];congr 1
  obtain ⟨ab,ao,as⟩:=a2
  simp only at hsp;subst hsp;simp
 have hone:(val 0 0).oneCell' = true:=by
  refine (VR.one ?_ hval).1
  cases v with
  | agg cs =>
    simp only [AV.cells] at hv1
    have h9:SizeOf.sizeOf cs = SizeOf.sizeOf [AV.agg cs]:=congrArg (fun l:List AV=>SizeOf.sizeOf l) hv1
    simp at h9
    omega
  | _=>simpa [okCells] using hok
 have hcellat:(w.cell? ⟨z,n,none⟩).isSome = true:=by simp [World.cell?,hcz];omega
 have hrun:=append_in_run (P:=P) (w:=w) (ty:=o.type) ht hel (z:=z) (len:=n) (cap:=cap) (c2:=cap2) (a2:=a2) hcellat (by simp [World.frozen?,hcz]) hone hca hsp (by omega)
 obtain ⟨c',hc',hcs',hj'⟩:=heap_setCells z [val 0 0] n w c blk.ty (0,0) hcz (by simp;omega)
 obtain ⟨h9,h10⟩:=hs.set (blk2:={ blk with es:=blk.es.set n v }) hb hi rfl rfl (by simp) (below_setCells z z (Nat.le_refl _) _ _ _) (fun k hk=>heap_setCells_other z _ _ _ k hk) (rowAt_cells hcz hmt) (rowAt_cells hc' hmt) hcs' (fun c1 ty1 fz1 h=>by rw [hcz] at h;injection h with h;injection h with h a b;subst h;exact ⟨c',_,_,hc',hcs'⟩)
  (fun e1 he1=>by
    rcases List.mem_or_eq_of_mem_set he1 with h | h
    ·exact hsz' e1 h
    ·rw [h,hv1,hs1];rfl)
  (fun i1 j1 e1 d1 hi1 hj1=>by
    simp only at hi1 ⊢
    rw [hs1,Nat.mul_one]
    rw [List.getElem?_set] at hi1
    by_cases e:n = i1
    ·subst e
     rw [if_pos rfl,if_pos (by omega)] at hi1;injection hi1 with hi1;subst hi1
     rw [hv1] at hj1
     obtain ⟨rfl,rfl⟩:j1 = 0 ∧ v = d1:=by
      cases j1 with
      | zero=>simp at hj1;exact ⟨rfl,hj1⟩
      | succ k=>simp at hj1
     rw [hj']
     exact ⟨val 0 0,by simp,hval⟩
    ·rw [if_neg e] at hi1
     have hj0:j1 < 1:=by rw [← hs1,← hsz' e1 (List.mem_of_getElem? hi1)];exact (List.getElem?_eq_some_iff.1 hj1).1
     rw [hj',if_neg (by simp;omega)]
     have:=hrow i1 j1 e1 d1 hi1 hj1
     rwa [hs1,Nat.mul_one] at this)
 refine ⟨_,_,ι,_,append_exec (ρ:=ρ) ho (by rw [he1,he2];exact hrun),.inl rfl,h9,h10,?_⟩
 have hb2:(H.set b { blk with es:=blk.es.set n v })[b]? = some { blk with es:=blk.es.set n v }:=by
  rw [List.getElem?_set_self (List.getElem?_eq_some_iff.1 hb).1]
 exact .own b tot 0 (n + 1) _ z (n + 1) cap ⟨z,0,none⟩ hb2 (by simpa using ht') hi rfl (by omega) (by omega) fun _=>⟨by simp,hmx,c',_,_,hc',by simp [hs1,hcs',hc2]⟩
theorem ql_ixo {ρ:Operand→AV} {t el:TypeId} {x i:Operand} {k:IntKind} {n b tot len:Nat} {blk:ABlk} (hx:ρ x = .own b tot 0 len) (hi:ρ i = .base (.int k (n:Int))) (ht:P.underlying t = some (.slice el))
 (hb:H[b]? = some blk) (htot:blk.es.length = tot) (hn:n < len) (hsz:szTy P el = some blk.sz):QL P H ρ (.indexAddr t x i) (.ptr b tot n 0):=by
 have:=ql_indexAddr_own (P:=P) (H:=H) (ρ:=ρ) (t:=t) (x:=x) (i:=i) hx hi ht hb htot (by omega) (by omega) hsz
 rwa [Nat.zero_add,Int.toNat_natCast] at this
end
end Go.Ab
namespace Go.Ab
open Go Go.RowKit
section
variable {P:Program} {H:List ABlk}
theorem pl_appendL {ρ:Operand→AV} {s x:Operand} {t el:TypeId} {b tot size bytes:Nat} {blk:ABlk} {es:List AV} {av:AV} (hsv:ρ s = .own b tot 0 tot) (hx:ρ x = av) (hle:Lend H av (.lst es)) (hba:∀ e ∈ es,∃ v,e = .base v) (hb:H[b]? = some blk) (htot:blk.es.length = tot)
 (ht:P.underlying t = some (.slice el)) (hel:elI P el size bytes = true) (hty:blk.ty = el) (hbs:blk.sz = size) (hm:1 ≤ es.length) (hes:∀ e ∈ es,e.cells.length = size ∧ okCells e = true) (hbd:(tot + es.length) * bytes ≤ 140737488355328) (h63:tot + es.length ≤ 140737488355328) :
 PL P H ρ (.call { callee:=.builtin .append,args:=#[s,x],argTypes:=#[t,t] }) (.own b (tot + es.length) 0 (tot + es.length)) (H.set b { blk with es:=blk.es ++ es }):=by
 refine PL.of_run fun w0 O ι a w hs hv o ho=>?_
 subst hty;subst hbs
 have h1:=hv s;rw [hsv] at h1
 have h2:=hv x;rw [hx] at h2
 have h2:=hle _ _ _ _ _ hs h2
 obtain ⟨hpos,hmt⟩:0 < blk.sz ∧ blk.ty < mapTy:=by obtain ⟨_,_,_,_,_,_,_,h⟩:=elI_inv hel;exact h
 obtain ⟨xs,k1,k2,k3,_⟩:=own_row hs hb htot h1 hpos hmt
 obtain ⟨v',w',news,r1,r2,r3,r4,r5,r6,r7⟩:=append_core (P:=P) (ty:=o.type) ht hel k1 (Nat.zero_le _) h2 hm hes hbd (by simp only [maxLen];omega)
 have hold:∀ e ∈ blk.es,e.cells.length = blk.sz:=by
  intro e he
  cases hi:ι b with
  | none=>rw [hs.empt b blk hb hi] at he;simp at he
  | some y=>obtain ⟨_,_,_,_,h,_⟩:=hs.heap b blk y hb hi;exact h e he
 obtain ⟨ι',g1,g2,g3⟩:=hs.grow (m:=0) hb htot hmt hm (fun e he=>(hes e he).1) k2 k1.1 k3 (fun i j e d he hd=>by
  obtain ⟨u,hu,hvu⟩:=r7 i j e d he hd
  obtain ⟨v,rfl⟩:=hba e (List.mem_of_getElem? he)
  have hd1:d = .base v:=by
   cases j with
   | zero=>simp [AV.cells] at hd;exact hd.symm
   | succ k=>simp [AV.cells] at hd
  subst hd1
  exact ⟨u,hu,by rw [hvu.base_inv];exact .base _⟩) hold r2 r3 r4
 exact ⟨v',w',ι',_,append_exec (ρ:=ρ) ho r1,.inl rfl,g1,g2,g3⟩
theorem ql_eqnil_own {ρ:Operand→AV} {t el yt:TypeId} {x y:Operand} {b tot off len:Nat} {blk:ABlk} (hx:ρ x = .own b tot off len) (hb:H[b]? = some blk) (htot:blk.es.length = tot) (hne:0 < tot) (hy:ρ y = .base (.slice none 0 0)) (ht:P.underlying t = some (.slice el)):QL P H ρ (.binOp .eql t x y yt) (.bool false):=by
 refine QL.of_run fun w0 O ι A w hs hv o ho=>?_
 have h1:=hv x (by simp [Op.operands])
 have h2:=hv y (by simp [Op.operands])
 rw [hx] at h1;rw [hy] at h2
 have h2:=h2.base_inv
 have he:∀ a l c,(Op.equal t (.slice a l c) (.slice none 0 0)).run P w = .ok a.isNone w:=fun a l c=>run_equal_slice_nil w t el a l c ht
 generalize hX:A.eval x = X at h1
 cases h1 with
 | staleOwn b tot off len blk' a n c hb' hlt=>rw [hb] at hb';cases hb';omega
 | ownNil b blk' hb' he' hi=>rw [hb] at hb';cases hb';omega
 | own b tot off len blk' z n cap ad hb' ht' hi hn hl hcap ha=>exact ⟨.bool false,ql_eqnil_run ho hX h2 (he (some ad) n cap),.base _⟩
theorem pl_copyI {ρ:Operand→AV} {x y:Operand} {t t2 el:TypeId} {b n ty bytes:Nat} {k:IntKind} {d l:List Int} {av:AV} (hx:ρ x = .own b n 0 n) (hb:H[b]? = some ⟨ty,1,d.map fun v=>.base (.int k v)⟩) (hn:d.length = n) (hy:ρ y = av) (hle:Lend H av (.lst (l.map fun v=>.base (.int k v)))) (hll:l.length ≤ d.length)
 (ht:P.underlying t = some (.slice el)) (hel:elI P el 1 bytes = true) (hmt:ty < mapTy:=by decide) :
 PL P H ρ (.call { callee:=.builtin .copy,args:=#[x,y],argTypes:=#[t,t2] }) (.int l.length) (H.set b ⟨ty,1,(l ++ d.drop l.length).map fun v=>.base (.int k v)⟩):=by
 refine PL.of_run fun w0 O ι a w hs hv o ho=>?_
 have h1:=hv x;rw [hx] at h1
 have h2:=hv y;rw [hy] at h2
 have h2:=hle _ _ _ _ _ hs h2
 obtain ⟨i0,zz,e1,e2,e3,e4,e5,e6,_⟩:=elI_inv hel
 have hsz:(P.info? el).map (·.size) = some 1:=by simp [e1,e3]
 have hexec:∀ (v':Value) (w':World),(Builtin.copy_ #[t,t2] o.type #[a.eval x,a.eval y]).run P w = .ok v' w'→(execOp a.eval o).run P w = .ok (.value v') w':=fun v' w' hr=>by
  simp only [execOp,ho,resolve,invoke,builtin,Sem.run_bind,Sem.run_pure,Result.andThen_ok,List.map_toArray,List.map_cons,List.map_nil,hr]
 generalize he1:a.eval x = X1 at h1 hexec
 generalize he2:a.eval y = X2 at h2 hexec
 have hbl:b < H.length:=(List.getElem?_eq_some_iff.1 hb).1
 have hsame:l = []→H.set b ⟨ty,1,(l ++ d.drop l.length).map fun v=>.base (.int k v)⟩ = H:=fun e=>by
  subst e
  simp only [List.length_nil,List.drop_zero,List.nil_append]
  rw [List.getElem?_eq_getElem hbl] at hb
  injection hb with hb
  rw [← hb];exact List.set_getElem_self hbl
 have hnone:l = []→∀ (d' a':Option Addr) (n' c' m' q':Nat),X1 = .slice d' n' c'→X2 = .slice a' m' q'→m' = 0→∃ u w' ι' nx,(execOp a.eval o).run P w = .ok nx w' ∧ (nx = .value u ∨ (nx = .skip ∧ u = undef)) ∧ Sit w0 O ι' (H.set b ⟨ty,1,(l ++ d.drop l.length).map fun v=>.base (.int k v)⟩) w' ∧ Goes w (OO O ι H) ι H w' (OO O ι' (H.set b ⟨ty,1,(l ++ d.drop l.length).map fun v=>.base (.int k v)⟩)) ι' (H.set b ⟨ty,1,(l ++ d.drop l.length).map fun v=>.base (.int k v)⟩) ∧ VR w' (OO O ι' (H.set b ⟨ty,1,(l ++ d.drop l.length).map fun v=>.base (.int k v)⟩)) ι' (H.set b ⟨ty,1,(l ++ d.drop l.length).map fun v=>.base (.int k v)⟩) (.int l.length) u:=by
  intro hl0 d' a' n' c' m' q' ex1 ex2 em
  subst ex1;subst ex2;subst em
  rw [hsame hl0]
  have hr:=run_copy_none (P:=P) w t t2 o.type el d' a' n' c' 0 q' ht hsz (by simp)
  refine ⟨_,w,ι,_,hexec _ _ hr,.inl rfl,hs,Goes.quiet hs (Below.refl _ _),?_⟩
  subst hl0
  exact .base _
 cases h1 with
 | staleOwn b tot off len blk' ad m c hb' hlt=>rw [hb] at hb';cases hb';simp at hlt;omega
 | ownNil b blk' hb' he' hi =>
   have hl0:l = []:=List.eq_nil_of_length_eq_zero (by omega)
   subst hl0
   cases h2 with
   | lnil=>exact hnone rfl _ _ _ _ _ _ rfl rfl rfl
   | lst es a2 m cap2 sz val hm hcap2 hmax hlen hspot hcc hvv=>exact hnone rfl _ _ _ _ _ _ rfl rfl (by simpa using hm)
 | own b tot off len blk' z m cap ad hb' ht' hi hm hl hcap ha =>
 rw [hb] at hb';cases hb'
 simp only [List.length_map] at ht'
 subst hm
 obtain ⟨rfl,hmx,c,ty',fz,hcz,hc2⟩:=ha (.inr rfl)
 simp only [Nat.zero_mul,Nat.zero_add,Nat.mul_one] at hc2 ⊢
 obtain ⟨hz0,c0,hc0,hcl,hsz',hrow⟩:=hs.heap b _ z hb hi
 simp only [List.length_map,Nat.mul_one] at hcl hrow hsz'
 have hcz':=rowAt_inv hc0 ⟨c,ty',fz,hcz⟩ hmt
 rw [hcz] at hcz';injection hcz' with hcz';injection hcz' with f1 f2 f3;subst f1;subst f2;subst f3
 generalize hA:(l.map fun v=>AV.base (.int k v)) = A at h2
 cases h2 with
 | lnil=>exact hnone (by simpa using hA) _ _ _ _ _ _ rfl rfl rfl
 | lst es a2 m2 cap2 sz val hm2 hcap2 hmax hlen hspot hcc hvv =>
 rcases Nat.eq_zero_or_pos l.length with hl0 | hlp
 ·exact hnone (List.eq_nil_of_length_eq_zero hl0) _ _ _ _ _ _ rfl rfl (by rw [hm2,← hA,List.length_map];exact hl0)
 subst hA
 simp only [List.length_map] at hm2
 have hat:∀ i v,l[i]? = some v→w.cell? (a2.add i) = some (.int k v):=fun i v hi'=>by
  have he:(l.map fun v=>AV.base (.int k v))[i]? = some (.base (.int k v)):=by rw [List.getElem?_map,hi'];rfl
  have hs1:sz = 1:=by have:=hlen _ (List.mem_of_getElem? he);simpa [AV.cells] using this.symm
  have hsp:=hspot _ (List.mem_of_getElem? he)
  have h5:=(hcc i 0 _ _ he rfl).2
  have h6:=(hvv i 0 _ _ he rfl).base_inv
  rw [h6,hs1,Nat.mul_one,Nat.add_zero] at h5
  rw [← h5];congr 1
  exact add_eq _ _ hsp
 have hrun:=run_copy_cells (P:=P) w t t2 o.type el z 0 m cap a2 m2 cap2 (l.map (Value.int k)) ht hsz (by rw [List.length_map,hm2];exact (Nat.min_eq_left (by omega)).symm) (fun j v hj=>by
  rw [List.getElem?_map,Option.map_eq_some_iff] at hj
  obtain ⟨u,hu,rfl⟩:=hj
  exact hat j u hu) (fun j hj=>by simp at hj;simp [World.cell?,hcz];omega) (fun j hj=>by simp [World.frozen?,hcz]) (fun v hv=>by obtain ⟨u,_,rfl⟩:=List.mem_map.1 hv;rfl)
 obtain ⟨c',hc',hcs',hj'⟩:=heap_setCells z (l.map (Value.int k)) 0 w c ty' (0,0) hcz (by simp;omega)
 obtain ⟨h9,h10⟩:=hs.set (blk2:=⟨ty',1,(l ++ d.drop l.length).map fun v=>.base (.int k v)⟩) hb hi rfl rfl (by simp;omega) (below_setCells z z (Nat.le_refl _) _ _ _) (fun k hk=>heap_setCells_other z _ _ _ k hk) (rowAt_cells hcz hmt) (rowAt_cells hc' hmt) hcs' (fun c1 ty1 fz1 h=>by rw [hcz] at h;injection h with h;injection h with h a b;subst h;exact ⟨c',_,_,hc',hcs'⟩)
  (fun e1 he1=>by obtain ⟨v,_,rfl⟩:=List.mem_map.1 he1;rfl)
  (fun i1 j1 e1 d1 hi1 hj1=>by
    simp only at hi1 ⊢
    rw [List.getElem?_map,Option.map_eq_some_iff] at hi1
    obtain ⟨v,hv1,rfl⟩:=hi1
    have hj0:j1 = 0:=by
     cases j1 with
     | zero=>rfl
     | succ q=>simp [AV.cells] at hj1
    subst hj0
    simp [AV.cells] at hj1;subst hj1
    rw [Nat.mul_one,Nat.add_zero,hj']
    by_cases hlt:i1 < l.length
    ·rw [List.getElem?_append_left hlt] at hv1
     refine ⟨.int k v,?_,.base _⟩
     rw [if_pos (by simp;exact hlt)]
     simp [hv1]
    ·rw [List.getElem?_append_right (by omega),List.getElem?_drop,show l.length + (i1 - l.length) = i1 by omega] at hv1
     rw [if_neg (by simp;omega)]
     have:=hrow i1 0 (.base (.int k v)) (.base (.int k v)) (by rw [List.getElem?_map,hv1];rfl) rfl
     simpa using this)
 refine ⟨_,_,ι,_,hexec _ _ hrun,.inl rfl,h9,h10,?_⟩
 rw [List.length_map]
 exact .base _
end
end Go.Ab
namespace Go.Ab
open Go Go.RowKit
section
variable {p q:Prop}
theorem goE (h:q) (k:Hid q→p:=by intro hq__;(repeat (first | (with_reducible first | apply zs | apply zN | apply z1 | apply z2 | apply z3 | apply z4 | apply z5 | apply z6 | refine z7 rfl ?_ | apply zb | apply zk | apply zr | apply ze | apply y1 | apply y2 | apply y3 | apply y4) | ((with_reducible apply zR);(refine ⟨rfl,rfl,?_⟩;simp +decide only [go_sem, *,List.map];rfl)) | ((with_reducible apply zG);(simp +decide only [go_sem, *];rfl);(simp +decide only [go_sem, *];(repeat simp +decide only [go_sem, *]);rfl)) | (refine zp rfl rfl (pl_box (by simp +decide only [go_sem, *];rfl) rfl) ?_) | (refine zp rfl rfl (pl_alloc (by simp only [go_sem, *];rfl) rfl) ?_) | (refine zp rfl rfl (pl_store (by simp +decide only [go_sem, *];rfl) (by simp +decide only [go_sem, *];rfl) (by simp +decide only [go_sem, *];rfl) (by rfl) (by rfl) (by kernel_rfl) (by rfl) (by rfl)) ?_)));exact hq__.out):p:=k ⟨h⟩
theorem goF (h:q) (k:Hid q→p:=by intro hq__;(repeat (first | (with_reducible first | apply zs | apply zN | apply z1 | apply z2 | apply z3 | apply z4 | apply z5 | apply z6 | refine z7 rfl ?_ | apply zb | apply zk | apply zr | apply ze | apply y1 | apply y2 | apply y3 | apply y4) | ((with_reducible apply zR);(refine ⟨rfl,rfl,?_⟩;simp +decide only [go_sem, *,List.map];rfl)) | ((with_reducible apply zG);(simp +decide only [go_sem, *];rfl);(simp +decide only [go_sem, *];(repeat simp +decide only [go_sem, *]);rfl)) | (refine zp rfl rfl (pl_box (by simp +decide only [go_sem, *];rfl) rfl) ?_) | (refine zp rfl rfl (pl_alloc (by simp only [go_sem, *];rfl) rfl) ?_) | (refine zp rfl rfl (pl_store (by simp +decide only [go_sem, *];rfl) (by simp +decide only [go_sem, *];rfl) (by simp +decide only [go_sem, *];rfl) (by rfl) (by rfl) (by kernel_rfl) (by rfl) (by rfl)) ?_) | (refine zq rfl rfl (qi rfl rfl (by simp only [go_sem, *];rfl) (by first | omega | (simp;omega)) (by kernel_rfl)) ?_) | (refine zq rfl rfl (qo rfl rfl (by simp only [go_sem, *];rfl) rfl (by first | omega | (simp;omega)) (by simp only [go_sem, *] <;> rfl)) ?_) | (refine zq rfl rfl (qw 0 _ rfl rfl (by first | rfl | (simp only [Nat.zero_add] <;> rfl)) (by first | omega | (simp;omega)) (by simp only [go_sem, *] <;> rfl)) ?_) | (refine zq rfl rfl (qb (by simp only [go_sem, *];rfl) (by simp only [go_sem, *];rfl) (by decide) (by kernel_rfl) (by simp +decide only [List.map,go_sem, *] <;> rfl) (by simp +decide only [List.map,go_sem, *] <;> rfl) (by rfl)) ?_) | (refine zq rfl rfl (qn rfl rfl) ?_) | (refine zq rfl rfl (qx rfl rfl) ?_)));exact hq__.out):p:=k ⟨h⟩
end
section
variable {P:Program} {n:Fr} {HS:Nat→List ABlk} {o:LOp} {l:List LOp} {sl:List (Option Nat)} {E:Env} {v:AV} {K:Env→Prop}
theorem gS (hr:GRun P n HS 1 l sl K (putE E o.dst v)) (hg:o.g = none:=by rfl) (hd:dstOk n o.dst = true:=by rfl) (h0:qfun P (HS 0) (ev E) o.op = some v:=by (simp +decide only [go_sem, *] <;> rfl)) (h1:qfun P (HS 1) (ev E) o.op = some v:=by (simp +decide only [go_sem, *] <;> rfl)):GRun P n HS 1 (o :: l) (none :: sl) K E:=.qf1 hg hd h0 h1 hr
theorem drS {id k:Nat} {ops:Array Oper} {D:List (Option Tmp)} {l1 l2:List LOp} {Q:Exit→ASt→Prop} {s:ASt} (sl:List (Option Nat)) (HS:Nat→List ABlk) (m:Nat) (hm:P.follows .mixedOrders = true) (h1:GRun P n HS m l1 sl (fun E'=>ARun P n false l2 (Q .normal) ⟨E',HS m⟩) s.env)
 (h:RegD ops k D l1 l2:=by (refine ⟨rfl,rfl,by kernel_rfl,by decide,?_,?_⟩;(simp +decide only [go_sem,List.map,List.take];rfl);(simp +decide only [go_sem,List.map,List.drop];rfl)))
 (hg:growOk sl ops k m = true:=by kernel_rfl) (h0:HS 0 = s.H:=by rfl):AWp P n (.region id ops true) Q s:=.drawK sl HS m hm h hg h0 h1
end
end Go.Ab
namespace Go.Ab
open Go
theorem Sit.mv {w0:Base} {O:Nat→Prop} {ι:Nat→Option Nat} {w:World} {H1:List ABlk} {B B2 blk0:ABlk} {p:Nat} (hs:Sit w0 O ι (H1 ++ [B]) w) (hp:H1[p]? = some blk0) (he0:blk0.es = []) (hm:∀ b,b < w0.H.length→b < H1.length) (hne:B.es ≠ [])
 (hB:BlkMv (mvr H1.length p) (H1 ++ [B]) B B2) (hH:∀ b blk,b ≠ p→H1[b]? = some blk→BlkMv (mvr H1.length p) (H1 ++ [B]) blk blk) :
 ∃ ι2,Sit w0 O ι2 (H1.set p B2) w ∧ Idx (mvr H1.length p) ι ι2 (H1 ++ [B]) (H1.set p B2) ∧ (∀ x,OO O ι2 (H1.set p B2) x→OO O ι (H1 ++ [B]) x) ∧ (∀ b,b ≠ p→ι2 b = ι b):=by
 have hpl:p < H1.length:=(List.getElem?_eq_some_iff.1 hp).1
 obtain ⟨r,hr⟩:∃ r,r = mvr H1.length p:=⟨_,rfl⟩
 rw [← hr] at hB hH ⊢
 have rq:r H1.length = some p:=by rw [hr,mvr,if_pos rfl]
 have rp:r p = none:=by rw [hr,mvr,if_neg (by omega),if_pos rfl]
 have ro':∀ b,b ≠ p→b ≠ H1.length→r b = some b:=fun b h1 h2=>by rw [hr,mvr,if_neg h2,if_neg h1]
 let ι2:Nat→Option Nat:=fun b=>if b = p then ι H1.length else ι b
 have i2p:ι2 p = ι H1.length:=if_pos rfl
 have i2o:∀ b,b ≠ p→ι2 b = ι b:=fun b h=>if_neg h
 obtain ⟨H,hHd⟩:∃ H,H = H1 ++ [B]:=⟨_,rfl⟩
 obtain ⟨H2,hH2⟩:∃ H2,H2 = H1.set p B2:=⟨_,rfl⟩
 rw [← hHd] at hs hB hH ⊢
 have hlen:H.length = H1.length + 1:=by rw [hHd];simp
 have hlen2:H2.length = H1.length:=by rw [hH2];simp
 have hq:H[H1.length]? = some B:=by rw [hHd];simp
 have hl1:∀ b,b < H1.length→H[b]? = H1[b]?:=fun b h=>by rw [hHd,List.getElem?_append_left h]
 have h2p:H2[p]? = some B2:=by rw [hH2,List.getElem?_set_self hpl]
 have h2o:∀ b,b ≠ p→H2[b]? = H1[b]?:=fun b h=>by rw [hH2,List.getElem?_set_ne (fun e=>h e.symm)]
 have hidx:Idx r ι ι2 H H2:=fun b j blk hbj hb=>by
  have hbl:=(List.getElem?_eq_some_iff.1 hb).1
  by_cases e1:b = H1.length
  ·subst e1
   rw [rq] at hbj;injection hbj with hbj;subst hbj
   rw [hq] at hb;injection hb with hb;subst hb
   exact ⟨B2,h2p,hB.2.2.1,hB.2.1,i2p⟩
  ·by_cases e2:b = p
   ·subst e2;rw [rp] at hbj;cases hbj
   ·rw [ro' b e2 e1] at hbj;injection hbj with hbj;subst hbj
    exact ⟨blk,by rw [h2o b e2,← hl1 b (by omega)];exact hb,rfl,rfl,i2o b e2⟩
 have hinv:∀ b x,b < H2.length→ι2 b = some x→∃ b',b' < H.length ∧ ι b' = some x ∧ (b = p ∧ b' = H1.length ∨ b ≠ p ∧ b' = b):=fun b x hb hx=>by
  by_cases e:b = p
  ·subst e;rw [i2p] at hx;exact ⟨_,by omega,hx,.inl ⟨rfl,rfl⟩⟩
  ·rw [i2o b e] at hx;exact ⟨b,by omega,hx,.inr ⟨e,rfl⟩⟩
 have hOO:∀ x,OO O ι2 H2 x→OO O ι H x:=by
  rintro x (h | ⟨b,hb,hx⟩)
  ·exact .inl h
  ·obtain ⟨b',h1,h2,_⟩:=hinv b x hb hx;exact .inr ⟨b',h1,h2⟩
 have hne2:B2.es ≠ []:=fun e=>hne (List.eq_nil_of_length_eq_zero (by rw [← hB.2.2.1,e];rfl))
 rw [← hH2]
 refine ⟨ι2,⟨fun b blk x hb hx=>?_,fun b blk hb hx=>?_,fun b b' x hb hb' hx hx'=>?_,hs.below,hs.old,fun x b hO hb hx=>?_,⟨fun b blk hb=>?_,fun b x blk blk' c ty fz h1 h2 hl hi hc=>?_⟩⟩,hidx,hOO,i2o⟩
 ·by_cases e:b = p
  ·subst e
   rw [h2p] at hb;injection hb with hb;subst hb
   rw [i2p] at hx
   obtain ⟨h3,h4⟩:=hs.heap _ _ x hq hx
   exact ⟨h3,(hB.br (O2:=OO O ι H) (fun _=>Iff.rfl) hidx h4).lessO hOO⟩
  ·rw [h2o b e] at hb;rw [i2o b e] at hx
   have hbl:=(List.getElem?_eq_some_iff.1 hb).1
   obtain ⟨h3,h4⟩:=hs.heap b blk x (by rw [hl1 b hbl];exact hb) hx
   exact ⟨h3,((hH b blk e hb).br (O2:=OO O ι H) (fun _=>Iff.rfl) hidx h4).lessO hOO⟩
 ·by_cases e:b = p
  ·subst e
   rw [i2p] at hx
   exact absurd (hs.empt _ _ hq hx) hne
  ·rw [h2o b e] at hb;rw [i2o b e] at hx
   have hbl:=(List.getElem?_eq_some_iff.1 hb).1
   exact hs.empt b blk (by rw [hl1 b hbl];exact hb) hx
 ·obtain ⟨c,h1,h2,h3⟩:=hinv b x hb hx
  obtain ⟨c',h1',h2',h3'⟩:=hinv b' x hb' hx'
  have:=hs.inj c c' x h1 h1' h2 h2'
  rw [hlen2] at hb hb'
  rcases h3 with ⟨e1,e2⟩ | ⟨e1,e2⟩ <;> rcases h3' with ⟨e3,e4⟩ | ⟨e3,e4⟩ <;> omega
 ·obtain ⟨c,h1,h2,_⟩:=hinv b x hb hx
  exact hs.disj x c hO h1 h2
 ·have hbm:b < H1.length:=hm b (List.getElem?_eq_some_iff.1 hb).1
  obtain ⟨blk',k1,k2,k3⟩:=hs.hist.blk b blk hb
  by_cases e:b = p
  ·subst e
   have hpH:H[b]? = some blk0:=by rw [hl1 b hpl];exact hp
   rw [hpH] at k1;injection k1 with k1;subst k1
   rw [he0] at k2
   simp only [List.length_nil,Nat.le_zero_eq] at k2
   exact ⟨B2,h2p,by omega,fun he=>absurd (List.eq_nil_of_length_eq_zero (by omega)) hne2⟩
  ·have hbl:b < H1.length:=by omega
   rw [hl1 b hbl] at k1
   exact ⟨blk',by rw [h2o b e];exact k1,k2,fun he=>by rw [i2o b e];exact k3 he⟩
 ·by_cases e:b = p
  ·subst e
   obtain ⟨blk2,k1,k2,k3⟩:=hs.hist.blk b blk h1
   have hpH:H[b]? = some blk0:=by rw [hl1 b hpl];exact hp
   rw [hpH] at k1;injection k1 with k1;subst k1
   rw [he0] at k2
   simp only [List.length_nil,Nat.le_zero_eq] at k2
   rw [h2p] at h2;injection h2 with h2;subst h2
   exact absurd (List.eq_nil_of_length_eq_zero (by omega)) hne2
  ·have hbm:b < H1.length:=hm b (List.getElem?_eq_some_iff.1 h1).1
   rw [h2o b e] at h2
   exact hs.hist.size b x blk blk' c ty fz h1 (by rw [hl1 b (by omega)];exact h2) hl hi hc
def drp (q b:Nat):Option Nat:=if b = q then none else some b
theorem Sit.drop {w0:Base} {O:Nat→Prop} {ι:Nat→Option Nat} {w:World} {H1:List ABlk} {B:ABlk} (hs:Sit w0 O ι (H1 ++ [B]) w) (hm:∀ b,b < w0.H.length→b < H1.length) (hH:∀ (b:Nat) (blk:ABlk),H1[b]? = some blk→BlkMv (drp H1.length) (H1 ++ [B]) blk blk) :
 Sit w0 O ι H1 w ∧ (∀ x,OO O ι H1 x→OO O ι (H1 ++ [B]) x):=by
 obtain ⟨H,hHd⟩:∃ H,H = H1 ++ [B]:=⟨_,rfl⟩
 rw [← hHd] at hs hH ⊢
 have hlen:H.length = H1.length + 1:=by rw [hHd];simp
 have hl1:∀ b,b < H1.length→H[b]? = H1[b]?:=fun b h=>by rw [hHd,List.getElem?_append_left h]
 have hl2:∀ b blk,H1[b]? = some blk→H[b]? = some blk:=fun b blk h=>by rw [hl1 b (List.getElem?_eq_some_iff.1 h).1];exact h
 have hidx:Idx (drp H1.length) ι ι H H1:=fun b j blk hbj hb=>by
  have hbl:=(List.getElem?_eq_some_iff.1 hb).1
  by_cases e1:b = H1.length
  ·rw [drp,if_pos e1] at hbj;cases hbj
  ·rw [drp,if_neg e1] at hbj;injection hbj with hbj;subst hbj
   exact ⟨blk,by rw [← hl1 b (by omega)];exact hb,rfl,rfl,rfl⟩
 have hOO:∀ x,OO O ι H1 x→OO O ι H x:=by
  rintro x (h | ⟨b,hb,hx⟩)
  ·exact .inl h
  ·exact .inr ⟨b,by omega,hx⟩
 refine ⟨⟨fun b blk x hb hx=>?_,fun b blk hb hx=>hs.empt b blk (hl2 b blk hb) hx,fun b b' x hb hb' hx hx'=>hs.inj b b' x (by omega) (by omega) hx hx',hs.below,hs.old,fun x b hO hb hx=>hs.disj x b hO (by omega) hx,⟨fun b blk hb=>?_,fun b x blk blk' c ty fz h1 h2 hl hi hc=>hs.hist.size b x blk blk' c ty fz h1 (hl2 _ _ h2) hl hi hc⟩⟩,hOO⟩
 ·obtain ⟨h3,h4⟩:=hs.heap b blk x (hl2 b blk hb) hx
  exact ⟨h3,((hH b blk hb).br (O2:=OO O ι H) (fun _=>Iff.rfl) hidx h4).lessO hOO⟩
 ·obtain ⟨blk',k1,k2,k3⟩:=hs.hist.blk b blk hb
  rw [hl1 b (hm b (List.getElem?_eq_some_iff.1 hb).1)] at k1
  exact ⟨blk',k1,k2,k3⟩
def Nb (q p:Nat) (b:Nat):Prop:=b ≠ p ∧ b ≠ q
theorem mvr_nb {q p b:Nat} (h:Nb q p b):mvr q p b = some b:=by rw [mvr,if_neg h.2,if_neg h.1]
section
variable {P:Program}
theorem PL.place {H H1:List ABlk} {ρ:Operand→AV} {op:Op} {v v2:AV} {B B2 blk0 blk1:ABlk} {p:Nat} (h:PL P H ρ op v (H1 ++ [B])) (hlen:H.length = H1.length) (hp0:H[p]? = some blk1) (he1:blk1.es = []) (hp:H1[p]? = some blk0) (he0:blk0.es = []) (hne:B.es ≠ [])
 (hB:BlkMv (mvr H1.length p) (H1 ++ [B]) B B2) (hH:∀ b blk,b ≠ p→H1[b]? = some blk→BlkMv (mvr H1.length p) (H1 ++ [B]) blk blk) (hv:MvR (mvr H1.length p) (H1 ++ [B]) v v2):PL P H ρ op v2 (H1.set p B2):=by
 intro o ho w0 O ι a w hs hr K Q hK
 refine h o ho w0 O ι a w hs hr K Q fun u w' ι' h1 h2 h3=>?_
 obtain ⟨ι2,k1,k2,k3,k4⟩:=h1.mv hp he0 (fun b hb=>by
  obtain ⟨blk',q1,_⟩:=hs.hist.blk b _ (List.getElem?_eq_getElem hb)
  rw [← hlen];exact (List.getElem?_eq_some_iff.1 q1).1) hne hB hH
 have hpl:p < H1.length:=(List.getElem?_eq_some_iff.1 hp).1
 have hne2:B2.es.length ≠ 0:=fun e=>hne (List.eq_nil_of_length_eq_zero (by rw [← hB.2.2.1,e]))
 have g2p:(H1.set p B2)[p]? = some B2:=List.getElem?_set_self hpl
 have g2o:∀ b,b ≠ p→(H1.set p B2)[b]? = H1[b]?:=fun b h=>List.getElem?_set_ne (fun e=>h e.symm)
 have gl:∀ b,b < H1.length→(H1 ++ [B])[b]? = H1[b]?:=fun b h=>List.getElem?_append_left h
 refine hK u w' ι2 k1 ⟨h2.obj,fun q u hq hc hO=>h2.outo q u hq hc (k3 _ hO),fun b blk hb=>?_,fun b x blk blk' c ty fz e1 e2 e3 e4 e5=>?_⟩ ((hv _ w' (OO O ι' (H1 ++ [B])) ι' ι2 u k2 h3).lessO k3)
 ·by_cases e:b = p
  ·subst e
   rw [hp0] at hb;injection hb with hb;subst hb
   exact ⟨B2,g2p,by rw [he1];exact Nat.zero_le _,fun e=>by rw [he1] at e;exact absurd e hne2⟩
  ·obtain ⟨blk',q1,q2,q3⟩:=h2.blk b blk hb
   have hbl:b < H1.length:=by rw [← hlen];exact (List.getElem?_eq_some_iff.1 hb).1
   rw [gl b hbl] at q1
   exact ⟨blk',by rw [g2o b e];exact q1,q2,fun e'=>by rw [k4 b e];exact q3 e'⟩
 ·by_cases e:b = p
  ·subst e
   rw [hp0] at e1;injection e1 with e1;subst e1
   rw [g2p] at e2;injection e2 with e2;subst e2
   rw [he1] at e3;exact absurd e3 hne2
  ·have hbl:b < H1.length:=by rw [← hlen];exact (List.getElem?_eq_some_iff.1 e1).1
   rw [g2o b e] at e2
   exact h2.size b x blk blk' c ty fz e1 (by rw [gl b hbl];exact e2) e3 e4 e5
theorem PL.drop {H H1:List ABlk} {ρ:Operand→AV} {op:Op} {v v2:AV} {B:ABlk} (h:PL P H ρ op v (H1 ++ [B])) (hlen:H.length = H1.length) (hH:∀ (b:Nat) (blk:ABlk),H1[b]? = some blk→BlkMv (drp H1.length) (H1 ++ [B]) blk blk)
 (hv:∀ w O ι u,VR w O ι (H1 ++ [B]) v u→VR w O ι H1 v2 u):PL P H ρ op v2 H1:=by
 intro o ho w0 O ι a w hs hr K Q hK
 refine h o ho w0 O ι a w hs hr K Q fun u w' ι' h1 h2 h3=>?_
 obtain ⟨k1,k3⟩:=h1.drop (fun b hb=>by
  obtain ⟨blk',q1,_⟩:=hs.hist.blk b _ (List.getElem?_eq_getElem hb)
  rw [← hlen];exact (List.getElem?_eq_some_iff.1 q1).1) hH
 have gl:∀ b,b < H1.length→(H1 ++ [B])[b]? = H1[b]?:=fun b h=>List.getElem?_append_left h
 refine hK u w' ι' k1 ⟨h2.obj,fun q u hq hc hO=>h2.outo q u hq hc (k3 _ hO),fun b blk hb=>?_,fun b x blk blk' c ty fz e1 e2 e3 e4 e5=>?_⟩ ((hv w' _ ι' u h3).lessO k3)
 ·obtain ⟨blk',q1,q2,q3⟩:=h2.blk b blk hb
  have hbl:b < H1.length:=by rw [← hlen];exact (List.getElem?_eq_some_iff.1 hb).1
  rw [gl b hbl] at q1
  exact ⟨blk',q1,q2,q3⟩
 ·have hbl:b < H1.length:=by rw [← hlen];exact (List.getElem?_eq_some_iff.1 e1).1
  exact h2.size b x blk blk' c ty fz e1 (by rw [gl b hbl];exact e2) e3 e4 e5
theorem drp_ne {q b:Nat} (h:b ≠ q):drp q b = some b:=if_neg h
theorem VR.own0 {H:List ABlk} {B:ABlk} {w:World} {O:Nat→Prop} {ι:Nat→Option Nat} {u:Value} (hB:B.es = []) (h:VR w O ι (H ++ [B]) (.own H.length 0 0 0) u):VR w O ι H (.lst []) u:=by
 have hq:(H ++ [B])[H.length]? = some B:=by simp
 cases h with
 | staleOwn _ _ _ _ blk a n c hb h=>rw [hq] at hb;injection hb with hb;subst hb;rw [hB] at h;simp at h
 | ownNil=>exact .lnil
 | own b tot off len blk x n cap a hb ht hi hn hl hcap ha=>exact .lst [] a n cap 0 (fun _ _=>.bool true) (by simp [hn]) (by omega) (by simp [hn]) (by simp) (by simp) (by simp) (by simp)
theorem PL.own0 {H:List ABlk} {ρ:Operand→AV} {op:Op} {B:ABlk} (h:PL P H ρ op (.own H.length 0 0 0) (H ++ [B])) (hB:B.es = []) (hH:∀ b ∈ H,RfB (fun b=>b < H.length) b):PL P H ρ op (.lst []) H:=
 PL.drop h rfl (fun b blk hb=>(hH blk (List.mem_of_getElem? hb)).mv fun _ h=>drp_ne (by omega)) fun w O ι u hu=>hu.own0 hB
theorem PL.placeS {H:List ABlk} {ρ:Operand→AV} {op:Op} {v v2:AV} {B blk0:ABlk} {p:Nat} (h:PL P H ρ op v (H ++ [B])) (hp:H[p]? = some blk0) (he0:blk0.es = []) (hne:B.es ≠ []) (hB:RfB (Nb H.length p) B) (hH:∀ b ∈ H,RfB (Nb H.length p) b)
 (hv:MvR (mvr H.length p) (H ++ [B]) v v2):PL P H ρ op v2 (H.set p B):=
 PL.place h rfl hp he0 hp he0 hne (hB.mv fun _ h=>mvr_nb h) (fun b blk _ hb=>(hH blk (List.mem_of_getElem? hb)).mv fun _ h=>mvr_nb h) hv
theorem MvR.ptrL {H:List ABlk} {B:ABlk} {p tot i off:Nat}:MvR (mvr H.length p) (H ++ [B]) (.ptr H.length tot i off) (.ptr p tot i off):=.ptr (by rw [mvr,if_pos rfl])
theorem MvR.ownL {H:List ABlk} {B:ABlk} {p tot off len:Nat}:MvR (mvr H.length p) (H ++ [B]) (.own H.length tot off len) (.own p tot off len):=.own (by rw [mvr,if_pos rfl])
theorem MvR.mapL {H:List ABlk} {B:ABlk} {p:Nat}:MvR (mvr H.length p) (H ++ [B]) (.mapv H.length) (.mapv p):=.mapv (by rw [mvr,if_pos rfl])
theorem pl_copy0 {H:List ABlk} {ρ:Operand→AV} {x y:Operand} {t t2 el:TypeId} {es:List AV} {bytes:Nat} (hx:ρ x = .lst []) (hy:ρ y = .lst es) (ht:P.underlying t = some (.slice el)) (hel:elI P el 1 bytes = true) :
 PL P H ρ (.call { callee:=.builtin .copy,args:=#[x,y],argTypes:=#[t,t2] }) (.int 0) H:=by
 refine PL.of_run fun w0 O ι a w hs hv o ho=>?_
 have h1:=hv x;rw [hx] at h1
 have h2:=hv y;rw [hy] at h2
 obtain ⟨i0,zz,e1,e2,e3,e4,e5,e6,_⟩:=elI_inv hel
 have hsz:(P.info? el).map (·.size) = some 1:=by simp [e1,e3]
 have hexec:∀ (v':Value) (w':World),(Builtin.copy_ #[t,t2] o.type #[a.eval x,a.eval y]).run P w = .ok v' w'→(execOp a.eval o).run P w = .ok (.value v') w':=fun v' w' hr=>by
  simp only [execOp,ho,resolve,invoke,builtin,Sem.run_bind,Sem.run_pure,Result.andThen_ok,List.map_toArray,List.map_cons,List.map_nil,hr]
 generalize he1:a.eval x = X1 at h1 hexec
 generalize he2:a.eval y = X2 at h2 hexec
 have key:∀ (d' a':Option Addr) (c' m' q':Nat),X1 = .slice d' 0 c'→X2 = .slice a' m' q'→∃ u w' ι' nx,(execOp a.eval o).run P w = .ok nx w' ∧ (nx = .value u ∨ (nx = .skip ∧ u = undef)) ∧ Sit w0 O ι' H w' ∧ Goes w (OO O ι H) ι H w' (OO O ι' H) ι' H ∧ VR w' (OO O ι' H) ι' H (.int 0) u:=by
  intro d' a' c' m' q' ex1 ex2
  subst ex1;subst ex2
  have hr:=run_copy_none (P:=P) w t t2 o.type el d' a' 0 c' m' q' ht hsz (by simp)
  exact ⟨_,w,ι,_,hexec _ _ hr,.inl rfl,hs,Goes.quiet hs (.refl _ _),.base _⟩
 cases h1 with
 | lnil =>
   cases h2 with
   | lnil=>exact key _ _ _ _ _ rfl rfl
   | lst=>exact key _ _ _ _ _ rfl rfl
 | lst es' a1 n1 cap1 sz1 val1 hn1 =>
   simp only [List.length_nil] at hn1
   subst hn1
   cases h2 with
   | lnil=>exact key _ _ _ _ _ rfl rfl
   | lst=>exact key _ _ _ _ _ rfl rfl
end
end Go.Ab
namespace Go.Ab
open Go Go.RowKit
section
variable {P:Program} {w w':World} {w0:Base} {O:Nat→Prop} {ι:Nat→Option Nat} {H:List ABlk} {u:Value}
end
end Go.Ab
