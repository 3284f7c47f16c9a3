/- Part. -/
import Derived.WalkKit
import Derived.Orders
import Derived.Deep.MidRow
import Derived.WalkLawsBesides
set_option linter.unusedSimpArgs false
set_option linter.unusedVariables false
namespace Go
theorem aa {p:Prop} (h:p:=by simp +decide only [go_sem, *]<;>rfl):p:=h
theorem ae {p:Prop} (h:p:=by omega):p:=h
theorem ag {p:Prop} (h:p:=by kernel_rfl):p:=h
theorem ah {p:Prop} (h:p:=by simp):p:=h
theorem ai {p:Prop} (h:p:=by simp [Op.operands,Call.operands]):p:=h
theorem aj {p:Prop} (h:p:=by simp;omega):p:=h
theorem ak {p:Prop} (h:p:=by unfold jR;rw [if_pos h];exact nP (by omega) (by omega)):p:=h
theorem aq {p:Prop} (h:p:=by show o6 _ _ [.tmp 10]=_;simp +decide only [o6,xV,zx,uB,go_sem, *]<;>rfl):p:=h
theorem ar {p:Prop} (h:p:=by show o6 _ _ []=_;simp +decide only [o6,xV,zx,uB,go_sem, *]<;>rfl):p:=h
theorem au {p:Prop} (h:p:=by simp [Op.operands]):p:=h
theorem aw {p:Prop} (h:p:=by rw [dz] at he;subst he;exact ⟨rfl,rfl⟩):p:=h
theorem ax {p:Prop} (h:p:=by rw [hm,nP (by omega) (by omega)];omega):p:=h
theorem ay {p:Prop} (h:p:=by show o6 _ _ [.tmp 6]=_;simp +decide only [o6,xV,zx,uB,go_sem, *]<;>rfl):p:=h
theorem az {p:Prop} (h:p:=by decide):p:=h
theorem aA {p:Prop} (h:p:=by show o6 _ _ [.tmp 4]=_;simp +decide only [o6,xV,zx,uB,go_sem, *]<;>rfl):p:=h
theorem aB {p:Prop} (h:p:=by rw [dE,jP];rfl):p:=h
theorem aC {p:Prop} (h:p:=by (simp +decide only [List.map,go_sem]<;>rfl)):p:=h
theorem aD {p:Prop} (h:p:=by simp +decide only [go_sem, *];rfl):p:=h
theorem aE {p:Prop} (h:p:=by simp +decide only [go_sem]<;>rfl):p:=h
theorem aF {p:Prop} (h:p:=by show (HH s++_).set (NN+3) _=_;rw [wE (kC s)];rfl):p:=h
theorem aH {p:Prop} (h:p:=by simp only [AV.cells,dz] at hc;subst hc;exact .base _):p:=h
theorem aI {p:Prop} (h:p:=by simp only [go_sem, *];rfl):p:=h
theorem aJ {p:Prop} (h:p:=by simp at he):p:=h
theorem aK {p:Prop} (h:p:=by simp +decide only [go_sem];simp at ho;simp [ho,Le.refl]):p:=h
theorem aM {p:Prop} (h:p:=by (simp +decide only [List.map,go_sem, *]<;>rfl)):p:=h
theorem aN {p:Prop} (h:p:=by first|omega|(simp;omega)):p:=h
theorem aO {p:Prop} (h:p:=by simp +decide only [List.map,go_sem, *]<;>rfl):p:=h
theorem aP {p:Prop} (h:p:=by simp [kC]):p:=h
theorem aQ {p:Prop} (h:p:=by simp [dH,dM (show i<L.size by omega)]):p:=h
theorem aR {p:Prop} (h:p:=by rw [hl];exact (dt hd).1):p:=h
theorem aS {p:Prop} (h:p:=by show o6 _ _ [.cell 4 32,.tmp 5]=_;simp +decide only [o6,xV,zx,uB,go_sem, *]<;>rfl):p:=h
theorem aU {p:Prop} (h:p:=by rw [dz] at hx;subst hx;exact hv):p:=h
theorem aV {p:Prop} (h:p:=by show o6 _ _ [.tmp 4,.tmp 5]=_;simp +decide only [o6,xV,zx,uB,go_sem, *]<;>rfl):p:=h
theorem aW {p:Prop} (h:p:=by rw [nP (by omega) (by omega)];omega):p:=h
theorem aY {p:Prop} (h:p:=by simp only [dH,eK] at hj;split at hj<;>cases hj):p:=h
theorem aZ {p:Prop} (h:p:=by rw [dE,hx];rfl):p:=h
theorem a8 {p:Prop} (h:p:=by simp +decide only [go_sem,nG];simp at h2;simp [h2,Le.refl]):p:=h
theorem ba {p:Prop} (h:p:=by rw [rV] at h;injection h with h;injection h with h a b;subst h;exact ⟨c',_,_,lC,CM⟩):p:=h
theorem bd {p:Prop} (h:p:=by rw [lV.out];rw [fZ] at p9;show (s2.after++[_]).length+_≤_;rw [dK,show s2.after=s.after by rw [jW.out];exact IE,dO];omega):p:=h
theorem bf {p:Prop} (h:p:=by simp +decide only [go_sem,List.map]):p:=h
theorem bg {p:Prop} (h:p:=by simp +decide only [mX,if_true,if_false,hb]):p:=h
theorem bj {p:Prop} (h:p:=by simp only [AV.cells,dz] at hc;subst hc;exact .pu (.base _)):p:=h
theorem bm {p:Prop} (h:p:=by simp only [blk];rw [lq ht]):p:=h
theorem bn {p:Prop} (h:p:=by simp only [go_sem, *]<;>rfl):p:=h
theorem bo {p:Prop} (h:p:=by rw [OV,if_pos hb]):p:=h
theorem bp {p:Prop} (h:p:=by simp only;omega):p:=h
theorem bq {p:Prop} (h:p:=by rw [nN.out];rfl):p:=h
theorem bt {p:Prop} (h:p:=by rw [ht];rfl):p:=h
theorem bu {p:Prop} (h:p:=by simp [Builtin.len_,run_underlying ht,goInt]):p:=h
theorem bw {p:Prop} (h:p:=by show o6 _ _ [.tmp 2]=_;simp +decide only [o6,xV,zx,uB,go_sem, *]<;>rfl):p:=h
theorem bx {p:Prop} (h:p:=by unfold rb;rw [if_pos (dt hj).1];exact hj):p:=h
theorem bz {p:Prop} (h:p:=by first|rfl|(simp only [ft]<;>rfl)):p:=h
theorem bA {p:Prop} (h:p:=by show r.after.length≤_;omega):p:=h
theorem bB {p:Prop} (h:p:=by rw [← dY] at ho;exact dx ho):p:=h
theorem bC {p:Prop} (h:p:=by rw [← oA,dE,fL,if_pos hi,dY,ho];rfl):p:=h
theorem bD {p:Prop} (h:p:=by simp +decide only [go_sem];rfl):p:=h
theorem bE {p:Prop} (h:p:=by simp only [lQ,dK,eB];omega):p:=h
theorem bF {p:Prop} (h:p:=by subst e';rw [vk i o ho] at hd;injection hd with hd;exact e hd):p:=h
theorem bH {p:Prop} (h:p:=by unfold Bh;refine eg.2 (.inl (List.mem_cons_of_mem _ (List.mem_filterMap.2 ⟨.tmp t,by simpa using hx,rfl⟩)))):p:=h
theorem bI {p:Prop} (h:p:=by subst hD;rw [dE,dY,ho];rfl):p:=h
theorem bJ {p:Prop} (h:p:=by rw [j6];exact (h.kE _ (by omega)).wf):p:=h
theorem bK {p:Prop} (h:p:=by unfold lX;rw [ef,ez,pt]):p:=h
theorem bM {p:Prop} (h:p:=by assumption):p:=h
theorem bN {p:Prop} (h:p:=by rw [eB];omega):p:=h
theorem bO {p:Prop} (h:p:=by simp only [jv.n7,dW];exact a1):p:=h
theorem bP {p:Prop} (h:p:=by rw [e]):p:=h
theorem bQ {p:Prop} (h:p:=by simp at h):p:=h
theorem bR {p:Prop} (h:p:=by simp [dH,show i<L.size by omega]):p:=h
theorem bS {p:Prop} (h:p:=by simp +decide only [mX,if_true,if_false,lC]):p:=h
theorem bU {p:Prop} (h:p:=by rfl):p:=h
theorem bV {p:Prop} (h:p:=by rw [dJ (by omega),hlen,fM];rfl):p:=h
theorem bW {p:Prop} (h:p:=by simp +decide only [kR,if_true,if_false]):p:=h
theorem bY {p:Prop} (h:p:=by show _≤(s.jL.set _ _).length;rw [dW];exact dD _):p:=h
theorem bZ {p:Prop} (h:p:=by cases h1;cases h2;exact h.1):p:=h
theorem cb {p:Prop} (h:p:=by simpa using h):p:=h
theorem cf {p:Prop} (h:p:=by rw [gj,ft];exact dM hj):p:=h
theorem cg {p:Prop} (h:p:=by simp +decide only [go_sem,C2];exact ⟨.pu (.base _),.pu (.base _),.pu (nz _),.ptr (by decide)⟩):p:=h
theorem cj {p:Prop} (h:p:=by simp [ve] at hb):p:=h
theorem cm {p:Prop} (h:p:=by rw [dA pP,dy pP]):p:=h
theorem cq {p:Prop} (h:p:=by rw [dI,dy a3];rfl):p:=h
theorem cr {p:Prop} (h:p:=by rw [dE,xG];rfl):p:=h
theorem ct {p:Prop} (h:p:=by rw [dJ (by omega),lL,eT];rfl):p:=h
theorem cu {p:Prop} (h:p:=by simp [jv.lJ,jv.ld,jv.kF]):p:=h
theorem cw {p:Prop} (h:p:=by simp [ha]):p:=h
theorem cy {p:Prop} (h:p:=by rw [dE,hy];rfl):p:=h
theorem cz {p:Prop} (h:p:=by show (s.jL.set _ _).length≤_;rw [dW];exact pt):p:=h
theorem cA {p:Prop} (h:p:=by rw [dE,hv];rfl):p:=h
theorem cB {p:Prop} (h:p:=by rw [xM];simp +decide only [go_sem]):p:=h
theorem cC {p:Prop} (h:p:=by constructor<;>simp +decide only [go_sem,eJ, *]):p:=h
theorem cD {p:Prop} (h:p:=by simp;rintro rfl;exact hq rfl):p:=h
theorem cE {p:Prop} (h:p:=by show (2:Int)<3;omega):p:=h
theorem cG {p:Prop} (h:p:=by show (3:Int)≤3;omega):p:=h
theorem cH {p:Prop} (h:p:=by simp only [ix];omega):p:=h
theorem cK {p:Prop} (h:p:=by rw [hm,yK];exact Nat.le_of_ble_eq_true ha):p:=h
theorem cL {p:Prop} (h:p:=by rcases (by omega:c=0∨c=1) with h|h<;>subst h<;>assumption):p:=h
theorem cM {p:Prop} (h:p:=by simp;intro h;exact hl (by rw [h])):p:=h
theorem cN {p:Prop} (h:p:=by show s.tasks.length-(i+1)<_;omega):p:=h
theorem cO {p:Prop} (h:p:=by simp [jv.ld,tL,jv.jF,jv.o9]):p:=h
theorem cP {p:Prop} (h:p:=by show (s.jT++[_]).length≤_;simp):p:=h
theorem cQ {p:Prop} (h:p:=by show s.ke.length≤_;omega):p:=h
theorem cR {p:Prop} (h:p:=by simp [mA]):p:=h
theorem cS {p:Prop} (h:p:=by rw [← hlen];exact (dt hb).1):p:=h
theorem cT {p:Prop} (h:p:=by rw [← hlen];exact (dt e1).1):p:=h
theorem cU {p:Prop} (h:p:=by rw [(jP j o ho hj).2];simp [qq,hd]):p:=h
theorem cV {p:Prop} (h:p:=by simp [kv]):p:=h
theorem cW {p:Prop} (h:p:=by rw [dE,hc];rfl):p:=h
theorem cY {p:Prop} (h:p:=by simp +decide only [go_sem, *]):p:=h
theorem cZ {p:Prop} (h:p:=by rw [← e3];exact (dt he).1):p:=h
theorem da {p:Prop} (h:p:=by simp;exact (hw.tW c (dx hc)).1):p:=h
theorem db {p:Prop} (h:p:=by simpa using hj):p:=h
theorem dd {p:Prop} (h:p:=by rw [f1];exact (dt hd).1):p:=h
theorem de {p:Prop} (h:p:=by rw [h2];exact (dt hd).1):p:=h
theorem df {p:Prop} (h:p:=by simp +decide only [mX,if_true,if_false,ka];rfl):p:=h
theorem dh {p:Prop} (h:p:=by cases h):p:=h
theorem di {p:Prop} (h:p:=by simp only [go_sem];rfl):p:=h
theorem dj {p:Prop} (h:p:=by rw [eQ];omega):p:=h
theorem dk {p:Prop} (h:p:=by show g 0=_;rw [h4,aBF]):p:=h
theorem dm {p:Prop} (h:p:=by show s.jE.length≤_;omega):p:=h
theorem dn {p:Prop} (h:p:=by rw [qU j (by omega)];exact AN):p:=h
theorem dq {p:Prop} (h:p:=by rw [dK,hl];omega):p:=h
theorem dr {p:Prop} (h:p:=by show (1:Int)≠2;omega):p:=h
theorem dt {α:Type _} {l:List α} {i:Nat} {a:α} (h:l[i]?=some a):∃h:i<l.length,l[i]=a:=List.getElem?_eq_some_iff.1 h
theorem du {α:Type _} {p:α→Bool} {l:List α} (h:l.all p=true):∀x,x∈l→p x=true:=List.all_eq_true.1 h
theorem dw:type_of%@List.getElem?_eq_some_iff:=@List.getElem?_eq_some_iff
theorem dx:type_of%@List.mem_of_getElem?:=@List.mem_of_getElem?
theorem dy:type_of%@List.getElem?_eq_getElem:=@List.getElem?_eq_getElem
theorem dz:type_of%@List.mem_singleton:=@List.mem_singleton
theorem dA:type_of%@List.getElem?_append_left:=@List.getElem?_append_left
theorem dB:type_of%@List.not_mem_nil:=@List.not_mem_nil
theorem dC:type_of%@List.mem_cons:=@List.mem_cons
theorem dD:type_of%@Nat.le_refl:=@Nat.le_refl
theorem dE:type_of%@List.getElem?_map:=@List.getElem?_map
theorem dF:type_of%@Int.toNat_natCast:=@Int.toNat_natCast
theorem dH:type_of%@Array.getD_eq_getD_getElem?:=@Array.getD_eq_getD_getElem?
theorem dI:type_of%@List.getD_eq_getElem?_getD:=@List.getD_eq_getElem?_getD
theorem dJ:type_of%@List.getElem?_append_right:=@List.getElem?_append_right
theorem dK:type_of%@List.length_append:=@List.length_append
theorem dL:type_of%@Nat.zero_le:=@Nat.zero_le
theorem dM:type_of%@Array.getElem?_eq_getElem:=@Array.getElem?_eq_getElem
theorem dN:type_of%@Result.andThen_ok:=@Result.andThen_ok
theorem dO:type_of%@List.length_singleton:=@List.length_singleton
theorem dP:type_of%@Int.toNat_of_nonneg:=@Int.toNat_of_nonneg
theorem dQ:type_of%@List.eq_nil_of_length_eq_zero:=@List.eq_nil_of_length_eq_zero
theorem dR:type_of%@Sem.run_bind:=@Sem.run_bind
theorem dS:type_of%@List.getElem?_set_ne:=@List.getElem?_set_ne
theorem dT:type_of%@List.getElem?_eq_none:=@List.getElem?_eq_none
theorem dU:type_of%@List.all_eq_true:=@List.all_eq_true
theorem dV:type_of%@Sem.run_pure:=@Sem.run_pure
theorem dW:type_of%@List.length_set:=@List.length_set
theorem dY:type_of%@Array.getElem?_toList:=@Array.getElem?_toList
theorem dZ:type_of%@Array.getElem?_setIfInBounds:=@Array.getElem?_setIfInBounds
theorem ee:type_of%@List.getElem?_set_self:=@List.getElem?_set_self
theorem ef:type_of%@List.map_cons:=@List.map_cons
theorem eg:type_of%@List.mem_append:=@List.mem_append
theorem eo:type_of%@List.length_map:=@List.length_map
theorem er:type_of%@Bool.and_eq_true:=@Bool.and_eq_true
theorem eu:type_of%@List.mem_or_eq_of_mem_set:=@List.mem_or_eq_of_mem_set
theorem ey:type_of%@List.getElem_mem:=@List.getElem_mem
theorem ez:type_of%@List.map_nil:=@List.map_nil
theorem eA:type_of%@List.append_assoc:=@List.append_assoc
theorem eB:type_of%@List.length_replicate:=@List.length_replicate
theorem eC:type_of%@List.getElem?_of_mem:=@List.getElem?_of_mem
theorem eE:type_of%@Nat.lt_or_ge:=@Nat.lt_or_ge
theorem eF:type_of%@List.mem_iff_getElem:=@List.mem_iff_getElem
theorem eG:type_of%@Bool.false_eq_true:=@Bool.false_eq_true
theorem eI:type_of%@List.mem_map:=@List.mem_map
theorem eJ:type_of%@Option.map_some:=@Option.map_some
theorem eK:type_of%@Array.getElem?_replicate:=@Array.getElem?_replicate
theorem eL:type_of%@Option.map_eq_some_iff:=@Option.map_eq_some_iff
theorem eM:type_of%@Nat.add_sub_cancel:=@Nat.add_sub_cancel
theorem eN:type_of%@List.getElem?_set:=@List.getElem?_set
theorem eP:type_of%@Array.getElem?_eq_some_iff:=@Array.getElem?_eq_some_iff
theorem eQ:type_of%@List.length_take:=@List.length_take
theorem eR:type_of%@Option.getD_some:=@Option.getD_some
theorem eS:type_of%@List.any_eq_true:=@List.any_eq_true
theorem eT:type_of%@Nat.sub_self:=@Nat.sub_self
theorem eU:type_of%@List.mem_range:=@List.mem_range
theorem eV:type_of%@List.getElem?_range:=@List.getElem?_range
theorem eW:type_of%@Nat.mul_le_mul_right:=@Nat.mul_le_mul_right
theorem eY:type_of%@List.set_append_right:=@List.set_append_right
theorem eZ:type_of%@Nat.lt_of_lt_of_le:=@Nat.lt_of_lt_of_le
theorem fa:type_of%@List.findIdx?_eq_some_iff_getElem:=@List.findIdx?_eq_some_iff_getElem
theorem fc:type_of%@List.findIdx?_eq_none_iff:=@List.findIdx?_eq_none_iff
theorem ff:type_of%@List.length_cons:=@List.length_cons
theorem fh:type_of%@List.getElem?_mapIdx:=@List.getElem?_mapIdx
theorem fi:type_of%@Nat.le_succ:=@Nat.le_succ
theorem fj:type_of%@Nat.le_add_right:=@Nat.le_add_right
theorem fk:type_of%@List.getElem?_replicate:=@List.getElem?_replicate
theorem fm:type_of%@List.length_range:=@List.length_range
theorem fq:type_of%@Nat.add_zero:=@Nat.add_zero
theorem ft:type_of%@Nat.zero_add:=@Nat.zero_add
theorem fu:type_of%@List.take_succ_eq_append_getElem:=@List.take_succ_eq_append_getElem
theorem fv:type_of%@Array.length_toList:=@Array.length_toList
theorem fw:type_of%@Array.mem_of_getElem?:=@Array.mem_of_getElem?
theorem fy:type_of%@Int.le_refl:=@Int.le_refl
theorem fA:type_of%@Option.some.injEq:=@Option.some.injEq
theorem fB:type_of%@Array.getElem?_append_left:=@Array.getElem?_append_left
theorem fC:type_of%@List.append_nil:=@List.append_nil
theorem fD:type_of%@List.foldl_cons:=@List.foldl_cons
theorem fE:type_of%@Array.getElem?_map:=@Array.getElem?_map
theorem fF:type_of%@List.replicate_succ':=@List.replicate_succ'
theorem fG:type_of%@List.ext_getElem?:=@List.ext_getElem?
theorem fH:type_of%@List.take_add_one:=@List.take_add_one
theorem fI:type_of%@Nat.le_trans:=@Nat.le_trans
theorem fJ:type_of%@List.map_set:=@List.map_set
theorem fK:type_of%@Nat.add_mul:=@Nat.add_mul
theorem fL:type_of%@List.getElem?_take:=@List.getElem?_take
theorem fM:type_of%@Nat.add_sub_cancel_left:=@Nat.add_sub_cancel_left
theorem fN:type_of%@List.getElem?_append:=@List.getElem?_append
theorem fO:type_of%@List.length_filter_lt_length_iff_exists:=@List.length_filter_lt_length_iff_exists
theorem fP:type_of%@List.take_of_length_le:=@List.take_of_length_le
theorem fQ:type_of%@List.replicate_succ:=@List.replicate_succ
theorem fR:type_of%@Option.map_none:=@Option.map_none
theorem fS:type_of%@List.drop_eq_getElem_cons:=@List.drop_eq_getElem_cons
theorem fT:type_of%@List.take_length:=@List.take_length
theorem fU:type_of%@List.getElem?_drop:=@List.getElem?_drop
theorem fV:type_of%@List.set_cons_zero:=@List.set_cons_zero
theorem fW:type_of%@Int.tmod_lt_of_pos:=@Int.tmod_lt_of_pos
theorem fY:type_of%@List.map_append:=@List.map_append
theorem fZ:type_of%@Nat.mul_add:=@Nat.mul_add
theorem ga:type_of%@List.drop_eq_nil_of_le:=@List.drop_eq_nil_of_le
theorem gb:type_of%@List.length_drop:=@List.length_drop
theorem gh:type_of%@List.set_getElem_self:=@List.set_getElem_self
theorem gj:type_of%@Nat.zero_mul:=@Nat.zero_mul
theorem gr:type_of%@World.alloc_eq:=@World.alloc_eq
theorem gy:type_of%@Option.bind_some:=@Option.bind_some
theorem gz:type_of%@List.map_toArray:=@List.map_toArray
theorem gA:type_of%@List.ext_getElem:=@List.ext_getElem
theorem gB:type_of%@Nat.lt_succ_self:=@Nat.lt_succ_self
theorem gC:type_of%@Array.empty_append:=@Array.empty_append
theorem gD:type_of%@Bool.true_eq_false:=@Bool.true_eq_false
theorem gE:type_of%@List.range_succ:=@List.range_succ
theorem gF:type_of%@Nat.not_lt_zero:=@Nat.not_lt_zero
theorem gJ:type_of%@List.getElem_take:=@List.getElem_take
theorem gK:type_of%@List.nodup_nil:=@List.nodup_nil
theorem gN:type_of%@List.eq_of_mem_replicate:=@List.eq_of_mem_replicate
theorem gO:type_of%@Array.getElem?_push:=@Array.getElem?_push
theorem gP:type_of%@Nat.exists_eq_add_of_le:=@Nat.exists_eq_add_of_le
theorem gQ:type_of%@List.getElem?_cons_zero:=@List.getElem?_cons_zero
theorem gR:type_of%@List.length_nil:=@List.length_nil
theorem gW:type_of%@Bool.eq_iff_iff:=@Bool.eq_iff_iff
theorem gY:type_of%@List.nil_append:=@List.nil_append
theorem gZ:type_of%@Nat.eq_zero_or_pos:=@Nat.eq_zero_or_pos
theorem ia:type_of%@Nat.mul_one:=@Nat.mul_one
theorem ik:type_of%@List.foldl_append:=@List.foldl_append
theorem iq:type_of%@Nat.sub_zero:=@Nat.sub_zero
theorem iy:type_of%@List.mem_toArray:=@List.mem_toArray
theorem iz:type_of%@List.zipIdx_cons:=@List.zipIdx_cons
theorem iZ:type_of%@if_neg:=@if_neg
theorem ja:type_of%@if_pos:=@if_pos
theorem jb:type_of%@if_true:=@if_true
theorem jc:type_of%@if_false:=@if_false
theorem jd:type_of%@or_false:=@or_false
theorem je:type_of%@decide_eq_false:=@decide_eq_false
theorem jf:type_of%@decide_eq_true:=@decide_eq_true
theorem jg:type_of%@run_underlying:=@run_underlying
theorem jh:type_of%@wp_mono:=@wp_mono
theorem ji:type_of%@false_iff:=@false_iff
theorem jj:type_of%@congrArg:=@congrArg
theorem jk:type_of%@beq_iff_eq:=@beq_iff_eq
theorem jl:type_of%@not_or:=@not_or
theorem jm:type_of%@of_decide_eq_true:=@of_decide_eq_true
theorem jn:type_of%@decide_eq_true_eq:=@decide_eq_true_eq
theorem jo:type_of%@run_newObj:=@run_newObj
theorem jr:type_of%@heap_alloc_new:=@heap_alloc_new
end Go
namespace Go.Ab
open Go Go.RowKit
inductive AV where
 | base (v:Value)
 | jA (es:List AV)
 | agg (cs:List AV)
 | ky (vs:List AV)
 | kN (e:AV) (off:Nat)
 | own (b tot off len:Nat)
 | ptr (b tot i off:Nat)
 | j9 (f:FuncId) (caps:List AV)
 | under (c:Bool) (a:AV)
 | J6
 | view (b tot i off n:Nat)
 | n5 (b:Nat)
 | ML
 | mem (cs:List (Nat×Obj))
 | JT (b:Nat)
 | clip (a:AV)
 | bad
 deriving Inhabited
def mu:Nat:=1000000
def AV.cells:AV→List AV
 | .agg cs=>cs
 | a=>[a]
structure jy where
 ty:TypeId
 sz:Nat
 es:List AV
def nR (ι:Nat→Option Nat) (H:List jy) (x:Nat):Prop:=∃b,b<H.length∧ι b=some x
inductive VR (w:World) (O:Nat→Prop) (ι:Nat→Option Nat) (H:List jy):AV→Value→Prop
 | base (v:Value):VR w O ι H (.base v) v
 | sn:VR w O ι H (.jA []) (.slice none 0 0)
 | jA (es:List AV) (a:Addr) (n cap s:Nat) (val:Nat→Nat→Value) (hn:n=es.length) (nQ:n≤cap) (so:n≤maxLen)
    (hlen:∀e∈es,e.cells.length=s)
    (ry:∀e∈es,a.spot=none)
    (hc:∀(i j:Nat) (e c:AV),es[i]?=some e→e.cells[j]?=some c→¬O a.block∧w.cell? ⟨a.block,a.off+i*s+j,none⟩=some (val i j))
    (hv:∀(i j:Nat) (e c:AV),es[i]?=some e→e.cells[j]?=some c→VR w O ι H c (val i j)) :
    VR w O ι H (.jA es) (.slice (some a) n cap)
 | agg (cs:List AV) (arr:Array Value) (hlen:arr.size=cs.length)
    (h:∀(j:Nat) (c:AV) (u:Value),cs[j]?=some c→arr[j]?=some u→VR w O ι H c u):VR w O ι H (.agg cs) (.agg arr)
 | ky (cs:List AV) (arr:Array Value) (hlen:arr.size=cs.length)
    (h:∀(j:Nat) (c:AV) (u:Value),cs[j]?=some c→arr[j]?=some u→VR w O ι H c u):VR w O ι H (.ky cs) (.tuple arr)
 | j9 (f:FuncId) (cs:List AV) (arr:Array Value) (hlen:arr.size=cs.length)
    (h:∀(j:Nat) (c:AV) (u:Value),cs[j]?=some c→arr[j]?=some u→VR w O ι H c u):VR w O ι H (.j9 f cs) (.func (.func f) #[] arr)
 | kN (e:AV) (off:Nat) (a:Addr) (val:Nat→Value) (hs:a.spot=none) (FV:off≤a.off)
    (hc:∀(j:Nat) (c:AV),e.cells[j]?=some c→¬O a.block∧w.cell? ⟨a.block,a.off-off+j,none⟩=some (val j))
    (hv:∀(j:Nat) (c:AV),e.cells[j]?=some c→VR w O ι H c (val j)) :
    VR w O ι H (.kN e off) (.pointer (some a))
 | uq (b tot off len:Nat) (blk:jy) (a:Option Addr) (n c:Nat) (hb:H[b]?=some blk) (h:tot<blk.es.length):VR w O ι H (.own b tot off len) (.slice a n c)
 | ys (b tot i off:Nat) (blk:jy) (a:Option Addr) (hb:H[b]?=some blk) (h:tot<blk.es.length):VR w O ι H (.ptr b tot i off) (.pointer a)
 | tI (b:Nat) (blk:jy) (h:H[b]?=some blk) (he:blk.es=[]) (hi:ι b=none):VR w O ι H (.own b 0 0 0) (.slice none 0 0)
 | own (b tot off len:Nat) (blk:jy) (x n cap:Nat) (a:Addr) (hb:H[b]?=some blk) (ht:blk.es.length=tot) (hi:ι b=some x) (hn:n=len)
    (hl:off+len≤tot) (nQ:len≤cap)
    (ha:cap≠0∨off=0→a=⟨x,off*blk.sz,none⟩∧cap≤maxLen∧∃c ty fz,w.heap[x]?=some (.cells c ty fz)∧(off+cap)*blk.sz=c.size) :
    VR w O ι H (.own b tot off len) (.slice (some a) n cap)
 | ptr (b tot i off:Nat) (blk:jy) (x:Nat) (hb:H[b]?=some blk) (ht:blk.es.length=tot) (hi:ι b=some x) (sS:∃c ty fz,w.heap[x]?=some (.cells c ty fz)) :
    VR w O ι H (.ptr b tot i off) (.pointer (some ⟨x,i*blk.sz+off,none⟩))
 | under (c:Bool) (a:AV) (v:Value) (h0:c=false→v=undef) (h:c=true→VR w O ι H a v):VR w O ι H (.under c a) v
 | J6 (b:Bool):VR w O ι H .J6 (.bool b)
 | OM (b tot i off n:Nat) (blk:jy) (a:Option Addr) (m c:Nat) (hb:H[b]?=some blk) (h:tot<blk.es.length):VR w O ι H (.view b tot i off n) (.slice a m c)
 | view (b tot i off n:Nat) (blk:jy) (x cap:Nat) (hb:H[b]?=some blk) (ht:blk.es.length=tot) (hi:ι b=some x) (sS:∃c ty fz,w.heap[x]?=some (.cells c ty fz)) (nQ:n≤cap) (so:n≤maxLen) :
    VR w O ι H (.view b tot i off n) (.slice (some ⟨x,i*blk.sz+off,none⟩) n cap)
 | Bg (b:Nat) (blk:jy) (a:Option Nat) (hb:H[b]?=some blk) (h:1<blk.es.length):VR w O ι H (.n5 b) (.map a)
 | n5 (b:Nat) (blk:jy) (x:Nat) (hb:H[b]?=some blk) (ht:blk.es.length=1) (hi:ι b=some x):VR w O ι H (.n5 b) (.map (some x))
 | ML (a:Option Addr):VR w O ι H .ML (.pointer a)
 | mem (cs:List (Nat×Obj)) (v:Value) (h:∀p∈cs,¬O p.1∧w.heap[p.1]?=some p.2):VR w O ι H (.mem cs) v
 | ON (b:Nat) (blk:jy) (a:Option Addr) (hb:H[b]?=some blk) (h:1<blk.es.length):VR w O ι H (.JT b) (.pointer a)
 | JT (b:Nat) (blk:jy) (x:Nat) (hb:H[b]?=some blk) (ht:blk.es.length=1) (hi:ι b=some x):VR w O ι H (.JT b) (.pointer (some ⟨x,0,none⟩))
 | clip (a:AV) (ad:Option Addr) (n:Nat) (h:VR w O ι H a (.slice ad n n)):VR w O ι H (.clip a) (.slice ad n n)
 | bad (v:Value):VR w O ι H .bad v
structure Grow (w:World) (ι:Nat→Option Nat) (H:List jy) (w':World) (jU:Nat→Option Nat) (H':List jy):Prop where
 blk:∀(b:Nat) (blk:jy),H[b]?=some blk→∃kH,H'[b]?=some kH∧blk.es.length≤kH.es.length∧(kH.es.length=blk.es.length→kH.sz=blk.sz∧jU b=ι b)
 size:∀(b x:Nat) (blk kH:jy) (c:Array Value) (ty:TypeId) (fz:Nat×Nat),H[b]?=some blk→H'[b]?=some kH→kH.es.length=blk.es.length→ι b=some x→w.heap[x]?=some (.cells c ty fz) →
  ∃c' wo AL,w'.heap[x]?=some (.cells c' wo AL)∧c'.size=c.size
theorem Grow.refl (w:World) (ι:Nat→Option Nat) (H:List jy):Grow w ι H w ι H:=
 ⟨fun b blk h=>⟨blk,h,dD _,fun _=>⟨rfl,rfl⟩⟩,fun b x blk kH c ty fz _ _ _ _ h=>⟨c,ty,fz,h,rfl⟩⟩
theorem Grow.trans {w1 w2 w3:World} {ι1 jO pN:Nat→Option Nat} {H1 H2 H3:List jy} (h:Grow w1 ι1 H1 w2 jO H2) (k:Grow w2 jO H2 w3 pN H3):Grow w1 ι1 H1 w3 pN H3:=by
 refine ⟨fun b blk hb=>?_,fun b x blk kH c ty fz h1 h3 hl hi hc=>?_⟩
 ·obtain ⟨b2,e2,l2,f2⟩:=h.blk b blk hb;obtain ⟨b3,e3,l3,f3⟩:=k.blk b b2 e2;refine ⟨b3,e3,fI l2 l3,fun e=>?_⟩;obtain ⟨s2,i2⟩:=f2 ae;obtain ⟨s3,i3⟩:=f3 ae;exact ⟨s3.trans s2,i3.trans i2⟩
 ·obtain ⟨b2,e2,l2,f2⟩:=h.blk b blk h1;obtain ⟨b3,e3,l3,f3⟩:=k.blk b b2 e2;rw [h3] at e3;injection e3 with e3;subst e3;obtain ⟨s2,i2⟩:=f2 ae;obtain ⟨c2,Ex,fz2,h5,h6⟩:=h.size b x blk b2 c ty fz h1 e2 ae hi hc;obtain ⟨c3,KF,KG,h7,h8⟩:=k.size b x b2 kH c2 Ex fz2 e2 h3 ae (i2.trans hi) h5;exact ⟨c3,KF,KG,h7,h8.trans h6⟩
structure mj (w:World) (O:Nat→Prop) (ι:Nat→Option Nat) (H:List jy) (w':World) (O':Nat→Prop) (jU:Nat→Option Nat) (H':List jy):Prop where
 obj:∀(p:Nat) (u:Obj),¬O p→w.heap[p]?=some u→w'.heap[p]?=some u
 Ec:∀(p:Nat) (u:Obj),¬O p→w.heap[p]?=some u→¬O' p
 blk:∀(b:Nat) (blk:jy),H[b]?=some blk→∃kH,H'[b]?=some kH∧blk.es.length≤kH.es.length∧(kH.es.length=blk.es.length→kH.sz=blk.sz∧jU b=ι b)
 size:∀(b x:Nat) (blk kH:jy) (c:Array Value) (ty:TypeId) (fz:Nat×Nat),H[b]?=some blk→H'[b]?=some kH→kH.es.length=blk.es.length→ι b=some x→w.heap[x]?=some (.cells c ty fz) →
  ∃c' wo AL,w'.heap[x]?=some (.cells c' wo AL)∧c'.size=c.size
theorem vY {w:World} {x:Nat} {o:Obj} (h:w.heap[x]?=some o):x<w.heap.size:=(eP.1 h).1
theorem mj.cell {w w':World} {O O':Nat→Prop} {ι jU:Nat→Option Nat} {H H':List jy} (g:mj w O ι H w' O' jU H') (p:Addr) (u:Value) (h:¬O p.block) (hc:w.cell? p=some u):w'.cell? p=some u:=by
 have hl:=World.block_lt_of_cell? _ _ hc;have h1:=g.obj p.block _ h (dM hl);rw [World.cell?_of_block (h1.trans (dM hl).symm)];exact hc
theorem mj.out {w w':World} {O O':Nat→Prop} {ι jU:Nat→Option Nat} {H H':List jy} (g:mj w O ι H w' O' jU H') (p:Addr) (u:Value) (h:¬O p.block) (hc:w.cell? p=some u):¬O' p.block:=
 g.Ec p.block _ h (dM (World.block_lt_of_cell? _ _ hc))
theorem mj.grow {w w':World} {O O':Nat→Prop} {ι jU:Nat→Option Nat} {H H':List jy} (g:mj w O ι H w' O' jU H'):Grow w ι H w' jU H':=⟨g.blk,g.size⟩
theorem VR.mono {w w':World} {O O':Nat→Prop} {ι jU:Nat→Option Nat} {H H':List jy} {a:AV} {v:Value}
 (h:VR w O ι H a v) (g:mj w O ι H w' O' jU H'):VR w' O' jU H' a v:=by
 induction h with
 | base v=>exact .base v
 | sn=>exact .sn
 | jA es a n cap s val hn nQ so hlen ry hc hv ih =>
   refine .jA es a n cap s val hn nQ so hlen ry (fun i j e c he hj=>?_) (fun i j e c he hj=>ih i j e c he hj);obtain ⟨h1,h2⟩:=hc i j e c he hj;exact ⟨g.out ⟨a.block,_,none⟩ _ h1 h2,g.cell _ _ h1 h2⟩
 | agg cs arr hlen h ih=>exact .agg cs arr hlen ih
 | ky cs arr hlen h ih=>exact .ky cs arr hlen ih
 | j9 f cs arr hlen h ih=>exact .j9 f cs arr hlen ih
 | kN e off a val hs FV hc hv ih =>
   refine .kN e off a val hs FV (fun j c hj=>?_) ih;obtain ⟨h1,h2⟩:=hc j c hj;exact ⟨g.out ⟨a.block,_,none⟩ _ h1 h2,g.cell _ _ h1 h2⟩
 | uq b tot off len blk a n c hb h =>
   obtain ⟨kH,ka,hl,_⟩:=g.blk b blk hb;exact .uq _ _ _ _ kH _ _ _ ka ae
 | ys b tot i off blk a hb h =>
   obtain ⟨kH,ka,hl,_⟩:=g.blk b blk hb;exact .ys _ _ _ _ kH _ ka ae
 | tI b blk h he hi =>
   obtain ⟨kH,ka,hl,hs⟩:=g.blk b blk h;by_cases e:kH.es.length=blk.es.length
   ·obtain ⟨_,h3⟩:=hs e;refine .tI b kH ka ?_ (h3.trans hi);rw [he] at e;exact dQ e
   ·exact .uq _ _ _ _ kH _ _ _ ka ae
 | own b tot off len blk x n cap a hb ht hi hn hl nQ ha =>
   obtain ⟨kH,ka,hle,hs⟩:=g.blk b blk hb;by_cases e:kH.es.length=blk.es.length
   ·obtain ⟨h2,h3⟩:=hs e;refine .own b tot off len kH x n cap a ka (e.trans ht) (h3.trans hi) hn hl nQ fun hc=>?_;obtain ⟨h4,h9,c,ty,fz,h5,h6⟩:=ha hc;obtain ⟨c',wo,AL,h7,h8⟩:=g.size b x blk kH c ty fz hb ka e hi h5;rw [h2];exact ⟨h4,h9,c',wo,AL,h7,h6.trans h8.symm⟩
   ·exact .uq _ _ _ _ kH _ _ _ ka ae
 | ptr b tot i off blk x hb ht hi sS =>
   obtain ⟨kH,ka,hle,hs⟩:=g.blk b blk hb;by_cases e:kH.es.length=blk.es.length
   ·obtain ⟨h2,h3⟩:=hs e;obtain ⟨c,ty,fz,pO⟩:=sS;obtain ⟨c',wo,AL,Qu,_⟩:=g.size b x blk kH c ty fz hb ka e hi pO;have:=VR.ptr (w:=w') (O:=O') b tot i off kH x ka (e.trans ht) (h3.trans hi) ⟨c',wo,AL,Qu⟩;rwa [h2] at this
   ·exact .ys _ _ _ _ kH _ ka ae
 | under c a v h0 h ih=>exact .under c a v h0 ih
 | J6 b=>exact .J6 b
 | OM b tot i off n blk a m c hb h =>
   obtain ⟨kH,ka,hl,_⟩:=g.blk b blk hb;exact .OM _ _ _ _ _ kH _ _ _ ka ae
 | view b tot i off n blk x cap hb ht hi sS nQ so =>
   obtain ⟨kH,ka,hle,hs⟩:=g.blk b blk hb;by_cases e:kH.es.length=blk.es.length
   ·obtain ⟨h2,h3⟩:=hs e;obtain ⟨c,ty,fz,pO⟩:=sS;obtain ⟨c',wo,AL,Qu,_⟩:=g.size b x blk kH c ty fz hb ka e hi pO;have:=VR.view (w:=w') (O:=O') b tot i off n kH x cap ka (e.trans ht) (h3.trans hi) ⟨c',wo,AL,Qu⟩ nQ so;rwa [h2] at this
   ·exact .OM _ _ _ _ _ kH _ _ _ ka ae
 | Bg b blk a hb h =>
   obtain ⟨kH,ka,hl,_⟩:=g.blk b blk hb;exact .Bg _ kH _ ka ae
 | n5 b blk x hb ht hi =>
   obtain ⟨kH,ka,hle,hs⟩:=g.blk b blk hb;by_cases e:kH.es.length=blk.es.length
   ·obtain ⟨h2,h3⟩:=hs e;exact .n5 _ kH _ ka (e.trans ht) (h3.trans hi)
   ·exact .Bg _ kH _ ka ae
 | ML a=>exact .ML a
 | mem cs v h=>exact .mem cs v fun p hp=>⟨g.Ec p.1 p.2 (h p hp).1 (h p hp).2,g.obj p.1 p.2 (h p hp).1 (h p hp).2⟩
 | ON b blk a hb h =>
   obtain ⟨kH,ka,hl,_⟩:=g.blk b blk hb;exact .ON _ kH _ ka ae
 | JT b blk x hb ht hi =>
   obtain ⟨kH,ka,hle,hs⟩:=g.blk b blk hb;by_cases e:kH.es.length=blk.es.length
   ·obtain ⟨h2,h3⟩:=hs e;exact .JT _ kH _ ka (e.trans ht) (h3.trans hi)
   ·exact .ON _ kH _ ka ae
 | clip a ad n h ih=>exact .clip a ad n ih
 | bad v=>exact .bad v
def OO (O:Nat→Prop) (ι:Nat→Option Nat) (H:List jy) (x:Nat):Prop:=O x∨nR ι H x
def pj:TypeId:=1000000007
theorem apI {a:TypeId} (h:Nat.blt a pj=true):a<pj:=cb
def H5 (el:TypeId):TypeId:=1000000010+el
def PK:TypeId:=1000000009
def Bn:Obj→Option (Array Value×TypeId)
 | .cells c ty fz=>if fz=(0,0) then (if ty<pj then some (c,ty) else none) else some (c,H5 ty)
 | .map es _=>some (#[.agg (es.map (·.key)),.agg (es.map (·.val))],pj)
 | .stringIter s pos=>some (#[.string s,.int .i64 pos],PK)
 | _=>none
def rowAt (w:World) (x:Nat):Option (Array Value×TypeId):=(w.heap[x]?).bind Bn
theorem Ci {w:World} {x:Nat} {c:Array Value} {ty:TypeId} (h:w.heap[x]?=some (.cells c ty (0,0))) (hm:ty<pj):rowAt w x=some (c,ty):=by
 simp [rowAt,h,Bn,hm]
theorem UO {w:World} {x:Nat} {c:Array Value} {ty:TypeId} (h:rowAt w x=some (c,ty)) (hc:∃c1 AM fz,w.heap[x]?=some (.cells c1 AM fz)):(w.heap[x]?=some (.cells c ty (0,0))∧ty<pj)∨(∃Ex fz,w.heap[x]?=some (.cells c Ex fz)∧ty=H5 Ex):=by
 obtain ⟨c1,AM,fz,hc⟩:=hc;simp only [rowAt,hc,gy,Bn] at h;split at h
 ·rename_i hz;split at h
  ·rename_i h2;injection h with h;injection h with h3 h4;subst h3;subst h4;subst hz;exact .inl ⟨hc,h2⟩
  ·cases h
 ·injection h with h;injection h with h3 h4;subst h3;exact .inr ⟨_,_,hc,h4.symm⟩
theorem Mc {w:World} {x:Nat} {c:Array Value} {ty:TypeId} (h:rowAt w x=some (c,ty)) (hc:∃c1 AM fz,w.heap[x]?=some (.cells c1 AM fz)):∃Ex fz,w.heap[x]?=some (.cells c Ex fz):=by
 rcases UO h hc with h|⟨_,_,h,_⟩
 ·exact ⟨_,_,h.1⟩
 ·exact ⟨_,_,h⟩
theorem Vr (el:TypeId):¬H5 el<pj∧H5 el≠pj∧H5 el≠PK:=by
 have h:(1000000010:Nat)≤H5 el:=fj _ _;have h1:pj<(1000000010:Nat):=az;have h2:PK<(1000000010:Nat):=az;exact ⟨fun h3=>absurd (Nat.lt_trans h3 h1) (Nat.not_lt.2 h),fun h3=>absurd h1 (Nat.not_lt.2 (h3▸h)),fun h3=>absurd h2 (Nat.not_lt.2 (h3▸h))⟩
theorem Jo {w:World} {x:Nat} {c:Array Value} {ty:TypeId} (h:rowAt w x=some (c,ty)) (hc:∃c1 AM fz,w.heap[x]?=some (.cells c1 AM fz)) (hm:ty<pj):w.heap[x]?=some (.cells c ty (0,0)):=by
 rcases UO h hc with h|⟨Ex,_,_,h⟩
 ·exact h.1
 ·rw [h] at hm;exact absurd hm (Vr Ex).1
theorem afG {w:World} {x:Nat} {c:Array Value} (h:rowAt w x=some (c,pj)):∃es k,w.heap[x]?=some (.map es k)∧c=#[.agg (es.map (·.key)),.agg (es.map (·.val))]:=by
 unfold rowAt at h;cases hx:w.heap[x]? with
 | none=>rw [hx] at h;cases h
 | some o =>
   rw [hx] at h;cases o with
   | cells c1 AM fz =>
     simp only [gy,Bn] at h;split at h
     ·split at h
      ·rename_i h2;injection h with h;injection h with h3 h4;rw [h4] at h2;exact absurd h2 (Nat.lt_irrefl _)
      ·cases h
     ·injection h with h;injection h with h3 h4;exact absurd h4 (Vr _).2.1
   | map es k =>
     simp only [gy,Bn] at h;injection h with h;injection h with h3 h4;exact ⟨es,k,rfl,h3.symm⟩
   | stringIter s pos =>
     simp only [gy,Bn] at h;injection h with h;injection h with h3 h4;exact absurd h4 az
   | _=>cases h
theorem agW {w:World} {x:Nat} {r:Array Value×TypeId} (h:rowAt w x=some r):x<w.heap.size:=by
 rcases eE x w.heap.size with h'|h'
 ·exact h'
 ·rw [rowAt,Array.getElem?_eq_none h'] at h;cases h
theorem aeF {w w':World} {x:Nat} (h:w'.heap[x]?=w.heap[x]?):rowAt w' x=rowAt w x:=by rw [rowAt,h];rfl
structure BR (w:World) (O:Nat→Prop) (ι:Nat→Option Nat) (H:List jy) (blk:jy) (x:Nat):Prop where
 row:∃c,rowAt w x=some (c,blk.ty)∧blk.es.length*blk.sz≤c.size ∧
  (∀e∈blk.es,e.cells.length=blk.sz) ∧
  ∀(i j:Nat) (e d:AV),blk.es[i]?=some e→e.cells[j]?=some d→∃u,c[i*blk.sz+j]?=some u∧VR w O ι H d u
structure nd where
 w:World
 S:Nat→Prop
 H:List jy
 ι:Nat→Option Nat
abbrev JU (w:World):nd:=⟨w,fun _=>False,[],fun _=>none⟩
structure yg (w0:nd) (w:World):Prop where
 os:w.os=w0.w.os
 tape:w.tape=w0.w.tape
 output:w.output=w0.w.output
 size:w0.w.heap.size≤w.heap.size
 block:∀k,k<w0.w.heap.size→¬w0.S k→w.heap[k]?=w0.w.heap[k]?
theorem yg.step {w0:nd} {w w':World} (h:yg w0 w) (hb:Below w.heap.size w w'):yg w0 w':=
 ⟨hb.os.trans h.os,hb.tape.trans h.tape,hb.output.trans h.output,fI h.size hb.size,fun k hk hS=>(hb.block k (eZ hk h.size)).trans (h.block k hk hS)⟩
theorem yg.change {w0:nd} {w w':World} (h:yg w0 w) (ng:w'.os=w.os) (ht:w'.tape=w.tape) (ho:w'.output=w.output) (kA:w.heap.size≤w'.heap.size)
 (hb:∀k,k<w.heap.size→w'.heap[k]?≠w.heap[k]?→w0.w.heap.size≤k∨w0.S k):yg w0 w':=
 ⟨ng.trans h.os,ht.trans h.tape,ho.trans h.output,fI h.size kA,fun k hk hS=>by
  by_cases e:w'.heap[k]?=w.heap[k]?
  ·exact e.trans (h.block k hk hS)
  ·rcases hb k (eZ hk h.size) e with h1|h1
   ·omega
   ·exact absurd h1 hS⟩
theorem yg.refl (w:World) (S:Nat→Prop) (H:List jy) (ι:Nat→Option Nat):yg ⟨w,S,H,ι⟩ w:=⟨rfl,rfl,rfl,dD _,fun _ _ _=>rfl⟩
theorem yg.below {w w':World} (h:yg (JU w) w'):Below w.heap.size w w':=⟨h.os,h.tape,h.output,h.size,fun k hk=>h.block k hk id⟩
structure lA (w0:nd) (O:Nat→Prop) (ι:Nat→Option Nat) (H:List jy) (w:World):Prop where
 heap:∀(b:Nat) (blk:jy) (x:Nat),H[b]?=some blk→ι b=some x→(w0.w.heap.size≤x∨w0.S x)∧BR w (OO O ι H) ι H blk x
 sq:∀(b:Nat) (blk:jy),H[b]?=some blk→ι b=none→blk.es=[]
 inj:∀(b b' x:Nat),b<H.length→b'<H.length→ι b=some x→ι b'=some x→b=b'
 below:yg w0 w
 rS:∀x,O x→x<w.heap.size
 qp:∀(x b:Nat),O x→b<H.length→ι b≠some x
 pn:Grow w0.w w0.ι w0.H w ι H
abbrev Env:=List (Nat×AV)
def lk:Env→Nat→AV
 | [],_=>.bad
 | (k,v)::r,t=>if k=t then v else lk r t
structure ku where
 env:Env
 H:List jy
def cv:Value→AV
 | .agg cs=>.agg (cs.toList.map .base)
 | v=>.base v
theorem VR.cv (w:World) (O:Nat→Prop) (ι:Nat→Option Nat) (H:List jy) (v:Value):VR w O ι H (cv v) v:=by
 cases v<;>first
  | exact .base _
  | (refine .agg _ _ ah fun j c u hc hu=>?_
     simp only [dE,dY,hu,eJ] at hc;injection hc with hc;subst hc;exact .base _)
def ev (E:Env):Operand→AV
 | .tmp t=>lk E t
 | .const v=>cv v
 | .global g=>.base (.pointer (some ⟨g,0,none⟩))
 | .func f=>.j9 f []
structure Fr where
 n:Nat
 m:Nat
instance (k:Nat):OfNat Fr k:=⟨⟨k,0⟩⟩
structure SR (n:Fr) (w0:nd) (O:Nat→Prop) (s:ku) (ι:Nat→Option Nat) (a:Act) (w:World):Prop where
 mP:lA w0 O ι s.H w
 defers:a.defers=[]
 size:a.tmps.size=n.n
 hand:w0.H.length=n.m
 oV:∀t,VR w (OO O ι s.H) ι s.H (lk s.env t) (a.tmps.getD t undef)
theorem VR.ev {w:World} {O:Nat→Prop} {ι:Nat→Option Nat} {H:List jy} {E:Env} {a:Act}
 (h:∀t,VR w O ι H (lk E t) (a.tmps.getD t undef)) (x:Operand):VR w O ι H (ev E x) (a.eval x):=by
 cases x with
 | tmp t=>exact h t
 | const v=>exact VR.cv _ _ _ _ v
 | global g=>exact .base _
 | func f=>exact .j9 f [] #[] rfl ah
abbrev AV.int (n:Int):AV:=.base (.int .i64 n)
abbrev AV.bool (b:Bool):AV:=.base (.bool b)
def HJ (c:Bool):AV→AV
 | .under d a=>if c=d then a else .under d a
 | a=>a
def stripL:List Bool→AV→AV
 | [],a=>a
 | c::l,a=>stripL l (HJ c a)
def wa:List Bool→AV→AV
 | [],a=>a
 | c::l,a=>.under c (wa l a)
def oR:List Bool→Bool
 | []=>true
 | c::l=>c&&oR l
def mE (P:Program) (t:TypeId):Option Bool:=
 match P.underlying t with
 | some (.struct _)|some (.array _ _)=>some true
 | some _=>some false
 | none=>none
def lW (P:Program) (t:TypeId):Option Nat:=(P.info? t).map (·.size)
def PM:AV→Bool
 | .agg _=>true
 | _=>false
def uB (agg:Option Bool) (sz:Option Nat) (e:AV) (off:Nat):Option AV:=
 match agg,sz with
 | some true,some n=>if off+n≤e.cells.length then some (.agg ((e.cells.drop off).take n)) else none
 | some false,_=>e.cells[off]?
 | _,_=>none
def lP (P:Program) (s:TypeId) (f:Nat):Option Nat:=
 match P.underlying s with
 | some (.struct fs)=>match fs[f]? with
   | some fd=>match lW P fd.type with
     | some (_+1)=>some fd.offset
     | _=>none
   | none=>none
 | _=>none
def PN (op:BinOp) (k:IntKind) (a b:Int):Option AV:=
 match op with
 | .add=>some (.base (.int k (k.wrap (a+b))))
 | .sub=>some (.base (.int k (k.wrap (a-b))))
 | .mul=>some (.base (.int k (k.wrap (a*b))))
 | .quo=>if b=0 then none else some (.base (.int k (k.wrap (a.tdiv b))))
 | .rem=>if b=0 then none else some (.base (.int k (a.tmod b)))
 | .and=>some (.base (.int k (k.wrap (BitVec.ofInt k.bits a &&& BitVec.ofInt k.bits b).toNat)))
 | .or=>some (.base (.int k (k.wrap (BitVec.ofInt k.bits a ||| BitVec.ofInt k.bits b).toNat)))
 | .eql=>some (.bool (a==b))
 | .neq=>some (.bool (a !=b))
 | .lss=>some (.bool (decide (a<b)))
 | .leq=>some (.bool (decide (a≤b)))
 | .gtr=>some (.bool (decide (a>b)))
 | .geq=>some (.bool (decide (a≥b)))
 | _=>none
def PO (op:BinOp) (x y:ByteArray):Option AV:=
 match op with
 | .eql=>some (.bool (x.toList==y.toList))
 | .neq=>some (.bool !(x.toList==y.toList))
 | .lss=>some (.bool (Op.bytesLess x.toList y.toList))
 | _=>none
def Pm (P:Program) (t:TypeId) (op:BinOp) (x y:Bool):Option AV:=
 match P.underlying t with
 | some .bool=>match op with
   | .eql=>some (.bool (x==y))
   | .neq=>some (.bool (!(x==y)))
   | _=>none
 | _=>none
def MN (P:Program) (t:TypeId) (op:BinOp):AV→AV→Option AV
 | .base (.int k a),.base (.int k' b)=>match op with
   | .shl=>if b<0 then none else some (.base (.int k (k.wrap (a*2 ^ (min b.toNat k.bits)))))
   | .shr=>if b<0 then none else some (.base (.int k (a.fdiv (2 ^ (min b.toNat k.bits)))))
   | _=>if k=k' then PN op k a b else none
 | .base (.string a),.base (.string b)=>PO op a b
 | .base (.bool a),.base (.bool b)=>Pm P t op a b
 | _,_=>none
def fresh (H:List jy) (b tot:Nat):Bool:=
 match H[b]? with
 | some blk=>blk.es.length==tot
 | none=>false
def wI (P:Program) (H:List jy) (t:TypeId):AV→Option AV
 | .jA es=>match P.underlying t with|some (.slice _)=>some (.int es.length)|_=>none
 | .own b tot _ n=>if fresh H b tot=true then match P.underlying t with|some (.slice _)=>some (.int n)|_=>none else none
 | .base (.slice none 0 0)=>match P.underlying t with|some (.slice _)=>some (.int 0)|_=>none
 | .base (.string s)=>match P.underlying t with|some .string=>some (.int s.size)|_=>none
 | _=>none
def P5 (t:Bool) (A B:AV):Option AV:=
 match HJ t A,HJ (!t) B with
 | .base (.bool x),.base (.bool y)=>some (.bool (bif t then x else y))
 | _,_=>none
def PQ (P:Program) (t:TypeId) (f:Nat) (cs:List AV):Option AV:=
 match P.underlying t with
 | some (.struct fs)=>match fs[f]? with
   | some fd=>uB (mE P fd.type) (lW P fd.type) (.agg cs) fd.offset
   | none=>none
 | _=>none
def qe (P:Program) (H:List jy) (ρ:Operand→AV):Op→Option AV
 | .move x | .assign x=>some (ρ x)
 | .pick c a b=>match ρ c with
   | .base (.bool t)=>P5 t (ρ a) (ρ b)
   | _=>none
 | .load t x=>match ρ x with
   | .kN e off=>uB (mE P t) (lW P t) e off
   | .ptr b tot i off=>match H[b]? with
     | some blk=>if blk.es.length=tot then match blk.es[i]? with
       | some e=>uB (mE P t) (lW P t) e off
       | none=>none else none
     | none=>none
   | _=>none
 | .fieldAddr s x f=>match lP P s f,ρ x with
   | some n,.kN e off=>some (.kN e (off+n))
   | some n,.ptr b tot i off=>if fresh H b tot=true then some (.ptr b tot i (off+n)) else none
   | _,_=>none
 | .field t x f=>match ρ x with
   | .agg cs=>PQ P t f cs
   | _=>none
 | .binOp op t x y _=>MN P t op (ρ x) (ρ y)
 | .unOp .not _ x=>match ρ x with
   | .base (.bool b)=>some (.bool !b)
   | _=>none
 | .unOp .neg _ x=>match ρ x with
   | .base (.int k n)=>some (.base (.int k (k.wrap (0-n))))
   | _=>none
 | .extract x i=>match ρ x with
   | .ky vs=>vs[i]?
   | _=>none
 | .nilCheck x=>match ρ x with
   | .ptr b tot i off=>if fresh H b tot=true then some (.ptr b tot i off) else none
   | .kN e off=>some (.kN e off)
   | _=>none
 | .convert s d x=>match ρ x with
   | .base (.int _ n)=>match P.underlying s,P.underlying d with
     | some _,some (.int k)=>some (.base (.int k (k.wrap n)))
     | _,_=>none
   | _=>none
 | .makeFunc (.func f) first caps=>match first.toList with
   | []=>some (.j9 f (caps.toList.map ρ))
   | _=>none
 | .call c=>match c.callee,c.args.toList,c.argTypes.toList with
   | .builtin .len,[x],[t]=>wI P H t (ρ x)
   | _,_,_=>none
 | _=>none
def Ey (P:Program) (H:List jy) (ρ:Operand→AV) (o:Oper) (v:AV):Prop:=
 ∀(w0:nd) (O:Nat→Prop) (ι:Nat→Option Nat) (a:Act) (w:World),lA w0 O ι H w →
  (∀x,x∈o.op.operands∨x=.tmp mu→VR w (OO O ι H) ι H (ρ x) (a.eval x)) →
  ∀(K:Act→World→Prop) (Q:Exit→Act→World→Prop),
   (∀u w',VR w' (OO O ι H) ι H v u→Below w.heap.size w w'→K (a.put o.dst u) w')→o.wp P a w K Q
theorem Ey.ql {P:Program} {H:List jy} {ρ:Operand→AV} {o:Oper} {v:AV}
 (h:∀(w0:nd) (O:Nat→Prop) (ι:Nat→Option Nat) (a:Act) (w:World),lA w0 O ι H w →
   (∀x,x∈o.op.operands→VR w (OO O ι H) ι H (ρ x) (a.eval x))→∃u,(execOp a.eval o).run P w=.ok (.value u) w∧VR w (OO O ι H) ι H v u):Ey P H ρ o v:=by
 intro w0 O ι a w hs hv K Q hK;obtain ⟨u,hr,hu⟩:=h w0 O ι a w hs fun x hx=>hv x (.inl hx);unfold Oper.wp;rw [hr];exact hK u w hu (Below.refl _ _)
section
variable {w:World} {O:Nat→Prop} {ι:Nat→Option Nat} {H:List jy} {u:Value}
theorem VR.nO {v:Value} (h:VR w O ι H (.base v) u):u=v:=by cases h;rfl
theorem VR.Co {cs:List AV} (h:VR w O ι H (.agg cs) u):∃arr:Array Value,u=.agg arr∧arr.size=cs.length ∧
 ∀(j:Nat) (c:AV) (u:Value),cs[j]?=some c→arr[j]?=some u→VR w O ι H c u:=by
 cases h with
 | agg cs arr hlen h=>exact ⟨arr,rfl,hlen,h⟩
theorem VR.Pn {cs:List AV} (h:VR w O ι H (.ky cs) u):∃arr:Array Value,u=.tuple arr∧arr.size=cs.length ∧
 ∀(j:Nat) (c:AV) (u:Value),cs[j]?=some c→arr[j]?=some u→VR w O ι H c u:=by
 cases h with
 | ky cs arr hlen h=>exact ⟨arr,rfl,hlen,h⟩
theorem VR.Uj {c:Bool} {a:AV} (h:VR w O ι H (.under c a) u) (hc:c=true):VR w O ι H a u:=by
 cases h with
 | under c a v h0 h=>exact h hc
theorem VR.strip {c:Bool} {a:AV} (hc:c=true) (h:VR w O ι H a u):VR w O ι H (HJ c a) u:=by
 cases a with
 | under d a' =>
   show VR w O ι H (if c=d then a' else .under d a') u;split
   ·rename_i e;subst e;exact h.Uj hc
   ·exact h
 | _=>exact h
theorem VR.Mv:∀ {l:List Bool} {a:AV},oR l=true→VR w O ι H a u→VR w O ι H (stripL l a) u
 | [],a,_,h=>h
 | c::l,a,hl,h=>by
   simp only [oR,er] at hl;exact VR.Mv (l:=l) (a:=HJ c a) hl.2 (h.strip hl.1)
theorem VR.P6:∀ {l:List Bool} {a:AV},VR w O ι H a u→oR l=true→VR w O ι H (wa l a) u
 | [],a,h,_=>h
 | c::l,a,h,hl=>by
   simp only [oR,er] at hl;exact .under _ _ _ (fun e=>by rw [hl.1] at e;cases e) fun _=>VR.P6 h hl.2
theorem VR.PR:∀ {l:List Bool} {a:AV},oR l=false→VR w O ι H (wa l a) undef
 | [],a,h=>dh
 | c::l,a,hl=>by
   refine .under _ _ _ (fun _=>rfl) fun hc=>VR.PR ?_;simpa [oR,hc] using hl
def EL (w:World) (O:Nat→Prop) (ι:Nat→Option Nat) (H:List jy) (e:AV) (blk off:Nat):Prop:=
 ∀(j:Nat) (c:AV),e.cells[j]?=some c→∃u,w.cell? ⟨blk,off+j,none⟩=some u∧VR w O ι H c u
theorem VR.UP {e:AV} {off:Nat} (h:VR w O ι H (.kN e off) u):∃a:Addr,u=.pointer (some a)∧a.spot=none∧off≤a.off∧EL w O ι H e a.block (a.off-off):=by
 cases h with
 | kN e off a val hs FV hc hv=>exact ⟨a,rfl,hs,FV,fun j c hj=>⟨val j,(hc j c hj).2,hv j c hj⟩⟩
theorem VR.HA {w0:nd} {O:Nat→Prop} (hs:lA w0 O ι H w) {O':Nat→Prop} {b tot i off:Nat} {blk:jy} {e:AV} (h:VR w O' ι H (.ptr b tot i off) u) (hb:H[b]?=some blk) (ht:blk.es.length=tot) (he:blk.es[i]?=some e) :
 ∃x,ι b=some x∧u=.pointer (some ⟨x,i*blk.sz+off,none⟩)∧EL w (OO O ι H) ι H e x (i*blk.sz):=by
 cases h with
 | ys b tot i off kH a ka h=>rw [hb] at ka;cases ka;omega
 | ptr b tot i off kH x ka nk hi sS =>
   rw [hb] at ka;cases ka;obtain ⟨_,c,hc,_,_,mQ⟩:=hs.heap b blk x hb hi;refine ⟨x,hi,rfl,fun j d hj=>?_⟩;obtain ⟨u,hu,hv⟩:=mQ i j e d he hj;obtain ⟨KF,KG,hc⟩:=Mc hc sS;exact ⟨u,by simpa [World.cell?,hc] using hu,hv⟩
theorem Po {P:Program} {t:TypeId} {e v:AV} {off blk base:Nat} (h:uB (mE P t) (lW P t) e off=some v) (mQ:EL w O ι H e blk base) :
 ∃u,(loadVar t ⟨blk,base+off,none⟩).run P w=.ok u w∧VR w O ι H v u:=by
 unfold uB at h;split at h
 ·rename_i n ha hn;split at h
  ·rename_i hle;injection h with h;subst h;have hex:∃us:List Value,us.length=n∧∀j c u,((e.cells.drop off).take n)[j]?=some c→us[j]?=some u→w.cell? ⟨blk,base+off+j,none⟩=some u∧VR w O ι H c u:=by
    refine ⟨(List.range n).map fun j=>(w.cell? ⟨blk,base+off+j,none⟩).getD undef,ah,fun j c u hc hu=>?_⟩;rw [fL] at hc;split at hc
    ·rename_i hj;rw [fU] at hc;obtain ⟨u',uC,hv⟩:=mQ _ _ hc;rw [← Nat.add_assoc] at uC;rw [dE,eV hj] at hu;simp [uC] at hu;subst hu;exact ⟨uC,hv⟩
    ·cases hc
   obtain ⟨us,sT,uD⟩:=hex;have lK:((e.cells.drop off).take n).length=n:=aj;have Wb:w.rangeAt blk (base+off) us:=by
    intro j v hj;have pP:j<n:=by rw [← sT];exact (dt hj).1
    have hc:((e.cells.drop off).take n)[j]?=some (((e.cells.drop off).take n)[j]' ae):=dy ae;exact (uD j _ v hc hj).1
   unfold mE at ha;have hd:∃d,P.underlying t=some d∧d.isRow=true:=by
    split at ha<;>simp_all
   obtain ⟨d,kb,mo⟩:=hd;unfold lW at hn;refine ⟨.agg us.toArray,run_loadVar_mid w blk (base+off) t us d Wb kb mo (by rw [hn,sT]),?_⟩;refine .agg _ _ (by simp [sT];omega) fun j c u hc hu=>?_;exact (uD j c u hc (by simpa using hu)).2
  ·cases h
 ·rename_i ha;obtain ⟨u,hu,hv⟩:=mQ off v h;refine ⟨u,?_,hv⟩;unfold mE at ha;have J7:(isAgg t).run P w=.ok false w:=by
   unfold isAgg;split at ha
   ·cases ha
   ·cases ha
   ·rename_i d _ _ hd;rw [dR,jg hd w];cases d<;>simp_all
   ·cases ha
  simp [loadVar,dR,J7,hu]
 ·cases h
theorem LS {P:Program} {op:BinOp} {t:TypeId} {x y:Operand} {a b:Value} (ha:a≠.nilIface) (hag:∀cs,a≠.agg cs):(eqGuard op t x y a b).run P w=.ok () w:=by
 unfold eqGuard;cases op<;>simp only [Bool.not_true,Bool.not_false,jb]<;>first
  | rfl
  | (cases a<;>first|(exact absurd rfl ha)|(exact absurd rfl (hag _))|(cases b<;>rfl))
theorem agX {P:Program} {t:TypeId} {op:BinOp} {A B v:AV} {x y:Value} {X Y:Operand} (h:MN P t op A B=some v) (hx:VR w O ι H A x) (hy:VR w O ι H B y) :
 ∃u,(eqGuard op t X Y x y).run P w=.ok () w∧(binOp op t x y).run P w=.ok u w∧VR w O ι H v u:=by
 unfold MN at h;split at h
 ·rename_i k a k' b;have:=hx.nO;subst this;have:=hy.nO;subst this;have hg:(eqGuard op t X Y (.int k a) (.int k' b)).run P w=.ok () w:=LS ah ah;split at h
  ·split at h
   ·cases h
   ·rename_i hb;injection h with h;subst h;exact ⟨_,hg,by simp [binOp,Op.shift,hb],.base _⟩
  ·split at h
   ·cases h
   ·rename_i hb;injection h with h;subst h;exact ⟨_,hg,by simp [binOp,Op.shift,hb],.base _⟩
  ·rename_i h1 h2;split at h
   ·rename_i hk;subst hk;unfold PN at h;cases op<;>simp only at h<;>first
     | (cases h;done)
     | (exact absurd rfl h1)
     | (exact absurd rfl h2)
     | (injection h with h;subst h;exact ⟨_,hg,by simp [binOp,Op.intArith,Op.intBits,Op.intCmp],.base _⟩)
     | (split at h
        ·cases h
        ·rename_i hb;injection h with h;subst h;exact ⟨_,hg,by simp [binOp,Op.intDiv,hb],.base _⟩)
   ·cases h
 ·rename_i a b;have:=hx.nO;subst this;have:=hy.nO;subst this;have hg:(eqGuard op t X Y (.string a) (.string b)).run P w=.ok () w:=LS ah ah;unfold PO at h;cases op<;>simp only at h<;>first
   | (cases h;done)
   | (injection h with h;subst h;exact ⟨_,hg,by simp [binOp,Op.stringOp],.base _⟩)
 ·rename_i a b;have:=hx.nO;subst this;have:=hy.nO;subst this;have hg:(eqGuard op t X Y (.bool a) (.bool b)).run P w=.ok () w:=LS ah ah;unfold Pm at h;split at h
  ·rename_i ht;cases op<;>simp only at h<;>first
    | (cases h;done)
    | (injection h with h;subst h;refine ⟨_,hg,?_,.base _⟩;have he:(Op.equal t (.bool a) (.bool b)).run P w=.ok (a==b) w:=run_equalIn_bool' w 9999 t a b ht;simp only [binOp,dR,he,dN,dV])
  ·cases h
 ·cases h
theorem agY {P:Program} {t ty:TypeId} {A v:AV} {x:Value} (h:wI P H t A=some v) (hx:VR w O ι H A x) :
 ∃u,(Builtin.len_ #[t] ty #[x]).run P w=.ok u w∧VR w O ι H v u:=by
 unfold wI at h;split at h
 ·split at h
  ·rename_i es _ e ht;injection h with h;subst h;cases hx with
   | sn=>exact ⟨_,bu,.base _⟩
   | jA es a n cap s val hn nQ so hlen ry hc hv=>exact ⟨.int .i64 n,bu,by subst hn;exact .base _⟩
  ·cases h
 ·split at h
  ·rename_i b tot off n hf;split at h
   ·rename_i e ht;injection h with h;subst h;cases hx with
    | uq b tot off n blk a n' c hb kn=>simp [fresh,hb] at hf;omega
    | tI b blk hb he hi=>exact ⟨_,bu,.base _⟩
    | own b tot off n blk x n' cap a hb nk hi hn hl nQ ha=>exact ⟨.int .i64 n',bu,by subst hn;exact .base _⟩
   ·cases h
  ·cases h
 ·split at h
  ·rename_i _ e ht;injection h with h;subst h;have:=hx.nO;subst this;exact ⟨_,bu,.base _⟩
  ·cases h
 ·split at h
  ·rename_i _ ht;injection h with h;subst h;have:=hx.nO;subst this;exact ⟨_,bu,.base _⟩
  ·cases h
 ·cases h
theorem T4 {arr:Array Value} {cs:List AV} (hl:arr.size=cs.length) {i:Nat} (hi:i<cs.length):∃u,arr[i]?=some u:=⟨_,dM ae⟩
theorem TN {P:Program} {s:TypeId} {f n:Nat} (h:lP P s f=some n) (a:Addr) (hs:a.spot=none) :
 (Instr.fieldAt s (.pointer (some a)) f).run P w=.ok (.pointer (some ⟨a.block,a.off+n,none⟩)) w:=by
 unfold lP at h;split at h
 ·rename_i fs hu;split at h
  ·rename_i fd hf;split at h
   ·rename_i k hz;injection h with h;unfold lW at hz;cases hi:P.info? fd.type with
    | none=>simp [hi] at hz
    | some i =>
      simp [hi] at hz;have CL:a.add fd.offset=⟨a.block,a.off+n,none⟩:=by
       subst h;unfold Addr.add;split
       ·rename_i h0;cases a;simp_all
       ·rfl
      simp [Instr.fieldAt,jg hu,hf,Instr.sureAddr,fieldPlace,sizeOf,typeInfo,hi,hz,CL]
   ·cases h
  ·cases h
 ·cases h
theorem UQ {P:Program} {t:TypeId} {cs:List AV} {arr:Array Value} {off:Nat} {v:AV} (hl:arr.size=cs.length)
 (hc:∀(j:Nat) (c:AV) (u:Value),cs[j]?=some c→arr[j]?=some u→VR w O ι H c u)
 (h:uB (mE P t) (lW P t) (.agg cs) off=some v):∃u,(part t arr off).run P w=.ok u w∧VR w O ι H v u:=by
 unfold uB at h;split at h
 ·rename_i n ha hn;split at h
  ·rename_i hle;injection h with h;subst h;have aDh:off+n≤arr.size:=by rw [hl];exact hle
   have kA:(sizeOf t).run P w=.ok n w:=by
    unfold lW at hn;cases hi:P.info? t with
    | none=>simp [hi] at hn
    | some i=>simp [hi] at hn;simp [sizeOf,typeInfo,hi,hn]
   have J7:(isAgg t).run P w=.ok true w:=by
    unfold mE at ha;unfold isAgg;split at ha
    ·rename_i d hd;rw [dR,jg hd w];rfl
    ·rename_i d hd;rw [dR,jg hd w];rfl
    ·cases ha
    ·cases ha
   refine ⟨.agg (arr.extract off (off+n)),by simp [part,J7,kA],.agg _ _ (by simp only [Array.size_extract,AV.cells,eQ,gb];omega) fun j c u hj hu=>?_⟩;simp only [AV.cells] at hj;rw [fL] at hj;split at hj
   ·rename_i hjn;rw [fU] at hj;rw [Array.getElem?_extract] at hu;split at hu
    ·exact hc _ _ _ hj hu
    ·cases hu
   ·cases hj
  ·cases h
 ·rename_i ha;have J7:(isAgg t).run P w=.ok false w:=by
   unfold mE at ha;unfold isAgg;split at ha
   ·cases ha
   ·cases ha
   ·rename_i d _ _ hd;rw [dR,jg hd w];cases d<;>simp_all
   ·cases ha
  simp only [AV.cells] at h;obtain ⟨u,hu⟩:=T4 hl (dt h).1;exact ⟨u,by simp [part,J7,hu],hc _ _ _ h hu⟩
 ·cases h
theorem afH {b tot:Nat} (h:fresh H b tot=true):∃blk,H[b]?=some blk∧blk.es.length=tot:=by
 unfold fresh at h;split at h
 ·rename_i blk hb;exact ⟨blk,hb,cb⟩
 ·cases h
theorem VR.OP {b tot i off:Nat} (hf:fresh H b tot=true) (h:VR w O ι H (.ptr b tot i off) u) :
 ∃x blk,ι b=some x∧H[b]?=some blk∧blk.es.length=tot∧u=.pointer (some ⟨x,i*blk.sz+off,none⟩)∧∃c ty fz,w.heap[x]?=some (.cells c ty fz):=by
 obtain ⟨blk,hb,ht⟩:=afH hf;cases h with
 | ys b tot i off kH a ka h=>rw [hb] at ka;cases ka;omega
 | ptr b tot i off kH x ka nk hi sS=>rw [hb] at ka;cases ka;exact ⟨x,blk,hi,hb,ht,rfl,sS⟩
end
theorem LU {P:Program} {w:World} {k:IntKind} {n:Int}:(asIntOf (.int k n)).run P w=.ok (k,n) w:=rfl
set_option maxHeartbeats 1000000 in
theorem LX {P:Program} {H:List jy} {ρ:Operand→AV} {o:Oper} {v:AV} (h:qe P H ρ o.op=some v):Ey P H ρ o v:=by
 refine Ey.ql fun w0 O ι a w hs hv=>?_;obtain ⟨dst,op,ty,pos,after,guard⟩:=o;simp only at h hv;unfold qe at h;split at h
 ·rename_i x;injection h with h;subst h;exact ⟨_,rfl,hv x au⟩
 ·rename_i x;injection h with h;subst h;exact ⟨_,rfl,hv x au⟩
 · -- pick
   rename_i c x y;split at h
   ·rename_i t hc;have h1:=hv c au;rw [hc] at h1;have h1:=h1.nO;unfold P5 at h;split at h
    ·rename_i p q hp hq;injection h with h;subst h;cases t with
     | true =>
       have h2:=(hv x au).strip (c:=true) rfl;rw [hp] at h2;have h2:=h2.nO;exact ⟨.bool p,by simp [execOp,h1,asBool,h2],.base _⟩
     | false =>
       have h2:=(hv y au).strip (c:=!false) rfl;rw [hq] at h2;have h2:=h2.nO;exact ⟨.bool q,by simp [execOp,h1,asBool,h2],.base _⟩
    ·cases h
   ·cases h
 · -- load
   rename_i t x;split at h
   ·rename_i e off hx;have h1:=hv x au;rw [hx] at h1;obtain ⟨ad,h2,h3,h4,h5⟩:=h1.UP;obtain ⟨u,hu,uE⟩:=Po (P:=P) h h5;have CL:(⟨ad.block,ad.off-off+off,none⟩:Addr)=ad:=by cases ad;simp_all
    rw [CL] at hu;exact ⟨u,by simp [execOp,h2,Instr.loadAt,Instr.sureAddr,hu],uE⟩
   ·rename_i b tot i off hx;have h1:=hv x au;rw [hx] at h1;split at h
    ·rename_i blk hb;split at h
     ·rename_i ht;split at h
      ·rename_i e he;obtain ⟨y,hy,h2,h3⟩:=h1.HA hs hb ht he;obtain ⟨u,hu,uE⟩:=Po (P:=P) h h3;exact ⟨u,by simp [execOp,h2,Instr.loadAt,Instr.sureAddr,hu],uE⟩
      ·cases h
     ·cases h
    ·cases h
   ·cases h
 · -- fieldAddr
   rename_i s x f;split at h
   ·rename_i n e off hn hx;injection h with h;subst h;have h1:=hv x au;rw [hx] at h1;generalize mH:a.eval x=X at h1;cases h1 with
    | kN e off ad val rB FV hc qy =>
    refine ⟨.pointer (some ⟨ad.block,ad.off+n,none⟩),?_,?_⟩
    ·have hr:=TN hn ad rB (w:=w);simp only [execOp,mH,dR,hr,dN,dV]
    ·exact .kN e (off+n) _ val rfl aj (fun j c hj=>by have:=hc j c hj;rw [show ad.off+n-(off+n)=ad.off-off by omega];exact this) qy
   ·rename_i n b tot i off hn hx;split at h
    ·rename_i hf;injection h with h;subst h;have h1:=hv x au;rw [hx] at h1;obtain ⟨y,blk,hi,hb,ht,h2,sS⟩:=h1.OP hf;refine ⟨.pointer (some ⟨y,i*blk.sz+off+n,none⟩),by have hr:=TN hn ⟨y,i*blk.sz+off,none⟩ rfl (w:=w);simp only [execOp,h2,dR,hr,dN,dV],?_⟩;rw [Nat.add_assoc];exact .ptr b tot i (off+n) blk y hb ht hi sS
    ·cases h
   ·cases h
 · -- field
   rename_i t x f;split at h
   ·rename_i cs hx;have h1:=hv x au;rw [hx] at h1;obtain ⟨arr,h2,h3,h4⟩:=h1.Co;unfold PQ at h;split at h
    ·rename_i fs hu;split at h
     ·rename_i fd hf;obtain ⟨u,hr,uE⟩:=UQ (P:=P) h3 h4 h;exact ⟨u,by simp [execOp,h2,Instr.field,jg hu,hf,asAgg,hr],uE⟩
     ·cases h
    ·cases h
   ·cases h
 · -- binOp
   rename_i op t x y yt;obtain ⟨u,h1,h2,h3⟩:=agX (X:=x) (Y:=y) h (hv x au) (hv y au);exact ⟨u,by simp [execOp,h1,h2],h3⟩
 ·rename_i t x;split at h
  ·rename_i b hx;injection h with h;subst h;have h1:=hv x au;rw [hx] at h1;have h1:=h1.nO;exact ⟨_,by simp [execOp,h1,Op.unary],.base _⟩
  ·cases h
 ·rename_i t x;split at h
  ·rename_i k n hx;injection h with h;subst h;have h1:=hv x au;rw [hx] at h1;have h1:=h1.nO;exact ⟨_,by simp only [execOp,h1,Op.unary,Op.intArith,dR,dV,dN],.base _⟩
  ·cases h
 · -- extract
   rename_i x i;split at h
   ·rename_i vs hx;have h1:=hv x au;rw [hx] at h1;obtain ⟨arr,h2,h3,h4⟩:=h1.Pn;obtain ⟨u,hu⟩:=T4 h3 (dt h).1;exact ⟨u,by simp [execOp,h2,Instr.extract,hu],h4 _ _ _ h hu⟩
   ·cases h
 · -- nilCheck
   rename_i x;split at h
   ·rename_i b tot i off hx;split at h
    ·rename_i hf;injection h with h;subst h;have h1:=hv x au;rw [hx] at h1;obtain ⟨y,blk,hi,hb,ht,h2⟩:=h1.OP hf;exact ⟨a.eval x,by simp [execOp,h2],h1⟩
    ·cases h
   ·rename_i e off hx;injection h with h;subst h;have h1:=hv x au;rw [hx] at h1;obtain ⟨ad,h2,h3,h4,h5⟩:=h1.UP;exact ⟨a.eval x,by simp [execOp,h2],h1⟩
   ·cases h
 · -- convert
   rename_i s d x;split at h
   ·rename_i k n hx;split at h
    ·rename_i sd k' hsd hd;injection h with h;subst h;have h1:=hv x au;rw [hx] at h1;have h1:=h1.nO;exact ⟨_,by simp [execOp,h1,convert,jg hsd,jg hd,Conv.intToInt],.base _⟩
    ·cases h
   ·cases h
 · -- makeFunc
   rename_i f first caps
   split at h
   case h_2=>cases h
   rename_i Wc;injection h with h;subst h;have Wc:first=#[]:=by cases first;simp_all
   subst Wc;refine ⟨.func (.func f) #[] (caps.map a.eval),by simp only [execOp,Instr.makeFunc,dR,dV,dN,gz,ez],?_⟩;refine .j9 _ _ _ ah fun j c u hj hu=>?_;simp only [dE,fE,dY,eL] at hj hu;obtain ⟨x,hx,rfl⟩:=hj;obtain ⟨y,hy,rfl⟩:=hu;rw [hx] at hy;cases hy;exact hv x (by simp only [Op.operands,gC];exact fw hx)
 · -- len
   rename_i cl;split at h
   case h_2=>cases h
   rename_i x t h5 h6 h7;obtain ⟨ce,as,ts⟩:=cl;simp only at h5 h6 h7;subst h5;have h6:as=#[x]:=by cases as;simp_all
   have h7:ts=#[t]:=by cases ts;simp_all
   subst h6;subst h7;obtain ⟨u,h1,h2⟩:=agY (P:=P) (ty:=ty) h (hv x ai);refine ⟨u,?_,h2⟩;simp only [execOp,resolve,invoke,builtin,dR,dV,dN,gz,ef,ez,h1]
 ·cases h
abbrev xy:Nat→Option Nat:=fun _=>none
def Pu (a:AV):Prop:=∀(w:World) (O:Nat→Prop) (ι:Nat→Option Nat) (H:List jy) (u:Value),VR w O ι H a u→VR w O xy [] a u
theorem VR.back {w:World} {O:Nat→Prop} {ι:Nat→Option Nat} {H:List jy} {a:AV} {u:Value} (h:VR w O xy [] a u):VR w O ι H a u:=
 h.mono ⟨fun _ _ _ h=>h,fun _ _ h _=>h,fun b blk h=>bQ,fun b x blk kH c ty fz h=>bQ⟩
theorem VR.uu {w:World} {O O':Nat→Prop} {ι:Nat→Option Nat} {H:List jy} {a:AV} {u:Value} (h:VR w O ι H a u) (hO:∀x,O' x→O x):VR w O' ι H a u:=
 h.mono ⟨fun _ _ _ h=>h,fun _ _ h _ h'=>h (hO _ h'),fun b blk h=>⟨blk,h,dD _,fun _=>⟨rfl,rfl⟩⟩,
  fun b x blk kH c ty fz _ _ _ _ h=>⟨c,ty,fz,h,rfl⟩⟩
theorem Pu.base (v:Value):Pu (.base v):=fun w O ι H u h=>by cases h;exact .base _
theorem Pu.mem (cs:List (Nat×Obj)):Pu (.mem cs):=fun w O ι H u h=>by
 cases h with
 | mem _ _ h=>exact .mem cs u h
theorem Pu.jA {es:List AV} (h:∀e∈es,∀c∈e.cells,Pu c):Pu (.jA es):=fun w O ι H u hu=>by
 cases hu with
 | sn=>exact .sn
 | jA es a n cap s val hn nQ so hlen ry hc hv =>
   exact .jA es a n cap s val hn nQ so hlen ry hc fun i j e c he hj=>h e (dx he) c (dx hj) _ _ _ _ _ (hv i j e c he hj)
theorem Pu.agg {cs:List AV} (h:∀c∈cs,Pu c):Pu (.agg cs):=fun w O ι H u hu=>by
 cases hu with
 | agg cs arr hlen hh=>exact .agg cs arr hlen fun j c u hc hu=>h c (dx hc) _ _ _ _ _ (hh j c u hc hu)
theorem Pu.ky {cs:List AV} (h:∀c∈cs,Pu c):Pu (.ky cs):=fun w O ι H u hu=>by
 cases hu with
 | ky cs arr hlen hh=>exact .ky cs arr hlen fun j c u hc hu=>h c (dx hc) _ _ _ _ _ (hh j c u hc hu)
theorem Pu.j9 {f:FuncId} {cs:List AV} (h:∀c∈cs,Pu c):Pu (.j9 f cs):=fun w O ι H u hu=>by
 cases hu with
 | j9 f cs arr hlen hh=>exact .j9 f cs arr hlen fun j c u hc hu=>h c (dx hc) _ _ _ _ _ (hh j c u hc hu)
theorem Pu.kN {e:AV} {off:Nat} (h:∀c∈e.cells,Pu c):Pu (.kN e off):=fun w O ι H u hu=>by
 cases hu with
 | kN e off a val hs FV hc hv=>exact .kN e off a val hs FV hc fun j c hj=>h c (dx hj) _ _ _ _ _ (hv j c hj)
def qY (P:Program) (m:List (Nat×Obj)) (f:FuncId) (args:List AV) (d:AV):Prop:=
 (∃fn,P.funcs[f]?=some fn∧(fn.name == "runtime.NumGoroutine")=false∧fn.body.isNone=false) ∧
 ∀(w:World) (O:Nat→Prop) (vs:Array Value),(∀p∈m,¬O p.1∧w.heap[p.1]?=some p.2)→(∀x,O x→x<w.heap.size)→vs.size=args.length →
  (∀(j:Nat) (a:AV) (u:Value),args[j]?=some a→vs[j]?=some u→VR w O xy [] a u) →
  Calls P f vs w fun e w'=>∃v,e=.returned v∧VR w' O xy [] d v∧Below w.heap.size w w'
abbrev Fn (P:Program) (f:FuncId) (args:List AV) (d:AV):Prop:=qY P [] f args d
def Ar (m:List (Nat×Obj)) (ρ:Operand→AV):Prop:=m=[]∨ρ (.tmp mu)=.mem m
theorem Ar.get {m:List (Nat×Obj)} {ρ:Operand→AV} (h:Ar m ρ) {w:World} {O:Nat→Prop} {ι:Nat→Option Nat} {H:List jy} {u:Value} (hv:VR w O ι H (ρ (.tmp mu)) u):∀p∈m,¬O p.1∧w.heap[p.1]?=some p.2:=by
 rcases h with rfl|h
 ·intro p hp;cases hp
 ·rw [h] at hv;cases hv with
  | mem cs v h=>exact h
section
variable {P:Program} {w w':World} {w0:nd} {O:Nat→Prop} {ι:Nat→Option Nat} {H:List jy} {u:Value}
theorem mj.quiet (hs:lA w0 O ι H w) (hb:Below w.heap.size w w'):mj w (OO O ι H) ι H w' (OO O ι H) ι H:=
 ⟨fun p u _ h=>by rw [hb.block p (vY h)];exact h,fun _ _ h _=>h,
  fun b blk h=>⟨blk,h,dD _,fun _=>⟨rfl,rfl⟩⟩,
  fun b x blk kH c ty fz h1 h2 _ hi h=>by
   have kn:x<w.heap.size:=by
    rcases eE x w.heap.size with h'|h'
    ·exact h'
    ·rw [Array.getElem?_eq_none h'] at h;cases h
   exact ⟨c,ty,fz,by rw [hb.block x kn];exact h,rfl⟩⟩
theorem BR.mono {O':Nat→Prop} {jU:Nat→Option Nat} {H':List jy} {blk:jy} {x:Nat} (h:BR w O ι H blk x) (g:mj w O ι H w' O' jU H') (hx:w'.heap[x]?=w.heap[x]?):BR w' O' jU H' blk x:=by
 obtain ⟨c,h1,h2,h3,h4⟩:=h.row;exact ⟨c,(aeF hx).trans h1,h2,h3,fun i j e d he hd=>by
  obtain ⟨u,hu,hv⟩:=h4 i j e d he hd;exact ⟨u,hu,hv.mono g⟩⟩
theorem BR.lt {blk:jy} {x:Nat} (h:BR w O ι H blk x):x<w.heap.size:=by
 obtain ⟨c,h1,_⟩:=h.row;exact agW h1
theorem lA.quiet (hs:lA w0 O ι H w) (hb:Below w.heap.size w w'):lA w0 O ι H w':=
 ⟨fun b blk x h1 h2=>by
  obtain ⟨h3,h4⟩:=hs.heap b blk x h1 h2;exact ⟨h3,h4.mono (mj.quiet hs hb) (hb.block x h4.lt)⟩,
  hs.sq,hs.inj,hs.below.step hb,fun x hx=>eZ (hs.rS x hx) hb.size,hs.qp,hs.pn.trans (mj.quiet hs hb).grow⟩
theorem Hp {f:FuncId} {fn:Func} (hf:P.funcs[f]?=some fn) (hn:(fn.name == "runtime.NumGoroutine")=false) (hb:fn.body.isNone=false) (args:Array Value) :
 (callFunc f args).run P w=.ok (.enter f args) w:=by
 simp only [callFunc,dR,run_program,dN,hf,hn,hb,eG,jc,dV]
theorem amF {ρ:Operand→AV} {o:Oper} {c:Call} {fx:Operand} {f:FuncId} {caps:List AV} {d:AV} (ho:o.op=.call c) (hc:c.callee=.value fx)
 (hf:ρ fx=.j9 f caps) (hp:∀a∈c.args.toList.map ρ++caps,Pu a) {m:List (Nat×Obj)} (h:qY P m f (c.args.toList.map ρ++caps) d) (hm:Ar m ρ):Ey P H ρ o d:=by
 intro w0 O ι a w hs hv K Q hK;obtain ⟨⟨fn,h1,h2,h3⟩,h4⟩:=h;have rJ:∀y,y=fx∨y∈c.args→y∈o.op.operands:=by
  intro y hy;rw [ho];simp only [Op.operands,Call.operands,hc,Array.mem_append,iy,dz];exact hy
 have h5:=hv fx (.inl (rJ _ (.inl rfl)));rw [hf] at h5;generalize hX:a.eval fx=X at h5;cases h5 with
 | j9 f caps arr hlen nQ =>
 have CB:∀(j:Nat) (x:AV) (u:Value),(c.args.toList.map ρ++caps)[j]?=some x→(c.args.map a.eval++arr)[j]?=some u→VR w (OO O ι H) ι H x u:=by
  intro j x u hx hu;rw [fN] at hx;rw [Array.getElem?_append] at hu;simp only [eo,fv,Array.size_map] at hx hu;split at hx
  ·rename_i hj;rw [ja hj] at hu;simp only [dE,fE,dY,eL] at hx hu;obtain ⟨y,hy,rfl⟩:=hx;obtain ⟨z,hz,rfl⟩:=hu;rw [hy] at hz;cases hz;exact hv y (.inl (rJ _ (.inr (fw hy))))
  ·rename_i hj;rw [iZ hj] at hu;exact nQ _ _ _ hx hu
 have ub:(execOp a.eval o).run P w=.ok (.enter f (c.args.map a.eval++arr)) w:=by
  unfold execOp;rw [ho];simp only [resolve,hc,Deferred.ofValue,hX,dR,dV,dN,invoke,gC,Hp h1 h2 h3]
 unfold Oper.wp;rw [ub,Oper.upon_enter];refine (h4 w (OO O ι H) (c.args.map a.eval++arr) (hm.get (hv _ (.inr rfl))) ?_ (by simp [hlen]) fun j x u hx hu=>hp x (dx hx) _ _ _ _ _ (CB j x u hx hu)).mono ?_
 ·rintro x (hx|⟨b,hb,hx⟩)
  ·exact hs.rS x hx
  ·have Gu:H[b]?=some H[b]:=dy hb;exact (hs.heap b _ x Gu hx).2.lt
 ·rintro e w' ⟨v,rfl,Ez,ka⟩;exact hK v w' Ez.back ka
end
structure lx where
 dst:Option Tmp
 op:Op
 g:Option (Tmp×Bool)
 ty:TypeId
def pU (D:List (Option Tmp)) (o:Oper):lx:=
 ⟨o.dst,o.op,match o.guard with
  | none=>none
  | some (j,want)=>match D[j]? with
    | some (some t)=>some (t,want)
    | _=>some (1000000000,want),o.type⟩
def mB (n:Fr):Option Tmp→Bool
 | some t=>Nat.blt t n.n
 | none=>true
def gc (b want:Bool):Bool:=bif want then b else !b
theorem P7 (b want:Bool):(b==want)=gc b want:=by cases b<;>cases want<;>rfl
def ve (want:Bool):AV→Option (List Bool)
 | .base (.bool b)=>some [gc b want]
 | .under g a=>match ve want a with
   | some l=>some (g::l)
   | none=>none
 | _=>none
def mF (E:Env):Option Tmp→AV→Env
 | some t,v=>(t,v)::E
 | none,_=>E
def QL (P:Program) (H:List jy) (ρ:Operand→AV) (op:Op) (v:AV):Prop:=∀o:Oper,o.op=op→Ey P H ρ o v
def Nj (P:Program) (H:List jy) (ρ:Operand→AV) (op:Op) (ty:TypeId) (v:AV):Prop:=∀o:Oper,o.op=op→o.type=ty→Ey P H ρ o v
theorem QL.t {P:Program} {H:List jy} {ρ:Operand→AV} {op:Op} {ty:TypeId} {v:AV} (h:QL P H ρ op v):Nj P H ρ op ty v:=fun o ho _=>h o ho
def PL (P:Program) (H:List jy) (ρ:Operand→AV) (op:Op) (v:AV) (H':List jy):Prop:=
 ∀(o:Oper),o.op=op→∀(w0:nd) (O:Nat→Prop) (ι:Nat→Option Nat) (a:Act) (w:World),lA w0 O ι H w →
  (∀x,VR w (OO O ι H) ι H (ρ x) (a.eval x)) →
  ∀(K:Act→World→Prop) (Q:Exit→Act→World→Prop),
   (∀u w' jU,lA w0 O jU H' w'→mj w (OO O ι H) ι H w' (OO O jU H') jU H'→VR w' (OO O jU H') jU H' v u→K (a.put o.dst u) w')→o.wp P a w K Q
inductive Tr (P:Program) (n:Fr) (q:Bool):List lx→ku→ku→Prop
 | nil (s:ku):Tr P n q [] s s
 | q1 (o:lx) (l:List lx) (s:ku) (v:AV) (s':ku) (hg:o.g=none) (hd:mB n o.dst=true) (h:Nj P s.H (ev s.env) o.op o.ty v)
    (hr:Tr P n q l ⟨mF s.env o.dst v,s.H⟩ s'):Tr P n q (o::l) s s'
 | p1 (o:lx) (l:List lx) (s:ku) (v:AV) (H':List jy) (s':ku) (hq:q=false) (hg:o.g=none) (hd:mB n o.dst=true) (h:PL P s.H (ev s.env) o.op v H')
    (hr:Tr P n q l ⟨mF s.env o.dst v,H'⟩ s'):Tr P n q (o::l) s s'
 | gf (o:lx) (l:List lx) (s:ku) (t:Tmp) (want b:Bool) (s':ku) (hg:o.g=some (t,want)) (hd:mB n o.dst=true) (hb:lk s.env t=.base (.bool b)) (hw:gc b want=false)
    (hr:Tr P n q l ⟨mF s.env o.dst .bad,s.H⟩ s'):Tr P n q (o::l) s s'
 | gq (o:lx) (l:List lx) (s:ku) (t:Tmp) (want:Bool) (L:List Bool) (v:AV) (s':ku) (hg:o.g=some (t,want)) (hd:mB n o.dst=true) (hb:ve want (lk s.env t)=some L)
    (h:oR L=true→QL P s.H (fun x=>stripL L (ev s.env x)) o.op v)
    (hr:Tr P n q l ⟨mF s.env o.dst (wa L v),s.H⟩ s'):Tr P n q (o::l) s s'
 | gp (o:lx) (l:List lx) (s:ku) (t:Tmp) (want:Bool) (L:List Bool) (v:AV) (H':List jy) (s':ku) (hq:q=false) (hg:o.g=some (t,want)) (hd:mB n o.dst=true) (hb:ve want (lk s.env t)=some L)
    (hw:oR L=true) (h:PL P s.H (fun x=>stripL L (ev s.env x)) o.op v H')
    (hr:Tr P n q l ⟨mF s.env o.dst v,H'⟩ s'):Tr P n q (o::l) s s'
def FP (P:Program) (n:Fr) (o:lx) (s:ku):Option ku:=
 match mB n o.dst with
 | true=>match o.g with
   | none=>match qe P s.H (ev s.env) o.op with
     | some v=>some ⟨mF s.env o.dst v,s.H⟩
     | none=>none
   | some (t,want)=>match ve want (lk s.env t) with
     | some L=>match qe P s.H (fun x=>stripL L (ev s.env x)) o.op with
       | some v=>some ⟨mF s.env o.dst (wa L v),s.H⟩
       | none=>none
     | none=>none
 | false=>none
def batch (P:Program) (n:Fr):List lx→ku→List lx×ku
 | [],s=>([],s)
 | o::l,s=>match FP P n o s with
   | some s1=>batch P n l s1
   | none=>(o::l,s)
theorem Tr.FP {P:Program} {n:Fr} {q:Bool} {o:lx} {l:List lx} {s s1 s':ku} (h:FP P n o s=some s1) (hr:Tr P n q l s1 s'):Tr P n q (o::l) s s':=by
 unfold Ab.FP at h;split at h
 ·rename_i hd;split at h
  ·rename_i hg;split at h
   ·rename_i v hv;injection h with h;subst h;exact .q1 o l s v s' hg hd (fun o' pV _=>LX (by rw [pV];exact hv)) hr
   ·cases h
  ·rename_i t want hg;split at h
   ·rename_i L hb;split at h
    ·rename_i v hv;injection h with h;subst h;exact .gq o l s t want L v s' hg hd hb (fun _ o' pV=>LX (by rw [pV];exact hv)) hr
    ·cases h
   ·cases h
 ·cases h
theorem Tr.batch {P:Program} {n:Fr} {q:Bool} {s':ku}:∀ {l r:List lx} {s s1:ku},batch P n l s=(r,s1)→Tr P n q r s1 s'→Tr P n q l s s'
 | [],r,s,s1,h,hr=>by cases h;exact hr
 | o::l,r,s,s1,h,hr=>by
   simp only [Ab.batch] at h;split at h
   ·rename_i s2 h2;exact .FP h2 (Tr.batch h hr)
   ·cases h;exact hr
section
variable {P:Program} {n:Fr} {w w':World} {w0:nd} {O:Nat→Prop} {ι jU:Nat→Option Nat} {H H':List jy} {u:Value}
theorem QL.toP {ρ:Operand→AV} {op:Op} {v:AV} (h:QL P H ρ op v):PL P H ρ op v H:=
 fun o ho w0 O ι a w hs hv K Q hK=>h o ho w0 O ι a w hs (fun x _=>hv x) K Q fun u w' hu hb=>hK u w' ι (hs.quiet hb) (mj.quiet hs hb) hu
theorem Pp {a:Act} {d:Tmp} {u:Value} (t:Nat) (hd:d<a.tmps.size):(a.put (some d) u).tmps.getD t undef=if d=t then u else a.tmps.getD t undef:=by
 simp only [Act.put,dH,dZ];split
 ·rename_i h;subst h;simp
 ·rfl
theorem SR.put {s:ku} {a:Act} {d:Option Tmp} {v:AV} (h:SR n w0 O s ι a w) (hs:lA w0 O jU H' w') (g:mj w (OO O ι s.H) ι s.H w' (OO O jU H') jU H')
 (hv:VR w' (OO O jU H') jU H' v u) (hd:mB n d=true):SR n w0 O ⟨mF s.env d v,H'⟩ jU (a.put d u) w':=by
 cases d with
 | none=>exact ⟨hs,h.defers,h.size,h.hand,fun t=>(h.oV t).mono g⟩
 | some d =>
   have KH:d<a.tmps.size:=by rw [h.size];simpa [mB] using hd
   refine ⟨hs,h.defers,by simp [Act.put,h.size],h.hand,fun t=>?_⟩;rw [Pp t KH];show VR _ _ _ _ (if d=t then v else lk s.env t) _;split
   ·exact hv
   ·exact (h.oV t).mono g
theorem SR.ops {s:ku} {a:Act} (h:SR n w0 O s ι a w) (x:Operand):VR w (OO O ι s.H) ι s.H (ev s.env x) (a.eval x):=VR.ev h.oV x
theorem OI {ops:Array Oper} {D:List (Option Tmp)} (hD:ops.toList.map (·.dst)=D) {tmps:Array Value} {j:Nat} {t:Tmp} {b:Bool} (hj:D[j]?=some (some t)) (ht:t<tmps.size) (hb:tmps.getD t undef=.bool b) :
 yielded ops tmps j=some b:=by
 unfold yielded;have h1:(ops[j]?).bind (·.dst)=some t:=by
  subst hD;rw [dE,dY] at hj;cases ho:ops[j]? with
  | none=>simp [ho] at hj
  | some o=>simp [ho] at hj;simp [hj]
 rw [h1];have h2:tmps[t]?=some (.bool b):=by
  rw [dH,dM ht] at hb;rw [dM ht];simpa using hb
 simp [h2]
def wQ (D:List (Option Tmp)) (o:Oper):Bool:=
 match o.guard with
 | none=>true
 | some (j,_)=>match D[j]? with
   | some (some _)=>true
   | _=>false
theorem LV {D:List (Option Tmp)} {o:Oper} (h:(pU D o).g=none):o.guard=none:=by
 unfold pU at h;simp only at h;split at h
 ·assumption
 ·split at h<;>cases h
theorem Jn {D:List (Option Tmp)} {o:Oper} {t:Tmp} {want:Bool} (hk:wQ D o=true) (h:(pU D o).g=some (t,want)):∃j,o.guard=some (j,want)∧D[j]?=some (some t):=by
 unfold wQ at hk;unfold pU at h;simp only at h;split at h
 ·cases h
 ·rename_i j aCP hg;rw [hg] at hk;simp only at hk;split at h
  ·rename_i t' hj;injection h with h;injection h with h1 h2;subst h1;subst h2;exact ⟨j,hg,hj⟩
  ·rename_i lO;split at hk
   ·rename_i x hx;exact absurd hx (lO _)
   ·cases hk
theorem Vs {a:Act} {t:Tmp} {b:Bool} (h:a.tmps.getD t undef=.bool b):t<a.tmps.size:=by
 rcases eE t a.tmps.size with h'|h'
 ·exact h'
 ·rw [dH,Array.getElem?_eq_none h'] at h;simp [undef] at h
theorem UR {w:World} {O:Nat→Prop} {ι:Nat→Option Nat} {H:List jy} {want:Bool}:∀(a:AV) (L:List Bool) (u:Value),ve want a=some L→VR w O ι H a u→(∃b,u=.bool b∧oR L=(b==want))∨(u=undef∧oR L=false)
 | .base v,L,u,hb,hv=>by
   have hv:=hv.nO;cases v<;>simp only [ve,fA,reduceCtorEq] at hb;subst hb;exact .inl ⟨_,hv,by simp [oR,P7]⟩
 | .under g a,L,u,hb,hv=>by
   simp only [ve] at hb;split at hb
   ·rename_i l hl;injection hb with hb;subst hb;cases hv with
    | under c a v h0 h =>
    cases hc:g with
    | true =>
      rcases UR a l u hl (h hc) with ⟨b,h1,h2⟩|⟨h1,h2⟩
      ·exact .inl ⟨b,h1,by simp [oR,h2]⟩
      ·exact .inr ⟨h1,by simp [oR,h2]⟩
    | false=>exact .inr ⟨h0 hc,by simp [oR]⟩
   ·cases hb
 | .jA _,L,u,hb,hv=>cj
 | .agg _,L,u,hb,hv=>cj
 | .ky _,L,u,hb,hv=>cj
 | .kN _ _,L,u,hb,hv=>cj
 | .own _ _ _ _,L,u,hb,hv=>cj
 | .ptr _ _ _ _,L,u,hb,hv=>cj
 | .j9 _ _,L,u,hb,hv=>cj
 | .bad,L,u,hb,hv=>cj
 | .J6,L,u,hb,hv=>cj
 | .view _ _ _ _ _,L,u,hb,hv=>cj
theorem OF {ops:Array Oper} {D:List (Option Tmp)} (hD:ops.toList.map (·.dst)=D) {tmps:Array Value} {j:Nat} {t:Tmp} {want:Bool} (hj:D[j]?=some (some t)) {o:Oper} (hg:o.guard=some (j,want)) {O:Nat→Prop} {ι:Nat→Option Nat} {H:List jy}
 {a:AV} {L:List Bool} (hb:ve want a=some L) (hv:VR w O ι H a (tmps.getD t undef)):Region.wanted o (yielded ops tmps)=oR L:=by
 rcases UR a L _ hb hv with ⟨b,h1,h2⟩|⟨h1,h2⟩
 ·have ht:t<tmps.size:=by
   rcases eE t tmps.size with h'|h'
   ·exact h'
   ·rw [dH,Array.getElem?_eq_none h'] at h1;simp [undef] at h1
  have hy:=OI hD hj ht h1;simp only [Region.wanted,hg,hy];rw [h2];cases b<;>cases want<;>rfl
 ·rw [h2];have hy:yielded ops tmps j=none:=by
   unfold yielded;have e1:(ops[j]?).bind (·.dst)=some t:=by
    subst hD;rw [dE,dY] at hj;cases ho:ops[j]? with
    | none=>simp [ho] at hj
    | some o=>simp [ho] at hj;simp [hj]
   rw [e1];rw [dH] at h1;simp only [gy];cases ht:tmps[t]? with
   | none=>rfl
   | some u =>
     rw [ht] at h1;simp only [eR] at h1;subst h1;rfl
  simp only [Region.wanted,hg,hy];cases want<;>rfl
theorem Wd {q:Bool} {ops:Array Oper} {D:List (Option Tmp)} (hD:ops.toList.map (·.dst)=D) {i:Nat} {o:Oper} (ho:ops[i]?=some o) (hk:wQ D o=true) {l:List lx} {s s':ku}
 (h:Tr P n q (pU D o::l) s s'):∃s1,Tr P n q l s1 s'∧∀w0 O ι a w,SR n w0 O s ι a w→∀K Q,(∀jU a' w',SR n w0 O s1 jU a' w'→K a' w') →
   wpOp P ops Q i K a w:=by
 have key:∀(ρ:Operand→AV) (v:AV) (H':List jy),PL P s.H ρ o.op v H'→mB n o.dst=true→∀w0 O ι a w,SR n w0 O s ι a w→(∀x,VR w (OO O ι s.H) ι s.H (ρ x) (a.eval x))→∀(v':AV),
  (∀w O ι u,VR w O ι H' v u→VR w O ι H' v' u)→∀K Q,
  (∀jU a' w',SR n w0 O ⟨mF s.env o.dst v',H'⟩ jU a' w'→K a' w')→o.wp P a w K Q:=by
  intro ρ v H' hp hd w0 O ι a w hs pb v' Ez K Q hK;exact hp o rfl w0 O ι a w hs.mP pb K Q fun u w' jU h1 h2 h3=>hK jU _ w' (hs.put h1 h2 (Ez _ _ _ _ h3) hd)
 cases h with
 | q1 o' l s v s' hg hd h hr =>
   refine ⟨_,hr,fun w0 O ι a w hs K Q hK=>?_⟩;have hg:=LV hg;simp only [wpOp,ho,Region.wanted,hg,jb];exact .inl (h o rfl rfl w0 O ι a w hs.mP (fun x _=>hs.ops x) K Q fun u w' hu hb=>hK ι _ w' (hs.put (hs.mP.quiet hb) (mj.quiet hs.mP hb) hu hd))
 | p1 o' l s v H' s' hq hg hd h hr =>
   refine ⟨_,hr,fun w0 O ι a w hs K Q hK=>?_⟩;have hg:=LV hg;simp only [wpOp,ho,Region.wanted,hg,jb];exact .inl (key _ v H' h hd w0 O ι a w hs hs.ops v (fun _ _ _ _ h=>h) K Q hK)
 | gf o' l s t want b s' hg hd hb hw hr =>
   refine ⟨_,hr,fun w0 O ι a w hs K Q hK=>?_⟩;obtain ⟨j,hg,hj⟩:=Jn hk hg;have hv:=hs.oV t;rw [hb] at hv;have hv:=hv.nO;have hy:=OI hD hj (Vs hv) hv;have wG:Region.wanted o (yielded ops a.tmps)=false:=by
    simp only [Region.wanted,hg,hy];rw [← P7] at hw;cases b<;>cases want<;>simp_all
   simp only [wpOp,ho,wG];exact hK ι _ w (hs.put hs.mP (mj.quiet hs.mP (Below.refl _ _)) (.bad _) hd)
 | gq o' l s t want L v s' hg hd hb h hr =>
   refine ⟨_,hr,fun w0 O ι a w hs K Q hK=>?_⟩;obtain ⟨j,hg,hj⟩:=Jn hk hg;have wG:=OF hD hj hg hb (hs.oV t);cases hc:oR L with
   | true =>
     rw [hc] at wG;simp only [wpOp,ho,wG,jb];exact .inl (key _ v s.H (h hc).toP hd w0 O ι a w hs (fun x=>(hs.ops x).Mv hc) (wa L v) (fun _ _ _ _ h=>h.P6 hc) K Q hK)
   | false =>
     rw [hc] at wG;simp only [wpOp,ho,wG];exact hK ι _ w (hs.put hs.mP (mj.quiet hs.mP (Below.refl _ _)) (.PR hc) hd)
 | gp o' l s t want L v H' s' hq hg hd hb hw h hr =>
   refine ⟨_,hr,fun w0 O ι a w hs K Q hK=>?_⟩;obtain ⟨j,hg,hj⟩:=Jn hk hg;have wG:=OF hD hj hg hb (hs.oV t);rw [hw] at wG;simp only [wpOp,ho,wG,jb];exact .inl (key _ v H' h hd w0 O ι a w hs (fun x=>(hs.ops x).Mv hw) v (fun _ _ _ _ h=>h) K Q hK)
def vA (w0:nd) (O:Nat→Prop) (n:Fr) (s':ku) (e:Exit) (a:Act) (w:World):Prop:=e=.normal∧∃jU,SR n w0 O s' jU a w
theorem We {ops:Array Oper} {D:List (Option Tmp)} (hD:ops.toList.map (·.dst)=D) (hk:ops.toList.all (wQ D)=true) {q:Bool}:∀(l:List Oper) (i:Nat) (s s':ku),ops.toList.drop i=l→Tr P n q (l.map (pU D)) s s' →
 ∀w0 O ι a w,SR n w0 O s ι a w→wpOps P ops (vA w0 O n s') (List.range' i l.length) a w
 | [],i,s,s',hl,h,w0,O,ι,a,w,hs=>by
   cases h;exact ⟨rfl,ι,hs⟩
 | o::l,i,s,s',hl,h,w0,O,ι,a,w,hs=>by
   have ho:ops[i]?=some o:=by
    rw [← dY];have:=jj (·[0]?) hl;simpa using this
   have og:wQ D o=true:=du hk o (List.mem_of_mem_drop (by rw [hl];simp));have qz:ops.toList.drop (i+1)=l:=by
    rw [← List.drop_drop,hl];rfl
   obtain ⟨s1,h1,h2⟩:=Wd hD ho og h;simp only [ff,List.range'_succ,wpOps_cons];exact h2 w0 O ι a w hs _ _ fun jU a' w' ma=>We hD hk l (i+1) s1 s' qz h1 w0 O jU a' w' ma
end
def Bh (D:List (Option Tmp)) (o:Oper):List Tmp:=
 mu::(o.op.operands.toList.filterMap fun | .tmp t=>some t|_=>none) ++
 (match o.guard with
  | some (j,_)=>match D[j]? with
    | some (some t)=>[t]
    | _=>[]
  | none=>[])
def xU (o:Oper) (j:Nat):Bool:=o.after.any fun e=>e.on==j&&Region.binds .any e
def reach (ops:Array Oper):Nat→Oper→Nat→Bool
 | 0,o,j=>xU o j
 | f+1,o,j=>xU o j||o.after.any fun e=>Region.binds .any e&&(match ops[e.on]? with|some o'=>reach ops f o' j|none=>false)
def JM (D:List (Option Tmp)) (ops:Array Oper) (k:Nat):Bool:=
 let os:=ops.toList.zipIdx;let qs:=(D.take k).zipIdx
 (os.all fun (o,i)=>o.after.all fun e=>!Region.binds .any e||decide (e.on<i)) &&
 (qs.all fun (d,i)=>qs.all fun (d',j)=>i==j||d.isNone||d !=d') &&
 (os.all fun (o,i) =>
   if i<k then (Bh D o).all fun t=>qs.all fun (d,j)=>d !=some t||(decide (j<i)&&xU o j)
   else (List.range i).all fun j=>reach ops 8 o j)
section
variable {P:Program} {n:Fr} {w w':World} {w0:nd} {O:Nat→Prop} {ι jU:Nat→Option Nat} {H H':List jy} {u:Value}
structure rK (n:Fr) (w0:nd) (O:Nat→Prop) (f:Nat→AV) (H:List jy) (ι:Nat→Option Nat) (a:Act) (w:World):Prop where
 mP:lA w0 O ι H w
 defers:a.defers=[]
 size:a.tmps.size=n.n
 hand:w0.H.length=n.m
 oV:∀t,VR w (OO O ι H) ι H (f t) (a.tmps.getD t undef)
def wR (f:Nat→AV):Operand→AV
 | .tmp t=>f t
 | .const v=>cv v
 | .global g=>.base (.pointer (some ⟨g,0,none⟩))
 | .func g=>.j9 g []
theorem rK.ops {f:Nat→AV} {a:Act} (h:rK n w0 O f H ι a w) (x:Operand):VR w (OO O ι H) ι H (wR f x) (a.eval x):=by
 cases x with
 | tmp t=>exact h.oV t
 | const v=>exact VR.cv _ _ _ _ v
 | global g=>exact .base _
 | func f=>exact .j9 f [] #[] rfl ah
theorem HQ (E:Env) (x:Operand):ev E x=wR (lk E) x:=by cases x<;>rfl
inductive xg (P:Program) (n:Fr) (H:List jy) (f:Nat→AV) (o:lx):AV→Prop
 | q1 (v:AV) (hg:o.g=none) (hd:mB n o.dst=true) (h:Nj P H (wR f) o.op o.ty v):xg P n H f o v
 | gf (t:Tmp) (want b:Bool) (hg:o.g=some (t,want)) (hd:mB n o.dst=true) (hb:f t=.base (.bool b)) (hw:gc b want=false):xg P n H f o .bad
 | gq (t:Tmp) (want:Bool) (L:List Bool) (v:AV) (hg:o.g=some (t,want)) (hd:mB n o.dst=true) (hb:ve want (f t)=some L)
    (h:oR L=true→QL P H (fun x=>stripL L (wR f x)) o.op v):xg P n H f o (wa L v)
theorem Tr.afI {o:lx} {l:List lx} {s s':ku} (h:Tr P n true (o::l) s s'):∃v,xg P n s.H (lk s.env) o v∧Tr P n true l ⟨mF s.env o.dst v,s.H⟩ s':=by
 have he:∀E:Env,ev E=wR (lk E):=fun E=>funext (HQ E);cases h with
 | q1 o l s v s' hg hd h hr=>exact ⟨v,.q1 v hg hd (by rw [← he];exact h),hr⟩
 | p1 o l s v H' s' hq hg hd h hr=>cases hq
 | gf o l s t want b s' hg hd hb hw hr=>exact ⟨_,.gf t want b hg hd hb hw,hr⟩
 | gq o l s t want L v s' hg hd hb h hr=>exact ⟨_,.gq t want L v hg hd hb (fun hc=>by rw [← he];exact h hc),hr⟩
 | gp o l s t want L v H' s' hq hg hd hb hw h hr=>cases hq
def qq (f:Nat→AV) (d:Option Tmp) (v:AV):Nat→AV:=fun t=>if d=some t then v else f t
theorem aBF (E:Env) (d:Option Tmp) (v:AV):lk (mF E d v)=qq (lk E) d v:=by
 funext t
 cases d with
 | none=>simp [mF,qq]
 | some d=>simp [mF,qq,lk]
theorem rK.put {f:Nat→AV} {a:Act} {d:Option Tmp} {v:AV} (h:rK n w0 O f H ι a w) (hb:Below w.heap.size w w')
 (hv:VR w' (OO O ι H) ι H v u) (hd:mB n d=true):rK n w0 O (qq f d v) H ι (a.put d u) w':=by
 have g:=mj.quiet h.mP hb;cases d with
 | none=>exact ⟨h.mP.quiet hb,h.defers,h.size,h.hand,fun t=>by
    show VR _ _ _ _ (if none=some t then v else f t) _;rw [iZ ah];exact (h.oV t).mono g⟩
 | some d =>
   have KH:d<a.tmps.size:=by rw [h.size];simpa [mB] using hd
   refine ⟨h.mP.quiet hb,h.defers,by simp [Act.put,h.size],h.hand,fun t=>?_⟩;rw [Pp t KH];unfold qq;by_cases e:d=t
   ·subst e;simpa using hv
   ·simpa [e] using (h.oV t).mono g
theorem xg.run {ops:Array Oper} {D:List (Option Tmp)} (hD:ops.toList.map (·.dst)=D) {i:Nat} {o:Oper} (ho:ops[i]?=some o) (hk:wQ D o=true) {f f':Nat→AV} {v:AV}
 (h:xg P n H f (pU D o) v) (hf:∀t∈Bh D o,f' t=f t) {a:Act} (hs:rK n w0 O f' H ι a w) {K:Act→World→Prop} {Q:Exit→Act→World→Prop}
 (hK:∀a' w',rK n w0 O (qq f' o.dst v) H ι a' w'→K a' w'):wpOp P ops Q i K a w:=by
 have vK:∀x,x∈o.op.operands∨x=.tmp mu→wR f' x=wR f x:=by
  rintro x (hx|rfl)
  ·cases x with
   | tmp t=>exact hf t bH
   | _=>rfl
  ·exact hf mu (by unfold Bh;simp)
 have key:∀(ρ:Operand→AV) (v v':AV),Nj P H ρ o.op o.type v→mB n o.dst=true→(∀x,x∈o.op.operands∨x=.tmp mu→VR w (OO O ι H) ι H (ρ x) (a.eval x)) →
  (∀w u,VR w (OO O ι H) ι H v u→VR w (OO O ι H) ι H v' u)→(∀a' w',rK n w0 O (qq f' o.dst v') H ι a' w'→K a' w')→o.wp P a w K Q:=by
  intro ρ v v' hq hd pb qy hK;exact hq o rfl rfl w0 O ι a w hs.mP pb K Q fun u w' hu hb=>hK _ w' (hs.put hb (qy _ _ hu) hd)
 cases h with
 | q1 v hg hd h =>
   have hg:=LV hg;simp only [wpOp,ho,Region.wanted,hg,jb];exact .inl (key _ v v h hd (fun x hx=>by rw [← vK x hx];exact hs.ops x) (fun _ _ h=>h) hK)
 | gf t want b hg hd hb hw =>
   obtain ⟨j,hg,hj⟩:=Jn hk hg;have RG:f' t=f t:=hf t (by unfold Bh;rw [hg];simp [hj]);have hv:=hs.oV t;rw [RG,hb] at hv;have hv:=hv.nO;have hy:=OI hD hj (Vs hv) hv;have wG:Region.wanted o (yielded ops a.tmps)=false:=by
    simp only [Region.wanted,hg,hy];rw [← P7] at hw;cases b<;>cases want<;>simp_all
   simp only [wpOp,ho,wG];exact hK _ w (hs.put (Below.refl _ _) (.bad _) hd)
 | gq t want L v hg hd hb h =>
   obtain ⟨j,hg,hj⟩:=Jn hk hg;have RG:f' t=f t:=hf t (by unfold Bh;rw [hg];simp [hj]);have hv:=hs.oV t;rw [RG] at hv;have wG:=OF hD hj hg hb hv;cases hc:oR L with
   | true =>
     rw [hc] at wG;simp only [wpOp,ho,wG,jb];exact .inl (key _ v (wa L v) (h hc).t hd (fun x hx=>by rw [← vK x hx];exact (hs.ops x).Mv hc) (fun _ _ h=>h.P6 hc) hK)
   | false =>
     rw [hc] at wG;simp only [wpOp,ho,wG];exact hK _ w (hs.put (Below.refl _ _) (.PR hc) hd)
theorem Tr.US:∀(l:List lx) (s s':ku),Tr P n true l s s'→s'.H=s.H∧∃(g:Nat→Nat→AV) (vs:Nat→AV),g 0=lk s.env∧g l.length=lk s'.env ∧
 ∀i o,l[i]?=some o→xg P n s.H (g i) o (vs i)∧g (i+1)=qq (g i) o.dst (vs i)
 | [],s,s',h=>by
   cases h;exact ⟨rfl,fun _=>lk s.env,fun _=>.bad,rfl,rfl,fun i o h=>bQ⟩
 | o::l,s,s',h=>by
   obtain ⟨v,h1,h2⟩:=h.afI;obtain ⟨h3,g,vs,h4,h5,h6⟩:=Tr.US l _ s' h2;refine ⟨h3,fun i=>match i with|0=>lk s.env|i+1=>g i,fun i=>match i with|0=>v|i+1=>vs i,rfl,h5,fun i o' pV=>?_⟩;cases i with
   | zero =>
     simp at pV;subst pV;exact ⟨h1,dk⟩
   | succ i =>
     exact h6 i o' (by simpa using pV)
theorem mem_ready {ops:Array Oper} {L:Array Bool} {i:Nat}:i∈Region.ready .any ops L↔∃o,ops[i]?=some o∧L.getD i true=false∧∀e∈o.after,Region.binds .any e=true→L.getD e.on false=true:=by
 unfold Region.ready;simp only [List.mem_filter,eU,er,Bool.not_eq_true'];constructor
 ·rintro ⟨h1,h2,h3⟩;rw [dM h1] at h3;refine ⟨ops[i],dM h1,h2,fun e he hb=>?_⟩;simp only [eJ,eR] at h3;have:=Array.all_eq_true'.1 h3 e he;simpa [hb] using this
 ·rintro ⟨o,h1,h2,h3⟩;obtain ⟨hi,RI⟩:=eP.1 h1;refine ⟨hi,h2,?_⟩;rw [h1];simp only [eJ,eR];refine Array.all_eq_true'.2 fun e he=>?_;cases hb:Region.binds .any e with
  | false=>rfl
  | true=>simpa using h3 e he hb
theorem Ch {o:Oper} {j:Nat} {L:Array Bool} (h:xU o j=true) (hl:∀e∈o.after,Region.binds .any e=true→L.getD e.on false=true):L.getD j false=true:=by
 unfold xU at h;obtain ⟨e,he,hx⟩:=Array.any_eq_true'.1 h;simp only [er,jk] at hx;have:=hl e he hx.2;rwa [hx.1] at this
def Cx (ops:Array Oper) (L:Array Bool):Prop:=∀i o,ops[i]?=some o→L.getD i false=true→∀e∈o.after,Region.binds .any e=true→L.getD e.on false=true
theorem Fv {ops:Array Oper} {L:Array Bool} (hc:Cx ops L):∀(f:Nat) {o:Oper} {j:Nat},reach ops f o j=true→(∀e∈o.after,Region.binds .any e=true→L.getD e.on false=true)→L.getD j false=true
 | 0,o,j,h,hl=>Ch h hl
 | f+1,o,j,h,hl=>by
   simp only [reach,Bool.or_eq_true] at h;rcases h with h|h
   ·exact Ch h hl
   ·obtain ⟨e,he,hx⟩:=Array.any_eq_true'.1 h;simp only [er] at hx;obtain ⟨h1,h2⟩:=hx;cases ho:ops[e.on]? with
    | none=>rw [ho] at h2;cases h2
    | some o' =>
      rw [ho] at h2;exact Fv hc f h2 (hc e.on o' ho (hl e he h1))
theorem Cx.set {ops:Array Oper} {L:Array Bool} {i:Nat} {o:Oper} (hc:Cx ops L) (ho:ops[i]?=some o) (hi:i<L.size) (h:∀e∈o.after,Region.binds .any e=true→L.getD e.on false=true):Cx ops (L.setIfInBounds i true):=by
 have lF:∀j,(L.setIfInBounds i true).getD j false=if i=j then true else L.getD j false:=fun j=>by
  simp only [dH,dZ];by_cases e:i=j
  ·subst e;simp [hi]
  ·simp [e]
 intro j o' pV hj e he hb;rw [lF] at hj ⊢;by_cases e1:i=e.on
 ·rw [ja e1]
 ·rw [iZ e1];by_cases e2:i=j
  ·subst e2;rw [ho] at pV;injection pV with pV;subst pV;exact h e he hb
  ·rw [iZ e2] at hj;exact hc j o' pV hj e he hb
structure Ht (D:List (Option Tmp)) (ops:Array Oper) (k:Nat):Prop where
 down:∀i o,ops[i]?=some o→∀e∈o.after,Region.binds .any e=true→e.on<i
 one:∀i j d,i<k→j<k→i≠j→D[i]?=some (some d)→D[j]?≠some (some d)
 reads:∀i o,ops[i]?=some o→i<k→∀t∈Bh D o,∀j,j<k→D[j]?=some (some t)→j<i∧xU o j=true
 tail:∀i o,ops[i]?=some o→k≤i→∀j,j<i→reach ops 8 o j=true
theorem TP {α:Type} {l:List α} {i:Nat} {x:α} (h:l[i]?=some x):(x,i)∈l.zipIdx:=by
 rw [List.mem_zipIdx_iff_getElem?];exact h
theorem LR {D:List (Option Tmp)} {ops:Array Oper} {k:Nat} (h:JM D ops k=true):Ht D ops k:=by
 unfold JM at h;simp only [er] at h;obtain ⟨⟨h1,h2⟩,h3⟩:=h;have hm:∀i (o:Oper),ops[i]?=some o→(o,i)∈ops.toList.zipIdx:=fun i o ho=>TP (by rwa [dY]);have hq:∀j d,j<k→D[j]?=some d→(d,j)∈(D.take k).zipIdx:=fun j d hj hd=>TP (by rw [fL,ja hj];exact hd);refine ⟨fun i o ho e he hb=>?_,fun i j d hi hj lO vj yI=>?_,fun i o ho hi t ht j hj hd=>?_,fun i o ho hi j hj=>?_⟩
 ·have:=Array.all_eq_true'.1 (du h1 _ (hm i o ho)) e he;simpa [hb] using this
 ·have:=du (du h2 _ (hq i _ hi vj)) _ (hq j _ hj yI);simp at this;exact lO this
 ·have:=du h3 _ (hm i o ho);simp only [hi,jb] at this;have:=du (du this t ht) _ (hq j _ hj hd);simpa using this
 ·have:=du h3 _ (hm i o ho);simp only [Nat.not_lt.2 hi,jc] at this;exact du this j db
theorem LY {ops:Array Oper} {D:List (Option Tmp)} {k:Nat} (hD:ops.toList.map (·.dst)=D) (rL:ops.toList.all (wQ D)=true) (hf:Ht D ops k) {q:Bool} {s':ku} {O:Nat→Prop} :
 ∀(fuel m:Nat) (s:ku) (L:Array Bool) (ι:Nat→Option Nat) (a:Act) (w:World),k≤m→m≤ops.size→ops.size≤m+fuel→L.size=ops.size→(∀j,j<ops.size→L.getD j false=decide (j<m)) →
  Tr P n q ((ops.toList.drop m).map (pU D)) s s'→SR n w0 O s ι a w→wpAny P .any ops (vA w0 O n s') fuel L a w:=by
 intro fuel;have CC:∀(m:Nat) (L:Array Bool),k≤m→m≤ops.size→L.size=ops.size→(∀j,j<ops.size→L.getD j false=decide (j<m))→∀i,i∈Region.ready .any ops L↔(i=m∧m<ops.size):=by
  intro m L EA yJ kA hL i;rw [mem_ready];constructor
  ·rintro ⟨o,ho,h1,h2⟩;have hi:=(eP.1 ho).1;have h3:L.getD i false=false:=by
    have:L.getD i true=L.getD i false:=aQ;rw [← this];exact h1
   rw [hL i hi] at h3;have Nk:m≤i:=by simpa using h3
   rcases eE m i with kn|RK
   ·have lK:Cx ops L:=fun j o' pV hj e he hb=>by
     have RL:=(eP.1 pV).1;have h4:=hf.down j o' pV e he hb;rw [hL j RL] at hj;rw [hL e.on ae];simp at hj ⊢;omega
    have:=Fv lK 8 (hf.tail i o ho ae m kn) h2;rw [hL m ae] at this;simp at this
   ·exact ⟨ae,ae⟩
  ·rintro ⟨rfl,hi⟩;refine ⟨ops[i],dM hi,?_,fun e he hb=>?_⟩
   ·have h3:=hL i hi;simp [dH,dM (show i<L.size by omega)] at h3 ⊢;exact h3
   ·have:=hf.down i _ (dM hi) e he hb;rw [hL e.on ae];simpa using this
 induction fuel with
 | zero =>
   intro m s L ι a w EA yJ xz kA hL ht hs;have hm:m=ops.size:=ae;subst hm;refine ⟨List.eq_nil_iff_forall_not_mem.2 fun i hi=>?_,?_⟩
   ·have:=(CC _ L EA yJ kA hL i).1 hi;omega
   ·rw [show ops.toList.drop ops.size=[] by simp] at ht;cases ht;exact ⟨rfl,ι,hs⟩
 | succ fuel ih =>
   intro m s L ι a w EA yJ xz kA hL ht hs;refine ⟨fun sM=>?_,fun i hi=>?_⟩
   ·have hm:m=ops.size:=by
     rcases eE m ops.size with h|h
     ·have:=(CC m L EA yJ kA hL m).2 ⟨rfl,h⟩;rw [sM] at this;cases this
     ·omega
    subst hm;rw [show ops.toList.drop ops.size=[] by simp] at ht;cases ht;exact ⟨rfl,ι,hs⟩
   ·obtain ⟨rfl,hi⟩:=(CC m L EA yJ kA hL i).1 hi;have RI:i<ops.toList.length:=by simpa using hi
    rw [fS RI] at ht;have ho:ops[i]?=some ops.toList[i]:=by rw [dM hi];simp
    obtain ⟨s1,h1,h2⟩:=Wd hD ho (du rL _ (ey RI)) ht;refine h2 w0 O ι a w hs _ _ fun jU a' w' ma=>?_;refine ih (i+1) s1 _ jU a' w' ae ae ae (by simp [kA]) (fun j hj=>?_) h1 ma;simp only [dH,dZ];have h3:=hL j hj;simp only [dH] at h3;by_cases e:i=j
    ·subst e;simp [show i<L.size by omega]
    ·simp only [e,jc,h3];simp;omega
def mix (D:List (Option Tmp)) (k:Nat) (g0 gk:Nat→AV) (L:Array Bool) (t:Nat):AV:=
 if (List.range k).any (fun j=>L.getD j false&&D[j]?==some (some t)) then gk t else g0 t
theorem uO {D:List (Option Tmp)} {k:Nat} {g0 gk:Nat→AV} {L:Array Bool} {t j:Nat} (hj:j<k) (hl:L.getD j false=true) (hd:D[j]?=some (some t)):mix D k g0 gk L t=gk t:=by
 unfold mix;rw [ja];exact eS.2 ⟨j,db,by simp [hd,hl]⟩
theorem uM {D:List (Option Tmp)} {k:Nat} {g0 gk:Nat→AV} {L:Array Bool} {t:Nat} (h:∀j,j<k→L.getD j false=true→D[j]?≠some (some t)):mix D k g0 gk L t=g0 t:=by
 unfold mix;rw [iZ];intro hh;obtain ⟨j,hj,hx⟩:=eS.1 hh;simp only [er,jk] at hx;exact h j db hx.1 hx.2
theorem adT {ops:Array Oper} {D:List (Option Tmp)} {k:Nat} (hD:ops.toList.map (·.dst)=D) (rL:ops.toList.all (wQ D)=true) (hf:Ht D ops k) (hk:k≤ops.size) {q:Bool} {s1 s':ku} {O:Nat→Prop}
 {g:Nat→Nat→AV} {vs:Nat→AV} (vf:g k=lk s1.env) (jP:∀i o,ops[i]?=some o→i<k→xg P n s1.H (g i) (pU D o) (vs i)∧g (i+1)=qq (g i) o.dst (vs i))
 (ht:Tr P n q ((ops.toList.drop k).map (pU D)) s1 s') (ι:Nat→Option Nat) :
 ∀(fuel:Nat) (L:Array Bool) (U:List Nat) (a:Act) (w:World),L.size=ops.size→(∀j,j<k→(L.getD j false=false↔j∈U))→U.length+(ops.size-k)≤fuel→(∀j,k≤j→L.getD j false=false)→Cx ops L→rK n w0 O (mix D k (g 0) (g k) L) s1.H ι a w →
  wpAny P .any ops (vA w0 O n s') fuel L a w:=by
 have vk:∀(i:Nat) (o:Oper),ops[i]?=some o→D[i]?=some o.dst:=fun i o ho=>bI;have xh:∀t i j,i≤j→j≤k→(∀m,i≤m→m<j→D[m]?≠some (some t))→g j t=g i t:=by
  intro t i j sC;obtain ⟨d,rfl⟩:=gP sC;clear sC
  induction d with
  | zero=>intro _ _;rfl
  | succ d ih =>
    intro Gv mU;generalize KI:i+d=j at ih;have sC:i≤j:=ae;rw [show i+(d+1)=j+1 by omega] at Gv mU ⊢;have ho:ops[j]?=some ops[j]:=dM ae;rw [(jP j _ ho ae).2];unfold qq;rw [iZ (fun e=>mU j sC ae (by rw [vk j _ ho,e]))];exact ih ae fun m hm RM=>mU m hm ae
 have oh:∀j o d,ops[j]?=some o→j<k→o.dst=some d→g k d=vs j∧∀i,j<i→i≤k→g i d=vs j:=by
  intro j o d ho hj hd;have h1:g (j+1) d=vs j:=cU;have h2:∀i,j<i→i≤k→g i d=vs j:=fun i hi oj=>by
   rw [xh d (j+1) i hi oj fun m hm Nk e=>hf.one j m d hj ae ae (by rw [vk j o ho,hd]) e];exact h1
  exact ⟨h2 k hj (dD _),h2⟩
 intro fuel;have FW:∀(L:Array Bool) (a:Act) (w:World),L.size=ops.size→(∀j,k≤j→L.getD j false=false)→rK n w0 O (mix D k (g 0) (g k) L) s1.H ι a w→(∀j,j<k→L.getD j false=true)→SR n w0 O s1 ι a w:=by
  intro L a w kA hL hs ou;refine ⟨hs.mP,hs.defers,hs.size,hs.hand,fun t=>?_⟩;have h1:=hs.oV t;have h2:mix D k (g 0) (g k) L t=lk s1.env t:=by
   rw [← vf];by_cases hex:∃j,j<k∧D[j]?=some (some t)
   ·obtain ⟨j,hj,hd⟩:=hex;exact uO hj (ou j hj) hd
   ·rw [uM (fun j hj _ hd=>hex ⟨j,hj,hd⟩)];exact (xh t 0 k (dL _) (dD _) fun m _ hm hd=>hex ⟨m,hm,hd⟩).symm
  rwa [h2] at h1
 have As:∀(L:Array Bool) (a:Act) (w:World) (fuel:Nat),L.size=ops.size→(∀j,k≤j→L.getD j false=false)→rK n w0 O (mix D k (g 0) (g k) L) s1.H ι a w→(∀j,j<k→L.getD j false=true)→ops.size≤k+fuel →
  wpAny P .any ops (vA w0 O n s') fuel L a w:=by
  intro L a w fuel kA hL hs ou xz;refine LY hD rL hf fuel k s1 L ι a w (dD _) hk xz kA (fun j hj=>?_) ht (FW L a w kA hL hs ou);rcases eE j k with h|h
  ·rw [ou j h];simp [h]
  ·rw [hL j h];simp;omega
 induction fuel with
 | zero =>
   intro L U a w kA hU hc hL lK hs;have sM:U=[]:=dQ ae;subst sM;exact As L a w 0 kA hL hs (fun j hj=>by
    cases h:L.getD j false with
    | true=>rfl
    | false=>exact absurd ((hU j hj).1 h) ah) ae
 | succ fuel ih =>
   intro L U a w kA hU hc hL lK hs;by_cases ou:∀j,j<k→L.getD j false=true
   ·exact As L a w _ kA hL hs ou ae
   ·have qU:∀i,i<ops.size→L.getD i true=L.getD i false:=fun i hi=>aQ;refine ⟨fun sM=>?_,fun i hi=>?_⟩
    ·exfalso;have hex:∃j,j<k∧L.getD j false=false:=by
      rcases Classical.em (∃j,j<k∧L.getD j false=false) with h|h
      ·exact h
      ·exact absurd (fun j hj=>by
        cases h':L.getD j false with
        | true=>rfl
        | false=>exact absurd ⟨j,hj,h'⟩ h) ou
     obtain ⟨j,hj,AN⟩:=hex;have FX:∀m,(∃j,j<m∧j<k∧L.getD j false=false)→∃j,j<k∧L.getD j false=false∧∀i,i<j→L.getD i false=true:=by
      intro m
      induction m with
      | zero=>rintro ⟨j,h,_⟩;omega
      | succ m Gw =>
        rintro ⟨j,h1,h2,h3⟩;by_cases h:∃j,j<m∧j<k∧L.getD j false=false
        ·exact Gw h
        ·refine ⟨j,h2,h3,fun i hi=>?_⟩;cases h':L.getD i false with
         | true=>rfl
         | false=>exact absurd ⟨i,ae,ae,h'⟩ h
     obtain ⟨j,hj,AN,qZ⟩:=FX (j+1) ⟨j,ae,hj,AN⟩;have:j∈Region.ready .any ops L:=mem_ready.2 ⟨ops[j],dM ae,dn,fun e he hb=>qZ _ (hf.down j _ (dM ae) e he hb)⟩;rw [sM] at this;cases this
    ·obtain ⟨o,ho,h1,h2⟩:=mem_ready.1 hi;have Gx:i<ops.size:=(eP.1 ho).1;rw [qU i Gx] at h1;have oj:i<k:=by
      rcases eE i k with h|h
      ·exact h
      ·exact absurd (fun j hj=>Fv lK 8 (hf.tail i o ho h j ae) h2) ou
     obtain ⟨h3,h4⟩:=jP i o ho oj;refine h3.run hD ho (du rL o bB) (fun t Gy=>?_) hs fun a' w' ma=>?_
     ·by_cases hex:∃j,j<k∧D[j]?=some (some t)
      ·obtain ⟨j,hj,hd⟩:=hex;obtain ⟨h5,h6⟩:=hf.reads i o ho oj t Gy j hj hd;have xA:ops[j]?=some ops[j]:=dM ae;have yI:ops[j].dst=some t:=by have:=vk j _ xA;rw [hd] at this;injection this with this;exact this.symm
       rw [uO hj (Ch h6 h2) hd,(oh j _ t xA hj yI).1,(oh j _ t xA hj yI).2 i h5 ae]
      ·rw [uM (fun j hj _ hd=>hex ⟨j,hj,hd⟩)];exact (xh t 0 i (dL _) ae fun m _ hm hd=>hex ⟨m,ae,hd⟩).symm
     ·have Gz:i∈U:=(hU i oj).1 h1;refine ih (L.setIfInBounds i true) (U.filter (· !=i)) a' w' (by simp [kA]) (fun j hj=>?_) ?_ (fun j hj=>?_) (lK.set ho ae h2) ?_
      ·simp only [dH,dZ,List.mem_filter];by_cases e:i=j
       ·subst e;simp [show i<L.size by omega]
       ·have:=hU j hj;simp only [dH] at this;simp only [e,jc,this,bne_iff_ne,ne_eq];exact ⟨fun h=>⟨h,fun h'=>e h'.symm⟩,fun h=>h.1⟩
      ·have:(U.filter (· !=i)).length<U.length:=by
        have h7:=fO (l:=U) (p:=(· !=i));exact h7.2 ⟨i,Gz,ah⟩
       omega
      ·simp only [dH,dZ];have:=hL j hj;simp only [dH] at this;rw [iZ ae];exact this
      ·have wS:mix D k (g 0) (g k) (L.setIfInBounds i true)=qq (mix D k (g 0) (g k) L) o.dst (vs i):=by
        funext t
        unfold qq;by_cases e:o.dst=some t
        ·rw [ja e,uO oj bR (by rw [vk i o ho,e]),(oh i o t ho oj e).1]
        ·rw [iZ e];have yz:∀j,D[j]?=some (some t)→(L.setIfInBounds i true).getD j false=L.getD j false:=by
          intro j hd;have lO:i≠j:=fun e'=>bF;simp only [dH,dZ,lO,jc]
         by_cases hex:∃j,j<k∧L.getD j false=true∧D[j]?=some (some t)
         ·obtain ⟨j,hj,hl,hd⟩:=hex;rw [uO hj hl hd,uO hj (by rw [yz j hd];exact hl) hd]
         ·rw [uM (fun j hj hl hd=>hex ⟨j,hj,hl,hd⟩),uM (fun j hj hl hd=>hex ⟨j,hj,by rw [← yz j hd];exact hl,hd⟩)]
       rw [wS];exact ma
theorem ajI {ops:Array Oper} {D:List (Option Tmp)} {k:Nat} (hD:ops.toList.map (·.dst)=D) (rL:ops.toList.all (wQ D)=true) (hf:JM D ops k=true) (hk:k≤ops.size) (hm:P.follows .mixedOrders=true)
 {q:Bool} {s s1 s':ku} {O:Nat→Prop} (h1:Tr P n true ((ops.toList.take k).map (pU D)) s s1) (h2:Tr P n q ((ops.toList.drop k).map (pU D)) s1 s') (id:Nat) {a:Act} (hs:SR n w0 O s ι a w) :
 (Code.region id ops true).wp P (vA w0 O n s') a w:=by
 refine wp_region_any hm ?_;obtain ⟨hH,g,vs,EB,vf,jP⟩:=h1.US;have hlen:((ops.toList.take k).map (pU D)).length=k:=aj;rw [hlen] at vf;have hb:Below w.heap.size w { w with drawn:=w.drawn+1 }:=(Below.refl _ _).drew;refine adT hD rL (LR hf) hk (g:=g) (vs:=vs) vf (fun i o ho hi=>?_) h2 ι ops.size _ (List.range k) a _ ah (fun j hj=>?_) aj (fun j hj=>?_) (fun j o' _ hj=>aY) ?_
 ·rw [hH];exact jP i (pU D o) (by rw [dE,fL,ja hi,dY,ho];rfl)
 ·simp [dH,hj,eK];split<;>rfl
 ·simp only [dH,eK];split<;>rfl
 ·rw [hH];refine ⟨hs.mP.quiet hb,hs.defers,hs.size,hs.hand,fun t=>?_⟩;have:mix D k (g 0) (g k) (Array.replicate ops.size false) t=lk s.env t:=by
   rw [uM,EB];intro j hj hl;simp only [dH,eK] at hl;split at hl<;>cases hl
  rw [this];exact (hs.oV t).mono (mj.quiet hs.mP hb)
end
def jB (P:Program) (n:Fr) (q:Bool) (l:List lx) (K:ku→Prop) (s:ku):Prop:=∃s',Tr P n q l s s'∧K s'
section
variable {P:Program} {n:Fr} {q:Bool} {l:List lx} {o:lx} {K:ku→Prop} {s:ku}
theorem jB.nil (h:K s):jB P n q [] K s:=⟨s,.nil s,h⟩
theorem jB.batch {r:List lx} {s1:ku} (h:batch P n l s=(r,s1)) (hr:jB P n q r K s1):jB P n q l K s:=let ⟨s',h1,h2⟩:=hr;⟨s',.batch h h1,h2⟩
theorem jB.q1 {v:AV} (hg:o.g=none) (hd:mB n o.dst=true) (h:QL P s.H (ev s.env) o.op v) (hr:jB P n q l K ⟨mF s.env o.dst v,s.H⟩):jB P n q (o::l) K s:=
 let ⟨s',h1,h2⟩:=hr;⟨s',.q1 o l s v s' hg hd h.t h1,h2⟩
theorem jB.p1 {v:AV} {H':List jy} (hg:o.g=none) (hd:mB n o.dst=true) (h:PL P s.H (ev s.env) o.op v H') (hr:jB P n false l K ⟨mF s.env o.dst v,H'⟩):jB P n false (o::l) K s:=
 let ⟨s',h1,h2⟩:=hr;⟨s',.p1 o l s v H' s' rfl hg hd h h1,h2⟩
theorem jB.p2 {v:AV} {H':List jy} (h:PL P s.H (ev s.env) o.op v H') (hr:jB P n false l K ⟨mF s.env o.dst v,H'⟩) (hg:o.g=none:=by rfl) (hd:mB n o.dst=true:=by rfl):jB P n false (o::l) K s:=.p1 hg hd h hr
theorem jB.q2 {v:AV} (h:QL P s.H (ev s.env) o.op v) (hr:jB P n q l K ⟨mF s.env o.dst v,s.H⟩) (hg:o.g=none:=by rfl) (hd:mB n o.dst=true:=by rfl):jB P n q (o::l) K s:=.q1 hg hd h hr
theorem jB.gl {t:Tmp} {want:Bool} {L:List Bool} {v:AV} (hg:o.g=some (t,want)) (hd:mB n o.dst=true) (hb:ve want (lk s.env t)=some L)
 (h:oR L=true→QL P s.H (fun x=>stripL L (ev s.env x)) o.op v) (hr:jB P n q l K ⟨mF s.env o.dst (wa L v),s.H⟩):jB P n q (o::l) K s:=
 let ⟨s',h1,h2⟩:=hr;⟨s',.gq o l s t want L v s' hg hd hb h h1,h2⟩
theorem jB.Nl {t:Tmp} {want:Bool} {L:List Bool} {v:AV} {H':List jy} (hg:o.g=some (t,want)) (hd:mB n o.dst=true) (hb:ve want (lk s.env t)=some L) (hw:oR L=true)
 (h:PL P s.H (fun x=>stripL L (ev s.env x)) o.op v H') (hr:jB P n false l K ⟨mF s.env o.dst v,H'⟩):jB P n false (o::l) K s:=
 let ⟨s',h1,h2⟩:=hr;⟨s',.gp o l s t want L v H' s' rfl hg hd hb hw h h1,h2⟩
end
def HT (w0:nd) (O:Nat→Prop) (n:Fr) (Q:Exit→ku→Prop) (e:Exit) (a:Act) (w:World):Prop:=∃s' jU,Q e s'∧SR n w0 O s' jU a w
def jG (P:Program) (n:Fr) (c:Code) (Q:Exit→ku→Prop) (s:ku):Prop:=
 ∀(w0:nd) (O:Nat→Prop) (ι:Nat→Option Nat) (a:Act) (w:World),SR n w0 O s ι a w→c.wp P (HT w0 O n Q) a w
def xY (K:ku→Prop) (Q:Exit→ku→Prop):Exit→ku→Prop
 | .normal,s=>K s
 | e,s=>Q e s
def Bs (id:Nat) (Q:Exit→ku→Prop):Exit→ku→Prop
 | .exit EC,s=>if EC=id then Q .normal s else Q (.exit EC) s
 | e,s=>Q e s
def Wk (n:Fr) (s s2:ku):Prop:=∀(w0:nd) (O:Nat→Prop) (ι:Nat→Option Nat) (a:Act) (w:World),SR n w0 O s ι a w→∃jO,SR n w0 O s2 jO a w
section
variable {P:Program} {n:Fr} {Q:Exit→ku→Prop} {s:ku}
theorem jG.region {id:Nat} {ops:Array Oper} {D:List (Option Tmp)} {l:List lx} (hD:ops.toList.map (·.dst)=D) (rL:ops.toList.all (wQ D)=true) (hl:ops.toList.map (pU D)=l)
 (h:jB P n false l (Q .normal) s):jG P n (.region id ops false) Q s:=by
 intro w0 O ι a w hs;obtain ⟨s',h1,h2⟩:=h;refine wp_region ?_;have:=We (P:=P) (n:=n) hD rL ops.toList 0 s s' rfl (by rw [hl];exact h1) w0 O ι a w hs;rw [List.range_eq_range',← fv];have apJ:∀(l:List Nat) (a:Act) (w:World),wpOps P ops (vA w0 O n s') l a w→wpOps P ops (HT w0 O n Q) l a w:=by
  intro l
  induction l with
  | nil=>rintro a w ⟨_,jU,h⟩;exact ⟨s',jU,h2,h⟩
  | cons i l ih =>
    intro a w h;rw [wpOps_cons] at h ⊢;unfold wpOp at h ⊢;split
    ·rename_i ho;rw [ho] at h;exact ih _ _ h
    ·rename_i o ho;rw [ho] at h;simp only at h;split
     ·rename_i hw;rw [ja hw] at h;rcases h with h|⟨_,a0,w1,hq,_⟩
      ·refine .inl ?_;have h1:=Oper.wp_mono (fun a w=>ih a w) h;unfold Oper.wp at h1 ⊢;generalize (execOp a.eval o).run P w=r at h1 ⊢;cases r with
       | ok nx w' =>
         cases nx<;>simp only [Oper.upon] at h1 ⊢<;>first
          | exact h1
          | exact Calls.mono h1 fun e w'' he=>by
             cases e with
             | returned v=>exact he
             | panicked ch=>obtain ⟨hx,_⟩:=he;cases hx
             | outgrown=>obtain ⟨a0,w0',hx,_⟩:=he;cases hx
       | halt x w' =>
         cases x<;>simp only [Oper.upon] at h1 ⊢<;>first
          | exact h1
          | (obtain ⟨hx,_⟩:=h1;cases hx)
      ·cases hq
     ·rename_i hw;rw [iZ hw] at h;exact ih _ _ h
 exact apJ _ _ _ this
theorem jG.draw {id:Nat} {ops:Array Oper} {D:List (Option Tmp)} {k:Nat} {l1 l2:List lx} (hm:P.follows .mixedOrders=true) (hD:ops.toList.map (·.dst)=D) (rL:ops.toList.all (wQ D)=true)
 (hf:JM D ops k=true) (hk:k≤ops.size) (oA:(ops.toList.take k).map (pU D)=l1) (nL:(ops.toList.drop k).map (pU D)=l2)
 (h:jB P n true l1 (fun s1=>jB P n false l2 (Q .normal) s1) s):jG P n (.region id ops true) Q s:=by
 intro w0 O ι a w hs;obtain ⟨s1,h1,s',h2,h3⟩:=h;refine jh (ajI (q:=false) hD rL hf hk hm (by rw [oA];exact h1) (by rw [nL];exact h2) id hs) ?_;rintro e a w ⟨rfl,jU,h⟩;exact ⟨s',jU,h3,h⟩
theorem jG.seq {x y:Code} (h:jG P n x (xY (jG P n y Q) Q) s):jG P n (.seq x y) Q s:=by
 intro w0 O ι a w hs;refine wp_seq (jh (h w0 O ι a w hs) ?_);rintro e a w ⟨s',jU,h1,h2⟩;cases e with
 | normal=>exact h1 w0 O jU a w h2
 | _=>exact ⟨s',jU,h1,h2⟩
theorem jG.skip (h:Q .normal s):jG P n .skip Q s:=fun w0 O ι a w hs=>wp_skip ⟨s,ι,h,hs⟩
theorem jG.ret (h:Q .ret s):jG P n .ret Q s:=fun w0 O ι a w hs=>wp_ret ⟨s,ι,h,hs⟩
theorem jG.exit {id:Nat} (h:Q (.exit id) s):jG P n (.exit id) Q s:=fun w0 O ι a w hs=>wp_exit ⟨s,ι,h,hs⟩
theorem jG.cond {c:Operand} {x y:Code} {b:Bool} (hc:ev s.env c=.base (.bool b)) (ht:b=true→jG P n x Q s) (hf:b=false→jG P n y Q s):jG P n (.cond c x y) Q s:=by
 intro w0 O ι a w hs;have h1:=hs.ops c;rw [hc] at h1;exact wp_cond_split h1.nO (fun h=>ht h w0 O ι a w hs) (fun h=>hf h w0 O ι a w hs)
theorem jG.block {id:Nat} {c:Code} (h:jG P n c (Bs id Q) s):jG P n (.block id c) Q s:=by
 intro w0 O ι a w hs;refine wp_block (jh (h w0 O ι a w hs) ?_);rintro e a w ⟨s',jU,h1,h2⟩;cases e with
 | exit EC =>
   simp only [Bs] at h1;simp only [Exit.inBlock];split
   ·rename_i e;rw [ja e] at h1;exact ⟨s',jU,h1,h2⟩
   ·rename_i e;rw [iZ e] at h1;exact ⟨s',jU,h1,h2⟩
 | _=>exact ⟨s',jU,h1,h2⟩
theorem jG.weaken {c:Code} {s2:ku} (hw:Wk n s s2) (h:jG P n c Q s2):jG P n c Q s:=by
 intro w0 O ι a w hs;obtain ⟨jO,jW⟩:=hw _ _ _ _ _ hs;exact h w0 O jO a w jW
theorem jG.mono {c:Code} {Q':Exit→ku→Prop} (h:jG P n c Q' s) (hq:∀e s,Q' e s→Q e s):jG P n c Q s:=
 fun w0 O ι a w hs=>jh (h w0 O ι a w hs) fun e a w ⟨s',jU,h1,h2⟩=>⟨s',jU,hq _ _ h1,h2⟩
theorem jG.loop {X:Type} (J:X→Prop) (I:X→ku) (μ:X→Nat) {c:Code} (x0:X) (h0:J x0) (hw:Wk n s (I x0))
 (hr:∀x,J x→jG P n c (xY (fun s'=>∃y,J y∧μ y<μ x∧Wk n s' (I y)) Q) (I x)):jG P n (.loop c) Q s:=by
 intro w0 O ι a w hs;obtain ⟨KJ,pB⟩:=hw _ _ _ _ _ hs;have key:∀(m:Nat) (x:X),μ x=m→J x→∀ι a w,SR n w0 O (I x) ι a w→∀(b:Frame) (k:List Item) (cs:List Frame),
  ∃e a' w',HT w0 O n Q e a' w'∧Arrives P (lone (b.at a (.code c::.inLoop c::k)) cs w) b k cs e a' w':=by
  intro m
  induction m using Nat.strongRecOn with
  | _ m ih =>
    intro x hm hx ι a w hs b k cs;obtain ⟨e,a1,w1,⟨s',jU,hq,ma⟩,qt⟩:=hr x hx w0 O ι a w hs b (.inLoop c::k) cs;cases e with
    | normal =>
      obtain ⟨y,hy,kn,sD⟩:=hq;obtain ⟨jO,jW⟩:=sD _ _ _ _ _ ma;obtain ⟨e2,a2,w2,AO,JV⟩:=ih (μ y) (hm▸kn) y rfl hy jO a1 w1 jW b k cs;exact ⟨e2,a2,w2,AO,.of_steps (Steps.trans qt (.one step_inLoop)) JV⟩
    | exit id=>exact ⟨_,a1,w1,⟨s',jU,hq,ma⟩,.pass (x:=.inLoop c) rfl (fun _ _=>.inl ah) qt⟩
    | goto l=>exact ⟨_,a1,w1,⟨s',jU,hq,ma⟩,.pass (x:=.inLoop c) rfl (fun _ _=>.inl ah) qt⟩
    | ret=>exact ⟨_,a1,w1,⟨s',jU,hq,ma⟩,.pass (x:=.inLoop c) rfl (fun _ _=>.inl ah) qt⟩
    | panic ch=>exact ⟨_,a1,w1,⟨s',jU,hq,ma⟩,.pass (x:=.inLoop c) rfl (fun _ _=>.inl ah) qt⟩
    | outgrown=>exact ⟨_,a1,w1,⟨s',jU,hq,ma⟩,.pass (x:=.inLoop c) rfl (fun _ _=>.inl ah) qt⟩
 intro b k cs;obtain ⟨e,a',w',hq,qt⟩:=key _ x0 rfl h0 KJ a w pB b k cs;exact ⟨e,a',w',hq,.of_steps (.one step_loop) qt⟩
end
def Le (a b:AV):Prop:=∀(w:World) (O:Nat→Prop) (ι:Nat→Option Nat) (H:List jy) (u:Value),VR w O ι H a u→VR w O ι H b u
theorem Le.refl (a:AV):Le a a:=fun _ _ _ _ _ h=>h
theorem Le.bad (a:AV):Le a .bad:=fun _ _ _ _ _ _=>.bad _
theorem Le.of_eq {a b:AV} (h:a=b):Le a b:=h▸.refl a
theorem Le.T5 (a:AV):Le (.under true a) a:=fun _ _ _ _ _ h=>h.Uj rfl
theorem HK:∀(E:Env) (t:Nat),lk E t=.bad∨∃p∈E,p.1=t∧lk E t=p.2
 | [],t=>.inl rfl
 | (k,v)::E,t=>by
   unfold lk;split
   ·rename_i h;exact .inr ⟨(k,v),ah,h,rfl⟩
   ·rcases HK E t with h|⟨p,h1,h2,h3⟩
    ·exact .inl h
    ·exact .inr ⟨p,by simp [h1],h2,h3⟩
theorem Wk.env {n:Fr} {E E2:Env} {H:List jy} (h:∀p∈E2,Le (lk E p.1) p.2):Wk n ⟨E,H⟩ ⟨E2,H⟩:=fun w0 O ι a w hs =>
 ⟨ι,hs.mP,hs.defers,hs.size,hs.hand,fun t=>by
  rcases HK E2 t with h1|⟨p,hp,h1,h2⟩
  ·show VR _ _ _ _ (lk E2 t) _;rw [h1];exact .bad _
  ·show VR _ _ _ _ (lk E2 t) _;rw [h2];subst h1;exact h p hp _ _ _ _ _ (hs.oV p.1)⟩
structure View (r:Nat→Option Nat) (ι jO:Nat→Option Nat) (H H2:List jy):Prop where
 idx:∀(b j:Nat) (blk:jy),r b=some j→H[b]?=some blk→∃blk2,H2[j]?=some blk2∧blk2.es.length=blk.es.length∧blk2.sz=blk.sz∧jO j=ι b
 back:∀(j x:Nat),j<H2.length→jO j=some x→∃b,b<H.length∧r b=some j∧ι b=some x
def mL (r:Nat→Option Nat) (H:List jy) (a b:AV):Prop:=∀(H2:List jy) (w0:nd) (w:World) (O:Nat→Prop) (ι jO:Nat→Option Nat) (u:Value),lA w0 O ι H w→View r ι jO H H2→VR w (OO O ι H) ι H a u→VR w (OO O jO H2) jO H2 b u
section
variable {r:Nat→Option Nat} {H:List jy}
theorem View.OO {H2:List jy} {O:Nat→Prop} {ι jO:Nat→Option Nat} (v:View r ι jO H H2) {x:Nat} (h:OO O jO H2 x):OO O ι H x:=by
 rcases h with h|⟨j,hj,hx⟩
 ·exact .inl h
 ·obtain ⟨b,hb,_,hi⟩:=v.back j x hj hx;exact .inr ⟨b,hb,hi⟩
theorem mL.pu {a:AV} (h:Pu a):mL r H a a:=fun H2 w0 w O ι jO u hs v hu=>((h _ _ _ _ _ hu).uu fun x hx=>v.OO hx).back
theorem mL.agg {cs ds:List AV} (hl:cs.length=ds.length) (h:∀(j:Nat) (c d:AV),cs[j]?=some c→ds[j]?=some d→mL r H c d):mL r H (.agg cs) (.agg ds):=fun H2 w0 w O ι jO u hs v hu=>by
 obtain ⟨arr,rfl,h1,h2⟩:=hu.Co;refine .agg ds arr (h1.trans hl) fun j d u hd hu=>?_;have hj:j<cs.length:=aR;exact h j _ d (dy hj) hd H2 w0 w O ι jO u hs v (h2 j _ u (dy hj) hu)
theorem mL.ky {cs ds:List AV} (hl:cs.length=ds.length) (h:∀(j:Nat) (c d:AV),cs[j]?=some c→ds[j]?=some d→mL r H c d):mL r H (.ky cs) (.ky ds):=fun H2 w0 w O ι jO u hs v hu=>by
 obtain ⟨arr,rfl,h1,h2⟩:=hu.Pn;refine .ky ds arr (h1.trans hl) fun j d u hd hu=>?_;have hj:j<cs.length:=aR;exact h j _ d (dy hj) hd H2 w0 w O ι jO u hs v (h2 j _ u (dy hj) hu)
theorem mL.j9 {f:FuncId} {cs ds:List AV} (hl:cs.length=ds.length) (h:∀(j:Nat) (c d:AV),cs[j]?=some c→ds[j]?=some d→mL r H c d):mL r H (.j9 f cs) (.j9 f ds):=fun H2 w0 w O ι jO u hs v hu=>by
 cases hu with
 | j9 f cs arr h1 h2 =>
 refine .j9 f ds arr (h1.trans hl) fun j d u hd hu=>?_;have hj:j<cs.length:=aR;exact h j _ d (dy hj) hd H2 w0 w O ι jO u hs v (h2 j _ u (dy hj) hu)
theorem mL.ptr {b j tot i off:Nat} (hb:r b=some j):mL r H (.ptr b tot i off) (.ptr j tot i off):=fun H2 w0 w O ι jO u hs v hu=>by
 cases hu with
 | ys b tot i off blk a h1 h2 =>
   obtain ⟨blk2,e1,e2,e3,e4⟩:=v.idx b j blk hb h1;exact .ys _ _ _ _ blk2 _ e1 ae
 | ptr b tot i off blk x h1 ht hi sS =>
   obtain ⟨blk2,e1,e2,e3,e4⟩:=v.idx b j blk hb h1;have:=VR.ptr (w:=w) (O:=OO O jO H2) j tot i off blk2 x e1 (e2.trans ht) (e4.trans hi) sS;rwa [e3] at this
theorem mL.own {b j tot off len:Nat} (hb:r b=some j):mL r H (.own b tot off len) (.own j tot off len):=fun H2 w0 w O ι jO u hs v hu=>by
 cases hu with
 | uq b tot off len blk a n c h1 h2 =>
   obtain ⟨blk2,e1,e2,e3,e4⟩:=v.idx b j blk hb h1;exact .uq _ _ _ _ blk2 _ _ _ e1 ae
 | tI b blk h1 he hi =>
   obtain ⟨blk2,e1,e2,e3,e4⟩:=v.idx b j blk hb h1;rw [he] at e2;exact .tI j blk2 e1 (dQ e2) (e4.trans hi)
 | own b tot off len blk x n cap a h1 ht hi hn hl nQ ha =>
   obtain ⟨blk2,e1,e2,e3,e4⟩:=v.idx b j blk hb h1;exact .own _ _ _ _ blk2 x n cap a e1 (e2.trans ht) (e4.trans hi) hn hl nQ (by rw [e3];exact ha)
theorem TU {w0:nd} {w:World} {O:Nat→Prop} {ι jO:Nat→Option Nat} {H2:List jy} (hs:lA w0 O ι H w) (v:View r ι jO H H2) {b x:Nat} {blk:jy} (h1:H[b]?=some blk) (hk:r b=none) (hi:ι b=some x):¬OO O jO H2 x:=by
 have lR:b<H.length:=(dt h1).1;rintro (h|⟨j,hj,hx⟩)
 ·exact hs.qp x b h lR hi
 ·obtain ⟨b',ka,hr,mH⟩:=v.back j x hj hx;have:=hs.inj b b' x lR ka hi mH;subst this;rw [hk] at hr;cases hr
theorem mL.jA {b tot off len:Nat} {blk:jy} {ds:List AV} (hk:r b=none) (h1:H[b]?=some blk) (ht:blk.es.length=tot) (hl:off+len≤tot) (AP:ds.length=len)
 (hd:∀(i:Nat) (e d:AV),i<len→blk.es[off+i]?=some e→ds[i]?=some d→e.cells.length=d.cells.length∧∀(j:Nat) (c c':AV),e.cells[j]?=some c→d.cells[j]?=some c'→mL r H c c') :
 mL r H (.own b tot off len) (.jA ds):=fun H2 w0 w O ι jO u hs v hu=>by
 have lR:b<H.length:=(dt h1).1;cases hu with
 | uq b tot off len kH a n c pd h2=>rw [h1] at pd;cases pd;omega
 | tI b kH pd he hi =>
   have:ds=[]:=dQ AP;subst this;exact .sn
 | own b tot off len kH x n cap a pd nk hi hn qz nQ ha =>
   rw [h1] at pd;cases pd;obtain ⟨ED,c0,hc,mh,kA,mQ⟩:=hs.heap b blk x h1 hi;rcases gZ len with h0|tN
   ·have:ds=[]:=dQ ae;subst this;exact .jA [] a n cap 0 (fun _ _=>undef) aj ae (by have:0≤maxLen:=dL _;omega) ah ah ah ah
   ·obtain ⟨rfl,wS,c1,ty,fz,nU,rT⟩:=ha (.inl ae);have J8:¬OO O jO H2 x:=TU hs v h1 hk hi;have pq:∀(i j:Nat) (d c:AV),ds[i]?=some d→d.cells[j]?=some c→∃u,w.cell? ⟨x,off*blk.sz+i*blk.sz+j,none⟩=some u∧VR w (OO O jO H2) jO H2 c u:=by
     intro i j d c vj sE;have nq:i<len:=by rw [← AP];exact (dt vj).1
     have ra:blk.es[off+i]?=some (blk.es[off+i]' ae):=dy ae;obtain ⟨h3,h4⟩:=hd i _ d nq ra vj;have J9:j<(blk.es[off+i]' ae).cells.length:=by rw [h3];exact (dt sE).1
     obtain ⟨u,hu,hv⟩:=mQ (off+i) j _ _ ra (dy J9);obtain ⟨KF,KG,hc⟩:=Mc hc ⟨c1,ty,fz,nU⟩;refine ⟨u,?_,h4 j _ c (dy J9) sE H2 w0 w O ι jO u hs v hv⟩;rw [← fK];simpa [World.cell?,hc] using hu
    have P8:∀d∈ds,d.cells.length=blk.sz:=by
     intro d C0;obtain ⟨i,oX,vj⟩:=eF.1 C0;have Qv:ds[i]?=some d:=by rw [dy oX,vj]
     have ra:blk.es[off+i]?=some (blk.es[off+i]' ae):=dy ae;obtain ⟨h3,_⟩:=hd i _ d ae ra Qv;rw [← h3];exact kA _ (ey _)
    exact .jA ds _ n cap blk.sz (fun i j=>(w.cell? ⟨x,off*blk.sz+i*blk.sz+j,none⟩).getD undef) ae ae ae P8 (fun _ _=>rfl)
     (fun i j d c vj sE=>by obtain ⟨u,hu,_⟩:=pq i j d c vj sE;exact ⟨J8,by simp only [hu,eR]⟩)
     (fun i j d c vj sE=>by obtain ⟨u,hu,hv⟩:=pq i j d c vj sE;simpa only [hu,eR] using hv)
structure BH (m:Nat) (r:Nat→Option Nat) (q:Nat→Nat) (H H2:List jy):Prop where
 hand:∀b,b<m→r b=some b
 EE:∀j,j<H2.length→q j<H.length∧r (q j)=some j
 too:∀b j,b<H.length→r b=some j→q j=b∧j<H2.length
 blk:∀j blk blk2,H[q j]?=some blk→H2[j]?=some blk2→blk2.ty=blk.ty∧blk2.sz=blk.sz∧blk2.es.length=blk.es.length ∧
  ∀(i:Nat) (e e2:AV),blk.es[i]?=some e→blk2.es[i]?=some e2→e.cells.length=e2.cells.length∧∀(k:Nat) (c c2:AV),e.cells[k]?=some c→e2.cells[k]?=some c2→mL r H c c2
theorem BH.view {m:Nat} {q:Nat→Nat} {H2:List jy} (s:BH m r q H H2) (ι:Nat→Option Nat):View r ι (fun j=>ι (q j)) H H2:=
 ⟨fun b j blk hr hb=>by
  have lR:=(dt hb).1;obtain ⟨e,hj⟩:=s.too b j lR hr;have h2:H2[j]?=some H2[j]:=dy hj;obtain ⟨_,h3,h4,_⟩:=s.blk j blk _ (by rw [e];exact hb) h2;exact ⟨_,h2,h4,h3,bP⟩,
  fun j x hj hx=>⟨q j,(s.EE j hj).1,(s.EE j hj).2,hx⟩⟩
theorem lA.pQ {m:Nat} {q:Nat→Nat} {H2:List jy} {w0:nd} {w:World} {O:Nat→Prop} {ι:Nat→Option Nat} (hs:lA w0 O ι H w) (hm:w0.H.length=m) (s:BH m r q H H2):lA w0 O (fun j=>ι (q j)) H2 w:=by
 have v:=s.view ι;have qU:∀j blk2,H2[j]?=some blk2→∃blk,H[q j]?=some blk:=fun j blk2 h=>⟨_,dy (s.EE j (dt h).1).1⟩
 refine ⟨fun j blk2 x h2 hi=>?_,fun j blk2 h2 hi=>?_,fun j j' x hj mC hx mH=>?_,hs.below,hs.rS,fun x j hO hj=>hs.qp x _ hO (s.EE j hj).1,?_⟩
 ·obtain ⟨blk,h1⟩:=qU j blk2 h2;obtain ⟨e1,e2,e3,e4⟩:=s.blk j blk blk2 h1 h2;obtain ⟨k1,c,k2,k3,k4,k5⟩:=hs.heap _ blk x h1 hi;refine ⟨k1,c,by rw [e1];exact k2,by rw [e2,e3];exact k3,fun e he=>?_,fun i k pW d he hd=>?_⟩
  ·obtain ⟨i,oX,vL⟩:=eF.1 he;have ra:blk.es[i]?=some (blk.es[i]' ae):=dy ae;obtain ⟨f1,_⟩:=e4 i _ e ra (by rw [dy oX,vL]);rw [← f1,e2];exact k4 _ (ey _)
  ·have nq:i<blk.es.length:=cZ;have ra:blk.es[i]?=some blk.es[i]:=dy nq;obtain ⟨f1,f2⟩:=e4 i _ pW ra he;have pR:k<blk.es[i].cells.length:=dd;obtain ⟨u,hu,hv⟩:=k5 i k _ _ ra (dy pR);exact ⟨u,by rw [e2];exact hu,f2 k _ d (dy pR) hd H2 w0 w O ι _ u hs v hv⟩
 ·obtain ⟨blk,h1⟩:=qU j blk2 h2;obtain ⟨e1,e2,e3,e4⟩:=s.blk j blk blk2 h1 h2;have:=hs.sq _ blk h1 hi;rw [this] at e3;exact dQ e3
 ·have:=hs.inj _ _ x (s.EE j hj).1 (s.EE j' mC).1 hx mH;have h1:=(s.EE j hj).2;rw [this,(s.EE j' mC).2] at h1;injection h1 with h1;exact h1.symm
 ·have hb:∀b blk,w0.H[b]?=some blk→b<m:=fun b blk h=>by rw [← hm];exact (dt h).1
  refine ⟨fun b blk h=>?_,fun b x blk kH c ty fz h h2 hl hi hc=>?_⟩
  ·obtain ⟨FY,k1,k2,k3⟩:=hs.pn.blk b blk h;obtain ⟨blk2,f1,f2,f3,f4⟩:=v.idx b b FY (s.hand b (hb b blk h)) k1;refine ⟨blk2,f1,ae,fun e=>?_⟩;obtain ⟨g1,g2⟩:=k3 ae;exact ⟨f3.trans g1,f4.trans g2⟩
  ·obtain ⟨FY,k1,k2,k3⟩:=hs.pn.blk b blk h;obtain ⟨blk2,f1,f2,f3,f4⟩:=v.idx b b FY (s.hand b (hb b blk h)) k1;rw [h2] at f1;injection f1 with f1;subst f1;exact hs.pn.size b x blk FY c ty fz h k1 ae hi hc
theorem Wk.pQ {n:Fr} {q:Nat→Nat} {H2:List jy} {E E2:Env} (s:BH n.m r q H H2) (h:∀p∈E2,mL r H (lk E p.1) p.2):Wk n ⟨E,H⟩ ⟨E2,H2⟩:=fun w0 O ι a w hs =>
 ⟨_,hs.mP.pQ hs.hand s,hs.defers,hs.size,hs.hand,fun t=>by
  rcases HK E2 t with h1|⟨p,hp,h1,h2⟩
  ·show VR _ _ _ _ (lk E2 t) _;rw [h1];exact .bad _
  ·show VR _ _ _ _ (lk E2 t) _;rw [h2];subst h1;exact h p hp H2 w0 w O ι _ _ hs.mP (s.view ι) (hs.oV p.1)⟩
end
def pre (k:Nat) (b:Nat):Option Nat:=if b<k then some b else none
theorem rF {k b:Nat} (h:b<k):pre k b=some b:=ja h
theorem amG {k b:Nat} (h:k≤b):pre k b=none:=iZ ae
abbrev pX (H:List jy) (k:Nat) (a b:AV):Prop:=mL (pre k) H a b
section
variable {H:List jy} {k:Nat}
theorem pX.pu {a:AV} (h:Pu a):pX H k a a:=mL.pu h
theorem pX.agg {cs ds:List AV} (hl:cs.length=ds.length) (h:∀(j:Nat) (c d:AV),cs[j]?=some c→ds[j]?=some d→pX H k c d):pX H k (.agg cs) (.agg ds):=mL.agg hl h
theorem pX.ky {cs ds:List AV} (hl:cs.length=ds.length) (h:∀(j:Nat) (c d:AV),cs[j]?=some c→ds[j]?=some d→pX H k c d):pX H k (.ky cs) (.ky ds):=mL.ky hl h
theorem pX.ptr {b tot i off:Nat} (hb:b<k):pX H k (.ptr b tot i off) (.ptr b tot i off):=mL.ptr (rF hb)
theorem pX.jA {b tot off len:Nat} {blk:jy} {ds:List AV} (hk:k≤b) (h1:H[b]?=some blk) (ht:blk.es.length=tot) (hl:off+len≤tot) (AP:ds.length=len)
 (hd:∀(i:Nat) (e d:AV),i<len→blk.es[off+i]?=some e→ds[i]?=some d→e.cells.length=d.cells.length∧∀(j:Nat) (c c':AV),e.cells[j]?=some c→d.cells[j]?=some c'→pX H k c c') :
 pX H k (.own b tot off len) (.jA ds):=mL.jA (amG hk) h1 ht hl AP hd
theorem BH.pre {m:Nat} {H2:List jy} (hk:k≤H.length) (hm:m≤k) (hl:H2.length=k) (hb:∀(j:Nat) (blk blk2:jy),H[j]?=some blk→H2[j]?=some blk2→blk2.ty=blk.ty∧blk2.sz=blk.sz∧blk2.es.length=blk.es.length ∧
 ∀(i:Nat) (e e2:AV),blk.es[i]?=some e→blk2.es[i]?=some e2→e.cells.length=e2.cells.length∧∀(k':Nat) (c c2:AV),e.cells[k']?=some c→e2.cells[k']?=some c2→pX H k c c2):BH m (pre k) id H H2:=
 ⟨fun b h=>rF ae,fun j hj=>⟨show j<H.length by omega,rF (show j<k by omega)⟩,(fun b j hb h=>by
  unfold Ab.pre at h;split at h
  ·injection h with h;subst h;exact ⟨rfl,ae⟩
  ·cases h),hb⟩
theorem Wk.trim {n:Fr} {E E2:Env} (k:Nat) (hm:n.m≤k) (h:∀p∈E2,pX H k (lk E p.1) p.2) (hc:∀blk∈H.take k,∀e∈blk.es,∀c∈e.cells,pX H k c c):Wk n ⟨E,H⟩ ⟨E2,H.take k⟩:=by
 rcases Nat.le_total k H.length with hk|hk
 ·refine Wk.pQ (r:=Ab.pre k) (q:=id) (.pre hk hm aj fun j blk blk2 h1 h2=>?_) h;have hj:j<k:=by have:=(dt h2).1;simp at this;omega
  have rJ:=dx h2;rw [fL,ja hj,h1] at h2;injection h2 with h2;subst h2;exact ⟨rfl,rfl,rfl,fun i e e2 he zP=>by
   rw [he] at zP;injection zP with zP;subst zP;exact ⟨rfl,fun k' c c2 nU rT=>by
    rw [nU] at rT;injection rT with rT;subst rT;exact hc blk rJ e (dx he) c (dx nU)⟩⟩
 ·intro w0 O ι a w hs;have e:H.take k=H:=fP hk;rw [e];have v:View (Ab.pre k) ι ι H H:=⟨(fun b j blk hr hb=>by
   unfold Ab.pre at hr;split at hr
   ·injection hr with hr;subst hr;exact ⟨blk,hb,rfl,rfl,rfl⟩
   ·cases hr),fun j x hj hx=>⟨j,hj,rF ae,hx⟩⟩
  exact ⟨ι,hs.mP,hs.defers,hs.size,hs.hand,fun t=>by
   rcases HK E2 t with h1|⟨p,hp,h1,h2⟩
   ·show VR _ _ _ _ (lk E2 t) _;rw [h1];exact .bad _
   ·show VR _ _ _ _ (lk E2 t) _;rw [h2];subst h1;exact h p hp H w0 w O ι ι _ hs.mP v (hs.oV p.1)⟩
end
section
variable {H:List jy} {k:Nat}
theorem Wk.nil {n:Fr} {E E2:Env} (ty sz:Nat) (h:∀p∈E2,Le (lk E p.1) p.2∨(lk E p.1=.base (.slice none 0 0)∧p.2=.own H.length 0 0 0)):Wk n ⟨E,H⟩ ⟨E2,H++[⟨ty,sz,[]⟩]⟩:=fun w0 O ι a w hs=>by
 let jO:Nat→Option Nat:=fun b=>if b=H.length then none else ι b
 have kn:∀b blk,H[b]?=some blk→(H++[⟨ty,sz,[]⟩])[b]?=some blk∧jO b=ι b:=fun b blk hb=>by
  have:b<H.length:=(dt hb).1;exact ⟨by rw [dA this];exact hb,iZ ae⟩
 have hinv:∀b x,b<(H++[(⟨ty,sz,[]⟩:jy)]).length→jO b=some x→b<H.length∧ι b=some x:=fun b x hb hx=>by
  simp only [dK,dO] at hb;by_cases e:b=H.length
  ·simp [jO,e] at hx
  ·exact ⟨ae,by simpa [jO,e] using hx⟩
 have wT:∀x,OO O jO (H++[⟨ty,sz,[]⟩]) x→OO O ι H x:=by
  rintro x (h|⟨b,hb,hx⟩)
  ·exact .inl h
  ·obtain ⟨h1,h2⟩:=hinv b x hb hx;exact .inr ⟨b,h1,h2⟩
 have g:mj w (OO O ι H) ι H w (OO O jO (H++[⟨ty,sz,[]⟩])) jO (H++[⟨ty,sz,[]⟩]):=
  ⟨fun _ _ _ h=>h,fun _ _ h _ h'=>h (wT _ h'),fun b blk hb=>⟨blk,(kn b blk hb).1,dD _,fun _=>⟨rfl,(kn b blk hb).2⟩⟩,
   fun b x blk kH c ty fz _ _ _ _ h=>⟨c,ty,fz,h,rfl⟩⟩
 have P9:∀b blk x,(H++[(⟨ty,sz,[]⟩:jy)])[b]?=some blk→jO b=some x→H[b]?=some blk∧ι b=some x:=fun b blk x hb hx=>by
  obtain ⟨h1,h2⟩:=hinv b x (dt hb).1 hx;rw [dA h1] at hb;exact ⟨hb,h2⟩
 refine ⟨jO,⟨fun b blk x hb hx=>?_,fun b blk hb hx=>?_,fun b b' x hb ka hx mH=>?_,hs.mP.below,hs.mP.rS,fun x b hO hb hx=>?_,hs.mP.pn.trans g.grow⟩,hs.defers,hs.size,hs.hand,fun t=>?_⟩
 ·obtain ⟨h1,h2⟩:=P9 b blk x hb hx;obtain ⟨h3,h4⟩:=hs.mP.heap b blk x h1 h2;exact ⟨h3,h4.mono g rfl⟩
 ·by_cases e:b<H.length
  ·rw [dA e] at hb;exact hs.mP.sq b blk hb (by rw [← (kn b blk hb).2];exact hx)
  ·rw [dJ ae] at hb;cases hd:b-H.length with
   | zero=>rw [hd] at hb;simp at hb;subst hb;rfl
   | succ m=>rw [hd] at hb;simp at hb
 ·obtain ⟨h1,h2⟩:=hinv b x hb hx;obtain ⟨h3,h4⟩:=hinv b' x ka mH;exact hs.mP.inj b b' x h1 h3 h2 h4
 ·obtain ⟨h1,h2⟩:=hinv b x hb hx;exact hs.mP.qp x b hO h1 h2
 ·rcases HK E2 t with h1|⟨p,hp,h1,h2⟩
  ·show VR _ _ _ _ (lk E2 t) _;rw [h1];exact .bad _
  ·show VR _ _ _ _ (lk E2 t) _;rw [h2];subst h1;have hv:=hs.oV p.1;rcases h p hp with h|⟨h3,h4⟩
   ·exact h _ _ _ _ _ (hv.mono g)
   ·rw [show lk (⟨E,H⟩:ku).env p.1=lk E p.1 from rfl,h3] at hv;have:=hv.nO;rw [h4,this];exact .tI _ ⟨ty,sz,[]⟩ ah rfl (ja rfl)
end
def zx (P:Program) (H:List jy) (t:TypeId):AV→Option AV
 | .ptr b tot i off=>match H[b]? with
   | some blk=>if blk.es.length=tot then match blk.es[i]? with
     | some e=>uB (mE P t) (lW P t) e off
     | none=>none else none
   | none=>none
 | _=>none
def xV (P:Program) (s:ku):ResultVar→Option AV
 | .tmp t=>some (lk s.env t)
 | .cell a t=>zx P s.H t (lk s.env a)
def o6 (P:Program) (s:ku):List ResultVar→Option (List AV)
 | []=>some []
 | r::rs=>match xV P s r,o6 P s rs with
   | some v,some vs=>some (v::vs)
   | _,_=>none
def rG:List AV→AV
 | [v]=>v
 | vs=>.ky vs
def kO (P:Program) (rs:List ResultVar) (d:AV) (s:ku):Prop:=∃vs,o6 P s rs=some vs∧pX s.H 0 (rG vs) d
def FZ (P:Program) (rs:List ResultVar) (d:AV):Exit→ku→Prop
 | .normal,s | .ret,s=>kO P rs d s
 | _,_=>False
def MO (tmps:Array Value):ResultVar→Sem Value
 | .tmp t=>pure (tmps.getD t undef)
 | .cell a t=>do loadVar t (← asAddr (tmps.getD a undef))
section
variable {P:Program} {w:World} {w0:nd} {O:Nat→Prop} {ι:Nat→Option Nat} {n:Fr}
theorem aeG {s:ku} {a:Act} (hs:SR n w0 O s ι a w) {r:ResultVar} {v:AV} (h:xV P s r=some v) :
 ∃u,(MO a.tmps r).run P w=.ok u w∧VR w (OO O ι s.H) ι s.H v u:=by
 cases r with
 | tmp t =>
   simp only [xV] at h;injection h with h;subst h;exact ⟨_,rfl,hs.oV t⟩
 | cell b t =>
   simp only [xV] at h;have h1:=hs.oV b;generalize lk s.env b=A at h h1;unfold zx at h;split at h
   ·split at h
    ·rename_i blk hb;split at h
     ·rename_i ht;split at h
      ·rename_i e he;obtain ⟨y,hy,h2,h3⟩:=h1.HA hs.mP hb ht he;obtain ⟨u,hu,uE⟩:=Po (P:=P) h h3;exact ⟨u,by simp only [MO,dR,h2,asAddr,dV,dN,hu],uE⟩
      ·cases h
     ·cases h
    ·cases h
   ·cases h
theorem OG {s:ku} {a:Act} (hs:SR n w0 O s ι a w) {fn:Func} {vs:List AV} (h:o6 P s fn.results.toList=some vs) :
 ∃u,(results fn a.tmps).run P w=.ok u w∧VR w (OO O ι s.H) ι s.H (rG vs) u:=by
 have key:∀(rs:List ResultVar) (vs:List AV),o6 P s rs=some vs→∃us:List Value,us.length=vs.length∧(∀(j:Nat) (c:AV) (u:Value),vs[j]?=some c→us[j]?=some u→VR w (OO O ι s.H) ι s.H c u) ∧
  (rs.mapM (MO a.tmps)).run P w=.ok us w:=by
  intro rs
  induction rs with
  | nil=>intro vs h;simp only [o6] at h;injection h with h;subst h;exact ⟨[],rfl,ah,rfl⟩
  | cons r rs ih =>
    intro vs h;simp only [o6] at h;split at h
    ·rename_i v vs' hv kV;injection h with h;subst h;obtain ⟨us,h1,h2,h3⟩:=ih vs' kV;obtain ⟨u,h4,h5⟩:=aeG hs hv;refine ⟨u::us,by simp [h1],fun j c u' hc hu=>?_,?_⟩
     ·cases j with
      | zero=>simp at hc hu;subst hc;subst hu;exact h5
      | succ j=>exact h2 j c u' (by simpa using hc) (by simpa using hu)
     ·rw [List.mapM_cons];simp only [dR,h3,h4,dN,dV]
    ·cases h
 obtain ⟨us,h1,h2,h3⟩:=key _ vs h;have H6:results fn a.tmps=(fn.results.mapM (MO a.tmps) >>= fun vs=>pure (if h:vs.size=1 then vs[0] else .tuple vs)):=rfl;rw [H6,Array.mapM_eq_mapM_toList];simp only [bind_map_left,dR,h3,dN,dV];refine ⟨_,rfl,?_⟩
 match vs,us,h1,h2 with
 | [v],[u],_,h2=>exact h2 0 v u rfl rfl
 | [],[],_,h2=>exact .ky [] #[] rfl ah
 | v::v2::vs,u::u2::us,h1,h2 =>
   rw [dif_neg ah];exact .ky _ _ (by simp at h1 ⊢;exact h1) fun j c u hc hu=>h2 j c u hc (by simpa using hu)
theorem qY.Wf {m:List (Nat×Obj)} (X:Env) (hX:X=[]∨X=[(mu,.mem m)]) {f:FuncId} {fn:Func} {c:Code} {args:List AV} {d:AV} (hf:P.funcs[f]?=some fn) (hn:(fn.name == "runtime.NumGoroutine")=false) (hb:fn.body=some c) (ha:args.length≤fn.ntmps)
 (h:jG P ⟨fn.ntmps,0⟩ c (FZ P fn.results.toList d) ⟨(args.zipIdx.map fun (a,i)=>(i,a))++X,[]⟩) (yJ:X=[]∨fn.ntmps≤mu):qY P m f args d:=by
 refine ⟨⟨fn,hf,hn,by rw [hb];rfl⟩,fun w O vs rJ hO hl hv=>?_⟩;refine calls_of_wp hf hb ?_;have oY:∀(l:List AV) (k t:Nat),lk ((l.zipIdx k).map (fun (a,i)=>(i,a))++X) t=if k≤t∧t<k+l.length then (l[t-k]?).getD .bad else lk X t:=by
  intro l
  induction l with
  | nil=>intro k t;simp;intro h1 h2;omega
  | cons x l ih =>
    intro k t;simp only [iz,ef,List.cons_append,lk,ih,ff];split
    ·rename_i e;subst e;simp
    ·rename_i e;by_cases kn:k≤t∧t<k+(l.length+1)
     ·rw [ja ae,ja kn,show t-k=(t-(k+1))+1 by omega];rfl
     ·rw [iZ ae,iZ kn]
 have hs:SR ⟨fn.ntmps,0⟩ (JU w) O ⟨args.zipIdx.map (fun (a,i)=>(i,a))++X,[]⟩ xy { tmps:=vs++Array.replicate (fn.ntmps-vs.size) undef,defers:=[] } w:=by
  refine ⟨⟨fun b blk x h=>bQ,fun b blk h=>bQ,fun b b' x h=>bQ,yg.refl ..,hO,fun x b _ h=>bQ,.refl ..⟩,rfl,aj,rfl,fun t=>?_⟩;show VR _ _ _ _ (lk (args.zipIdx.map (fun (a,i)=>(i,a))++X) t) _;rw [oY args 0 t];split
  ·rename_i Y6;simp only [iq];have re:t<args.length:=ae;rw [dy re,eR];have hu:vs[t]?=some vs[t]:=dM ae;have h1:=hv t _ _ (dy re) hu;rw [dH,fB ae,hu];refine h1.uu fun y hy=>?_;rcases hy with hy|⟨b,hb,_⟩
   ·exact hy
   ·simp at hb
  ·rcases hX with rfl|rfl
   ·exact .bad _
   ·show VR _ _ _ _ (if mu=t then AV.mem m else .bad) _;split
    ·refine .mem _ _ fun p hp=>⟨fun RN=>?_,(rJ p hp).2⟩
     rcases RN with RN|⟨b,hb,_⟩
     ·exact (rJ p hp).1 RN
     ·simp at hb
    ·exact .bad _
 refine jh (h (JU w) O xy _ w hs) ?_;have fin:∀(s':ku) (jU:Nat→Option Nat) (a:Act) (w':World),kO P fn.results.toList d s'→SR ⟨fn.ntmps,0⟩ (JU w) O s' jU a w' →
  a.defers=[]∧∃v,(results fn a.tmps).run P w'=.ok v w'∧∃v',Ending.returned v=.returned v'∧VR w' O xy [] d v'∧Below w.heap.size w w':=by
  rintro s' jU a w' ⟨rs,h1,h2⟩ ma;obtain ⟨u,h3,h4⟩:=OG ma h1;refine ⟨ma.defers,u,h3,u,rfl,?_,ma.mP.below.below⟩;have h5:=h2 [] (JU w) w' O jU jU u ma.mP ⟨fun b j blk hr=>by simp [pre] at hr,fun j x hj=>by simp at hj⟩ h4;have h6:VR w' O jU [] d u:=h5.uu fun x hx=>.inl hx;exact h6.mono ⟨fun _ _ _ h=>h,fun _ _ h _=>h,fun b blk h=>bQ,fun b x blk kH c ty fz h=>bQ⟩
 rintro e a w' ⟨s',jU,h1,h2⟩;cases e with
 | normal=>exact fin s' jU a w' h1 h2
 | ret=>exact fin s' jU a w' h1 h2
 | _=>exact h1.elim
theorem qY.intro {m:List (Nat×Obj)} {f:FuncId} {fn:Func} {c:Code} {args:List AV} {d:AV} (hf:P.funcs[f]?=some fn) (hn:(fn.name == "runtime.NumGoroutine")=false) (hb:fn.body=some c) (ha:args.length≤fn.ntmps)
 (h:jG P ⟨fn.ntmps,0⟩ c (FZ P fn.results.toList d) ⟨(args.zipIdx.map fun (a,i)=>(i,a))++[(mu,.mem m)],[]⟩) (yJ:fn.ntmps≤mu):qY P m f args d:=.Wf _ (.inr rfl) hf hn hb ha h (.inr yJ)
theorem Fn.intro {f:FuncId} {fn:Func} {c:Code} {args:List AV} {d:AV} (hf:P.funcs[f]?=some fn) (hn:(fn.name == "runtime.NumGoroutine")=false) (hb:fn.body=some c) (ha:args.length≤fn.ntmps)
 (h:jG P ⟨fn.ntmps,0⟩ c (FZ P fn.results.toList d) ⟨args.zipIdx.map fun (a,i)=>(i,a),[]⟩):Fn P f args d:=.Wf [] (.inl rfl) hf hn hb ha (by rw [fC];exact h) (.inl rfl)
end
end Go.Ab
