/- Operations with a condition of their own: calls, indexes, slices, struct literals. -/
import Derived.Maps.AppendAt
import Derived.Test.YthgicbkdckpeaaaDoorG06
set_option linter.unusedSimpArgs false
set_option linter.unusedVariables false
namespace Go.Ab
open Go Go.RowKit

section
variable {P : Program} {H : List ABlk} {ρ : Operand → AV}

theorem ql_call {c : Call} {fx : Operand} {f : FuncId} {caps : List AV} {d : AV} (hc : c.callee = .value fx)
    (hf : ρ fx = .clo f caps) (hp : ∀ a ∈ c.args.toList.map ρ ++ caps, Pu a) {m : List (Nat × Obj)} (h : FnM P m f (c.args.toList.map ρ ++ caps) d) (hm : MemIn m ρ := by exact .inl rfl) : QL P H ρ (.call c) d :=
  fun o ho => q_call ho hc hf hp h hm

theorem ql_fun {op : Op} {v : AV} (h : qfun P H ρ op = some v) : QL P H ρ op v := fun o ho => qfun_sound (by rw [ho]; exact h)

theorem QL.of_run {op : Op} {v : AV}
    (h : ∀ (w0 : Base) (O : Nat → Prop) (ι : Nat → Option Nat) (a : Act) (w : World), Sit w0 O ι H w →
      (∀ x, x ∈ op.operands → VR w (OO O ι H) ι H (ρ x) (a.eval x)) → ∀ o : Oper, o.op = op → ∃ u, (execOp a.eval o).run P w = .ok (.value u) w ∧ VR w (OO O ι H) ι H v u) : QL P H ρ op v :=
  fun o ho => QOp.of_run fun w0 O ι a w hs hv => h w0 O ι a w hs (by rw [← ho]; exact hv) o ho

theorem sizeOf_run {w : World} {t : TypeId} {n : Nat} (h : szTy P t = some n) : (sizeOf t).run P w = .ok n w := by
  unfold szTy at h
  cases hi : P.info? t with
  | none => simp [hi] at h
  | some i => simp [hi] at h; simp [sizeOf, typeInfo, hi, h]

theorem add_eq (a : Addr) (n : Nat) (h : a.spot = none) : a.add n = ⟨a.block, a.off + n, none⟩ := by
  unfold Addr.add
  split
  · rename_i h0; cases a; simp_all
  · rfl

theorem ql_indexAddr_lst {t el : TypeId} {x i : Operand} {k : IntKind} {n : Int} {es : List AV} {e : AV} (hx : ρ x = .lst es) (hi : ρ i = .base (.int k n)) (ht : P.underlying t = some (.slice el))
    (h0 : 0 ≤ n) (he : es[n.toNat]? = some e) (hsz : szTy P el = some e.cells.length) : QL P H ρ (.indexAddr t x i) (.iptr e 0) := by
  refine QL.of_run fun w0 O ι a w hs hv o ho => ?_
  have h1 := hv x (by simp [Op.operands])
  have h2 := hv i (by simp [Op.operands])
  rw [hx] at h1
  rw [hi] at h2
  have h2 := h2.base_inv
  generalize hX : a.eval x = X at h1
  have hlt : n.toNat < es.length := (List.getElem?_eq_some_iff.1 he).1
  cases h1 with
  | lnil => simp at hlt
  | lst es ad m cap s val hn hcap hmax hlen hspot hc hvv =>
    have hmem : e ∈ es := List.mem_of_getElem? he
    have hs' := hlen e hmem
    have hsp := hspot e hmem
    refine ⟨.pointer (some (ad.add (n.toNat * e.cells.length))), ?_, ?_⟩
    · have hb : 0 ≤ n ∧ n < (m : Int) := ⟨h0, by omega⟩
      simp only [execOp, ho, hX, h2, Instr.indexAt, asIntOf_run, run_underlying ht, sizeOf_run hsz, Sem.run_bind, Sem.run_pure, Result.andThen_ok, Sem.run_ite, if_pos hb]
    · rw [add_eq _ _ hsp]
      refine .iptr e 0 _ (val n.toNat) rfl (Nat.zero_le _) (fun j c hj => ?_) fun j c hj => hvv _ _ _ _ he hj
      have := hc _ _ _ _ he hj
      rw [hs']
      exact this

theorem ql_indexAddr_own {t el : TypeId} {x i : Operand} {k : IntKind} {n : Int} {b tot off len : Nat} {blk : ABlk} (hx : ρ x = .own b tot off len) (hi : ρ i = .base (.int k n)) (ht : P.underlying t = some (.slice el))
    (hb : H[b]? = some blk) (htot : blk.es.length = tot) (h0 : 0 ≤ n) (hn : n < len) (hsz : szTy P el = some blk.sz) : QL P H ρ (.indexAddr t x i) (.ptr b tot (off + n.toNat) 0) := by
  refine QL.of_run fun w0 O ι a w hs hv o ho => ?_
  have h1 := hv x (by simp [Op.operands])
  have h2 := hv i (by simp [Op.operands])
  rw [hx] at h1
  rw [hi] at h2
  have h2 := h2.base_inv
  generalize hX : a.eval x = X at h1
  cases h1 with
  | staleOwn b tot off len blk' a n c hb' hlt => rw [hb] at hb'; cases hb'; omega
  | ownNil b blk' hb' he hi' => omega
  | own b tot off len blk' y m cap ad hb' ht' hi' hn' hl hcap ha =>
    rw [hb] at hb'; cases hb'
    obtain ⟨rfl, _, cc, cty, cfz, hcc, _⟩ := ha (.inl (by omega))
    refine ⟨.pointer (some ⟨y, off * blk.sz + n.toNat * blk.sz, none⟩), ?_, ?_⟩
    · have hbd : 0 ≤ n ∧ n < (m : Int) := ⟨h0, by omega⟩
      have hadd := add_eq ⟨y, off * blk.sz, none⟩ (n.toNat * blk.sz) rfl
      simp only [execOp, ho, hX, h2, Instr.indexAt, asIntOf_run, run_underlying ht, sizeOf_run hsz, Sem.run_bind, Sem.run_pure, Result.andThen_ok, Sem.run_ite, if_pos hbd, hadd]
    · rw [← Nat.add_mul]
      exact .ptr b tot (off + n.toNat) 0 blk y hb ht' hi' ⟨cc, cty, cfz, hcc⟩

theorem ql_indexAddr_ptr {t el : TypeId} {x i : Operand} {k : IntKind} {n : Int} {b tot i0 off len sz : Nat} (hx : ρ x = .ptr b tot i0 off) (hf : fresh H b tot = true) (hi : ρ i = .base (.int k n)) (ht : P.underlying t = some (.array len el))
    (h0 : 0 ≤ n) (hn : n < len) (hsz : szTy P el = some sz) : QL P H ρ (.indexAddr t x i) (.ptr b tot i0 (off + n.toNat * sz)) := by
  refine QL.of_run fun w0 O ι a w hs hv o ho => ?_
  have h1 := hv x (by simp [Op.operands])
  have h2 := hv i (by simp [Op.operands])
  rw [hx] at h1
  rw [hi] at h2
  have h2 := h2.base_inv
  obtain ⟨y, blk, hy, hb, ht', hX, hcx⟩ := h1.ptr_fresh hf
  refine ⟨.pointer (some ⟨y, i0 * blk.sz + (off + n.toNat * sz), none⟩), ?_, .ptr b tot i0 _ blk y hb ht' hy hcx⟩
  have hbd : 0 ≤ n ∧ n < (len : Int) := ⟨h0, hn⟩
  have hadd := add_eq ⟨y, i0 * blk.sz + off, none⟩ (n.toNat * sz) rfl
  simp only [execOp, ho, hX, h2, Instr.indexAt, asIntOf_run, run_underlying ht, sizeOf_run hsz, Sem.run_bind, Sem.run_pure, Result.andThen_ok, Sem.run_ite, if_pos hbd, hadd, Instr.sureAddr, Nat.add_assoc]

theorem ql_index_arr {t el : TypeId} {x i : Operand} {k : IntKind} {n : Int} {cs : List AV} {v : AV} {len sz : Nat} (hx : ρ x = .agg cs) (hi : ρ i = .base (.int k n)) (ht : P.underlying t = some (.array len el))
    (h0 : 0 ≤ n) (hn : n < len) (hsz : szTy P el = some sz) (hv' : ldE (aggTy P el) (some sz) (.agg cs) (n.toNat * sz) = some v) : QL P H ρ (.index t x i) v := by
  refine QL.of_run fun w0 O ι a w hs hv o ho => ?_
  have h1 := hv x (by simp [Op.operands])
  have h2 := hv i (by simp [Op.operands])
  rw [hx] at h1
  rw [hi] at h2
  have h2 := h2.base_inv
  obtain ⟨arr, hX, h3, h4⟩ := h1.agg_inv
  obtain ⟨u, hr, hvu⟩ := part_run (P := P) h3 h4 (by rw [hsz]; exact hv')
  have hbd : 0 ≤ n ∧ n < (len : Int) := ⟨h0, hn⟩
  exact ⟨u, by simp only [execOp, ho, hX, h2, Instr.index, asIntOf_run, run_underlying ht, sizeOf_run hsz, Sem.run_bind, Sem.run_pure, Result.andThen_ok, Sem.run_ite, if_pos hbd, hr], hvu⟩

def bnd (ρ : Operand → AV) (d : Nat) : Option Operand → Option Nat
  | none => some d
  | some x => match ρ x with
    | .base (.int _ n) => if 0 ≤ n then some n.toNat else none
    | _ => none

theorem sliceBound_run {w : World} {k : IntKind} {n : Int} {y : Nat} {code : BoundsCode} (h0 : 0 ≤ n) (h : n ≤ y) : (Instr.sliceBound (.int k n) y code).run P w = .ok n.toNat w := by
  simp only [Instr.sliceBound, asIntOf_run, Sem.run_bind, Result.andThen_ok, Sem.run_ite, if_pos (And.intro h0 h), Sem.run_pure]

theorem sliceBounds_run {w : World} {a : Act} {O : Nat → Prop} {ι : Nat → Option Nat} {isSl : Bool} {len cap l h : Nat} {lo hi : Option Operand} (hv : ∀ x, (lo = some x ∨ hi = some x) → VR w O ι H (ρ x) (a.eval x))
    (hlo : bnd ρ 0 lo = some l) (hhi : bnd ρ len hi = some h) (hlh : l ≤ h) (hc : h ≤ cap) : (Instr.sliceBounds isSl len cap (lo.map a.eval) (hi.map a.eval) none).run P w = .ok (l, h, cap) w := by
  have hl : ∀ x, lo = some x → ∃ k n, a.eval x = .int k n ∧ 0 ≤ n ∧ l = n.toNat := by
    intro x hx
    subst hx
    simp only [bnd] at hlo
    split at hlo
    · rename_i k n hρ
      split at hlo
      · rename_i h0
        injection hlo with hlo
        have := hv x (.inl rfl); rw [hρ] at this
        exact ⟨k, n, this.base_inv, h0, hlo.symm⟩
      · cases hlo
    · cases hlo
  have hh : ∀ x, hi = some x → ∃ k n, a.eval x = .int k n ∧ 0 ≤ n ∧ h = n.toNat := by
    intro x hx
    subst hx
    simp only [bnd] at hhi
    split at hhi
    · rename_i k n hρ
      split at hhi
      · rename_i h0
        injection hhi with hhi
        have := hv x (.inr rfl); rw [hρ] at this
        exact ⟨k, n, this.base_inv, h0, hhi.symm⟩
      · cases hhi
    · cases hhi
  unfold Instr.sliceBounds
  cases hi with
  | none =>
    simp only [bnd] at hhi
    injection hhi with hhi
    cases lo with
    | none =>
      simp only [bnd] at hlo
      injection hlo with hlo
      subst hlo; subst hhi
      simp only [Option.map_none, Sem.run_bind, Sem.run_pure, Result.andThen_ok]
    | some x =>
      obtain ⟨k, n, h1, h2, h3⟩ := hl x rfl
      subst hhi; subst h3
      simp only [Option.map_none, Option.map_some, Sem.run_bind, Sem.run_pure, Result.andThen_ok, h1, sliceBound_run h2 (show n ≤ (len : Int) by omega)]
  | some y =>
    obtain ⟨k', n', h1', h2', h3'⟩ := hh y rfl
    subst h3'
    cases lo with
    | none =>
      simp only [bnd] at hlo
      injection hlo with hlo
      subst hlo
      simp only [Option.map_none, Option.map_some, Sem.run_bind, Sem.run_pure, Result.andThen_ok, h1', sliceBound_run h2' (show n' ≤ (cap : Int) by omega)]
    | some x =>
      obtain ⟨k, n, h1, h2, h3⟩ := hl x rfl
      subst h3
      simp only [Option.map_some, Sem.run_bind, Sem.run_pure, Result.andThen_ok, h1, h1', sliceBound_run h2' (show n' ≤ (cap : Int) by omega), sliceBound_run h2 (show n ≤ (n'.toNat : Int) by omega)]

theorem ql_slice_lst {t el : TypeId} {x : Operand} {lo hi : Option Operand} {es : List AV} {l h sz : Nat} (hx : ρ x = .lst es) (ht : P.underlying t = some (.slice el)) (hlo : bnd ρ 0 lo = some l) (hhi : bnd ρ es.length hi = some h)
    (hlh : l ≤ h) (hh : h ≤ es.length) (hsz : szTy P el = some sz) (hes : ∀ e ∈ es, e.cells.length = sz) : QL P H ρ (.slice t x lo hi none) (.lst ((es.drop l).take (h - l))) := by
  refine QL.of_run fun w0 O ι a w hs hv o ho => ?_
  have h1 := hv x (by simp [Op.operands])
  have hv2 : ∀ y, (lo = some y ∨ hi = some y) → VR w (OO O ι H) ι H (ρ y) (a.eval y) := by
    rintro y (rfl | rfl) <;> exact hv y (by simp [Op.operands])
  rw [hx] at h1
  generalize hX : a.eval x = X at h1
  cases h1 with
  | lnil =>
    simp only [List.length_nil] at hhi hh
    have hr := sliceBounds_run (P := P) (cap := 0) (isSl := true) hv2 hlo hhi hlh (by omega)
    have : l = 0 := by omega
    have : h = 0 := by omega
    subst l; subst h
    refine ⟨.slice none 0 0, ?_, by simpa using VR.lnil⟩
    simp only [execOp, ho, hX, Instr.sliceAt, run_underlying ht, Instr.slice, Option.map_none, hr, sizeOf_run hsz, Sem.run_bind, Sem.run_pure, Result.andThen_ok, if_true, Nat.sub_zero]
  | lst es ad m cap s val hn hcap hmax hlen hspot hc hvv =>
    subst hn
    have hr := sliceBounds_run (P := P) (cap := cap) (isSl := true) hv2 hlo hhi hlh (by omega)
    have hmem : ∀ e, e ∈ (es.drop l).take (h - l) → e ∈ es := fun e he => List.mem_of_mem_drop (List.mem_of_mem_take he)
    have hget : ∀ i e, ((es.drop l).take (h - l))[i]? = some e → es[l + i]? = some e := by
      intro i e he
      rw [List.getElem?_take] at he
      split at he
      · rwa [List.getElem?_drop] at he
      · cases he
    by_cases hcl : cap = l
    · refine ⟨.slice (some ad) (h - l) (cap - l), ?_, ?_⟩
      · simp only [execOp, ho, hX, Instr.sliceAt, run_underlying ht, Instr.slice, Option.map_none, hr, sizeOf_run hsz, Sem.run_bind, Sem.run_pure, Result.andThen_ok, if_pos hcl]
      · have : (es.drop l).take (h - l) = [] := by simp; omega
        rw [this]
        exact .lst [] ad _ _ 0 (fun _ _ => undef) (by simp; omega) (by omega) (by have : 0 ≤ maxLen := Nat.zero_le _; omega) (by simp) (by simp) (by simp) (by simp)
    · refine ⟨.slice (some (ad.add (l * sz))) (h - l) (cap - l), ?_, ?_⟩
      · simp only [execOp, ho, hX, Instr.sliceAt, run_underlying ht, Instr.slice, Option.map_none, hr, sizeOf_run hsz, Sem.run_bind, Sem.run_pure, Result.andThen_ok, if_neg hcl, Option.map_some]
      · refine .lst _ _ _ _ sz (fun i j => val (l + i) j) (by simp; omega) (by omega) (by omega) (fun e he => hes e (hmem e he)) (fun e he => ?_) (fun i j e c he hj => ?_) fun i j e c he hj => hvv _ _ _ _ (hget i e he) hj
        · rw [add_eq _ _ (hspot e (hmem e he))]
        · have he' := hget i e he
          have hs' : s = sz := by rw [← hlen e (List.mem_of_getElem? he'), hes e (List.mem_of_getElem? he')]
          have := hc _ _ _ _ he' hj
          rw [add_eq _ _ (hspot e (List.mem_of_getElem? he'))]
          rw [hs', Nat.add_mul, ← Nat.add_assoc] at this
          exact this

end
end Go.Ab
namespace Go.Ab
open Go Go.RowKit

attribute [go_sem] memSlot cv batch qstep qfun ev lk putE stripA stripL wrapL gval lite gc ldE binF intBin strBin boolBin lenF pickF fieldF fresh resVal resVals ldPtr packA AV.cells bnd

theorem dstOk_none (n : Fr) : dstOk n none = true := rfl
theorem Fr_n (k : Nat) : (OfNat.ofNat k : Fr).n = k := rfl
theorem Fr_m (k : Nat) : (OfNat.ofNat k : Fr).m = 0 := rfl
attribute [go_sem] Fr_n Fr_m
theorem dstOk_some (n : Fr) (t : Nat) : dstOk n (some t) = decide (t < n.n) := by
  rw [Bool.eq_iff_iff]; simp [dstOk]
attribute [go_sem] dstOk_none dstOk_some

section
variable {P : Program} {n : Fr} {K : ASt → Prop} {Q : Exit → ASt → Prop} {s : ASt}
theorem ARun.go {q : Bool} {o : LOp} {l r : List LOp} {s0 s1 : ASt} (h : qstep P n o s = some s0) (h2 : Go.Ab.batch P n l s0 = (r, s1)) (hr : ARun P n q r K s1) : ARun P n q (o :: l) K s :=
  ARun.batch (l := o :: l) (by simp only [Ab.batch, h]; exact h2) hr
def RegL (ops : Array Oper) (D : List (Option Tmp)) (l : List LOp) : Prop := ops.toList.map (·.dst) = D ∧ ops.toList.all (gOk D) = true ∧ ops.toList.map (lite D) = l
theorem AWp.regionL {id : Nat} {ops : Array Oper} {D : List (Option Tmp)} {l : List LOp} (h : RegL ops D l) (hr : ARun P n false l (Q .normal) s) : AWp P n (.region id ops false) Q s := AWp.region h.1 h.2.1 h.2.2 hr
def RegD (ops : Array Oper) (k : Nat) (D : List (Option Tmp)) (l1 l2 : List LOp) : Prop :=
  ops.toList.map (·.dst) = D ∧ ops.toList.all (gOk D) = true ∧ drawOk D ops k = true ∧ k ≤ ops.size ∧ (ops.toList.take k).map (lite D) = l1 ∧ (ops.toList.drop k).map (lite D) = l2
theorem AWp.drawL {id : Nat} {ops : Array Oper} {D : List (Option Tmp)} {k : Nat} {l1 l2 : List LOp} (hm : P.follows .mixedOrders = true) (h : RegD ops k D l1 l2)
    (hr : ARun P n true l1 (fun s1 => ARun P n false l2 (Q .normal) s1) s) : AWp P n (.region id ops true) Q s := AWp.draw hm h.1 h.2.1 h.2.2.1 h.2.2.2.1 h.2.2.2.2.1 h.2.2.2.2.2 hr
theorem thenQ_n (h : K s) : thenQ K Q .normal s := h
theorem thenQ_r (h : Q .ret s) : thenQ K Q .ret s := h
theorem thenQ_e {id : Nat} (h : Q (.exit id) s) : thenQ K Q (.exit id) s := h
theorem blkQ_n {id : Nat} (h : Q .normal s) : blkQ id Q .normal s := h
theorem blkQ_r {id : Nat} (h : Q .ret s) : blkQ id Q .ret s := h
theorem blkQ_e {id : Nat} (h : Q .normal s) : blkQ id Q (.exit id) s := by simpa [blkQ] using h
theorem blkQ_o {id id' : Nat} (hne : (id' == id) = false) (h : Q (.exit id') s) : blkQ id Q (.exit id') s := by
  simp only [blkQ]; rw [if_neg (by simpa using hne)]; exact h

theorem retQ_n {rs : List ResultVar} {d : AV} (h : Ret P rs d s) : retQ P rs d .normal s := h
theorem retQ_r {rs : List ResultVar} {d : AV} (h : Ret P rs d s) : retQ P rs d .ret s := h

theorem Ret.data {rs : List ResultVar} {d : AV} {vs : List AV} (h : resVals P s rs = some vs) (he : packA vs = d) (hp : Pu d) : Ret P rs d s := ⟨vs, h, by rw [he]; exact .pu hp⟩
theorem Ret.pub {rs : List ResultVar} {d : AV} {vs : List AV} (h : resVals P s rs = some vs) (hp : Pub s.H 0 (packA vs) d) : Ret P rs d s := ⟨vs, h, hp⟩
end

def WkE (E : Env) : Env → Prop
  | [] => True
  | (t, v) :: r => Le (lk E t) v ∧ WkE E r
theorem WkE.all {E : Env} : ∀ {E2 : Env}, WkE E E2 → ∀ p ∈ E2, Le (lk E p.1) p.2
  | [], _, p, h => by cases h
  | (t, v) :: r, ⟨h1, h2⟩, p, h => by
    rcases List.mem_cons.1 h with rfl | h
    · exact h1
    · exact WkE.all h2 p h
theorem Wk.env' {n : Fr} {E E2 : Env} {H : List ABlk} (h : WkE E E2) : Wk n ⟨E, H⟩ ⟨E2, H⟩ := .env h.all
theorem Le_self (a : AV) : Le a a = True := by simp [Le.refl]
theorem Le_bad (a : AV) : Le a .bad = True := by simp [Le.bad]
theorem Le_ut (a : AV) : Le (.under true a) a = True := by simp [Le.under_true]
attribute [go_sem] WkE Le_self Le_bad Le_ut

def WkP (H : List ABlk) (k : Nat) (E : Env) : Env → Prop
  | [] => True
  | (t, v) :: r => Pub H k (lk E t) v ∧ WkP H k E r
theorem WkP.all {H : List ABlk} {k : Nat} {E : Env} : ∀ {E2 : Env}, WkP H k E E2 → ∀ p ∈ E2, Pub H k (lk E p.1) p.2
  | [], _, p, h => by cases h
  | (t, v) :: r, ⟨h1, h2⟩, p, h => by
    rcases List.mem_cons.1 h with rfl | h
    · exact h1
    · exact WkP.all h2 p h
theorem Wk.trimM {n : Fr} {E E2 : Env} {H H2 : List ABlk} (k : Nat) (hm : n.m ≤ k) (h2 : H.take k = H2) (h : WkP H k E E2) (hc : ∀ blk ∈ H2, ∀ e ∈ blk.es, ∀ c ∈ e.cells, Pub H k c c) : Wk n ⟨E, H⟩ ⟨E2, H2⟩ := by
  subst h2; exact .trim k hm h.all hc
theorem Wk.trim' {nn : Nat} {E E2 : Env} {H H2 : List ABlk} (k : Nat) (h2 : H.take k = H2) (h : WkP H k E E2) (hc : ∀ blk ∈ H2, ∀ e ∈ blk.es, ∀ c ∈ e.cells, Pub H k c c) : Wk (OfNat.ofNat nn) ⟨E, H⟩ ⟨E2, H2⟩ := .trimM k (Nat.zero_le _) h2 h hc

theorem Wk.refl {n : Fr} (s : ASt) : Wk n s s := fun w0 O ι a w h => ⟨ι, h⟩
theorem Wk.trans {n : Fr} {s s2 s3 : ASt} (h : Wk n s s2) (h2 : Wk n s2 s3) : Wk n s s3 := fun w0 O ι a w hs => by
  obtain ⟨ι2, h3⟩ := h w0 O ι a w hs
  exact h2 w0 O ι2 a w h3

theorem wrap_id {x : Int} (h1 : -9223372036854775808 ≤ x) (h2 : x ≤ 9223372036854775807) : IntKind.i64.wrap x = x := by
  exact IntWalk.i64_in _ ⟨h1, h2⟩
theorem wrap_succ {n : Nat} (h : n < 9223372036854775807) : IntKind.i64.wrap ((n : Int) + 1) = ((n + 1 : Nat) : Int) := by
  rw [wrap_id (by omega) (by omega)]; rfl

theorem Fn.intro' {P : Program} {f : FuncId} {fn : Func} {c : Code} {args : List AV} {d : AV} (E : Env) (m n : Nat) (hf : P.funcs[f]? = some fn) (hn : (fn.name == "runtime.NumGoroutine") = false) (hb : fn.body = some c)
    (hm : args.length = m) (hnt : fn.ntmps = n) (ha : Nat.ble m n = true) (hE : args.zipIdx.map (fun (a, i) => (i, a)) = E)
    (h : AWp P (OfNat.ofNat n) c (retQ P fn.results.toList d) ⟨E, []⟩) : Fn P f args d := by
  refine Fn.intro hf hn hb (by rw [hm, hnt]; exact Nat.le_of_ble_eq_true ha) ?_
  rw [hE, hnt]; exact h
theorem FnM.intro' {P : Program} {mm : List (Nat × Obj)} {f : FuncId} {fn : Func} {c : Code} {args : List AV} {d : AV} (E : Env) (m n : Nat) (hf : P.funcs[f]? = some fn) (hn : (fn.name == "runtime.NumGoroutine") = false) (hb : fn.body = some c)
    (hm : args.length = m) (hnt : fn.ntmps = n) (ha : Nat.ble m n = true) (hE : args.zipIdx.map (fun (a, i) => (i, a)) = E)
    (h : AWp P (OfNat.ofNat n) c (retQ P fn.results.toList d) ⟨E ++ [(memSlot, .mem mm)], []⟩) (hms : Nat.ble n memSlot = true := by rfl) : FnM P mm f args d := by
  refine FnM.intro hf hn hb (by rw [hm, hnt]; exact Nat.le_of_ble_eq_true ha) ?_ (by rw [hnt]; exact Nat.le_of_ble_eq_true hms)
  rw [hE, hnt]; exact h
end Go.Ab
namespace Go.Ab
open Go Go.RowKit

def isOne : AV → Bool
  | .base v => v.oneCell'
  | .lst _ | .own _ _ _ _ | .ptr _ _ _ _ | .iptr _ _ | .clo _ _ | .mapv _ => true
  | _ => false
attribute [go_sem] isOne Value.oneCell'

section
variable {P : Program} {w w' : World} {w0 : Base} {O : Nat → Prop} {ι : Nat → Option Nat} {H : List ABlk} {u : Value}

theorem VR.one {c : AV} (h : isOne c = true) (hv : VR w O ι H c u) : u.oneCell' = true ∧ u.cells = #[u] := by
  cases hv <;> first
    | (exact ⟨rfl, rfl⟩)
    | (simp [isOne] at h; done)
    | (cases u <;> simp_all [isOne, Value.oneCell', Value.cells])

def okCells (v : AV) : Bool := match v with
  | .agg cs => cs.all isOne
  | v => isOne v

theorem VR.cells {v : AV} (h : okCells v = true) (hv : VR w O ι H v u) : u.cells.size = v.cells.length ∧ (∀ (j : Nat) (c : AV) (x : Value), v.cells[j]? = some c → u.cells[j]? = some x → VR w O ι H c x) ∧ ∀ x ∈ u.cells, x.oneCell' = true := by
  cases v with
  | agg cs =>
    obtain ⟨arr, rfl, h1, h2⟩ := hv.agg_inv
    refine ⟨h1, h2, fun x hx => ?_⟩
    obtain ⟨j, hj, rfl⟩ := Array.mem_iff_getElem.1 hx
    have hj' : j < cs.length := by rw [← h1]; exact hj
    have hc : cs[j]? = some cs[j] := List.getElem?_eq_getElem hj'
    have hu : arr[j]? = some arr[j] := Array.getElem?_eq_getElem hj
    exact (VR.one (List.all_eq_true.1 h _ (List.getElem_mem hj')) (h2 j _ _ hc hu)).1
  | _ =>
    obtain ⟨h1, h2⟩ := VR.one (c := _) (by simpa [okCells] using h) hv
    rw [h2]
    refine ⟨rfl, fun j c x hc hx => ?_, fun x hx => ?_⟩
    · cases j with
      | zero =>
        simp only [AV.cells, List.getElem?_cons_zero, Option.some.injEq] at hc
        simp at hx
        subst hc; subst hx; exact hv
      | succ j => simp [AV.cells] at hc
    · simp at hx; subst hx; exact h1

def upd (ι : Nat → Option Nat) (b x : Nat) : Nat → Option Nat := fun b' => if b' = b then some x else ι b'
theorem upd_same (ι : Nat → Option Nat) (b x : Nat) : upd ι b x b = some x := if_pos rfl
theorem upd_other {ι : Nat → Option Nat} {b b' x : Nat} (h : b' ≠ b) : upd ι b x b' = ι b' := if_neg h

theorem Sit.newO (hs : Sit w0 O ι H w) (blk : ABlk) (c : Array Value) (ob : Obj) (hob : objRow ob = some (c, blk.ty)) (wd : World) (hwd : Below w.heap.size w wd) (hsz : wd.heap.size = w.heap.size) (h1 : blk.es.length * blk.sz ≤ c.size) (h2 : ∀ e ∈ blk.es, e.cells.length = blk.sz)
    (h3 : ∀ (i j : Nat) (e d : AV), blk.es[i]? = some e → e.cells[j]? = some d → ∃ u, c[i * blk.sz + j]? = some u ∧ VR w (OO O ι H) ι H d u) :
    Sit w0 O (upd ι H.length w.heap.size) (H ++ [blk]) (wd.alloc ob) ∧
    Goes w (OO O ι H) ι H (wd.alloc ob) (OO O (upd ι H.length w.heap.size) (H ++ [blk])) (upd ι H.length w.heap.size) (H ++ [blk]) := by
  have hb : Below w.heap.size w (wd.alloc ob) := hwd.alloc (by omega) _
  have hold : ∀ x, O x → x < w.heap.size := hs.old
  have hinv : ∀ b x, b < (H ++ [blk]).length → upd ι H.length w.heap.size b = some x → (b = H.length ∧ x = w.heap.size) ∨ (b < H.length ∧ ι b = some x) := by
    intro b x hb hx
    by_cases e : b = H.length
    · subst e; rw [upd_same] at hx; injection hx with hx; exact .inl ⟨rfl, hx.symm⟩
    · rw [upd_other e] at hx; exact .inr ⟨by simp at hb; omega, hx⟩
  have hrng : ∀ b x, b < H.length → ι b = some x → x < w.heap.size := fun b x hb hx => (hs.heap b _ x (List.getElem?_eq_getElem hb) hx).2.lt
  have g : Goes w (OO O ι H) ι H (wd.alloc ob) (OO O (upd ι H.length w.heap.size) (H ++ [blk])) (upd ι H.length w.heap.size) (H ++ [blk]) := by
    refine ⟨fun p u _ h => by rw [hb.block p (heap_lt h)]; exact h, fun p u h hc => ?_, fun b bk h => ?_, fun b x bk bk' c' ty fz h1 h2 _ hi h => ?_⟩
    · rintro (ho | ⟨b, hbl, hx⟩)
      · exact h (.inl ho)
      · rcases hinv b _ hbl hx with ⟨_, e⟩ | ⟨h4, h5⟩
        · have := heap_lt hc; omega
        · exact h (.inr ⟨b, h4, h5⟩)
    · have hlt := (List.getElem?_eq_some_iff.1 h).1
      exact ⟨bk, by rw [List.getElem?_append_left hlt]; exact h, Nat.le_refl _, fun _ => ⟨rfl, upd_other (by omega)⟩⟩
    · have hlt : x < w.heap.size := hrng b x (List.getElem?_eq_some_iff.1 h1).1 hi
      exact ⟨c', ty, fz, by rw [hb.block x hlt]; exact h, rfl⟩
  refine ⟨⟨fun b bk x h hx => ?_, fun b bk h hx => ?_, fun b b' x h h' hx hx' => ?_, hs.below.step hb, fun x hx => Nat.lt_of_lt_of_le (hs.old x hx) hb.size, fun x b hO hbl hx => ?_, hs.hist.trans g.grow⟩, g⟩
  · rcases hinv b x (List.getElem?_eq_some_iff.1 h).1 hx with ⟨rfl, rfl⟩ | ⟨h4, h5⟩
    · rw [List.getElem?_append_right (Nat.le_refl _)] at h
      simp at h; subst h
      refine ⟨.inl hs.below.size, c, ?_, h1, h2, fun i j e d he hd => ?_⟩
      · rw [← hsz, rowAt, heap_alloc_new wd _]; exact hob
      · obtain ⟨u, hu, hv⟩ := h3 i j e d he hd
        exact ⟨u, hu, hv.mono g⟩
    · rw [List.getElem?_append_left h4] at h
      obtain ⟨h6, h7⟩ := hs.heap b bk x h h5
      exact ⟨h6, h7.mono g (hb.block x h7.lt)⟩
  · by_cases e : b = H.length
    · subst e; rw [upd_same] at hx; cases hx
    · have hlt : b < H.length := by have := (List.getElem?_eq_some_iff.1 h).1; simp at this; omega
      rw [List.getElem?_append_left hlt] at h
      rw [upd_other e] at hx
      exact hs.empt b bk h hx
  · rcases hinv b x h hx with ⟨rfl, rfl⟩ | ⟨h4, h5⟩
    · rcases hinv b' _ h' hx' with ⟨rfl, _⟩ | ⟨h6, h7⟩
      · rfl
      · have := hrng b' _ h6 h7; omega
    · rcases hinv b' x h' hx' with ⟨rfl, rfl⟩ | ⟨h6, h7⟩
      · have := hrng b _ h4 h5; omega
      · exact hs.inj b b' x h4 h6 h5 h7
  · rcases hinv b x hbl hx with ⟨_, e⟩ | ⟨h4, h5⟩
    · have := hs.old x hO; omega
    · exact hs.disj x b hO h4 h5

theorem Sit.new (hs : Sit w0 O ι H w) (blk : ABlk) (c : Array Value) (hmt : blk.ty < mapTy) (wd : World) (hwd : Below w.heap.size w wd) (hsz : wd.heap.size = w.heap.size) (h1 : blk.es.length * blk.sz ≤ c.size) (h2 : ∀ e ∈ blk.es, e.cells.length = blk.sz)
    (h3 : ∀ (i j : Nat) (e d : AV), blk.es[i]? = some e → e.cells[j]? = some d → ∃ u, c[i * blk.sz + j]? = some u ∧ VR w (OO O ι H) ι H d u) :
    Sit w0 O (upd ι H.length w.heap.size) (H ++ [blk]) (wd.alloc (.cells c blk.ty)) ∧
    Goes w (OO O ι H) ι H (wd.alloc (.cells c blk.ty)) (OO O (upd ι H.length w.heap.size) (H ++ [blk])) (upd ι H.length w.heap.size) (H ++ [blk]) :=
  hs.newO blk c (.cells c blk.ty) (by simp [objRow, hmt]) wd hwd hsz h1 h2 h3

theorem PL.of_run {ρ : Operand → AV} {op : Op} {v : AV} {H' : List ABlk}
    (h : ∀ (w0 : Base) (O : Nat → Prop) (ι : Nat → Option Nat) (a : Act) (w : World), Sit w0 O ι H w → (∀ x, VR w (OO O ι H) ι H (ρ x) (a.eval x)) → ∀ o : Oper, o.op = op →
      ∃ u w' ι' nx, (execOp a.eval o).run P w = .ok nx w' ∧ (nx = .value u ∨ (nx = .skip ∧ u = undef)) ∧ Sit w0 O ι' H' w' ∧ Goes w (OO O ι H) ι H w' (OO O ι' H') ι' H' ∧ VR w' (OO O ι' H') ι' H' v u) : PL P H ρ op v H' := by
  intro o ho w0 O ι a w hs hv K Q hK
  obtain ⟨u, w', ι', nx, hr, hnx, h1, h2, h3⟩ := h w0 O ι a w hs hv o ho
  unfold Oper.wp
  rw [hr]
  rcases hnx with rfl | ⟨rfl, rfl⟩
  · exact hK u w' ι' h1 h2 h3
  · exact hK undef w' ι' h1 h2 h3

theorem pl_box {ρ : Operand → AV} {el : TypeId} {x : Operand} {v : AV} (hx : ρ x = v) (hc : okCells v = true) (hmt : el < mapTy := by decide) : PL P H ρ (.box el x) (.ptr H.length 1 0 0) (H ++ [⟨el, v.cells.length, [v]⟩]) := by
  refine PL.of_run fun w0 O ι a w hs hv o ho => ?_
  have h1 := hv x
  rw [hx] at h1
  obtain ⟨h2, h3, _⟩ := h1.cells hc
  have hcell : ∀ (i j : Nat) (e d : AV), [v][i]? = some e → e.cells[j]? = some d → ∃ u, (a.eval x).cells[i * v.cells.length + j]? = some u ∧ VR w (OO O ι H) ι H d u := by
    intro i j e d he hd
    cases i with
    | zero =>
      simp at he; subst he
      have hj : j < (a.eval x).cells.size := by rw [h2]; exact (List.getElem?_eq_some_iff.1 hd).1
      exact ⟨_, by rw [Nat.zero_mul, Nat.zero_add]; exact Array.getElem?_eq_getElem hj, h3 j d _ hd (Array.getElem?_eq_getElem hj)⟩
    | succ i => simp at he
  obtain ⟨h4, h5⟩ := hs.new ⟨el, v.cells.length, [v]⟩ (a.eval x).cells hmt w (Below.refl _ _) rfl (by simp [h2]) (by simp) hcell
  refine ⟨.pointer (some ⟨w.heap.size, 0, none⟩), _, _, _, ?_, .inl rfl, h4, h5, ?_⟩
  · simp only [execOp, ho, Instr.box, newVar, newRow, Sem.run_bind, run_newObj, World.alloc_eq, Sem.run_pure, Result.andThen_ok]
  · have := VR.ptr (w := w.alloc (.cells (a.eval x).cells el)) (O := OO O (upd ι H.length w.heap.size) (H ++ [⟨el, v.cells.length, [v]⟩])) (ι := upd ι H.length w.heap.size) (H := H ++ [⟨el, v.cells.length, [v]⟩])
      H.length 1 0 0 ⟨el, v.cells.length, [v]⟩ w.heap.size (by simp) rfl (upd_same _ _ _) ⟨_, _, _, heap_alloc_new w _⟩
    simpa using this

def zeroA (P : Program) (t : TypeId) : Option AV := ((P.info? t).bind (·.zero)).map cv

theorem zero_run {t : TypeId} {z : AV} (h : zeroA P t = some z) : ∃ zv, (zeroValue t).run P w = .ok zv w ∧ z = cv zv := by
  unfold zeroA at h
  cases hi : P.info? t with
  | none => simp [hi] at h
  | some i =>
    cases hz : i.zero with
    | none => simp [hi, hz] at h
    | some zv => simp [hi, hz] at h; exact ⟨zv, by simp [zeroValue, typeInfo, hi, hz], h.symm⟩

theorem pl_alloc {ρ : Operand → AV} {el : TypeId} {z : AV} (hz : zeroA P el = some z) (hc : okCells z = true) (hmt : el < mapTy := by decide) : PL P H ρ (.alloc el) (.ptr H.length 1 0 0) (H ++ [⟨el, z.cells.length, [z]⟩]) := by
  refine PL.of_run fun w0 O ι a w hs hv o ho => ?_
  obtain ⟨zv, hr, rfl⟩ := zero_run (w := w) hz
  obtain ⟨h2, h3, _⟩ := (VR.cv w (OO O ι H) ι H zv).cells hc
  have hcell : ∀ (i j : Nat) (e d : AV), [cv zv][i]? = some e → e.cells[j]? = some d → ∃ u, zv.cells[i * (cv zv).cells.length + j]? = some u ∧ VR w (OO O ι H) ι H d u := by
    intro i j e d he hd
    cases i with
    | zero =>
      simp at he; subst he
      have hj : j < zv.cells.size := by rw [h2]; exact (List.getElem?_eq_some_iff.1 hd).1
      exact ⟨_, by rw [Nat.zero_mul, Nat.zero_add]; exact Array.getElem?_eq_getElem hj, h3 j d _ hd (Array.getElem?_eq_getElem hj)⟩
    | succ i => simp at he
  obtain ⟨h4, h5⟩ := hs.new ⟨el, (cv zv).cells.length, [cv zv]⟩ zv.cells hmt w (Below.refl _ _) rfl (by simp [h2]) (by simp) hcell
  refine ⟨.pointer (some ⟨w.heap.size, 0, none⟩), _, _, _, ?_, .inl rfl, h4, h5, ?_⟩
  · simp only [execOp, ho, Instr.alloc, newVar, newRow, hr, Sem.run_bind, run_newObj, World.alloc_eq, Sem.run_pure, Result.andThen_ok]
  · have := VR.ptr (w := w.alloc (.cells zv.cells el)) (O := OO O (upd ι H.length w.heap.size) (H ++ [⟨el, (cv zv).cells.length, [cv zv]⟩])) (ι := upd ι H.length w.heap.size) (H := H ++ [⟨el, (cv zv).cells.length, [cv zv]⟩])
      H.length 1 0 0 ⟨el, (cv zv).cells.length, [cv zv]⟩ w.heap.size (by simp) rfl (upd_same _ _ _) ⟨_, _, _, heap_alloc_new w _⟩
    simpa using this
end
end Go.Ab
