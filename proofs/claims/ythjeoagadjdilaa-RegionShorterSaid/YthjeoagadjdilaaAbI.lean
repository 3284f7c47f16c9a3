/- Operations with a condition of their own: calls, indexes, slices, struct literals. -/
import Derived.Test.YthjeoagadjdilaaAbH
set_option linter.unusedSimpArgs false
set_option linter.unusedVariables false
namespace Go.Ab
open Go Go.RowKit
set_option linter.unusedVariables false

section
variable {P : Program} {H : List ABlk} {ρ : Operand → AV}

theorem ql_call {c : Call} {fx : Operand} {f : FuncId} {caps : List AV} {d : AV} (hc : c.callee = .value fx)
    (hf : ρ fx = .clo f caps) (hp : ∀ a ∈ c.args.toList.map ρ ++ caps, Pu a) (h : Fn P f (c.args.toList.map ρ ++ caps) d) : QL P H ρ (.call c) d :=
  fun o ho => q_call ho hc hf hp h

theorem ql_fun {op : Op} {v : AV} (h : qfun P H ρ op = some v) : QL P H ρ op v := fun o ho => qfun_sound (by rw [ho]; exact h)

theorem QL.of_run {op : Op} {v : AV}
    (h : ∀ (w0 : World) (O : Nat → Prop) (ι : Nat → Option Nat) (a : Act) (w : World), Sit w0 O ι H w →
      (∀ x, x ∈ op.operands → VR w (OO O ι H) ι H (ρ x) (a.eval x)) → ∀ o : Oper, o.op = op → ∃ u, (execOp a.eval o).run P w = .ok (.value u) w ∧ VR w (OO O ι H) ι H v u) : QL P H ρ op v :=
  fun o ho => QOp.of_run fun w0 O ι a w hs hv => h w0 O ι a w hs (by rw [← ho]; exact hv) o ho

theorem sizeOf_run {w : World} {t : TypeId} {n : Nat} (h : szTy P t = some n) : (sizeOf t).run P w = .ok n w := by
  unfold szTy at h
  cases hi : P.info? t with
  | none => simp [hi] at h
  | some i => simp [hi] at h; simp [sizeOf, typeInfo, hi, h]

theorem add_eq (a : Addr) (n : Nat) (h : a.spot = none) : a.add n = ⟨a.block, a.off + n, none⟩ := by
  unfold Addr.add
  split
  · rename_i h0; cases a; simp_all
  · rfl

theorem ql_indexAddr_lst {t el : TypeId} {x i : Operand} {k : IntKind} {n : Int} {es : List AV} {e : AV} (hx : ρ x = .lst es) (hi : ρ i = .base (.int k n)) (ht : P.underlying t = some (.slice el))
    (h0 : 0 ≤ n) (he : es[n.toNat]? = some e) (hsz : szTy P el = some e.cells.length) : QL P H ρ (.indexAddr t x i) (.iptr e 0) := by
  refine QL.of_run fun w0 O ι a w hs hv o ho => ?_
  have h1 := hv x (by simp [Op.operands])
  have h2 := hv i (by simp [Op.operands])
  rw [hx] at h1
  rw [hi] at h2
  have h2 := h2.base_inv
  generalize hX : a.eval x = X at h1
  have hlt : n.toNat < es.length := (List.getElem?_eq_some_iff.1 he).1
  cases h1 with
  | lnil => simp at hlt
  | lst es ad m cap s val hn hcap hmax hlen hspot hc hvv =>
    have hmem : e ∈ es := List.mem_of_getElem? he
    have hs' := hlen e hmem
    have hsp := hspot e hmem
    refine ⟨.pointer (some (ad.add (n.toNat * e.cells.length))), ?_, ?_⟩
    · have hb : 0 ≤ n ∧ n < (m : Int) := ⟨h0, by omega⟩
      simp only [execOp, ho, hX, h2, Instr.indexAt, asIntOf_run, run_underlying ht, sizeOf_run hsz, Sem.run_bind, Sem.run_pure, Result.andThen_ok, Sem.run_ite, if_pos hb]
    · rw [add_eq _ _ hsp]
      refine .iptr e 0 _ (val n.toNat) rfl (Nat.zero_le _) (fun j c hj => ?_) fun j c hj => hvv _ _ _ _ he hj
      have := hc _ _ _ _ he hj
      rw [hs']
      exact this

theorem ql_indexAddr_own {t el : TypeId} {x i : Operand} {k : IntKind} {n : Int} {b tot off len : Nat} {blk : ABlk} (hx : ρ x = .own b tot off len) (hi : ρ i = .base (.int k n)) (ht : P.underlying t = some (.slice el))
    (hb : H[b]? = some blk) (htot : blk.es.length = tot) (h0 : 0 ≤ n) (hn : n < len) (hsz : szTy P el = some blk.sz) : QL P H ρ (.indexAddr t x i) (.ptr b tot (off + n.toNat) 0) := by
  refine QL.of_run fun w0 O ι a w hs hv o ho => ?_
  have h1 := hv x (by simp [Op.operands])
  have h2 := hv i (by simp [Op.operands])
  rw [hx] at h1
  rw [hi] at h2
  have h2 := h2.base_inv
  generalize hX : a.eval x = X at h1
  cases h1 with
  | staleOwn b tot off len blk' a n c hb' hlt => rw [hb] at hb'; cases hb'; omega
  | ownNil b blk' hb' he hi' => omega
  | own b tot off len blk' y m cap ad hb' ht' hi' hn' hl hcap ha =>
    rw [hb] at hb'; cases hb'
    obtain ⟨rfl, _⟩ := ha (.inl (by omega))
    refine ⟨.pointer (some ⟨y, off * blk.sz + n.toNat * blk.sz, none⟩), ?_, ?_⟩
    · have hbd : 0 ≤ n ∧ n < (m : Int) := ⟨h0, by omega⟩
      have hadd := add_eq ⟨y, off * blk.sz, none⟩ (n.toNat * blk.sz) rfl
      simp only [execOp, ho, hX, h2, Instr.indexAt, asIntOf_run, run_underlying ht, sizeOf_run hsz, Sem.run_bind, Sem.run_pure, Result.andThen_ok, Sem.run_ite, if_pos hbd, hadd]
    · rw [← Nat.add_mul]
      exact .ptr b tot (off + n.toNat) 0 blk y hb ht' hi'

theorem ql_indexAddr_iptr {t el : TypeId} {x i : Operand} {k : IntKind} {n : Int} {e : AV} {off len sz : Nat} (hx : ρ x = .iptr e off) (hi : ρ i = .base (.int k n)) (ht : P.underlying t = some (.array len el))
    (h0 : 0 ≤ n) (hn : n < len) (hsz : szTy P el = some sz) : QL P H ρ (.indexAddr t x i) (.iptr e (off + n.toNat * sz)) := by
  refine QL.of_run fun w0 O ι a w hs hv o ho => ?_
  have h1 := hv x (by simp [Op.operands])
  have h2 := hv i (by simp [Op.operands])
  rw [hx] at h1
  rw [hi] at h2
  have h2 := h2.base_inv
  generalize hX : a.eval x = X at h1
  cases h1 with
  | iptr e off ad val hsp hoff hc hvv =>
    refine ⟨.pointer (some ⟨ad.block, ad.off + n.toNat * sz, none⟩), ?_, ?_⟩
    · have hbd : 0 ≤ n ∧ n < (len : Int) := ⟨h0, hn⟩
      have hadd := add_eq ad (n.toNat * sz) hsp
      simp only [execOp, ho, hX, h2, Instr.indexAt, asIntOf_run, run_underlying ht, sizeOf_run hsz, Sem.run_bind, Sem.run_pure, Result.andThen_ok, Sem.run_ite, if_pos hbd, hadd, Instr.sureAddr]
    · exact .iptr e _ _ val rfl (by simp; omega) (fun j c hj => by have := hc j c hj; rw [show ad.off + n.toNat * sz - (off + n.toNat * sz) = ad.off - off by omega]; exact this) hvv

theorem ql_indexAddr_ptr {t el : TypeId} {x i : Operand} {k : IntKind} {n : Int} {b tot i0 off len sz : Nat} (hx : ρ x = .ptr b tot i0 off) (hf : fresh H b tot = true) (hi : ρ i = .base (.int k n)) (ht : P.underlying t = some (.array len el))
    (h0 : 0 ≤ n) (hn : n < len) (hsz : szTy P el = some sz) : QL P H ρ (.indexAddr t x i) (.ptr b tot i0 (off + n.toNat * sz)) := by
  refine QL.of_run fun w0 O ι a w hs hv o ho => ?_
  have h1 := hv x (by simp [Op.operands])
  have h2 := hv i (by simp [Op.operands])
  rw [hx] at h1
  rw [hi] at h2
  have h2 := h2.base_inv
  obtain ⟨y, blk, hy, hb, ht', hX⟩ := h1.ptr_fresh hf
  refine ⟨.pointer (some ⟨y, i0 * blk.sz + (off + n.toNat * sz), none⟩), ?_, .ptr b tot i0 _ blk y hb ht' hy⟩
  have hbd : 0 ≤ n ∧ n < (len : Int) := ⟨h0, hn⟩
  have hadd := add_eq ⟨y, i0 * blk.sz + off, none⟩ (n.toNat * sz) rfl
  simp only [execOp, ho, hX, h2, Instr.indexAt, asIntOf_run, run_underlying ht, sizeOf_run hsz, Sem.run_bind, Sem.run_pure, Result.andThen_ok, Sem.run_ite, if_pos hbd, hadd, Instr.sureAddr, Nat.add_assoc]

theorem ql_index_arr {t el : TypeId} {x i : Operand} {k : IntKind} {n : Int} {cs : List AV} {v : AV} {len sz : Nat} (hx : ρ x = .agg cs) (hi : ρ i = .base (.int k n)) (ht : P.underlying t = some (.array len el))
    (h0 : 0 ≤ n) (hn : n < len) (hsz : szTy P el = some sz) (hv' : ldE (aggTy P el) (some sz) (.agg cs) (n.toNat * sz) = some v) : QL P H ρ (.index t x i) v := by
  refine QL.of_run fun w0 O ι a w hs hv o ho => ?_
  have h1 := hv x (by simp [Op.operands])
  have h2 := hv i (by simp [Op.operands])
  rw [hx] at h1
  rw [hi] at h2
  have h2 := h2.base_inv
  obtain ⟨arr, hX, h3, h4⟩ := h1.agg_inv
  obtain ⟨u, hr, hvu⟩ := part_run (P := P) h3 h4 (by rw [hsz]; exact hv')
  have hbd : 0 ≤ n ∧ n < (len : Int) := ⟨h0, hn⟩
  exact ⟨u, by simp only [execOp, ho, hX, h2, Instr.index, asIntOf_run, run_underlying ht, sizeOf_run hsz, Sem.run_bind, Sem.run_pure, Result.andThen_ok, Sem.run_ite, if_pos hbd, hr], hvu⟩

theorem ql_index_str {t : TypeId} {x i : Operand} {k : IntKind} {n : Int} {s : ByteArray} {c : UInt8} (hx : ρ x = .base (.string s)) (hi : ρ i = .base (.int k n)) (ht : P.underlying t = some .string)
    (h0 : 0 ≤ n) (hc : s[n.toNat]? = some c) : QL P H ρ (.index t x i) (.base (.int .u8 c.toNat)) := by
  refine QL.of_run fun w0 O ι a w hs hv o ho => ?_
  have h1 := hv x (by simp [Op.operands])
  have h2 := hv i (by simp [Op.operands])
  rw [hx] at h1
  rw [hi] at h2
  have h2 := h2.base_inv
  have h1 := h1.base_inv
  exact ⟨_, by simp only [execOp, ho, h1, h2, Instr.index, asIntOf_run, run_underlying ht, Sem.run_bind, Sem.run_pure, Result.andThen_ok, if_pos h0, hc], .base _⟩

/-! ### slices -/
def bnd (ρ : Operand → AV) (d : Nat) : Option Operand → Option Nat
  | none => some d
  | some x => match ρ x with
    | .base (.int _ n) => if 0 ≤ n then some n.toNat else none
    | _ => none

theorem sliceBound_run {w : World} {k : IntKind} {n : Int} {y : Nat} {code : BoundsCode} (h0 : 0 ≤ n) (h : n ≤ y) : (Instr.sliceBound (.int k n) y code).run P w = .ok n.toNat w := by
  simp only [Instr.sliceBound, asIntOf_run, Sem.run_bind, Result.andThen_ok, Sem.run_ite, if_pos (And.intro h0 h), Sem.run_pure]

theorem sliceBounds_run {w : World} {a : Act} {O : Nat → Prop} {ι : Nat → Option Nat} {isSl : Bool} {len cap l h : Nat} {lo hi : Option Operand} (hv : ∀ x, (lo = some x ∨ hi = some x) → VR w O ι H (ρ x) (a.eval x))
    (hlo : bnd ρ 0 lo = some l) (hhi : bnd ρ len hi = some h) (hlh : l ≤ h) (hc : h ≤ cap) : (Instr.sliceBounds isSl len cap (lo.map a.eval) (hi.map a.eval) none).run P w = .ok (l, h, cap) w := by
  have hl : ∀ x, lo = some x → ∃ k n, a.eval x = .int k n ∧ 0 ≤ n ∧ l = n.toNat := by
    intro x hx
    subst hx
    simp only [bnd] at hlo
    split at hlo
    · rename_i k n hρ
      split at hlo
      · rename_i h0
        injection hlo with hlo
        have := hv x (.inl rfl); rw [hρ] at this
        exact ⟨k, n, this.base_inv, h0, hlo.symm⟩
      · cases hlo
    · cases hlo
  have hh : ∀ x, hi = some x → ∃ k n, a.eval x = .int k n ∧ 0 ≤ n ∧ h = n.toNat := by
    intro x hx
    subst hx
    simp only [bnd] at hhi
    split at hhi
    · rename_i k n hρ
      split at hhi
      · rename_i h0
        injection hhi with hhi
        have := hv x (.inr rfl); rw [hρ] at this
        exact ⟨k, n, this.base_inv, h0, hhi.symm⟩
      · cases hhi
    · cases hhi
  unfold Instr.sliceBounds
  cases hi with
  | none =>
    simp only [bnd] at hhi
    injection hhi with hhi
    cases lo with
    | none =>
      simp only [bnd] at hlo
      injection hlo with hlo
      subst hlo; subst hhi
      simp only [Option.map_none, Sem.run_bind, Sem.run_pure, Result.andThen_ok]
    | some x =>
      obtain ⟨k, n, h1, h2, h3⟩ := hl x rfl
      subst hhi; subst h3
      simp only [Option.map_none, Option.map_some, Sem.run_bind, Sem.run_pure, Result.andThen_ok, h1, sliceBound_run h2 (show n ≤ (len : Int) by omega)]
  | some y =>
    obtain ⟨k', n', h1', h2', h3'⟩ := hh y rfl
    subst h3'
    cases lo with
    | none =>
      simp only [bnd] at hlo
      injection hlo with hlo
      subst hlo
      simp only [Option.map_none, Option.map_some, Sem.run_bind, Sem.run_pure, Result.andThen_ok, h1', sliceBound_run h2' (show n' ≤ (cap : Int) by omega)]
    | some x =>
      obtain ⟨k, n, h1, h2, h3⟩ := hl x rfl
      subst h3
      simp only [Option.map_some, Sem.run_bind, Sem.run_pure, Result.andThen_ok, h1, h1', sliceBound_run h2' (show n' ≤ (cap : Int) by omega), sliceBound_run h2 (show n ≤ (n'.toNat : Int) by omega)]

theorem ql_slice_lst {t el : TypeId} {x : Operand} {lo hi : Option Operand} {es : List AV} {l h sz : Nat} (hx : ρ x = .lst es) (ht : P.underlying t = some (.slice el)) (hlo : bnd ρ 0 lo = some l) (hhi : bnd ρ es.length hi = some h)
    (hlh : l ≤ h) (hh : h ≤ es.length) (hsz : szTy P el = some sz) (hes : ∀ e ∈ es, e.cells.length = sz) : QL P H ρ (.slice t x lo hi none) (.lst ((es.drop l).take (h - l))) := by
  refine QL.of_run fun w0 O ι a w hs hv o ho => ?_
  have h1 := hv x (by simp [Op.operands])
  have hv2 : ∀ y, (lo = some y ∨ hi = some y) → VR w (OO O ι H) ι H (ρ y) (a.eval y) := by
    rintro y (rfl | rfl) <;> exact hv y (by simp [Op.operands])
  rw [hx] at h1
  generalize hX : a.eval x = X at h1
  cases h1 with
  | lnil =>
    simp only [List.length_nil] at hhi hh
    have hr := sliceBounds_run (P := P) (cap := 0) (isSl := true) hv2 hlo hhi hlh (by omega)
    have : l = 0 := by omega
    have : h = 0 := by omega
    subst l; subst h
    refine ⟨.slice none 0 0, ?_, by simpa using VR.lnil⟩
    simp only [execOp, ho, hX, Instr.sliceAt, run_underlying ht, Instr.slice, Option.map_none, hr, sizeOf_run hsz, Sem.run_bind, Sem.run_pure, Result.andThen_ok, if_true, Nat.sub_zero]
  | lst es ad m cap s val hn hcap hmax hlen hspot hc hvv =>
    subst hn
    have hr := sliceBounds_run (P := P) (cap := cap) (isSl := true) hv2 hlo hhi hlh (by omega)
    have hmem : ∀ e, e ∈ (es.drop l).take (h - l) → e ∈ es := fun e he => List.mem_of_mem_drop (List.mem_of_mem_take he)
    have hget : ∀ i e, ((es.drop l).take (h - l))[i]? = some e → es[l + i]? = some e := by
      intro i e he
      rw [List.getElem?_take] at he
      split at he
      · rwa [List.getElem?_drop] at he
      · cases he
    by_cases hcl : cap = l
    · refine ⟨.slice (some ad) (h - l) (cap - l), ?_, ?_⟩
      · simp only [execOp, ho, hX, Instr.sliceAt, run_underlying ht, Instr.slice, Option.map_none, hr, sizeOf_run hsz, Sem.run_bind, Sem.run_pure, Result.andThen_ok, if_pos hcl]
      · have : (es.drop l).take (h - l) = [] := by simp; omega
        rw [this]
        exact .lst [] ad _ _ 0 (fun _ _ => undef) (by simp; omega) (by omega) (by have : 0 ≤ maxLen := Nat.zero_le _; omega) (by simp) (by simp) (by simp) (by simp)
    · refine ⟨.slice (some (ad.add (l * sz))) (h - l) (cap - l), ?_, ?_⟩
      · simp only [execOp, ho, hX, Instr.sliceAt, run_underlying ht, Instr.slice, Option.map_none, hr, sizeOf_run hsz, Sem.run_bind, Sem.run_pure, Result.andThen_ok, if_neg hcl, Option.map_some]
      · refine .lst _ _ _ _ sz (fun i j => val (l + i) j) (by simp; omega) (by omega) (by omega) (fun e he => hes e (hmem e he)) (fun e he => ?_) (fun i j e c he hj => ?_) fun i j e c he hj => hvv _ _ _ _ (hget i e he) hj
        · rw [add_eq _ _ (hspot e (hmem e he))]
        · have he' := hget i e he
          have hs' : s = sz := by rw [← hlen e (List.mem_of_getElem? he'), hes e (List.mem_of_getElem? he')]
          have := hc _ _ _ _ he' hj
          rw [add_eq _ _ (hspot e (List.mem_of_getElem? he'))]
          rw [hs', Nat.add_mul, ← Nat.add_assoc] at this
          exact this

theorem ql_slice_str {t : TypeId} {x : Operand} {lo hi : Option Operand} {s : ByteArray} {l h : Nat} (hx : ρ x = .base (.string s)) (ht : P.underlying t = some .string) (hlo : bnd ρ 0 lo = some l) (hhi : bnd ρ s.size hi = some h)
    (hlh : l ≤ h) (hh : h ≤ s.size) : QL P H ρ (.slice t x lo hi none) (.base (.string (s.extract l h))) := by
  refine QL.of_run fun w0 O ι a w hs hv o ho => ?_
  have h1 := hv x (by simp [Op.operands])
  have hv2 : ∀ y, (lo = some y ∨ hi = some y) → VR w (OO O ι H) ι H (ρ y) (a.eval y) := by
    rintro y (rfl | rfl) <;> exact hv y (by simp [Op.operands])
  rw [hx] at h1
  have h1 := h1.base_inv
  have hr := sliceBounds_run (P := P) (cap := s.size) (isSl := false) hv2 hlo hhi hlh hh
  exact ⟨_, by simp only [execOp, ho, h1, Instr.sliceAt, run_underlying ht, Instr.slice, Option.map_none, Option.isSome_none, Bool.false_eq_true, if_false, hr, Sem.run_bind, Sem.run_pure, Result.andThen_ok], .base _⟩

theorem ql_slice_nil {t el : TypeId} {x : Operand} {lo hi : Option Operand} {sz : Nat} (hx : ρ x = .base (.slice none 0 0)) (ht : P.underlying t = some (.slice el)) (hlo : bnd ρ 0 lo = some 0) (hhi : bnd ρ 0 hi = some 0) (hsz : szTy P el = some sz) :
    QL P H ρ (.slice t x lo hi none) (.base (.slice none 0 0)) := by
  refine QL.of_run fun w0 O ι a w hs hv o ho => ?_
  have h1 := hv x (by simp [Op.operands])
  have hv2 : ∀ y, (lo = some y ∨ hi = some y) → VR w (OO O ι H) ι H (ρ y) (a.eval y) := by
    rintro y (rfl | rfl) <;> exact hv y (by simp [Op.operands])
  rw [hx] at h1
  have h1 := h1.base_inv
  have hr := sliceBounds_run (P := P) (cap := 0) (isSl := true) hv2 hlo hhi (Nat.le_refl _) (Nat.le_refl _)
  exact ⟨_, by simp only [execOp, ho, h1, Instr.sliceAt, run_underlying ht, Instr.slice, Option.map_none, hr, sizeOf_run hsz, Sem.run_bind, Sem.run_pure, Result.andThen_ok, if_true, Nat.sub_zero], .base _⟩
end
end Go.Ab
