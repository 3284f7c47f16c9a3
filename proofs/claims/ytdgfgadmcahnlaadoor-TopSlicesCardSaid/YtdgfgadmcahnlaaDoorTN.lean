/- Part of the proof. -/
import Derived.Test.YtdgfgadmcahnlaaDoorLW24
import Derived.Test.YtdgfgadmcahnlaaDoorAbL
set_option linter.unusedSimpArgs false
set_option linter.unusedVariables false
set_option maxHeartbeats 4000000
namespace Go.Ab
open Go Go.Ab Go.Proofs Go.Ab.Ty

/-! ### the document's bytes of a character -/
def cv8 : AV → Option AV
  | .base (.int _ n) => some (.base (.int .u8 (IntKind.u8.wrap n)))
  | _ => none
theorem qfun_conv35 (H : List ABlk) (ρ : Operand → AV) (x : Operand) : qfun Tryd.prog H ρ (.convert 3 5 x) = cv8 (ρ x) := by
  simp only [qfun, Tryd.underlying3, Tryd.underlying5]
  generalize ρ x = a
  cases a with
  | base v => cases v <;> rfl
  | _ => rfl
theorem ql_conv35 {H : List ABlk} {ρ : Operand → AV} {x : Operand} {n : Int} (hx : ρ x = .base (.int .i64 n)) : QL Tryd.prog H ρ (.convert 3 5 x) (.base (.int .u8 (IntKind.u8.wrap n))) := ql_fun (by rw [qfun_conv35, hx]; rfl)
theorem u8w {x : Nat} (h : x < 256) : IntKind.u8.wrap (x : Int) = (x : Int) := by
  have : IntKind.u8.wrap (x : Int) = (x : Int) % 256 := rfl
  rw [this]; omega
theorem and63 (x : Nat) (hx : x < 2000000) : IntKind.i64.wrap ((BitVec.ofInt 64 (x : Int) &&& BitVec.ofInt 64 63).toNat : Int) = ((x % 64 : Nat) : Int) := by
  have e : (BitVec.ofInt 64 (x : Int) &&& BitVec.ofInt 64 63).toNat = x % 64 := by
    rw [show (63 : Int) = ((2 ^ 6 - 1 : Nat) : Int) from rfl, BitVec.toNat_and, BitVec.ofInt_natCast, BitVec.ofInt_natCast, BitVec.toNat_ofNat, BitVec.toNat_ofNat, Nat.mod_eq_of_lt (by omega), Nat.mod_eq_of_lt (a := 2 ^ 6 - 1) (by omega), Nat.and_two_pow_sub_one_eq_mod]
  rw [e]; exact wrap_id (by omega) (by omega)
theorem orN (m k x : Nat) (hx : x < 2 ^ k) (h : 2 ^ k * m + x < 256) : IntKind.i64.wrap ((BitVec.ofInt 64 ((2 ^ k * m : Nat) : Int) ||| BitVec.ofInt 64 (x : Int)).toNat : Int) = ((2 ^ k * m + x : Nat) : Int) := by
  have e : (BitVec.ofInt 64 ((2 ^ k * m : Nat) : Int) ||| BitVec.ofInt 64 (x : Int)).toNat = 2 ^ k * m + x := by
    rw [BitVec.toNat_or, BitVec.ofInt_natCast, BitVec.ofInt_natCast, BitVec.toNat_ofNat, BitVec.toNat_ofNat, Nat.mod_eq_of_lt (by omega), Nat.mod_eq_of_lt (a := x) (by omega)]
    exact (Nat.two_pow_add_eq_or_of_lt hx m).symm
  rw [e, wrap_id (by omega) (by omega)]
theorem shr6 (c : Nat) : (c : Int).fdiv (2 ^ min (Int.toNat 6) 64) = ((c / 64 : Nat) : Int) := by
  show (c : Int).fdiv 64 = _
  rw [Int.fdiv_eq_ediv_of_nonneg _ (by omega)]; omega
theorem shr12 (c : Nat) : (c : Int).fdiv (2 ^ min (Int.toNat 12) 64) = ((c / 4096 : Nat) : Int) := by
  show (c : Int).fdiv 4096 = _
  rw [Int.fdiv_eq_ediv_of_nonneg _ (by omega)]; omega
theorem shr18 (c : Nat) : (c : Int).fdiv (2 ^ min (Int.toNat 18) 64) = ((c / 262144 : Nat) : Int) := by
  show (c : Int).fdiv 262144 = _
  rw [Int.fdiv_eq_ediv_of_nonneg _ (by omega)]; omega
section
variable {H : List ABlk} {E : Env} {t : Nat} {c : Nat}
theorem ql_cv8 (hx : lk E t = .int c) (h : c < 256) : QL Tryd.prog H (ev E) (.convert 3 5 (.tmp t)) (.base (.int .u8 c)) := by
  have := ql_conv35 (H := H) (ρ := ev E) (x := .tmp t) hx
  rwa [u8w h] at this
theorem ql_and63 (hx : lk E t = .int c) (h : c < 2000000) : QL Tryd.prog H (ev E) (.binOp .and 3 (.tmp t) (.const (.int .i64 63)) 3) (.int (c % 64 : Nat)) := by
  have e := and63 c h
  refine ql_fun ?_
  simp +decide only [go_sem, hx]
  exact congrArg (fun z => some (AV.base (.int .i64 z))) e
theorem ql_shr6 (hx : lk E t = .int c) : QL Tryd.prog H (ev E) (.binOp .shr 3 (.tmp t) (.const (.int .u64 6)) 74) (.int (c / 64 : Nat)) := by
  refine ql_fun ?_
  simp +decide only [go_sem, hx]
  exact congrArg (fun z => some (AV.base (.int .i64 z))) (shr6 c)
theorem ql_shr12 (hx : lk E t = .int c) : QL Tryd.prog H (ev E) (.binOp .shr 3 (.tmp t) (.const (.int .u64 12)) 74) (.int (c / 4096 : Nat)) := by
  refine ql_fun ?_
  simp +decide only [go_sem, hx]
  exact congrArg (fun z => some (AV.base (.int .i64 z))) (shr12 c)
theorem ql_shr18 (hx : lk E t = .int c) : QL Tryd.prog H (ev E) (.binOp .shr 3 (.tmp t) (.const (.int .u64 18)) 74) (.int (c / 262144 : Nat)) := by
  refine ql_fun ?_
  simp +decide only [go_sem, hx]
  exact congrArg (fun z => some (AV.base (.int .i64 z))) (shr18 c)
theorem ql_or128 (hx : lk E t = .int c) (h : c < 64) : QL Tryd.prog H (ev E) (.binOp .or 3 (.const (.int .i64 128)) (.tmp t) 3) (.int (128 + c : Nat)) := by
  refine ql_fun ?_
  simp +decide only [go_sem, hx]
  exact congrArg (fun z => some (AV.base (.int .i64 z))) (orN 2 6 c (by omega) (by omega))
theorem ql_or192 (hx : lk E t = .int c) (h : c < 32) : QL Tryd.prog H (ev E) (.binOp .or 3 (.const (.int .i64 192)) (.tmp t) 3) (.int (192 + c : Nat)) := by
  refine ql_fun ?_
  simp +decide only [go_sem, hx]
  exact congrArg (fun z => some (AV.base (.int .i64 z))) (orN 6 5 c (by omega) (by omega))
theorem ql_or224 (hx : lk E t = .int c) (h : c < 16) : QL Tryd.prog H (ev E) (.binOp .or 3 (.const (.int .i64 224)) (.tmp t) 3) (.int (224 + c : Nat)) := by
  refine ql_fun ?_
  simp +decide only [go_sem, hx]
  exact congrArg (fun z => some (AV.base (.int .i64 z))) (orN 14 4 c (by omega) (by omega))
theorem ql_or240 (hx : lk E t = .int c) (h : c < 8) : QL Tryd.prog H (ev E) (.binOp .or 3 (.const (.int .i64 240)) (.tmp t) 3) (.int (240 + c : Nat)) := by
  refine ql_fun ?_
  simp +decide only [go_sem, hx]
  exact congrArg (fun z => some (AV.base (.int .i64 z))) (orN 30 3 c (by omega) (by omega))
end
theorem und82 : Tryd.prog.underlying 82 = some (.slice 5) := by kernel_rfl
theorem und5 : Tryd.prog.underlying 5 = some (.int .u8) := by kernel_rfl
theorem Pu_u8L (l : List Int) : Pu (.lst (l.map fun n => .base (.int .u8 n))) := .lst fun e he c hc => by
  obtain ⟨x, _, rfl⟩ := List.mem_map.1 he
  simp only [AV.cells, List.mem_singleton] at hc
  subst hc; exact .base _
theorem bytes_ok (c : Nat) (hc : c < 0x110000) (hv : Utf8.valid c = true) : Fn Tryd.prog 94 [.int c] (str (Utf8.encode c)) := by
  obtain ⟨R, hR⟩ : ∃ R, R = Utf8.encode (c : Int) := ⟨_, rfl⟩
  rw [← hR]
  unfold Utf8.encode at hR
  rw [if_pos hv, Int.toNat_natCast] at hR
  refine Fn.intro' [(0, .int c)] 1 61 Tryd.func94 (by kernel_rfl) rfl rfl rfl rfl rfl ?_
  refine goB ?_
  refine ifA (fun h1 => ?_) (fun h1 => ?_)
  · have h1 := of_decide_eq_true h1
    rw [if_pos (by omega)] at hR
    refine zs ?_
    (with_reducible apply zR); (refine ⟨rfl, rfl, ?_⟩; simp +decide only [go_sem, List.map]; rfl)
    refine ARun.q1 rfl rfl (ql_fun (by simp +decide only [go_sem] <;> rfl)) ?_
    refine ARun.q1 rfl rfl (ql_cv8 (by simp +decide only [go_sem] <;> rfl) (by omega)) ?_
    refine goB ?_
    refine ARun.q1 rfl rfl (ql_bytesStrL (l := [((c : Nat) : Int)]) (by simp +decide only [go_sem] <;> rfl) (.pu (Pu_u8L [((c : Nat) : Int)])) und82 und5 Tryd.underlying9) ?_
    refine goB ?_
    exact Ret.data rfl (by rw [hR]; rfl) (.base _)
  have h1 := of_decide_eq_false h1
  rw [if_neg (by omega)] at hR
  refine goB ?_
  refine ifA (fun h2 => ?_) (fun h2 => ?_)
  · have h2 := of_decide_eq_true h2
    rw [if_pos (by omega)] at hR
    refine zs ?_
    (with_reducible apply zR); (refine ⟨rfl, rfl, ?_⟩; simp +decide only [go_sem, List.map]; rfl)
    refine ARun.q1 rfl rfl (ql_fun (by simp +decide only [go_sem] <;> rfl)) ?_
    refine ARun.q1 rfl rfl (ql_shr6 (by simp +decide only [go_sem] <;> rfl)) ?_
    refine ARun.q1 rfl rfl (ql_or192 (by simp +decide only [go_sem] <;> rfl) (by omega)) ?_
    refine ARun.q1 rfl rfl (ql_cv8 (by simp +decide only [go_sem] <;> rfl) (by omega)) ?_
    refine ARun.q1 rfl rfl (ql_fun (by simp +decide only [go_sem] <;> rfl)) ?_
    refine ARun.q1 rfl rfl (ql_and63 (by simp +decide only [go_sem] <;> rfl) (by omega)) ?_
    refine ARun.q1 rfl rfl (ql_or128 (by simp +decide only [go_sem] <;> rfl) (by omega)) ?_
    refine ARun.q1 rfl rfl (ql_cv8 (by simp +decide only [go_sem] <;> rfl) (by omega)) ?_
    refine goB ?_
    refine ARun.q1 rfl rfl (ql_bytesStrL (l := [((192 + c / 64 : Nat) : Int), ((128 + c % 64 : Nat) : Int)]) (by simp +decide only [go_sem] <;> rfl) (.pu (Pu_u8L [((192 + c / 64 : Nat) : Int), ((128 + c % 64 : Nat) : Int)])) und82 und5 Tryd.underlying9) ?_
    refine goB ?_
    exact Ret.data rfl (by rw [hR]; rfl) (.base _)
  have h2 := of_decide_eq_false h2
  rw [if_neg (by omega)] at hR
  refine goB ?_
  refine ifA (fun h3 => ?_) (fun h3 => ?_)
  · have h3 := of_decide_eq_true h3
    rw [if_pos (by omega)] at hR
    refine zs ?_
    (with_reducible apply zR); (refine ⟨rfl, rfl, ?_⟩; simp +decide only [go_sem, List.map]; rfl)
    refine ARun.q1 rfl rfl (ql_fun (by simp +decide only [go_sem] <;> rfl)) ?_
    refine ARun.q1 rfl rfl (ql_shr12 (by simp +decide only [go_sem] <;> rfl)) ?_
    refine ARun.q1 rfl rfl (ql_or224 (by simp +decide only [go_sem] <;> rfl) (by omega)) ?_
    refine ARun.q1 rfl rfl (ql_cv8 (by simp +decide only [go_sem] <;> rfl) (by omega)) ?_
    refine ARun.q1 rfl rfl (ql_fun (by simp +decide only [go_sem] <;> rfl)) ?_
    refine ARun.q1 rfl rfl (ql_shr6 (by simp +decide only [go_sem] <;> rfl)) ?_
    refine ARun.q1 rfl rfl (ql_and63 (by simp +decide only [go_sem] <;> rfl) (by omega)) ?_
    refine ARun.q1 rfl rfl (ql_or128 (by simp +decide only [go_sem] <;> rfl) (by omega)) ?_
    refine ARun.q1 rfl rfl (ql_cv8 (by simp +decide only [go_sem] <;> rfl) (by omega)) ?_
    refine ARun.q1 rfl rfl (ql_fun (by simp +decide only [go_sem] <;> rfl)) ?_
    refine ARun.q1 rfl rfl (ql_and63 (by simp +decide only [go_sem] <;> rfl) (by omega)) ?_
    refine ARun.q1 rfl rfl (ql_or128 (by simp +decide only [go_sem] <;> rfl) (by omega)) ?_
    refine ARun.q1 rfl rfl (ql_cv8 (by simp +decide only [go_sem] <;> rfl) (by omega)) ?_
    refine goB ?_
    refine ARun.q1 rfl rfl (ql_bytesStrL (l := [((224 + c / 4096 : Nat) : Int), ((128 + c / 64 % 64 : Nat) : Int), ((128 + c % 64 : Nat) : Int)]) (by simp +decide only [go_sem] <;> rfl) (.pu (Pu_u8L [((224 + c / 4096 : Nat) : Int), ((128 + c / 64 % 64 : Nat) : Int), ((128 + c % 64 : Nat) : Int)])) und82 und5 Tryd.underlying9) ?_
    refine goB ?_
    exact Ret.data rfl (by rw [hR]; rfl) (.base _)
  have h3 := of_decide_eq_false h3
  rw [if_neg (by omega)] at hR
  repeat (with_reducible first | apply zs | apply zk | apply z1 | apply z4)
  (with_reducible apply zR); (refine ⟨rfl, rfl, ?_⟩; simp +decide only [go_sem, List.map]; rfl)
  refine ARun.q1 rfl rfl (ql_fun (by simp +decide only [go_sem] <;> rfl)) ?_
  refine ARun.q1 rfl rfl (ql_shr18 (by simp +decide only [go_sem] <;> rfl)) ?_
  refine ARun.q1 rfl rfl (ql_or240 (by simp +decide only [go_sem] <;> rfl) (by omega)) ?_
  refine ARun.q1 rfl rfl (ql_cv8 (by simp +decide only [go_sem] <;> rfl) (by omega)) ?_
  refine ARun.q1 rfl rfl (ql_fun (by simp +decide only [go_sem] <;> rfl)) ?_
  refine ARun.q1 rfl rfl (ql_shr12 (by simp +decide only [go_sem] <;> rfl)) ?_
  refine ARun.q1 rfl rfl (ql_and63 (by simp +decide only [go_sem] <;> rfl) (by omega)) ?_
  refine ARun.q1 rfl rfl (ql_or128 (by simp +decide only [go_sem] <;> rfl) (by omega)) ?_
  refine ARun.q1 rfl rfl (ql_cv8 (by simp +decide only [go_sem] <;> rfl) (by omega)) ?_
  refine ARun.q1 rfl rfl (ql_fun (by simp +decide only [go_sem] <;> rfl)) ?_
  refine ARun.q1 rfl rfl (ql_shr6 (by simp +decide only [go_sem] <;> rfl)) ?_
  refine ARun.q1 rfl rfl (ql_and63 (by simp +decide only [go_sem] <;> rfl) (by omega)) ?_
  refine ARun.q1 rfl rfl (ql_or128 (by simp +decide only [go_sem] <;> rfl) (by omega)) ?_
  refine ARun.q1 rfl rfl (ql_cv8 (by simp +decide only [go_sem] <;> rfl) (by omega)) ?_
  refine ARun.q1 rfl rfl (ql_fun (by simp +decide only [go_sem] <;> rfl)) ?_
  refine ARun.q1 rfl rfl (ql_and63 (by simp +decide only [go_sem] <;> rfl) (by omega)) ?_
  refine ARun.q1 rfl rfl (ql_or128 (by simp +decide only [go_sem] <;> rfl) (by omega)) ?_
  refine ARun.q1 rfl rfl (ql_cv8 (by simp +decide only [go_sem] <;> rfl) (by omega)) ?_
  refine goB ?_
  refine ARun.q1 rfl rfl (ql_bytesStrL (l := [((240 + c / 262144 : Nat) : Int), ((128 + c / 4096 % 64 : Nat) : Int), ((128 + c / 64 % 64 : Nat) : Int), ((128 + c % 64 : Nat) : Int)]) (by simp +decide only [go_sem] <;> rfl) (.pu (Pu_u8L [((240 + c / 262144 : Nat) : Int), ((128 + c / 4096 % 64 : Nat) : Int), ((128 + c / 64 % 64 : Nat) : Int), ((128 + c % 64 : Nat) : Int)])) und82 und5 Tryd.underlying9) ?_
  refine goB ?_
  exact Ret.data rfl (by rw [hR]; rfl) (.base _)
end Go.Ab
set_option maxHeartbeats 4000000
namespace Go.Ab
open Go Go.Ab Go.Proofs Go.Ab.Ty

/-! ### the document's canonical form -/
abbrev ibl (l : List Int) : ABlk := ⟨3, 1, l.map AV.int⟩
section
variable {H : List ABlk} {ρ : Operand → AV}
theorem ql_loadN {x : Operand} {b tot i : Nat} {l : List Int} {v : Int} (hx : ρ x = .ptr b tot i 0) (hb : H[b]? = some (ibl l)) (ht : l.length = tot) (hv : l[i]? = some v) : QL Tryd.prog H ρ (.load 3 x) (.int v) := by
  refine ql_fun1 ?_
  have e : (l.map AV.int)[i]? = some (.int v) := by rw [List.getElem?_map, hv]; rfl
  have e2 : ldE (aggTy Tryd.prog 3) (szTy Tryd.prog 3) (.int v) 0 = some (.int v) := by
    rw [show aggTy Tryd.prog 3 = some false by kernel_rfl, show szTy Tryd.prog 3 = some 1 by kernel_rfl]; rfl
  simp only [qfun, hx, hb, List.length_map, ht, if_true, e, e2]
theorem pl_storeN {x y : Operand} {b tot i : Nat} {l : List Int} (v : Int) (hx : ρ x = .ptr b tot i 0) (hy : ρ y = .int v) (hb : H[b]? = some (ibl l)) (ht : l.length = tot) (hi : i < l.length) :
    PL Tryd.prog H ρ (.store 3 x y) .bad (H.set b (ibl (l.set i v))) := by
  exact pl_store_own v hx hy hb ht hi (by kernel_rfl) rfl rfl
theorem ql_ixN {x i : Operand} {n : Int} {b tot off len : Nat} {l : List Int} (hx : ρ x = .own b tot off len) (hi : ρ i = .int n) (hb : H[b]? = some (ibl l)) (ht : l.length = tot) (h0 : 0 ≤ n) (hn : n < len) : QL Tryd.prog H ρ (.indexAddr 37 x i) (.ptr b tot (off + n.toNat) 0) :=
  ql_indexAddr_own hx hi Tryd.underlying37 hb (by simpa using ht) h0 hn (by kernel_rfl)
end
def wt : Nat → List Int → Nat
  | _, [] => 0
  | k, x :: l => k * (230 - rk x).toNat + wt (k + 1) l
theorem wt_swap {x y : Int} (h : rk x < rk y) (Q : List Int) : ∀ (P : List Int) (k : Nat), wt k (P ++ x :: y :: Q) < wt k (P ++ y :: x :: Q)
  | [], k => by
    have h1 := rk_rg x
    have h2 := rk_rg y
    simp only [List.nil_append, wt, Nat.add_mul, Nat.one_mul]
    have : (230 - rk y).toNat < (230 - rk x).toNat := by omega
    omega
  | z :: P, k => by
    have := wt_swap h Q P (k + 1)
    simp only [List.cons_append, wt]
    omega
theorem okL_idx : ∀ {l : List Int}, (∀ i, i + 1 < l.length → rk (aA l (i + 1)) = 0 ∨ rk (aA l i) ≤ rk (aA l (i + 1))) → okL l
  | [], _ => trivial
  | [_], _ => trivial
  | x :: y :: l, h => by
    refine ⟨?_, okL_idx fun i hi => ?_⟩
    · have := h 0 (by simp)
      simpa [aA] using this
    · have := h (i + 1) (by simp at hi ⊢; omega)
      simpa [aA] using this
theorem encS_s (l : List Int) (k : Nat) (h : k < l.length) : encS (l.take (k + 1)) = encS (l.take k) ++ Utf8.encode l[k] := by
  rw [List.take_succ_eq_append_getElem h, encS, List.foldl_append]; rfl
theorem enc_size (c : Int) : (Utf8.encode c).size ≤ 4 := by
  unfold Utf8.encode
  simp only
  repeat' split
  all_goals exact Nat.le_of_ble_eq_true rfl
theorem encS_size (l : List Int) : ∀ k, k ≤ l.length → (encS (l.take k)).size ≤ 4 * k
  | 0, _ => by simp [encS]
  | k + 1, h => by
    have := encS_size l k (by omega)
    have h2 := enc_size l[k]
    rw [encS_s l k (by omega), ByteArray.size_append]; omega
theorem joined_ok (l : List Int) (hl : l.length ≤ 100000) (hv : ∀ c ∈ l, Utf8.valid c = true) : Fn Tryd.prog 95 [.lst (l.map AV.int)] (str (encS l)) := by
  have by' : ∀ c ∈ l, Fn Tryd.prog 94 [.int c] (str (Utf8.encode c)) := fun c hc => by
    have h := hv c hc
    obtain ⟨n, rfl⟩ : ∃ n : Nat, c = n := ⟨c.toNat, by simp [Utf8.valid] at h; omega⟩
    exact bytes_ok n (by have := (val_iff n).1 h; omega) h
  refine Fn.intro' [(0, .lst (l.map AV.int))] 1 19 Tryd.func95 (by kernel_rfl) rfl rfl rfl rfl rfl ?_
  refine goB ?_
  refine keA [0, 3, 4] ?_
  refine AWp.loopP (J := fun k : Nat => k ≤ l.length) (fun k => [(3, str (encS (l.take k))), (4, .int k)]) (fun k => l.length - k) 0 (Nat.zero_le _) .wk ?_
  intro k hk
  refine goB ?_
  refine ifA (fun h => ?_) (fun h => ?_)
  · have h := of_decide_eq_true h
    have hk2 : k < l.length := by omega
    have hg : nth 0 l (k : Int) = l[k] := nth_eq hk2
    have i1 := by' l[k] (List.getElem_mem hk2)
    have hs1 := encS_size l k hk
    have hs2 := enc_size l[k]
    refine goB ?_
    rw [hg]
    refine goB ?_
    refine callA (i1) ?_
    refine goB ?_
    refine ARun.q1 rfl rfl (ql_addStr (a := encS (l.take k)) (b := Utf8.encode l[k]) (by simp +decide only [go_sem] <;> rfl) (by simp +decide only [go_sem] <;> rfl) (by omega)) ?_
    rw [← encS_s l k hk2]
    refine goB ?_
    rw [wrap_succ (by omega)]
    exact ⟨k + 1, by omega, by omega, .wk⟩
  have h := of_decide_eq_false h
  obtain rfl : k = l.length := by omega
  rw [List.take_length]
  refine goB ?_
  exact Ret.data rfl rfl (.base _)
/-! validity -/
theorem dec_valid (s : ByteArray) (i : Nat) : Utf8.valid ((Utf8.decode s i).1 : Nat) = true := by
  rw [dec_decN]
  have hb := bt_lt s i
  unfold decN
  split
  · rw [val_iff]; simp only; omega
  split
  · split
    · rw [val_iff]; simp only; omega
    · decide
  split
  · split
    · rename_i h
      rw [Bool.and_eq_true] at h
      exact h.2
    · decide
  split
  · split
    · rename_i h
      rw [Bool.and_eq_true] at h
      exact h.2
    · decide
  · decide
theorem rnA_valid (s : ByteArray) (k : Nat) : Utf8.valid (rnA s k) = true := dec_valid s _
theorem valid_lt {c : Int} (h : 0 ≤ c ∧ c < 55296) : Utf8.valid c = true := by simp [Utf8.valid]; omega
theorem rowP_valid {f b c : Int} {r l : List Int} (hb : 0 ≤ b ∧ b < 200) (hr : ∀ i, nth 0 r i = 0 ∨ (768 ≤ nth 0 r i ∧ nth 0 r i ≤ 778)) (h : rowP f b r c = some l) : ∀ x ∈ l, Utf8.valid x = true := by
  rw [rowP] at h
  split at h
  · injection h with h; subst h
    intro x hx
    simp only [List.mem_cons, List.not_mem_nil, or_false] at hx
    have := hr (c - f)
    rcases hx with rfl | rfl
    · exact valid_lt (by omega)
    · exact valid_lt (by omega)
  · cases h
theorem prB_valid {b c : Int} {l : List Int} (hb : 0 ≤ b ∧ b < 150) (h : prB b c = some l) : ∀ x ∈ l, Utf8.valid x = true := by
  rw [prB] at h
  split at h
  · rename_i l' h'
    injection h with h; subst h
    exact rowP_valid (by omega) l6_rg h'
  · exact rowP_valid (by omega) l4_rg h
theorem prt_valid {c : Int} {l : List Int} (h : prt c = some l) : ∀ x ∈ l, Utf8.valid x = true := by
  rw [prt] at h
  split at h
  · rename_i l' h'
    injection h with h; subst h
    exact prB_valid (by omega) h'
  split at h
  · rename_i l' h'
    injection h with h; subst h
    exact prB_valid (by omega) h'
  rw [prT] at h
  repeat' split at h
  · injection h with h; subst h
    intro x hx; simp at hx; rcases hx with rfl | rfl <;> decide
  · injection h with h; subst h
    intro x hx; simp at hx; rcases hx with rfl | rfl <;> decide
  · injection h with h; subst h
    intro x hx; simp at hx; rcases hx with rfl | rfl <;> decide
  · rename_i h4
    injection h with h; subst h
    intro x hx
    unfold hangul at hx
    split at hx <;> simp at hx
    · rcases hx with rfl | rfl <;> exact valid_lt (by omega)
    · rcases hx with rfl | rfl | rfl <;> exact valid_lt (by omega)
  · cases h
theorem full_valid : ∀ (n : Nat) (c : Int), Utf8.valid c = true → ∀ x ∈ full n c, Utf8.valid x = true
  | 0, c, h, x, hx => by simp [full] at hx; subst hx; exact h
  | n + 1, c, h, x, hx => by
    rw [full] at hx
    split at hx
    · simp at hx; subst hx; exact h
    · rename_i l hl
      rw [List.mem_flatten] at hx
      obtain ⟨m, hm, hx⟩ := hx
      obtain ⟨y, hy, rfl⟩ := List.mem_map.1 hm
      exact full_valid n y (prt_valid hl y hy) x hx
theorem ptsL_valid (s : ByteArray) : ∀ k, ∀ x ∈ ptsL s k, Utf8.valid x = true
  | 0, x, hx => by rw [ptsL_0] at hx; cases hx
  | k + 1, x, hx => by
    rw [ptsL_s, List.mem_append] at hx
    rcases hx with hx | hx
    · exact ptsL_valid s k x hx
    · exact full_valid 3 _ (rnA_valid s k) x hx
theorem mem_canG : ∀ (l r : List Int) (x : Int), (∀ y ∈ r, 0 < rk y) → (x ∈ canG r l ↔ x ∈ r ∨ x ∈ l)
  | [], r, x, hr => by rw [canG, ← st_pos hr, mem_st]; simp
  | y :: l, r, x, hr => by
    rw [canG]
    split
    · rename_i hy
      rw [mem_canG l (r ++ [y]) x fun z hz => by
        rcases List.mem_append.1 hz with hz | hz
        · exact hr z hz
        · rw [List.mem_singleton] at hz; subst hz; exact hy]
      simp [or_assoc]
    · rw [List.mem_append, List.mem_cons, mem_canG l [] x (fun z hz => by cases hz), ← st_pos hr, mem_st]
      simp
theorem mem_canL (l : List Int) (x : Int) : x ∈ canL l ↔ x ∈ l := by
  have := mem_canG l [] x (fun z hz => by cases hz)
  rw [canL, this]
  simp
theorem refCanonical_ok (s : ByteArray) (hs : s.size ≤ 3000) (hv : Vd s 0) : Fn Tryd.prog 75 [str s] (str (canS s)) := by
  have i1 := chars_ok s (by omega) hv
  have i2 := fun k l h => refParts_ok 3 (rnA s k) (rn_rg s k) (deep3 _) l h
  have hnl := nch_le s
  have hpl := fun k => ptsL_len s k
  refine Fn.intro' [(0, str s)] 1 73 Tryd.func75 (by kernel_rfl) rfl rfl rfl rfl rfl ?_
  refine goB ?_
  refine callA (i1) ?_
  refine goB ?_
  refine keA [3, 5, 6] ?_
  refine AWp.weaken (Wk.nil (E2 := [(3, .lst ((riL s (nch s)).map AV.int)), (5, .own 0 0 0 0), (6, .int 0)]) 3 1 (by simp [lk, Le.refl])) ?_
  refine AWp.loopH (J := fun k : Nat => k ≤ nch s) (fun k => [(5, .own 0 (ptsL s k).length 0 (ptsL s k).length), (6, .int k)]) (fun k => [ibl (ptsL s k)]) (fun k => nch s - k) 0 (Nat.zero_le _) .wk ?_
  intro k hk
  have hrl := riL_len s (nch s)
  refine goB ?_
  rw [hrl]
  refine ifA (fun h => ?_) (fun h => ?_)
  · have h := of_decide_eq_true h
    have hg : nth 0 (riL s (nch s)) (k : Int) = rnA s k := by
      rw [nth_eq (by omega)]; simp [riL]
    have hp := hpl k
    have i3 := i2 k (ptsL s k) (by omega)
    rw [← ptsL_s] at i3
    refine goB ?_
    rw [hg]
    refine goB ?_
    refine ARun.p1 rfl rfl (pl_callH (e := [0]) (d' := .own 0 (ptsL s (k + 1)).length 0 (ptsL s (k + 1)).length) i3 (CallE.put1 (b := 0) rfl (PuBl_I _) (PuBl_I _)) rfl (by simp +decide only [go_sem] <;> rfl) (by simp +decide only [go_sem, List.map]; exact ⟨.own rfl, .pu (.base _), trivial⟩) (.own rfl)) ?_
    refine goB ?_
    rw [wrap_succ (by omega)]
    exact ⟨k + 1, by omega, by omega, .wk⟩
  have h := of_decide_eq_false h
  obtain rfl : k = nch s := by omega
  have hp := hpl (nch s)
  have hvl := ptsL_valid s (nch s)
  unfold canS
  clear i1 i2 hpl hrl
  generalize ptsL s (nch s) = L0 at *
  refine goB ?_
  refine keA [5, 7, 8, 9] ?_
  refine AWp.loopH (X := List Int × Bool × AV × AV) (J := fun (L, b, _) => L.length = L0.length ∧ canL L = canL L0 ∧ (b = false → okL L)) (fun (L, b, u, v) => [(7, .bool b), (8, u), (9, v)]) (fun (L, b, _) => [ibl L]) (fun (L, b, _) => wt 0 L + (if b then 1 else 0)) (L0, true, _, _) ⟨rfl, rfl, fun h => by cases h⟩ .wk ?_
  rintro ⟨L, b, u, v⟩ ⟨hL, hC, hb⟩
  simp only
  refine goB ?_
  refine ifA (fun hbt => ?_) (fun hbt => ?_)
  · subst hbt
    refine goB ?_
    refine keA [5, 7, 8, 9] ?_
    refine AWp.loopH (X := Nat × List Int × Bool × AV) (J := fun (i, M, b, _) => 1 ≤ i ∧ (i ≤ L0.length ∨ i = 1) ∧ M.length = L0.length ∧ canL M = canL L0 ∧ (b = true → wt 0 M < wt 0 L) ∧ wt 0 M ≤ wt 0 L ∧ (b = false → ∀ j, j + 1 < i → rk (aA M (j + 1)) = 0 ∨ rk (aA M j) ≤ rk (aA M (j + 1)))) (fun (i, M, b, v) => [(7, .bool b), (8, .int i), (9, v)]) (fun (i, M, b, _) => [ibl M]) (fun (i, M, b, _) => L0.length - i) (1, L, false, _) ⟨Nat.le_refl _, .inr rfl, hL, hC, (fun h => nomatch h), Nat.le_refl _, fun _ j hj => absurd hj (by omega)⟩ .wk ?_
    clear hL hC hb
    rintro ⟨i, M, b, w⟩ ⟨hi1, hi2, hM, hC, hw1, hw2, hs⟩
    simp only
    have hbl : (M.length == L0.length) = true := by rw [hM]; exact beq_self_eq_true _
    repeat (first | (with_reducible first | apply zs | apply zN | apply z1 | apply z2 | apply z3 | apply z4 | apply z5 | apply z6 | refine z7 rfl ?_ | apply zb | apply zk | apply zr | apply ze | apply y1 | apply y2) | ((with_reducible apply zR); (refine ⟨rfl, rfl, ?_⟩; simp +decide only [go_sem, List.map]; rfl)) | ((with_reducible apply zG); (simp +decide only [go_sem, hbl]; rfl); (simp +decide only [go_sem, hbl]; (repeat simp +decide only [go_sem, hbl]); rfl)) | (refine zp rfl rfl (pl_box (by simp +decide only [go_sem, hbl]; rfl) rfl) ?_) | (refine zp rfl rfl (pl_alloc (by simp only [go_sem]; rfl) rfl) ?_) | (refine zp rfl rfl (pl_store (by simp +decide only [go_sem, hbl]; rfl) (by simp +decide only [go_sem, hbl]; rfl) (by simp +decide only [go_sem]; rfl) (by rfl) (by rfl) (by kernel_rfl) (by rfl) (by rfl)) ?_) | (refine zq rfl rfl (qi rfl rfl (by simp only [go_sem]; rfl) (by first | omega | (simp; omega)) (by kernel_rfl)) ?_) | (refine zq rfl rfl (qo rfl rfl (by simp only [go_sem]; rfl) rfl (by first | omega | (simp; omega)) (by simp only [go_sem] <;> rfl)) ?_) | (refine zq rfl rfl (qw 0 _ rfl rfl (by first | rfl | (simp only [Nat.zero_add] <;> rfl)) (by first | omega | (simp; omega)) (by simp only [go_sem] <;> rfl)) ?_) | (refine zq rfl rfl (qb (by simp only [go_sem]; rfl) (by simp only [go_sem]; rfl) (by decide) (by kernel_rfl) (by simp +decide only [List.map, go_sem] <;> rfl) (by simp +decide only [List.map, go_sem] <;> rfl) (by rfl)) ?_) | (refine zq rfl rfl (qn rfl rfl) ?_) | (refine zq rfl rfl (qx rfl rfl) ?_) | fail)
    refine ifA (fun hc => ?_) (fun hc => ?_)
    · have hc := of_decide_eq_true hc
      obtain ⟨k, rfl⟩ : ∃ k, i = k + 1 := ⟨i - 1, by omega⟩
      have hk : k + 1 < M.length := by omega
      obtain ⟨P, y, x, Q, hMe, hPl, hy, hx⟩ : ∃ P y x Q, M = P ++ y :: x :: Q ∧ P.length = k ∧ aA M k = y ∧ aA M (k + 1) = x := by
        refine ⟨M.take k, M[k], M[k + 1], M.drop (k + 2), ?_, by simp; omega, by simp [aA, show k < M.length by omega], by simp [aA, hk]⟩
        rw [← List.drop_eq_getElem_cons hk, ← List.drop_eq_getElem_cons (show k < M.length by omega), List.take_append_drop]
      have l1 : M[k]? = some y := by rw [← hy]; exact aA_e (by omega)
      have l2 : M[k + 1]? = some x := by rw [← hx]; exact aA_e hk
      have hsb : IntKind.i64.wrap (((k + 1 : Nat) : Int) - 1) = (k : Int) := by rw [wrap_id (by omega) (by omega)]; omega
      refine goB ?_
      have hx2 : nth 0 M ((k + 1 : Nat) : Int) = x := by rw [nth_eq hk]; rw [List.getElem?_eq_getElem hk] at l2; injection l2
      have hy2 : nth 0 M (k : Int) = y := by
        have hk' : k < M.length := by omega
        rw [nth_eq hk']; rw [List.getElem?_eq_getElem hk'] at l1; injection l1
      refine drA (k := 20) follows (hr := ?_)
      refine goB ?_
      rw [hx2]
      refine callA (refRank_ok x) ?_
      refine goB ?_
      rw [hsb]
      refine gqA (h := fun hg => ql_ixN (b := 0) (l := M) (by simp +decide only [go_sem] <;> rfl) (by simp +decide only [go_sem] <;> rfl) rfl hM (by omega) (by omega)) (hr := ?_)
      refine goB ?_
      refine gqA (h := fun hg => ql_loadN (b := 0) (by simp +decide only [go_sem] <;> rfl) rfl hM l1) (hr := ?_)
      refine goB ?_
      refine gcallA (i := fun hg => refRank_ok y) (hr := ?_)
      refine goB ?_
      refine gqA (h := fun hg => ql_ixN (b := 0) (l := M) (by simp +decide only [go_sem] <;> rfl) (by simp +decide only [go_sem] <;> rfl) rfl hM (by omega) (by omega)) (hr := ?_)
      refine goB ?_
      refine gqA (h := fun hg => ql_loadN (b := 0) (by simp +decide only [go_sem] <;> rfl) rfl hM l2) (hr := ?_)
      refine goB ?_
      refine gcallA (i := fun hg => refRank_ok x) (hr := ?_)
      refine goB ?_
      refine keA [5, 7, 8, 9, 53] ?_
      refine ifA (fun hd => ?_) (fun hd => ?_)
      · simp only [Bool.cond_eq_ite, Bool.if_false_right, Bool.and_eq_true, decide_eq_true_eq] at hd
        obtain ⟨d1, d2⟩ := hd
        refine goB ?_
        rw [hx2]
        refine goB ?_
        rw [hsb]
        refine goB ?_
        rw [hy2]
        have hsw := swp_dn P Q x y
        rw [hPl, ← hMe] at hsw
        refine ARun.p1 rfl rfl (pl_storeN (b := 0) (tot := L0.length) y (i := k + 1) (by simp +decide [go_sem]; try omega) (by simp +decide only [go_sem] <;> rfl) rfl hM hk) ?_
        refine goB ?_
        rw [hsb]
        refine goB ?_
        refine ARun.p1 rfl rfl (pl_storeN (b := 0) (tot := L0.length) x (i := k) (by simp +decide [go_sem]; try omega) (by simp +decide only [go_sem] <;> rfl) rfl (by simpa using hM) (by rw [List.length_set]; omega)) ?_
        simp only [List.set, hsw]
        refine goB ?_
        rw [wrap_succ (by omega)]
        have hwt := wt_swap d2 Q P 0
        rw [← hMe] at hwt
        refine ⟨(k + 2, P ++ x :: y :: Q, true, .int x), ⟨by simp only; omega, .inl (by simp only; omega), ?_, ?_, fun _ => by simp only; omega, by simp only; omega, fun h => nomatch h⟩, by simp only; omega, .wk⟩
        · rw [← hM, hMe]; simp
        · rw [← hC, hMe, canL_swap (by omega) d1 (by omega)]
      simp only [Bool.cond_eq_ite, Bool.if_false_right, Bool.and_eq_false_iff, decide_eq_false_iff_not, decide_eq_true_eq] at hd
      refine goB ?_
      rw [wrap_succ (by omega)]
      refine ⟨(k + 2, M, b, _), ⟨by simp only; omega, .inl (by simp only; omega), hM, hC, hw1, hw2, fun hb j hj => ?_⟩, by simp only; omega, .wk⟩
      rcases Nat.lt_or_ge j k with h1 | h1
      · exact hs hb j (by omega)
      · obtain rfl : j = k := by simp only at hj; omega
        rw [hy, hx]
        have := rk_rg x
        omega
    have hc := of_decide_eq_false hc
    refine goB ?_
    refine ⟨(M, b, _, _), ⟨hM, hC, fun hb => okL_idx fun j hj => hs hb j (by simp only at hj; omega)⟩, ?_, .wk⟩
    simp only
    cases b with
    | true => have := hw1 rfl; simp; omega
    | false => simp; omega
  subst hbt
  have hok := hb rfl
  rw [canL_ok hok] at hC
  subst hC
  have hj := joined_ok (canL L0) (by rw [canL_len]; omega) (fun c hc => hvl c ((mem_canL _ _).1 hc))
  have hn := canL_len L0
  refine goB ?_
  refine ARun.q1 rfl rfl (ql_callM (args := [.lst ((canL L0).map AV.int)]) rfl (by simp +decide only [go_sem] <;> rfl) (by simp +decide only [go_sem, List.map, LendL]; exact .ownM rfl hn fun x _ => Pu_cI x) (.base _) hj) ?_
  refine goB ?_
  exact Ret.data rfl rfl (.base _)
end Go.Ab
