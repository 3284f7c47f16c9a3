/- Part of the proof. -/
import Derived.Test.YtjfahhbobiiphaaXE
import Derived.Test.YtjfahhbobiiphaaAbZF
import Derived.Test.YtjfahhbobiiphaaAbG
set_option linter.unusedSimpArgs false
set_option linter.unusedVariables false
set_option maxHeartbeats 4000000
namespace Go.Ab
open Go Go.Ab Go.Proofs Go.Ab.Ty

/-! ### slices.Reverse on expressions -/
theorem ldX (r : Rx) : ldE (aggTy Try.prog 24) (szTy Try.prog 24) (encX r) 0 = some (encX r) := by
  obtain ⟨o, s, l⟩ := r
  rw [encX_mk, show aggTy Try.prog 24 = some true by kernel_rfl, show szTy Try.prog 24 = some 3 by kernel_rfl]
  rfl
theorem stX (a b : Rx) : stE (encX a) 0 (encX b).cells = some (encX b) := by
  obtain ⟨o, s, l⟩ := a
  obtain ⟨o', s', l'⟩ := b
  rw [encX_mk, encX_mk]
  rfl
section
variable {H : List ABlk} {ρ : Operand → AV}
theorem ql_loadX {x : Operand} {b tot i : Nat} {l : List Rx} {v : Rx} (hx : ρ x = .ptr b tot i 0) (hb : H[b]? = some ⟨24, 3, l.map encX⟩) (ht : l.length = tot) (hv : l[i]? = some v) : QL Try.prog H ρ (.load 24 x) (encX v) := by
  refine ql_fun1 ?_
  have e : (l.map encX)[i]? = some (encX v) := by rw [List.getElem?_map, hv]; rfl
  simp only [qfun, hx, hb, List.length_map, ht, if_true, e, ldX]
theorem pl_storeX {x y : Operand} {b tot i : Nat} {l : List Rx} (v : Rx) (hx : ρ x = .ptr b tot i 0) (hy : ρ y = encX v) (hb : H[b]? = some ⟨24, 3, l.map encX⟩) (ht : l.length = tot) (hi : i < l.length) :
    PL Try.prog H ρ (.store 24 x y) .bad (H.set b ⟨24, 3, (l.set i v).map encX⟩) := by
  refine pl_store_own v hx hy hb ht hi ?_ ?_ (stX _ _)
  · obtain ⟨o, s, l⟩ := v
    rw [encX_mk]; kernel_rfl
  · obtain ⟨o, s, l⟩ := v
    rw [encX_mk]; rfl
end
def dX : Rx := .mk 0 default []
def rv (l : List Rx) (i : Nat) : List Rx := (List.range l.length).map fun p => if p < i ∨ l.length - 1 - p < i then (l[l.length - 1 - p]?).getD dX else (l[p]?).getD dX
theorem rv_len (l : List Rx) (i : Nat) : (rv l i).length = l.length := by simp [rv]
theorem rv_at {l : List Rx} {i p : Nat} (h : p < l.length) : (rv l i)[p]? = some (if p < i ∨ l.length - 1 - p < i then (l[l.length - 1 - p]?).getD dX else (l[p]?).getD dX) := by
  simp [rv, h]
theorem rv_0 (l : List Rx) : rv l 0 = l := by
  apply List.ext_getElem?
  intro p
  rcases Nat.lt_or_ge p l.length with h | h
  · rw [rv_at h, if_neg (by omega), List.getElem?_eq_getElem h]; rfl
  · rw [List.getElem?_eq_none (by rw [rv_len]; exact h), List.getElem?_eq_none h]
theorem rv_end {l : List Rx} {i : Nat} (hi : l.length ≤ 2 * i + 1) : rv l i = l.reverse := by
  apply List.ext_getElem?
  intro p
  rcases Nat.lt_or_ge p l.length with h | h
  · rw [rv_at h, List.getElem?_reverse h]
    by_cases hp : p < i ∨ l.length - 1 - p < i
    · rw [if_pos hp, List.getElem?_eq_getElem (by omega)]; rfl
    · rw [if_neg hp, show l.length - 1 - p = p by omega, List.getElem?_eq_getElem h]; rfl
  · rw [List.getElem?_eq_none (by rw [rv_len]; exact h), List.getElem?_eq_none (by simpa using h)]
theorem rv_step {l : List Rx} {i : Nat} (hi : 2 * i + 1 < l.length) :
    ((rv l i).set i ((l[l.length - 1 - i]?).getD dX)).set (l.length - 1 - i) ((l[i]?).getD dX) = rv l (i + 1) := by
  apply List.ext_getElem?
  intro p
  rcases Nat.lt_or_ge p l.length with h | h
  · rw [rv_at h, List.getElem?_set, List.getElem?_set, rv_at h]
    simp only [List.length_set, rv_len]
    by_cases e1 : l.length - 1 - i = p
    · rw [if_pos e1, if_pos (by omega), if_pos (by omega)]; congr 3; omega
    · rw [if_neg e1]
      by_cases e2 : i = p
      · rw [if_pos e2, if_pos (by omega), if_pos (by omega), e2]
      · rw [if_neg e2]
        by_cases h3 : p < i ∨ l.length - 1 - p < i
        · rw [if_pos h3, if_pos (by omega)]
        · rw [if_neg h3, if_neg (by omega)]
  · rw [List.getElem?_eq_none (by simp [rv_len]; exact h), List.getElem?_eq_none (by rw [rv_len]; exact h)]
attribute [local go_sem] List.length_map beq_self_eq_true rv_len
theorem rev_ok (l : List Rx) (hl : l.length ≤ 1048576) : FnH Try.prog 88 [.own 0 l.length 0 l.length] [⟨24, 3, l.map encX⟩] (.tup []) [⟨24, 3, l.reverse.map encX⟩] := by
  refine FnH.intro' [(0, .own 0 l.length 0 l.length)] 1 28 1 Try.func88 (by kernel_rfl) rfl rfl rfl rfl rfl rfl ?_
  repeat (first | (with_reducible first | apply zs | apply zN | apply z1 | apply z2 | apply z3 | apply z4 | apply z5 | apply z6 | refine z7 rfl ?_ | apply zb | apply zk | apply zr | apply ze | apply y1 | apply y2) | ((with_reducible apply zR); (refine ⟨rfl, rfl, ?_⟩; simp +decide only [go_sem, List.map]; rfl)) | ((with_reducible apply zG); (simp +decide only [go_sem]; rfl); (simp +decide only [go_sem]; (repeat simp +decide only [go_sem]); rfl)) | (refine zp rfl rfl (pl_box (by simp +decide only [go_sem]; rfl) rfl) ?_) | (refine zp rfl rfl (pl_alloc (by simp only [go_sem]; rfl) rfl) ?_) | (refine zp rfl rfl (pl_store (by simp +decide only [go_sem]; rfl) (by simp +decide only [go_sem]; rfl) (by simp +decide only [go_sem]; rfl) (by rfl) (by rfl) (by kernel_rfl) (by rfl) (by rfl)) ?_) | (refine zq rfl rfl (qi rfl rfl (by simp only [go_sem]; rfl) (by first | omega | (simp; omega)) (by kernel_rfl)) ?_) | (refine zq rfl rfl (qo rfl rfl (by simp only [go_sem]; rfl) rfl (by first | omega | (simp; omega)) (by simp only [go_sem] <;> rfl)) ?_) | (refine zq rfl rfl (qw 0 _ rfl rfl (by first | rfl | (simp only [Nat.zero_add] <;> rfl)) (by first | omega | (simp; omega)) (by simp only [go_sem] <;> rfl)) ?_) | (refine zq rfl rfl (qb (by simp only [go_sem]; rfl) (by simp only [go_sem]; rfl) (by decide) (by kernel_rfl) (by simp +decide only [List.map, go_sem] <;> rfl) (by simp +decide only [List.map, go_sem] <;> rfl) (by rfl)) ?_) | (refine zq rfl rfl (qn rfl rfl) ?_) | (refine zq rfl rfl (qx rfl rfl) ?_) | fail)
  rw [wrap_id (by omega) (by omega)]
  refine AWp.loopH (J := fun i : Nat => i ≤ l.length) (fun i => [(2, .int i), (3, .int (l.length - 1 - i))]) (fun i => [⟨24, 3, (rv l i).map encX⟩]) (fun i => l.length - i) 0 (Nat.zero_le _) (by rw [rv_0]; exact (.env' (by simp +decide only [go_sem, show (l.length : Int) - 1 - ((0 : Nat) : Int) = l.length - 1 by omega] <;> simp [Le.refl, show (l.length : Int) - 1 - ((0 : Nat) : Int) = l.length - 1 by omega]))) ?_
  rintro i hi
  repeat (first | (with_reducible first | apply zs | apply zN | apply z1 | apply z2 | apply z3 | apply z4 | apply z5 | apply z6 | refine z7 rfl ?_ | apply zb | apply zk | apply zr | apply ze | apply y1 | apply y2) | ((with_reducible apply zR); (refine ⟨rfl, rfl, ?_⟩; simp +decide only [go_sem, List.map]; rfl)) | ((with_reducible apply zG); (simp +decide only [go_sem]; rfl); (simp +decide only [go_sem]; (repeat simp +decide only [go_sem]); rfl)) | (refine zp rfl rfl (pl_box (by simp +decide only [go_sem]; rfl) rfl) ?_) | (refine zp rfl rfl (pl_alloc (by simp only [go_sem]; rfl) rfl) ?_) | (refine zp rfl rfl (pl_store (by simp +decide only [go_sem]; rfl) (by simp +decide only [go_sem]; rfl) (by simp +decide only [go_sem]; rfl) (by rfl) (by rfl) (by kernel_rfl) (by rfl) (by rfl)) ?_) | (refine zq rfl rfl (qi rfl rfl (by simp only [go_sem]; rfl) (by first | omega | (simp; omega)) (by kernel_rfl)) ?_) | (refine zq rfl rfl (qo rfl rfl (by simp only [go_sem]; rfl) rfl (by first | omega | (simp; omega)) (by simp only [go_sem] <;> rfl)) ?_) | (refine zq rfl rfl (qw 0 _ rfl rfl (by first | rfl | (simp only [Nat.zero_add] <;> rfl)) (by first | omega | (simp; omega)) (by simp only [go_sem] <;> rfl)) ?_) | (refine zq rfl rfl (qb (by simp only [go_sem]; rfl) (by simp only [go_sem]; rfl) (by decide) (by kernel_rfl) (by simp +decide only [List.map, go_sem] <;> rfl) (by simp +decide only [List.map, go_sem] <;> rfl) (by rfl)) ?_) | (refine zq rfl rfl (qn rfl rfl) ?_) | (refine zq rfl rfl (qx rfl rfl) ?_) | fail)
  refine AWp.cond (b := _) rfl (fun hd => ?_) (fun hd => ?_)
  · simp at hd
    repeat (first | (with_reducible first | apply zs | apply zN | apply z1 | apply z2 | apply z3 | apply z4 | apply z5 | apply z6 | refine z7 rfl ?_ | apply zb | apply zk | apply zr | apply ze | apply y1 | apply y2) | ((with_reducible apply zR); (refine ⟨rfl, rfl, ?_⟩; simp +decide only [go_sem, List.map]; rfl)) | ((with_reducible apply zG); (simp +decide only [go_sem]; rfl); (simp +decide only [go_sem]; (repeat simp +decide only [go_sem]); rfl)) | (refine zp rfl rfl (pl_box (by simp +decide only [go_sem]; rfl) rfl) ?_) | (refine zp rfl rfl (pl_alloc (by simp only [go_sem]; rfl) rfl) ?_) | (refine zp rfl rfl (pl_store (by simp +decide only [go_sem]; rfl) (by simp +decide only [go_sem]; rfl) (by simp +decide only [go_sem]; rfl) (by rfl) (by rfl) (by kernel_rfl) (by rfl) (by rfl)) ?_) | (refine zq rfl rfl (qi rfl rfl (by simp only [go_sem]; rfl) (by first | omega | (simp; omega)) (by kernel_rfl)) ?_) | (refine zq rfl rfl (qo rfl rfl (by simp only [go_sem]; rfl) rfl (by first | omega | (simp; omega)) (by simp only [go_sem] <;> rfl)) ?_) | (refine zq rfl rfl (qw 0 _ rfl rfl (by first | rfl | (simp only [Nat.zero_add] <;> rfl)) (by first | omega | (simp; omega)) (by simp only [go_sem] <;> rfl)) ?_) | (refine zq rfl rfl (qb (by simp only [go_sem]; rfl) (by simp only [go_sem]; rfl) (by decide) (by kernel_rfl) (by simp +decide only [List.map, go_sem] <;> rfl) (by simp +decide only [List.map, go_sem] <;> rfl) (by rfl)) ?_) | (refine zq rfl rfl (qn rfl rfl) ?_) | (refine zq rfl rfl (qx rfl rfl) ?_) | fail)
    have hi2 : 2 * i + 1 < l.length := by omega
    have hj : ((l.length : Int) - 1 - i) = ((l.length - 1 - i : Nat) : Int) := by omega
    have ha : (rv l i)[i]? = some ((l[i]?).getD dX) := by rw [rv_at (by omega), if_neg (by omega)]
    have hb : (rv l i)[l.length - 1 - i]? = some ((l[l.length - 1 - i]?).getD dX) := by rw [rv_at (by omega), if_neg (by omega)]
    rw [hj]
    with_reducible apply AWp.drawBK (k := 14) [none, none, none, none, none, none, none, none, none, none, none, none, none, some 0] [0, 0, 1, 1, 0, 0, 0, 0, 1, 1, 1, 0, 0, 1] (fun c => match c with | 0 => [⟨24, 3, (rv l i).map encX⟩] | _ => [⟨24, 3, ((rv l i).set i ((l[l.length - 1 - i]?).getD dX)).map encX⟩]) 1 follows
    · refine ⟨rfl, rfl, by kernel_rfl, by decide, ?_, ?_⟩
      · simp +decide only [go_sem, List.map, List.take]; rfl
      · simp +decide only [go_sem, List.map, List.drop]; rfl
    · kernel_rfl
    · kernel_rfl
    · rfl
    · refine BRun.qf0 rfl rfl (by simp +decide only [go_sem] <;> rfl) ?_
      refine BRun.qf0 rfl rfl (by simp +decide only [go_sem] <;> rfl) ?_
      refine BRun.qf1 rfl rfl (by simp +decide only [go_sem] <;> rfl) (by simp +decide only [go_sem] <;> rfl) ?_
      refine BRun.qf1 rfl rfl (by simp +decide only [go_sem] <;> rfl) (by simp +decide only [go_sem] <;> rfl) ?_
      refine BRun.qf0 rfl rfl (by simp +decide only [go_sem] <;> rfl) ?_
      refine BRun.qf0 rfl rfl (by simp +decide only [go_sem] <;> rfl) ?_
      refine BRun.q0 rfl rfl (ql_indexAddr_own (by simp +decide only [go_sem] <;> rfl) (by simp +decide only [go_sem] <;> rfl) Try.underlying22 (by rfl) (by simp [rv_len]) (by omega) (by omega) (by kernel_rfl)) ?_
      refine BRun.q0 rfl rfl (ql_loadX (b := 0) (i := l.length - 1 - i) (by simp +decide [go_sem]) (by rfl) (rv_len l i) hb) ?_
      refine BRun.qf1 rfl rfl (by simp +decide only [go_sem] <;> rfl) (by simp +decide only [go_sem] <;> rfl) ?_
      refine BRun.qf1 rfl rfl (by simp +decide only [go_sem] <;> rfl) (by simp +decide only [go_sem] <;> rfl) ?_
      refine BRun.q1 rfl rfl (fun c _ hc => by
        rcases (by omega : c = 0 ∨ c = 1) with h | h <;> subst h <;>
        exact ql_indexAddr_own (by simp +decide only [go_sem] <;> rfl) (by simp +decide only [go_sem] <;> rfl) Try.underlying22 (by rfl) (by simp [rv_len]) (by omega) (by omega) (by kernel_rfl)) ?_
      refine BRun.q0 rfl rfl (ql_loadX (b := 0) (i := i) (by simp +decide [go_sem]) (by rfl) (rv_len l i) ha) ?_
      refine BRun.q0 rfl rfl (ql_indexAddr_own (by simp +decide only [go_sem] <;> rfl) (by simp +decide only [go_sem] <;> rfl) Try.underlying22 (by rfl) (by simp [rv_len]) (by omega) (by omega) (by kernel_rfl)) ?_
      refine BRun.p1 rfl rfl (fun ρ' h => pl_storeX (b := 0) (H := [⟨24, 3, (rv l i).map encX⟩]) ((l[l.length - 1 - i]?).getD dX) (i := i) ((h (.tmp 26) (by simp [Op.operands])).trans (by simp +decide [go_sem])) ((h (.tmp 21) (by simp [Op.operands])).trans (by simp +decide only [go_sem] <;> rfl)) (by rfl) (rv_len l i) (by rw [rv_len]; omega)) ?_
      refine BRun.nil ?_
      repeat (first | (with_reducible first | apply zs | apply zN | apply z1 | apply z2 | apply z3 | apply z4 | apply z5 | apply z6 | refine z7 rfl ?_ | apply zb | apply zk | apply zr | apply ze | apply y1 | apply y2) | ((with_reducible apply zR); (refine ⟨rfl, rfl, ?_⟩; simp +decide only [go_sem, List.map]; rfl)) | ((with_reducible apply zG); (simp +decide only [go_sem]; rfl); (simp +decide only [go_sem]; (repeat simp +decide only [go_sem]); rfl)) | (refine zp rfl rfl (pl_box (by simp +decide only [go_sem]; rfl) rfl) ?_) | (refine zp rfl rfl (pl_alloc (by simp only [go_sem]; rfl) rfl) ?_) | (refine zp rfl rfl (pl_store (by simp +decide only [go_sem]; rfl) (by simp +decide only [go_sem]; rfl) (by simp +decide only [go_sem]; rfl) (by rfl) (by rfl) (by kernel_rfl) (by rfl) (by rfl)) ?_) | (refine zq rfl rfl (qi rfl rfl (by simp only [go_sem]; rfl) (by first | omega | (simp; omega)) (by kernel_rfl)) ?_) | (refine zq rfl rfl (qo rfl rfl (by simp only [go_sem]; rfl) rfl (by first | omega | (simp; omega)) (by simp only [go_sem] <;> rfl)) ?_) | (refine zq rfl rfl (qw 0 _ rfl rfl (by first | rfl | (simp only [Nat.zero_add] <;> rfl)) (by first | omega | (simp; omega)) (by simp only [go_sem] <;> rfl)) ?_) | (refine zq rfl rfl (qb (by simp only [go_sem]; rfl) (by simp only [go_sem]; rfl) (by decide) (by kernel_rfl) (by simp +decide only [List.map, go_sem] <;> rfl) (by simp +decide only [List.map, go_sem] <;> rfl) (by rfl)) ?_) | (refine zq rfl rfl (qn rfl rfl) ?_) | (refine zq rfl rfl (qx rfl rfl) ?_) | fail)
      refine ARun.q1 rfl rfl (ql_indexAddr_own (by simp +decide only [go_sem] <;> rfl) (by simp +decide only [go_sem] <;> rfl) Try.underlying22 (by rfl) (by simp [rv_len]) (by omega) (by omega) (by kernel_rfl)) ?_
      refine ARun.p1 rfl rfl (pl_storeX (b := 0) (tot := l.length) ((l[i]?).getD dX) (i := l.length - 1 - i) (by simp +decide [go_sem]) (by simp +decide only [go_sem] <;> rfl) (by rfl) (by simp [rv_len]) (by simp [rv_len]; omega)) ?_
      simp only [List.set, rv_step hi2]
      repeat (first | (with_reducible first | apply zs | apply zN | apply z1 | apply z2 | apply z3 | apply z4 | apply z5 | apply z6 | refine z7 rfl ?_ | apply zb | apply zk | apply zr | apply ze | apply y1 | apply y2) | ((with_reducible apply zR); (refine ⟨rfl, rfl, ?_⟩; simp +decide only [go_sem, List.map]; rfl)) | ((with_reducible apply zG); (simp +decide only [go_sem]; rfl); (simp +decide only [go_sem]; (repeat simp +decide only [go_sem]); rfl)) | (refine zp rfl rfl (pl_box (by simp +decide only [go_sem]; rfl) rfl) ?_) | (refine zp rfl rfl (pl_alloc (by simp only [go_sem]; rfl) rfl) ?_) | (refine zp rfl rfl (pl_store (by simp +decide only [go_sem]; rfl) (by simp +decide only [go_sem]; rfl) (by simp +decide only [go_sem]; rfl) (by rfl) (by rfl) (by kernel_rfl) (by rfl) (by rfl)) ?_) | (refine zq rfl rfl (qi rfl rfl (by simp only [go_sem]; rfl) (by first | omega | (simp; omega)) (by kernel_rfl)) ?_) | (refine zq rfl rfl (qo rfl rfl (by simp only [go_sem]; rfl) rfl (by first | omega | (simp; omega)) (by simp only [go_sem] <;> rfl)) ?_) | (refine zq rfl rfl (qw 0 _ rfl rfl (by first | rfl | (simp only [Nat.zero_add] <;> rfl)) (by first | omega | (simp; omega)) (by simp only [go_sem] <;> rfl)) ?_) | (refine zq rfl rfl (qb (by simp only [go_sem]; rfl) (by simp only [go_sem]; rfl) (by decide) (by kernel_rfl) (by simp +decide only [List.map, go_sem] <;> rfl) (by simp +decide only [List.map, go_sem] <;> rfl) (by rfl)) ?_) | (refine zq rfl rfl (qn rfl rfl) ?_) | (refine zq rfl rfl (qx rfl rfl) ?_) | fail)
      rw [wrap_succ (by omega), wrap_id (by omega) (by omega)]
      exact ⟨i + 1, by omega, by omega, (.env' (by simp +decide only [go_sem, show ((l.length - 1 - i : Nat) : Int) - 1 = (l.length : Int) - 1 - (i + 1 : Nat) by omega] <;> simp [Le.refl, show ((l.length - 1 - i : Nat) : Int) - 1 = (l.length : Int) - 1 - (i + 1 : Nat) by omega]))⟩
  simp at hd
  repeat (first | (with_reducible first | apply zs | apply zN | apply z1 | apply z2 | apply z3 | apply z4 | apply z5 | apply z6 | refine z7 rfl ?_ | apply zb | apply zk | apply zr | apply ze | apply y1 | apply y2) | ((with_reducible apply zR); (refine ⟨rfl, rfl, ?_⟩; simp +decide only [go_sem, List.map]; rfl)) | ((with_reducible apply zG); (simp +decide only [go_sem]; rfl); (simp +decide only [go_sem]; (repeat simp +decide only [go_sem]); rfl)) | (refine zp rfl rfl (pl_box (by simp +decide only [go_sem]; rfl) rfl) ?_) | (refine zp rfl rfl (pl_alloc (by simp only [go_sem]; rfl) rfl) ?_) | (refine zp rfl rfl (pl_store (by simp +decide only [go_sem]; rfl) (by simp +decide only [go_sem]; rfl) (by simp +decide only [go_sem]; rfl) (by rfl) (by rfl) (by kernel_rfl) (by rfl) (by rfl)) ?_) | (refine zq rfl rfl (qi rfl rfl (by simp only [go_sem]; rfl) (by first | omega | (simp; omega)) (by kernel_rfl)) ?_) | (refine zq rfl rfl (qo rfl rfl (by simp only [go_sem]; rfl) rfl (by first | omega | (simp; omega)) (by simp only [go_sem] <;> rfl)) ?_) | (refine zq rfl rfl (qw 0 _ rfl rfl (by first | rfl | (simp only [Nat.zero_add] <;> rfl)) (by first | omega | (simp; omega)) (by simp only [go_sem] <;> rfl)) ?_) | (refine zq rfl rfl (qb (by simp only [go_sem]; rfl) (by simp only [go_sem]; rfl) (by decide) (by kernel_rfl) (by simp +decide only [List.map, go_sem] <;> rfl) (by simp +decide only [List.map, go_sem] <;> rfl) (by rfl)) ?_) | (refine zq rfl rfl (qn rfl rfl) ?_) | (refine zq rfl rfl (qx rfl rfl) ?_) | fail)
  exact RetH.same rfl rfl (by rw [rv_end (by omega)])
end Go.Ab
