/- The library's text of strings.Join, laid at this program. -/
import Derived.Shelf.Strings.OnBuilder
import Derived.Test.YtdgfgadmcahnlaaDoorTA
import Derived.Test.YtdgfgadmcahnlaaDoorAbK
import Derived.Test.YtdgfgadmcahnlaaDoorTF
import Derived.Test.YtdgfgadmcahnlaaDoorAbI
import Derived.Test.YtdgfgadmcahnlaaDoorAbG
set_option linter.unusedSimpArgs false
set_option linter.unusedVariables false
namespace Go.Ab
open Go Go.Proofs Go.Shelf Go.RowKit
def renJ : Go.Shelf.Ren := ⟨fun | 156 => 50 | 165 => 86 | 166 => 87 | 169 => 88 | 240 => 109 | 241 => 110 | 276 => 117 | 277 => 118 | n => n, fun | 31 => 25 | 37 => 82 | 70 => 81 | 72 => 84 | 75 => 87 | 76 => 88 | 80 => 90 | 127 => 111 | 164 => 117 | n => n, fun | 3 => 0 | 4 => 1 | n => n⟩
theorem laysJ : Lays.n156 Tryd.prog renJ := {
  mixed := by kernel_rfl
  f156 := Tryd.func50.trans (by kernel_rfl)
  f165 := Tryd.func86.trans (by kernel_rfl)
  f166 := Tryd.func87.trans (by kernel_rfl)
  f169 := Tryd.func88.trans (by kernel_rfl)
  f240 := Tryd.func109.trans (by kernel_rfl)
  f241 := Tryd.func110.trans (by kernel_rfl)
  f276 := Tryd.func117.trans (by kernel_rfl)
  f277 := Tryd.func118.trans (by kernel_rfl)
  t0 := Tryd.underlying0
  a0 := Tryd.isAgg0
  z0 := Tryd.sizeOf0
  v0 := Tryd.zeroValue0
  t3 := Tryd.underlying3
  a3 := Tryd.isAgg3
  z3 := Tryd.sizeOf3
  v3 := Tryd.zeroValue3
  t4 := Tryd.underlying4
  a4 := Tryd.isAgg4
  z4 := Tryd.sizeOf4
  v4 := Tryd.zeroValue4
  t9 := Tryd.underlying9
  a9 := Tryd.isAgg9
  z9 := Tryd.sizeOf9
  v9 := Tryd.zeroValue9
  t20 := Tryd.underlying20
  a20 := Tryd.isAgg20
  z20 := Tryd.sizeOf20
  v20 := Tryd.zeroValue20
  t31 := Tryd.underlying25
  a31 := Tryd.isAgg25
  z31 := Tryd.sizeOf25
  v31 := Tryd.zeroValue25
  t37 := Tryd.underlying82
  a37 := Tryd.isAgg82
  z37 := Tryd.sizeOf82
  v37 := Tryd.zeroValue82
  t70 := Tryd.underlying81
  a70 := Tryd.isAgg81
  z70 := Tryd.sizeOf81
  v70 := Tryd.zeroValue81
  t72 := Tryd.underlying84
  a72 := Tryd.isAgg84
  z72 := Tryd.sizeOf84
  v72 := Tryd.zeroValue84
  t75 := Tryd.underlying87
  a75 := Tryd.isAgg87
  z75 := Tryd.sizeOf87
  v75 := Tryd.zeroValue87
  t76 := Tryd.underlying88
  a76 := Tryd.isAgg88
  z76 := Tryd.sizeOf88
  v76 := Tryd.zeroValue88
  t127 := Tryd.underlying111
  a127 := Tryd.isAgg111
  z127 := Tryd.sizeOf111
  v127 := Tryd.zeroValue111
  t164 := Tryd.underlying117
  a164 := Tryd.isAgg117
  z164 := Tryd.sizeOf117
  v164 := Tryd.zeroValue117 }
theorem extraJ : Builder.Extra Tryd.prog renJ := {
  sizeBuilder := by kernel_rfl
  liesBuilder := by kernel_rfl
  t5 := Tryd.underlying5
  a5 := Tryd.isAgg5
  z5 := Tryd.sizeOf5
  v5 := Tryd.zeroValue5
  infoByte := by kernel_rfl
  cellsByte := by kernel_rfl
  sizeByte := by kernel_rfl
  neB5 := by decide }
end Go.Ab
namespace Go.Ab
open Go Go.Proofs Go.Shelf Go.RowKit
theorem two_vals {vs : Array Value} {a b : Value} (h : vs.size = 2) (h0 : vs[0]? = some a) (h1 : vs[1]? = some b) : vs = #[a, b] := by
  apply Array.ext (by simp [h])
  intro i hi1 hi2
  rcases i with _ | _ | i
  · rw [Array.getElem?_eq_getElem hi1] at h0; injection h0
  · rw [Array.getElem?_eq_getElem hi1] at h1; injection h1
  · simp at hi2; omega
theorem join_ok (l : List ByteArray) (sep : ByteArray) (hl : l.length ≤ 1000000) (hlen : (Lib.join (l.map (·.data.toList)) sep.data.toList).length ≤ 140737488355328) :
    Fn Tryd.prog 50 [.lst (l.map fun s => .base (.string s)), .base (.string sep)] (.base (.string ⟨(Lib.join (l.map (·.data.toList)) sep.data.toList).toArray⟩)) := by
  refine ⟨⟨Tryd.f50, by kernel_rfl, by kernel_rfl, by kernel_rfl⟩, fun w O vs _ hO hsz hv => ?_⟩
  have hs2 : vs.size = 2 := hsz
  have g0 : vs[0]? = some vs[0] := Array.getElem?_eq_getElem (by omega)
  have g1 : vs[1]? = some vs[1] := Array.getElem?_eq_getElem (by omega)
  have h1 := (hv 1 _ _ rfl g1).base_inv
  have h0 := hv 0 _ _ rfl g0
  rw [h1] at g1
  have hfin : ∀ u : Value, vs[0]? = some u → (Calls Tryd.prog 50 #[u, .string sep] w fun e w' => e = .returned (.string ⟨(Lib.join (l.map (·.data.toList)) sep.data.toList).toArray⟩) ∧ Below w.heap.size w w') →
      Calls Tryd.prog 50 vs w fun e w' => ∃ v, e = .returned v ∧ VR w' O noB [] (.base (.string ⟨(Lib.join (l.map (·.data.toList)) sep.data.toList).toArray⟩)) v ∧ Below w.heap.size w w' := by
    intro u hu hc
    rw [two_vals hs2 hu g1]
    refine hc.mono ?_
    rintro e w' ⟨rfl, hb⟩
    exact ⟨_, rfl, .base _, hb⟩
  generalize vs[0] = u at *
  refine hfin u g0 ?_
  generalize hes : l.map (fun s => AV.base (.string s)) = es at *
  cases h0 with
  | lnil =>
    have : l = [] := by simpa using hes
    subst this
    exact (Any.strings_Join_none laysJ extraJ none 0 sep w).mono fun e w' h => ⟨h.1, h.2 ▸ Below.refl _ _⟩
  | lst es a n cap s val hn hcap hmax hlen2 hspot hc hv2 =>
    subst hes
    have hnl : n = l.length := by simpa using hn
    subst hnl
    rcases l with _ | ⟨x, r⟩
    · exact (Any.strings_Join_none laysJ extraJ (some a) cap sep w).mono fun e w' h => ⟨h.1, h.2 ▸ Below.refl _ _⟩
    · have hsp : a.spot = none := hspot (.base (.string x)) (by simp)
      have hs1 : s = 1 := (hlen2 (.base (.string x)) (by simp)).symm
      subst hs1
      obtain ⟨bk, off, sp⟩ := a
      simp only at hsp; subst hsp
      have hcl : ∀ (j : Nat) y, (x :: r)[j]? = some y → w.cell? ⟨bk, off + j, none⟩ = some (.string y) := fun j y hj => by
        have e1 : ((x :: r).map (fun s => AV.base (.string s)))[j]? = some (.base (.string y)) := by rw [List.getElem?_map, hj]; rfl
        have k1 := (hc j 0 _ _ e1 rfl).2
        have k2 := (hv2 j 0 _ _ e1 rfl).base_inv
        rw [k2] at k1
        simpa using k1
      have hbk : bk < w.heap.size := by
        have := hcl 0 x rfl
        exact Classical.byContradiction fun hn => by
          have h9 : w.heap[bk]? = none := Array.getElem?_eq_none (by omega)
          simp [World.cell?, h9] at this
      exact Any.strings_Join laysJ extraJ bk off cap (x :: r) sep w hcl hbk (by omega) hcap hlen
end Go.Ab
-- fnh
set_option maxHeartbeats 4000000
namespace Go.Ab
open Go Go.Ab Go.Proofs Go.Ab.Ty

/-! ### slices.Reverse on texts -/
section
variable {H : List ABlk} {ρ : Operand → AV}
theorem ql_loadS {x : Operand} {b tot i : Nat} {l : List ByteArray} {v : ByteArray} (hx : ρ x = .ptr b tot i 0) (hb : H[b]? = some ⟨9, 1, l.map str⟩) (ht : l.length = tot) (hv : l[i]? = some v) : QL Tryd.prog H ρ (.load 9 x) (str v) := by
  refine ql_fun1 ?_
  have e : (l.map str)[i]? = some (str v) := by rw [List.getElem?_map, hv]; rfl
  have e2 : ldE (aggTy Tryd.prog 9) (szTy Tryd.prog 9) (str v) 0 = some (str v) := by
    rw [show aggTy Tryd.prog 9 = some false by kernel_rfl, show szTy Tryd.prog 9 = some 1 by kernel_rfl]; rfl
  simp only [qfun, hx, hb, List.length_map, ht, if_true, e, e2]
theorem pl_storeS {x y : Operand} {b tot i : Nat} {l : List ByteArray} (v : ByteArray) (hx : ρ x = .ptr b tot i 0) (hy : ρ y = str v) (hb : H[b]? = some ⟨9, 1, l.map str⟩) (ht : l.length = tot) (hi : i < l.length) :
    PL Tryd.prog H ρ (.store 9 x y) .bad (H.set b ⟨9, 1, (l.set i v).map str⟩) := by
  exact pl_store_own v hx hy hb ht hi (by kernel_rfl) rfl rfl
end
def dX : ByteArray := ByteArray.empty
def rv (l : List ByteArray) (i : Nat) : List ByteArray := (List.range l.length).map fun p => if p < i ∨ l.length - 1 - p < i then (l[l.length - 1 - p]?).getD dX else (l[p]?).getD dX
theorem rv_len (l : List ByteArray) (i : Nat) : (rv l i).length = l.length := by simp [rv]
theorem rv_at {l : List ByteArray} {i p : Nat} (h : p < l.length) : (rv l i)[p]? = some (if p < i ∨ l.length - 1 - p < i then (l[l.length - 1 - p]?).getD dX else (l[p]?).getD dX) := by
  simp [rv, h]
theorem rv_0 (l : List ByteArray) : rv l 0 = l := by
  apply List.ext_getElem?
  intro p
  rcases Nat.lt_or_ge p l.length with h | h
  · rw [rv_at h, if_neg (by omega), List.getElem?_eq_getElem h]; rfl
  · rw [List.getElem?_eq_none (by rw [rv_len]; exact h), List.getElem?_eq_none h]
theorem rv_end {l : List ByteArray} {i : Nat} (hi : l.length ≤ 2 * i + 1) : rv l i = l.reverse := by
  apply List.ext_getElem?
  intro p
  rcases Nat.lt_or_ge p l.length with h | h
  · rw [rv_at h, List.getElem?_reverse h]
    by_cases hp : p < i ∨ l.length - 1 - p < i
    · rw [if_pos hp, List.getElem?_eq_getElem (by omega)]; rfl
    · rw [if_neg hp, show l.length - 1 - p = p by omega, List.getElem?_eq_getElem h]; rfl
  · rw [List.getElem?_eq_none (by rw [rv_len]; exact h), List.getElem?_eq_none (by simpa using h)]
theorem rv_step {l : List ByteArray} {i : Nat} (hi : 2 * i + 1 < l.length) :
    ((rv l i).set i ((l[l.length - 1 - i]?).getD dX)).set (l.length - 1 - i) ((l[i]?).getD dX) = rv l (i + 1) := by
  apply List.ext_getElem?
  intro p
  rcases Nat.lt_or_ge p l.length with h | h
  · rw [rv_at h, List.getElem?_set, List.getElem?_set, rv_at h]
    simp only [List.length_set, rv_len]
    by_cases e1 : l.length - 1 - i = p
    · rw [if_pos e1, if_pos (by omega), if_pos (by omega)]; congr 3; omega
    · rw [if_neg e1]
      by_cases e2 : i = p
      · rw [if_pos e2, if_pos (by omega), if_pos (by omega), e2]
      · rw [if_neg e2]
        by_cases h3 : p < i ∨ l.length - 1 - p < i
        · rw [if_pos h3, if_pos (by omega)]
        · rw [if_neg h3, if_neg (by omega)]
  · rw [List.getElem?_eq_none (by simp [rv_len]; exact h), List.getElem?_eq_none (by rw [rv_len]; exact h)]
attribute [local go_sem] List.length_map beq_self_eq_true rv_len
theorem revS_ok (l : List ByteArray) (hl : l.length ≤ 1048576) : FnH Tryd.prog 72 [.own 0 l.length 0 l.length] [⟨9, 1, l.map str⟩] (.tup []) [⟨9, 1, l.reverse.map str⟩] := by
  refine FnH.intro' [(0, .own 0 l.length 0 l.length)] 1 28 1 Tryd.func72 (by kernel_rfl) rfl rfl rfl rfl rfl rfl ?_
  refine goD ?_
  rw [wrap_id (by omega) (by omega)]
  refine AWp.loopH (J := fun i : Nat => i ≤ l.length) (fun i => [(2, .int i), (3, .int (l.length - 1 - i))]) (fun i => [⟨9, 1, (rv l i).map str⟩]) (fun i => l.length - i) 0 (Nat.zero_le _) (by rw [rv_0]; exact (.env' (by simp +decide only [go_sem, show (l.length : Int) - 1 - ((0 : Nat) : Int) = l.length - 1 by omega] <;> simp [Le.refl, show (l.length : Int) - 1 - ((0 : Nat) : Int) = l.length - 1 by omega]))) ?_
  rintro i hi
  refine goD ?_
  refine ifA (fun hd => ?_) (fun hd => ?_)
  · simp at hd
    refine goD ?_
    have hi2 : 2 * i + 1 < l.length := by omega
    have hj : ((l.length : Int) - 1 - i) = ((l.length - 1 - i : Nat) : Int) := by omega
    have ha : (rv l i)[i]? = some ((l[i]?).getD dX) := by rw [rv_at (by omega), if_neg (by omega)]
    have hb : (rv l i)[l.length - 1 - i]? = some ((l[l.length - 1 - i]?).getD dX) := by rw [rv_at (by omega), if_neg (by omega)]
    rw [hj]
    with_reducible apply AWp.drawBK (k := 14) [none, none, none, none, none, none, none, none, none, none, none, none, none, some 0] [0, 0, 1, 1, 0, 0, 0, 0, 1, 1, 1, 0, 0, 1] (fun c => match c with | 0 => [⟨9, 1, (rv l i).map str⟩] | _ => [⟨9, 1, ((rv l i).set i ((l[l.length - 1 - i]?).getD dX)).map str⟩]) 1 follows
    · refine ⟨rfl, rfl, by kernel_rfl, by decide, ?_, ?_⟩
      · simp +decide only [go_sem, List.map, List.take]; rfl
      · simp +decide only [go_sem, List.map, List.drop]; rfl
    · kernel_rfl
    · kernel_rfl
    · rfl
    · refine BRun.qf0 rfl rfl (by simp +decide only [go_sem] <;> rfl) ?_
      refine BRun.qf0 rfl rfl (by simp +decide only [go_sem] <;> rfl) ?_
      refine BRun.qf1 rfl rfl (by simp +decide only [go_sem] <;> rfl) (by simp +decide only [go_sem] <;> rfl) ?_
      refine BRun.qf1 rfl rfl (by simp +decide only [go_sem] <;> rfl) (by simp +decide only [go_sem] <;> rfl) ?_
      refine BRun.qf0 rfl rfl (by simp +decide only [go_sem] <;> rfl) ?_
      refine BRun.qf0 rfl rfl (by simp +decide only [go_sem] <;> rfl) ?_
      refine BRun.q0 rfl rfl (ql_indexAddr_own (by simp +decide only [go_sem] <;> rfl) (by simp +decide only [go_sem] <;> rfl) Tryd.underlying25 (by rfl) (by simp [rv_len]) (by omega) (by omega) (by kernel_rfl)) ?_
      refine BRun.q0 rfl rfl (ql_loadS (b := 0) (i := l.length - 1 - i) (by simp +decide [go_sem]) (by rfl) (rv_len l i) hb) ?_
      refine BRun.qf1 rfl rfl (by simp +decide only [go_sem] <;> rfl) (by simp +decide only [go_sem] <;> rfl) ?_
      refine BRun.qf1 rfl rfl (by simp +decide only [go_sem] <;> rfl) (by simp +decide only [go_sem] <;> rfl) ?_
      refine BRun.q1 rfl rfl (fun c _ hc => by
        rcases (by omega : c = 0 ∨ c = 1) with h | h <;> subst h <;>
        exact ql_indexAddr_own (by simp +decide only [go_sem] <;> rfl) (by simp +decide only [go_sem] <;> rfl) Tryd.underlying25 (by rfl) (by simp [rv_len]) (by omega) (by omega) (by kernel_rfl)) ?_
      refine BRun.q0 rfl rfl (ql_loadS (b := 0) (i := i) (by simp +decide [go_sem]) (by rfl) (rv_len l i) ha) ?_
      refine BRun.q0 rfl rfl (ql_indexAddr_own (by simp +decide only [go_sem] <;> rfl) (by simp +decide only [go_sem] <;> rfl) Tryd.underlying25 (by rfl) (by simp [rv_len]) (by omega) (by omega) (by kernel_rfl)) ?_
      refine BRun.p1 rfl rfl (fun ρ' h => pl_storeS (b := 0) (H := [⟨9, 1, (rv l i).map str⟩]) ((l[l.length - 1 - i]?).getD dX) (i := i) ((h (.tmp 26) (by simp [Op.operands])).trans (by simp +decide [go_sem])) ((h (.tmp 21) (by simp [Op.operands])).trans (by simp +decide only [go_sem] <;> rfl)) (by rfl) (rv_len l i) (by rw [rv_len]; omega)) ?_
      refine BRun.nil ?_
      refine goD ?_
      refine ARun.q1 rfl rfl (ql_indexAddr_own (by simp +decide only [go_sem] <;> rfl) (by simp +decide only [go_sem] <;> rfl) Tryd.underlying25 (by rfl) (by simp [rv_len]) (by omega) (by omega) (by kernel_rfl)) ?_
      refine ARun.p1 rfl rfl (pl_storeS (b := 0) (tot := l.length) ((l[i]?).getD dX) (i := l.length - 1 - i) (by simp +decide [go_sem]) (by simp +decide only [go_sem] <;> rfl) (by rfl) (by simp [rv_len]) (by simp [rv_len]; omega)) ?_
      simp only [List.set, rv_step hi2]
      refine goD ?_
      rw [wrap_succ (by omega), wrap_id (by omega) (by omega)]
      exact ⟨i + 1, by omega, by omega, (.env' (by simp +decide only [go_sem, show ((l.length - 1 - i : Nat) : Int) - 1 = (l.length : Int) - 1 - (i + 1 : Nat) by omega] <;> simp [Le.refl, show ((l.length - 1 - i : Nat) : Int) - 1 = (l.length : Int) - 1 - (i + 1 : Nat) by omega]))⟩
  simp at hd
  refine goD ?_
  exact RetH.same rfl rfl (by rw [rv_end (by omega)])
end Go.Ab
-- fnh
set_option maxHeartbeats 4000000
namespace Go.Ab
open Go Go.Ab Go.Proofs Go.Ab.Ty

/-! ### Reverse -/
theorem inter_nil {α : Type} : ∀ l : List (List α), ([] : List α).intercalate l = l.flatten
  | [] => rfl
  | [x] => by simp [List.intercalate]
  | x :: y :: r => by
    have ih := inter_nil (y :: r)
    simp only [List.intercalate, List.intersperse] at ih ⊢
    simp only [List.flatten_cons, List.nil_append] at ih ⊢
    rw [ih]
def cat (l : List ByteArray) : ByteArray := ⟨((l.map (·.data.toList)).flatten).toArray⟩
theorem cat_size (l : List ByteArray) : (cat l).size = (l.map ByteArray.size).sum := by
  show ((l.map (·.data.toList)).flatten).toArray.size = _
  rw [List.size_toArray, List.length_flatten, List.map_map]; rfl
theorem join_e (l : List ByteArray) : (⟨(Lib.join (l.map (·.data.toList)) (⟨#[]⟩ : ByteArray).data.toList).toArray⟩ : ByteArray) = cat l := by
  show (⟨(([] : List UInt8).intercalate (l.map (·.data.toList))).toArray⟩ : ByteArray) = _
  rw [inter_nil]; rfl
theorem joinE_ok (l : List ByteArray) (hl : l.length ≤ 1000000) (hs : (cat l).size ≤ 1000000) : Fn Tryd.prog 50 [.lst (l.map str), str ⟨#[]⟩] (str (cat l)) := by
  have h := join_ok l ⟨#[]⟩ hl (by
    have := congrArg ByteArray.size (join_e l)
    have e : (Lib.join (l.map (·.data.toList)) (⟨#[]⟩ : ByteArray).data.toList).length = (cat l).size := by rw [← this]; exact List.size_toArray.symm
    omega)
  rw [join_e] at h
  exact h
theorem sum_rev (l : List Nat) : l.reverse.sum = l.sum := by
  induction l with
  | nil => rfl
  | cons a l ih => simp [ih]; omega
theorem cat_rev (l : List ByteArray) : (cat l.reverse).size = (cat l).size := by
  rw [cat_size, cat_size, List.map_reverse, sum_rev]
theorem cut_sum {s : ByteArray} {B : List Nat} (ho : ∀ i, i + 1 < B.length → mk s B i < mk s B (i + 1) ∧ mk s B (i + 1) ≤ s.size) : ∀ k, k + 1 ≤ B.length → mk s B 0 ≤ mk s B k ∧ ((cutB s B k).map ByteArray.size).sum = mk s B k - mk s B 0
  | 0, _ => ⟨Nat.le_refl _, by simp [cutB]⟩
  | k + 1, h => by
    obtain ⟨h1, h2⟩ := cut_sum ho k (by omega)
    have h3 := ho k (by omega)
    refine ⟨by omega, ?_⟩
    have e : cutB s B (k + 1) = cutB s B k ++ [s.extract (mk s B k) (mk s B (k + 1))] := by simp [cutB, List.range_succ]
    rw [e, List.map_append, List.sum_append, h2]
    simp only [List.map_cons, List.map_nil, List.sum_cons, List.sum_nil, ByteArray.size_extract]
    omega
theorem mks_first (s : ByteArray) : mk s (mks s) 0 = 0 := by
  have : ∀ k, 0 < k → ∃ r, bF s k = 0 :: r := by
    intro k hk
    induction k with
    | zero => omega
    | succ k ih =>
      rcases Nat.eq_zero_or_pos k with rfl | h
      · exact ⟨[], by simp [bF, pz]⟩
      · obtain ⟨r, hr⟩ := ih h
        rw [bF]; split
        · exact ⟨r ++ [pz s k], by rw [hr]; rfl⟩
        · exact ⟨r, hr⟩
  unfold mk mks
  split
  · rename_i h
    obtain ⟨r, hr⟩ := this (nch s) (nch_iff.2 (by rw [pz]; exact h))
    rw [hr]; rfl
  · rfl
theorem mks_last (s : ByteArray) : mk s (mks s) ((mks s).length - 1) = s.size := by
  have hl := (mks_len s).1
  rw [mk_get (by omega)]
  unfold mks
  split
  · simp
  · simp; omega
theorem clu_size (s : ByteArray) : (cat (clu s)).size = s.size := by
  have hl := (mks_len s).1
  rw [cat_size]
  unfold clu
  have := (cut_sum (s := s) (B := mks s) (fun i h => mk_ord s h) ((mks s).length - 1) (by omega)).2
  rw [this, mks_first, mks_last]; omega
theorem clu_len (s : ByteArray) : (clu s).length = (mks s).length - 1 := by unfold clu; exact cutB_len _ _ _
theorem clustersH_ok (s : ByteArray) (hs : s.size ≤ 900000) : FnH Tryd.prog 69 [str s] [] (.own 0 (clu s).length 0 (clu s).length) [⟨9, 1, (clu s).map str⟩] := by
  have hb := boundaries_ok s hs
  have ho := fun i h => mk_ord s (i := i) h
  have hl := mks_len s
  have hbm : bnds s = mks s ∨ (bnds s = [] ∧ (mks s).length = 1) := by
    unfold bnds mks
    split
    · exact .inl rfl
    · exact .inr ⟨rfl, rfl⟩
  unfold clu
  generalize mks s = B at *
  generalize bnds s = B2 at *
  rw [cutB_len]
  have hB2 : B2.length ≤ B.length ∧ B.length ≤ B2.length + 1 ∧ (B2.length = B.length ∨ B.length = 1) := by
    rcases hbm with rfl | ⟨rfl, h⟩
    · omega
    · simp; omega
  refine FnH.intro' [(0, str s)] 1 29 0 Tryd.func69 (by kernel_rfl) rfl rfl rfl rfl rfl rfl ?_
  refine goD ?_
  refine callA (hb) ?_
  refine goD ?_
  refine AWp.loop (J := fun k : Nat => k + 1 ≤ B.length)
    (fun k => ⟨[(0, str s), (2, .base (.slice none 0 0)), (3, .lst (B2.map encO)), (4, .own 0 k 0 k), (5, .int (k + 1 : Nat))], [⟨9, 1, (cutB s B k).map str⟩]⟩) (fun k => B.length - k) 0 (by omega) (.nil 9 1 (by simp [List.forall_mem_cons, lk, Le.refl])) ?_
  intro k hk
  refine goD ?_
  refine ifA (fun h => ?_) (fun h => ?_)
  · have h := of_decide_eq_true h
    obtain rfl : B2 = B := by
      rcases hbm with e | ⟨rfl, _⟩
      · exact e
      · simp at h; omega
    have ho := ho k (by omega)
    refine goD ?_
    refine drA (k := 13) follows (hr := ?_)
    refine goD ?_
    rw [wrap_id (by omega) (by omega), show ((k + 1 : Nat) : Int) - 1 = (k : Int) by omega]
    refine goD ?_
    rw [show nth default B2 (k : Int) = mk s B2 k from rfl, show nth default B2 ((k + 1 : Nat) : Int) = mk s B2 (k + 1) from rfl]
    refine ARun.q1 rfl rfl (ql_slice_str (l := mk s B2 k) (h := mk s B2 (k + 1)) rfl Tryd.underlying9 (by simp [bnd, lk, go_sem]) (by simp [bnd, lk, go_sem]) (by omega) (by omega)) ?_
    refine goD ?_
    refine ARun.p1 rfl rfl (pl_append (b := 0) (tot := k) (es := [str (s.extract (mk s B2 k) (mk s B2 (k + 1)))]) (by simp +decide only [go_sem] <;> rfl) (by simp +decide only [go_sem] <;> rfl) rfl (by simp [cutB_len]) Tryd.underlying25 el9d rfl rfl (by simp) (fun e he => by rw [List.mem_singleton] at he; subst he; exact ⟨rfl, rfl⟩) (by simp; omega) (by simp; omega)) ?_
    rw [← cutB_s]
    refine goD ?_
    rw [wrap_succ (by omega)]
    exact ⟨k + 1, by omega, by omega, .wk⟩
  have h := of_decide_eq_false h
  obtain rfl : k = B.length - 1 := by omega
  refine goD ?_
  exact RetH.same rfl rfl rfl
theorem PuBl_S (l : List ByteArray) : PuBl [⟨9, 1, l.map str⟩] := fun blk h1 e h2 c h3 => by
  rw [List.mem_singleton] at h1; subst h1
  obtain ⟨x, _, rfl⟩ := List.mem_map.1 h2
  exact Pu_str x c h3
noncomputable def revE (s : ByteArray) : ByteArray := if errF s = 0 then cat (clu s).reverse else ⟨#[]⟩
theorem reverseX_ok (s : ByteArray) : FnM Tryd.prog mm24 28 [str s] (.tup [str (revE s), .int (errF s)]) := by
  have hc := check_ok [s] (by simp)
  rw [errL_1] at hc
  have hm := fun h => clustersH_ok s h
  have hN : revE s = if errF s = 0 then cat (clu s).reverse else ⟨#[]⟩ := rfl
  have he := errF_sz (s := s)
  have hsz := clu_size s
  have hr := cat_rev (clu s)
  have hln := clu_len s
  have hml := mks_len s
  generalize revE s = N at *
  generalize errF s = E at *
  generalize clu s = L at *
  have hrev := fun h => revS_ok L h
  have hj := fun h h2 => joinE_ok L.reverse h h2
  refine FnM.intro' [(0, str s)] 1 18 Tryd.func28 (by kernel_rfl) rfl rfl rfl rfl rfl ?_
  refine goD ?_
  refine callA (hc) ?_
  refine goD ?_
  refine ifA (fun h1 => ?_) (fun h1 => ?_)
  · simp at h1
    rw [if_neg h1] at hN
    refine goD ?_
    exact Ret.pub rfl (by rw [hN]; exact Pub.tup' ⟨Pub.pu (.base _), Pub.pu (.base _), trivial⟩)
  simp at h1
  rw [if_pos h1] at hN
  have hs4 := (he h1).1
  have hLl : L.length ≤ 1000 := by omega
  refine goD ?_
  refine ARun.p1 rfl rfl (pl_callH (HC := []) (d' := .own 0 L.length 0 L.length) (hm (by omega)) (.new (PuBl_S _)) rfl (by simp +decide only [go_sem] <;> rfl) (by simp +decide only [go_sem, List.map]; exact ⟨.pu (.base _), trivial⟩) (.own rfl)) ?_
  refine goD ?_
  refine ARun.p1 rfl rfl (pl_callH (e := [0]) (d' := .tup []) (hrev (by omega)) (CallE.put1 (b := 0) rfl (PuBl_S _) (PuBl_S _)) rfl (by simp +decide only [go_sem] <;> rfl) (by simp +decide only [go_sem, List.map]; exact ⟨.own rfl, trivial⟩) (.pu (.tup (by simp)))) ?_
  refine goD ?_
  refine ARun.q1 rfl rfl (ql_callM (args := [.lst (L.reverse.map str), str ⟨#[]⟩]) rfl (by simp +decide only [go_sem] <;> rfl) (by simp +decide only [go_sem, List.map, LendL]; exact ⟨.ownM rfl (by simp) fun x _ => Pu_str x, .pu (.base _)⟩) (.base _) (hj (by simp; omega) (by omega))) ?_
  refine goD ?_
  exact Ret.data rfl (by rw [hN, h1]; rfl) (.tup (by simp))
end Go.Ab
