/- Part of the proof. -/
import Derived.Test.YtdgfgadmcahnlaaDoorTA
set_option linter.unusedSimpArgs false
set_option linter.unusedVariables false
set_option maxHeartbeats 4000000
namespace Go.Ab
open Go Go.Ab Go.Proofs Go.Ab.Ty

@[simp] theorem Pu_iptrB (v : Value) (n : Nat) : Pu (.iptr (.base v) n) := .iptr fun c hc => by
  simp only [AV.cells, List.mem_singleton] at hc; subst hc; exact .base _
@[simp] theorem Pu_clo1 {f : FuncId} {a : AV} : Pu a → Pu (.clo f [a]) := fun h => .clo fun c hc => by
  simp only [List.mem_singleton] at hc; subst hc; exact h
def ixS (c : Int) (l : List (Int × Int)) : Int := match l.findIdx? (fun p => decide (p.1 ≤ c ∧ c ≤ p.2)) with
  | some i => i
  | none => -1
theorem ixS_in {c : Int} {l : List (Int × Int)} {k : Nat} (hk : k < l.length) (h : (l[k]).1 ≤ c ∧ c ≤ (l[k]).2) (hn : ∀ i, ∀ hi : i < l.length, i < k → ¬ ((l[i]).1 ≤ c ∧ c ≤ (l[i]).2)) : ixS c l = k := by
  have : l.findIdx? (fun p => decide (p.1 ≤ c ∧ c ≤ p.2)) = some k := by
    rw [List.findIdx?_eq_some_iff_getElem]
    exact ⟨hk, by simpa using h, fun j hj => by simpa using hn j (by omega) hj⟩
  unfold ixS; rw [this]
theorem ixS_out {c : Int} {l : List (Int × Int)} (hn : ∀ i, ∀ hi : i < l.length, ¬ ((l[i]).1 ≤ c ∧ c ≤ (l[i]).2)) : ixS c l = -1 := by
  have : l.findIdx? (fun p => decide (p.1 ≤ c ∧ c ≤ p.2)) = none := by
    rw [List.findIdx?_eq_none_iff]
    intro x hx
    obtain ⟨i, hi, rfl⟩ := List.mem_iff_getElem.1 hx
    simpa using hn i hi
  unfold ixS; rw [this]
theorem ixS_ge (c : Int) (l : List (Int × Int)) : 0 ≤ ixS c l ↔ inS c l = true := by
  unfold ixS inS
  cases h : l.findIdx? (fun p => decide (p.1 ≤ c ∧ c ≤ p.2)) with
  | none =>
    rw [List.findIdx?_eq_none_iff] at h
    simp only [List.any_eq_true]
    constructor
    · intro h2; omega
    · rintro ⟨x, hx, h2⟩; rw [h x hx] at h2; cases h2
  | some i =>
    rw [List.findIdx?_eq_some_iff_getElem] at h
    obtain ⟨hi, h2, _⟩ := h
    simp only [List.any_eq_true]
    exact ⟨fun _ => ⟨l[i], List.getElem_mem hi, h2⟩, fun _ => by omega⟩
theorem indexF_ok (c : Int) (l : List (Int × Int)) (hl : okSp l) : Fn Tryd.prog 96 [.lst (l.map encSp), .clo 66 [.iptr (.int c) 0]] (.int (ixS c l)) := by
  have i1 := fun (k : Nat) (h : k < l.length) => class1_ok c (l[k]) (hl.2 _ (List.getElem_mem h))
  refine Fn.intro' [(0, .lst (l.map encSp)), (1, .clo 66 [.iptr (.int c) 0])] 2 19 Tryd.func96 (by kernel_rfl) rfl rfl rfl rfl rfl ?_
  refine goB ?_
  have hl1 := hl.1
  refine AWp.loopP (J := fun k : Nat => k ≤ l.length ∧ ∀ i, ∀ hi : i < l.length, i < k → ¬ ((l[i]).1 ≤ c ∧ c ≤ (l[i]).2)) (fun k => [(8, .int k), (9, .bad)]) (fun k => l.length - k) 0 ⟨Nat.zero_le _, by omega⟩ .wk ?_
  rintro k ⟨hk, hn⟩
  refine goB ?_
  refine ifA (fun hd => ?_) (fun hd => ?_)
  · simp at hd
    have i1 := i1 k hd
    have hnth : nth default l (k : Int) = l[k] := nth_eq hd
    refine goB ?_
    rw [hnth]
    refine goB ?_
    refine callA (i1) ?_
    refine goB ?_
    refine ifA (fun hq => ?_) (fun hq => ?_)
    · simp at hq
      refine goB ?_
      exact Ret.data rfl (by rw [ixS_in hd hq hn]; rfl) (.base _)
    · simp at hq
      refine goB ?_
      rw [wrap_succ (by omega)]
      refine ⟨k + 1, ⟨by omega, fun i hi h => ?_⟩, by omega, .wk⟩
      by_cases e : i < k
      · exact hn i hi e
      · obtain rfl : i = k := by omega
        omega
  · simp at hd
    refine goB ?_
    exact Ret.data rfl (by rw [ixS_out (fun i hi => hn i hi (by omega))]; rfl) (.base _)
theorem containsF_ok (c : Int) (l : List (Int × Int)) (hl : okSp l) : Fn Tryd.prog 65 [.lst (l.map encSp), .clo 66 [.iptr (.int c) 0]] (.bool (inS c l)) := by
  have i1 := indexF_ok c l hl
  refine Fn.intro' [(0, .lst (l.map encSp)), (1, .clo 66 [.iptr (.int c) 0])] 2 9 Tryd.func65 (by kernel_rfl) rfl rfl rfl rfl rfl ?_
  refine goB ?_
  refine callA (i1) ?_
  refine goB ?_
  exact Ret.bool rfl (by simp [ixS_ge])
theorem okC : ∀ p ∈ tabC, okSp p.2 := by
  intro p hp
  have : ∀ p ∈ tabC, (p.2.length ≤ 100 ∧ (p.2.all fun q => decide ((0 ≤ q.1 ∧ q.1 ≤ 2000000) ∧ 0 ≤ q.2 ∧ q.2 ≤ 2000000)) = true) := by decide
  obtain ⟨h1, h2⟩ := this p hp
  exact ⟨h1, fun q hq => by simpa using List.all_eq_true.1 h2 q hq⟩
theorem firstIn_split {c : Int} : ∀ {l : List (Cl × List (Int × Int))} {k : Nat}, (∀ i, ∀ h : i < l.length, i < k → inS c (l[i]).2 = false) → firstIn c l = firstIn c (l.drop k)
  | [], k, _ => by simp
  | p :: l, 0, _ => rfl
  | p :: l, k + 1, h => by
    have h0 := h 0 (by simp) (by omega)
    simp only [List.getElem_cons_zero] at h0
    rw [firstIn, h0, List.drop_succ_cons]
    simp only [Bool.false_eq_true, if_false]
    exact firstIn_split fun i hi hk => h (i + 1) (by simpa using hi) (by omega)
theorem class_ok (c : Int) (hc : -9223372036854775808 ≤ c ∧ c ≤ 9223372036854775807) : Fn Tryd.prog 20 [.int c] (str (nm (clsOf c))) := by
  have i1 := classes_ok
  have i2 := fun (k : Nat) (h : k < tabC.length) => containsF_ok c (tabC[k]).2 (okC _ (List.getElem_mem h))
  have hT : ∀ h : ¬ (44032 ≤ c ∧ c ≤ 55203), clsOf c = firstIn c tabC := fun h => by rw [clsOf, if_neg h]
  have hlen : tabC.length = 12 := rfl
  refine Fn.intro' [(0, .int c)] 1 28 Tryd.func20 (by kernel_rfl) rfl rfl rfl rfl rfl ?_
  refine goB ?_
  refine ifA (fun h1 => ?_) (fun h1 => ?_)
  · simp at h1
    refine goB ?_
    rw [wrap_id (by omega) (by omega)]
    refine ifA (fun h2 => ?_) (fun h2 => ?_)
    · simp at h2
      refine goB ?_
      exact Ret.data rfl (by rw [clsOf, if_pos h1, if_pos h2]; rfl) (.base _)
    · simp at h2
      refine goB ?_
      exact Ret.data rfl (by rw [clsOf, if_pos h1, if_neg h2]; rfl) (.base _)
  simp at h1
  have hT := hT (by omega)
  clear h1
  generalize tabC = T at *
  refine goB ?_
  refine callA (i1) ?_
  refine goB ?_
  refine keA [1, 2, 15, 16, 17] ?_
  refine AWp.loopP (J := fun k : Nat => k ≤ T.length ∧ ∀ i, ∀ hi : i < T.length, i < k → inS c (T[i]).2 = false) (fun k => [(17, .int k), (18, .bad)]) (fun k => T.length - k) 0 ⟨Nat.zero_le _, by omega⟩ .wk ?_
  rintro k ⟨hk, hn⟩
  refine goB ?_
  refine ifA (fun hd => ?_) (fun hd => ?_)
  · simp at hd
    have i2 := i2 k hd
    have hnth : nth default T (k : Int) = T[k] := nth_eq hd
    refine goB ?_
    rw [hnth]
    refine goB ?_
    refine ARun.q1 rfl rfl (ql_callM rfl rfl (by simp +decide only [go_sem, List.map]; exact ⟨.pu (Pu_sps _), .clo' ⟨.iptr rfl rfl rfl ⟨.pu (.base _), trivial⟩, trivial⟩, trivial⟩) (.base _) i2) ?_
    refine goB ?_
    refine ifA (fun hq => ?_) (fun hq => ?_)
    · refine goB ?_
      refine Ret.data rfl ?_ (.base _)
      rw [hT, firstIn_split hn, List.drop_eq_getElem_cons hd, firstIn, if_pos hq]; rfl
    · refine goB ?_
      rw [wrap_succ (by omega)]
      refine ⟨k + 1, ⟨by omega, fun i hi h => ?_⟩, by omega, (Wk.trim' 1 rfl (by simp +decide only [go_sem, WkP]; (repeat' apply And.intro); all_goals first | trivial | exact .pu (.base _) | exact .ptr (by decide) | exact .own (by decide) | exact .pu (by simp) | exact .bad _)) ?_⟩
      · by_cases e : i < k
        · exact hn i hi e
        · obtain rfl : i = k := by omega
          exact hq
      · exact pubB (.cons (fun e he c hc => by rw [List.mem_singleton] at he; subst he; simp [AV.cells] at hc; subst hc; exact .base _) .nil)
  simp at hd
  obtain rfl : k = T.length := by omega
  refine goB ?_
  refine Ret.data rfl ?_ (.base _)
  rw [hT, firstIn_split hn, List.drop_length]; rfl
end Go.Ab
set_option maxHeartbeats 4000000
namespace Go.Ab
open Go Go.Ab Go.Proofs Go.Ab.Ty

/-! ### the document's classes -/
def flat : List (Int × Int) → List Int
  | [] => []
  | p :: r => p.1 :: p.2 :: flat r
theorem flat_len : ∀ l : List (Int × Int), (flat l).length = 2 * l.length
  | [] => rfl
  | p :: r => by simp only [flat, List.length_cons, flat_len r]; omega
theorem flat_0 : ∀ {l : List (Int × Int)} {k : Nat} (h : k < l.length), (flat l)[2 * k]? = some (l[k]).1
  | p :: r, 0, _ => rfl
  | p :: r, k + 1, h => by
    rw [show 2 * (k + 1) = 2 * k + 1 + 1 by omega]
    simp only [flat, List.getElem?_cons_succ, List.getElem_cons_succ]
    exact flat_0 (by simpa using h)
theorem flat_1 : ∀ {l : List (Int × Int)} {k : Nat} (h : k < l.length), (flat l)[2 * k + 1]? = some (l[k]).2
  | p :: r, 0, _ => rfl
  | p :: r, k + 1, h => by
    rw [show 2 * (k + 1) + 1 = 2 * k + 1 + 1 + 1 by omega]
    simp only [flat, List.getElem?_cons_succ, List.getElem_cons_succ]
    exact flat_1 (by simpa using h)
theorem inS_of {c : Int} {l : List (Int × Int)} {k : Nat} (hk : k < l.length) (h : (l[k]).1 ≤ c ∧ c ≤ (l[k]).2) : inS c l = true := by
  simp only [inS, List.any_eq_true]; exact ⟨l[k], List.getElem_mem hk, by simpa using h⟩
theorem inS_not {c : Int} {l : List (Int × Int)} (hn : ∀ i, ∀ hi : i < l.length, ¬ ((l[i]).1 ≤ c ∧ c ≤ (l[i]).2)) : inS c l = false := by
  rw [Bool.eq_false_iff]; intro h
  simp only [inS, List.any_eq_true] at h
  obtain ⟨x, hx, h2⟩ := h
  obtain ⟨i, hi, rfl⟩ := List.mem_iff_getElem.1 hx
  exact hn i hi (by simpa using h2)
def dbl (k : Nat) : Nat := 2 * k
theorem dbl_eq (k : Nat) : dbl k = 2 * k := rfl
theorem within_ok (c : Int) (l : List (Int × Int)) (hl : l.length ≤ 100) : Fn Tryd.prog 67 [.int c, .lst ((flat l).map AV.int)] (.bool (inS c l)) := by
  have hlen := flat_len l
  have h0 := fun (k : Nat) (h : k < l.length) => flat_0 h
  have h1 := fun (k : Nat) (h : k < l.length) => flat_1 h
  generalize flat l = F at *
  refine Fn.intro' [(0, .int c), (1, .lst (F.map AV.int))] 2 28 Tryd.func67 (by kernel_rfl) rfl rfl rfl rfl rfl ?_
  refine goB ?_
  refine AWp.loopP (J := fun k : Nat => k ≤ l.length ∧ ∀ i, ∀ hi : i < l.length, i < k → ¬ ((l[i]).1 ≤ c ∧ c ≤ (l[i]).2)) (fun k => [(5, .int (dbl k))]) (fun k => l.length - k) 0 ⟨Nat.zero_le _, by omega⟩ (.env' (by simp +decide only [go_sem]; exact Le.refl _)) ?_
  rintro k ⟨hk, hn⟩
  have hdb := dbl_eq k
  have hdb1 := dbl_eq (k + 1)
  generalize dbl k = m at *
  refine goB ?_
  rw [wrap_id (by omega) (by omega)]
  refine ifA (fun hd => ?_) (fun hd => ?_)
  · simp at hd
    have hk2 : k < l.length := by omega
    have e0 : nth 0 F (m : Int) = (l[k]).1 := by
      have := h0 k hk2
      rw [← hdb] at this
      simp [nth, this]
    have e1 : nth 0 F ((m : Int) + 1) = (l[k]).2 := by
      have := h1 k hk2
      rw [← hdb] at this
      rw [show ((m : Int) + 1) = ((m + 1 : Nat) : Int) by omega]
      simp [nth, this]
    refine goB ?_
    rw [e0]
    refine goB ?_
    rw [wrap_id (by omega) (by omega)]
    refine gqA (h := fun hg => ql_idxI (by simp +decide only [go_sem] <;> rfl) (by simp +decide only [go_sem] <;> rfl) Tryd.underlying37 (by omega) (by omega) (by kernel_rfl)) (hr := ?_)
    refine goB ?_
    rw [e1]
    refine goB ?_
    refine ifA (fun hq => ?_) (fun hq => ?_)
    · simp at hq
      refine goB ?_
      exact Ret.data rfl (by rw [inS_of hk2 (by omega)]; rfl) (.base _)
    · simp at hq
      refine goB ?_
      rw [wrap_id (by omega) (by omega)]
      refine ⟨k + 1, ⟨by omega, fun i hi h => ?_⟩, by omega, ?_⟩
      · by_cases e : i < k
        · exact hn i hi e
        · obtain rfl : i = k := by omega
          omega
      · rw [show (m : Int) + 2 = ((dbl (k + 1) : Nat) : Int) by omega]; exact .wk
  · simp at hd
    refine goB ?_
    exact Ret.data rfl (by rw [inS_not (fun i hi => hn i hi (by omega))]; rfl) (.base _)
def refCls (c : Int) : Cl :=
  if c = 13 then .cr else if c = 10 then .lf else if inS c spC then .control else if inS c spE then .extend else if c = 8205 then .zwj else
  if inS c spS then .spacing else if inS c spP then .prepend else if inS c [(0x1100, 0x115F)] then .l else if inS c [(0x1160, 0x11A7)] then .v else if inS c [(0x11A8, 0x11FF)] then .t else
  if inS c [(44032, 55203)] then (if (c - 44032).tmod 28 = 0 then .lv else .lvt) else if inS c [(0x1F1E6, 0x1F1FF)] then .regional else if inS c spX then .pict else .other
theorem inS_one (c a b : Int) : inS c [(a, b)] = decide (a ≤ c ∧ c ≤ b) := by simp [inS]
theorem refCls_eq (c : Int) : refCls c = clsOf c := by
  have e13 : inS c [(0xD, 0xD)] = decide (c = 13) := by rw [inS_one]; exact decide_eq_decide.2 (by omega)
  have e10 : inS c [(0xA, 0xA)] = decide (c = 10) := by rw [inS_one]; exact decide_eq_decide.2 (by omega)
  have ez : inS c [(0x200D, 0x200D)] = decide (c = 8205) := by rw [inS_one]; exact decide_eq_decide.2 (by omega)
  have eh : inS c [(44032, 55203)] = decide (44032 ≤ c ∧ c ≤ 55203) := inS_one _ _ _
  unfold refCls clsOf
  simp only [tabC, firstIn, e13, e10, ez, eh, decide_eq_true_eq]
  by_cases h : 44032 ≤ c ∧ c ≤ 55203
  · have k1 : inS c spC = false := by simp [inS, spC]; omega
    have k2 : inS c spE = false := by simp [inS, spE]; omega
    have k3 : inS c spS = false := by simp [inS, spS]; omega
    have k4 : inS c spP = false := by simp [inS, spP]; omega
    have k5 : inS c [(0x1100, 0x115F)] = false := by simp [inS]; omega
    have k6 : inS c [(0x1160, 0x11A7)] = false := by simp [inS]; omega
    have k7 : inS c [(0x11A8, 0x11FF)] = false := by simp [inS]; omega
    rw [if_neg (by omega), if_neg (by omega), k1, k2, k3, k4, k5, k6, k7, if_neg (show ¬ c = 8205 by omega)]
    simp only [Bool.false_eq_true, if_false, if_pos h]
  · simp only [if_neg h]
@[simp] def isB : AV → Bool
  | .base _ => true
  | _ => false
@[simp] theorem Pu_allB {l : List AV} (h : l.all isB = true) : Pu (.lst l) := .lst fun e he c hc => by
  have := List.all_eq_true.1 h e he
  cases e with
  | base v => simp only [AV.cells, List.mem_singleton] at hc; subst hc; exact .base _
  | _ => simp at this
theorem refClass_ok (c : Int) (hc : -9223372036854775808 ≤ c ∧ c ≤ 9223372036854775807) : Fn Tryd.prog 21 [.int c] (str (nm (clsOf c))) := by
  rw [← refCls_eq]
  have w := fun l h => within_ok c l h
  have w1 := w spC (by decide)
  have w2 := w spE (by decide)
  have w3 := w spS (by decide)
  have w4 := w spP (by decide)
  have w5 := w [(0x1100, 0x115F)] (by decide)
  have w6 := w [(0x1160, 0x11A7)] (by decide)
  have w7 := w [(0x11A8, 0x11FF)] (by decide)
  have w8 := w [(44032, 55203)] (by decide)
  have w9 := w [(0x1F1E6, 0x1F1FF)] (by decide)
  have w10 := w spX (by decide)
  clear w
  obtain ⟨R, hR⟩ : ∃ R, R = refCls c := ⟨_, rfl⟩
  rw [← hR]
  unfold refCls at hR
  obtain ⟨b1, hb1⟩ : ∃ b, b = inS c spC := ⟨_, rfl⟩
  rw [← hb1] at w1 hR
  clear hb1
  simp only [flat, spC, List.map] at w1
  obtain ⟨b2, hb2⟩ : ∃ b, b = inS c spE := ⟨_, rfl⟩
  rw [← hb2] at w2 hR
  clear hb2
  simp only [flat, spE, List.map] at w2
  obtain ⟨b3, hb3⟩ : ∃ b, b = inS c spS := ⟨_, rfl⟩
  rw [← hb3] at w3 hR
  clear hb3
  simp only [flat, spS, List.map] at w3
  obtain ⟨b4, hb4⟩ : ∃ b, b = inS c spP := ⟨_, rfl⟩
  rw [← hb4] at w4 hR
  clear hb4
  simp only [flat, spP, List.map] at w4
  obtain ⟨b5, hb5⟩ : ∃ b, b = inS c [(0x1100, 0x115F)] := ⟨_, rfl⟩
  rw [← hb5] at w5 hR
  clear hb5
  simp only [flat, List.map] at w5
  obtain ⟨b6, hb6⟩ : ∃ b, b = inS c [(0x1160, 0x11A7)] := ⟨_, rfl⟩
  rw [← hb6] at w6 hR
  clear hb6
  simp only [flat, List.map] at w6
  obtain ⟨b7, hb7⟩ : ∃ b, b = inS c [(0x11A8, 0x11FF)] := ⟨_, rfl⟩
  rw [← hb7] at w7 hR
  clear hb7
  simp only [flat, List.map] at w7
  obtain ⟨b8, hb8⟩ : ∃ b, b = inS c [(44032, 55203)] := ⟨_, rfl⟩
  rw [← hb8] at w8 hR
  simp only [flat, List.map] at w8
  obtain ⟨b9, hb9⟩ : ∃ b, b = inS c [(0x1F1E6, 0x1F1FF)] := ⟨_, rfl⟩
  rw [← hb9] at w9 hR
  clear hb9
  simp only [flat, List.map] at w9
  obtain ⟨b10, hb10⟩ : ∃ b, b = inS c spX := ⟨_, rfl⟩
  rw [← hb10] at w10 hR
  clear hb10
  simp only [flat, spX, List.map] at w10
  refine Fn.intro' [(0, .int c)] 1 56 Tryd.func21 (by kernel_rfl) rfl rfl rfl rfl rfl ?_
  refine goB ?_
  refine ifA (fun h => ?_) (fun h => ?_)
  · try simp at h
    refine goB ?_
    exact Ret.data rfl (by rw [hR, if_pos h]; rfl) (.base _)
  try simp at h
  rw [if_neg (by simp [h])] at hR
  clear h
  refine goB ?_
  refine ifA (fun h => ?_) (fun h => ?_)
  · try simp at h
    refine goB ?_
    exact Ret.data rfl (by rw [hR, if_pos h]; rfl) (.base _)
  try simp at h
  rw [if_neg (by simp [h])] at hR
  clear h
  refine goB ?_
  refine callA (w1) ?_
  refine goB ?_
  refine ifA (fun h => ?_) (fun h => ?_)
  · try simp at h
    refine goB ?_
    exact Ret.data rfl (by rw [hR, if_pos h]; rfl) (.base _)
  try simp at h
  rw [if_neg (by simp [h])] at hR
  clear h
  refine goB ?_
  refine callA (w2) ?_
  refine goB ?_
  refine ifA (fun h => ?_) (fun h => ?_)
  · try simp at h
    refine goB ?_
    exact Ret.data rfl (by rw [hR, if_pos h]; rfl) (.base _)
  try simp at h
  rw [if_neg (by simp [h])] at hR
  clear h
  refine goB ?_
  refine ifA (fun h => ?_) (fun h => ?_)
  · try simp at h
    refine goB ?_
    exact Ret.data rfl (by rw [hR, if_pos h]; rfl) (.base _)
  try simp at h
  rw [if_neg (by simp [h])] at hR
  clear h
  refine goB ?_
  refine callA (w3) ?_
  refine goB ?_
  refine ifA (fun h => ?_) (fun h => ?_)
  · try simp at h
    refine goB ?_
    exact Ret.data rfl (by rw [hR, if_pos h]; rfl) (.base _)
  try simp at h
  rw [if_neg (by simp [h])] at hR
  clear h
  refine goB ?_
  refine callA (w4) ?_
  refine goB ?_
  refine ifA (fun h => ?_) (fun h => ?_)
  · try simp at h
    refine goB ?_
    exact Ret.data rfl (by rw [hR, if_pos h]; rfl) (.base _)
  try simp at h
  rw [if_neg (by simp [h])] at hR
  clear h
  refine goB ?_
  refine callA (w5) ?_
  refine goB ?_
  refine ifA (fun h => ?_) (fun h => ?_)
  · try simp at h
    refine goB ?_
    exact Ret.data rfl (by rw [hR, if_pos h]; rfl) (.base _)
  try simp at h
  rw [if_neg (by simp [h])] at hR
  clear h
  refine goB ?_
  refine callA (w6) ?_
  refine goB ?_
  refine ifA (fun h => ?_) (fun h => ?_)
  · try simp at h
    refine goB ?_
    exact Ret.data rfl (by rw [hR, if_pos h]; rfl) (.base _)
  try simp at h
  rw [if_neg (by simp [h])] at hR
  clear h
  refine goB ?_
  refine callA (w7) ?_
  refine goB ?_
  refine ifA (fun h => ?_) (fun h => ?_)
  · try simp at h
    refine goB ?_
    exact Ret.data rfl (by rw [hR, if_pos h]; rfl) (.base _)
  try simp at h
  rw [if_neg (by simp [h])] at hR
  clear h
  refine goB ?_
  refine callA (w8) ?_
  refine goB ?_
  refine ifA (fun h => ?_) (fun h => ?_)
  · try simp at h
    refine goB ?_
    have hin : 44032 ≤ c ∧ c ≤ 55203 := by rw [inS_one] at hb8; simpa [h] using hb8.symm
    rw [if_pos h] at hR
    rw [wrap_id (by omega) (by omega)]
    refine ifA (fun h2 => ?_) (fun h2 => ?_)
    · simp at h2
      refine goB ?_
      exact Ret.data rfl (by rw [hR, if_pos h2]; rfl) (.base _)
    · simp at h2
      refine goB ?_
      exact Ret.data rfl (by rw [hR, if_neg h2]; rfl) (.base _)
  try simp at h
  rw [if_neg (by simp [h])] at hR
  clear h
  refine goB ?_
  refine callA (w9) ?_
  refine goB ?_
  refine ifA (fun h => ?_) (fun h => ?_)
  · try simp at h
    refine goB ?_
    exact Ret.data rfl (by rw [hR, if_pos h]; rfl) (.base _)
  try simp at h
  rw [if_neg (by simp [h])] at hR
  clear h
  refine goB ?_
  refine callA (w10) ?_
  refine goB ?_
  refine ifA (fun h => ?_) (fun h => ?_)
  · try simp at h
    refine goB ?_
    exact Ret.data rfl (by rw [hR, if_pos h]; rfl) (.base _)
  try simp at h
  rw [if_neg (by simp [h])] at hR
  clear h
  refine goB ?_
  exact Ret.data rfl (by rw [hR]; rfl) (.base _)
end Go.Ab
set_option maxHeartbeats 4000000
namespace Go.Ab
open Go Go.Ab Go.Proofs Go.Ab.Ty

/-! ### widths -/
abbrev u8v (n : Nat) : AV := .base (.int .u8 n)
theorem AWp.joinX {P : Program} {n : Fr} {Q : Exit → ASt → Prop} {s : ASt} {X : Type} {c d : Code} (J : X → Prop) (pre : X → Env) (h1 : AWp P n c (thenQ (fun s' => ∃ a, J a ∧ Wk n s' ⟨pre a ++ cut (keys (pre a)) s.env, s.H⟩) Q) s)
    (h2 : ∀ a, J a → AWp P n d Q ⟨pre a ++ cut (keys (pre a)) s.env, s.H⟩) : AWp P n c (thenQ (AWp P n d Q) Q) s :=
  h1.mono fun e s' h => by
    cases e with
    | normal => obtain ⟨a, h3, h4⟩ := h; exact AWp.weaken h4 (h2 a h3)
    | _ => exact h
def lead (b0 lo hi n : Nat) : Prop := (0xC2 ≤ b0 ∧ b0 ≤ 0xDF ∧ n = 2 ∧ lo = 0x80 ∧ hi = 0xBF) ∨
  (0xE0 ≤ b0 ∧ b0 ≤ 0xEF ∧ n = 3 ∧ (b0 = 0xE0 → lo = 0xA0) ∧ (b0 ≠ 0xE0 → lo = 0x80) ∧ (b0 = 0xED → hi = 0x9F) ∧ (b0 ≠ 0xED → hi = 0xBF)) ∨
  (0xF0 ≤ b0 ∧ b0 ≤ 0xF4 ∧ n = 4 ∧ (b0 = 0xF0 → lo = 0x90) ∧ (b0 ≠ 0xF0 → lo = 0x80) ∧ (b0 = 0xF4 → hi = 0x8F) ∧ (b0 ≠ 0xF4 → hi = 0xBF))
theorem width_ok (s : ByteArray) (hs : s.size ≤ 1000000000) : Fn Tryd.prog 80 [str s] (.int (wd s 0)) := by
  obtain ⟨W, hW⟩ : ∃ W, W = wd s 0 := ⟨_, rfl⟩
  rw [← hW]
  unfold wd at hW
  simp only [Nat.zero_add] at hW
  refine Fn.intro' [(0, str s)] 1 77 Tryd.func80 (by kernel_rfl) rfl rfl rfl rfl rfl ?_
  refine goB ?_
  refine ifA (fun h => ?_) (fun h => ?_)
  · have hz : s.size = 0 := by have := of_decide_eq_true h; omega
    refine goB ?_
    exact Ret.data rfl (by rw [hW, if_pos (by omega)]; rfl) (.base _)
  have hz : 0 < s.size := by have := of_decide_eq_false h; omega
  clear h
  rw [if_neg (by omega)] at hW
  have h0 := bt_lt s 0
  have g0 := bt_get (s := s) (k := 0) (by omega)
  have g1 := fun h => bt_get (s := s) (k := 1) h
  have gk := fun k (h : k < s.size) => bt_get (s := s) (k := k) h
  have bk := fun k => bt_lt s k
  refine gnB ?_
  refine ARun.q1 rfl rfl (ql_index_str rfl rfl Tryd.underlying9 (by omega) g0) ?_
  refine gnB ?_
  obtain ⟨B, hB⟩ : ∃ B, B = bt s 0 := ⟨_, rfl⟩
  rw [← hB] at hW h0
  show AWp _ _ _ _ ⟨(6, u8v (bt s 0)) :: (12, u8v (bt s 0)) :: _, _⟩
  rw [← hB]
  refine AWp.joinX (J := fun x : Nat × Nat × Nat => 0x80 ≤ B ∧ lead B x.1 x.2.1 x.2.2) (fun x => [(3, u8v x.1), (4, u8v x.2.1), (5, .int x.2.2)]) ?_ ?_
  · refine goB ?_
    refine ifA (fun c1 => ?_) (fun c1 => ?_)
    · simp at c1
      refine goB ?_
      exact Ret.data rfl (by rw [hW, if_pos (by omega)]; rfl) (.base _)
    simp at c1
    rw [if_neg (by omega)] at hW
    refine goB ?_
    refine ifA (fun c2 => ?_) (fun c2 => ?_)
    · simp at c2
      refine goB ?_
      exact ⟨(0x80, 0xBF, 2), ⟨by omega, (show lead B 0x80 0xBF 2 from by unfold lead; omega)⟩, .wk⟩
    simp at c2
    rw [if_neg (by omega)] at hW
    refine goB ?_
    refine ifA (fun c3 => ?_) (fun c3 => ?_)
    · simp at c3
      refine goB ?_
      refine ifA (fun c5 => ?_) (fun c5 => ?_)
      · simp at c5
        refine goB ?_
        refine ifA (fun c6 => ?_) (fun c6 => ?_)
        · simp at c6; omega
        · refine goB ?_
          exact ⟨(0xA0, 0xBF, 3), ⟨by omega, (show lead B 0xA0 0xBF 3 from by unfold lead; omega)⟩, .wk⟩
      · simp at c5
        refine goB ?_
        refine ifA (fun c6 => ?_) (fun c6 => ?_)
        · simp at c6
          refine goB ?_
          exact ⟨(0x80, 0x9F, 3), ⟨by omega, (show lead B 0x80 0x9F 3 from by unfold lead; omega)⟩, .wk⟩
        · simp at c6
          refine goB ?_
          exact ⟨(0x80, 0xBF, 3), ⟨by omega, (show lead B 0x80 0xBF 3 from by unfold lead; omega)⟩, .wk⟩
    simp at c3
    rw [if_neg (by omega)] at hW
    refine goB ?_
    refine ifA (fun c4 => ?_) (fun c4 => ?_)
    · simp at c4
      refine goB ?_
      refine ifA (fun c5 => ?_) (fun c5 => ?_)
      · simp at c5
        refine goB ?_
        refine ifA (fun c6 => ?_) (fun c6 => ?_)
        · simp at c6; omega
        · refine goB ?_
          exact ⟨(0x90, 0xBF, 4), ⟨by omega, (show lead B 0x90 0xBF 4 from by unfold lead; omega)⟩, .wk⟩
      · simp at c5
        refine goB ?_
        refine ifA (fun c6 => ?_) (fun c6 => ?_)
        · simp at c6
          refine goB ?_
          exact ⟨(0x80, 0x8F, 4), ⟨by omega, (show lead B 0x80 0x8F 4 from by unfold lead; omega)⟩, .wk⟩
        · simp at c6
          refine goB ?_
          exact ⟨(0x80, 0xBF, 4), ⟨by omega, (show lead B 0x80 0xBF 4 from by unfold lead; omega)⟩, .wk⟩
    · simp at c4
      refine goB ?_
      exact Ret.data rfl (by rw [hW, if_neg (by omega)]; rfl) (.base _)
  rintro ⟨lo, hi, n⟩ ⟨hb, hld⟩
  simp only at hld
  have hn : 2 ≤ n ∧ n ≤ 4 := by rcases hld with h | h | h <;> omega
  have hR : W = if s.size < n ∨ bt s 1 < lo ∨ hi < bt s 1 ∨ (2 < n ∧ (bt s 2 < 0x80 ∨ 0xBF < bt s 2)) ∨ (3 < n ∧ (bt s 3 < 0x80 ∨ 0xBF < bt s 3)) then 0 else n := by
    rw [if_neg (by omega)] at hW
    rcases hld with h | h | h
    · rw [if_pos (by omega)] at hW
      obtain ⟨_, _, rfl, rfl, rfl⟩ := h
      rw [hW]; congr 1; exact propext (by omega)
    · obtain ⟨h1, h2, rfl, h3⟩ := h
      rw [if_neg (by omega), if_pos (by omega)] at hW
      have e1 : (if B = 224 then 160 else 128) = lo := by split <;> omega
      have e2 : (if B = 237 then 159 else 191) = hi := by split <;> omega
      rw [e1, e2] at hW
      rw [hW]; congr 1; exact propext (by omega)
    · obtain ⟨h1, h2, rfl, h3⟩ := h
      rw [if_neg (by omega), if_neg (by omega), if_pos (by omega)] at hW
      have e1 : (if B = 240 then 144 else 128) = lo := by split <;> omega
      have e2 : (if B = 244 then 143 else 191) = hi := by split <;> omega
      rw [e1, e2] at hW
      rw [hW]; congr 1; exact propext (by omega)
  clear hW hld
  refine goB ?_
  refine gqA (h := fun hg => ql_index_str (by simp +decide only [go_sem] <;> rfl) (by simp +decide only [go_sem] <;> rfl) Tryd.underlying9 (by omega) (g1 (by simp [gc, allL] at hg; omega))) (hr := ?_)
  refine goB ?_
  refine gqA (h := fun hg => ql_index_str (by simp +decide only [go_sem] <;> rfl) (by simp +decide only [go_sem] <;> rfl) Tryd.underlying9 (by omega) (g1 (by simp [gc, allL] at hg; omega))) (hr := ?_)
  refine goB ?_
  refine ifA (fun h => ?_) (fun h => ?_)
  · simp at h
    refine goB ?_
    exact Ret.data rfl (by rw [hR, if_pos (by unfold bt; omega)]; rfl) (.base _)
  simp at h
  refine goB ?_
  refine keA [0, 5, 7] ?_
  refine AWp.loopP (J := fun k : Nat => 2 ≤ k ∧ k ≤ n ∧ ∀ j, 2 ≤ j → j < k → 0x80 ≤ bt s j ∧ bt s j ≤ 0xBF) (fun k => [(7, .int k)]) (fun k => n - k) 2 ⟨by omega, by omega, by omega⟩ .wk ?_
  rintro k ⟨hk1, hk2, hk3⟩
  refine goB ?_
  refine ifA (fun hd => ?_) (fun hd => ?_)
  · simp at hd
    have gk := gk k (by omega)
    refine goB ?_
    refine ARun.q1 rfl rfl (ql_index_str rfl rfl Tryd.underlying9 (by omega) gk) ?_
    refine goB ?_
    refine gqA (h := fun hg => ql_index_str (by simp +decide only [go_sem] <;> rfl) (by simp +decide only [go_sem] <;> rfl) Tryd.underlying9 (by omega) gk) (hr := ?_)
    refine goB ?_
    refine ifA (fun hq => ?_) (fun hq => ?_)
    · simp at hq
      refine goB ?_
      refine Ret.data rfl ?_ (.base _)
      rw [hR, if_pos]
      · rfl
      · unfold bt
        rcases (by omega : k = 2 ∨ k = 3) with rfl | rfl <;> omega
    · simp at hq
      refine goB ?_
      rw [wrap_succ (by omega)]
      refine ⟨k + 1, ⟨by omega, by omega, fun j h1 h2 => ?_⟩, by omega, .wk⟩
      by_cases e : j < k
      · exact hk3 j h1 e
      · obtain rfl : j = k := by omega
        unfold bt; omega
  · simp at hd
    obtain rfl : k = n := by omega
    refine goB ?_
    refine Ret.data rfl ?_ (.base _)
    rw [hR, if_neg]
    · rfl
    rcases (by omega : k = 2 ∨ k = 3 ∨ k = 4) with rfl | rfl | rfl
    · unfold bt at *; omega
    · have j2 := hk3 2 (by omega) (by omega)
      unfold bt at *; omega
    · have j2 := hk3 2 (by omega) (by omega)
      have j3 := hk3 3 (by omega) (by omega)
      unfold bt at *; omega
end Go.Ab
