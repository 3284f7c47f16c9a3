/- Part of the proof. -/
import Derived.Test.YtdgfgadmcahnlaaDoorTC
set_option linter.unusedSimpArgs false
set_option linter.unusedVariables false
set_option maxHeartbeats 4000000
namespace Go.Ab
open Go Go.Ab Go.Proofs Go.Ab.Ty

/-! ### where no boundary lies -/
theorem ba_loop (b : ByteArray) (n : Nat) : ∀ (i : Nat) (r : List UInt8), b.size - i = n → ByteArray.toList.loop b i r = r.reverse ++ b.data.toList.drop i := by
  have hb : b.size = b.data.toList.length := rfl
  induction n with
  | zero =>
    intro i r h
    rw [ByteArray.toList.loop]
    rw [if_neg (by omega), List.drop_eq_nil_of_le (by omega), List.append_nil]
  | succ n ih =>
    intro i r h
    rw [ByteArray.toList.loop, if_pos (by omega), ih (i + 1) _ (by omega)]
    rw [List.drop_eq_getElem_cons (i := i) (by omega)]
    have : b.get! i = b.data.toList[i]'(by omega) := by
      have h2 : i < b.data.size := by have : b.size = b.data.size := rfl
                                      omega
      show b.data[i]! = _
      rw [getElem!_pos b.data i h2]; rfl
    rw [this]; simp
theorem ba_toList (b : ByteArray) : b.toList = b.data.toList := by
  rw [ByteArray.toList, ba_loop b _ 0 [] rfl]; simp
def encN (c : Cl) : AV := str (nm c)
attribute [go_sem] encN
theorem nmEq (a b : Cl) : ((nm a).toList == (nm b).toList) = decide (a = b) := by
  rw [ba_toList, ba_toList]
  cases a <;> cases b <;> rfl
theorem nmCR (a : Cl) : ((nm a).toList == (⟨#[67, 82]⟩ : ByteArray).toList) = decide (a = .cr) := nmEq a .cr
theorem nmLF (a : Cl) : ((nm a).toList == (⟨#[76, 70]⟩ : ByteArray).toList) = decide (a = .lf) := nmEq a .lf
theorem nmCo (a : Cl) : ((nm a).toList == (⟨#[67, 111, 110, 116, 114, 111, 108]⟩ : ByteArray).toList) = decide (a = .control) := nmEq a .control
theorem nmEx (a : Cl) : ((nm a).toList == (⟨#[69, 120, 116, 101, 110, 100]⟩ : ByteArray).toList) = decide (a = .extend) := nmEq a .extend
theorem nmZ (a : Cl) : ((nm a).toList == (⟨#[90, 87, 74]⟩ : ByteArray).toList) = decide (a = .zwj) := nmEq a .zwj
theorem nmSp (a : Cl) : ((nm a).toList == (⟨#[83, 112, 97, 99, 105, 110, 103]⟩ : ByteArray).toList) = decide (a = .spacing) := nmEq a .spacing
theorem nmPr (a : Cl) : ((nm a).toList == (⟨#[80, 114, 101, 112, 101, 110, 100]⟩ : ByteArray).toList) = decide (a = .prepend) := nmEq a .prepend
theorem nmL (a : Cl) : ((nm a).toList == (⟨#[76]⟩ : ByteArray).toList) = decide (a = .l) := nmEq a .l
theorem nmV (a : Cl) : ((nm a).toList == (⟨#[86]⟩ : ByteArray).toList) = decide (a = .v) := nmEq a .v
theorem nmT (a : Cl) : ((nm a).toList == (⟨#[84]⟩ : ByteArray).toList) = decide (a = .t) := nmEq a .t
theorem nmLV (a : Cl) : ((nm a).toList == (⟨#[76, 86]⟩ : ByteArray).toList) = decide (a = .lv) := nmEq a .lv
theorem nmLVT (a : Cl) : ((nm a).toList == (⟨#[76, 86, 84]⟩ : ByteArray).toList) = decide (a = .lvt) := nmEq a .lvt
theorem nmR (a : Cl) : ((nm a).toList == (⟨#[82, 101, 103, 105, 111, 110, 97, 108]⟩ : ByteArray).toList) = decide (a = .regional) := nmEq a .regional
theorem nmPi (a : Cl) : ((nm a).toList == (⟨#[80, 105, 99, 116]⟩ : ByteArray).toList) = decide (a = .pict) := nmEq a .pict
attribute [go_sem] nmCR nmLF nmCo nmEx nmZ nmSp nmPr nmL nmV nmT nmLV nmLVT nmR nmPi
def hard (c : Cl) : Bool := decide (c = .cr ∨ c = .lf ∨ c = .control)
def skipE (cl : Nat → Cl) : Nat → Option Nat
  | 0 => none
  | n + 1 => if cl n = .extend then skipE cl n else some n
def cntR (cl : Nat → Cl) : Nat → Nat
  | 0 => 0
  | n + 1 => if cl n = .regional then cntR cl n + 1 else 0
def jA (a b : Cl) : Bool := decide ((a = .l ∧ (b = .l ∨ b = .v ∨ b = .lv ∨ b = .lvt)) ∨ ((a = .lv ∨ a = .v) ∧ (b = .v ∨ b = .t)) ∨ ((a = .lvt ∨ a = .t) ∧ b = .t))
def jB (a b : Cl) : Bool := decide (b = .extend ∨ b = .zwj ∨ b = .spacing ∨ a = .prepend)
def isPict (cl : Nat → Cl) : Option Nat → Bool
  | some k => decide (cl k = .pict)
  | none => false
def joinsS (cl : Nat → Cl) (i : Nat) : Bool :=
  if cl (i - 1) = .cr ∧ cl i = .lf then true else if hard (cl (i - 1)) || hard (cl i) then false else if jA (cl (i - 1)) (cl i) then true else if jB (cl (i - 1)) (cl i) then true else
  if cl (i - 1) = .zwj ∧ cl i = .pict then isPict cl (skipE cl (i - 1)) else if cl (i - 1) = .regional ∧ cl i = .regional then decide (cntR cl i % 2 = 1) else false
theorem hard_ok (a : Cl) : Fn Tryd.prog 115 [str (nm a)] (.bool (hard a)) := by
  refine Fn.intro' [(0, str (nm a))] 1 13 Tryd.func115 (by kernel_rfl) rfl rfl rfl rfl rfl ?_
  refine goB ?_
  exact Ret.bool rfl (by simp [hard]; grind)
theorem alone_ok (a : Cl) : Fn Tryd.prog 116 [str (nm a)] (.bool (hard a)) := by
  refine Fn.intro' [(0, str (nm a))] 1 13 Tryd.func116 (by kernel_rfl) rfl rfl rfl rfl rfl ?_
  refine goB ?_
  exact Ret.bool rfl (by simp [hard]; grind)
theorem Pu_clsL (l : List Cl) : Pu (.lst (l.map encN)) := .lst fun e he c hc => by
  obtain ⟨x, _, rfl⟩ := List.mem_map.1 he
  simp only [encN, AV.cells, List.mem_singleton] at hc
  subst hc; exact .base _
attribute [simp] Pu_clsL
theorem joins_ok (L : List Cl) (hL : L.length ≤ 1000000) (i : Nat) (hi : 1 ≤ i ∧ i < L.length) : Fn Tryd.prog 105 [.lst (L.map encN), .int i] (.bool (joinsS (fun k => nth default L (k : Int)) i)) := by
  have h1 := hard_ok (nth default L ((i - 1 : Nat) : Int))
  have h2 := hard_ok (nth default L (i : Int))
  obtain ⟨cl, hcl⟩ : ∃ cl : Nat → Cl, cl = fun k : Nat => nth default L (k : Int) := ⟨_, rfl⟩
  obtain ⟨R, hR⟩ : ∃ R, R = joinsS cl i := ⟨_, rfl⟩
  rw [← hcl, ← hR]
  unfold joinsS at hR
  refine Fn.intro' [(0, .lst (L.map encN)), (1, .int i)] 2 146 Tryd.func105 (by kernel_rfl) rfl rfl rfl rfl rfl ?_
  refine goB ?_
  have ei : (i : Int) - 1 = ((i - 1 : Nat) : Int) := by omega
  obtain ⟨a, ha⟩ : ∃ a, a = cl (i - 1) := ⟨_, rfl⟩
  obtain ⟨b, hb⟩ : ∃ b, b = cl i := ⟨_, rfl⟩
  have ha' : nth default L ((i - 1 : Nat) : Int) = a := by rw [ha, hcl]
  have hb' : nth default L (i : Int) = b := by rw [hb, hcl]
  rw [← ha, ← hb] at hR
  rw [ha'] at h1
  rw [hb'] at h2
  refine drA (k := 10) follows (hr := ?_)
  refine goB ?_
  rw [wrap_id (by omega) (by omega), ei]
  refine goB ?_
  rw [ha', hb']
  refine goB ?_
  refine ifA (fun c1 => ?_) (fun c1 => ?_)
  · simp at c1
    refine goB ?_
    exact Ret.data rfl (by rw [hR, if_pos c1]; rfl) (.base _)
  simp at c1
  rw [if_neg (by simpa using c1)] at hR
  refine goB ?_
  refine callA (h1) ?_
  refine goB ?_
  refine gcallA (i := fun hg => h2) (hr := ?_)
  refine goB ?_
  refine ifA (fun c2 => ?_) (fun c2 => ?_)
  · simp at c2
    refine goB ?_
    exact Ret.data rfl (by rw [hR, if_pos (by simpa using c2)]; rfl) (.base _)
  simp at c2
  rw [if_neg (by simpa using c2)] at hR
  refine gnB ?_
  refine keA [0, 1, 4, 5, 6, 36] ?_
  refine AWp.joinP [(36, .bool (jA a b))] ?_ ?_
  · refine ifA (fun k1 => ?_) (fun k1 => ?_)
    · refine goB ?_
      exact .env' (by simp +decide only [go_sem]; exact Le.of_eq (congrArg AV.bool (by simp at k1; simp only [jA]; rw [Bool.eq_iff_iff]; simp; grind)))
    refine goB ?_
    refine ifA (fun k2 => ?_) (fun k2 => ?_)
    · refine goB ?_
      exact .env' (by simp +decide only [go_sem]; exact Le.of_eq (congrArg AV.bool (by simp at k1 k2; simp only [jA]; rw [Bool.eq_iff_iff]; simp; grind)))
    refine goB ?_
    exact .env' (by simp +decide only [go_sem]; exact Le.of_eq (congrArg AV.bool (by simp at k1 k2; simp only [jA]; rw [Bool.eq_iff_iff]; simp; grind)))
  refine ifA (fun c3 => ?_) (fun c3 => ?_)
  · refine goB ?_
    exact Ret.data rfl (by rw [hR, if_pos c3]; rfl) (.base _)
  rw [if_neg (by simp [c3])] at hR
  refine gnB ?_
  refine keA [0, 1, 4, 5, 6, 79] ?_
  refine AWp.joinP [(79, .bool (jB a b))] ?_ ?_
  · refine ifA (fun k1 => ?_) (fun k1 => ?_)
    · refine goB ?_
      exact .env' (by simp +decide only [go_sem]; exact Le.of_eq (congrArg AV.bool (by simp at k1; simp only [jB]; rw [Bool.eq_iff_iff]; simp; grind)))
    refine goB ?_
    exact .env' (by simp +decide only [go_sem]; exact Le.of_eq (congrArg AV.bool (by simp at k1; simp only [jB]; rw [Bool.eq_iff_iff]; simp; grind)))
  refine ifA (fun c4 => ?_) (fun c4 => ?_)
  · refine goB ?_
    exact Ret.data rfl (by rw [hR, if_pos c4]; rfl) (.base _)
  rw [if_neg (by simp [c4])] at hR
  refine goB ?_
  refine keA [0, 1, 4, 5, 6, 92] ?_
  refine ifA (fun c5 => ?_) (fun c5 => ?_)
  · simp at c5
    rw [if_pos c5] at hR
    refine goB ?_
    rw [wrap_id (by omega) (by omega), show (i : Int) - 2 = ((i - 1 : Nat) : Int) - 1 by omega]
    refine keA [0, 1, 4, 8] ?_
    refine AWp.loopP (J := fun n : Nat => n ≤ i - 1 ∧ skipE cl (i - 1) = skipE cl n) (fun n => [(8, .int ((n : Int) - 1))]) (fun n => n) (i - 1) ⟨Nat.le_refl _, rfl⟩ .wk ?_
    rintro n ⟨hn, hs⟩
    rcases n with _ | m
    · refine goB ?_
      refine gxA .bad ?_
      refine gxA .bad ?_
      refine gxA (.bool false) ?_
      refine goB ?_
      refine ifA (fun h => ?_) (fun h => ?_)
      · cases h
      refine goB ?_
      refine gxA .bad ?_
      refine gxA .bad ?_
      refine gxA (.bool false) ?_
      refine goB ?_
      exact Ret.data rfl (by rw [hR, hs]; rfl) (.base _)
    rw [show ((m + 1 : Nat) : Int) - 1 = (m : Int) by omega]
    have hm' : nth default L (m : Int) = cl m := by rw [hcl]
    refine goB ?_
    refine gqA (h := fun hg => ql_idxI (by simp +decide only [go_sem] <;> rfl) (by simp +decide only [go_sem] <;> rfl) Tryd.underlying25 (by omega) (by omega) (by kernel_rfl)) (hr := ?_)
    refine goB ?_
    rw [hm']
    refine goB ?_
    refine ifA (fun h => ?_) (fun h => ?_)
    · simp at h
      refine goB ?_
      rw [wrap_id (by omega) (by omega)]
      exact ⟨m, ⟨by omega, by rw [hs, skipE, if_pos h]⟩, by omega, .wk⟩
    simp at h
    refine goB ?_
    refine gqA (h := fun hg => ql_idxI (by simp +decide only [go_sem] <;> rfl) (by simp +decide only [go_sem] <;> rfl) Tryd.underlying25 (by omega) (by omega) (by kernel_rfl)) (hr := ?_)
    refine goB ?_
    rw [hm']
    refine goB ?_
    exact Ret.data rfl (by rw [hR, hs, skipE, if_neg h]; rfl) (.base _)
  simp at c5
  rw [if_neg (by simpa using c5)] at hR
  refine goB ?_
  refine keA [0, 1, 4, 5, 6, 121] ?_
  refine ifA (fun c6 => ?_) (fun c6 => ?_)
  · simp at c6
    rw [if_pos c6] at hR
    refine goB ?_
    rw [wrap_id (by omega) (by omega)]
    refine keA [0, 1, 4, 9, 10] ?_
    refine AWp.loopP (J := fun n : Nat => n ≤ i ∧ cntR cl i = (i - n) + cntR cl n) (fun n => [(9, .int ((i : Int) - n)), (10, .int ((n : Int) - 1))]) (fun n => n) i ⟨Nat.le_refl _, by omega⟩ (by rw [show (i : Int) - (i : Nat) = 0 by omega, ei]; exact .wk) ?_
    rintro n ⟨hn, hs⟩
    rcases n with _ | m
    · refine goB ?_
      refine gxA .bad ?_
      refine gxA .bad ?_
      refine gxA (.bool false) ?_
      refine goB ?_
      refine ifA (fun h => ?_) (fun h => ?_)
      · cases h
      refine goB ?_
      rw [Int.tmod_eq_emod_of_nonneg (by omega)]
      exact Ret.data rfl (by rw [hR, hs, cntR]; exact congrArg AV.bool (decide_eq_decide.2 (by omega))) (.base _)
    rw [show ((m + 1 : Nat) : Int) - 1 = (m : Int) by omega]
    have hm' : nth default L (m : Int) = cl m := by rw [hcl]
    refine goB ?_
    refine gqA (h := fun hg => ql_idxI (by simp +decide only [go_sem] <;> rfl) (by simp +decide only [go_sem] <;> rfl) Tryd.underlying25 (by omega) (by omega) (by kernel_rfl)) (hr := ?_)
    refine goB ?_
    rw [hm']
    refine goB ?_
    refine ifA (fun h => ?_) (fun h => ?_)
    · simp at h
      refine goB ?_
      rw [wrap_id (by omega) (by omega)]
      refine goB ?_
      rw [wrap_id (by omega) (by omega)]
      exact ⟨m, ⟨by omega, by rw [hs, cntR, if_pos h]; omega⟩, by omega, by rw [show (i : Int) - ((m + 1 : Nat) : Int) + 1 = i - m by omega]; exact .wk⟩
    simp at h
    refine goB ?_
    rw [Int.tmod_eq_emod_of_nonneg (by omega)]
    exact Ret.data rfl (by rw [hR, hs, cntR, if_neg h]; exact congrArg AV.bool (decide_eq_decide.2 (by omega))) (.base _)
  simp at c6
  rw [if_neg (by simpa using c6)] at hR
  refine goB ?_
  exact Ret.data rfl (by rw [hR]; rfl) (.base _)
end Go.Ab
set_option maxHeartbeats 4000000
namespace Go.Ab
open Go Go.Ab Go.Proofs Go.Ab.Ty

/-! ### where a boundary lies (the document's) -/
theorem parted_ok (l : List Int) (hl : l.length ≤ 1000000) (hv : ∀ x ∈ l, -9223372036854775808 ≤ x ∧ x ≤ 9223372036854775807) (i : Nat) (hi : 1 ≤ i ∧ i < l.length) : Fn Tryd.prog 107 [.lst (l.map AV.int), .int i] (.bool (!joinsS (fun k => clsOf (nth 0 l (k : Int))) i)) := by
  have hin : ∀ k : Nat, k < l.length → -9223372036854775808 ≤ nth 0 l (k : Int) ∧ nth 0 l (k : Int) ≤ 9223372036854775807 := fun k h => by
    rw [nth_eq h]; exact hv _ (List.getElem_mem h)
  have rc := fun (k : Nat) (h : k < l.length) => refClass_ok (nth 0 l (k : Int)) (hin k h)
  obtain ⟨cl, hcl⟩ : ∃ cl : Nat → Cl, cl = fun k : Nat => clsOf (nth 0 l (k : Int)) := ⟨_, rfl⟩
  obtain ⟨R, hR⟩ : ∃ R, R = joinsS cl i := ⟨_, rfl⟩
  rw [← hcl, ← hR]
  unfold joinsS at hR
  have rc' : ∀ k : Nat, k < l.length → Fn Tryd.prog 21 [.int (nth 0 l (k : Int))] (str (nm (cl k))) := fun k h => by rw [hcl]; exact rc k h
  have a1 := alone_ok (cl (i - 1))
  have a2 := alone_ok (cl i)
  obtain ⟨a, ha⟩ : ∃ a, a = cl (i - 1) := ⟨_, rfl⟩
  obtain ⟨b, hb⟩ : ∃ b, b = cl i := ⟨_, rfl⟩
  have r1 := rc' (i - 1) (by omega)
  have r2 := rc' i (by omega)
  rw [← ha] at hR a1 r1
  rw [← hb] at hR a2 r2
  have ei : (i : Int) - 1 = ((i - 1 : Nat) : Int) := by omega
  refine Fn.intro' [(0, .lst (l.map AV.int)), (1, .int i)] 2 154 Tryd.func107 (by kernel_rfl) rfl rfl rfl rfl rfl ?_
  refine goB ?_
  refine drA (k := 11) follows (hr := ?_)
  refine goB ?_
  rw [wrap_id (by omega) (by omega), ei]
  refine goB ?_
  refine callA (r1) ?_
  refine goB ?_
  refine callA (r2) ?_
  refine goB ?_
  refine callA (a1) ?_
  refine goB ?_
  refine gcallA (i := fun hg => a2) (hr := ?_)
  refine goB ?_
  refine keA [0, 1, 4, 5, 6, 7, 28] ?_
  refine ifA (fun c1 => ?_) (fun c1 => ?_)
  · simp at c1
    refine goB ?_
    exact Ret.data rfl (by rw [hR, if_pos c1]; rfl) (.base _)
  simp at c1
  rw [if_neg (by simpa using c1)] at hR
  refine goB ?_
  refine ifA (fun c2 => ?_) (fun c2 => ?_)
  · simp at c2
    refine goB ?_
    exact Ret.data rfl (by rw [hR, if_pos (by simpa using c2)]; rfl) (.base _)
  simp at c2
  rw [if_neg (by simpa using c2)] at hR
  refine keA [0, 1, 4, 5, 6] ?_
  have hA : jA a b = true → R = true := fun h => by rw [hR, if_pos h]
  have hB : jB a b = true → R = true := fun h => by rw [hR]; split <;> simp [h]
  refine goB ?_
  refine ifA (fun k1 => ?_) (fun k1 => ?_)
  · refine goB ?_
    exact Ret.data rfl (by rw [hA (by simp at k1; simp only [jA]; simp; grind)]; rfl) (.base _)
  refine keA [0, 1, 4, 5, 6] ?_
  refine goB ?_
  refine ifA (fun k2 => ?_) (fun k2 => ?_)
  · refine goB ?_
    exact Ret.data rfl (by rw [hA (by simp at k2; simp only [jA]; simp; grind)]; rfl) (.base _)
  refine keA [0, 1, 4, 5, 6] ?_
  refine goB ?_
  refine ifA (fun k3 => ?_) (fun k3 => ?_)
  · refine goB ?_
    exact Ret.data rfl (by rw [hA (by simp at k3; simp only [jA]; simp; grind)]; rfl) (.base _)
  refine keA [0, 1, 4, 5, 6] ?_
  rw [if_neg (by simp at k1 k2 k3; simp only [jA]; simp; grind)] at hR
  refine goB ?_
  refine ifA (fun k4 => ?_) (fun k4 => ?_)
  · refine goB ?_
    exact Ret.data rfl (by rw [hB (by simp at k4; simp only [jB]; simp; grind)]; rfl) (.base _)
  refine keA [0, 1, 4, 5, 6] ?_
  refine goB ?_
  refine ifA (fun k5 => ?_) (fun k5 => ?_)
  · refine goB ?_
    exact Ret.data rfl (by rw [hB (by simp at k5; simp only [jB]; simp; grind)]; rfl) (.base _)
  refine keA [0, 1, 4, 5, 6] ?_
  rw [if_neg (by simp at k4 k5; simp only [jB]; simp; grind)] at hR
  refine goB ?_
  refine keA [0, 1, 4, 5, 6, 96] ?_
  refine ifA (fun c5 => ?_) (fun c5 => ?_)
  · simp at c5
    rw [if_pos c5] at hR
    refine goB ?_
    rw [wrap_id (by omega) (by omega), show (i : Int) - 2 = ((i - 1 : Nat) : Int) - 1 by omega]
    refine keA [0, 1, 4, 8] ?_
    refine AWp.loopP (J := fun n : Nat => n ≤ i - 1 ∧ skipE cl (i - 1) = skipE cl n) (fun n => [(8, .int ((n : Int) - 1))]) (fun n => n) (i - 1) ⟨Nat.le_refl _, rfl⟩ .wk ?_
    rintro n ⟨hn, hs⟩
    rcases n with _ | m
    · refine goB ?_
      refine gxA .bad ?_
      refine gxA .bad ?_
      refine gxA .bad ?_
      refine gxA (.bool false) ?_
      refine goB ?_
      refine ifA (fun h => ?_) (fun h => ?_)
      · cases h
      refine goB ?_
      refine gxA .bad ?_
      refine gxA .bad ?_
      refine gxA .bad ?_
      refine gxA (.bool false) ?_
      refine goB ?_
      exact Ret.data rfl (by rw [hR, hs]; rfl) (.base _)
    rw [show ((m + 1 : Nat) : Int) - 1 = (m : Int) by omega]
    have r3 := rc' m (by omega)
    refine goB ?_
    refine gqA (h := fun hg => ql_idxI (by simp +decide only [go_sem] <;> rfl) (by simp +decide only [go_sem] <;> rfl) Tryd.underlying37 (by omega) (by omega) (by kernel_rfl)) (hr := ?_)
    refine goB ?_
    refine gcallA (i := fun hg => r3) (hr := ?_)
    refine goB ?_
    refine ifA (fun h => ?_) (fun h => ?_)
    · simp at h
      refine goB ?_
      rw [wrap_id (by omega) (by omega)]
      exact ⟨m, ⟨by omega, by rw [hs, skipE, if_pos h]⟩, by omega, .wk⟩
    simp at h
    refine goB ?_
    refine gqA (h := fun hg => ql_idxI (by simp +decide only [go_sem] <;> rfl) (by simp +decide only [go_sem] <;> rfl) Tryd.underlying37 (by omega) (by omega) (by kernel_rfl)) (hr := ?_)
    refine goB ?_
    refine gcallA (i := fun hg => r3) (hr := ?_)
    refine goB ?_
    exact Ret.data rfl (by rw [hR, hs, skipE, if_neg h]; rfl) (.base _)
  simp at c5
  rw [if_neg (by simpa using c5)] at hR
  refine goB ?_
  refine keA [0, 1, 4, 5, 6, 128] ?_
  refine ifA (fun c6 => ?_) (fun c6 => ?_)
  · simp at c6
    rw [if_pos c6] at hR
    refine goB ?_
    rw [wrap_id (by omega) (by omega)]
    refine keA [0, 1, 4, 9, 10] ?_
    refine AWp.loopP (J := fun n : Nat => n ≤ i ∧ cntR cl i = (i - n) + cntR cl n) (fun n => [(9, .int ((i : Int) - n)), (10, .int ((n : Int) - 1))]) (fun n => n) i ⟨Nat.le_refl _, by omega⟩ (by rw [show (i : Int) - (i : Nat) = 0 by omega, ei]; exact .wk) ?_
    rintro n ⟨hn, hs⟩
    rcases n with _ | m
    · refine goB ?_
      refine gxA .bad ?_
      refine gxA .bad ?_
      refine gxA .bad ?_
      refine gxA (.bool false) ?_
      refine goB ?_
      refine ifA (fun h => ?_) (fun h => ?_)
      · cases h
      refine goB ?_
      rw [Int.tmod_eq_emod_of_nonneg (by omega)]
      exact Ret.data rfl (by rw [hR, hs, cntR]; refine congrArg AV.bool ?_; rw [Bool.eq_iff_iff]; simp; omega) (.base _)
    rw [show ((m + 1 : Nat) : Int) - 1 = (m : Int) by omega]
    have r3 := rc' m (by omega)
    refine goB ?_
    refine gqA (h := fun hg => ql_idxI (by simp +decide only [go_sem] <;> rfl) (by simp +decide only [go_sem] <;> rfl) Tryd.underlying37 (by omega) (by omega) (by kernel_rfl)) (hr := ?_)
    refine goB ?_
    refine gcallA (i := fun hg => r3) (hr := ?_)
    refine goB ?_
    refine ifA (fun h => ?_) (fun h => ?_)
    · simp at h
      refine goB ?_
      rw [wrap_id (by omega) (by omega)]
      refine goB ?_
      rw [wrap_id (by omega) (by omega)]
      exact ⟨m, ⟨by omega, by rw [hs, cntR, if_pos h]; omega⟩, by omega, by rw [show (i : Int) - ((m + 1 : Nat) : Int) + 1 = i - m by omega]; exact .wk⟩
    simp at h
    refine goB ?_
    rw [Int.tmod_eq_emod_of_nonneg (by omega)]
    exact Ret.data rfl (by rw [hR, hs, cntR, if_neg h]; refine congrArg AV.bool ?_; rw [Bool.eq_iff_iff]; simp; omega) (.base _)
  simp at c6
  rw [if_neg (by simpa using c6)] at hR
  refine goB ?_
  exact Ret.data rfl (by rw [hR]; rfl) (.base _)
end Go.Ab
set_option maxHeartbeats 4000000
namespace Go.Ab
open Go Go.Ab

theorem ifT {P : Program} {n : Fr} {Q : Exit → ASt → Prop} {s : ASt} {cc : Operand} {x y : Code} (h : AWp P n x Q s) (hc : ev s.env cc = .base (.bool true) := by rfl) : AWp P n (.cond cc x y) Q s := ifA (fun _ => h) (fun h => by cases h) hc
theorem ifF {P : Program} {n : Fr} {Q : Exit → ASt → Prop} {s : ASt} {cc : Operand} {x y : Code} (h : AWp P n y Q s) (hc : ev s.env cc = .base (.bool false) := by rfl) : AWp P n (.cond cc x y) Q s := ifA (fun h => by cases h) (fun _ => h) hc
/-! ### characters, boundaries: plain -/
def pz (s : ByteArray) : Nat → Nat
  | 0 => 0
  | k + 1 => if pz s k < s.size then pz s k + (Utf8.decode s (pz s k)).2 else pz s k
def rnA (s : ByteArray) (k : Nat) : Int := (Utf8.decode s (pz s k)).1
def cls (s : ByteArray) (k : Nat) : Cl := clsOf (rnA s k)
theorem dec_w {s : ByteArray} {i : Nat} (h : i < s.size) : 1 ≤ (Utf8.decode s i).2 ∧ i + (Utf8.decode s i).2 ≤ s.size := by
  have hw := wd_le s i
  rcases wd_dec h with ⟨e1, e2⟩ | ⟨e1, e2, _⟩
  · rw [e2]; exact ⟨Nat.le_refl _, h⟩
  · rw [e2]; exact ⟨e1, by simp only; omega⟩
theorem dec_r (s : ByteArray) (i : Nat) : (Utf8.decode s i).1 < 2097152 := by
  have h0 := bt_lt s i
  rw [dec_decN]
  unfold decN
  repeat' split
  all_goals simp only
  all_goals omega
theorem pz_le (s : ByteArray) : ∀ k, pz s k ≤ s.size
  | 0 => Nat.zero_le _
  | k + 1 => by
    rw [pz]
    split
    · rename_i h; exact (dec_w h).2
    · exact pz_le s k
theorem pz_lt {s : ByteArray} {k : Nat} (h : pz s k < s.size) : pz s k < pz s (k + 1) := by
  rw [pz, if_pos h]; have := (dec_w h).1; omega
theorem pz_mono (s : ByteArray) {j k : Nat} (h : j ≤ k) : pz s j ≤ pz s k := by
  induction h with
  | refl => exact Nat.le_refl _
  | step h ih =>
    refine Nat.le_trans ih ?_
    rw [pz]; split <;> omega
theorem pz_ge (s : ByteArray) : ∀ k, k ≤ pz s k ∨ s.size ≤ pz s k
  | 0 => .inl (Nat.zero_le _)
  | k + 1 => by
    by_cases h : pz s k < s.size
    · have := pz_lt h; have := pz_ge s k; omega
    · right; rw [pz, if_neg h]; omega
theorem nch_ex (s : ByteArray) : ∃ n, (∀ j, j < n → pz s j < s.size) ∧ s.size ≤ pz s n := by
  have : ∀ d k, (∀ j, j < k → pz s j < s.size) → s.size - pz s k ≤ d → ∃ n, (∀ j, j < n → pz s j < s.size) ∧ s.size ≤ pz s n := by
    intro d
    induction d with
    | zero => exact fun k h1 h2 => ⟨k, h1, by omega⟩
    | succ d ih =>
      intro k h1 h2
      by_cases h : pz s k < s.size
      · have := pz_lt h
        exact ih (k + 1) (fun j hj => by by_cases e : j < k; exact h1 j e; obtain rfl : j = k := by omega
                                         exact h) (by omega)
      · exact ⟨k, h1, by omega⟩
  exact this s.size 0 (fun j h => by omega) (by omega)
noncomputable def nch (s : ByteArray) : Nat := (nch_ex s).choose
theorem nch_lt {s : ByteArray} {j : Nat} (h : j < nch s) : pz s j < s.size := (nch_ex s).choose_spec.1 j h
theorem nch_at (s : ByteArray) : pz s (nch s) = s.size := Nat.le_antisymm (pz_le s _) (nch_ex s).choose_spec.2
theorem nch_eq {s : ByteArray} {n : Nat} (h1 : ∀ j, j < n → pz s j < s.size) (h2 : s.size ≤ pz s n) : nch s = n := by
  have h3 := nch_at s
  by_cases a : n < nch s
  · have := nch_lt a; omega
  · by_cases b : nch s < n
    · have := h1 _ b; omega
    · omega
theorem nch_iff {s : ByteArray} {j : Nat} : j < nch s ↔ pz s j < s.size :=
  ⟨nch_lt, fun h => by
    by_cases a : j < nch s
    · exact a
    · have := pz_mono s (show nch s ≤ j by omega); have := nch_at s; omega⟩
theorem nch_le (s : ByteArray) : nch s ≤ s.size := by
  rcases h : nch s with _ | n
  · exact Nat.zero_le _
  · have h1 : pz s n < s.size := nch_lt (by omega)
    have h2 := pz_ge s n
    omega
theorem rn_rg (s : ByteArray) (k : Nat) : 0 ≤ rnA s k ∧ rnA s k < 2097152 := ⟨Int.natCast_nonneg _, by have := dec_r s (pz s k); unfold rnA; omega⟩
theorem skipE_congr {f g : Nat → Cl} : ∀ {n : Nat}, (∀ j, j < n → f j = g j) → skipE f n = skipE g n
  | 0, _ => rfl
  | n + 1, h => by rw [skipE, skipE, h n (by omega), skipE_congr (n := n) fun j hj => h j (by omega)]
theorem skipE_lt {f : Nat → Cl} : ∀ {n k : Nat}, skipE f n = some k → k < n
  | 0, k, h => by cases h
  | n + 1, k, h => by
    rw [skipE] at h
    split at h
    · have := skipE_lt h; omega
    · cases h; omega
theorem cntR_congr {f g : Nat → Cl} : ∀ {n : Nat}, (∀ j, j < n → f j = g j) → cntR f n = cntR g n
  | 0, _ => rfl
  | n + 1, h => by rw [cntR, cntR, h n (by omega), cntR_congr (n := n) fun j hj => h j (by omega)]
theorem joinsS_congr {f g : Nat → Cl} {i : Nat} (h : ∀ j, j ≤ i → f j = g j) : joinsS f i = joinsS g i := by
  unfold joinsS
  rw [h i (Nat.le_refl _), h (i - 1) (by omega), cntR_congr (fun j hj => h j (by omega)), skipE_congr (n := i - 1) (fun j hj => h j (by omega))]
  rcases hk : skipE g (i - 1) with _ | k
  · rfl
  · simp only [isPict]; rw [h k (by have := skipE_lt hk; omega)]
def bF (s : ByteArray) : Nat → List Nat
  | 0 => []
  | k + 1 => if k = 0 ∨ joinsS (cls s) k = false then bF s k ++ [pz s k] else bF s k
noncomputable def bnds (s : ByteArray) : List Nat := if 0 < s.size then bF s (nch s) ++ [s.size] else []
noncomputable def mks (s : ByteArray) : List Nat := if 0 < s.size then bF s (nch s) ++ [s.size] else [0]
theorem bF_len (s : ByteArray) : ∀ k, (bF s k).length ≤ k
  | 0 => Nat.le_refl _
  | k + 1 => by
    have := bF_len s k
    rw [bF]; split
    · rw [List.length_append]; simp; omega
    · omega
def clL (s : ByteArray) : Nat → List Cl
  | 0 => []
  | k + 1 => clL s k ++ [cls s k]
theorem clL_len (s : ByteArray) : ∀ k, (clL s k).length = k
  | 0 => rfl
  | k + 1 => by rw [clL, List.length_append, clL_len s k]; rfl
theorem clL_get (s : ByteArray) : ∀ k j, j < k → nth default (clL s k) (j : Int) = cls s j
  | 0, j, h => by omega
  | k + 1, j, h => by
    have h2 : j < (clL s (k + 1)).length := by rw [clL_len]; exact h
    rw [nth_eq h2]
    simp only [clL]
    by_cases e : j < k
    · have h3 : j < (clL s k).length := by rw [clL_len]; exact e
      rw [List.getElem_append_left h3, ← nth_eq (d := default) h3, clL_get s k j e]
    · obtain rfl : j = k := by omega
      rw [List.getElem_append_right (by rw [clL_len]; exact Nat.le_refl _)]
      simp [clL_len]
theorem joins_clL (s : ByteArray) (k i : Nat) (h : i < k) : joinsS (fun j => nth default (clL s k) (j : Int)) i = joinsS (cls s) i := joinsS_congr fun j hj => clL_get s k j (by omega)
def encO (n : Nat) : AV := .int n
theorem Pu_encO (x : Nat) : ∀ c ∈ (encO x).cells, Pu c := fun c hc => by simp only [encO, AV.cells, List.mem_singleton] at hc; subst hc; exact .base _
theorem Pu_encN (x : Cl) : ∀ c ∈ (encN x).cells, Pu c := fun c hc => by simp only [encN, AV.cells, List.mem_singleton] at hc; subst hc; exact .base _
end Go.Ab
