/- The library's text of utf8.ValidString, laid at this program. -/
import Derived.Test.YtdgfgadmcahnlaaDoorProg
import Derived.Shelf.Unicode.ValidAny
import Derived.Lib.LaidU8T
import Derived.Test.YtdgfgadmcahnlaaDoorAbK
import Derived.Test.YtdgfgadmcahnlaaDoorTB
set_option linter.unusedSimpArgs false
set_option linter.unusedVariables false
namespace Go.Ab
open Go Go.Proofs Go.Shelf
def renV : Go.Shelf.Ren := ⟨fun | 196 => 79 | 259 => 106 | n => n, fun | 119 => 107 | 46 => 74 | 139 => 110 | 138 => 109 | 53 => 116 | n => n, fun | 3 => 0 | 4 => 1 | n => n⟩
theorem laysV : Lays.n196 Tryd.prog renV := {
  mixed := by kernel_rfl
  f196 := Tryd.func79.trans (by kernel_rfl)
  f259 := Tryd.func106.trans (by kernel_rfl)
  t0 := Tryd.underlying0
  a0 := Tryd.isAgg0
  z0 := Tryd.sizeOf0
  v0 := Tryd.zeroValue0
  t3 := Tryd.underlying3
  a3 := Tryd.isAgg3
  z3 := Tryd.sizeOf3
  v3 := Tryd.zeroValue3
  t4 := Tryd.underlying4
  a4 := Tryd.isAgg4
  z4 := Tryd.sizeOf4
  v4 := Tryd.zeroValue4
  t5 := Tryd.underlying5
  a5 := Tryd.isAgg5
  z5 := Tryd.sizeOf5
  v5 := Tryd.zeroValue5
  t9 := Tryd.underlying9
  a9 := Tryd.isAgg9
  z9 := Tryd.sizeOf9
  v9 := Tryd.zeroValue9
  t12 := Tryd.underlying12
  a12 := Tryd.isAgg12
  z12 := Tryd.sizeOf12
  v12 := Tryd.zeroValue12
  t46 := Tryd.underlying74
  a46 := Tryd.isAgg74
  z46 := Tryd.sizeOf74
  v46 := Tryd.zeroValue74
  t53 := Tryd.underlying116
  a53 := Tryd.isAgg116
  z53 := Tryd.sizeOf116
  v53 := Tryd.zeroValue116
  t119 := Tryd.underlying107
  a119 := Tryd.isAgg107
  z119 := Tryd.sizeOf107
  t138 := Tryd.underlying109
  a138 := Tryd.isAgg109
  z138 := Tryd.sizeOf109
  v138 := Tryd.zeroValue109
  t139 := Tryd.underlying110
  a139 := Tryd.isAgg110
  z139 := Tryd.sizeOf110
  v139 := Tryd.zeroValue110
  g3 := by kernel_rfl
  g4 := by kernel_rfl }
end Go.Ab
namespace Go.Ab
open Go Go.Proofs Go.Shelf Go.Lib Go.RowKit
noncomputable def mm24 : List (Addr × Value) := ((List.range 256).map fun c => ((⟨0, c, none⟩ : Addr), Value.int .u8 (firstT c))) ++
  ((List.range 16).map fun i => ((⟨1, 2 * i, none⟩ : Addr), Value.int .u8 (accLo i))) ++ ((List.range 16).map fun i => ((⟨1, 2 * i + 1, none⟩ : Addr), Value.int .u8 (accHi i)))
theorem mm_tabs {w : World} (h : ∀ p ∈ mm24, w.cell? p.1 = some p.2) : Utf8Tabs 0 1 w := by
  refine ⟨fun c hc => h (⟨0, c, none⟩, _) ?_, fun i hi => ⟨h (⟨1, 2 * i, none⟩, _) ?_, h (⟨1, 2 * i + 1, none⟩, _) ?_⟩⟩
  · exact List.mem_append_left _ (List.mem_append_left _ (List.mem_map.2 ⟨c, List.mem_range.2 hc, rfl⟩))
  · exact List.mem_append_left _ (List.mem_append_right _ (List.mem_map.2 ⟨i, List.mem_range.2 hi, rfl⟩))
  · exact List.mem_append_right _ (List.mem_map.2 ⟨i, List.mem_range.2 hi, rfl⟩)
theorem tabs_mm {w : World} (h : Utf8Tabs 0 1 w) : ∀ p ∈ mm24, w.cell? p.1 = some p.2 := by
  intro p hp
  rcases List.mem_append.1 hp with hp | hp
  · rcases List.mem_append.1 hp with hp | hp
    · obtain ⟨c, hc, rfl⟩ := List.mem_map.1 hp
      exact h.1 c (List.mem_range.1 hc)
    · obtain ⟨c, hc, rfl⟩ := List.mem_map.1 hp
      exact (h.2 c (List.mem_range.1 hc)).1
  · obtain ⟨c, hc, rfl⟩ := List.mem_map.1 hp
    exact (h.2 c (List.mem_range.1 hc)).2
theorem valStr_ok (s : ByteArray) (hs : s.size ≤ 9223372036854775807) : FnM Tryd.prog mm24 79 [.base (.string s)] (.bool (validD s.data.toList)) := by
  refine ⟨⟨Tryd.f79, by kernel_rfl, by kernel_rfl, by kernel_rfl⟩, fun w O vs hm hO hl hv => ?_⟩
  have hv0 : vs = #[.string s] := by
    have h1 : vs.size = 1 := hl
    have h2 : vs[0]? = some vs[0] := Array.getElem?_eq_getElem (by omega)
    have h3 := (hv 0 _ _ rfl h2).base_inv
    apply Array.ext (by simp [h1])
    intro i hi1 hi2
    have : i = 0 := by simp at hi2; omega
    subst this; simpa using h3
  subst hv0
  have hc := Any.utf8_ValidString laysV s w hs (mm_tabs fun p hp => (hm p hp).2)
  refine Calls.mono (show Calls Tryd.prog 79 #[.string s] w _ from hc) ?_
  rintro e w' ⟨rfl, hb⟩
  exact ⟨_, rfl, .base _, hb⟩
end Go.Ab
set_option maxHeartbeats 4000000
namespace Go.Ab
open Go Go.Ab Go.Proofs Go.Ab.Ty

/-! ### which texts are UTF-8 -/
theorem get!_ext (s : ByteArray) (i k : Nat) (hi : i ≤ s.size) : (s.extract i s.size).get! k = s.get! (i + k) := by
  by_cases h : i + k < s.size
  · have h1 : k < (s.extract i s.size).size := by rw [ByteArray.size_extract]; omega
    have e1 := bt_get h
    have e2 := bt_get h1
    rw [getElem?_pos (s.extract i s.size) k h1] at e2
    rw [getElem?_pos s (i + k) h] at e1
    injection e1 with e1; injection e2 with e2
    rw [← e1, ← e2, ByteArray.getElem_extract]
  · have h1 : ¬ k < (s.extract i s.size).size := by rw [ByteArray.size_extract]; omega
    have g : ∀ (t : ByteArray) (j : Nat), ¬ j < t.size → t.get! j = default := by
      intro t j hj
      cases t with | mk d => exact getElem!_neg d j hj
    rw [g _ _ h, g _ _ h1]
theorem bt_ext (s : ByteArray) (i k : Nat) (hi : i ≤ s.size) : bt (s.extract i s.size) k = bt s (i + k) := by unfold bt; rw [get!_ext s i k hi]
theorem wd_ext (s : ByteArray) (i : Nat) (hi : i ≤ s.size) : wd (s.extract i s.size) 0 = wd s i := by
  have hz : (s.extract i s.size).size = s.size - i := by rw [ByteArray.size_extract]; omega
  unfold wd
  simp only [bt_ext s i _ hi, hz, Nat.zero_add, Nat.add_zero]
  simp only [show s.size - i ≤ 0 ↔ s.size ≤ i by omega, show s.size - i < 2 ↔ s.size < i + 2 by omega, show s.size - i < 3 ↔ s.size < i + 3 by omega, show s.size - i < 4 ↔ s.size < i + 4 by omega]
theorem decL (s : ByteArray) (i : Nat) (hi : i ≤ s.size) : Lib.decodeL (s.data.toList.drop i) = Utf8.decode s i := by
  have e : (⟨(s.data.toList.drop i).toArray⟩ : ByteArray) = s.extract i s.size := by
    apply ByteArray.ext
    rw [ByteArray.data_extract]
    apply Array.ext'
    rw [Array.toList_extract]
    simp only [List.extract, show s.size - i = s.data.toList.length - i by rw [Array.length_toList]; rfl]
    rw [List.take_of_length_le (by simp)]
  have hz : (s.extract i s.size).size = s.size - i := by rw [ByteArray.size_extract]; omega
  rw [Lib.decodeL, e, dec_decN, dec_decN]
  simp only [bt_ext s i _ hi, hz, Nat.zero_add, Nat.add_zero]
  rw [show decide (1 < s.size - i) = decide (i + 1 < s.size) from decide_eq_decide.2 (by omega), show decide (2 < s.size - i) = decide (i + 2 < s.size) from decide_eq_decide.2 (by omega), show decide (3 < s.size - i) = decide (i + 3 < s.size) from decide_eq_decide.2 (by omega)]
inductive Vd (s : ByteArray) : Nat → Prop
  | fin (i : Nat) (h : s.size ≤ i) : Vd s i
  | step (i : Nat) (h : i < s.size) (hw : 0 < wd s i) (hr : Vd s (i + wd s i)) : Vd s i
theorem Vd.nx {s : ByteArray} {i : Nat} (h : i < s.size) (hv : Vd s i) : 0 < wd s i ∧ Vd s (i + wd s i) := by
  cases hv with
  | fin _ h2 => omega
  | step _ _ hw hr => exact ⟨hw, hr⟩
theorem Vd.iff {s : ByteArray} {i : Nat} (h : i < s.size) (hw : 0 < wd s i) : Vd s i ↔ Vd s (i + wd s i) := ⟨fun h2 => (Vd.nx h h2).2, fun h2 => .step i h hw h2⟩
theorem valGo (s : ByteArray) : ∀ (n i : Nat), i ≤ s.size → s.size ≤ i + n → (Lib.validGoD n (s.data.toList.drop i) = true ↔ Vd s i)
  | 0, i, h1, h2 => by
    have : i = s.size := by omega
    exact ⟨fun _ => .fin i (by omega), fun _ => rfl⟩
  | n + 1, i, h1, h2 => by
    rw [Lib.validGoD, decL s i h1]
    by_cases hi : i < s.size
    · rw [if_neg (by intro e; have := congrArg List.length e; rw [List.length_drop, Array.length_toList] at this; have e2 : s.data.size = s.size := rfl; simp at this; omega)]
      rcases wd_dec hi with ⟨e1, e2⟩ | ⟨e1, e2, e3⟩
      · rw [e2, if_pos ⟨rfl, rfl⟩]
        exact ⟨fun h => (by cases h), fun h => by have := (Vd.nx hi h).1; omega⟩
      · have hw := wd_le s i
        rw [e2, if_neg (by rintro ⟨k1, k2⟩; simp only at k1 k2; have := e3 k2; omega)]
        simp only
        rw [List.drop_drop, valGo s n (i + wd s i) (by omega) (by omega)]
        exact (Vd.iff hi e1).symm
    · rw [if_pos (List.drop_eq_nil_of_le (by rw [Array.length_toList]; show s.size ≤ i; omega))]
      exact ⟨fun _ => .fin i (by omega), fun _ => rfl⟩
theorem valD (s : ByteArray) : Lib.validD s.data.toList = true ↔ Vd s 0 := by
  have := valGo s s.data.toList.length 0 (Nat.zero_le _) (by rw [Array.length_toList]; show s.size ≤ 0 + s.size; omega)
  exact this
open Classical in
theorem valid_ok (s : ByteArray) (hs : s.size ≤ 1000000000) : FnM Tryd.prog mm24 41 [str s] (.bool (decide (Vd s 0))) := by
  have i1 := valStr_ok s (by omega)
  rw [show Lib.validD s.data.toList = decide (Vd s 0) by rw [Bool.eq_iff_iff, valD, decide_eq_true_iff]] at i1
  refine FnM.intro' [(0, str s)] 1 5 Tryd.func41 (by kernel_rfl) rfl rfl rfl rfl rfl ?_
  refine goB ?_
  refine callA (i1) ?_
  refine goB ?_
  exact Ret.bool rfl Iff.rfl
open Classical in
theorem refValid_ok (s : ByteArray) (hs : s.size ≤ 1000000000) : Fn Tryd.prog 42 [str s] (.bool (decide (Vd s 0))) := by
  have i1 := fun (i : Nat) (h : i ≤ s.size) => wd_ext s i h ▸ width_ok (s.extract i s.size) (by rw [ByteArray.size_extract]; omega)
  refine Fn.intro' [(0, str s)] 1 18 Tryd.func42 (by kernel_rfl) rfl rfl rfl rfl rfl ?_
  refine goB ?_
  refine AWp.loopP (J := fun k : Nat => k ≤ s.size ∧ (Vd s 0 ↔ Vd s k)) (fun k => [(3, .int k), (4, .bad)]) (fun k => s.size - k) 0 ⟨Nat.zero_le _, Iff.rfl⟩ .wk ?_
  rintro k ⟨hk, hv⟩
  refine goB ?_
  refine ifA (fun hd => ?_) (fun hd => ?_)
  · simp at hd
    have hwl := wd_le s k
    have hw4 := wd_four s k
    refine goB ?_
    refine ARun.q1 rfl rfl (ql_slice_str (l := k) (h := s.size) rfl Tryd.underlying9 (by simp [bnd, lk, go_sem]) rfl (by omega) (by omega)) ?_
    refine goB ?_
    refine callA ((i1 k hk)) ?_
    refine goB ?_
    refine ifA (fun hq => ?_) (fun hq => ?_)
    · simp at hq
      refine goB ?_
      exact Ret.bool rfl (by rw [decide_eq_true_iff, hv]; exact ⟨fun h => (by cases h), fun h => by have := (Vd.nx hd h).1; omega⟩)
    · simp at hq
      refine goB ?_
      rw [wrap_id (by omega) (by omega)]
      refine ⟨k + wd s k, ⟨by omega, hv.trans (Vd.iff hd (by omega))⟩, by omega, ?_⟩
      rw [show (k : Int) + (wd s k : Nat) = ((k + wd s k : Nat) : Int) by omega]
      exact .wk
  · simp at hd
    refine goB ?_
    exact Ret.bool rfl (by rw [decide_eq_true_iff, hv]; exact ⟨fun _ => .fin k hd, fun _ => rfl⟩)
open Classical in
noncomputable def errF (s : ByteArray) : Int := if 400 < s.size then 2 else if Vd s 0 then 0 else 240
theorem errF_0 (s : ByteArray) : errF s = 0 ↔ s.size ≤ 400 ∧ Vd s 0 := by
  unfold errF
  split
  · constructor <;> intro h <;> omega
  · split
    · rename_i h1 h2; exact ⟨fun _ => ⟨by omega, h2⟩, fun _ => rfl⟩
    · rename_i h1 h2; exact ⟨fun h => by omega, fun h => absurd h.2 h2⟩
open Classical in
theorem fit_ok (s : ByteArray) : Fn Tryd.prog 74 [str s] (.int (errF s)) := by
  have i1 := fun h => refValid_ok s h
  have hE : errF s = if 400 < s.size then 2 else if Vd s 0 then 0 else 240 := rfl
  refine Fn.intro' [(0, str s)] 1 9 Tryd.func74 (by kernel_rfl) rfl rfl rfl rfl rfl ?_
  refine goB ?_
  refine ifA (fun h => ?_) (fun h => ?_)
  · simp at h
    refine goB ?_
    exact Ret.data rfl (by rw [hE, if_pos (by omega)]; rfl) (.base _)
  simp at h
  rw [if_neg (by omega)] at hE
  refine goB ?_
  refine callA ((i1 (by omega))) ?_
  refine goB ?_
  refine ifA (fun h2 => ?_) (fun h2 => ?_)
  · simp at h2
    refine goB ?_
    exact Ret.data rfl (by rw [hE, if_neg h2]; rfl) (.base _)
  · simp at h2
    refine goB ?_
    exact Ret.data rfl (by rw [hE, if_pos h2]; rfl) (.base _)
noncomputable def errL : List ByteArray → Int
  | [] => 0
  | b :: r => if errF b = 0 then errL r else errF b
theorem errL_drop : ∀ {l : List ByteArray} {k : Nat}, (∀ i, ∀ h : i < l.length, i < k → errF l[i] = 0) → errL l = errL (l.drop k)
  | [], k, _ => by simp
  | b :: l, 0, _ => rfl
  | b :: l, k + 1, h => by
    have h0 := h 0 (by simp) (by omega)
    simp only [List.getElem_cons_zero] at h0
    rw [errL, if_pos h0, List.drop_succ_cons]
    exact errL_drop fun i hi hk => h (i + 1) (by simpa using hi) (by omega)
theorem Pu_strs (l : List ByteArray) : Pu (.lst (l.map str)) := .lst fun e he c hc => by
  obtain ⟨x, _, rfl⟩ := List.mem_map.1 he
  simp only [AV.cells, List.mem_singleton] at hc
  subst hc; exact .base _
attribute [simp] Pu_strs
open Classical in
theorem check_ok (l : List ByteArray) (hl : l.length ≤ 100) : FnM Tryd.prog mm24 68 [.lst (l.map str)] (.int (errL l)) := by
  have i1 := fun (s : ByteArray) h => valid_ok s h
  have hE : ∀ s, errF s = if 400 < s.size then 2 else if Vd s 0 then 0 else 240 := fun s => rfl
  refine FnM.intro' [(0, .lst (l.map str))] 1 18 Tryd.func68 (by kernel_rfl) rfl rfl rfl rfl rfl ?_
  refine goB ?_
  refine AWp.loopP (J := fun k : Nat => k ≤ l.length ∧ ∀ i, ∀ h : i < l.length, i < k → errF l[i] = 0) (fun k => [(7, .int k), (8, .bad)]) (fun k => l.length - k) 0 ⟨Nat.zero_le _, by omega⟩ .wk ?_
  rintro k ⟨hk, hn⟩
  refine goB ?_
  refine ifA (fun hd => ?_) (fun hd => ?_)
  · simp at hd
    have hnth : nth default l (k : Int) = l[k] := nth_eq hd
    have hdr := errL_drop hn
    rw [List.drop_eq_getElem_cons hd, errL] at hdr
    have hE := hE l[k]
    generalize hsk : l[k] = s at *
    refine goB ?_
    rw [hnth]
    refine goB ?_
    refine ifA (fun h => ?_) (fun h => ?_)
    · simp at h
      refine goB ?_
      rw [if_pos (by omega)] at hE
      exact Ret.data rfl (by rw [hdr, if_neg (by omega), hE]; rfl) (.base _)
    simp at h
    rw [if_neg (by omega)] at hE
    refine goB ?_
    refine callA ((i1 s (by omega))) ?_
    refine goB ?_
    refine ifA (fun h2 => ?_) (fun h2 => ?_)
    · simp at h2
      rw [if_neg h2] at hE
      refine goB ?_
      exact Ret.data rfl (by rw [hdr, if_neg (by omega), hE]; rfl) (.base _)
    · simp at h2
      rw [if_pos h2] at hE
      refine goB ?_
      rw [wrap_succ (by omega)]
      refine ⟨k + 1, ⟨by omega, fun i hi hik => ?_⟩, by omega, .wk⟩
      by_cases e : i < k
      · exact hn i hi e
      · obtain rfl : i = k := by omega
        rw [hsk]; exact hE
  · simp at hd
    obtain rfl : k = l.length := by omega
    refine goB ?_
    exact Ret.data rfl (by rw [errL_drop hn, List.drop_length]; rfl) (.base _)
end Go.Ab
