/- Part of the proof. -/
import Derived.Test.YtdgfgadmcahnlaaDoorTM
import Derived.Test.YtdgfgadmcahnlaaDoorTW24
set_option linter.unusedSimpArgs false
set_option linter.unusedVariables false
set_option maxHeartbeats 4000000
namespace Go.Ab
open Go Go.Ab Go.Proofs Go.Ab.Ty

theorem Pu_t2b (s : Bool) (n : Int) : Pu (.tup [.bool s, .int n]) := .tup (by simp)
/-! ### Canonical, Equal, Less; the chapter's first example -/
theorem toL_eq (a b : ByteArray) : (a.toList == b.toList) = decide (a = b) := by
  rw [ba_toList, ba_toList, Bool.eq_iff_iff, beq_iff_eq, decide_eq_true_iff]
  constructor
  · intro h
    cases a; cases b
    simp only at h
    rename_i x y
    cases x; cases y
    simp only at h
    rw [h]
  · intro h; rw [h]
theorem errL_2 (a b : ByteArray) : errL [a, b] = if errF a = 0 then errF b else errF a := by rw [errL, errL_1]
noncomputable def canE (s : ByteArray) : ByteArray := if errF s = 0 then canS s else ⟨#[]⟩
theorem canX_ok (s : ByteArray) : FnM Tryd.prog mm24 30 [str s] (.tup [str (canE s), .int (errF s)]) := by
  have hc := check_ok [s] (by simp)
  rw [errL_1] at hc
  have hm := fun h => canonical_ok s h
  have hN : canE s = if errF s = 0 then canS s else ⟨#[]⟩ := rfl
  have he := errF_sz (s := s)
  generalize canE s = N at *
  generalize errF s = E at *
  refine FnM.intro' [(0, str s)] 1 13 Tryd.func30 (by kernel_rfl) rfl rfl rfl rfl rfl ?_
  refine goB ?_
  refine callA (hc) ?_
  refine goB ?_
  refine ifA (fun h1 => ?_) (fun h1 => ?_)
  · simp at h1
    rw [if_neg h1] at hN
    refine goB ?_
    exact Ret.data rfl (by rw [hN]; rfl) (Pu_t2s _ _)
  simp at h1
  rw [if_pos h1] at hN
  have hsz := (he h1).1
  refine goB ?_
  refine callA ((hm (by omega))) ?_
  refine goB ?_
  exact Ret.data rfl (by rw [hN, h1]; rfl) (Pu_t2s _ _)
noncomputable def errB (a b : ByteArray) : Int := if errF a = 0 then errF b else errF a
theorem errB_0 {a b : ByteArray} (h : errB a b = 0) : errF a = 0 ∧ errF b = 0 := by
  unfold errB at h
  split at h
  · rename_i h1; exact ⟨h1, h⟩
  · rename_i h1; exact absurd h h1
noncomputable def eqS (a b : ByteArray) : Bool := decide (errB a b = 0) && decide (canS a = canS b)
noncomputable def ltS (a b : ByteArray) : Bool := decide (errB a b = 0) && Op.bytesLess (canS a).toList (canS b).toList
theorem equalX_ok (a b : ByteArray) : FnM Tryd.prog mm24 32 [str a, str b] (.tup [.bool (eqS a b), .int (errB a b)]) := by
  have hc := check_ok [a, b] (by simp)
  rw [errL_2] at hc
  have h2 := fun h => canonical_ok a h
  have h3 := fun h => canonical_ok b h
  have hN : eqS a b = (decide (errB a b = 0) && decide (canS a = canS b)) := rfl
  have he : errB a b = 0 → a.size ≤ 400 ∧ b.size ≤ 400 := fun h => ⟨(errF_sz (errB_0 h).1).1, (errF_sz (errB_0 h).2).1⟩
  have hc : FnM Tryd.prog mm24 68 [.lst ([a, b].map str)] (.int (errB a b)) := hc
  generalize eqS a b = N at *
  generalize errB a b = E at *
  refine FnM.intro' [(0, str a), (1, str b)] 2 19 Tryd.func32 (by kernel_rfl) rfl rfl rfl rfl rfl ?_
  refine goB ?_
  refine callA (hc) ?_
  refine goB ?_
  refine ifA (fun h1 => ?_) (fun h1 => ?_)
  · simp at h1
    refine goB ?_
    exact Ret.data rfl (by rw [hN, decide_eq_false h1]; rfl) (Pu_t2b _ _)
  simp at h1
  have hsz := he h1
  refine goB ?_
  refine callA ((h2 (by omega))) ?_
  refine goB ?_
  refine callA ((h3 (by omega))) ?_
  refine goB ?_
  exact Ret.data rfl (by rw [hN, h1, toL_eq]; rfl) (Pu_t2b _ _)
theorem lessX_ok (a b : ByteArray) : FnM Tryd.prog mm24 34 [str a, str b] (.tup [.bool (ltS a b), .int (errB a b)]) := by
  have hc := check_ok [a, b] (by simp)
  rw [errL_2] at hc
  have h2 := fun h => canonical_ok a h
  have h3 := fun h => canonical_ok b h
  have hN : ltS a b = (decide (errB a b = 0) && Op.bytesLess (canS a).toList (canS b).toList) := rfl
  have he : errB a b = 0 → a.size ≤ 400 ∧ b.size ≤ 400 := fun h => ⟨(errF_sz (errB_0 h).1).1, (errF_sz (errB_0 h).2).1⟩
  have hc : FnM Tryd.prog mm24 68 [.lst ([a, b].map str)] (.int (errB a b)) := hc
  generalize ltS a b = N at *
  generalize errB a b = E at *
  refine FnM.intro' [(0, str a), (1, str b)] 2 19 Tryd.func34 (by kernel_rfl) rfl rfl rfl rfl rfl ?_
  refine goB ?_
  refine callA (hc) ?_
  refine goB ?_
  refine ifA (fun h1 => ?_) (fun h1 => ?_)
  · simp at h1
    refine goB ?_
    exact Ret.data rfl (by rw [hN, decide_eq_false h1]; rfl) (Pu_t2b _ _)
  simp at h1
  have hsz := he h1
  refine goB ?_
  refine callA ((h2 (by omega))) ?_
  refine goB ?_
  refine callA ((h3 (by omega))) ?_
  refine goB ?_
  exact Ret.data rfl (by rw [hN, h1]; rfl) (Pu_t2b _ _)
/-! ### awake -/
def tE1 : ByteArray := ⟨#[101, 204, 129]⟩
def tE2 : ByteArray := ⟨#[195, 169]⟩
def tE3 : ByteArray := ⟨#[10, 13]⟩
theorem tE1_v : errF tE1 = 0 := (errF_0 _).2 ⟨by decide, .step 0 (by decide) (by decide) (.step 1 (by decide) (by decide) (.fin 3 (by decide)))⟩
theorem tE2_v : errF tE2 = 0 := (errF_0 _).2 ⟨by decide, .step 0 (by decide) (by decide) (.fin 2 (by decide))⟩
theorem tE3_v : errF tE3 = 0 := (errF_0 _).2 ⟨by decide, .step 0 (by decide) (by decide) (.step 1 (by decide) (by decide) (.fin 2 (by decide)))⟩
theorem two_chars {s : ByteArray} {p q : Nat} {r0 r1 : Nat} (hs : s.size = p + q) (hp : 0 < p) (hq : 0 < q) (h0 : Utf8.decode s 0 = (r0, p)) (h1 : Utf8.decode s p = (r1, q)) : pz s 1 = p ∧ pz s 2 = s.size ∧ nch s = 2 ∧ rnA s 0 = r0 ∧ rnA s 1 = r1 := by
  have e0 : pz s 0 = 0 := rfl
  obtain ⟨a1, a2⟩ := pz_eval e0 (by omega) h0
  replace a1 : pz s 1 = p := by rw [a1, Nat.zero_add]
  obtain ⟨b1, b2⟩ := pz_eval a1 (by omega) h1
  replace b1 : pz s 2 = p + q := b1
  refine ⟨a1, by omega, nch_eq (fun j hj => ?_) (by omega), a2, b2⟩
  obtain rfl | rfl : j = 0 ∨ j = 1 := by omega
  · omega
  · omega
theorem tE1_n : (cluE tE1).length = 1 := by
  obtain ⟨a1, a2, a3, a4, a5⟩ := two_chars (s := tE1) (p := 1) (q := 2) rfl (by decide) (by decide) (show Utf8.decode tE1 0 = (101, 1) by kernel_rfl) (show Utf8.decode tE1 1 = (769, 2) by kernel_rfl)
  have c0 : cls tE1 0 = .other := by rw [cls, a4]; kernel_rfl
  have c1 : cls tE1 1 = .extend := by rw [cls, a5]; kernel_rfl
  have hj : joinsS (cls tE1) 1 = true := by
    unfold joinsS
    simp [c0, c1, hard, jA, jB]
  have hb : bF tE1 2 = [0] := by
    rw [bF, if_neg (by rw [hj]; decide), bF, if_pos (.inl rfl)]; rfl
  have hm : mks tE1 = [0, 3] := by
    rw [mks, if_pos (by decide), a3, hb]; rfl
  rw [cluE, if_pos tE1_v, clu_len, hm]; rfl
theorem tE3_n : (cluE tE3).length = 2 := by
  obtain ⟨a1, a2, a3, a4, a5⟩ := two_chars (s := tE3) (p := 1) (q := 1) rfl (by decide) (by decide) (show Utf8.decode tE3 0 = (10, 1) by kernel_rfl) (show Utf8.decode tE3 1 = (13, 1) by kernel_rfl)
  have c0 : cls tE3 0 = .lf := by rw [cls, a4]; kernel_rfl
  have c1 : cls tE3 1 = .cr := by rw [cls, a5]; kernel_rfl
  have hj : joinsS (cls tE3) 1 = false := by
    unfold joinsS
    simp [c0, c1, hard, jA, jB]
  have hb : bF tE3 2 = [0, 1] := by
    rw [bF, if_pos (.inr hj), bF, if_pos (.inl rfl), a1]; rfl
  have hm : mks tE3 = [0, 1, 2] := by
    rw [mks, if_pos (by decide), a3, hb]; rfl
  rw [cluE, if_pos tE3_v, clu_len, hm]; rfl
theorem tE_eq : canS tE1 = canS tE2 := by
  obtain ⟨a1, a2, a3, a4, a5⟩ := two_chars (s := tE1) (p := 1) (q := 2) rfl (by decide) (by decide) (show Utf8.decode tE1 0 = (101, 1) by kernel_rfl) (show Utf8.decode tE1 1 = (769, 2) by kernel_rfl)
  have e0 : pz tE2 0 = 0 := rfl
  obtain ⟨b1, b2⟩ := pz_eval e0 (by decide) (show Utf8.decode tE2 0 = (233, 2) by kernel_rfl)
  have b3 : nch tE2 = 1 := nch_eq (fun j hj => by
    obtain rfl : j = 0 := by omega
    rw [e0]; decide) (by rw [b1]; decide)
  have p1 : ptsL tE1 2 = [101, 769] := by
    rw [ptsL_s, ptsL_s, ptsL_0, a4, a5]; kernel_rfl
  have p2 : ptsL tE2 1 = [101, 769] := by
    rw [ptsL_s, ptsL_0, b2]; kernel_rfl
  rw [canS, canS, a3, b3, p1, p2]
theorem awake_ok : FnM Tryd.prog mm24 22 [] (.bool true) := by
  have h1 := countX_ok tE1
  rw [tE1_n, tE1_v] at h1
  have h3 := countX_ok tE3
  rw [tE3_n, tE3_v] at h3
  have h2 := equalX_ok tE1 tE2
  have e1 : errB tE1 tE2 = 0 := by rw [errB, if_pos tE1_v]; exact tE2_v
  have e2 : eqS tE1 tE2 = true := by rw [eqS, e1, tE_eq]; simp
  rw [e1, e2] at h2
  unfold tE1 at h1 h2
  unfold tE2 at h2
  unfold tE3 at h3
  refine FnM.intro' [] 0 40 Tryd.func22 (by kernel_rfl) rfl rfl rfl rfl rfl ?_
  refine goB ?_
  refine callA (h1) ?_
  refine goB ?_
  refine callA (h2) ?_
  refine goB ?_
  refine callA (h3) ?_
  refine goB ?_
  exact Ret.bool rfl (by simp)
end Go.Ab
