/- Part of the proof. -/
import Derived.Test.YtjfahhbobiiphaaXN
set_option linter.unusedSimpArgs false
set_option linter.unusedVariables false
set_option maxHeartbeats 4000000
namespace Go.Ab
open Go Go.Ab Go.Proofs Go.Ab.Ty

theorem set_ok (s : ByteArray) : Fn Try.prog 57 [str s] (encX (.mk 3 s [])) := by
  rw [encX_mk]
  refine Fn.intro' [(0, str s)] 1 5 Try.func57 (by kernel_rfl) rfl rfl rfl rfl rfl ?_
  refine goB ?_
  refine bldA pl24 zero24 ?_
  refine goB ?_
  simp +decide only [go_sem]
  exact ⟨[.agg [.int 3, str s, .base (.slice none 0 0)]], by kernel_rfl, Pub.agg' (show PubL _ 0 [_, _, _] [_, _, _] from ⟨.pu (.base _), .pu (.base _), .nilS, trivial⟩)⟩
abbrev bA : ByteArray := ⟨#[97]⟩
abbrev bAA : ByteArray := ⟨#[97, 97]⟩
abbrev bAB : ByteArray := ⟨#[97, 98]⟩
def rA : Rx := .mk 6 ByteArray.empty [.mk 3 bA []]
theorem rA_ok : rA.ok := .mk _ _ _ (by decide) (by decide) fun x hx => by
  simp only [List.mem_singleton] at hx; subst hx
  exact .mk _ _ _ (by decide) (by decide) (by simp)
theorem rA_valid : rA.valid := by
  refine ⟨by simp [Rx.fits, rA, Rx.cnt, cnts, Rx.dep, deps], .mk _ _ _ (by unfold nodeOk; rw [if_neg (by decide)]; exact ⟨rfl, by simp⟩) fun x hx => ?_⟩
  simp only [List.mem_singleton] at hx; subst hx
  refine .mk _ _ _ ?_ (by simp)
  unfold nodeOk
  rw [if_pos rfl]
  refine ⟨rfl, by decide, by decide, fun i hi => ?_⟩
  have hi2 : i < 1 := hi
  obtain rfl : i = 0 := by omega
  intro h
  exact ⟨(by decide : okB (97 : UInt8)), fun h0 => by omega⟩
theorem txAA : isTx bAA := ⟨by decide, fun i h => by
  have h2 : i < 2 := h
  rcases (by omega : i = 0 ∨ i = 1) with rfl | rfl
  · exact (by decide : okB (97 : UInt8))
  · exact (by decide : okB (97 : UInt8))⟩
theorem txAB : isTx bAB := ⟨by decide, fun i h => by
  have h2 : i < 2 := h
  rcases (by omega : i = 0 ∨ i = 1) with rfl | rfl
  · exact (by decide : okB (97 : UInt8))
  · exact (by decide : okB (98 : UInt8))⟩
theorem inA (c : UInt8) : isIn bA c ↔ c = 97 := by
  unfold isIn
  constructor
  · rintro ⟨i, h, e⟩
    have h2 : i < 1 := h
    obtain rfl : i = 0 := by omega
    exact e.symm
  · rintro rfl; exact ⟨0, by decide, rfl⟩
theorem matAA : matA rA bAA = .tup [.bool true, .int 0] := by
  rw [matA_t ⟨rA_valid, txAA⟩]
  have h : M bAA rA 0 bAA.size := by
    rw [rA, M_6 (by omega)]
    refine .step (k := 1) ((M_3 (by decide)).2 ⟨rfl, by decide, (inA _).2 rfl⟩) (.step (k := 2) ((M_3 (by decide)).2 ⟨rfl, by decide, (inA _).2 rfl⟩) (.refl _))
  simp [tb, h]
theorem matAB : matA rA bAB = .tup [.bool false, .int 0] := by
  rw [matA_t ⟨rA_valid, txAB⟩]
  have h : ¬ M bAB rA 0 bAB.size := by
    rw [rA, M_6 (by omega)]
    intro h
    have h2 : bAB.size = 2 := rfl
    rw [h2, Star.unfold (M_fwd _ _)] at h
    rcases h with h | ⟨k, _, h3, h4⟩
    · omega
    obtain ⟨rfl, _⟩ := (M_3 (by have := (M_fwd _ _ _ _ h3).2; omega)).1 h3
    rw [Star.unfold (M_fwd _ _)] at h4
    rcases h4 with h | ⟨k, _, h5, h6⟩
    · omega
    obtain ⟨rfl, hlt, h7⟩ := (M_3 (by have := (M_fwd _ _ _ _ h5).2; omega)).1 h5
    rw [inA] at h7
    exact absurd h7 (by decide : ¬ (98 : UInt8) = 97)
  simp [tb, h]
@[simp] theorem Pu_rA : Pu (.agg [.int 6, str ByteArray.empty, .lst [.agg [.int 3, str bA, .lst []]]]) := by
  have := Pu_Xc rA
  rw [rA, encX_mk, List.map_cons, encX_mk] at this
  exact .agg fun c hc => this c hc
@[simp] theorem Pu_lst1X (o : Int) (S : ByteArray) (l : List Rx) : Pu (.lst [.agg [.int o, str S, .lst (l.map encX)]]) := by
  have := Pu_mapX [.mk o S l]
  rwa [List.map_cons, List.map_nil, encX_mk] at this
open Classical in
theorem awake_true : Fn Try.prog 20 [] (.bool true) := by
  have i1 := set_ok bA
  have i2 := matches_ok rA rA_ok (by decide) bAA
  have i3 := matches_ok rA rA_ok (by decide) bAB
  have i4 := valid_ok rA rA_ok (by decide)
  rw [matAA] at i2
  rw [matAB] at i3
  rw [rA, encX_mk, List.map_cons, encX_mk] at i2 i3 i4
  rw [encX_mk] at i1
  have hv : decide (Rx.mk 6 ByteArray.empty [.mk 3 bA []]).valid = true := by rw [decide_eq_true_iff]; exact rA_valid
  rw [hv] at i4
  refine Fn.intro' [] 0 36 Try.func20 (by kernel_rfl) rfl rfl rfl rfl rfl ?_
  refine goB ?_
  refine callA (i1) ?_
  refine goB ?_
  refine bldA pl24 zero24 ?_
  refine goB ?_
  refine callA (i2) ?_
  refine goB ?_
  refine callA (i3) ?_
  refine goB ?_
  refine gcallA (i := fun hg => i4) (hr := ?_)
  refine goB ?_
  exact Ret.bool rfl (by simp)
open Classical in
theorem law_matches (r : Rx) (hok : r.ok) (s : ByteArray) : Fn Try.prog 4 [encX r, str s] (.bool true) := by
  have i1 := small_ok [r] (Nat.le_of_lt (by decide : 1 < maxLen)) (by simpa using hok)
  have i2 := refText_ok s
  have j1 := fun h : r.cnt ≤ 80 => nullableP_ok r hok (by omega)
  have j2 := refNullableP_ok r hok
  have j3 := fun h : r.cnt ≤ 80 => matches_ok r hok (by omega) s
  have j4 := refMatches_ok r hok s
  have j5 := fun h : r.cnt ≤ 80 => lonely_ok r hok (by omega) s
  have j6 := refLonely_ok r hok s
  have hsm : smallX r → r.cnt ≤ 80 := fun h => h.1
  unfold nulA at j1 j2
  unfold matA at j3 j4
  unfold lonA at j5 j6
  generalize (decide (r.valid ∧ r.nul)) = b1 at *
  generalize (if r.valid then (0 : Int) else 4) = e1 at *
  generalize (decide (fit r s ∧ M s r 0 s.size)) = b2 at *
  generalize (if fit r s then (0 : Int) else 4) = e2 at *
  generalize (if fit r s then lastG (tb (M s r) 0) 0 (s.size + 1) else 0) = n2 at *
  obtain ⟨o, S, l⟩ := r
  rw [List.map_cons, List.map_nil, encX_mk] at i1
  rw [encX_mk] at j1 j2 j3 j4 j5 j6 ⊢
  refine Fn.intro' [(0, .agg [.int o, str S, .lst (l.map encX)]), (1, str s)] 2 100 Try.func4 (by kernel_rfl) rfl rfl rfl rfl rfl ?_
  refine goB ?_
  refine callA (i1) ?_
  refine goB ?_
  refine gcallA (i := fun hg => i2) (hr := ?_)
  refine goB ?_
  refine ifA (fun h => ?_) (fun h => ?_)
  · refine goB ?_
    exact Ret.bool rfl (by simp)
  simp at h
  have h80 := hsm h.1.1
  refine goB ?_
  refine callA ((j1 h80)) ?_
  refine goB ?_
  refine callA (j2) ?_
  refine goB ?_
  refine callA ((j3 h80)) ?_
  refine goB ?_
  refine callA (j4) ?_
  refine goB ?_
  refine callA ((j5 h80)) ?_
  refine goB ?_
  refine callA (j6) ?_
  refine goB ?_
  refine gcallA (i := fun hg => awake_true) (hr := ?_)
  refine goB ?_
  exact Ret.bool rfl (by simp)
end Go.Ab
