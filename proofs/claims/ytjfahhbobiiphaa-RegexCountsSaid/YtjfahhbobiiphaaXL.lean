/- Part of the proof. -/
import Derived.Test.YtjfahhbobiiphaaXK
import Derived.Test.YtjfahhbobiiphaaXF
set_option linter.unusedSimpArgs false
set_option linter.unusedVariables false
set_option maxHeartbeats 4000000
namespace Go.Ab
open Go Go.Ab Go.Proofs Go.Ab.Ty

section
variable {N : Nat} {R : Rl} (h : Fwd N R)
include h
end
theorem M_3 {s S : ByteArray} {l : List Rx} {i j : Nat} (hj : j < s.size + 1) : M s (.mk 3 S l) i j ↔ j = i + 1 ∧ ∃ h : i < s.size, isIn S s[i] := by
  rw [M_mk]; unfold opM; constructor
  · rintro ⟨_, _, h⟩; grind
  · intro h; exact ⟨by omega, hj, .inr (.inl ⟨rfl, h⟩)⟩
theorem M_6 {s S : ByteArray} {x : Rx} {i j : Nat} (hj : j < s.size + 1) : M s (.mk 6 S [x]) i j ↔ Star (M s x) i j := by
  rw [M_mk]; unfold opM; constructor
  · rintro ⟨_, _, h⟩; simp at h; grind
  · intro h; exact ⟨h.le (M_fwd s x), hj, .inr (.inr (.inr (.inl ⟨rfl, h⟩)))⟩
end Go.Ab
set_option maxHeartbeats 4000000
namespace Go.Ab
open Go Go.Ab Go.Proofs Go.Ab.Ty

end Go.Ab
set_option maxHeartbeats 4000000
namespace Go.Ab
open Go Go.Ab Go.Proofs Go.Ab.Ty

def opN (o : Int) (ps : List Prop) : Prop := o = 2 ∨ o = 6 ∨ (o = 4 ∨ o = 7) ∧ (∀ p ∈ ps, p) ∨ o = 5 ∧ (∃ p ∈ ps, p) ∨ o = 8 ∧ ¬ ps.headD False
mutual
def Rx.nul : Rx → Prop
  | .mk o _ l => opN o (nuls l)
def nuls : List Rx → List Prop
  | [] => []
  | r :: l => r.nul :: nuls l
end
end Go.Ab
set_option maxHeartbeats 4000000
namespace Go.Ab
open Go Go.Ab Go.Proofs Go.Ab.Ty

def fit (r : Rx) (s : ByteArray) : Prop := r.valid ∧ isTx s
open Classical in
noncomputable def askA (r : Rx) (s : ByteArray) : AV := if fit r s then .tup [tabM s r, .int 0] else .tup [.base (.slice none 0 0), .int 4]
open Classical in
noncomputable def matA (r : Rx) (s : ByteArray) : AV := .tup [.bool (decide (fit r s ∧ M s r 0 s.size)), .int (if fit r s then 0 else 4)]
theorem Pu_tup2 {a b : AV} (ha : Pu a) (hb : Pu b) : Pu (.tup [a, b]) := .tup fun c hc => by
  simp only [List.mem_cons, List.not_mem_nil, or_false] at hc
  rcases hc with rfl | rfl
  · exact ha
  · exact hb
theorem askA_t {r : Rx} {s : ByteArray} (h : fit r s) : askA r s = .tup [tabM s r, .int 0] := by unfold askA; rw [if_pos h]
theorem askA_f {r : Rx} {s : ByteArray} (h : ¬ fit r s) : askA r s = .tup [.base (.slice none 0 0), .int 4] := by unfold askA; rw [if_neg h]
theorem matA_t {r : Rx} {s : ByteArray} (h : fit r s) : matA r s = .tup [.bool (tb (M s r) 0 s.size), .int 0] := by unfold matA; rw [if_pos h]; simp [h, tb]
theorem matA_f {r : Rx} {s : ByteArray} (h : ¬ fit r s) : matA r s = .tup [.bool false, .int 4] := by unfold matA; rw [if_neg h]; simp [h]
theorem asked_ok (r : Rx) (hok : r.ok) (hc : r.cnt ≤ 1000000000) (s : ByteArray) : Fn Try.prog 58 [encX r, str s] (askA r s) := by
  have i1 := valid_ok r hok hc
  have i2 := isText_ok s
  have i3 : fit r s → Fn Try.prog 89 [encX r, str s] (tabM s r) := fun h => parts_ok r hok h.1.2 s (by have := h.2.1; omega)
  have hT := @askA_t r s
  have hF := @askA_f r s
  have hfit : fit r s ↔ r.valid ∧ isTx s := Iff.rfl
  obtain ⟨o, S, l⟩ := r
  rw [encX_mk] at i1 i3 ⊢
  refine Fn.intro' [(0, .agg [.int o, str S, .lst (l.map encX)]), (1, str s)] 2 17 Try.func58 (by kernel_rfl) rfl rfl rfl rfl rfl ?_
  refine goA ?_
  refine callA (i1) ?_
  refine goA ?_
  refine gcallA (i := fun hg => i2) (hr := ?_)
  refine goA ?_
  refine ifA (fun h => ?_) (fun h => ?_)
  · simp at h
    rw [hF (by rw [hfit]; grind)]
    refine goA ?_
    exact Ret.data rfl rfl (Pu_tup2 (.base _) (.base _))
  simp at h
  have hfy := hfit.2 h
  rw [hT hfy]
  refine goA ?_
  refine callA ((i3 hfy)) ?_
  refine goA ?_
  exact Ret.data rfl rfl (Pu_tup2 (Pu_tabM _ _) (.base _))
theorem matches_ok (r : Rx) (hok : r.ok) (hc : r.cnt ≤ 1000000000) (s : ByteArray) : Fn Try.prog 21 [encX r, str s] (matA r s) := by
  have i1 := asked_ok r hok hc s
  have hs := fun h : fit r s => h.2.1
  by_cases hf : fit r s
  · rw [matA_t hf]
    rw [askA_t hf] at i1
    have hs := hs hf
    obtain ⟨o, S, l⟩ := r
    rw [encX_mk] at i1 ⊢
    refine Fn.intro' [(0, .agg [.int o, str S, .lst (l.map encX)]), (1, str s)] 2 24 Try.func21 (by kernel_rfl) rfl rfl rfl rfl rfl ?_
    refine goA ?_
    refine callA (i1) ?_
    refine goA ?_
    refine ifA (fun h => ?_) (fun h => ?_)
    · simp at h
    refine goA ?_
    refine ARun.q1 rfl rfl (ql_tabRow 0 rfl rfl Try.underlying68 ⟨rfl, by omega⟩ (by kernel_rfl)) ?_
    refine goA ?_
    refine ARun.q1 rfl rfl (ql_tabCell s.size rfl rfl Try.underlying71 ⟨rfl, by omega⟩ (by kernel_rfl)) ?_
    refine goA ?_
    exact Ret.data rfl rfl (Pu_tup2 (.base _) (.base _))
  · rw [matA_f hf]
    rw [askA_f hf] at i1
    obtain ⟨o, S, l⟩ := r
    rw [encX_mk] at i1 ⊢
    refine Fn.intro' [(0, .agg [.int o, str S, .lst (l.map encX)]), (1, str s)] 2 24 Try.func21 (by kernel_rfl) rfl rfl rfl rfl rfl ?_
    refine goA ?_
    refine callA (i1) ?_
    refine goA ?_
    refine ifA (fun h => ?_) (fun h => ?_)
    · refine goA ?_
      exact Ret.data rfl rfl (Pu_tup2 (.base _) (.base _))
    simp at h
end Go.Ab
set_option maxHeartbeats 4000000
namespace Go.Ab
open Go Go.Ab Go.Proofs Go.Ab.Ty

theorem set_ok (s : ByteArray) : Fn Try.prog 57 [str s] (encX (.mk 3 s [])) := by
  rw [encX_mk]
  refine Fn.intro' [(0, str s)] 1 5 Try.func57 (by kernel_rfl) rfl rfl rfl rfl rfl ?_
  refine goB ?_
  refine bldA pl24 zero24 ?_
  refine goB ?_
  simp +decide only [go_sem]
  exact ⟨[.agg [.int 3, str s, .base (.slice none 0 0)]], by kernel_rfl, Pub.agg' (show PubL _ 0 [_, _, _] [_, _, _] from ⟨.pu (.base _), .pu (.base _), .nilS, trivial⟩)⟩
abbrev bA : ByteArray := ⟨#[97]⟩
abbrev bAA : ByteArray := ⟨#[97, 97]⟩
abbrev bAB : ByteArray := ⟨#[97, 98]⟩
def rA : Rx := .mk 6 ByteArray.empty [.mk 3 bA []]
theorem rA_ok : rA.ok := .mk _ _ _ (by decide) (by decide) fun x hx => by
  simp only [List.mem_singleton] at hx; subst hx
  exact .mk _ _ _ (by decide) (by decide) (by simp)
theorem rA_valid : rA.valid := by
  refine ⟨by simp [Rx.fits, rA, Rx.cnt, cnts, Rx.dep, deps], .mk _ _ _ (by unfold nodeOk; rw [if_neg (by decide)]; exact ⟨rfl, by simp⟩) fun x hx => ?_⟩
  simp only [List.mem_singleton] at hx; subst hx
  refine .mk _ _ _ ?_ (by simp)
  unfold nodeOk
  rw [if_pos rfl]
  refine ⟨rfl, by decide, by decide, fun i hi => ?_⟩
  have hi2 : i < 1 := hi
  obtain rfl : i = 0 := by omega
  intro h
  exact ⟨(by decide : okB (97 : UInt8)), fun h0 => by omega⟩
theorem txAA : isTx bAA := ⟨by decide, fun i h => by
  have h2 : i < 2 := h
  rcases (by omega : i = 0 ∨ i = 1) with rfl | rfl
  · exact (by decide : okB (97 : UInt8))
  · exact (by decide : okB (97 : UInt8))⟩
theorem txAB : isTx bAB := ⟨by decide, fun i h => by
  have h2 : i < 2 := h
  rcases (by omega : i = 0 ∨ i = 1) with rfl | rfl
  · exact (by decide : okB (97 : UInt8))
  · exact (by decide : okB (98 : UInt8))⟩
theorem inA (c : UInt8) : isIn bA c ↔ c = 97 := by
  unfold isIn
  constructor
  · rintro ⟨i, h, e⟩
    have h2 : i < 1 := h
    obtain rfl : i = 0 := by omega
    exact e.symm
  · rintro rfl; exact ⟨0, by decide, rfl⟩
theorem matAA : matA rA bAA = .tup [.bool true, .int 0] := by
  rw [matA_t ⟨rA_valid, txAA⟩]
  have h : M bAA rA 0 bAA.size := by
    rw [rA, M_6 (by omega)]
    refine .step (k := 1) ((M_3 (by decide)).2 ⟨rfl, by decide, (inA _).2 rfl⟩) (.step (k := 2) ((M_3 (by decide)).2 ⟨rfl, by decide, (inA _).2 rfl⟩) (.refl _))
  simp [tb, h]
theorem matAB : matA rA bAB = .tup [.bool false, .int 0] := by
  rw [matA_t ⟨rA_valid, txAB⟩]
  have h : ¬ M bAB rA 0 bAB.size := by
    rw [rA, M_6 (by omega)]
    intro h
    have h2 : bAB.size = 2 := rfl
    rw [h2, Star.unfold (M_fwd _ _)] at h
    rcases h with h | ⟨k, _, h3, h4⟩
    · omega
    obtain ⟨rfl, _⟩ := (M_3 (by have := (M_fwd _ _ _ _ h3).2; omega)).1 h3
    rw [Star.unfold (M_fwd _ _)] at h4
    rcases h4 with h | ⟨k, _, h5, h6⟩
    · omega
    obtain ⟨rfl, hlt, h7⟩ := (M_3 (by have := (M_fwd _ _ _ _ h5).2; omega)).1 h5
    rw [inA] at h7
    exact absurd h7 (by decide : ¬ (98 : UInt8) = 97)
  simp [tb, h]
@[simp] theorem Pu_rA : Pu (.agg [.int 6, str ByteArray.empty, .lst [.agg [.int 3, str bA, .lst []]]]) := by
  have := Pu_Xc rA
  rw [rA, encX_mk, List.map_cons, encX_mk] at this
  exact .agg fun c hc => this c hc
@[simp] theorem Pu_lst1X (o : Int) (S : ByteArray) (l : List Rx) : Pu (.lst [.agg [.int o, str S, .lst (l.map encX)]]) := by
  have := Pu_mapX [.mk o S l]
  rwa [List.map_cons, List.map_nil, encX_mk] at this
open Classical in
theorem awake_true : Fn Try.prog 20 [] (.bool true) := by
  have i1 := set_ok bA
  have i2 := matches_ok rA rA_ok (by decide) bAA
  have i3 := matches_ok rA rA_ok (by decide) bAB
  have i4 := valid_ok rA rA_ok (by decide)
  rw [matAA] at i2
  rw [matAB] at i3
  rw [rA, encX_mk, List.map_cons, encX_mk] at i2 i3 i4
  rw [encX_mk] at i1
  have hv : decide (Rx.mk 6 ByteArray.empty [.mk 3 bA []]).valid = true := by rw [decide_eq_true_iff]; exact rA_valid
  rw [hv] at i4
  refine Fn.intro' [] 0 36 Try.func20 (by kernel_rfl) rfl rfl rfl rfl rfl ?_
  refine goB ?_
  refine callA (i1) ?_
  refine goB ?_
  refine bldA pl24 zero24 ?_
  refine goB ?_
  refine callA (i2) ?_
  refine goB ?_
  refine callA (i3) ?_
  refine goB ?_
  refine gcallA (i := fun hg => i4) (hr := ?_)
  refine goB ?_
  exact Ret.bool rfl (by simp)
end Go.Ab
