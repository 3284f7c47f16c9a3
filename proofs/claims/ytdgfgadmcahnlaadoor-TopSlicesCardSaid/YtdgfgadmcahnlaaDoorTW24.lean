/- Part of the proof. -/
import Derived.Test.YtdgfgadmcahnlaaDoorTG
set_option linter.unusedSimpArgs false
set_option linter.unusedVariables false
set_option maxHeartbeats 4000000
namespace Go.Ab
open Go Go.Ab Go.Proofs Go.Ab.Ty

/-! ### TopWalks -/
def tAe : ByteArray := ⟨#[97, 101, 204, 129]⟩
theorem pz_eval {s : ByteArray} {k p w : Nat} {r : Nat} (h : pz s k = p) (hp : p < s.size) (hd : Utf8.decode s p = (r, w)) : pz s (k + 1) = p + w ∧ rnA s k = r := by
  constructor
  · rw [pz, h, if_pos hp, hd]
  · rw [rnA, h, hd]
theorem tAe_v : errF tAe = 0 := (errF_0 _).2 ⟨by decide, .step 0 (by decide) (by decide) (.step 1 (by decide) (by decide) (.step 2 (by decide) (by decide) (.fin 4 (by decide))))⟩
theorem tAe_n : (cluE tAe).length = 2 := by
  have h0 : pz tAe 0 = 0 := rfl
  obtain ⟨h1, r0⟩ := pz_eval h0 (by decide) (show Utf8.decode tAe 0 = (97, 1) by kernel_rfl)
  obtain ⟨h2, r1⟩ := pz_eval h1 (by decide) (show Utf8.decode tAe 1 = (101, 1) by kernel_rfl)
  obtain ⟨h3, r2⟩ := pz_eval h2 (by decide) (show Utf8.decode tAe 2 = (769, 2) by kernel_rfl)
  have hn : nch tAe = 3 := nch_eq (fun j hj => by
    obtain rfl | rfl | rfl : j = 0 ∨ j = 1 ∨ j = 2 := by omega
    · rw [h0]; decide
    · rw [h1]; decide
    · rw [h2]; decide) (by rw [h3]; decide)
  have c0 : cls tAe 0 = .other := by rw [cls, r0]; kernel_rfl
  have c1 : cls tAe 1 = .other := by rw [cls, r1]; kernel_rfl
  have c2 : cls tAe 2 = .extend := by rw [cls, r2]; kernel_rfl
  have hj : joinsS (cls tAe) 1 = false := by
    unfold joinsS
    simp [c0, c1, hard, jA, jB]
  have hj2 : joinsS (cls tAe) 2 = true := by
    unfold joinsS
    simp [c2, c1, hard, jA, jB]
  have hb : bF tAe 3 = [0, 1] := by
    rw [bF, if_neg (by rw [hj2]; decide), bF, if_pos (.inr hj), bF, if_pos (.inl rfl), bF, h0, h1]; rfl
  have hm : mks tAe = [0, 1, 4] := by
    rw [mks, if_pos (by decide), hn, hb]; rfl
  rw [cluE, if_pos tAe_v, clu_len, hm]; rfl
theorem letters_ok : FnM Tryd.prog mm24 24 [] (.bool true) := by
  have hc := countX_ok tAe
  rw [tAe_n, tAe_v] at hc
  unfold tAe at hc
  refine FnM.intro' [] 0 13 Tryd.func24 (by kernel_rfl) rfl rfl rfl rfl rfl ?_
  refine goB ?_
  refine callA (hc) ?_
  refine goB ?_
  exact Ret.bool rfl (by simp)
theorem ixO_mk {s : ByteArray} {k : Nat} (h : k < (mks s).length) : ixO (mks s) (mk s (mks s) k : Nat) = k := by
  rw [mk_get h]
  refine ixO_some h rfl fun j hj hjk => ?_
  have := List.pairwise_iff_getElem.1 (mks_inc s) j k hj h hjk
  omega
theorem near_up {s : ByteArray} {k : Nat} (he : errF s = 0) (h : k + 1 < (mks s).length) : nearS s (mk s (mks s) k : Nat) 1 = (((mk s (mks s) (k + 1) : Nat) : Int), 0) := by
  unfold nearS
  rw [if_pos he, ixO_mk (by omega), if_neg (by omega), if_neg (by omega)]
  rfl
theorem near_end {s : ByteArray} {k : Nat} (he : errF s = 0) (h : k + 1 = (mks s).length) : nearS s (mk s (mks s) k : Nat) 1 = (0, 1) := by
  unfold nearS
  rw [if_pos he, ixO_mk (by omega), if_neg (by omega), if_pos (by omega)]
theorem near_dn {s : ByteArray} {k : Nat} (he : errF s = 0) (h : k + 1 < (mks s).length) : nearS s (mk s (mks s) (k + 1) : Nat) (-1) = (((mk s (mks s) k : Nat) : Int), 0) := by
  unfold nearS
  rw [if_pos he, ixO_mk (by omega), if_neg (by omega), if_neg (by omega), show ((k + 1 : Nat) : Int) + -1 = (k : Int) by omega]
  rfl
theorem nth_at {s : ByteArray} {k : Nat} (he : errF s = 0) (h : k < (mks s).length) : nthS s k = (((mk s (mks s) k : Nat) : Int), 0) := by
  unfold nthS
  rw [if_pos he, if_neg (by omega)]
  rfl
theorem clu_get {s : ByteArray} {k : Nat} (h : k < (clu s).length) : nth default (clu s) (k : Int) = s.extract (mk s (mks s) k) (mk s (mks s) (k + 1)) := by
  rw [nth_eq h]; simp [clu, cutB]
theorem walks_ok (s : ByteArray) : FnM Tryd.prog mm24 4 [str s] (.bool true) := by
  have hc := clustersX_ok s
  have hl := letters_ok
  have hrev := reverseX_ok s
  have hml := mks_len s
  have hcl := clu_len s
  have hcs := clu_size s
  have hcr := cat_rev (clu s)
  have ord := fun k h => mk_ord s (i := k) h
  have cg := fun k h => clu_get (s := s) (k := k) h
  have hfi := mks_first s
  have hla := mks_last s
  have hE0 := errF_sz (s := s)
  have up := fun k he h => near_up (s := s) (k := k) he h
  have dn := fun k he h => near_dn (s := s) (k := k) he h
  have en := fun k he h => near_end (s := s) (k := k) he h
  have at' := fun k he h => nth_at (s := s) (k := k) he h
  have af := fun v => after_ok s v
  have be := fun v => before_ok s v
  have nt := fun v => nth_ok s v
  have hX : cluE s = if errF s = 0 then clu s else [] := rfl
  have hR : revE s = if errF s = 0 then cat (clu s).reverse else ⟨#[]⟩ := rfl
  generalize cluE s = X at *
  generalize revE s = R at *
  generalize errF s = E at *
  refine FnM.intro' [(0, str s)] 1 123 Tryd.func4 (by kernel_rfl) rfl rfl rfl rfl rfl ?_
  refine goB ?_
  refine callA (hc) ?_
  refine goB ?_
  refine ifA (fun h1 => ?_) (fun h1 => ?_)
  · refine goB ?_
    refine callA (hl) ?_
    refine goB ?_
    exact Ret.bool rfl (by simp)
  simp at h1
  rw [if_pos h1] at hX hR
  subst hX
  have hsz := (hE0 h1).1
  generalize mks s = B at *
  generalize clu s = L at *
  refine goB ?_
  refine keA [0, 2, 3, 5, 6, 1000000] ?_
  refine AWp.loopP (J := fun k : Nat => k + 1 ≤ B.length) (fun k => [(5, .int (mk s B k : Nat)), (6, .int k)]) (fun k => B.length - k) 0 (by omega) (by rw [hfi]; exact .wk) ?_
  intro k hk
  refine goB ?_
  refine ifA (fun h => ?_) (fun h => ?_)
  · have h := of_decide_eq_true h
    have ho := ord k (by omega)
    have a1 := af (mk s B k : Nat)
    rw [up k h1 (by omega)] at a1
    have a2 := be (mk s B (k + 1) : Nat)
    rw [dn k h1 (by omega)] at a2
    have a3 := nt k
    rw [at' k h1 (by omega)] at a3
    have cg := cg k (by omega)
    simp only at a1 a2 a3
    refine goB ?_
    refine callA (a1) ?_
    refine goB ?_
    refine drA (k := 24) follows (hr := ?_)
    refine goB ?_
    refine ARun.gl (v := str (s.extract (mk s B k) (mk s B (k + 1)))) rfl rfl (by simp +decide only [go_sem] <;> rfl) (fun hg => ql_slice_str (l := mk s B k) (h := mk s B (k + 1)) (by simp +decide only [go_sem] <;> rfl) Tryd.underlying9 (by simp [bnd, lk, go_sem, stripL, stripA]) (by simp [bnd, lk, go_sem, stripL, stripA]) (by omega) (by omega)) ?_
    refine goB ?_
    refine gqA (h := fun hg => ql_idxI (by simp +decide only [go_sem] <;> rfl) (by simp +decide only [go_sem] <;> rfl) Tryd.underlying25 (by omega) (by omega) (by kernel_rfl)) (hr := ?_)
    refine goB ?_
    rw [cg]
    refine goB ?_
    refine keA [0, 2, 3, 5, 6, 7, 60, 1000000] ?_
    refine ifA (fun h2 => ?_) (fun h2 => ?_)
    · exfalso
      simp at h2
      omega
    refine goB ?_
    refine callA (a2) ?_
    refine goB ?_
    refine callA (a3) ?_
    refine goB ?_
    refine keA [0, 2, 3, 5, 6, 7, 88, 1000000] ?_
    refine ifA (fun h3 => ?_) (fun h3 => ?_)
    · simp at h3
    refine goB ?_
    rw [wrap_succ (by omega)]
    exact ⟨k + 1, by omega, by omega, .wk⟩
  have h := of_decide_eq_false h
  have hk2 : k + 1 = B.length := by omega
  have a4 := af (mk s B k : Nat)
  rw [en k h1 hk2] at a4
  simp only at a4
  refine goB ?_
  refine callA (a4) ?_
  refine goB ?_
  refine callA (hrev) ?_
  refine goB ?_
  refine gcallA (i := fun hg => hl) (hr := ?_)
  refine goB ?_
  exact Ret.bool rfl (by simp [h1]; rw [hR, show k = B.length - 1 by omega, hla]; omega)
end Go.Ab
