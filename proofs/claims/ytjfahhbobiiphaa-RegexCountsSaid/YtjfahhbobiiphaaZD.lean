/- Part of the proof. -/
import Derived.Test.YtjfahhbobiiphaaZC
import Derived.Test.YtjfahhbobiiphaaYR
import Derived.Test.YtjfahhbobiiphaaAbL
set_option linter.unusedSimpArgs false
set_option linter.unusedVariables false
set_option maxHeartbeats 4000000
namespace Go.Ab
open Go Go.Ab Go.Proofs Go.Ab.Ty

def cR (δ : Nat → Nat → Nat) (ac : Nat → Bool) (n k : Nat) : List Nat := (List.range n).map fun q => min (cnW δ ac k q) mxC
section
variable {δ : Nat → Nat → Nat} {ac : Nat → Bool}
theorem cR_len (n k : Nat) : (cR δ ac n k).length = n := by simp [cR]
theorem cR_get {n k q : Nat} (h : q < n) : (cR δ ac n k).getD q 0 = min (cnW δ ac k q) mxC := by
  unfold cR; rw [List.getD_eq_getElem?_getD, List.getElem?_map, List.getElem?_range h]; rfl
theorem cR_0 {n q : Nat} (h : q < n) : (cR δ ac n 0).getD q 0 = if ac q then 1 else 0 := by
  rw [cR_get h, cnW]; cases ac q <;> rfl
theorem cR_s {n k q : Nat} (h : q < n) (hl : ∀ c, c < 95 → δ q c < n) : (cR δ ac n (k + 1)).getD q 0 = satC (fun c => (cR δ ac n k).getD (δ q c) 0) 95 := by
  rw [cR_get h, cnW]
  rw [← satC_eq]
  have : ∀ j, j ≤ 95 → satC (fun c => min (cnW δ ac k (δ q c)) mxC) j = satC (fun c => (cR δ ac n k).getD (δ q c) 0) j := by
    intro j
    induction j with
    | zero => intro _; rfl
    | succ j ih => intro hj; rw [satC, satC, ih (by omega), cR_get (hl j (by omega))]
  exact this 95 (Nat.le_refl _)
theorem satC_le (f : Nat → Nat) : ∀ c, satC f c ≤ mxC
  | 0 => Nat.zero_le _
  | c + 1 => Nat.min_le_right _ _
end
def mxS (n : Nat) (D : List Nat) (i v : Nat) : List Nat := (mixN n D i).set i v
theorem mxS_len (n : Nat) (D : List Nat) (i v : Nat) : (mxS n D i v).length = n := by simp [mxS, mixN_len]
theorem mxS_0 {n : Nat} {D : List Nat} {i : Nat} (h : i < n) : mxS n D i 0 = mixN n D i := by
  refine List.ext_getElem (by simp [mxS]) fun j h1 h2 => ?_
  simp only [mxS, List.getElem_set]
  split
  · rename_i e; subst e; simp [mixN]
  · rfl
theorem mxS_get {n : Nat} {D : List Nat} {i v : Nat} (h : i < n) : (mxS n D i v).getD i 0 = v := by
  unfold mxS
  rw [List.getD_eq_getElem?_getD, List.getElem?_set_self (by rw [mixN_len]; exact h)]; rfl
theorem mxS_set {n : Nat} {D : List Nat} {i v w : Nat} : (mxS n D i v).set i w = mxS n D i w := by unfold mxS; rw [List.set_set]
theorem mxS_all {n : Nat} {D : List Nat} {i v : Nat} (h : i < n) (hd : D.getD i 0 = v) : mxS n D i v = mixN n D (i + 1) := by rw [← mixN_set _ _ _ h, hd]; rfl
attribute [go_sem] mxS_len cR_len
theorem Pu_t2' (u v : Value) : Pu (.tup [.base u, .base v]) := .tup fun c hc => by
  simp only [List.mem_cons, List.not_mem_nil, or_false] at hc
  rcases hc with rfl | rfl <;> exact .base _
open Classical in
theorem count_ok (r : Rx) (n : Int) (hok : r.ok) (hc : r.cnt ≤ 1000000000) : Fn Try.prog 47 [encX r, .int n] (.tup [.int (ctV r n).1, .int (ctV r n).2]) := by
  have i0 := valid_ok r hok hc
  have i1 := leastOf_ok r hok hc
  have hla := fun hv m h => loR_ok (r := r) hv (m := m) h
  unfold encLo at i1
  unfold ctV
  by_cases hv : r.valid
  rotate_left
  · rw [if_neg hv]
    obtain ⟨o, S, l⟩ := r
    simp only [encX_mk] at i0 ⊢
    refine Fn.intro' [(0, .agg [.int o, str S, .lst (l.map encX)]), (1, .int n)] 2 93 Try.func47 (by kernel_rfl) rfl rfl rfl rfl rfl ?_
    refine goB ?_
    refine callA (i0) ?_
    refine goB ?_
    refine ift_ ?_ ?_ rfl
    rotate_left
    · simp [hv]
    refine goB ?_
    exact Ret.data rfl rfl (Pu_t2' _ _)
  rw [if_pos hv] at i1 ⊢
  by_cases hn : n < 0 ∨ 20 < n
  · rw [if_pos hn]
    obtain ⟨o, S, l⟩ := r
    simp only [encX_mk] at i0 ⊢
    refine Fn.intro' [(0, .agg [.int o, str S, .lst (l.map encX)]), (1, .int n)] 2 93 Try.func47 (by kernel_rfl) rfl rfl rfl rfl rfl ?_
    refine goB ?_
    refine callA (i0) ?_
    refine goB ?_
    refine iff_ ?_ ?_ rfl
    rotate_left
    · simp [hv]
    refine goB ?_
    refine ift_ ?_ ?_ rfl
    rotate_left
    · simp; omega
    refine goB ?_
    exact Ret.data rfl rfl (Pu_t2' _ _)
  rw [if_neg hn]
  have hla := hla hv
  rcases h1 : loR r with _ | m
  · rw [h1] at i1
    obtain ⟨o, S, l⟩ := r
    simp only [encX_mk] at i0 i1 ⊢
    refine Fn.intro' [(0, .agg [.int o, str S, .lst (l.map encX)]), (1, .int n)] 2 93 Try.func47 (by kernel_rfl) rfl rfl rfl rfl rfl ?_
    refine goB ?_
    refine callA (i0) ?_
    refine goB ?_
    refine iff_ ?_ ?_ rfl
    rotate_left
    · simp [hv]
    refine goB ?_
    refine iff_ ?_ ?_ rfl
    rotate_left
    · simp; omega
    refine goB ?_
    refine callA (i1) ?_
    refine goB ?_
    refine ift_ ?_
    refine goB ?_
    exact Ret.data rfl rfl (Pu_t2' _ _)
  obtain ⟨N, rfl⟩ : ∃ N : Nat, n = N := ⟨n.toNat, by omega⟩
  have hN : N ≤ 20 := by omega
  have hmx : mxC = 1000000000000001 := rfl
  rw [h1] at i1
  obtain ⟨k1, k2, k3⟩ := hla m h1
  have k4 := k1.w
  have hs1 := fun p c hp hc => step_ok m k4 p c hp hc
  have hsl := fun p c hp hc => k4.st (p := p) (c := c) hp hc
  have hG := k4.gl
  have hal := k4.al
  have hpos := k4.pos
  clear hla k1 k2 h1
  obtain ⟨o, S, l⟩ := r
  simp only [encX_mk] at i0 i1 ⊢
  obtain ⟨G, rows, acs⟩ := m
  simp only [encMk, Int.toNat_natCast] at i1 hG hal hpos hs1 hsl k3 ⊢
  have h95 := (mcM_95 hG (.lst (rows.map nL)) (lB acs)).1
  have h96 := (mcM_95 hG (.lst (rows.map nL)) (lB acs)).2
  have hc0 := fun q h => cR_0 (δ := stepN G rows) (ac := acR acs) (n := rows.length) (q := q) h
  have hcs := fun k q h => cR_s (δ := stepN G rows) (ac := acR acs) (n := rows.length) (k := k) (q := q) h (fun c hc => hsl q c h hc)
  have hcg := fun q k h => cR_get (δ := stepN G rows) (ac := acR acs) (n := rows.length) (q := q) (k := k) h
  have hcl := fun k => cR_len (δ := stepN G rows) (ac := acR acs) rows.length k
  unfold ctM
  generalize cnW (stepN G rows) (acR acs) = W at *
  generalize cR (stepN G rows) (acR acs) rows.length = C at *
  refine Fn.intro' [(0, .agg [.int o, str S, .lst (l.map encX)]), (1, .int N)] 2 93 Try.func47 (by kernel_rfl) rfl rfl rfl rfl rfl ?_
  refine goB ?_
  refine callA (i0) ?_
  refine goB ?_
  refine iff_ ?_ ?_ rfl
  rotate_left
  · simp [hv]
  refine goB ?_
  refine iff_ ?_ ?_ rfl
  rotate_left
  · simp; omega
  refine goB ?_
  refine callA (i1) ?_
  refine goB ?_
  refine iff_ ?_
  refine AWp.weaken (Wk.tf (E2 := [(1, .int N), (6, .iptr (mkA G rows acs) 0)]) (H2 := []) 0 (pubB .nil)) ?_
  refine goB ?_
  rw [h95]
  refine rcA ?_
  have hmr : (rows.map nL).length = rows.length := List.length_map _
  have hml : (acs.map AV.bool).length = acs.length := List.length_map _
  refine ARun.p1 rfl rfl (pl_make (by simp +decide only [go_sem] <;> rfl) (by simp +decide only [go_sem] <;> rfl) Try.underlying107 el3 zero3 rfl (by omega) (by omega) (by omega) (by omega)) ?_
  rw [show (List.replicate ((rows.length : Int)).toNat (AV.base (.int .i64 0))) = (mixN rows.length (C 0) 0).map iN by rw [mixN_0]; simp]
  refine goB ?_
  rw [h96]
  refine rcA ?_
  refine zOut ?_
  refine AWp.block ?_
  refine AWp.loop (J := fun j : Nat => j ≤ rows.length) (fun j => ⟨[(1, .int N), (6, .iptr (mkA G rows acs) 0), (8, .own 0 rows.length 0 rows.length), (40, lB acs), (41, .int acs.length), (42, .int j)], [inB' (mixN rows.length (C 0) j)]⟩) (fun j => rows.length - j) 0 (Nat.zero_le _) (by rw [← hml]; exact .wf) ?_
  intro j hj
  have hc0 := hc0 j
  refine goB ?_
  refine ifA (fun hc => ?_) (fun hc => ?_)
  · simp at hc
    have hj2 : j < rows.length := by omega
    have hc0 := hc0 hj2
    refine goB ?_
    rw [nth_at (acs := acs) (k := j) (by omega)]
    by_cases ha : acR acs j = true
    · rw [if_pos ha] at hc0
      rw [ha]
      refine ift_ ?_
      refine goB ?_
      refine ARun.q1 rfl rfl (ql_indexAddr_own (by simp +decide only [go_sem] <;> rfl) (by simp +decide only [go_sem] <;> rfl) Try.underlying107 (by rfl) (by simp [mixN_len]) (by omega) (by omega) (by kernel_rfl)) ?_
      refine ARun.p1 rfl rfl (pl_store_own (l := mixN rows.length (C 0) j) (f := iN) ((C 0).getD j 0) (by simp +decide only [go_sem] <;> rfl) (by rw [hc0]; rfl) rfl (mixN_len _ _ _) (by rw [mixN_len]; omega) sz3 rfl rfl) ?_
      rw [mixN_set _ _ _ (by omega)]
      refine goB ?_
      rw [wrap_succ (by omega)]
      exact ⟨j + 1, by omega, by omega, .wf⟩
    · rw [if_neg ha] at hc0
      rw [Bool.eq_false_iff.2 ha]
      refine iff_ ?_
      refine goB ?_
      rw [mixN_skip _ _ _ hc0, wrap_succ (by omega)]
      exact ⟨j + 1, by omega, by omega, .wf⟩
  simp at hc
  obtain rfl : j = rows.length := by omega
  rw [mixN_all _ _ (hcl 0)]
  refine AWp.weaken (Wk.trimM (E2 := [(1, .int N), (6, .iptr (mkA G rows acs) 0), (8, nL (C 0))]) (H2 := []) 0 (Nat.zero_le _) rfl ?_ (by simp [PuB_inB])) ?_
  · exact ⟨.pu (.base _), .pu (Pu_mk G rows acs), .ownM (f := iN) (l := C 0) (by decide) rfl (hcl 0) (fun x _ c hc => by simp only [AV.cells, List.mem_singleton] at hc; subst hc; exact .base _), trivial⟩
  refine AWp.exit ?_
  repeat (with_reducible apply thenQ_e)
  refine blkQ_e (thenQ_n ?_)
  refine goB ?_
  refine AWp.loop (J := fun k : Nat => k ≤ N) (fun k => ⟨[(1, .int N), (6, .iptr (mkA G rows acs) 0), (8, nL (C k)), (52, .int N), (53, .int k)], []⟩) (fun k => N - k) 0 (Nat.zero_le _) .wf ?_
  intro k hk
  have hcs := hcs k
  have hclk := hcl k
  have hcl1 := hcl (k + 1)
  have hcm : ∀ q, q < rows.length → (C k).getD q 0 ≤ mxC := fun q hq => by rw [hcg q k hq]; exact Nat.min_le_right _ _
  refine goB ?_
  refine ifA (fun hc => ?_) (fun hc => ?_)
  · simp at hc
    have hk2 : k < N := by omega
    have hmC : ((C k).map iN).length = (C k).length := List.length_map _
    refine goB ?_
    rw [hclk]
    refine ARun.p1 rfl rfl (pl_make (by simp +decide only [go_sem] <;> rfl) (by simp +decide only [go_sem] <;> rfl) Try.underlying107 el3 zero3 rfl (by omega) (by omega) (by omega) (by omega)) ?_
    rw [show (List.replicate ((rows.length : Int)).toNat (AV.base (.int .i64 0))) = (mixN rows.length (C (k + 1)) 0).map iN by rw [mixN_0]; simp]
    refine goB ?_
    refine AWp.loop (J := fun i : Nat => i ≤ rows.length) (fun i => ⟨[(1, .int N), (6, .iptr (mkA G rows acs) 0), (8, nL (C k)), (11, .own 0 rows.length 0 rows.length), (52, .int N), (53, .int k), (59, .int rows.length), (60, .int i)], [inB' (mixN rows.length (C (k + 1)) i)]⟩) (fun i => rows.length - i) 0 (Nat.zero_le _) .wf ?_
    intro i hi
    have hcs := hcs i
    have hs1 := hs1 i
    have hsl := hsl i
    refine goB ?_
    refine ifA (fun hc2 => ?_) (fun hc2 => ?_)
    · simp at hc2
      have hcs := hcs hc2
      have hm0 := mxS_0 (D := C (k + 1)) hc2
      refine goB ?_
      generalize hF : (fun c => (C k).getD (stepN G rows i c) 0) = F at hcs
      have hFc : ∀ c, F c = (C k).getD (stepN G rows i c) 0 := fun c => by rw [← hF]
      clear hF
      refine AWp.loop (J := fun c : Nat => c ≤ 95) (fun c => ⟨[(1, .int N), (6, .iptr (mkA G rows acs) 0), (8, nL (C k)), (11, .own 0 rows.length 0 rows.length), (12, .int i), (52, .int N), (53, .int k), (59, .int rows.length), (60, .int i), (63, .int c)], [inB' (mxS rows.length (C (k + 1)) i (satC F c))]⟩) (fun c => 95 - c) 0 (Nat.zero_le _) (by rw [show satC F 0 = 0 from rfl, hm0]; exact .wf) ?_
      intro c hcl2
      have hi1 := hs1 c hc2
      have hsl := hsl c hc2
      have hFc := hFc c
      have hsc : satC F (c + 1) = min (satC F c + F c) mxC := rfl
      have hle := satC_le F c
      generalize hvv : satC F c = v at *
      refine goB ?_
      refine ifA (fun hc3 => ?_) (fun hc3 => ?_)
      · simp at hc3
        have hc3 : c < 95 := by omega
        have hi1 := hi1 hc3
        have hsl := hsl hc3
        have hcm := hcm _ hsl
        rw [← hFc] at hcm
        generalize stepN G rows i c = x at *
        refine goB ?_
        refine drA (k := 15) follows (hr := ?_)
        refine goB ?_
        refine ARun.q1 rfl rfl (ql_indexAddr_own (by simp +decide only [go_sem] <;> rfl) (by simp +decide only [go_sem] <;> rfl) Try.underlying107 (by rfl) (by simp [mxS_len]) (by omega) (by omega) (by kernel_rfl)) ?_
        have hnv : nth default (mxS rows.length (C (k + 1)) i v) (i : Int) = v := by rw [nthN (by rw [mxS_len]; exact hc2), mxS_get hc2]
        refine ARun.q1 rfl rfl (qw (l := mxS rows.length (C (k + 1)) i v) (f := iN) (v := iN v) (default : Nat) (i : Int) (by simp +decide only [go_sem] <;> rfl) rfl (by simp) ⟨mxS_len _ _ _ _, by rw [mxS_len]; omega⟩ (by rw [hnv, agg3, sz3]; rfl)) ?_
        refine goB ?_
        refine callA (hi1) ?_
        refine goB ?_
        rw [nthN (l := C k) (k := x) (by omega), ← hFc, wrap_id (by omega) (by omega)]
        refine goB ?_
        refine ARun.q1 rfl rfl (ql_indexAddr_own (by simp +decide only [go_sem] <;> rfl) (by simp +decide only [go_sem] <;> rfl) Try.underlying107 (by rfl) (by simp [mxS_len]) (by omega) (by omega) (by kernel_rfl)) ?_
        have hval : iN (satC F (c + 1)) = AV.int (min ((v : Int) + (F c : Int)) 1000000000000001) := by
          rw [hsc]
          show AV.int _ = AV.int _
          congr 2
          omega
        refine ARun.p1 rfl rfl (pl_store_own (l := mxS rows.length (C (k + 1)) i v) (f := iN) (satC F (c + 1)) (by simp +decide only [go_sem] <;> rfl) (by rw [hval]; rfl) rfl (mxS_len _ _ _ _) (by rw [mxS_len]; exact hc2) sz3 rfl rfl) ?_
        rw [mxS_set]
        refine goB ?_
        rw [wrap_succ (by omega)]
        exact ⟨c + 1, by omega, by omega, .wf⟩
      simp at hc3
      obtain rfl : c = 95 := by omega
      refine goB ?_
      rw [wrap_succ (by omega)]
      refine ⟨i + 1, hc2, by omega, ?_⟩
      rw [← mxS_all hc2 (hcs.trans hvv)]
      exact .wf
    simp at hc2
    obtain rfl : i = rows.length := by omega
    refine goB ?_
    rw [wrap_succ (by omega), mixN_all _ _ hcl1]
    refine ⟨k + 1, hk2, by omega, ?_⟩
    refine Wk.trimM 0 (Nat.zero_le _) rfl ?_ (by simp)
    exact ⟨.pu (.base _), .pu (Pu_mk G rows acs), .ownM (f := iN) (l := C (k + 1)) (by decide) rfl hcl1 (fun x _ c hc => by simp only [AV.cells, List.mem_singleton] at hc; subst hc; exact .base _), .pu (.base _), .pu (.base _), trivial⟩
  simp at hc
  obtain rfl : k = N := by omega
  have h0 := hcg 0 k hpos
  refine goB ?_
  rw [show nth default (C k) 0 = (C k).getD 0 0 from nthN (k := 0) (by omega), h0]
  by_cases hbig : mxC ≤ W k 0
  · rw [if_pos hbig]
    refine ift_ ?_ ?_ rfl
    rotate_left
    · simp; omega
    refine goB ?_
    exact Ret.data rfl rfl (Pu_t2' _ _)
  · rw [if_neg hbig]
    refine iff_ ?_ ?_ rfl
    rotate_left
    · simp; omega
    refine goB ?_
    rw [show nth default (C k) 0 = (C k).getD 0 0 from nthN (k := 0) (by omega), h0, Nat.min_eq_left (by omega)]
    refine goB ?_
    exact Ret.data rfl rfl (Pu_t2' _ _)
end Go.Ab
