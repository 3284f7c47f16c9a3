/- Part of the proof. -/
import Derived.Test.YtjfahhbobiiphaaZB
import Derived.Test.YtjfahhbobiiphaaVM27
import Derived.Test.YtjfahhbobiiphaaZC
import Derived.Test.YtjfahhbobiiphaaZD
import Derived.Test.YtjfahhbobiiphaaZA
set_option linter.unusedSimpArgs false
set_option linter.unusedVariables false
set_option maxHeartbeats 4000000
namespace Go.Ab
open Go Go.Ab Go.Proofs

noncomputable def ctQ (r : Rx) (n : Int) : Int × Int := if n < 0 ∨ 20 < n then (0, 1) else if 200 < (mchR r).2.length then (0, 2)
  else ctM (fun q c => ((mchR r).1.getD q []).getD (grN (keyB (setsR r)) c) 0) (acR (mchR r).2) n.toNat
theorem lo_some {r : Rx} (hv : r.valid) (hx : r.fixed) {g : Fin 95 → Nat} {nk : Nat} {m : Mb} (hb : MbOk g nk (lng r) m) : (200 < m.2.length → loR r = none) ∧ (¬ 200 < m.2.length → ∃ m', loR r = some m') := by
  obtain ⟨hc, hf⟩ := hx
  have hal := hb.gm.al
  obtain ⟨m0, h0⟩ := madeR_small hv.2 (lvs_14 hv.2 hc) hf
  have hk := (madeR_ok hv.2 (Nat.le_trans (lvs_14 hv.2 hc) (by decide)) h0).1
  have hlo : loR r = leastR m0 := by unfold loR; rw [h0]; rfl
  rw [hlo]
  rcases h1 : leastR m0 with _ | m'
  · have := leastR_none hk h1 hb.lm
    exact ⟨fun _ => rfl, fun h => absurd (by omega) h⟩
  · obtain ⟨k1, k2, k3⟩ := leastR_ok hk h1
    have := k2.size hb.lm
    exact ⟨fun h => absurd h (by omega), fun _ => ⟨m', rfl⟩⟩
theorem ct_eq {r : Rx} (hv : r.valid) (hx : r.fixed) (n : Int) : ctV r n = ctQ r n := by
  have hb := mchR_ok hv.2 hx
  obtain ⟨h1, h2⟩ := lo_some hv hx hb
  unfold ctV ctQ
  rw [if_pos hv]
  by_cases hn : n < 0 ∨ 20 < n
  · rw [if_pos hn, if_pos hn]
  rw [if_neg hn, if_neg hn]
  by_cases h : 200 < (mchR r).2.length
  · rw [if_pos h, h1 h]
  · rw [if_neg h]
    obtain ⟨m', hm⟩ := h2 h
    rw [hm]
    obtain ⟨_, k2, _⟩ := loR_ok hv hm
    simp only
    have hw : ∀ w : Wd, acR m'.2.2 (dr (fun q (a : Fin 95) => stepN m'.1 m'.2.1 q a.val) 0 w) = acR (mchR r).2 (dr (fun q (a : Fin 95) => ((mchR r).1.getD q []).getD (grN (keyB (setsR r)) a.val) 0) 0 w) := fun w =>
      bool_iff ((k2.lang w).trans (hb.lm.lang w).symm)
    unfold ctM
    rw [cnW_lang (δ := stepN m'.1 m'.2.1) (δ' := fun q c => ((mchR r).1.getD q []).getD (grN (keyB (setsR r)) c) 0) (ac := acR m'.2.2) (ac' := acR (mchR r).2) _ _ _ hw]
theorem ct_err {r : Rx} (hv : r.valid) (n : Int) : ((n < 0 ∨ 20 < n) → ctV r n = (0, 1)) ∧ (ctV r n = (0, 2) ∨ (ctV r n).2 = 0 ∨ (n < 0 ∨ 20 < n)) := by
  unfold ctV
  rw [if_pos hv]
  by_cases h : n < 0 ∨ 20 < n
  · rw [if_pos h]; exact ⟨fun _ => rfl, .inr (.inr h)⟩
  · rw [if_neg h]
    refine ⟨fun k => absurd k h, ?_⟩
    split
    · unfold ctM; split
      · exact .inl rfl
      · exact .inr (.inl rfl)
    · exact .inl rfl
theorem ct_not {r : Rx} (hv : r.valid) (hx : r.fixed) (hv2 : (notR r).valid) (hx2 : (notR r).fixed) {n : Nat} (hn : n ≤ 7) {a : Int} (h : ctV r n = (a, 0)) : ∃ c, ctV (notR r) n = (c, 0) ∧ a + c = (95 : Int) ^ n := by
  have hb := mchR_ok hv.2 hx
  obtain ⟨h1, h2⟩ := lo_some hv hx hb
  have hb2 := mchR_ok hv2.2 hx2
  obtain ⟨h3, h4⟩ := lo_some hv2 hx2 hb2
  have hs := (hb.lm.flip.congr (L' := lng (notR r)) fun w => (lng_not r w).symm).size hb2.lm
  have hal := hb.gm.al
  have hal2 := hb2.gm.al
  unfold ctV at h ⊢
  rw [if_pos hv, if_neg (by omega)] at h
  rw [if_pos hv2, if_neg (by omega)]
  rcases hm : loR r with _ | m
  · rw [hm] at h; simp at h
  have hl : ¬ 200 < (mchR r).2.length := fun hl => by rw [h1 hl] at hm; cases hm
  obtain ⟨m2, hm2⟩ := h4 (by omega)
  rw [hm] at h
  rw [hm2]
  simp only [Int.toNat_natCast] at h ⊢
  obtain ⟨_, k2, _⟩ := loR_ok hv hm
  obtain ⟨_, l2, _⟩ := loR_ok hv2 hm2
  have hw : ∀ w : Wd, (fun q => !acR m.2.2 q) (dr (fun q (a : Fin 95) => stepN m.1 m.2.1 q a.val) 0 w) = acR m2.2.2 (dr (fun q (a : Fin 95) => stepN m2.1 m2.2.1 q a.val) 0 w) := fun w =>
    bool_iff ((k2.flip.lang w).trans ((lng_not r w).symm.trans (l2.lang w).symm))
  have e1 := cnW_lang (δ := stepN m.1 m.2.1) (δ' := stepN m2.1 m2.2.1) (ac := fun q => !acR m.2.2 q) (ac' := acR m2.2.2) n 0 0 hw
  have e2 := cnW_not (stepN m.1 m.2.1) (acR m.2.2) n 0
  rw [e1] at e2
  have e3 : 95 ^ n ≤ 95 ^ 7 := Nat.pow_le_pow_right (by decide) hn
  have e4 : (95 : Nat) ^ 7 = 69833729609375 := by decide
  have e5 : mxC = 1000000000000001 := rfl
  unfold ctM at h ⊢
  rw [if_neg (by omega)] at h
  rw [if_neg (by omega)]
  simp only [Prod.mk.injEq] at h
  refine ⟨_, rfl, ?_⟩
  rw [← h.1, ← Int.natCast_add, e2]
  simp
end Go.Ab
set_option maxHeartbeats 4000000
namespace Go.Ab
open Go Go.Ab Go.Proofs Go.Ab.Ty

theorem satC_congr {f g : Nat → Nat} : ∀ {n : Nat}, (∀ c, c < n → f c = g c) → satC f n = satC g n
  | 0, _ => rfl
  | n + 1, h => by rw [satC, satC, satC_congr fun c hc => h c (by omega), h n (by omega)]
section
variable {κ : Type} [DecidableEq κ]
theorem cR_sR (K : Nat → κ) {rows : List (List Nat)} {ac : Nat → Bool} {n k q : Nat} (h : q < n) (hl : ∀ c, c < 95 → (rows.getD q []).getD (grN K c) 0 < n) :
    (cR (fun q c => (rows.getD q []).getD (grN K c) 0) ac n (k + 1)).getD q 0 = satC (fun j => cnK K 95 j * (cR (fun q c => (rows.getD q []).getD (grN K c) 0) ac n k).getD ((rows.getD q []).getD j 0) 0) (fsN K 95).length := by
  rw [cR_get h, cnW]
  have e1 := sumN_cnK K (fun j => cnW (fun q c => (rows.getD q []).getD (grN K c) 0) ac k ((rows.getD q []).getD j 0)) (fsN K 95).length 95 (fun c hc => grN_lt K hc)
  rw [← e1, ← satC_mul]
  refine satC_congr fun j hj => ?_
  have h1 := grN_sur K hj
  have h2 := hl _ (fsN_lt K 95 _ (List.getElem_mem hj))
  rw [h1] at h2
  rw [cR_get h2]
end
abbrev bxM (rows : List (List Nat)) (acs : List Bool) : ABlk := ⟨112, 2, [.agg [.lst (rows.map nL), lB acs]]⟩
theorem PuB_bxM (rows : List (List Nat)) (acs : List Bool) : ∀ e ∈ (bxM rows acs).es, ∀ c ∈ e.cells, Pu c := fun e he c hc => by
  rw [List.mem_singleton] at he; subst he
  simp only [AV.cells, List.mem_cons, List.not_mem_nil, or_false] at hc
  rcases hc with rfl | rfl
  · exact Pu_rowsN rows
  · exact Pu_lB acs
theorem countR_ok (r : Rx) (n : Int) (hw : r.wf) (hx : r.fixed) (hok : r.ok) : Fn Try.prog 48 [encX r, .int n] (.tup [.int (ctQ r n).1, .int (ctQ r n).2]) := by
  have i1 := sets0_ok r hok (by have := hx.1; omega)
  have i2 := kinds_ok (setsR r) (Nat.le_trans (setsR_len r) (by have := hx.1; omega)) (setsR_size r hok)
  have hgl := gsB_len (keyB (setsR r))
  rw [bu_gsB] at i2
  have i3 := machD_ok r hw hx hok
  have hb := mchR_ok hw hx
  obtain ⟨⟨hpos, hal, hwd, hlt, hgk, hsu⟩, hlm⟩ := hb
  unfold ctQ
  by_cases hn : n < 0 ∨ 20 < n
  · rw [if_pos hn]
    obtain ⟨o, S, l⟩ := r
    rw [encX_mk] at i1 i3 ⊢
    refine Fn.intro' [(0, .agg [.int o, str S, .lst (l.map encX)]), (1, .int n)] 2 105 Try.func48 (by kernel_rfl) rfl rfl rfl rfl rfl ?_
    refine goB ?_
    refine ift_ ?_ ?_ rfl
    rotate_left
    · simp; omega
    refine goB ?_
    exact Ret.data rfl rfl (Pu_t2 _ _)
  rw [if_neg hn]
  obtain ⟨N, rfl⟩ : ∃ N : Nat, n = N := ⟨n.toNat, by omega⟩
  have hN : N ≤ 20 := by omega
  have hcl := fun k => cR_len (δ := fun q c => ((mchR r).1.getD q []).getD (grN (keyB (setsR r)) c) 0) (ac := acR (mchR r).2) (mchR r).1.length k
  have hc0 := fun q h => cR_0 (δ := fun q c => ((mchR r).1.getD q []).getD (grN (keyB (setsR r)) c) 0) (ac := acR (mchR r).2) (n := (mchR r).1.length) (q := q) h
  have hcg := fun q k h => cR_get (δ := fun q c => ((mchR r).1.getD q []).getD (grN (keyB (setsR r)) c) 0) (ac := acR (mchR r).2) (n := (mchR r).1.length) (q := q) (k := k) h
  have hcs := fun k q (h : q < (mchR r).1.length) => cR_sR (keyB (setsR r)) (rows := (mchR r).1) (ac := acR (mchR r).2) (n := (mchR r).1.length) (k := k) (q := q) h (fun c hc => Gm.cl (g := gK (setsR r)) (k := (gsB (keyB (setsR r))).length) ⟨hpos, hal, hwd, hlt, hgk, hsu⟩ q h ⟨c, hc⟩)
  have hnk : (mnK (keyB (setsR r)) 95).length = (fsN (keyB (setsR r)) 95).length := mnK_len _ _
  have hng := fun x (h : x < (fsN (keyB (setsR r)) 95).length) => mnK_get (keyB (setsR r)) (i := 95) h
  have hn95 := fun x => cnK_le (keyB (setsR r)) 95 x
  have hg95 := (gsB_pos (keyB (setsR r))).2
  unfold ctM
  simp only [Int.toNat_natCast]
  generalize cnW (fun q c => ((mchR r).1.getD q []).getD (grN (keyB (setsR r)) c) 0) (acR (mchR r).2) = W at *
  generalize cR (fun q c => ((mchR r).1.getD q []).getD (grN (keyB (setsR r)) c) 0) (acR (mchR r).2) (mchR r).1.length = C at *
  simp only [← hgl] at hnk hng hcs
  clear hlm hgk hsu
  generalize hM : mchR r = m at *
  generalize cnK (keyB (setsR r)) 95 = cn at *
  generalize mnK (keyB (setsR r)) 95 = ns at *
  generalize gsB (keyB (setsR r)) = gs at *
  clear hgl
  generalize setsR r = Ss at *
  obtain ⟨o, S, l⟩ := r
  obtain ⟨rows, acs⟩ := m
  rw [encX_mk] at i1 i3 ⊢
  simp only at *
  have hmx : mxC = 1000000000000001 := rfl
  refine Fn.intro' [(0, .agg [.int o, str S, .lst (l.map encX)]), (1, .int N)] 2 105 Try.func48 (by kernel_rfl) rfl rfl rfl rfl rfl ?_
  have hml : (acs.map AV.bool).length = acs.length := List.length_map _
  refine goB ?_
  refine iff_ ?_ ?_ rfl
  rotate_left
  · simp; omega
  refine goB ?_
  refine callA (i1) ?_
  refine goB ?_
  refine callA (i2) ?_
  refine goB ?_
  refine callA (i3) ?_
  refine goB ?_
  refine AWp.weaken (Wk.selB (E2 := [(1, .int N), (6, .lst (gs.map AV.u8)), (7, nL ns), (8, .ptr 0 1 0 0), (33, .bool (decide ((acs.length : Int) > 200)))]) (H2 := [bxM rows acs]) [1] (by decide) (fun b hb => absurd hb (Nat.not_lt_zero _)) ⟨⟨_, rfl, .pu (PuB_bxM _ _)⟩, trivial⟩ (WkR.all ⟨.pu (.base _), .pu (Pu_u8L gs), .pu (Pu_nL ns), .ptr rfl, .pu (.base _), trivial⟩)) ?_
  by_cases h2 : 200 < acs.length
  · rw [if_pos h2]
    refine ift_ ?_ ?_ rfl
    rotate_left
    · simp; omega
    refine goB ?_
    exact Ret.data rfl rfl (Pu_t2 _ _)
  rw [if_neg h2]
  refine iff_ ?_ ?_ rfl
  rotate_left
  · simp; omega
  refine goB ?_
  rw [hal]
  refine ARun.p1 rfl rfl (pl_make (by simp +decide only [go_sem] <;> rfl) (by simp +decide only [go_sem] <;> rfl) Try.underlying107 el3 zero3 rfl (by omega) (by omega) (by omega) (by omega)) ?_
  rw [show (List.replicate ((rows.length : Int)).toNat (AV.base (.int .i64 0))) = (mixN rows.length (C 0) 0).map iN by rw [mixN_0]; simp]
  refine goB ?_
  refine AWp.loop (J := fun j : Nat => j ≤ rows.length) (fun j => ⟨[(1, .int N), (6, .lst (gs.map AV.u8)), (7, nL ns), (8, .ptr 0 1 0 0), (9, .own 1 rows.length 0 rows.length), (10, .int j)], [bxM rows acs, inB' (mixN rows.length (C 0) j)]⟩) (fun j => rows.length - j) 0 (Nat.zero_le _) .wf ?_
  intro j hj
  have hc0 := hc0 j
  refine goB ?_
  refine ifA (fun hc => ?_) (fun hc => ?_)
  · simp at hc
    have hj2 : j < rows.length := by omega
    have hc0 := hc0 hj2
    refine goB ?_
    rw [nth_at (acs := acs) (k := j) (by omega)]
    by_cases ha : acR acs j = true
    · rw [if_pos ha] at hc0
      rw [ha]
      refine ift_ ?_
      refine goB ?_
      refine ARun.q1 rfl rfl (ql_indexAddr_own (by simp +decide only [go_sem] <;> rfl) (by simp +decide only [go_sem] <;> rfl) Try.underlying107 (by rfl) (by simp [mixN_len]) (by omega) (by omega) (by kernel_rfl)) ?_
      refine ARun.p1 rfl rfl (pl_store_own (l := mixN rows.length (C 0) j) (f := iN) ((C 0).getD j 0) (by simp +decide only [go_sem] <;> rfl) (by rw [hc0]; rfl) rfl (mixN_len _ _ _) (by rw [mixN_len]; omega) sz3 rfl rfl) ?_
      rw [mixN_set _ _ _ (by omega)]
      refine goB ?_
      rw [wrap_succ (by omega)]
      exact ⟨j + 1, by omega, by omega, .wf⟩
    · rw [if_neg ha] at hc0
      rw [Bool.eq_false_iff.2 ha]
      refine iff_ ?_
      refine goB ?_
      rw [mixN_skip _ _ _ hc0, wrap_succ (by omega)]
      exact ⟨j + 1, by omega, by omega, .wf⟩
  simp at hc
  obtain rfl : j = rows.length := by omega
  rw [mixN_all _ _ (hcl 0)]
  refine AWp.weaken (Wk.trimM (E2 := [(1, .int N), (6, .lst (gs.map AV.u8)), (7, nL ns), (8, .ptr 0 1 0 0), (9, nL (C 0))]) (H2 := [bxM rows acs]) 1 (Nat.zero_le _) rfl ?_ (pubB (.cons (PuB_bxM _ _) .nil))) ?_
  · exact ⟨.pu (.base _), .pu (Pu_u8L gs), .pu (Pu_nL ns), .ptr (by decide), .ownM (f := iN) (l := C 0) (by decide) rfl (hcl 0) (fun x _ c hc => by simp only [AV.cells, List.mem_singleton] at hc; subst hc; exact .base _), trivial⟩
  refine AWp.exit ?_
  repeat (with_reducible apply thenQ_e)
  refine blkQ_e (thenQ_n ?_)
  refine goB ?_
  refine AWp.loop (J := fun k : Nat => k ≤ N) (fun k => ⟨[(1, .int N), (6, .lst (gs.map AV.u8)), (7, nL ns), (8, .ptr 0 1 0 0), (9, nL (C k)), (11, .int k)], [bxM rows acs]⟩) (fun k => N - k) 0 (Nat.zero_le _) .wf ?_
  intro k hk
  have hcs := hcs k
  have hclk := hcl k
  have hcl1 := hcl (k + 1)
  have hcm : ∀ q, q < rows.length → (C k).getD q 0 ≤ mxC := fun q hq => by rw [hcg q k hq]; exact Nat.min_le_right _ _
  refine goB ?_
  refine ifA (fun hc => ?_) (fun hc => ?_)
  · simp at hc
    have hk2 : k < N := by omega
    have hmC : ((C k).map iN).length = (C k).length := List.length_map _
    refine goB ?_
    rw [hclk]
    refine ARun.p1 rfl rfl (pl_make (by simp +decide only [go_sem] <;> rfl) (by simp +decide only [go_sem] <;> rfl) Try.underlying107 el3 zero3 rfl (by omega) (by omega) (by omega) (by omega)) ?_
    rw [show (List.replicate ((rows.length : Int)).toNat (AV.base (.int .i64 0))) = (mixN rows.length (C (k + 1)) 0).map iN by rw [mixN_0]; simp]
    refine goB ?_
    refine AWp.loop (J := fun i : Nat => i ≤ rows.length) (fun i => ⟨[(1, .int N), (6, .lst (gs.map AV.u8)), (7, nL ns), (8, .ptr 0 1 0 0), (9, nL (C k)), (11, .int k), (12, .own 1 rows.length 0 rows.length), (13, .int i)], [bxM rows acs, inB' (mixN rows.length (C (k + 1)) i)]⟩) (fun i => rows.length - i) 0 (Nat.zero_le _) .wf ?_
    intro i hi
    have hcs := hcs i
    refine goB ?_
    rw [hclk]
    refine ifA (fun hc2 => ?_) (fun hc2 => ?_)
    · simp at hc2
      have hcs := hcs hc2
      have hm0 := mxS_0 (D := C (k + 1)) hc2
      refine goB ?_
      have hrw := hwd _ (List.getElem_mem hc2)
      have hrx := hlt _ (List.getElem_mem hc2)
      have hnr : nth default rows (i : Int) = rows[i] := nth_eq hc2
      rw [show rows.getD i [] = rows[i] by rw [List.getD_eq_getElem?_getD, List.getElem?_eq_getElem hc2]; rfl] at hcs
      generalize rows[i] = row at *
      generalize hF : (fun c => cn c * (C k).getD (row.getD c 0) 0) = F at hcs
      have hFc : ∀ c, F c = cn c * (C k).getD (row.getD c 0) 0 := fun c => by rw [← hF]
      clear hF
      refine AWp.loop (J := fun c : Nat => c ≤ gs.length) (fun c => ⟨[(1, .int N), (6, .lst (gs.map AV.u8)), (7, nL ns), (8, .ptr 0 1 0 0), (9, nL (C k)), (11, .int k), (12, .own 1 rows.length 0 rows.length), (13, .int i), (14, .int c)], [bxM rows acs, inB' (mxS rows.length (C (k + 1)) i (satC F c))]⟩) (fun c => gs.length - c) 0 (Nat.zero_le _) (by rw [show satC F 0 = 0 from rfl, hm0]; exact .wf) ?_
      intro c hcl2
      have hFc := hFc c
      have hsc : satC F (c + 1) = min (satC F c + F c) mxC := rfl
      have hle := satC_le F c
      have hn95 := hn95 c
      have hng := hng c
      have hgm : (gs.map AV.u8).length = gs.length := List.length_map _
      generalize hvv : satC F c = v at *
      refine goB ?_
      refine ifA (fun hc3 => ?_) (fun hc3 => ?_)
      · simp at hc3
        have hc3 : c < gs.length := by omega
        have hng := hng hc3
        have hxl : row.getD c 0 < rows.length := by
          rw [List.getD_eq_getElem?_getD, List.getElem?_eq_getElem (by omega)]
          exact hrx _ (List.getElem_mem _)
        have hcm := hcm _ hxl
        have hnn : nth default ns (c : Int) = cn c := by rw [nthN (by omega), List.getD_eq_getElem?_getD, hng]; rfl
        have hnx : nth default row (c : Int) = row.getD c 0 := nthN (by omega)
        generalize row.getD c 0 = x at *
        generalize hcc : (C k).getD x 0 = z at *
        generalize cn c = a at *
        have hmul : a * z ≤ 95 * mxC := Nat.mul_le_mul hn95 hcm
        refine goB ?_
        refine drA (k := 24) follows (hr := ?_)
        refine goB ?_
        refine ARun.q1 rfl rfl (ql_indexAddr_own (by simp +decide only [go_sem] <;> rfl) (by simp +decide only [go_sem] <;> rfl) Try.underlying107 (by rfl) (by simp [mxS_len]) (by omega) (by omega) (by kernel_rfl)) ?_
        have hnv : nth default (mxS rows.length (C (k + 1)) i v) (i : Int) = v := by rw [nthN (by rw [mxS_len]; exact hc2), mxS_get hc2]
        refine ARun.q1 rfl rfl (qw (l := mxS rows.length (C (k + 1)) i v) (f := iN) (v := iN v) (default : Nat) (i : Int) (by simp +decide only [go_sem] <;> rfl) rfl (by simp) ⟨mxS_len _ _ _ _, by rw [mxS_len]; omega⟩ (by rw [hnv, agg3, sz3]; rfl)) ?_
        refine goB ?_
        rw [hnr, hnn]
        refine goB ?_
        rw [hnx]
        refine goB ?_
        rw [nthN (l := C k) (k := x) (by omega), hcc]
        have hmi : ((a : Int) * (z : Int)) = ((a * z : Nat) : Int) := by simp
        rw [hmi, wrap_id (x := ((a * z : Nat) : Int)) (by omega) (by omega), wrap_id (by omega) (by omega)]
        refine goB ?_
        refine ARun.q1 rfl rfl (ql_indexAddr_own (by simp +decide only [go_sem] <;> rfl) (by simp +decide only [go_sem] <;> rfl) Try.underlying107 (by rfl) (by simp [mxS_len]) (by omega) (by omega) (by kernel_rfl)) ?_
        have hval : iN (satC F (c + 1)) = AV.int (min ((v : Int) + ((a * z : Nat) : Int)) 1000000000000001) := by
          rw [hsc, hFc]
          show AV.int _ = AV.int _
          congr 2
          omega
        refine ARun.p1 rfl rfl (pl_store_own (l := mxS rows.length (C (k + 1)) i v) (f := iN) (satC F (c + 1)) (by simp +decide only [go_sem] <;> rfl) (by rw [hval]; rfl) rfl (mxS_len _ _ _ _) (by rw [mxS_len]; exact hc2) sz3 rfl rfl) ?_
        rw [mxS_set]
        refine goB ?_
        rw [wrap_succ (by omega)]
        exact ⟨c + 1, by omega, by omega, .wf⟩
      simp at hc3
      obtain rfl : c = gs.length := by omega
      refine goB ?_
      rw [wrap_succ (by omega)]
      refine ⟨i + 1, hc2, by omega, ?_⟩
      rw [← mxS_all hc2 (hcs.trans hvv)]
      exact .wf
    simp at hc2
    obtain rfl : i = rows.length := by omega
    refine goB ?_
    rw [wrap_succ (by omega), mixN_all _ _ hcl1]
    refine ⟨k + 1, hk2, by omega, ?_⟩
    refine Wk.trimM 1 (Nat.zero_le _) rfl ?_ (pubB (.cons (PuB_bxM _ _) .nil))
    exact ⟨.pu (.base _), .pu (Pu_u8L gs), .pu (Pu_nL ns), .ptr (by decide), .ownM (f := iN) (l := C (k + 1)) (by decide) rfl hcl1 (fun x _ c hc => by simp only [AV.cells, List.mem_singleton] at hc; subst hc; exact .base _), .pu (.base _), trivial⟩
  simp at hc
  obtain rfl : k = N := by omega
  have h0 := hcg 0 k hpos
  refine goB ?_
  rw [show nth default (C k) 0 = (C k).getD 0 0 from nthN (k := 0) (by omega), h0]
  by_cases hbig : mxC ≤ W k 0
  · rw [if_pos hbig]
    refine ift_ ?_ ?_ rfl
    rotate_left
    · simp; omega
    refine goB ?_
    exact Ret.data rfl rfl (Pu_t2 _ _)
  · rw [if_neg hbig]
    refine iff_ ?_ ?_ rfl
    rotate_left
    · simp; omega
    refine goB ?_
    rw [show nth default (C k) 0 = (C k).getD 0 0 from nthN (k := 0) (by omega), h0, Nat.min_eq_left (by omega)]
    refine goB ?_
    exact Ret.data rfl rfl (Pu_t2 _ _)
end Go.Ab
