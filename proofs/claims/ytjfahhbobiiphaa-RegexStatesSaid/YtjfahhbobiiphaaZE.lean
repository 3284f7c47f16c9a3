/- Part of the proof. -/
import Derived.Test.YtjfahhbobiiphaaZB
import Derived.Test.YtjfahhbobiiphaaVM27
import Derived.Test.YtjfahhbobiiphaaZC
import Derived.Test.YtjfahhbobiiphaaZD
import Derived.Test.YtjfahhbobiiphaaZA
set_option linter.unusedSimpArgs false
set_option linter.unusedVariables false
set_option maxHeartbeats 4000000
namespace Go.Ab
open Go Go.Ab Go.Proofs

theorem lo_some {r : Rx} (hv : r.valid) (hx : r.fixed) {g : Fin 95 → Nat} {nk : Nat} {m : Mb} (hb : MbOk g nk (lng r) m) : (200 < m.2.length → loR r = none) ∧ (¬ 200 < m.2.length → ∃ m', loR r = some m') := by
  obtain ⟨hc, hf⟩ := hx
  have hal := hb.gm.al
  obtain ⟨m0, h0⟩ := madeR_small hv.2 (lvs_14 hv.2 hc) hf
  have hk := (madeR_ok hv.2 (Nat.le_trans (lvs_14 hv.2 hc) (by decide)) h0).1
  have hlo : loR r = leastR m0 := by unfold loR; rw [h0]; rfl
  rw [hlo]
  rcases h1 : leastR m0 with _ | m'
  · have := leastR_none hk h1 hb.lm
    exact ⟨fun _ => rfl, fun h => absurd (by omega) h⟩
  · obtain ⟨k1, k2, k3⟩ := leastR_ok hk h1
    have := k2.size hb.lm
    exact ⟨fun h => absurd h (by omega), fun _ => ⟨m', rfl⟩⟩
noncomputable def shR (r : Rx) : (ByteArray × Bool) × Int := if 200 < (mchR r).2.length then ((ByteArray.empty, false), 2) else (shL (lng r), 0)
theorem sh_eq {r : Rx} (hv : r.valid) (hx : r.fixed) : shV r = shR r := by
  obtain ⟨h1, h2⟩ := lo_some hv hx (mchR_ok hv.2 hx)
  unfold shV shR
  rw [if_pos hv]
  split
  · rename_i m hm
    rw [if_neg fun h => by rw [h1 h] at hm; cases hm]
  · rename_i hm
    by_cases h : 200 < (mchR r).2.length
    · rw [if_pos h]
    · obtain ⟨m, h3⟩ := h2 h
      rw [h3] at hm; cases hm
end Go.Ab
set_option maxHeartbeats 4000000
namespace Go.Ab
open Go Go.Ab Go.Proofs Go.Ab.Ty

section
variable {κ : Type} [DecidableEq κ]
end
abbrev bxM (rows : List (List Nat)) (acs : List Bool) : ABlk := ⟨112, 2, [.agg [.lst (rows.map nL), lB acs]]⟩
theorem PuB_bxM (rows : List (List Nat)) (acs : List Bool) : ∀ e ∈ (bxM rows acs).es, ∀ c ∈ e.cells, Pu c := fun e he c hc => by
  rw [List.mem_singleton] at he; subst he
  simp only [AV.cells, List.mem_cons, List.not_mem_nil, or_false] at hc
  rcases hc with rfl | rfl
  · exact Pu_rowsN rows
  · exact Pu_lB acs
end Go.Ab
set_option maxHeartbeats 4000000
namespace Go.Ab
open Go Go.Ab Go.Proofs Go.Ab.Ty

abbrev faB (l : List Int) : ABlk := ⟨3, 1, l.map AV.int⟩
attribute [go_sem] mxI_len
theorem mxI_nth {n : Nat} {f g : Nat → Int} {j i : Nat} (h : i < n) : nth (default : Int) (mxI n f g j) (i : Int) = if i < j then f i else g i := by
  rw [nth_eq (by rw [mxI_len]; exact h)]
  have := mxI_get (f := f) (g := g) (j := j) h
  rw [List.getElem?_eq_getElem (by rw [mxI_len]; exact h)] at this
  injection this
theorem ql_far {H : List ABlk} {ρ : Operand → AV} {x : Operand} {b n i j : Nat} {f g : Nat → Int} (hx : ρ x = .ptr b n i 0) (hb : H[b]? = some (faB (mxI n f g j))) (h : i < n) : QL Try.prog H ρ (.load 3 x) (.int (if i < j then f i else g i)) :=
  qw (l := mxI n f g j) (f := AV.int) (default : Int) (i : Int) hx hb (by simp) ⟨mxI_len _ _ _ _, by rw [mxI_len]; exact h⟩ (by rw [mxI_nth h, agg3, sz3]; rfl)
theorem ql_far0 {H : List ABlk} {ρ : Operand → AV} {x : Operand} {b n i : Nat} {f g : Nat → Int} (hx : ρ x = .ptr b n i 0) (hb : H[b]? = some (faB (mxI n f g 0))) (h : i < n) : QL Try.prog H ρ (.load 3 x) (.int (g i)) := by
  have := ql_far hx hb h
  rwa [if_neg (Nat.not_lt_zero _)] at this
theorem ql_one {H : List ABlk} {ρ : Operand → AV} {x y z : Operand} {gs : List UInt8} {k : Nat} {c : UInt8} (hx : ρ x = .lst (gs.map AV.u8)) (hy : ρ y = .int k) (hz : ρ z = .int ((k + 1 : Nat) : Int)) (hc : gs[k]? = some c) : QL Try.prog H ρ (.slice 32 x (some y) (some z) none) (.lst ([c].map AV.u8)) := by
  obtain ⟨hl, he⟩ := List.getElem?_eq_some_iff.1 hc
  have := ql_slice_lst (P := Try.prog) (H := H) (lo := some y) (hi := some z) (l := k) (h := k + 1) hx Try.underlying32 (by simp [bnd, hy]) (by simp [bnd, hz]; omega) (by omega) (by rw [List.length_map]; omega) sz5 (fun e he => by obtain ⟨v, _, rfl⟩ := List.mem_map.1 he; rfl)
  rw [show k + 1 - k = 1 by omega, ← List.map_drop, List.drop_eq_getElem_cons hl, he] at this
  exact this
theorem shortestR_ok (r : Rx) (hw : r.wf) (hx : r.fixed) (hok : r.ok) : Fn Try.prog 52 [encX r] (.tup [str (shR r).1.1, .bool (shR r).1.2, .int (shR r).2]) := by
  have i1 := sets0_ok r hok (by have := hx.1; omega)
  have i2 := kinds_ok (setsR r) (Nat.le_trans (setsR_len r) (by have := hx.1; omega)) (setsR_size r hok)
  have hgl := gsB_len (keyB (setsR r))
  rw [bu_gsB] at i2
  have i3 := machD_ok r hw hx hok
  have hb := mchR_ok hw hx
  have hg95 := (gsB_pos (keyB (setsR r))).2
  obtain ⟨⟨hpos, hal, hwd, hlt, hgk, hsu⟩, hlm⟩ := hb
  have hcl := hlm.cl
  have hlang := hlm.lang
  have hat := fun w hw i hi => far_at (ac := acR (mchR r).2) hcl hpos (w := w) hw (i := i) hi
  have hstp := fun w hw i hi => far_step (K := keyB (setsR r)) (st := stR (gK (setsR r)) (mchR r).1) (ac := acR (mchR r).2) (δ := fun q c => ((mchR r).1.getD q []).getD c 0) (fun q a => rfl) hcl hpos (w := w) hw (i := i) hi
  have hf1 := fun q => fN_one (st := stR (gK (setsR r)) (mchR r).1) (ac := acR (mchR r).2) q
  have hfs := fun N q h => fN_same (st := stR (gK (setsR r)) (mchR r).1) (ac := acR (mchR r).2) (N := N) (q := q) h
  have hfst := fun N q h => fN_step (st := stR (gK (setsR r)) (mchR r).1) (ac := acR (mchR r).2) (N := N) (q := q) h
  have hfn := fun N q (h1 : 1 ≤ N) h2 => fN_new (st := stR (gK (setsR r)) (mchR r).1) (ac := acR (mchR r).2) (N := N) (q := q) h1 h2 (g := gK (setsR r)) (nk := (gsB (keyB (setsR r))).length) (δ := fun k => ((mchR r).1.getD q []).getD k 0) hgk hsu (fun a => rfl)
  have hfl := fun N q => fN_le (st := stR (gK (setsR r)) (mchR r).1) (ac := acR (mchR r).2) N q
  have hneg : fN (stR (gK (setsR r)) (mchR r).1) (acR (mchR r).2) ((mchR r).1.length + 1) 0 < 0 → ∀ w, ¬ lng r w := fun h w hw => by
    obtain ⟨d, _, h2⟩ := ds_le (st := stR (gK (setsR r)) (mchR r).1) (ac := acR (mchR r).2) (q := 0) (w := w) ((hlang w).2 hw)
    exact fN_neg.1 h d (by have := ds_lt hcl hpos h2; omega) h2
  have hex : ¬ fN (stR (gK (setsR r)) (mchR r).1) (acR (mchR r).2) ((mchR r).1.length + 1) 0 < 0 → ∃ w, Lst (fun w => acR (mchR r).2 (dr (stR (gK (setsR r)) (mchR r).1) 0 w) = true) w := fun h => by
    rcases hd : ds (stR (gK (setsR r)) (mchR r).1) (acR (mchR r).2) 0 with _ | d
    · exact absurd (fN_neg.2 fun d _ h2 => by rw [hd] at h2; cases h2) h
    · obtain ⟨w, _, h2⟩ := ds_of hd
      exact ⟨w, h2⟩
  have hshL : ∀ w, Lst (fun w => acR (mchR r).2 (dr (stR (gK (setsR r)) (mchR r).1) 0 w) = true) w → shL (lng r) = (tw w, true) := fun w h => shL_some ⟨(hlang w).1 h.1, fun u hu => h.2 u ((hlang u).2 hu)⟩
  have hgs : ∀ (k : Nat) (a : Fin 95), (fsN (keyB (setsR r)) 95)[k]? = some a.val → (gsB (keyB (setsR r)))[k]? = some (lb a) := fun k a h => by unfold gsB; rw [List.getElem?_map, h]; rfl
  unfold shR
  rw [← hgl] at hstp
  generalize fN (stR (gK (setsR r)) (mchR r).1) (acR (mchR r).2) = f at *
  clear hgk hsu hlm hcl hgl
  generalize stR (gK (setsR r)) (mchR r).1 = st at *
  generalize fsN (keyB (setsR r)) 95 = F at *
  generalize gsB (keyB (setsR r)) = gs at *
  generalize mnK (keyB (setsR r)) 95 = ns at *
  generalize setsR r = Ss at *
  generalize mchR r = m at *
  generalize lng r = L at *
  obtain ⟨o, S, l⟩ := r
  obtain ⟨rows, acs⟩ := m
  rw [encX_mk] at i1 i3 ⊢
  simp only at *
  refine Fn.intro' [(0, .agg [.int o, str S, .lst (l.map encX)])] 1 148 Try.func52 (by kernel_rfl) rfl rfl rfl rfl rfl ?_
  have hml : (acs.map AV.bool).length = acs.length := List.length_map _
  have hgm : (gs.map AV.u8).length = gs.length := List.length_map _
  refine goB ?_
  refine callA (i1) ?_
  refine goB ?_
  refine callA (i2) ?_
  refine goB ?_
  refine callA (i3) ?_
  refine goB ?_
  refine AWp.weaken (Wk.selB (E2 := [(5, .lst (gs.map AV.u8)), (7, .ptr 0 1 0 0), (29, .bool (decide ((acs.length : Int) > 200)))]) (H2 := [bxM rows acs]) [1] (by decide) (fun b hb => absurd hb (Nat.not_lt_zero _)) ⟨⟨_, rfl, .pu (PuB_bxM _ _)⟩, trivial⟩ (WkR.all ⟨.pu (Pu_u8L gs), .ptr rfl, .pu (.base _), trivial⟩)) ?_
  by_cases h2 : 200 < acs.length
  · rw [if_pos h2]
    refine ift_ ?_ ?_ rfl
    rotate_left
    · simp; omega
    refine goB ?_
    exact Ret.data rfl rfl (Pu_t3 _ _ _)
  rw [if_neg h2]
  refine iff_ ?_ ?_ rfl
  rotate_left
  · simp; omega
  refine goB ?_
  rw [hal]
  refine ARun.p1 rfl rfl (pl_make (by simp +decide only [go_sem] <;> rfl) (by simp +decide only [go_sem] <;> rfl) Try.underlying107 el3 zero3 rfl (by omega) (by omega) (by omega) (by omega)) ?_
  rw [show (List.replicate ((rows.length : Int)).toNat (AV.base (.int .i64 0))) = (mxI rows.length (f 1) (fun _ => 0) 0).map AV.int by rw [mxI_z]; simp]
  refine goB ?_
  refine AWp.loop (J := fun j : Nat => j ≤ rows.length) (fun j => ⟨[(5, .lst (gs.map AV.u8)), (7, .ptr 0 1 0 0), (8, .own 1 rows.length 0 rows.length), (9, .int j)], [bxM rows acs, faB (mxI rows.length (f 1) (fun _ => 0) j)]⟩) (fun j => rows.length - j) 0 (Nat.zero_le _) .wf ?_
  intro j hj
  have hf1 := hf1 j
  refine goB ?_
  refine ifA (fun hc => ?_) (fun hc => ?_)
  · simp at hc
    have hj2 : j < rows.length := by omega
    refine goB ?_
    refine ARun.q1 rfl rfl (ql_indexAddr_own (by simp +decide only [go_sem] <;> rfl) (by simp +decide only [go_sem] <;> rfl) Try.underlying107 (by rfl) (by simp [mxI_len]) (by omega) (by omega) (by kernel_rfl)) ?_
    refine ARun.p1 rfl rfl (pl_store_own (l := mxI rows.length (f 1) (fun _ => 0) j) (f := AV.int) (-1 : Int) (by simp +decide only [go_sem] <;> rfl) rfl rfl (mxI_len _ _ _ _) (by rw [mxI_len]; exact hj2) sz3 rfl rfl) ?_
    refine goB ?_
    rw [nth_at (acs := acs) (k := j) (by omega)]
    by_cases ha : acR acs j = true
    · rw [if_pos ha] at hf1
      rw [ha]
      refine ift_ ?_
      refine goB ?_
      refine ARun.q1 rfl rfl (ql_indexAddr_own (by simp +decide only [go_sem] <;> rfl) (by simp +decide only [go_sem] <;> rfl) Try.underlying107 (by rfl) (by simp [mxI_len]) (by omega) (by omega) (by kernel_rfl)) ?_
      refine ARun.p1 rfl rfl (pl_store_own (l := (mxI rows.length (f 1) (fun _ => 0) j).set j (-1)) (f := AV.int) (0 : Int) (by simp +decide only [go_sem] <;> rfl) rfl rfl (by simp [mxI_len]) (by rw [List.length_set, mxI_len]; exact hj2) sz3 rfl rfl) ?_
      rw [show ((mxI rows.length (f 1) (fun _ => 0) j).set j (-1)).set j 0 = mxI rows.length (f 1) (fun _ => 0) (j + 1) by rw [List.set_set, ← mxI_set hj2, hf1]]
      refine goB ?_
      rw [wrap_succ (by omega)]
      exact ⟨j + 1, by omega, by omega, .wf⟩
    · rw [if_neg ha] at hf1
      rw [Bool.eq_false_iff.2 ha]
      refine iff_ ?_
      rw [show (mxI rows.length (f 1) (fun _ => 0) j).set j (-1) = mxI rows.length (f 1) (fun _ => 0) (j + 1) by rw [← mxI_set hj2, hf1]]
      refine goB ?_
      rw [wrap_succ (by omega)]
      exact ⟨j + 1, by omega, by omega, .wf⟩
  simp at hc
  obtain rfl : j = rows.length := by omega
  rw [mxI_all, ← mxI_0 (f := f 2)]
  refine goB ?_
  refine AWp.loop (J := fun N : Nat => 1 ≤ N ∧ N ≤ rows.length + 1) (fun N => ⟨[(5, .lst (gs.map AV.u8)), (7, .ptr 0 1 0 0), (8, .own 1 rows.length 0 rows.length), (10, .int N)], [bxM rows acs, faB (mxI rows.length (f (N + 1)) (f N) 0)]⟩) (fun N => rows.length + 1 - N) 1 ⟨Nat.le_refl _, by omega⟩ .wf ?_
  rintro N ⟨hN1, hN2⟩
  have hfn := hfn N
  have hfs := hfs N
  have hfst := hfst N
  refine goB ?_
  refine ifA (fun hc => ?_) (fun hc => ?_)
  · simp at hc
    have hN3 : N ≤ rows.length := by omega
    refine goB ?_
    refine AWp.loop (J := fun i : Nat => i ≤ rows.length) (fun i => ⟨[(5, .lst (gs.map AV.u8)), (7, .ptr 0 1 0 0), (8, .own 1 rows.length 0 rows.length), (10, .int N), (11, .int i)], [bxM rows acs, faB (mxI rows.length (f (N + 1)) (f N) i)]⟩) (fun i => rows.length - i) 0 (Nat.zero_le _) .wf ?_
    intro i hi
    have hfs := hfs i
    have hfn := hfn i hN1
    refine goB ?_
    refine ifA (fun hc2 => ?_) (fun hc2 => ?_)
    · simp at hc2
      refine goB ?_
      have hrw := hwd _ (List.getElem_mem hc2)
      have hrx := hlt _ (List.getElem_mem hc2)
      have hnr : nth default rows (i : Int) = rows[i] := nth_eq hc2
      rw [show rows.getD i [] = rows[i] by rw [List.getD_eq_getElem?_getD, List.getElem?_eq_getElem hc2]; rfl] at hfn
      generalize rows[i] = row at *
      refine AWp.loop (J := fun y : Nat × Nat => y.1 ≤ gs.length ∧ y.2 ≤ 1 ∧ (y.2 = 1 → f (N + 1) i = N) ∧ (y.2 = 0 → ∀ k, k < y.1 → f N (row.getD k 0) ≠ (N : Int) - 1)) (fun y => ⟨[(5, .lst (gs.map AV.u8)), (7, .ptr 0 1 0 0), (8, .own 1 rows.length 0 rows.length), (10, .int N), (11, .int i), (12, .int y.1)], [bxM rows acs, faB (mxI rows.length (f (N + 1)) (f N) (i + y.2))]⟩) (fun y => gs.length - y.1) (0, 0) ⟨Nat.zero_le _, Nat.zero_le _, fun h => (by cases h), fun _ k hk => absurd hk (Nat.not_lt_zero _)⟩ .wf ?_
      rintro ⟨k, d⟩ ⟨hk, hd, hd1, hd0⟩
      simp only at hk hd hd1 hd0 ⊢
      refine goB ?_
      refine gqA (h := fun hg => ql_indexAddr_own (by simp +decide only [go_sem] <;> rfl) (by simp +decide only [go_sem] <;> rfl) Try.underlying107 (by rfl) (by simp [mxI_len]) (by omega) (by omega) (by kernel_rfl)) (hr := ?_)
      refine gqA (h := fun hg => ql_far (by simp +decide only [go_sem] <;> rfl) rfl (by omega)) (hr := ?_)
      refine goB ?_
      refine ifA (fun hc3 => ?_) (fun hc3 => ?_)
      · simp at hc3
        obtain ⟨hkn, hv⟩ := hc3
        obtain rfl : d = 0 := by
          rcases Nat.eq_zero_or_pos d with h | h
          · exact h
          · obtain rfl : d = 1 := by omega
            rw [if_pos (by omega), hd1 rfl] at hv
            omega
        rw [if_neg (by omega)] at hv
        have hd0 := hd0 rfl
        have hxl : row.getD k 0 < rows.length := by
          rw [List.getD_eq_getElem?_getD, List.getElem?_eq_getElem (by omega)]
          exact hrx _ (List.getElem_mem _)
        have hnx : nth default row (k : Int) = row.getD k 0 := nthN (by omega)
        have hfst := hfst (row.getD k 0) hN1
        have hfn1 := (hfn hv).1
        generalize hxx : row.getD k 0 = x at *
        refine goB ?_
        rw [hnr]
        refine goB ?_
        rw [hnx]
        refine goB ?_
        refine ARun.q1 rfl rfl (ql_indexAddr_own (by simp +decide only [go_sem] <;> rfl) (by simp +decide only [go_sem] <;> rfl) Try.underlying107 (by rfl) (by simp [mxI_len]) (by omega) (by omega) (by kernel_rfl)) ?_
        refine ARun.q1 rfl rfl (ql_far (by simp +decide only [go_sem] <;> rfl) rfl (by omega)) ?_
        refine goB ?_
        rw [wrap_id (x := (N : Int) - 1) (by omega) (by omega)]
        have hiff : ((if x < i + 0 then f (N + 1) x else f N x) = (N : Int) - 1) ↔ f N x = (N : Int) - 1 := by
          split
          · exact hfst
          · exact Iff.rfl
        by_cases hq : f N x = (N : Int) - 1
        · refine ift_ ?_ ?_ rfl
          rotate_left
          · exact decide_eq_true (hiff.2 hq)
          refine goB ?_
          refine ARun.q1 rfl rfl (ql_indexAddr_own (by simp +decide only [go_sem] <;> rfl) (by simp +decide only [go_sem] <;> rfl) Try.underlying107 (by rfl) (by simp [mxI_len]) (by omega) (by omega) (by kernel_rfl)) ?_
          refine ARun.p1 rfl rfl (pl_store_own (l := mxI rows.length (f (N + 1)) (f N) i) (f := AV.int) (N : Int) (by simp +decide only [go_sem] <;> rfl) rfl rfl (mxI_len _ _ _ _) (by rw [mxI_len]; exact hc2) sz3 rfl rfl) ?_
          have hfN : f (N + 1) i = N := hfn1 ⟨k, hkn, by rw [hxx]; exact hq⟩
          rw [show (mxI rows.length (f (N + 1)) (f N) i).set i (N : Int) = mxI rows.length (f (N + 1)) (f N) (i + 1) by rw [← mxI_set hc2, hfN]]
          refine goB ?_
          rw [wrap_succ (by omega)]
          exact ⟨(k + 1, 1), ⟨hkn, Nat.le_refl _, fun _ => hfN, fun h => (by cases h)⟩, by simp only; omega, .wf⟩
        · refine iff_ ?_ ?_ rfl
          rotate_left
          · exact decide_eq_false fun h => hq (hiff.1 h)
          refine goB ?_
          rw [wrap_succ (by omega)]
          refine ⟨(k + 1, 0), ⟨hkn, Nat.zero_le _, fun h => (by cases h), fun _ k' hk' => ?_⟩, by simp only; omega, .wf⟩
          rcases Nat.lt_or_ge k' k with h | h
          · exact hd0 k' h
          · obtain rfl : k' = k := by simp only at hk'; omega
            rw [hxx]; exact hq
      simp at hc3
      have hfin : mxI rows.length (f (N + 1)) (f N) (i + d) = mxI rows.length (f (N + 1)) (f N) (i + 1) := by
        rcases Nat.eq_zero_or_pos d with rfl | h
        · refine mxI_skip ?_
          by_cases hneg : f N i < 0
          · by_cases hkn : k < gs.length
            · have := hc3 hkn
              rw [if_neg (by omega)] at this
              omega
            · obtain rfl : k = gs.length := by omega
              exact ((hfn hneg).2 fun k hk => hd0 rfl k hk).2
          · exact hfs (by omega)
        · obtain rfl : d = 1 := by omega
          rfl
      rw [hfin]
      refine goB ?_
      rw [wrap_succ (by omega)]
      exact ⟨i + 1, hc2, by omega, .wf⟩
    simp at hc2
    obtain rfl : i = rows.length := by omega
    rw [mxI_all, ← mxI_0 (f := f (N + 1 + 1))]
    refine goB ?_
    rw [wrap_succ (by omega)]
    exact ⟨N + 1, ⟨by omega, by omega⟩, by omega, .wf⟩
  simp at hc
  obtain rfl : N = rows.length + 1 := by omega
  clear hfn hfs hfst hf1
  refine goB ?_
  refine ARun.q1 rfl rfl (ql_indexAddr_own (by simp +decide only [go_sem] <;> rfl) (by simp +decide only [go_sem] <;> rfl) Try.underlying107 (by rfl) (by simp [mxI_len]) (by omega) (by omega) (by kernel_rfl)) ?_
  refine ARun.q1 rfl rfl (ql_far (by simp +decide only [go_sem] <;> rfl) rfl (by omega)) ?_
  refine goB ?_
  by_cases hng : f (rows.length + 1) 0 < 0
  · refine ift_ ?_ ?_ rfl
    rotate_left
    · exact decide_eq_true hng
    rw [shL_none (hneg hng)]
    refine goB ?_
    exact Ret.data rfl rfl (Pu_t3 _ _ _)
  refine iff_ ?_ ?_ rfl
  rotate_left
  · exact decide_eq_false hng
  obtain ⟨w, hwL⟩ := hex hng
  rw [hshL w hwL]
  have hat := hat w hwL
  have hstp := hstp w hwL
  have htk : ∀ i (hi : i < w.length), tw (w.take (i + 1)) = tw (w.take i) ++ bsL [lb w[i]] := fun i hi => by rw [List.take_succ_eq_append_getElem hi, tw_snoc]
  have hwn : w.length ≤ rows.length + 1 := by
    have h1 := (hat 0 (Nat.zero_le _)).2
    have h2 := (hfl (rows.length + 1) (dr st 0 (w.take 0))).2
    rw [h1] at h2
    omega
  refine AWp.skip (z1 ?_)
  refine keF [5, 7, 8] ?_
  refine goB ?_
  refine AWp.loop (J := fun i : Nat => i ≤ w.length) (fun i => ⟨[(5, .lst (gs.map AV.u8)), (7, .ptr 0 1 0 0), (8, .own 1 rows.length 0 rows.length), (13, str (tw (w.take i))), (14, .int (dr st 0 (w.take i) : Nat))], [bxM rows acs, faB (mxI rows.length (f (rows.length + 1 + 1)) (f (rows.length + 1)) 0)]⟩) (fun i => w.length - i) 0 (Nat.zero_le _) .wf ?_
  intro i hi
  obtain ⟨hsn, hfs⟩ := hat i hi
  have hstp := hstp i
  have htk := htk i
  have htw := tw_size (w.take i)
  have htl : (w.take i).length ≤ i := by rw [List.length_take]; omega
  generalize hs : dr st 0 (w.take i) = s at *
  refine goB ?_
  refine ARun.q1 rfl rfl (ql_indexAddr_own (by simp +decide only [go_sem] <;> rfl) (by simp +decide only [go_sem] <;> rfl) Try.underlying107 (by rfl) (by simp [mxI_len]) (by omega) (by omega) (by kernel_rfl)) ?_
  refine ARun.q1 rfl rfl (ql_far0 (by simp +decide only [go_sem] <;> rfl) rfl (by omega)) ?_
  refine goB ?_
  refine ifA (fun hc4 => ?_) (fun hc4 => ?_)
  · simp [hfs] at hc4
    have hi2 : i < w.length := by omega
    obtain ⟨k0, p1, p2, p3, p4, p5⟩ := hstp hi2
    have p4 := hgs _ _ p4
    have htk := htk hi2
    have hrw := hwd _ (List.getElem_mem hsn)
    have hrx := hlt _ (List.getElem_mem hsn)
    have hnr : nth default rows (s : Int) = rows[s] := nth_eq hsn
    rw [show rows.getD s [] = rows[s] by rw [List.getD_eq_getElem?_getD, List.getElem?_eq_getElem hsn]; rfl] at p2 p3 p5
    generalize rows[s] = row at *
    generalize w[i] = a at *
    refine goB ?_
    refine AWp.loop (J := fun y : Nat × Nat => y.1 ≤ gs.length ∧ y.2 ≤ 1 ∧ (y.2 = 0 → y.1 ≤ k0)) (fun y => ⟨[(5, .lst (gs.map AV.u8)), (7, .ptr 0 1 0 0), (8, .own 1 rows.length 0 rows.length), (13, str (tw (w.take (i + y.2)))), (14, .int (s : Nat)), (15, .int (if y.2 = 0 then -1 else ((dr st 0 (w.take (i + 1)) : Nat) : Int))), (16, .int y.1)], [bxM rows acs, faB (mxI rows.length (f (rows.length + 1 + 1)) (f (rows.length + 1)) 0)]⟩) (fun y => gs.length - y.1) (0, 0) ⟨Nat.zero_le _, Nat.zero_le _, fun _ => Nat.zero_le _⟩ .wf ?_
    rintro ⟨k, d⟩ ⟨hk, hd, hd0⟩
    simp only at hk hd hd0 ⊢
    generalize hs' : dr st 0 (w.take (i + 1)) = s' at *
    refine goB ?_
    refine ifA (fun hc5 => ?_) (fun hc5 => ?_)
    · simp at hc5
      obtain ⟨hkn, hv⟩ := hc5
      obtain rfl : d = 0 := by
        rcases Nat.eq_zero_or_pos d with h | h
        · exact h
        · rw [if_neg (by omega)] at hv
          omega
      have hd0 := hd0 rfl
      have hxl : row.getD k 0 < rows.length := by
        rw [List.getD_eq_getElem?_getD, List.getElem?_eq_getElem (by omega)]
        exact hrx _ (List.getElem_mem _)
      have hnx : nth default row (k : Int) = row.getD k 0 := nthN (by omega)
      have hfb := hfl (rows.length + 1) s
      generalize hxx : row.getD k 0 = x at *
      simp only [if_pos, Nat.add_zero]
      refine goB ?_
      refine drA (k := 17) follows (hr := ?_)
      refine goB ?_
      rw [hnr]
      refine goB ?_
      rw [hnx]
      refine goB ?_
      refine ARun.q1 rfl rfl (ql_indexAddr_own (by simp +decide only [go_sem] <;> rfl) (by simp +decide only [go_sem] <;> rfl) Try.underlying107 (by rfl) (by simp [mxI_len]) (by omega) (by omega) (by kernel_rfl)) ?_
      refine ARun.q1 rfl rfl (ql_far0 (by simp +decide only [go_sem] <;> rfl) rfl (by omega)) ?_
      refine goB ?_
      refine ARun.q1 rfl rfl (ql_indexAddr_own (by simp +decide only [go_sem] <;> rfl) (by simp +decide only [go_sem] <;> rfl) Try.underlying107 (by rfl) (by simp [mxI_len]) (by omega) (by omega) (by kernel_rfl)) ?_
      refine ARun.q1 rfl rfl (ql_far0 (by simp +decide only [go_sem] <;> rfl) rfl (by omega)) ?_
      refine goB ?_
      rw [wrap_id (x := f (rows.length + 1) s - 1) (by omega) (by omega)]
      by_cases hq : f (rows.length + 1) x = f (rows.length + 1) s - 1
      · obtain rfl : k = k0 := by
          have := p2 k hkn (by rw [hxx]; exact hq)
          omega
        rw [hxx] at p5
        subst p5
        refine ift_ ?_ ?_ rfl
        rotate_left
        · exact decide_eq_true hq
        refine goB ?_
        rw [wrap_succ (by omega)]
        refine ARun.q1 rfl rfl (ql_one (gs := gs) (k := k) (c := lb a) (by simp +decide only [go_sem] <;> rfl) (by simp +decide only [go_sem] <;> rfl) (by simp +decide only [go_sem] <;> rfl) p4) ?_
        refine ARun.q1 rfl rfl (ql_bytesStrD (l := [lb a]) (by simp +decide only [go_sem] <;> rfl) Try.underlying32 Try.underlying5 Try.underlying9) ?_
        refine ARun.q1 rfl rfl (ql_addStr (a := tw (w.take i)) (b := bsL [lb a]) (by simp +decide only [go_sem] <;> rfl) (by simp +decide only [go_sem] <;> rfl) (by have : (bsL [lb a]).size = 1 := rfl; omega)) ?_
        rw [← htk]
        refine goB ?_
        rw [hnr]
        refine goB ?_
        rw [hnx]
        refine goB ?_
        rw [wrap_succ (by omega)]
        refine ⟨(k + 1, 1), ⟨hkn, Nat.le_refl _, fun h => (by cases h)⟩, by simp only; omega, ?_⟩
        simp only [show ¬ (1 = 0) by decide, if_false]
        exact .wf
      · have hne : k ≠ k0 := fun h => by
          subst h
          rw [hxx] at p3
          exact hq p3
        refine iff_ ?_ ?_ rfl
        rotate_left
        · exact decide_eq_false hq
        refine goB ?_
        rw [wrap_succ (by omega)]
        exact ⟨(k + 1, 0), ⟨hkn, Nat.zero_le _, fun _ => by simp only; omega⟩, by simp only; omega, .wf⟩
    simp at hc5
    obtain rfl : d = 1 := by
      rcases Nat.eq_zero_or_pos d with h | h
      · subst h
        have := hd0 rfl
        have := hc5 (by omega)
        rw [if_pos rfl] at this
        omega
      · omega
    simp only [show ¬ (1 = 0) by decide, if_false]
    refine goB ?_
    rw [← hs']
    exact ⟨i + 1, hi2, by omega, .wf⟩
  simp [hfs] at hc4
  obtain rfl : i = w.length := by omega
  rw [List.take_length]
  refine goB ?_
  exact Ret.data rfl rfl (Pu_t3 _ _ _)
end Go.Ab
