/- Part of the proof. -/
import Derived.Test.YtjfahhbobiiphaaZA
import Derived.Test.YtjfahhbobiiphaaYU
set_option linter.unusedSimpArgs false
set_option linter.unusedVariables false
set_option maxHeartbeats 4000000
namespace Go.Ab
open Go Go.Ab Go.Proofs
end Go.Ab
set_option maxHeartbeats 4000000
namespace Go.Ab
open Go Go.Ab Go.Proofs Go.Ab.Ty

open Classical in
noncomputable def sameR (nk : Nat) (a b : Mb) : Bool := decide (∀ p ∈ (xsB a b nk (a.1.length * b.1.length)).1, acR a.2 p.1 = acR b.2 p.2)
open Classical in
theorem same_ok {g : Fin 95 → Nat} {nk : Nat} (a b : Mb) (ha : Gm g nk a.1 a.2) (hb : Gm g nk b.1 b.2) (hk0 : 0 < nk) (hk9 : nk ≤ 95) (hN : a.1.length * b.1.length ≤ 300000000) :
    Fn Try.prog 87 [.agg [.lst (a.1.map nL), lB a.2], .agg [.lst (b.1.map nL), lB b.2]] (.bool (sameR nk a b)) := by
  refine Fn.intro' [(0, .agg [.lst (a.1.map nL), lB a.2]), (1, .agg [.lst (b.1.map nL), lB b.2])] 2 91 Try.func87 (by kernel_rfl) rfl rfl rfl rfl rfl ?_
  have hxl := xsB_len ha hb
  have hlt := xsB_lt ha hb
  have hfin : ∀ k, (xsB a b nk k).1.length ≤ k → xsB a b nk (a.1.length * b.1.length) = xsB a b nk k := fun k h => by
    rcases Nat.le_total k (a.1.length * b.1.length) with hle | hle
    · have := xs_stop (δ := dB a b) (gs := List.range nk) (s0 := (0, 0)) h (a.1.length * b.1.length - k)
      rw [Nat.add_sub_cancel' hle] at this; exact this
    · have := xs_stop (δ := dB a b) (gs := List.range nk) (s0 := (0, 0)) (hxl (a.1.length * b.1.length)) (k - a.1.length * b.1.length)
      rw [Nat.add_sub_cancel' hle] at this; exact this.symm
  have hsub : ∀ k, ∀ p ∈ (xsB a b nk k).1, p ∈ (xsB a b nk (a.1.length * b.1.length)).1 := fun k p hp => by
    rcases Nat.le_total k (a.1.length * b.1.length) with hle | hle
    · obtain ⟨d, hd⟩ := Nat.exists_eq_add_of_le hle
      obtain ⟨t, ht⟩ := xs_pre (dB a b) (List.range nk) (0, 0) k d
      unfold xsB at hp ⊢
      rw [hd, ht]; exact List.mem_append_left _ hp
    · have := xs_stop (δ := dB a b) (gs := List.range nk) (s0 := (0, 0)) (hxl (a.1.length * b.1.length)) (k - a.1.length * b.1.length)
      rw [Nat.add_sub_cancel' hle] at this
      unfold xsB at hp ⊢
      rw [← this]; exact hp
  have hX0 : (xsB a b nk 0).1 = [(0, 0)] := rfl
  have hns : ∀ k s, (xsB a b nk k).1[k]? = some s → (xsB a b nk (k + 1)).1 = (rowX (dB a b s) (List.range nk) (xsB a b nk k).1 []).1 := fun k s h => by
    unfold xsB at h ⊢; rw [xs_some h]
  have hpre : ∀ k m, ∃ t, (xsB a b nk (k + m)).1 = (xsB a b nk k).1 ++ t := fun k m => xs_pre _ _ _ k m
  have hdB : ∀ p k, dB a b p k = ((a.1.getD p.1 []).getD k 0, (b.1.getD p.2 []).getD k 0) := fun p k => rfl
  unfold sameR
  generalize xsB a b nk = X at *
  generalize dB a b = δ at *
  obtain ⟨ra, aa⟩ := a
  obtain ⟨rb, ab⟩ := b
  simp only at *
  refine goC ?_
  refine ARun.q1 rfl rfl (ql_buildA Try.underlying43 sz3 zero43 (by simp +decide only [go_sem, placesA_2, List.map] <;> rfl)) ?_
  refine ARun.p1 rfl rfl (pl_buildSlice (es := [encP (0, 0)]) (by decide) Try.underlying40 sz43 (by kernel_rfl) (by decide) (by simp +decide only [go_sem] <;> rfl) (by simp +decide only [go_sem] <;> rfl) rfl) ?_
  refine goC ?_
  refine AWp.loop (J := fun k : Nat => k ≤ (X k).1.length ∧ ∀ i p, i < k → (X k).1[i]? = some p → acR aa p.1 = acR ab p.2) (fun k => ⟨[(2, .ptr 0 1 0 0), (3, .ptr 1 1 0 0), (5, .own 2 (X k).1.length 0 (X k).1.length), (6, .int k)], [bxA ra aa, bxA rb ab, quB (X k).1]⟩) (fun k => ra.length * rb.length - k) 0 ⟨Nat.zero_le _, fun i p h => by omega⟩ (by rw [hX0]; exact .wf) ?_
  rintro k ⟨hk, hag⟩
  have hns := hns k
  have hxl' := hxl
  have hxl := hxl k
  have hlt := hlt k
  have hfin := hfin k
  have hpre := hpre k
  have hsub := hsub k
  have hml : ∀ l : List (Nat × Nat), (l.map encP).length = l.length := fun l => List.length_map _
  generalize hA : (X k).1 = A at *
  refine goC ?_
  refine ifA (fun hc => ?_) (fun hc => ?_)
  · have hc := of_decide_eq_true hc
    have hc : k < A.length := by omega
    obtain ⟨hp1, hp2⟩ := hlt _ (List.getElem_mem hc)
    have hns := hns _ (List.getElem?_eq_getElem hc)
    have hAk : A[k]? = some A[k] := List.getElem?_eq_getElem hc
    have hmem : A[k] ∈ A := List.getElem_mem hc
    generalize A[k] = pq at *
    obtain ⟨p, q⟩ := pq
    simp only at hp1 hp2
    refine goC ?_
    refine drA (k := 12) follows (hr := ?_)
    refine goD ?_
    refine ARun.q1 rfl rfl (ql_ix2 (k := 0) (off := 0) (i0 := k) (b := 2) (tot := A.length) (by simp +decide only [go_sem] <;> simp) (fresh_qu (A := A) rfl rfl) rfl (by decide)) ?_
    refine ARun.q1 rfl rfl (ql_pr0 (i := k) (b := 2) (tot := A.length) (by simp +decide only [go_sem] <;> simp) rfl rfl hAk) ?_
    refine goD ?_
    refine ARun.q1 rfl rfl (ql_ix2 (k := 1) (off := 0) (i0 := k) (b := 2) (tot := A.length) (by simp +decide only [go_sem] <;> simp) (fresh_qu (A := A) rfl rfl) rfl (by decide)) ?_
    refine ARun.q1 rfl rfl (ql_pr1 (i := k) (b := 2) (tot := A.length) (by simp +decide only [go_sem] <;> simp) rfl rfl hAk) ?_
    refine goD ?_
    have hal := ha.al
    have hbl := hb.al
    have hma : (aa.map AV.bool).length = aa.length := List.length_map _
    have hmb : (ab.map AV.bool).length = ab.length := List.length_map _
    refine drA (k := 11) follows (hr := ?_)
    refine goD ?_
    rw [nth_at (acs := aa) (k := p) (by omega)]
    refine goD ?_
    rw [nth_at (acs := ab) (k := q) (by omega)]
    refine goC ?_
    by_cases hne : ¬ acR aa p = acR ab q
    · refine ift_ ?_ ?_ rfl
      rotate_left
      · simp [hne]
      refine goC ?_
      have hd : (decide (∀ p ∈ (X (ra.length * rb.length)).1, acR aa p.1 = acR ab p.2)) = false := decide_eq_false fun h => hne (h (p, q) (hsub _ hmem))
      exact Ret.bool rfl (by rw [hd])
    have hne : acR aa p = acR ab q := Classical.not_not.1 hne
    refine iff_ ?_ ?_ rfl
    rotate_left
    · simp [hne]
    have hrp : nth default ra (p : Int) = ra[p] := nth_eq hp1
    have hwp := ha.wd _ (List.getElem_mem hp1)
    have hwq := hb.wd _ (List.getElem_mem hp2)
    have hep : ra.getD p [] = ra[p] := by rw [List.getD_eq_getElem?_getD, List.getElem?_eq_getElem hp1]; rfl
    have heq : rb.getD q [] = rb[q] := by rw [List.getD_eq_getElem?_getD, List.getElem?_eq_getElem hp2]; rfl
    have hgp : (ra.map nL)[p]? = some (nL ra[p]) := by rw [List.getElem?_map, List.getElem?_eq_getElem hp1]; rfl
    have hgq : (rb.map nL)[q]? = some (nL rb[q]) := by rw [List.getElem?_map, List.getElem?_eq_getElem hp2]; rfl
    have hdB := hdB (p, q)
    simp only [hep, heq] at hdB
    generalize ra[p] = rp at *
    generalize rb[q] = rq at *
    have hmra : (ra.map nL).length = ra.length := List.length_map _
    have hmrb : (rb.map nL).length = rb.length := List.length_map _
    have hmp : (rp.map fun x : Nat => AV.int x).length = nk := by rw [List.length_map]; exact hwp
    generalize hR : (fun j => (rowX (δ (p, q)) ((List.range nk).take j) A []).1) = R
    have hR0 : R 0 = A := by rw [← hR]; rfl
    have hRn : R nk = (X (k + 1)).1 := by rw [hns, ← hR]; simp only; rw [List.take_of_length_le (by simp)]
    have hRs : ∀ j, j < nk → R (j + 1) = addN (R j) (rp.getD j 0, rq.getD j 0) := fun j hj => by
      rw [← hR]; simp only
      rw [List.take_succ_eq_append_getElem (by simpa using hj), rowX_snoc']
      simp only [List.getElem_range, hdB]
    have hRl : ∀ j, j ≤ nk → (R j).length ≤ 300000095 := fun j hj => by
      have := rowX_len (δ (p, q)) A j ((List.range nk).take j) (by simp; omega)
      rw [← hR]; simp only; omega
    clear hR
    refine goC ?_
    refine AWp.loop (J := fun j : Nat => j ≤ nk) (fun j => ⟨[(2, .ptr 0 1 0 0), (3, .ptr 1 1 0 0), (5, .own 2 (R j).length 0 (R j).length), (6, .int k), (7, .int p), (8, .int q), (9, .int j)], [bxA ra aa, bxA rb ab, quB (R j)]⟩) (fun j => nk - j) 0 (Nat.zero_le _) (by rw [hR0]; exact .wf) ?_
    intro j hj
    have hRs := hRs j
    have hRl := hRl j hj
    generalize hD : R j = D at *
    refine goD ?_
    rw [hrp]
    refine goD ?_
    refine ifA (fun hc2 => ?_) (fun hc2 => ?_)
    · have hc2 := of_decide_eq_true hc2
      have hc2 : j < nk := by omega
      have hRs := hRs hc2
      refine goC ?_
      have hgx : (rp.map iN)[j]? = some (iN (rp.getD j 0)) := by rw [List.getElem?_map, List.getElem?_eq_getElem (by omega), List.getD_eq_getElem?_getD, List.getElem?_eq_getElem (by omega)]; rfl
      have hgy : (rq.map iN)[j]? = some (iN (rq.getD j 0)) := by rw [List.getElem?_map, List.getElem?_eq_getElem (by omega), List.getD_eq_getElem?_getD, List.getElem?_eq_getElem (by omega)]; rfl
      generalize rp.getD j 0 = x at *
      generalize rq.getD j 0 = y at *
      with_reducible apply AWp.drawK (k := 18) [none, none, none, none, none, none, none, none, none, none, none, none, none, none, none, none, none, some 0] (fun c => match c with
        | 0 => [bxA ra aa, bxA rb ab, quB D]
        | _ => [bxA ra aa, bxA rb ab, quB D, ⟨43, 2, [.agg [.base (.int .i64 0), .base (.int .i64 0)]]⟩]) 1 follows
      · refine ⟨rfl, rfl, by kernel_rfl, by decide, ?_, ?_⟩
        · simp +decide only [go_sem, List.map, List.take]; rfl
        · simp +decide only [go_sem, List.map, List.drop]; rfl
      · kernel_rfl
      · rfl
      refine GRun.qf1 (v := .ptr 0 1 0 0) rfl rfl (by simp +decide only [go_sem] <;> rfl) (by simp +decide only [go_sem] <;> rfl) ?_
      refine GRun.qf1 (v := .lst (ra.map nL)) rfl rfl (by simp +decide only [go_sem] <;> rfl) (by simp +decide only [go_sem] <;> rfl) ?_
      refine GRun.qf1 (v := .int p) rfl rfl (by simp +decide only [go_sem] <;> rfl) (by simp +decide only [go_sem] <;> rfl) ?_
      refine GRun.q1 (v := .iptr (nL rp) 0) rfl rfl (fun d _ => ql_indexAddr_lst (by simp +decide only [go_sem] <;> rfl) (by simp +decide only [go_sem] <;> rfl) Try.underlying103 (by omega) (e := nL rp) (by simpa using hgp) (by kernel_rfl)) ?_
      refine GRun.qf1 (v := nL rp) rfl rfl (by simp +decide only [go_sem] <;> rfl) (by simp +decide only [go_sem] <;> rfl) ?_
      refine GRun.qf1 (v := .int j) rfl rfl (by simp +decide only [go_sem] <;> rfl) (by simp +decide only [go_sem] <;> rfl) ?_
      refine GRun.q1 (v := .iptr (iN x) 0) rfl rfl (fun d _ => ql_indexAddr_lst (es := rp.map iN) (by simp +decide only [go_sem] <;> rfl) (by simp +decide only [go_sem] <;> rfl) Try.underlying107 (by omega) (e := iN x) (by simpa using hgx) (by kernel_rfl)) ?_
      refine GRun.qf1 (v := iN x) rfl rfl (by simp +decide only [go_sem] <;> rfl) (by simp +decide only [go_sem] <;> rfl) ?_
      refine GRun.qf1 (v := .ptr 1 1 0 0) rfl rfl (by simp +decide only [go_sem] <;> rfl) (by simp +decide only [go_sem] <;> rfl) ?_
      refine GRun.qf1 (v := .lst (rb.map nL)) rfl rfl (by simp +decide only [go_sem] <;> rfl) (by simp +decide only [go_sem] <;> rfl) ?_
      refine GRun.qf1 (v := .int q) rfl rfl (by simp +decide only [go_sem] <;> rfl) (by simp +decide only [go_sem] <;> rfl) ?_
      refine GRun.q1 (v := .iptr (nL rq) 0) rfl rfl (fun d _ => ql_indexAddr_lst (by simp +decide only [go_sem] <;> rfl) (by simp +decide only [go_sem] <;> rfl) Try.underlying103 (by omega) (e := nL rq) (by simpa using hgq) (by kernel_rfl)) ?_
      refine GRun.qf1 (v := nL rq) rfl rfl (by simp +decide only [go_sem] <;> rfl) (by simp +decide only [go_sem] <;> rfl) ?_
      refine GRun.qf1 (v := .int j) rfl rfl (by simp +decide only [go_sem] <;> rfl) (by simp +decide only [go_sem] <;> rfl) ?_
      refine GRun.q1 (v := .iptr (iN y) 0) rfl rfl (fun d _ => ql_indexAddr_lst (es := rq.map iN) (by simp +decide only [go_sem] <;> rfl) (by simp +decide only [go_sem] <;> rfl) Try.underlying107 (by omega) (e := iN y) (by simpa using hgy) (by kernel_rfl)) ?_
      refine GRun.qf1 (v := iN y) rfl rfl (by simp +decide only [go_sem] <;> rfl) (by simp +decide only [go_sem] <;> rfl) ?_
      refine GRun.q1 (v := .agg [.int x, .int y]) rfl rfl (fun d _ => ql_buildA Try.underlying43 sz3 zero43 (by simp +decide only [go_sem, placesA_2, List.map] <;> rfl)) ?_
      refine GRun.p1 (v := .ptr 3 1 0 0) rfl rfl (fun ρ' h => pl_alloc (H := [bxA ra aa, bxA rb ab, quB D]) zero43 rfl (by decide)) ?_
      refine GRun.nil ?_
      refine rcA ?_
      refine goC ?_
      have hDl2 : D.length ≤ 300000095 := hRl
      have hmD : (D.map encP).length = D.length := List.length_map _
      refine AWp.loop (X := Nat × Bool) (J := fun s => s.1 ≤ D.length ∧ (s.2 = true ↔ (x, y) ∈ D.take s.1)) (fun s => ⟨[(2, .ptr 0 1 0 0), (3, .ptr 1 1 0 0), (5, .own 2 D.length 0 D.length), (6, .int k), (7, .int p), (8, .int q), (9, .int j), (10, .ptr 3 1 0 0), (11, .bool s.2), (12, .int s.1)], [bxA ra aa, bxA rb ab, quB D, ⟨43, 2, [encP (x, y)]⟩]⟩) (fun s => D.length - s.1) (0, false) ⟨Nat.zero_le _, by simp⟩ .wf ?_
      rintro ⟨i, f⟩ ⟨hi, hif⟩
      simp only at hi hif ⊢
      refine goD ?_
      refine ifA (fun hd => ?_) (fun hd => ?_)
      · have hd : i < D.length ∧ f = false := by
          simp at hd
          exact hd
        obtain ⟨hi2, rfl⟩ := hd
        have hts := List.take_succ_eq_append_getElem hi2
        have hnD : nth 0 D (i : Int) = D[i] := nth_eq hi2
        refine goC ?_
        refine drA (k := 7) follows (hr := ?_)
        refine goD ?_
        rw [hnD]
        generalize D[i] = de at *
        obtain ⟨d1, d2⟩ := de
        refine ARun.q1 rfl rfl (ql_eq_arr (la := [((d1 : Nat) : Int), ((d2 : Nat) : Int)]) (lb := [((x : Nat) : Int), ((y : Nat) : Int)]) (by simp +decide only [go_sem, List.map] <;> rfl) (by simp +decide only [go_sem, List.map] <;> rfl) Try.underlying43 Try.underlying3 sz3 agg3 rfl rfl (by kernel_rfl)) ?_
        refine goC ?_
        rw [wrap_succ (by omega)]
        refine ⟨(i + 1, decide ([((d1 : Nat) : Int), ((d2 : Nat) : Int)] = [((x : Nat) : Int), ((y : Nat) : Int)])), ⟨hi2, ?_⟩, by simp only; omega, .wf⟩
        simp only [Bool.false_eq_true, false_iff] at hif
        simp only [hts, List.mem_append, List.mem_singleton, hif, false_or, decide_eq_true_eq]
        simp [Prod.ext_iff]; omega
      · have hin : f = true ↔ (x, y) ∈ D := by
          cases f with
          | true => exact ⟨fun _ => List.mem_of_mem_take (hif.1 rfl), fun _ => rfl⟩
          | false =>
            have : D.length ≤ i := by
              simp at hd
              omega
            rw [List.take_of_length_le this] at hif
            exact hif
        clear hif hd
        refine goC ?_
        by_cases hm : (x, y) ∈ D
        · obtain rfl : f = true := hin.2 hm
          rw [addN_old hm] at hRs
          refine iff_ ?_
          refine goC ?_
          rw [wrap_succ (by omega)]
          refine ⟨j + 1, hc2, by omega, ?_⟩
          simp only [hRs]
          exact Wk.tf 3 (pubB (.cons (PuB_bxA _ _) (.cons (PuB_bxA _ _) (.cons (PuB_quB _) .nil))))
        · obtain rfl : f = false := by
            cases f with
            | false => rfl
            | true => exact absurd (hin.1 rfl) hm
          rw [addN_new hm] at hRs
          refine ift_ ?_
          refine goD ?_
          refine ARun.p1 rfl rfl (pl_append (b := 2) (tot := D.length) (es := [encP (x, y)]) (by simp +decide only [go_sem] <;> rfl) (by simp +decide only [go_sem] <;> rfl) rfl (by simp) Try.underlying40 el43 rfl rfl (by simp) (fun e he => by rw [List.mem_singleton] at he; subst he; exact ⟨rfl, rfl⟩) (by simp; omega) (by simp; omega)) ?_
          rw [show D.map encP ++ [encP (x, y)] = (D ++ [(x, y)]).map encP by rw [List.map_append]; rfl]
          refine goC ?_
          rw [wrap_succ (by omega)]
          refine ⟨j + 1, hc2, by omega, ?_⟩
          simp only [hRs, List.length_append, List.length_cons, List.length_nil]
          exact Wk.tf 3 (pubB (.cons (PuB_bxA _ _) (.cons (PuB_bxA _ _) (.cons (PuB_quB _) .nil))))
    have hc2 := of_decide_eq_false hc2
    obtain rfl : j = nk := by omega
    refine AWp.exit ?_
    repeat (with_reducible apply thenQ_e)
    refine blkQ_e ?_
    refine goC ?_
    rw [wrap_succ (by omega)]
    obtain ⟨t, ht⟩ := hpre 1
    rw [hD] at hRn
    refine ⟨k + 1, ⟨by rw [ht]; simp; omega, fun i p' hi hp' => ?_⟩, by omega, ?_⟩
    · rw [ht, List.getElem?_append_left (by omega)] at hp'
      rcases Nat.lt_or_ge i k with h | h
      · exact hag i p' h hp'
      · obtain rfl : i = k := by omega
        rw [hAk] at hp'; injection hp' with hp'; subst hp'
        exact hne
    · rw [← hRn]
      exact .wf
  have hc := of_decide_eq_false hc
  have hkA : k = A.length := by omega
  have hXN : (X (ra.length * rb.length)).1 = A := by rw [hfin (by omega), hA]
  have hd : (decide (∀ p ∈ (X (ra.length * rb.length)).1, acR aa p.1 = acR ab p.2)) = true := decide_eq_true fun p hp => by
    rw [hXN] at hp
    obtain ⟨i, hi, rfl⟩ := List.getElem_of_mem hp
    exact hag i _ (by omega) (List.getElem?_eq_getElem hi)
  refine AWp.exit ?_
  repeat (with_reducible apply thenQ_e)
  refine blkQ_e (thenQ_n ?_)
  refine goC ?_
  exact Ret.bool rfl (by rw [hd])
end Go.Ab
set_option maxHeartbeats 4000000
namespace Go.Ab
open Go Go.Ab Go.Proofs
theorem sameR_ok {g : Fin 95 → Nat} {nk : Nat} {La Lb : Lg} {a b : Mb} (ha : MbOk g nk La a) (hb : MbOk g nk Lb b) : sameR nk a b = true ↔ ∀ w, La w ↔ Lb w := by
  have hl := xsB_len ha.gm hb.gm (a.1.length * b.1.length)
  have hF := xs_fin (δ := dB a b) (gs := List.range nk) (s0 := (0, 0)) (K := a.1.length * b.1.length) hl
  have hgl : ∀ x : Fin 95, g x < (List.range nk).length := fun x => by rw [List.length_range]; exact ha.gm.gk x
  have hgs : ∀ x, x < (List.range nk).length → ∃ a, g a = x := fun x hx => ha.gm.sur x (by rwa [List.length_range] at hx)
  have hd : ∀ s ∈ (xsB a b nk (a.1.length * b.1.length)).1, ∀ x : Fin 95, ∃ k, (List.range nk)[g x]? = some k ∧ dB a b s k = (fun (p : Nat × Nat) (x : Fin 95) => (stR g a.1 p.1 x, stR g b.1 p.2 x)) s x := fun s _ x =>
    ⟨g x, List.getElem?_range (ha.gm.gk x), rfl⟩
  have hfold : ∀ (w : Wd) (p : Nat × Nat), w.foldl (fun (p : Nat × Nat) (x : Fin 95) => (stR g a.1 p.1 x, stR g b.1 p.2 x)) p = (dr (stR g a.1) p.1 w, dr (stR g b.1) p.2 w) := by
    intro w
    induction w with
    | nil => intro p; rfl
    | cons x w ih => intro p; rw [List.foldl_cons, ih]; rfl
  have hR := hF.rd hgl hgs hd (A := fun p => acR a.2 p.1 != acR b.2 p.2) (L := fun w => ¬ (La w ↔ Lb w)) (fun w => by
    rw [hfold]
    simp only [bne_iff_ne, ne_eq]
    rw [← ha.lm.lang w, ← hb.lm.lang w]
    cases acR a.2 (dr (stR g a.1) 0 w) <;> cases acR b.2 (dr (stR g b.1) 0 w) <;> simp)
  have hlen : (xsB a b nk (a.1.length * b.1.length)).2.length = (xsB a b nk (a.1.length * b.1.length)).1.length := by unfold xsB; rw [hF.len]
  have hac : ∀ i (h : i < (xsB a b nk (a.1.length * b.1.length)).1.length), acR ((xsB a b nk (a.1.length * b.1.length)).1.map fun p => acR a.2 p.1 != acR b.2 p.2) i = (acR a.2 (xsB a b nk (a.1.length * b.1.length)).1[i].1 != acR b.2 (xsB a b nk (a.1.length * b.1.length)).1[i].2) := fun i h => by
    unfold acR
    rw [List.getD_eq_getElem?_getD, List.getElem?_map, List.getElem?_eq_getElem h]; rfl
  unfold sameR
  rw [decide_eq_true_eq]
  generalize hX : xsB a b nk (a.1.length * b.1.length) = X at *
  have hR' : Rd (fun w => ¬ (La w ↔ Lb w)) X.2.length (stR g X.2) (acR (X.1.map fun p => acR a.2 p.1 != acR b.2 p.2)) := by
    unfold xsB at hX; rw [hX] at hR; exact hR
  constructor
  · intro h w
    refine Classical.not_not.1 fun hn => ?_
    have h1 := (hR'.lang w).2 hn
    have h2 := dr_lt hR'.cl w 0 hR'.pos
    rw [hac _ (by omega)] at h1
    have := h _ (List.getElem_mem (by omega : dr (stR g X.2) 0 w < X.1.length))
    rw [this] at h1
    simp at h1
  · intro h p hp
    obtain ⟨i, hi, rfl⟩ := List.getElem_of_mem hp
    obtain ⟨w, hw⟩ := hR'.reach i (by omega)
    have h1 := hR'.lang w
    rw [hw, hac i hi] at h1
    have h2 := fun e => h1.1 e (h w)
    refine Classical.not_not.1 fun hn => h2 ?_
    simp [hn]
end Go.Ab
set_option maxHeartbeats 4000000
namespace Go.Ab
open Go Go.Ab Go.Proofs Go.Ab.Ty

theorem ql_ldStr {H : List ABlk} {ρ : Operand → AV} {x : Operand} {b tot i : Nat} {A : List ByteArray} {S : ByteArray} (hx : ρ x = .ptr b tot i 0) (hb : H[b]? = some (stS A)) (ht : A.length = tot) (he : A[i]? = some S) : QL Try.prog H ρ (.load 9 x) (str S) := by
  refine ql_fun1 ?_
  simp only [qfun, hx, hb, List.length_map, ht, if_true, List.getElem?_map, he, Option.map_some, agg9, sz9, ldE, AV.cells, List.getElem?_cons_zero]
open Classical in
theorem kindsO_ok (L : List ByteArray) (hL : L.length ≤ 100000) (hs : ∀ S ∈ L, S.size ≤ maxLen) : FnH Try.prog 84 [.own 0 L.length 0 L.length] [stS L] (.tup [.lst ((fsN (keyB L) 95).map bu), nL (mnK (keyB L) 95)]) [stS L] := by
  have hhas := fun (S : ByteArray) (h : S ∈ L) (c : UInt8) => has_ok (hs S h) c
  generalize hK : keyB L = K at *
  refine FnH.intro' [(0, .own 0 L.length 0 L.length)] 1 69 1 Try.func84 (by kernel_rfl) rfl rfl rfl rfl rfl rfl ?_
  have hKe : ∀ i j, K i = K j ↔ ∀ S ∈ L, (isIn S (UInt8.ofNat (32 + i)) ↔ isIn S (UInt8.ofNat (32 + j))) := fun i j => by rw [← hK]; exact keyB_iff
  clear hK
  refine goA ?_
  refine AWp.weaken (Wk.nil (E2 := [(0, .own 0 L.length 0 L.length), (4, .own 1 0 0 0), (5, .base (.slice none 0 0)), (6, .base (.int .u8 32))]) 5 1 (by intro p hp; simp only [List.mem_cons, List.not_mem_nil, or_false] at hp; rcases hp with rfl | rfl | rfl | rfl; exact .inl (Le.refl _); exact .inr ⟨rfl, rfl⟩; exact .inl (Le.refl _); exact .inl (Le.refl _))) ?_
  refine AWp.weaken (Wk.nil (E2 := [(0, .own 0 L.length 0 L.length), (4, .own 1 0 0 0), (5, .own 2 0 0 0), (6, .base (.int .u8 32))]) 3 1 (by intro p hp; simp only [List.mem_cons, List.not_mem_nil, or_false] at hp; rcases hp with rfl | rfl | rfl | rfl; exact .inl (Le.refl _); exact .inl (Le.refl _); exact .inr ⟨rfl, rfl⟩; exact .inl (Le.refl _))) ?_
  refine AWp.loop (J := fun i : Nat => i ≤ 95) (fun i => ⟨[(0, .own 0 L.length 0 L.length), (4, .own 1 (fsN K i).length 0 (fsN K i).length), (5, .own 2 (mnK K i).length 0 (mnK K i).length), (6, bu i)], [stS L, fsB (fsN K i), mnB (mnK K i)]⟩) (fun i => 95 - i) 0 (Nat.zero_le _) .wf ?_
  intro i hi
  have hbi := bu_nat hi
  have hfl := fsN_len K i
  have hfx := fsN_lt K i
  have hml := mnK_len K i
  have hnew := mnK_new K (i := i)
  have hold := mnK_old K (i := i)
  have hgo := grN_old K i
  have hgn := grN_new K i
  have hgq := fun x (hx : x < (fsN K i).length) h => grN_eq K hx h
  have hbw : i < 95 → IntKind.wrap .u8 (((UInt8.ofNat (32 + i)).toNat : Int) + 1) = ((UInt8.ofNat (32 + (i + 1))).toNat : Int) := fun h => by
    rw [hbi, bu_nat (i := i + 1) (by omega)]
    simp only [IntKind.wrap, IntKind.signed, IntKind.bits]
    simp
    omega
  have hfs1 : K i ∈ (fsN K i).map K → fsN K (i + 1) = fsN K i := fun h => by rw [fsN, if_pos h]
  have hfs2 : ¬ K i ∈ (fsN K i).map K → fsN K (i + 1) = fsN K i ++ [i] := fun h => by rw [fsN, if_neg h]
  have hmg := fun x (h : x < (fsN K i).length) => mnK_get K h
  have hcl := fun x => cnK_le K i x
  generalize hFe : fsN K i = F at *
  generalize hMe : mnK K i = M at *
  refine goD ?_
  refine ifA (fun hc => ?_) (fun hc => ?_)
  · have hc := of_decide_eq_true hc
    rw [hbi] at hc
    have hi2 : i < 95 := by omega
    refine goD ?_
    refine AWp.loop (X := Nat × Int) (J := fun p => p.1 ≤ F.length ∧ ((p.2 = -1 ∧ ∀ x (h : x < F.length), x < p.1 → K F[x] ≠ K i) ∨ ∃ x, ∃ h : x < F.length, p.2 = x ∧ K F[x] = K i)) (fun p => ⟨[(0, .own 0 L.length 0 L.length), (4, .own 1 F.length 0 F.length), (5, .own 2 M.length 0 M.length), (6, bu i), (7, .int p.2), (8, .int p.1)], [stS L, fsB F, mnB M]⟩) (fun p => F.length - p.1) (0, -1) ⟨Nat.zero_le _, .inl ⟨rfl, fun x h h' => by omega⟩⟩ .wf ?_
    rintro ⟨k, e⟩ ⟨hk, hke⟩
    simp only at hk hke ⊢
    refine goA ?_
    refine ifA (fun hd => ?_) (fun hd => ?_)
    · have hd : k < F.length ∧ e < 0 := by
        simp at hd
        omega
      obtain ⟨hk2, he⟩ := hd
      have hke : ∀ x (h : x < F.length), x < k → K F[x] ≠ K i := by
        rcases hke with h | ⟨x, _, h, _⟩
        · exact h.2
        · omega
      have hF := hfx F[k] (List.getElem_mem hk2)
      have hnF : nth default F (k : Int) = F[k] := nth_eq hk2
      have hKk := hKe F[k] i
      rw [show bu i = AV.u8 (UInt8.ofNat (32 + i)) from rfl]
      generalize UInt8.ofNat (32 + i) = c at *
      obtain ⟨P, hP⟩ : ∃ P : Nat → Prop, P = fun j => ∀ S ∈ L.take j, (isIn S c ↔ isIn S (UInt8.ofNat (32 + F[k]))) := ⟨_, rfl⟩
      have hP0 : P 0 := by rw [hP]; simp
      have hPs : ∀ j (h : j < L.length), P (j + 1) ↔ (P j ∧ (isIn L[j] c ↔ isIn L[j] (UInt8.ofNat (32 + F[k])))) := fun j h => by
        rw [hP]
        simp only [List.take_succ_eq_append_getElem h, List.mem_append, List.mem_singleton]
        constructor
        · intro h2; exact ⟨fun S hS => h2 S (.inl hS), h2 _ (.inr rfl)⟩
        · rintro ⟨h2, h3⟩ S (hS | rfl)
          · exact h2 S hS
          · exact h3
      have hPe : P L.length ↔ K F[k] = K i := by
        rw [hP, hKk]
        simp only [List.take_length]
        exact ⟨fun h S hS => (h S hS).symm, fun h S hS => (h S hS).symm⟩
      clear hP
      generalize hfk : F[k] = f at *
      refine goA ?_
      refine AWp.loop (J := fun j : Nat => j ≤ L.length) (fun j => ⟨[(0, .own 0 L.length 0 L.length), (4, .own 1 F.length 0 F.length), (5, .own 2 M.length 0 M.length), (6, AV.u8 c), (7, .int e), (8, .int k), (9, .bool (decide (P j))), (10, .int j)], [stS L, fsB F, mnB M]⟩) (fun j => L.length - j) 0 (Nat.zero_le _) (by rw [decide_eq_true hP0]; exact .wf) ?_
      intro j hj
      have hms : (L.map str).length = L.length := List.length_map _
      refine goA ?_
      refine ifA (fun hd2 => ?_) (fun hd2 => ?_)
      · have hd2 := of_decide_eq_true hd2
        have hj2 : j < L.length := by omega
        have hPs := hPs j hj2
        have hnL : nth default L (j : Int) = L[j] := nth_eq hj2
        have i1 := hhas L[j] (List.getElem_mem hj2) c
        have i2 := hhas L[j] (List.getElem_mem hj2) (UInt8.ofNat (32 + f))
        refine goA ?_
        refine drA (k := 19) follows (hr := ?_)
        refine goA ?_
        refine gqA (h := fun hg => ql_indexAddr_own (by simp +decide only [go_sem] <;> rfl) (by simp +decide only [go_sem] <;> rfl) Try.underlying50 (by rfl) (by simp) (by omega) (by omega) (by kernel_rfl)) (hr := ?_)
        refine gqA (v := str L[j]) (h := ?_) (hr := ?_)
        · intro hg
          exact ql_ldStr (b := 0) (tot := L.length) (i := j) (A := L) (S := L[j]) (by simp +decide only [go_sem] <;> simp) rfl rfl (List.getElem?_eq_getElem hj2)
        refine goA ?_
        refine gcallA (i := fun hg => i1) (hr := ?_)
        refine goA ?_
        refine gqA (h := fun hg => ql_indexAddr_own (by simp +decide only [go_sem] <;> rfl) (by simp +decide only [go_sem] <;> rfl) Try.underlying50 (by rfl) (by simp) (by omega) (by omega) (by kernel_rfl)) (hr := ?_)
        refine gqA (v := str L[j]) (h := ?_) (hr := ?_)
        · intro hg
          exact ql_ldStr (b := 0) (tot := L.length) (i := j) (A := L) (S := L[j]) (by simp +decide only [go_sem] <;> simp) rfl rfl (List.getElem?_eq_getElem hj2)
        refine goA ?_
        refine gqA (h := fun hg => ql_indexAddr_own (by simp +decide only [go_sem] <;> rfl) (by simp +decide only [go_sem] <;> rfl) Try.underlying32 (by rfl) (by simp) (by omega) (by omega) (by kernel_rfl)) (hr := ?_)
        refine gqA (h := fun hg => qw (l := F) (f := bu) (v := bu f) (default : Nat) (k : Int) (by simp +decide only [go_sem] <;> rfl) rfl (by simp) ⟨rfl, by omega⟩ (by rw [hnF, agg5, sz5]; rfl)) (hr := ?_)
        refine goA ?_
        refine gcallA (i := fun hg => i2) (hr := ?_)
        refine goA ?_
        rw [wrap_succ (by omega)]
        refine ⟨j + 1, by omega, by omega, ?_⟩
        have hdc : (bif decide (P j) then decide (decide (isIn L[j] c) = decide (isIn L[j] (UInt8.ofNat (32 + f)))) else false) = decide (P (j + 1)) := by
          rw [Bool.eq_iff_iff]
          simp only [decide_eq_true_eq, hPs]
          by_cases hp : P j <;> simp [hp]
        rw [← hdc]
        exact .wf
      · have hd2 := of_decide_eq_false hd2
        obtain rfl : j = L.length := by omega
        refine goA ?_
        refine ifA (fun hm => ?_) (fun hm => ?_)
        · have hm := hPe.1 (of_decide_eq_true hm)
          refine goA ?_
          rw [wrap_succ (by omega)]
          exact ⟨(k + 1, k), ⟨by simp only; omega, .inr ⟨k, hk2, rfl, by rw [hfk]; exact hm⟩⟩, by simp only; omega, .wf⟩
        · have hm := fun h => of_decide_eq_false hm (hPe.2 h)
          refine goA ?_
          rw [wrap_succ (by omega)]
          refine ⟨(k + 1, e), ⟨by simp only; omega, .inl ⟨by omega, fun x h h' => ?_⟩⟩, by simp only; omega, .wf⟩
          rcases Nat.lt_or_ge x k with hx | hx
          · exact hke x h hx
          · obtain rfl : x = k := by simp only at h'; omega
            rw [hfk]; exact hm
    · have hcase : (e = -1 ∧ ¬ K i ∈ F.map K) ∨ ∃ x, ∃ h : x < F.length, e = x ∧ K F[x] = K i := by
        rcases hke with ⟨h1, h2⟩ | h
        · left
          refine ⟨h1, fun h => ?_⟩
          obtain ⟨y, hy, hyk⟩ := List.mem_map.1 h
          obtain ⟨x, hx, rfl⟩ := List.getElem_of_mem hy
          have hkF : F.length ≤ k := by
            subst h1
            simp at hd
            omega
          exact h2 x hx (by omega) hyk
        · exact .inr h
      clear hke hd
      have hcc := hcl
      rcases hcase with ⟨rfl, hni⟩ | ⟨x, hx, rfl, hxk⟩
      · refine goA ?_
        refine ift_ ?_
        refine goA ?_
        refine ARun.q1 rfl rfl (ql_buildSlice (es := [bu i]) (by decide) Try.underlying32 sz5 (by kernel_rfl) (by decide) (by simp +decide only [List.map, go_sem] <;> rfl) (by simp +decide only [List.map, go_sem] <;> rfl) rfl) ?_
        refine ARun.p1 rfl rfl (pl_append (b := 1) (tot := F.length) (es := [bu i]) (by simp +decide only [go_sem] <;> rfl) (by simp +decide only [go_sem] <;> rfl) rfl (by simp) Try.underlying32 el5 rfl rfl (by simp) (fun e he => by rw [List.mem_singleton] at he; subst he; exact ⟨rfl, rfl⟩) (by simp; omega) (by simp; omega)) ?_
        rw [show F.map bu ++ [bu i] = (F ++ [i]).map bu by rw [List.map_append]; rfl]
        refine goA ?_
        refine ARun.q1 rfl rfl (ql_buildSlice (es := [.int 1]) (by decide) Try.underlying107 sz3 (by kernel_rfl) (by decide) (by simp +decide only [List.map, go_sem] <;> rfl) (by simp +decide only [List.map, go_sem] <;> rfl) rfl) ?_
        refine ARun.p1 rfl rfl (pl_append (b := 2) (tot := M.length) (es := [.int 1]) (by simp +decide only [go_sem] <;> rfl) (by simp +decide only [go_sem] <;> rfl) rfl (by simp) Try.underlying107 el3 rfl rfl (by simp) (fun e he => by rw [List.mem_singleton] at he; subst he; exact ⟨rfl, rfl⟩) (by simp; omega) (by simp; omega)) ?_
        rw [show M.map iN ++ [.int 1] = (M ++ [1]).map iN by rw [List.map_append]; rfl]
        refine goA ?_
        rw [hbw hi2]
        refine ⟨i + 1, by omega, by omega, ?_⟩
        simp only [hfs2 hni, hnew hni, List.length_append, List.length_cons, List.length_nil]
        exact .wf
      · refine goA ?_
        refine iff_ (b := decide ((x : Int) < 0)) ?_ (by rw [decide_eq_false_iff_not]; omega)
        refine goA ?_
        have hmem : K i ∈ F.map K := List.mem_map.2 ⟨F[x], List.getElem_mem hx, hxk⟩
        have hgx : grN K i = x := hgq x hx hxk
        have hmx := hmg x hx
        have hnM : nth default M (x : Int) = cnK K i x := by
          rw [nth_eq (by omega : x < M.length)]
          exact (List.getElem?_eq_some_iff.1 hmx).2
        have hold := hold hmem
        rw [hgx] at hold
        have hcc := hcc x
        refine ARun.q1 rfl rfl (ql_indexAddr_own (by simp +decide only [go_sem] <;> rfl) (by simp +decide only [go_sem] <;> rfl) Try.underlying107 (by rfl) (by simp) (by omega) (by omega) (by kernel_rfl)) ?_
        refine ARun.q1 rfl rfl (qw (l := M) (f := iN) (v := iN (cnK K i x)) (default : Nat) (x : Int) (by simp +decide only [go_sem] <;> rfl) rfl (by simp) ⟨rfl, by omega⟩ (by rw [hnM, agg3, sz3]; rfl)) ?_
        generalize cnK K i x = cx at *
        refine rcA ?_
        rw [wrap_succ (by omega)]
        refine ARun.p1 rfl rfl (pl_store_own (b := 2) (tot := M.length) (ty := 3) (sz := 1) (l := M) (f := iN) (i := x) (cx + 1) (by simp +decide only [go_sem] <;> simp) (by simp +decide only [go_sem] <;> rfl) rfl rfl (by omega) sz3 rfl rfl) ?_
        rw [← hold]
        refine goA ?_
        rw [hbw hi2]
        refine ⟨i + 1, by omega, by omega, ?_⟩
        have hl2 : (mnK K (i + 1)).length = M.length := by rw [hold, List.length_set]
        simp only [hfs1 hmem, hl2]
        exact .wf
  · have hc := of_decide_eq_false hc
    rw [hbi] at hc
    obtain rfl : i = 95 := by omega
    rw [hFe, hMe]
    refine goA ?_
    exact RetH.of (vs := [.own 1 F.length 0 F.length, .own 2 M.length 0 M.length]) [0] (by kernel_rfl) (by decide) (fun b hb => selG b hb) ⟨⟨_, rfl, .pu (PuBl_stS L _ (List.mem_singleton.2 rfl))⟩, trivial⟩ (PubR.tup' (show PubRL _ _ [_, _] [_, _] from ⟨PubR.ownM (f := bu) (l := F) rfl rfl rfl (fun x _ c hc => by simp only [AV.cells, List.mem_singleton] at hc; subst hc; exact .base _), PubR.ownM (f := iN) (l := M) rfl rfl rfl (fun x _ c hc => by simp only [AV.cells, List.mem_singleton] at hc; subst hc; exact .base _), trivial⟩))
end Go.Ab
set_option maxHeartbeats 4000000
namespace Go.Ab
open Go Go.Ab Go.Proofs Go.Ab.Ty

theorem FnH.nil0 {f : FuncId} {x d : AV} {H' : List ABlk} {ty sz : Nat} (h : FnH Try.prog f [x, .own 0 0 0 0] [⟨ty, sz, []⟩] d H') (hx : Pu x) : FnH Try.prog f [x, .base (.slice none 0 0)] [] d H' := by
  obtain ⟨g1, g4⟩ := h
  refine ⟨g1, fun w O ι vs hS hl hv => ?_⟩
  have hr : ∀ y, ¬ rng noB [(⟨ty, sz, []⟩ : ABlk)] y := fun y ⟨b, _, hb⟩ => by cases hb
  have hr2 : ∀ y, ¬ rng ι [] y := fun y ⟨b, hb, _⟩ => absurd hb (Nat.not_lt_zero _)
  have hS' : Sit ⟨w, rng noB [⟨ty, sz, []⟩], [⟨ty, sz, []⟩], noB⟩ O noB [⟨ty, sz, []⟩] w :=
    ⟨fun b blk x _ h => by (cases h), fun b blk h _ => by
      cases b with
      | zero => simp at h; subst h; rfl
      | succ b => simp at h, fun b b' x _ _ h => by (cases h), Bel.refl .., hS.old, fun x b _ _ h => by (cases h), .refl ..⟩
  refine (g4 w O noB vs hS' hl fun j a u ha hu => ?_).mono ?_
  · match j with
    | 0 =>
      simp at ha; subst ha
      refine (hx _ _ _ _ _ ((hv 0 x u rfl hu).lessO (O' := OO O noB [⟨ty, sz, []⟩]) fun y hy => ?_)).back
      rcases hy with hy | hy
      · exact .inl hy
      · exact absurd hy (hr y)
    | 1 =>
      simp at ha; subst ha
      have := (hv 1 _ u rfl hu).base_inv
      subst this
      exact .ownNil 0 ⟨ty, sz, []⟩ rfl rfl rfl
    | j + 2 => simp at ha
  · rintro e w' ⟨v, ι', rfl, hS2, hv2⟩
    have hb := hS2.below
    exact ⟨v, ι', rfl, ⟨fun b blk y h1 h2 => ⟨.inl (by
      rcases (hS2.heap b blk y h1 h2).1 with h | h
      · exact h
      · exact absurd h (hr y)), (hS2.heap b blk y h1 h2).2⟩, hS2.empt, hS2.inj, ⟨hb.os, hb.tape, hb.output, hb.size, fun k hk _ => hb.block k hk (hr k)⟩, hS2.old, hS2.disj, ⟨fun b blk h => by simp at h, fun b x blk blk' c ty fz h => by simp at h⟩⟩, hv2⟩
theorem setsO_ok (r : Rx) (hok : r.ok) (hc : r.cnt ≤ 900) : FnH Try.prog 85 [encX r, .base (.slice none 0 0)] [] (.own 0 (setsR r).length 0 (setsR r).length) [stS (setsR r)] := by
  have h := sets_ok r hok [] (by simp; omega)
  rw [List.nil_append] at h
  refine FnH.nil0 h ?_
  obtain ⟨o, S, l⟩ := r
  rw [encX_mk]
  exact .agg fun c hc => by
    simp only [List.mem_cons, List.not_mem_nil, or_false] at hc
    rcases hc with rfl | rfl | rfl
    · exact .base _
    · exact .base _
    · exact Pu_mapX l
end Go.Ab
set_option maxHeartbeats 4000000
namespace Go.Ab
open Go Go.Ab Go.Proofs Go.Ab.Ty

noncomputable def gs2 (a b : Rx) : List UInt8 := gsB (keyB (setsR a ++ setsR b))
noncomputable def eqR (a b : Rx) : Bool × Int := if 200 < (mcR (gs2 a b) a).2.length ∨ 200 < (mcR (gs2 a b) b).2.length then (false, 2) else (sameR (gs2 a b).length (mcR (gs2 a b) a) (mcR (gs2 a b) b), 0)
def al8 : List Nat := List.range 8
def al4 : List Nat := List.range 4
theorem Pu_ipX (o : Int) (S : ByteArray) (l : List Rx) : Pu (.iptr (.agg [.int o, str S, .lst (l.map encX)]) 0) := .iptr fun c hc => by
  simp only [AV.cells, List.mem_cons, List.not_mem_nil, or_false] at hc
  rcases hc with rfl | rfl | rfl
  · exact .base _
  · exact .base _
  · exact Pu_mapX l
@[simp] theorem Pu_mb (rows : List (List Nat)) (acs : List Bool) : Pu (.agg [.lst (rows.map nL), lB acs]) := .agg fun c hc => by
  simp only [List.mem_cons, List.not_mem_nil, or_false] at hc
  rcases hc with rfl | rfl
  · exact Pu_rowsN rows
  · exact Pu_lB acs
theorem equalR_ok (a b : Rx) (hwa : a.wf) (hwb : b.wf) (hxa : a.fixed) (hxb : b.fixed) (hoa : a.ok) (hob : b.ok) : Fn Try.prog 46 [encX a, encX b] (.tup [.bool (eqR a b).1, .int (eqR a b).2]) := by
  have hsz : ∀ S ∈ setsR a ++ setsR b, S.size ≤ maxLen := fun S hS => by
    rcases List.mem_append.1 hS with h | h
    · exact setsR_size a hoa S h
    · exact setsR_size b hob S h
  have hla := setsR_len a
  have hlb := setsR_len b
  have hca := hxa.1
  have hcb := hxb.1
  have i1 := setsO_ok a hoa (by omega)
  have i2 := sets_ok b hob (setsR a) (by omega)
  have i3 := kindsO_ok (setsR a ++ setsR b) (by rw [List.length_append]; omega) hsz
  rw [bu_gsB] at i3
  have hgp := gsB_pos (keyB (setsR a ++ setsR b))
  have j1 := Fn.ofH (machB_ok (Ss := setsR a ++ setsR b) rfl hgp.1 hgp.2 a hwa hxa.2 hoa hxa.1 (fun S h => List.mem_append_left _ h) (setsR_size a hoa)) (d2 := .agg [.lst ((mcR (gsB (keyB (setsR a ++ setsR b))) a).1.map nL), lB (mcR (gsB (keyB (setsR a ++ setsR b))) a).2]) (.agg' ⟨.pu (Pu_rowsN _), .ownM (f := AV.bool) rfl rfl rfl (Pu_bools _), trivial⟩)
  have j2 := Fn.ofH (machB_ok (Ss := setsR a ++ setsR b) rfl hgp.1 hgp.2 b hwb hxb.2 hob hxb.1 (fun S h => List.mem_append_right _ h) (setsR_size b hob)) (d2 := .agg [.lst ((mcR (gsB (keyB (setsR a ++ setsR b))) b).1.map nL), lB (mcR (gsB (keyB (setsR a ++ setsR b))) b).2]) (.agg' ⟨.pu (Pu_rowsN _), .ownM (f := AV.bool) rfl rfl rfl (Pu_bools _), trivial⟩)
  obtain ⟨k1, k2⟩ := mcR_ok (Ss := setsR a ++ setsR b) a hwa hxa.2 (fun S h => List.mem_append_left _ h)
  obtain ⟨k3, k4⟩ := mcR_ok (Ss := setsR a ++ setsR b) b hwb hxb.2 (fun S h => List.mem_append_right _ h)
  have hal1 := k1.gm.al
  have hal2 := k3.gm.al
  have j3 := fun hN => same_ok _ _ k1.gm k3.gm hgp.1 hgp.2 hN
  unfold eqR gs2
  clear k1 k2 k3 k4 hla hlb hsz hgp
  generalize gsB (keyB (setsR a ++ setsR b)) = gs at *
  generalize mnK (keyB (setsR a ++ setsR b)) 95 = ns at *
  generalize mcR gs a = ma at *
  generalize mcR gs b = mb at *
  generalize setsR a = A at *
  generalize setsR b = B at *
  obtain ⟨o, S, l⟩ := a
  obtain ⟨o', S', l'⟩ := b
  rw [encX_mk] at i1 i2 j1 j2 ⊢
  rw [encX_mk]
  refine Fn.intro' [(0, .agg [.int o, str S, .lst (l.map encX)]), (1, .agg [.int o', str S', .lst (l'.map encX)])] 2 37 Try.func46 (by kernel_rfl) rfl rfl rfl rfl rfl ?_
  refine zs ?_
  refine reA ?_
  refine zOut ?_
  refine AWp.weaken (Wk.selB (E2 := [(2, .iptr (.agg [.int o, str S, .lst (l.map encX)]) 0), (3, .iptr (.agg [.int o', str S', .lst (l'.map encX)]) 0)]) (H2 := []) [] (by decide) (fun b hb => absurd hb (Nat.not_lt_zero _)) trivial (WkR.all ⟨PubR.iptr (blk := ⟨24, 3, [.agg [.int o, str S, .lst (l.map encX)]]⟩) (e := .agg [.int o, str S, .lst (l.map encX)]) rfl rfl rfl rfl (show PubRL _ _ [_, _, _] [_, _, _] from ⟨.pu (.base _), .pu (.base _), .pu (Pu_mapX l), trivial⟩), PubR.iptr (blk := ⟨24, 3, [.agg [.int o', str S', .lst (l'.map encX)]]⟩) (e := .agg [.int o', str S', .lst (l'.map encX)]) rfl rfl rfl rfl (show PubRL _ _ [_, _, _] [_, _, _] from ⟨.pu (.base _), .pu (.base _), .pu (Pu_mapX l'), trivial⟩), trivial⟩)) ?_
  refine zs ?_
  with_reducible apply AWp.drawMK (k := 10) [none, none, some 0, some 1, some 2, none, none, none, none, none] [al8, al8, [0, 4], [1], [2, 3], al8, al8, al8, al8, al8] (fun S => bif S.testBit 1 then [stS (A ++ B)] else bif S.testBit 0 then [stS A] else []) 3 follows
  · refine ⟨rfl, rfl, by kernel_rfl, by decide, ?_, ?_⟩
    · simp +decide only [go_sem, List.map, List.take]; rfl
    · simp +decide only [go_sem, List.map, List.drop]; rfl
  · kernel_rfl
  · rfl
  refine MRun.q1 (v := .agg [.int o', str S', .lst (l'.map encX)]) rfl rfl (fun S _ => ql_fun (by simp +decide only [go_sem] <;> rfl)) ?_
  refine MRun.q1 (v := .agg [.int o, str S, .lst (l.map encX)]) rfl rfl (fun S _ => ql_fun (by simp +decide only [go_sem] <;> rfl)) ?_
  refine MRun.p1 (v := .own 0 A.length 0 A.length) rfl rfl (fun S hS ρ' h => by
    simp only [List.mem_cons, List.not_mem_nil, or_false] at hS; rcases hS with rfl | rfl <;> exact pl_callH (ρ := ρ') (e := []) (HC := []) (d' := .own 0 A.length 0 A.length) i1 (CallE.new (fun b hb => PuBl_stS A b hb)) rfl ((h (.func 85) (by simp [Op.operands, Call.operands])).trans (by simp +decide only [go_sem] <;> rfl)) (by
      show MvL _ _ [ρ' (.tmp 12), ρ' (.const (.slice none 0 0))] _
      rw [h (.tmp 12) (by simp [Op.operands, Call.operands]), h (.const (.slice none 0 0)) (by simp [Op.operands, Call.operands])]
      simp +decide only [go_sem]
      exact ⟨.agg' ⟨.pu (.base _), .pu (.base _), .pu (Pu_mapX l), trivial⟩, .pu (.base _), trivial⟩) (.own rfl)) ?_
  refine MRun.p1 (v := .own 0 (A ++ B).length 0 (A ++ B).length) rfl rfl (fun S hS ρ' h => by
    simp only [List.mem_cons, List.not_mem_nil, or_false] at hS; subst hS
    exact pl_callH (ρ := ρ') (e := [0]) (HC := [stS A]) (d' := .own 0 (A ++ B).length 0 (A ++ B).length) i2 (CallE.put1 (b := 0) rfl (PuBl_stS _) (PuBl_stS _)) rfl ((h (.func 85) (by simp [Op.operands, Call.operands])).trans (by simp +decide only [go_sem] <;> rfl)) (by
      show MvL _ _ [ρ' (.tmp 11), ρ' (.tmp 13)] _
      rw [h (.tmp 11) (by simp [Op.operands, Call.operands]), h (.tmp 13) (by simp [Op.operands, Call.operands])]
      simp +decide only [go_sem]
      exact ⟨.agg' ⟨.pu (.base _), .pu (.base _), .pu (Pu_mapX l'), trivial⟩, .own rfl, trivial⟩) (.own rfl)) ?_
  refine MRun.p1 (v := .tup [.lst (gs.map AV.u8), nL ns]) rfl rfl (fun S hS ρ' h => by
    simp only [List.mem_cons, List.not_mem_nil, or_false] at hS; rcases hS with rfl | rfl <;> exact pl_callH (ρ := ρ') (e := [0]) (HC := [stS (A ++ B)]) (d' := .tup [.lst (gs.map AV.u8), nL ns]) i3 (CallE.put1 (b := 0) rfl (PuBl_stS _) (PuBl_stS _)) rfl ((h (.func 84) (by simp [Op.operands, Call.operands])).trans (by simp +decide only [go_sem] <;> rfl)) (by
      show MvL _ _ [ρ' (.tmp 14)] _
      rw [h (.tmp 14) (by simp [Op.operands, Call.operands])]
      simp +decide only [go_sem]
      exact ⟨.own rfl, trivial⟩) (.tup' ⟨.pu (Pu_u8L gs), .pu (Pu_nL ns), trivial⟩)) ?_
  refine MRun.q1 (v := .tup [.lst (gs.map AV.u8), nL ns]) rfl rfl (fun S _ => ql_fun (by simp +decide only [go_sem] <;> rfl)) ?_
  refine MRun.q1 (v := .lst (gs.map AV.u8)) rfl rfl (fun S _ => ql_fun (by simp +decide only [go_sem] <;> rfl)) ?_
  refine MRun.q1 (v := nL ns) rfl rfl (fun S _ => ql_fun (by simp +decide only [go_sem] <;> rfl)) ?_
  refine MRun.q1 (v := .lst (gs.map AV.u8)) rfl rfl (fun S _ => ql_fun (by simp +decide only [go_sem] <;> rfl)) ?_
  refine MRun.q1 (v := nL ns) rfl rfl (fun S _ => ql_fun (by simp +decide only [go_sem] <;> rfl)) ?_
  refine MRun.nil ?_
  refine rcA ?_
  refine zOut ?_
  refine AWp.weaken (Wk.selB (E2 := [(2, .iptr (.agg [.int o, str S, .lst (l.map encX)]) 0), (3, .iptr (.agg [.int o', str S', .lst (l'.map encX)]) 0), (6, .lst (gs.map AV.u8))]) (H2 := []) [] (by decide) (fun b hb => absurd hb (Nat.not_lt_zero _)) trivial (WkR.all ⟨.pu (Pu_ipX o S l), .pu (Pu_ipX o' S' l'), .pu (Pu_u8L gs), trivial⟩)) ?_
  refine AWp.weaken (Wk.nil (E2 := [(2, .iptr (.agg [.int o, str S, .lst (l.map encX)]) 0), (3, .iptr (.agg [.int o', str S', .lst (l'.map encX)]) 0), (6, .lst (gs.map AV.u8))]) 112 2 (by intro p hp; simp only [List.mem_cons, List.not_mem_nil, or_false] at hp; rcases hp with rfl | rfl | rfl <;> exact .inl (Le.refl _))) ?_
  refine AWp.weaken (Wk.nil (E2 := [(2, .iptr (.agg [.int o, str S, .lst (l.map encX)]) 0), (3, .iptr (.agg [.int o', str S', .lst (l'.map encX)]) 0), (6, .lst (gs.map AV.u8))]) 112 2 (by intro p hp; simp only [List.mem_cons, List.not_mem_nil, or_false] at hp; rcases hp with rfl | rfl | rfl <;> exact .inl (Le.refl _))) ?_
  refine zs ?_
  with_reducible apply AWp.drawMK (k := 8) [none, none, none, none, none, none, some 0, some 1] [al4, al4, al4, al4, al4, al4, [0, 2], [0, 1]] (fun S => [bif S.testBit 0 then clA else ⟨112, 2, []⟩, bif S.testBit 1 then clA else ⟨112, 2, []⟩]) 2 follows
  · refine ⟨rfl, rfl, by kernel_rfl, by decide, ?_, ?_⟩
    · simp +decide only [go_sem, List.map, List.take]; rfl
    · simp +decide only [go_sem, List.map, List.drop]; rfl
  · kernel_rfl
  · rfl
  refine MRun.q1 (v := .agg [.int o, str S, .lst (l.map encX)]) rfl rfl (fun S _ => ql_fun (by simp +decide only [go_sem] <;> rfl)) ?_
  refine MRun.q1 (v := .lst (gs.map AV.u8)) rfl rfl (fun S _ => ql_fun (by simp +decide only [go_sem] <;> rfl)) ?_
  refine MRun.q1 (v := .agg [.lst (ma.1.map nL), lB ma.2]) rfl rfl (fun S _ => ql_callC j1 rfl (by simp +decide only [go_sem] <;> rfl) (by simp +decide only [go_sem, List.map] <;> rfl) (by simp)) ?_
  refine MRun.q1 (v := .agg [.int o', str S', .lst (l'.map encX)]) rfl rfl (fun S _ => ql_fun (by simp +decide only [go_sem] <;> rfl)) ?_
  refine MRun.q1 (v := .lst (gs.map AV.u8)) rfl rfl (fun S _ => ql_fun (by simp +decide only [go_sem] <;> rfl)) ?_
  refine MRun.q1 (v := .agg [.lst (mb.1.map nL), lB mb.2]) rfl rfl (fun S _ => ql_callC j2 rfl (by simp +decide only [go_sem] <;> rfl) (by simp +decide only [go_sem, List.map] <;> rfl) (by simp)) ?_
  refine MRun.p1 (v := .ptr 0 1 0 0) rfl rfl (fun S hS ρ' h => by
    simp only [List.mem_cons, List.not_mem_nil, or_false] at hS; rcases hS with rfl | rfl <;> exact pl_allocAt (b := 0) (blk0 := ⟨112, 2, []⟩) rfl rfl zero112 rfl (by decide)) ?_
  refine MRun.p1 (v := .ptr 1 1 0 0) rfl rfl (fun S hS ρ' h => by
    simp only [List.mem_cons, List.not_mem_nil, or_false] at hS; rcases hS with rfl | rfl <;> exact pl_allocAt (b := 1) (blk0 := ⟨112, 2, []⟩) rfl rfl zero112 rfl (by decide)) ?_
  refine MRun.nil ?_
  simp only [show (2 ^ 2 - 1 : Nat).testBit 0 = true from rfl, show (2 ^ 2 - 1 : Nat).testBit 1 = true from rfl, cond_true]
  have hml1 : (ma.2.map AV.bool).length = ma.2.length := List.length_map _
  have hml2 : (mb.2.map AV.bool).length = mb.2.length := List.length_map _
  refine goC ?_
  by_cases h : 200 < ma.2.length ∨ 200 < mb.2.length
  · rw [if_pos h]
    refine ift_ ?_ ?_ rfl
    rotate_left
    · rcases h with h | h
      · rw [show decide ((ma.2.length : Int) > 200) = true by rw [decide_eq_true_eq]; omega]; rfl
      · rw [show decide ((mb.2.length : Int) > 200) = true by rw [decide_eq_true_eq]; omega]; simp
    refine goC ?_
    exact Ret.data rfl rfl (Pu_t2 _ _)
  · rw [if_neg h]
    refine iff_ ?_ ?_ rfl
    rotate_left
    · rw [show decide ((ma.2.length : Int) > 200) = false by rw [decide_eq_false_iff_not]; omega, show decide ((mb.2.length : Int) > 200) = false by rw [decide_eq_false_iff_not]; omega]; rfl
    have j3 := j3 (by
      refine Nat.le_trans (Nat.mul_le_mul (show ma.1.length ≤ 200 by omega) (show mb.1.length ≤ 200 by omega)) (by decide))
    refine goC ?_
    refine callA (j3) ?_
    refine goC ?_
    exact Ret.data rfl rfl (Pu_t2 _ _)
end Go.Ab
