/- Part of the proof. -/
import Derived.Test.YtjfahhbobiiphaaYW
import Derived.Test.YtjfahhbobiiphaaYR
import Derived.Test.YtjfahhbobiiphaaYS
set_option linter.unusedSimpArgs false
set_option linter.unusedVariables false
set_option maxHeartbeats 4000000
namespace Go.Ab
open Go Go.Ab Go.Proofs Go.Ab.Ty

abbrev opW (o : Int) (a b : Mb) (p : Nat × Nat) : Bool := opB o (acR a.2 p.1) (acR b.2 p.2)
theorem fresh_qu {H : List ABlk} {b tot : Nat} {A : List (Nat × Nat)} (hb : H[b]? = some (quB A)) (ht : A.length = tot) : fresh H b tot = true := by
  unfold fresh; rw [hb]; simp [ht]
theorem ql_pr0 {H : List ABlk} {ρ : Operand → AV} {x : Operand} {b tot i p q : Nat} {A : List (Nat × Nat)} (hx : ρ x = .ptr b tot i 0) (hb : H[b]? = some (quB A)) (ht : A.length = tot) (he : A[i]? = some (p, q)) : QL Try.prog H ρ (.load 3 x) (.int p) := by
  refine ql_fun1 ?_
  simp only [qfun, hx, hb, List.length_map, ht, if_true, List.getElem?_map, he, Option.map_some, agg3, sz3, ldE, encP, AV.cells, List.getElem?_cons_zero]
theorem ql_pr1 {H : List ABlk} {ρ : Operand → AV} {x : Operand} {b tot i p q : Nat} {A : List (Nat × Nat)} (hx : ρ x = .ptr b tot i 1) (hb : H[b]? = some (quB A)) (ht : A.length = tot) (he : A[i]? = some (p, q)) : QL Try.prog H ρ (.load 3 x) (.int q) := by
  refine ql_fun1 ?_
  simp only [qfun, hx, hb, List.length_map, ht, if_true, List.getElem?_map, he, Option.map_some, agg3, sz3, ldE, encP, AV.cells, List.getElem?_cons_zero, List.getElem?_cons_succ]
theorem rowX_pre2 {β γ : Type} [DecidableEq β] (δ : γ → β) : ∀ (gs : List γ) (A : List β) (row : List Nat), ∃ t, (rowX δ gs A row).2 = row ++ t
  | [], A, row => ⟨[], by simp [rowX]⟩
  | x :: gs, A, row => by
    obtain ⟨t, h⟩ := rowX_pre2 δ gs (addN A (δ x)) (row ++ [(addN A (δ x)).idxOf (δ x)])
    exact ⟨[(addN A (δ x)).idxOf (δ x)] ++ t, by rw [rowX, h, List.append_assoc]⟩
theorem rowX_app {β γ : Type} [DecidableEq β] (δ : γ → β) : ∀ (g1 g2 : List γ) (A : List β) (row : List Nat), rowX δ (g1 ++ g2) A row = rowX δ g2 (rowX δ g1 A row).1 (rowX δ g1 A row).2
  | [], g2, A, row => rfl
  | x :: g1, g2, A, row => by rw [List.cons_append, rowX, rowX_app δ g1 g2, rowX]
theorem rowR_getD {β γ : Type} [DecidableEq β] (δ : γ → β) (gs : List γ) (A : List β) {j : Nat} (h : j < gs.length) : (rowX δ gs A []).2.getD j 0 = ixN (rowX δ (gs.take j) A []).1 (δ gs[j]) := by
  have hl : (rowX δ (gs.take j) A []).2.length = j := by
    rw [(rowX_ok δ A _ (gs.take j) rfl).len, List.length_take]; omega
  have e : gs = gs.take (j + 1) ++ gs.drop (j + 1) := (List.take_append_drop _ _).symm
  have h1 : (rowX δ (gs.take (j + 1)) A []).2 = (rowX δ (gs.take j) A []).2 ++ [ixN (rowX δ (gs.take j) A []).1 (δ gs[j])] := by
    rw [List.take_succ_eq_append_getElem h, rowX_snoc']
  obtain ⟨t, ht⟩ := rowX_pre2 δ (gs.drop (j + 1)) (rowX δ (gs.take (j + 1)) A []).1 (rowX δ (gs.take (j + 1)) A []).2
  have h2 : (rowX δ gs A []).2 = (rowX δ (gs.take j) A []).2 ++ ([ixN (rowX δ (gs.take j) A []).1 (δ gs[j])] ++ t) := by
    conv => lhs; rw [e]
    rw [rowX_app, ht, h1, List.append_assoc]
  rw [h2, List.getD_eq_getElem?_getD, List.getElem?_append_right (by omega), hl, Nat.sub_self]; rfl
theorem both_ok {g : Fin 95 → Nat} {nk : Nat} (a b : Mb) (o : Int) (ha : Gm g nk a.1 a.2) (hb : Gm g nk b.1 b.2) (hk0 : 0 < nk) (hk9 : nk ≤ 95) (hN : a.1.length * b.1.length ≤ 300000000) :
    FnH Try.prog 114 [.agg [.lst (a.1.map nL), lB a.2], .agg [.lst (b.1.map nL), lB b.2], .int o] [] (.agg [.lst ((btR o nk a b).1.map nL), .own 0 (btR o nk a b).2.length 0 (btR o nk a b).2.length]) [acB (btR o nk a b).2] := by
  refine FnH.intro' [(0, .agg [.lst (a.1.map nL), lB a.2]), (1, .agg [.lst (b.1.map nL), lB b.2]), (2, .int o)] 3 137 0 Try.func114 (by kernel_rfl) rfl rfl rfl rfl rfl rfl ?_
  have hxl := xsB_len ha hb
  have hlt := xsB_lt ha hb
  have hfin : ∀ k, (xsB a b nk k).1.length ≤ k → xsB a b nk (a.1.length * b.1.length) = xsB a b nk k := fun k h => by
    rcases Nat.le_total k (a.1.length * b.1.length) with hle | hle
    · have := xs_stop (δ := dB a b) (gs := List.range nk) (s0 := (0, 0)) h (a.1.length * b.1.length - k)
      rw [Nat.add_sub_cancel' hle] at this; exact this
    · have := xs_stop (δ := dB a b) (gs := List.range nk) (s0 := (0, 0)) (hxl (a.1.length * b.1.length)) (k - a.1.length * b.1.length)
      rw [Nat.add_sub_cancel' hle] at this; exact this.symm
  have hX0 : xsB a b nk 0 = ([(0, 0)], []) := rfl
  have hns : ∀ k s, (xsB a b nk k).1[k]? = some s → xsB a b nk (k + 1) = ((rowX (dB a b s) (List.range nk) (xsB a b nk k).1 []).1, (xsB a b nk k).2 ++ [(rowX (dB a b s) (List.range nk) (xsB a b nk k).1 []).2]) := fun k s h => by
    unfold xsB at h ⊢; rw [xs_some h]
  have hX2 : ∀ k, k ≤ (xsB a b nk k).1.length → (xsB a b nk k).2.length = k := fun k h => (xs_ok (dB a b) (List.range nk) (0, 0) k).len.2.2.1 h
  have hz : ∀ k, 0 < (xsB a b nk k).1.length := fun k => (List.getElem?_eq_some_iff.1 (xs_ok (dB a b) (List.range nk) (0, 0) k).zero).1
  have hwd : ∀ k, ∀ x ∈ (xsB a b nk k).2, x.length = nk := fun k x hx => by
    have := (xs_ok (dB a b) (List.range nk) (0, 0) k).wd x hx
    rwa [List.length_range] at this
  have hlt2 : ∀ k, ∀ x ∈ (xsB a b nk k).2, ∀ y ∈ x, y < (xsB a b nk k).1.length := fun k => (xs_ok (dB a b) (List.range nk) (0, 0) k).lt
  have hpre : ∀ k m, ∃ t, (xsB a b nk (k + m)).1 = (xsB a b nk k).1 ++ t := fun k m => xs_pre _ _ _ k m
  have hdB : ∀ p k, dB a b p k = ((a.1.getD p.1 []).getD k 0, (b.1.getD p.2 []).getD k 0) := fun p k => rfl
  unfold btR btR0
  generalize xsB a b nk = X at *
  generalize dB a b = δ at *
  obtain ⟨ra, aa⟩ := a
  obtain ⟨rb, ab⟩ := b
  simp only at *
  refine goC ?_
  refine ARun.q1 rfl rfl (ql_buildA Try.underlying43 sz3 zero43 (by simp +decide only [go_sem, placesA_2, List.map] <;> rfl)) ?_
  refine ARun.p1 rfl rfl (pl_buildSlice (es := [encP (0, 0)]) (by decide) Try.underlying40 sz43 (by kernel_rfl) (by decide) (by simp +decide only [go_sem] <;> rfl) (by simp +decide only [go_sem] <;> rfl) rfl) ?_
  refine goC ?_
  refine AWp.weaken (Wk.nilC (E2 := [(2, .int o), (3, .ptr 0 1 0 0), (4, .ptr 1 1 0 0), (6, .ptr 2 1 0 0), (7, .own 3 1 0 1), (8, .ptr 4 1 0 0), (9, .int 0)]) (H2 := [bxA ra aa, bxA rb ab, clA, quB [(0, 0)], ⟨112, 2, [.agg [.own 5 0 0 0, nilC]]⟩]) 107 1 ?_ ?_) ?_
  · exact ⟨.pu (PuB_bxA _ _), .pu (PuB_bxA _ _), .pu PuB_clA, .pu (PuB_quB [(0, 0)]), .one ⟨.nil rfl, .pu (.base _), trivial⟩, trivial⟩
  · simp +decide only [NilE, lk, if_true, if_false]
    exact ⟨.pu (.base _), .ptr, .ptr, .ptr, .own, .ptr, .pu (.base _), trivial⟩
  refine AWp.weaken (Wk.nilC (E2 := [(2, .int o), (3, .ptr 0 1 0 0), (4, .ptr 1 1 0 0), (6, .ptr 2 1 0 0), (7, .own 3 1 0 1), (8, .ptr 4 1 0 0), (9, .int 0)]) (H2 := [bxA ra aa, bxA rb ab, clA, quB [(0, 0)], ⟨112, 2, [.agg [.own 5 0 0 0, .own 6 0 0 0]]⟩, rwB []]) 4 1 ?_ ?_) ?_
  · exact ⟨.pu (PuB_bxA _ _), .pu (PuB_bxA _ _), .pu PuB_clA, .pu (PuB_quB [(0, 0)]), .one ⟨.own, .nil rfl, trivial⟩, .pu (PuB_rwB []), trivial⟩
  · simp +decide only [NilE, lk, if_true, if_false]
    exact ⟨.pu (.base _), .ptr, .ptr, .ptr, .own, .ptr, .pu (.base _), trivial⟩
  generalize hF : (fun k => ((X k).1.take k).map fun p => opW o (ra, aa) (rb, ab) p) = F
  have hF0 : F 0 = [] := by rw [← hF]; rfl
  have hX02 : (X 0).2 = [] := by rw [hX0]
  have hX01 : (X 0).1 = [(0, 0)] := by rw [hX0]
  refine AWp.loop (J := fun k : Nat => k ≤ (X k).1.length) (fun k => ⟨[(2, .int o), (3, .ptr 0 1 0 0), (4, .ptr 1 1 0 0), (6, .ptr 2 1 0 0), (7, .own 3 (X k).1.length 0 (X k).1.length), (8, .ptr 4 1 0 0), (9, .int k)], [bxA ra aa, bxA rb ab, clA, quB (X k).1, ⟨112, 2, [.agg [.own 5 k 0 k, .own 6 k 0 k]]⟩, rwB (X k).2, acB (F k)]⟩) (fun k => ra.length * rb.length - k) 0 (Nat.zero_le _) (by rw [hX02, hX01, hF0]; exact .wf) ?_
  intro k hk
  have hX2k := hX2 k hk
  have hns := hns k
  have hxl' := hxl
  have hxl := hxl k
  have hlt := hlt k
  have hfin := hfin k
  have hpre := hpre k
  have hz := hz k
  have hwd := hwd k
  have hlt2 := hlt2 k
  have hFl : (F k).length = k := by rw [← hF]; simp only [List.length_map, List.length_take]; omega
  have hml : ∀ l : List (Nat × Nat), (l.map encP).length = l.length := fun l => List.length_map _
  generalize hA : (X k).1 = A at *
  generalize hB : (X k).2 = B at *
  generalize hC : F k = C at *
  refine goC ?_
  refine ifA (fun hc => ?_) (fun hc => ?_)
  · have hc := of_decide_eq_true hc
    have hc : k < A.length := by omega
    obtain ⟨hp1, hp2⟩ := hlt _ (List.getElem_mem hc)
    have hns := hns _ (List.getElem?_eq_getElem hc)
    have hnk : nth 0 A (k : Int) = A[k] := nth_eq hc
    have hAk : A[k]? = some A[k] := List.getElem?_eq_getElem hc
    generalize A[k] = pq at *
    obtain ⟨p, q⟩ := pq
    simp only at hp1 hp2
    refine goC ?_
    refine drA (k := 12) follows (hr := ?_)
    refine goD ?_
    refine ARun.q1 rfl rfl (ql_ix2 (k := 0) (off := 0) (i0 := k) (b := 3) (tot := A.length) (by simp +decide only [go_sem] <;> simp) (fresh_qu (A := A) rfl rfl) rfl (by decide)) ?_
    refine ARun.q1 rfl rfl (ql_pr0 (i := k) (b := 3) (tot := A.length) (by simp +decide only [go_sem] <;> simp) rfl rfl hAk) ?_
    refine goD ?_
    refine ARun.q1 rfl rfl (ql_ix2 (k := 1) (off := 0) (i0 := k) (b := 3) (tot := A.length) (by simp +decide only [go_sem] <;> simp) (fresh_qu (A := A) rfl rfl) rfl (by decide)) ?_
    refine ARun.q1 rfl rfl (ql_pr1 (i := k) (b := 3) (tot := A.length) (by simp +decide only [go_sem] <;> simp) rfl rfl hAk) ?_
    refine goD ?_
    have hal := ha.al
    have hbl := hb.al
    have hma : (aa.map AV.bool).length = aa.length := List.length_map _
    have hmb : (ab.map AV.bool).length = ab.length := List.length_map _
    refine drA (k := 12) follows (hr := ?_)
    refine goD ?_
    rw [nth_at (acs := aa) (k := p) (by omega)]
    refine goD ?_
    rw [nth_at (acs := ab) (k := q) (by omega)]
    have hop : opW o (ra, aa) (rb, ab) (p, q) = ((decide (o = 7) && (acR aa p && acR ab q)) || (decide (o = 5) && (acR aa p || acR ab q))) := rfl
    refine goC ?_
    generalize acR aa p = u1 at *
    generalize acR ab q = u2 at *
    have hop2 : (bif bif bif decide (o = 7) then u1 else false then u2 else false then true else bif decide (o = 5) then bif u1 then true else u2 else false) = opW o (ra, aa) (rb, ab) (p, q) := by
      rw [hop]; cases decide (o = 7) <;> cases decide (o = 5) <;> cases u1 <;> cases u2 <;> rfl
    rw [hop2]
    have hFs : F (k + 1) = C ++ [opW o (ra, aa) (rb, ab) (p, q)] := by
      obtain ⟨t, ht⟩ := hpre 1
      rw [← hC, ← hF]; simp only
      rw [ht, hA, List.take_append_of_le_length (by omega), List.take_succ_eq_append_getElem hc, List.map_append]
      have : A[k] = (p, q) := by
        have := (List.getElem?_eq_some_iff.1 hAk).2; exact this
      rw [this]; rfl
    clear hop hop2
    generalize opW o (ra, aa) (rb, ab) (p, q) = v at *
    refine ARun.p1 rfl rfl (pl_append (b := 6) (tot := k) (es := [.bool v]) (by simp +decide only [go_sem] <;> rfl) (by simp +decide only [go_sem] <;> rfl) rfl (by simp [hFl]) Try.underlying71 el4 rfl rfl (by simp) (fun e he => by rw [List.mem_singleton] at he; subst he; exact ⟨rfl, rfl⟩) (by simp; omega) (by simp; omega)) ?_
    rw [show C.map AV.bool ++ [.bool v] = (C ++ [v]).map AV.bool by rw [List.map_append]; rfl]
    have hrp : nth default ra (p : Int) = ra[p] := nth_eq hp1
    have hrq : nth default rb (q : Int) = rb[q] := nth_eq hp2
    have hwp := ha.wd _ (List.getElem_mem hp1)
    have hwq := hb.wd _ (List.getElem_mem hp2)
    have hep : ra.getD p [] = ra[p] := by rw [List.getD_eq_getElem?_getD, List.getElem?_eq_getElem hp1]; rfl
    have heq : rb.getD q [] = rb[q] := by rw [List.getD_eq_getElem?_getD, List.getElem?_eq_getElem hp2]; rfl
    have hgp : (ra.map nL)[p]? = some (nL ra[p]) := by rw [List.getElem?_map, List.getElem?_eq_getElem hp1]; rfl
    have hgq : (rb.map nL)[q]? = some (nL rb[q]) := by rw [List.getElem?_map, List.getElem?_eq_getElem hp2]; rfl
    have hdB := hdB (p, q)
    simp only [hep, heq] at hdB
    generalize ra[p] = rp at *
    generalize rb[q] = rq at *
    have hmra : (ra.map nL).length = ra.length := List.length_map _
    have hmrb : (rb.map nL).length = rb.length := List.length_map _
    refine goD ?_
    rw [hrp]
    refine goD ?_
    have hmp : (rp.map fun x : Nat => AV.int x).length = nk := by rw [List.length_map]; exact hwp
    refine ARun.p1 rfl rfl (pl_make (by simp +decide only [go_sem] <;> rfl) (by simp +decide only [go_sem] <;> rfl) Try.underlying107 el3 zero3 rfl (by omega) (by omega) (by omega) (by omega)) ?_
    generalize hR : (fun j => rowX (δ (p, q)) ((List.range nk).take j) A []) = R
    have hR0 : R 0 = (A, []) := by rw [← hR]; rfl
    have hRn : rowX (δ (p, q)) (List.range nk) A [] = R nk := by rw [← hR]; simp only; rw [List.take_of_length_le (by simp)]
    have hRs : ∀ j, j < nk → R (j + 1) = (addN (R j).1 (rp.getD j 0, rq.getD j 0), (R j).2 ++ [ixN (R j).1 (rp.getD j 0, rq.getD j 0)]) := fun j hj => by
      rw [← hR]; simp only
      rw [List.take_succ_eq_append_getElem (by simpa using hj), rowX_snoc']
      simp only [List.getElem_range, hdB]
    have hWg : ∀ j, j < nk → (R nk).2.getD j 0 = ixN (R j).1 (rp.getD j 0, rq.getD j 0) := fun j hj => by
      rw [← hRn, rowR_getD _ _ _ (by simpa using hj), ← hR]
      simp only [List.getElem_range, hdB]
    have hWl : (R nk).2.length = nk := by rw [← hRn, (rowX_ok _ _ _ _ rfl).len, List.length_range]
    have hRl : ∀ j, j ≤ nk → (R j).1.length ≤ 300000095 := fun j hj => by
      have := rowX_len (δ (p, q)) A j ((List.range nk).take j) (by simp; omega)
      rw [← hR]; simp only; omega
    have hRn1 : (R nk).1 = (X (k + 1)).1 := by rw [hns, hRn]
    rw [hRn] at hns
    clear hR
    generalize hW : (R nk).2 = W at *
    rw [hwp, show List.replicate ((nk : Int)).toNat (AV.base (.int .i64 0)) = (mixN nk W 0).map iN by rw [mixN_0]; simp]
    refine goC ?_
    refine AWp.loop (J := fun j : Nat => j ≤ nk) (fun j => ⟨[(2, .int o), (3, .ptr 0 1 0 0), (4, .ptr 1 1 0 0), (6, .ptr 2 1 0 0), (7, .own 3 (R j).1.length 0 (R j).1.length), (8, .ptr 4 1 0 0), (9, .int k), (10, .int p), (11, .int q), (14, .own 7 nk 0 nk), (15, .int j)], [bxA ra aa, bxA rb ab, clA, quB (R j).1, ⟨112, 2, [.agg [.own 5 k 0 k, .own 6 (k + 1) 0 (k + 1)]]⟩, rwB B, acB (C ++ [v]), inB' (mixN nk W j)]⟩) (fun j => nk - j) 0 (Nat.zero_le _) (by rw [hR0]; exact .wf) ?_
    intro j hj
    have hRs := hRs j
    have hWg := hWg j
    have hRl := hRl j hj
    generalize hD : (R j).1 = D at *
    refine goC ?_
    refine ifA (fun hc2 => ?_) (fun hc2 => ?_)
    · have hc2 := of_decide_eq_true hc2
      have hc2 : j < nk := by omega
      have hRs := hRs hc2
      have hWg := hWg hc2
      refine goC ?_
      have hgx : (rp.map iN)[j]? = some (iN (rp.getD j 0)) := by rw [List.getElem?_map, List.getElem?_eq_getElem (by omega), List.getD_eq_getElem?_getD, List.getElem?_eq_getElem (by omega)]; rfl
      have hgy : (rq.map iN)[j]? = some (iN (rq.getD j 0)) := by rw [List.getElem?_map, List.getElem?_eq_getElem (by omega), List.getD_eq_getElem?_getD, List.getElem?_eq_getElem (by omega)]; rfl
      generalize rp.getD j 0 = x at *
      generalize rq.getD j 0 = y at *
      with_reducible apply AWp.drawK (k := 18) [none, none, none, none, none, none, none, none, none, none, none, none, none, none, none, none, none, some 0] (fun c => match c with
        | 0 => [bxA ra aa, bxA rb ab, clA, quB D, ⟨112, 2, [.agg [.own 5 k 0 k, .own 6 (k + 1) 0 (k + 1)]]⟩, rwB B, acB (C ++ [v]), inB' (mixN nk W j)]
        | _ => [bxA ra aa, bxA rb ab, clA, quB D, ⟨112, 2, [.agg [.own 5 k 0 k, .own 6 (k + 1) 0 (k + 1)]]⟩, rwB B, acB (C ++ [v]), inB' (mixN nk W j), ⟨43, 2, [.agg [.base (.int .i64 0), .base (.int .i64 0)]]⟩]) 1 follows
      · refine ⟨rfl, rfl, by kernel_rfl, by decide, ?_, ?_⟩
        · simp +decide only [go_sem, List.map, List.take]; rfl
        · simp +decide only [go_sem, List.map, List.drop]; rfl
      · kernel_rfl
      · rfl
      refine GRun.qf1 (v := .ptr 0 1 0 0) rfl rfl (by simp +decide only [go_sem] <;> rfl) (by simp +decide only [go_sem] <;> rfl) ?_
      refine GRun.qf1 (v := .lst (ra.map nL)) rfl rfl (by simp +decide only [go_sem] <;> rfl) (by simp +decide only [go_sem] <;> rfl) ?_
      refine GRun.qf1 (v := .int p) rfl rfl (by simp +decide only [go_sem] <;> rfl) (by simp +decide only [go_sem] <;> rfl) ?_
      refine GRun.q1 (v := .iptr (nL rp) 0) rfl rfl (fun d _ => ql_indexAddr_lst (by simp +decide only [go_sem] <;> rfl) (by simp +decide only [go_sem] <;> rfl) Try.underlying103 (by omega) (e := nL rp) (by simpa using hgp) (by kernel_rfl)) ?_
      refine GRun.qf1 (v := nL rp) rfl rfl (by simp +decide only [go_sem] <;> rfl) (by simp +decide only [go_sem] <;> rfl) ?_
      refine GRun.qf1 (v := .int j) rfl rfl (by simp +decide only [go_sem] <;> rfl) (by simp +decide only [go_sem] <;> rfl) ?_
      refine GRun.q1 (v := .iptr (iN x) 0) rfl rfl (fun d _ => ql_indexAddr_lst (es := rp.map iN) (by simp +decide only [go_sem] <;> rfl) (by simp +decide only [go_sem] <;> rfl) Try.underlying107 (by omega) (e := iN x) (by simpa using hgx) (by kernel_rfl)) ?_
      refine GRun.qf1 (v := iN x) rfl rfl (by simp +decide only [go_sem] <;> rfl) (by simp +decide only [go_sem] <;> rfl) ?_
      refine GRun.qf1 (v := .ptr 1 1 0 0) rfl rfl (by simp +decide only [go_sem] <;> rfl) (by simp +decide only [go_sem] <;> rfl) ?_
      refine GRun.qf1 (v := .lst (rb.map nL)) rfl rfl (by simp +decide only [go_sem] <;> rfl) (by simp +decide only [go_sem] <;> rfl) ?_
      refine GRun.qf1 (v := .int q) rfl rfl (by simp +decide only [go_sem] <;> rfl) (by simp +decide only [go_sem] <;> rfl) ?_
      refine GRun.q1 (v := .iptr (nL rq) 0) rfl rfl (fun d _ => ql_indexAddr_lst (by simp +decide only [go_sem] <;> rfl) (by simp +decide only [go_sem] <;> rfl) Try.underlying103 (by omega) (e := nL rq) (by simpa using hgq) (by kernel_rfl)) ?_
      refine GRun.qf1 (v := nL rq) rfl rfl (by simp +decide only [go_sem] <;> rfl) (by simp +decide only [go_sem] <;> rfl) ?_
      refine GRun.qf1 (v := .int j) rfl rfl (by simp +decide only [go_sem] <;> rfl) (by simp +decide only [go_sem] <;> rfl) ?_
      refine GRun.q1 (v := .iptr (iN y) 0) rfl rfl (fun d _ => ql_indexAddr_lst (es := rq.map iN) (by simp +decide only [go_sem] <;> rfl) (by simp +decide only [go_sem] <;> rfl) Try.underlying107 (by omega) (e := iN y) (by simpa using hgy) (by kernel_rfl)) ?_
      refine GRun.qf1 (v := iN y) rfl rfl (by simp +decide only [go_sem] <;> rfl) (by simp +decide only [go_sem] <;> rfl) ?_
      refine GRun.q1 (v := .agg [.int x, .int y]) rfl rfl (fun d _ => ql_buildA Try.underlying43 sz3 zero43 (by simp +decide only [go_sem, placesA_2, List.map] <;> rfl)) ?_
      refine GRun.p1 (v := .ptr 8 1 0 0) rfl rfl (fun ρ' h => pl_alloc (H := [bxA ra aa, bxA rb ab, clA, quB D, ⟨112, 2, [.agg [.own 5 k 0 k, .own 6 (k + 1) 0 (k + 1)]]⟩, rwB B, acB (C ++ [v]), inB' (mixN nk W j)]) zero43 rfl (by decide)) ?_
      refine GRun.nil ?_
      refine rcA ?_
      refine goC ?_
      have hDl2 : D.length ≤ 300000095 := hRl
      have hmD : (D.map encP).length = D.length := List.length_map _
      refine AWp.loop (X := Nat × Int) (J := fun s => s.1 ≤ D.length ∧ ((s.2 = -1 ∧ ∀ i (h : i < D.length), i < s.1 → D[i] ≠ (x, y)) ∨ ∃ i, ∃ h : i < D.length, s.2 = i ∧ D[i] = (x, y) ∧ ∀ l (h : l < D.length), l < i → D[l] ≠ (x, y))) (fun s => ⟨[(2, .int o), (3, .ptr 0 1 0 0), (4, .ptr 1 1 0 0), (6, .ptr 2 1 0 0), (7, .own 3 D.length 0 D.length), (8, .ptr 4 1 0 0), (9, .int k), (10, .int p), (11, .int q), (14, .own 7 nk 0 nk), (15, .int j), (16, .ptr 8 1 0 0), (17, .int s.2), (18, .int s.1)], [bxA ra aa, bxA rb ab, clA, quB D, ⟨112, 2, [.agg [.own 5 k 0 k, .own 6 (k + 1) 0 (k + 1)]]⟩, rwB B, acB (C ++ [v]), inB' (mixN nk W j), ⟨43, 2, [encP (x, y)]⟩]⟩) (fun s => D.length - s.1) (0, -1) ⟨Nat.zero_le _, .inl ⟨rfl, fun x h h' => by omega⟩⟩ .wf ?_
      rintro ⟨i, e⟩ ⟨hi, hie⟩
      simp only at hi hie ⊢
      refine goD ?_
      refine ifA (fun hd => ?_) (fun hd => ?_)
      · have hd : i < D.length ∧ e < 0 := by
          simp at hd
          omega
        obtain ⟨hi2, he⟩ := hd
        have hie : ∀ x' (h : x' < D.length), x' < i → D[x'] ≠ (x, y) := by
          rcases hie with h | ⟨x, _, h, _⟩
          · exact h.2
          · omega
        have hnD : nth 0 D (i : Int) = D[i] := nth_eq hi2
        have hDi : D[i]? = some D[i] := List.getElem?_eq_getElem hi2
        refine goC ?_
        refine drA (k := 6) follows (hr := ?_)
        refine goD ?_
        rw [hnD]
        generalize D[i] = de at *
        obtain ⟨d1, d2⟩ := de
        refine ARun.q1 rfl rfl (ql_eq_arr (la := [((d1 : Nat) : Int), ((d2 : Nat) : Int)]) (lb := [((x : Nat) : Int), ((y : Nat) : Int)]) (by simp +decide only [go_sem, List.map] <;> rfl) (by simp +decide only [go_sem, List.map] <;> rfl) Try.underlying43 Try.underlying3 sz3 agg3 rfl rfl (by kernel_rfl)) ?_
        rw [show decide ([((d1 : Nat) : Int), ((d2 : Nat) : Int)] = [((x : Nat) : Int), ((y : Nat) : Int)]) = decide ((d1, d2) = (x, y)) from by rw [decide_eq_decide]; simp [Prod.ext_iff]; omega]
        refine goC ?_
        by_cases heq : (d1, d2) = (x, y)
        · rw [decide_eq_true heq]
          refine ift_ ?_
          refine goC ?_
          rw [wrap_succ (by omega)]
          refine ⟨(i + 1, i), ⟨hi2, .inr ⟨i, hi2, rfl, ?_, fun y h h' => hie y h h'⟩⟩, by simp only; omega, .wf⟩
          rw [← heq]; exact (List.getElem?_eq_some_iff.1 hDi).2
        · rw [decide_eq_false heq]
          refine iff_ ?_
          refine goC ?_
          rw [wrap_succ (by omega)]
          refine ⟨(i + 1, e), ⟨hi2, .inl ⟨by omega, fun x' h h' => ?_⟩⟩, by simp only; omega, .wf⟩
          rcases Nat.lt_or_ge x' i with hx | hx
          · exact hie x' h hx
          · obtain rfl : x' = i := by simp only at h'; omega
            rw [(List.getElem?_eq_some_iff.1 hDi).2]; exact heq
      · have hcase : (e = -1 ∧ ¬ (x, y) ∈ D) ∨ (∃ l : Nat, e = l ∧ (x, y) ∈ D ∧ ixN D (x, y) = l ∧ l < D.length) := by
          rcases hie with ⟨h1, h2⟩ | ⟨l, hx, h1, h2, h3⟩
          · left
            refine ⟨h1, fun h => ?_⟩
            obtain ⟨x', hx, hxe⟩ := List.getElem_of_mem h
            have : D.length ≤ i := by
              subst h1
              simp at hd
              omega
            exact h2 x' hx (by omega) hxe
          · right
            have hm : (x, y) ∈ D := h2 ▸ List.getElem_mem hx
            refine ⟨l, h1, hm, ?_, hx⟩
            rw [ixN_old hm]
            exact idxOf_first hx h2 h3
        clear hie hd
        rcases hcase with ⟨rfl, hm⟩ | ⟨l, rfl, hm, hle, hll⟩
        · rw [addN_new hm, ixN_new hm] at hRs
          rw [ixN_new hm] at hWg
          have hml7 := mixN_len nk W j
          refine goC ?_
          refine ift_ ?_
          refine goD ?_
          refine ARun.p1 rfl rfl (pl_append (b := 3) (tot := D.length) (es := [encP (x, y)]) (by simp +decide only [go_sem] <;> rfl) (by simp +decide only [go_sem] <;> rfl) rfl (by simp) Try.underlying40 el43 rfl rfl (by simp) (fun e he => by rw [List.mem_singleton] at he; subst he; exact ⟨rfl, rfl⟩) (by simp; omega) (by simp; omega)) ?_
          rw [show D.map encP ++ [encP (x, y)] = (D ++ [(x, y)]).map encP by rw [List.map_append]; rfl]
          refine goD ?_
          refine ARun.p1 rfl rfl (pl_store_own (b := 7) (tot := nk) (i := j) (ty := 3) (sz := 1) (l := mixN nk W j) (f := iN) (W.getD j 0) (by simp +decide only [go_sem] <;> simp) (by rw [hWg]; rfl) rfl (mixN_len _ _ _) (by rw [mixN_len]; omega) sz3 rfl rfl) ?_
          rw [mixN_set _ _ _ (by omega)]
          refine goC ?_
          rw [wrap_succ (by omega)]
          refine ⟨j + 1, hc2, by omega, ?_⟩
          simp only [hRs, List.length_append, List.length_cons, List.length_nil]
          exact Wk.selB [0, 1, 2, 3, 4, 5, 6, 7] (by decide) (fun b hb => absurd hb (Nat.not_lt_zero _)) ⟨⟨_, rfl, .pu (PuB_bxA _ _)⟩, ⟨_, rfl, .pu (PuB_bxA _ _)⟩, ⟨_, rfl, .pu PuB_clA⟩, ⟨_, rfl, .pu (PuB_quB _)⟩, ⟨_, rfl, .one ⟨.own rfl, .own rfl, trivial⟩⟩, ⟨_, rfl, .pu (PuB_rwB _)⟩, ⟨_, rfl, .pu (PuB_acB _)⟩, ⟨_, rfl, .pu (PuB_inB _)⟩, trivial⟩ (WkR.all ⟨.pu (.base _), .ptr rfl, .ptr rfl, .ptr rfl, .own rfl, .ptr rfl, .pu (.base _), .pu (.base _), .pu (.base _), .own rfl, .pu (.base _), trivial⟩)
        · rw [addN_old hm, hle] at hRs
          rw [hle] at hWg
          have hml7 := mixN_len nk W j
          refine goC ?_
          refine iff_ (b := decide ((l : Int) < 0)) ?_ (by rw [decide_eq_false_iff_not]; omega)
          refine goD ?_
          refine ARun.p1 rfl rfl (pl_store_own (b := 7) (tot := nk) (i := j) (ty := 3) (sz := 1) (l := mixN nk W j) (f := iN) (W.getD j 0) (by simp +decide only [go_sem] <;> simp) (by rw [hWg]; rfl) rfl (mixN_len _ _ _) (by rw [mixN_len]; omega) sz3 rfl rfl) ?_
          rw [mixN_set _ _ _ (by omega)]
          refine goC ?_
          rw [wrap_succ (by omega)]
          refine ⟨j + 1, hc2, by omega, ?_⟩
          simp only [hRs, List.length_append, List.length_cons, List.length_nil]
          exact Wk.selB [0, 1, 2, 3, 4, 5, 6, 7] (by decide) (fun b hb => absurd hb (Nat.not_lt_zero _)) ⟨⟨_, rfl, .pu (PuB_bxA _ _)⟩, ⟨_, rfl, .pu (PuB_bxA _ _)⟩, ⟨_, rfl, .pu PuB_clA⟩, ⟨_, rfl, .pu (PuB_quB _)⟩, ⟨_, rfl, .one ⟨.own rfl, .own rfl, trivial⟩⟩, ⟨_, rfl, .pu (PuB_rwB _)⟩, ⟨_, rfl, .pu (PuB_acB _)⟩, ⟨_, rfl, .pu (PuB_inB _)⟩, trivial⟩ (WkR.all ⟨.pu (.base _), .ptr rfl, .ptr rfl, .ptr rfl, .own rfl, .ptr rfl, .pu (.base _), .pu (.base _), .pu (.base _), .own rfl, .pu (.base _), trivial⟩)
    have hc2 := of_decide_eq_false hc2
    obtain rfl : j = nk := by omega
    rw [mixN_all _ _ hWl]
    refine AWp.weaken (Wk.selB (E2 := [(2, .int o), (3, .ptr 0 1 0 0), (4, .ptr 1 1 0 0), (6, .ptr 2 1 0 0), (7, .own 3 D.length 0 D.length), (8, .ptr 4 1 0 0), (9, .int k), (14, nL W)]) (H2 := [bxA ra aa, bxA rb ab, clA, quB D, ⟨112, 2, [.agg [.own 5 k 0 k, .own 6 (k + 1) 0 (k + 1)]]⟩, rwB B, acB (C ++ [v])]) [0, 1, 2, 3, 4, 5, 6] (by decide) (fun b hb => absurd hb (Nat.not_lt_zero _)) ⟨⟨_, rfl, .pu (PuB_bxA _ _)⟩, ⟨_, rfl, .pu (PuB_bxA _ _)⟩, ⟨_, rfl, .pu PuB_clA⟩, ⟨_, rfl, .pu (PuB_quB _)⟩, ⟨_, rfl, .one ⟨.own rfl, .own rfl, trivial⟩⟩, ⟨_, rfl, .pu (PuB_rwB _)⟩, ⟨_, rfl, .pu (PuB_acB _)⟩, trivial⟩ (WkR.all ⟨.pu (.base _), .ptr rfl, .ptr rfl, .ptr rfl, .own rfl, .ptr rfl, .pu (.base _), .ownM (f := iN) (l := W) rfl rfl hWl (Pu_iN _), trivial⟩)) ?_
    refine AWp.exit ?_
    repeat (with_reducible apply thenQ_e)
    refine blkQ_e (thenQ_n ?_)
    refine goD ?_
    refine ARun.p1 rfl rfl (pl_append (b := 5) (tot := k) (es := [nL W]) (by simp +decide only [go_sem] <;> rfl) (by simp +decide only [go_sem] <;> rfl) rfl (by simp [hX2k]) Try.underlying103 el107 rfl rfl (by simp) (fun e he => by rw [List.mem_singleton] at he; subst he; exact ⟨rfl, rfl⟩) (by simp; omega) (by simp; omega)) ?_
    rw [show B.map nL ++ [nL W] = (B ++ [W]).map nL by rw [List.map_append]; rfl]
    refine goC ?_
    rw [wrap_succ (by omega)]
    have hX3 := hpre 1
    obtain ⟨t, ht⟩ := hX3
    rw [hD] at hns
    refine ⟨k + 1, by rw [ht]; simp; omega, by omega, ?_⟩
    simp only [hns, hFs]
    exact .wf
  have hc := of_decide_eq_false hc
  have hkA : k = A.length := by omega
  have hXN : X (ra.length * rb.length) = (A, B) := by rw [hfin (by omega)]; exact Prod.ext hA hB
  rw [hXN]
  have hCe : C = A.map fun p => opB o (acR aa p.1) (acR ab p.2) := by
    rw [← hC, ← hF]; simp only
    rw [hA, List.take_of_length_le (by omega)]
    try rfl
  simp only
  rw [← hCe]
  have i1 := leastB_ok B C (by omega) (by omega) (by omega) (fun r hr => by have := hwd r hr; omega) (fun r hr x hx => by have := hlt2 r hr x hx; omega)
  refine AWp.weaken (Wk.selB (E2 := [(6, .ptr 0 1 0 0), (8, .ptr 1 1 0 0)]) (H2 := [clA, bxA B C]) [2, 4] (by decide) (fun b hb => absurd hb (Nat.not_lt_zero _)) ⟨⟨_, rfl, .pu PuB_clA⟩, ⟨_, rfl, .one ⟨.ownM (f := nL) (l := B) rfl rfl hX2k (fun x _ c hc => by simp only [AV.cells, List.mem_singleton] at hc; subst hc; exact Pu_nL x), .ownM (f := AV.bool) (l := C) rfl rfl hFl (Pu_bools C), trivial⟩⟩, trivial⟩ (WkR.all ⟨.ptr rfl, .ptr rfl, trivial⟩)) ?_
  refine AWp.exit ?_
  repeat (with_reducible apply thenQ_e)
  refine blkQ_e (thenQ_n ?_)
  refine goC ?_
  generalize lstR (B, C) = res at *
  obtain ⟨r1, r2⟩ := res
  simp only at *
  refine ARun.p1 rfl rfl (pl_callH (e := []) (d' := .agg [.lst (r1.map nL), .own 2 r2.length 0 r2.length]) i1 (CallE.new (fun b hb => by rw [List.mem_singleton] at hb; subst hb; exact PuB_acB _)) rfl (by simp +decide only [go_sem] <;> rfl) (by simp +decide only [go_sem, List.map]; exact ⟨.agg' ⟨.pu (Pu_rowsN B), .pu (Pu_lB C), trivial⟩, trivial⟩) (.agg' ⟨.pu (Pu_rowsN r1), .own rfl, trivial⟩)) ?_
  refine goC ?_
  exact RetH.of (vs := [.agg [.lst (r1.map nL), .own 2 r2.length 0 r2.length]]) [2] (by kernel_rfl) (by decide) (fun b hb => absurd hb (Nat.not_lt_zero _)) ⟨⟨_, rfl, .pu (PuB_acB _)⟩, trivial⟩ (.agg' ⟨.pu (Pu_rowsN r1), .own rfl, trivial⟩)
end Go.Ab
set_option maxHeartbeats 4000000
namespace Go.Ab
open Go Go.Ab Go.Proofs Go.Ab.Ty

def frE (f : List (List Nat)) : List AV := f.mapIdx fun p l => AV.own (p + 4) l.length 0 l.length
abbrev ntC (n : Nat) : ABlk := ⟨174, 3, [.agg [.own 1 n 0 n, .own 2 n 0 n, .own 3 n 0 n]]⟩
abbrev frB (f : List (List Nat)) : ABlk := ⟨107, 1, frE f⟩
abbrev seB (s : List ByteArray) : ABlk := ⟨9, 1, s.map str⟩
abbrev toB (t : List Int) : ABlk := ⟨3, 1, t.map AV.int⟩
abbrev innB (f : List (List Nat)) : List ABlk := f.map inB'
abbrev netH (x : Nt) : List ABlk := ntC x.n :: frB x.f :: seB x.s :: toB x.t :: innB x.f
theorem frE_len (f : List (List Nat)) : (frE f).length = f.length := List.length_mapIdx
theorem frE_get {f : List (List Nat)} {p : Nat} (h : p < f.length) : (frE f)[p]? = some (.own (p + 4) f[p].length 0 f[p].length) := by
  unfold frE; rw [List.getElem?_mapIdx, List.getElem?_eq_getElem h]; rfl
theorem frE_snoc (f : List (List Nat)) (l : List Nat) : frE (f ++ [l]) = frE f ++ [.own (f.length + 4) l.length 0 l.length] := by
  unfold frE; rw [List.mapIdx_append]; simp
theorem frE_set (f : List (List Nat)) (p : Nat) (l : List Nat) : (frE f).set p (.own (p + 4) l.length 0 l.length) = frE (f.set p l) := by
  refine List.ext_getElem? fun i => ?_
  unfold frE
  rw [List.getElem?_set, List.getElem?_mapIdx, List.getElem?_mapIdx, List.getElem?_set, List.length_mapIdx]
  by_cases e : p = i
  · subst e
    by_cases h : p < f.length
    · simp [h]
    · simp [h]
  · simp [e]
theorem frE_mem {f : List (List Nat)} {e : AV} (h : e ∈ frE f) : ∃ b n, e = .own b n 0 n := by
  unfold frE at h
  obtain ⟨i, hi, rfl⟩ := List.mem_mapIdx.1 h
  exact ⟨_, _, rfl⟩
theorem PuBl_inn (f : List (List Nat)) : PuBl (innB f) := fun blk hb => by
  obtain ⟨l, _, rfl⟩ := List.mem_map.1 hb
  exact PuB_inB l
theorem BlkNil.of {H : List ABlk} {ty sz : Nat} {A : List AV} {x y : AV} (hA : ∀ e ∈ A, NilL H e.cells e.cells) (hx : x.cells = [x]) (hy : y.cells = [y]) (h : NilR H x y) : BlkNil H ⟨ty, sz, A ++ [x]⟩ ⟨ty, sz, A ++ [y]⟩ :=
  ⟨rfl, rfl, by simp, fun i e e2 h1 h2 => by
    rcases mid_cases (B := []) h1 h2 with ⟨rfl, h3⟩ | ⟨rfl, rfl⟩
    · rcases h3 with h3 | h3
      · exact ⟨rfl, fun k c c2 h4 h5 => (hA _ h3).get k c c2 h4 h5⟩
      · cases h3
    · rw [hx, hy]
      refine ⟨rfl, fun k c c2 h4 h5 => ?_⟩
      cases k with
      | zero => simp at h4 h5; subst h4; subst h5; exact h
      | succ k => simp at h4⟩
theorem NilB.pus {H : List ABlk} : ∀ {T : List ABlk}, PuBl T → NilB H T T
  | [], _ => trivial
  | b :: T, h => ⟨.pu (h b (by simp)), NilB.pus fun c hc => h c (by simp [hc])⟩
abbrev ntD (a b c : Nat) : ABlk := ⟨174, 3, [.agg [.own 1 a 0 a, .own 2 b 0 b, .own 3 c 0 c]]⟩
def al32 : List Nat := List.range 32
theorem more_ok (x : Nt) (hx : x.Ok) (hn : x.n ≤ 1000000) : FnH Try.prog 154 [.ptr 0 1 0 0] (netH x) (.int x.n) (netH (mor x)) := by
  refine FnH.intro' [(0, .ptr 0 1 0 0)] 1 36 (netH x).length Try.func154 (by kernel_rfl) rfl rfl rfl rfl rfl rfl ?_
  obtain ⟨h1, h2⟩ := hx
  unfold mor
  unfold Nt.n at *
  obtain ⟨f, s, t⟩ := x
  simp only at *
  have hf := frE_len f
  refine (show AWp Try.prog _ _ _ ⟨[(0, .ptr 0 1 0 0)], ntD t.length t.length t.length :: ⟨107, 1, frE f⟩ :: ⟨9, 1, s.map str⟩ :: ⟨3, 1, t.map AV.int⟩ :: innB f⟩ from ?_)
  generalize hT : innB f = T at *
  generalize hE : frE f = E at *
  refine goC ?_
  with_reducible apply AWp.drawMK (k := 27) [none, none, none, none, none, none, none, none, some 0, none, none, none, none, none, some 1, none, none, none, none, none, some 2, none, none, some 3, none, none, some 4] [al32, al32, al32, al32, al32, al32, [0, 2, 4, 6], al32, [0, 4], al32, al32, al32, [0, 1, 4, 5], al32, [1], al32, al32, al32, [0, 1, 2, 3], al32, [2, 3], al32, al32, [7], al32, al32, [15]] (fun S => ntD (t.length + (S.testBit 3).toNat) (t.length + (S.testBit 4).toNat) t.length :: ⟨107, 1, bif S.testBit 0 then E ++ [nilC] else E⟩ :: ⟨9, 1, bif S.testBit 1 then s.map str ++ [str ByteArray.empty] else s.map str⟩ :: ⟨3, 1, bif S.testBit 2 then t.map AV.int ++ [.int (-1)] else t.map AV.int⟩ :: T) 5 follows
  · refine ⟨rfl, rfl, by kernel_rfl, by decide, ?_, ?_⟩
    · simp +decide only [go_sem, List.map, List.take]; rfl
    · simp +decide only [go_sem, List.map, List.drop]; rfl
  · kernel_rfl
  · rfl
  refine MRun.q1 (v := .ptr 0 1 0 0) rfl rfl (fun S _ => ql_fun (by simp +decide only [go_sem] <;> rfl)) ?_
  refine MRun.q1 (v := .ptr 0 1 0 0) rfl rfl (fun S _ => ql_fun (by simp +decide only [go_sem] <;> rfl)) ?_
  refine MRun.q1 (v := .ptr 0 1 0 0) rfl rfl (fun S _ => ql_fun (by simp +decide only [go_sem] <;> rfl)) ?_
  refine MRun.q1 (v := .ptr 0 1 0 0) rfl rfl (fun S _ => ql_fun (by simp +decide only [go_sem] <;> rfl)) ?_
  refine MRun.q1 (v := .ptr 0 1 0 0) rfl rfl (fun S _ => ql_fun (by simp +decide only [go_sem] <;> rfl)) ?_
  refine MRun.q1 (v := .ptr 0 1 0 0) rfl rfl (fun S _ => ql_fun (by simp +decide only [go_sem] <;> rfl)) ?_
  refine MRun.q1 (v := .own 1 t.length 0 t.length) rfl rfl (fun S hS => by simp only [List.mem_cons, List.not_mem_nil, or_false] at hS; rcases hS with rfl | rfl | rfl | rfl <;> exact ql_fun (by simp +decide only [go_sem] <;> rfl)) ?_
  refine MRun.q1 (v := .lst [nilC]) rfl rfl (fun S _ => ql_buildSlice (by decide) Try.underlying103 sz107 (by kernel_rfl) (by decide) (by (simp +decide only [List.map, go_sem] <;> rfl)) (by (simp +decide only [List.map, go_sem] <;> rfl)) rfl) ?_
  refine MRun.p1 (v := .own 1 (t.length + 1) 0 (t.length + 1)) rfl rfl (fun S hS ρ' h => by
    simp only [List.mem_cons, List.not_mem_nil, or_false] at hS
    rcases hS with rfl | rfl <;> exact pl_append (b := 1) (tot := t.length) (blk := ⟨107, 1, E⟩) (es := [nilC]) ((h (.tmp 9) (by simp [Op.operands, Call.operands])).trans (by simp +decide only [go_sem] <;> rfl)) ((h (.tmp 10) (by simp [Op.operands, Call.operands])).trans (by simp +decide only [go_sem] <;> rfl)) rfl (by simp <;> omega) Try.underlying103 el107 rfl rfl (by simp) (fun e he => by rw [List.mem_singleton] at he; subst he; exact ⟨rfl, rfl⟩) (by simp; omega) (by simp; omega)) ?_
  refine MRun.q1 (v := .ptr 0 1 0 0) rfl rfl (fun S _ => ql_fun (by simp +decide only [go_sem] <;> rfl)) ?_
  refine MRun.q1 (v := .ptr 0 1 0 0) rfl rfl (fun S _ => ql_fun (by simp +decide only [go_sem] <;> rfl)) ?_
  refine MRun.q1 (v := .ptr 0 1 0 1) rfl rfl (fun S _ => ql_fun (by simp +decide only [go_sem] <;> rfl)) ?_
  refine MRun.q1 (v := .own 2 t.length 0 t.length) rfl rfl (fun S hS => by simp only [List.mem_cons, List.not_mem_nil, or_false] at hS; rcases hS with rfl | rfl | rfl | rfl <;> exact ql_fun (by simp +decide only [go_sem] <;> rfl)) ?_
  refine MRun.q1 (v := .lst [str ByteArray.empty]) rfl rfl (fun S _ => ql_buildSlice (by decide) Try.underlying50 sz9 (by kernel_rfl) (by decide) (by (simp +decide only [List.map, go_sem] <;> rfl)) (by (simp +decide only [List.map, go_sem] <;> rfl)) rfl) ?_
  refine MRun.p1 (v := .own 2 (t.length + 1) 0 (t.length + 1)) rfl rfl (fun S hS ρ' h => by
    simp only [List.mem_cons, List.not_mem_nil, or_false] at hS
    rcases hS with rfl <;> exact pl_append (b := 2) (tot := t.length) (blk := ⟨9, 1, s.map str⟩) (es := [str ByteArray.empty]) ((h (.tmp 15) (by simp [Op.operands, Call.operands])).trans (by simp +decide only [go_sem] <;> rfl)) ((h (.tmp 16) (by simp [Op.operands, Call.operands])).trans (by simp +decide only [go_sem] <;> rfl)) rfl (by simp <;> omega) Try.underlying50 el9 rfl rfl (by simp) (fun e he => by rw [List.mem_singleton] at he; subst he; exact ⟨rfl, rfl⟩) (by simp; omega) (by simp; omega)) ?_
  refine MRun.q1 (v := .ptr 0 1 0 0) rfl rfl (fun S _ => ql_fun (by simp +decide only [go_sem] <;> rfl)) ?_
  refine MRun.q1 (v := .ptr 0 1 0 0) rfl rfl (fun S _ => ql_fun (by simp +decide only [go_sem] <;> rfl)) ?_
  refine MRun.q1 (v := .ptr 0 1 0 2) rfl rfl (fun S _ => ql_fun (by simp +decide only [go_sem] <;> rfl)) ?_
  refine MRun.q1 (v := .own 3 t.length 0 t.length) rfl rfl (fun S hS => by simp only [List.mem_cons, List.not_mem_nil, or_false] at hS; rcases hS with rfl | rfl | rfl | rfl <;> exact ql_fun (by simp +decide only [go_sem] <;> rfl)) ?_
  refine MRun.q1 (v := .lst [.int (-1)]) rfl rfl (fun S _ => ql_buildSlice (by decide) Try.underlying107 sz3 (by kernel_rfl) (by decide) (by (simp +decide only [List.map, go_sem] <;> rfl)) (by (simp +decide only [List.map, go_sem] <;> rfl)) rfl) ?_
  refine MRun.p1 (v := .own 3 (t.length + 1) 0 (t.length + 1)) rfl rfl (fun S hS ρ' h => by
    simp only [List.mem_cons, List.not_mem_nil, or_false] at hS
    rcases hS with rfl | rfl <;> exact pl_append (b := 3) (tot := t.length) (blk := ⟨3, 1, t.map AV.int⟩) (es := [.int (-1)]) ((h (.tmp 21) (by simp [Op.operands, Call.operands])).trans (by simp +decide only [go_sem] <;> rfl)) ((h (.tmp 22) (by simp [Op.operands, Call.operands])).trans (by simp +decide only [go_sem] <;> rfl)) rfl (by simp <;> omega) Try.underlying107 el3 rfl rfl (by simp) (fun e he => by rw [List.mem_singleton] at he; subst he; exact ⟨rfl, rfl⟩) (by simp; omega) (by simp; omega)) ?_
  refine MRun.q1 (v := .ptr 0 1 0 0) rfl rfl (fun S _ => ql_fun (by simp +decide only [go_sem] <;> rfl)) ?_
  refine MRun.q1 (v := .ptr 0 1 0 0) rfl rfl (fun S _ => ql_fun (by simp +decide only [go_sem] <;> rfl)) ?_
  refine MRun.p1 (v := .bad) rfl rfl (fun S hS ρ' h => by
    simp only [List.mem_cons, List.not_mem_nil, or_false] at hS
    subst hS
    exact pl_store (b := 0) (tot := 1) (i := 0) (blk := ntD t.length t.length t.length) (v := .own 1 (t.length + 1) 0 (t.length + 1)) ((h (.tmp 25) (by simp [Op.operands])).trans (by simp +decide only [go_sem] <;> rfl)) ((h (.tmp 11) (by simp [Op.operands])).trans (by simp +decide only [go_sem] <;> rfl)) rfl rfl rfl sz103 rfl rfl) ?_
  refine MRun.q1 (v := .ptr 0 1 0 0) rfl rfl (fun S _ => ql_fun (by simp +decide only [go_sem] <;> rfl)) ?_
  refine MRun.q1 (v := .ptr 0 1 0 1) rfl rfl (fun S _ => ql_fun (by simp +decide only [go_sem] <;> rfl)) ?_
  refine MRun.p1 (v := .bad) rfl rfl (fun S hS ρ' h => by
    simp only [List.mem_cons, List.not_mem_nil, or_false] at hS
    subst hS
    exact pl_store (b := 0) (tot := 1) (i := 0) (blk := ntD (t.length + 1) t.length t.length) (v := .own 2 (t.length + 1) 0 (t.length + 1)) ((h (.tmp 27) (by simp [Op.operands])).trans (by simp +decide only [go_sem] <;> rfl)) ((h (.tmp 17) (by simp [Op.operands])).trans (by simp +decide only [go_sem] <;> rfl)) rfl rfl rfl sz50 rfl rfl) ?_
  refine MRun.nil ?_
  simp only [show (2 ^ 5 - 1 : Nat).testBit 0 = true from rfl, show (2 ^ 5 - 1 : Nat).testBit 1 = true from rfl, show (2 ^ 5 - 1 : Nat).testBit 2 = true from rfl, show (2 ^ 5 - 1 : Nat).testBit 3 = true from rfl, show (2 ^ 5 - 1 : Nat).testBit 4 = true from rfl, cond_true, Bool.toNat_true]
  refine rcA ?_
  refine goC ?_
  rw [if_pos (show ((t.map AV.int ++ [AV.int (-1)]).length == t.length + 1) = true by simp)]
  simp +decide only [go_sem, lk]
  refine goC ?_
  rw [show (((t.length + 1 : Nat) : Int) - 1) = ((t.length : Nat) : Int) by omega, wrap_id (by omega) (by omega)]
  refine RetH.wk (Wk.nilC (E2 := [(2, .int t.length)]) (H2 := ntD (t.length + 1) (t.length + 1) (t.length + 1) :: ⟨107, 1, E ++ [.own (f.length + 4) 0 0 0]⟩ :: ⟨9, 1, s.map str ++ [str ByteArray.empty]⟩ :: ⟨3, 1, t.map AV.int ++ [.int (-1)]⟩ :: T) 3 1 ?_ ?_) (RetH.same (vs := [.int t.length]) (by kernel_rfl) rfl ?_)
  · refine ⟨.one ⟨.own, .own, .own, trivial⟩, .of (fun e he => ?_) rfl rfl (.nil ?_), .pu ?_, .pu ?_, NilB.pus (hT ▸ PuBl_inn f)⟩
    · rw [← hE] at he
      obtain ⟨b, n, rfl⟩ := frE_mem he
      exact ⟨.own, trivial⟩
    · rw [← hT]; simp
    · rw [show s.map str ++ [str ByteArray.empty] = (s ++ [ByteArray.empty]).map str by rw [List.map_append]; rfl]
      exact fun e he c hc => by
        obtain ⟨x, _, rfl⟩ := List.mem_map.1 he
        exact Pu_strs (l := s ++ [ByteArray.empty]) x ‹_› c hc
    · intro e he c hc
      rcases List.mem_append.1 he with he | he
      · obtain ⟨x, _, rfl⟩ := List.mem_map.1 he
        simp only [AV.cells, List.mem_singleton] at hc; subst hc; exact .base _
      · rw [List.mem_singleton] at he; subst he
        simp only [AV.cells, List.mem_singleton] at hc; subst hc; exact .base _
  · simp +decide only [NilE, lk, if_true, if_false]
    exact ⟨.pu (.base _), trivial⟩
  · show _ = ntC (t ++ [-1]).length :: frB (f ++ [[]]) :: seB (s ++ [ByteArray.empty]) :: toB (t ++ [-1]) :: innB (f ++ [[]])
    rw [show frB (f ++ [[]]) = ⟨107, 1, E ++ [.own (f.length + 4) 0 0 0]⟩ by rw [frB, frE_snoc, hE]; rfl, show innB (f ++ [[]]) = T ++ [⟨3, 1, []⟩] by rw [innB, List.map_append, ← hT]; rfl]
    simp
end Go.Ab
