/- Part of the proof. -/
import Derived.Test.YtdgfgadmcahnlaaDoorTJ
set_option linter.unusedSimpArgs false
set_option linter.unusedVariables false
-- fnh
set_option maxHeartbeats 4000000
namespace Go.Ab
open Go Go.Ab Go.Proofs Go.Ab.Ty

/-! ### the sort of a short row: slices.insertionSortCmpFunc -/
theorem ins_fin {S : List Int} {k j : Nat} (hk : k < S.length) (hj : j ≤ k) (h2 : ∀ y ∈ (st (S.take k)).drop j, rk S[k] < rk y) (h1 : 0 < j → ∀ y, (st (S.take k))[j - 1]? = some y → rk y ≤ rk S[k]) :
    (st (S.take k)).take j ++ S[k] :: (st (S.take k)).drop j = st (S.take (k + 1)) := by
  have hs := st_srt (S.take k)
  have hl := st_len (S.take k)
  rw [List.length_take, Nat.min_eq_left (by omega)] at hl
  have e : S.take (k + 1) = S.take k ++ [S[k]] := List.take_succ_eq_append_getElem hk
  rw [e, ← st_st]
  generalize hT : st (S.take k) = T at *
  rw [← List.take_append_drop j T] at hs
  have := st_ins hs (x := S[k]) (fun y hy => ?_) h2
  · rw [this, List.take_append_drop]
  · obtain ⟨i, hi, rfl⟩ := List.mem_iff_getElem.1 hy
    have hi' : i < j := by simp at hi; omega
    have hj1 : j - 1 < T.length := by omega
    have h3 := h1 (by omega) T[j - 1] (List.getElem?_eq_getElem hj1)
    rw [List.getElem_take]
    rw [List.take_append_drop] at hs
    rcases Nat.lt_or_ge i (j - 1) with h4 | h4
    · have := List.pairwise_iff_getElem.1 hs i (j - 1) (by omega) hj1 h4
      omega
    · obtain rfl : i = j - 1 := by omega
      exact h3
def insW (P S Q : List Int) (k j : Nat) : List Int := P ++ ((st (S.take k)).take j ++ (S[k]?).getD 0 :: (st (S.take k)).drop j) ++ (S.drop (k + 1) ++ Q)
theorem ins_ok (P S Q : List Int) (off len a tot : Nat) (ha : P.length = off + a) (hb : a + S.length ≤ len) (ht : (P ++ S ++ Q).length = tot) (hl : off + len ≤ tot) (hm : tot ≤ 1000000) :
    FnH Tryd.prog 120 [.own 0 tot off len, .int a, .int ((a + S.length : Nat) : Int), .clo 102 []] [rbl (P ++ S ++ Q)] (.tup []) [rbl (P ++ st S ++ Q)] := by
  simp only [List.length_append] at ht
  have hlen : ∀ k, k ≤ S.length → (P ++ (st (S.take k) ++ S.drop k) ++ Q).length = tot := fun k hk => by simp [st_len]; omega
  refine FnH.intro' [(0, .own 0 tot off len), (1, .int a), (2, .int ((a + S.length : Nat) : Int)), (3, .clo 102 [])] 4 53 1 Tryd.func120 (by kernel_rfl) rfl rfl rfl rfl rfl rfl ?_
  refine goD ?_
  rw [wrap_id (by omega) (by omega)]
  refine keA [0, 1, 2, 3, 8] ?_
  refine AWp.loopH (J := fun k : Nat => 1 ≤ k ∧ (k ≤ S.length ∨ k = 1)) (fun k => [(8, .int ((a + k : Nat) : Int))]) (fun k => [rbl (P ++ (st (S.take k) ++ S.drop k) ++ Q)]) (fun k => S.length - k) 1 ⟨Nat.le_refl _, .inr rfl⟩ ?_ ?_
  · have e : st (S.take 1) ++ S.drop 1 = S := by
      cases S with
      | nil => rfl
      | cons x r => simp [st_one]
    rw [e]
    exact (.env' (by simp +decide only [go_sem, show ((a + 1 : Nat) : Int) = (a : Int) + 1 by omega] <;> simp [Le.refl, show ((a + 1 : Nat) : Int) = (a : Int) + 1 by omega]))
  rintro k ⟨hk1, hk2⟩
  refine goD ?_
  refine ifA (fun h => ?_) (fun h => ?_)
  · have h := of_decide_eq_true h
    have hk : k < S.length := by omega
    have hfin := fun j => ins_fin (S := S) (k := k) (j := j) hk
    have htl : (st (S.take k)).length = k := by rw [st_len, List.length_take]; omega
    have hdk : S.drop k = S[k] :: S.drop (k + 1) := List.drop_eq_getElem_cons hk
    have hl2 := hlen k (by omega)
    rw [hdk] at hl2 ⊢
    generalize st (S.take k) = T at *
    generalize S[k] = x at *
    have hR : ∃ R, R = S.drop (k + 1) ++ Q := ⟨_, rfl⟩
    obtain ⟨R, hR⟩ := hR
    have e0 : P ++ (T ++ x :: S.drop (k + 1)) ++ Q = P ++ (T.take k ++ x :: T.drop k) ++ R := by
      rw [List.take_of_length_le (l := T) (by omega), List.drop_of_length_le (l := T) (by omega), hR]; simp
    rw [e0] at hl2 ⊢
    refine goD ?_
    refine keA [0, 1, 2, 3, 8, 9] ?_
    refine AWp.loopH (J := fun j : Nat => j ≤ k ∧ ∀ y ∈ T.drop j, rk x < rk y) (fun j => [(9, .int ((a + j : Nat) : Int))]) (fun j => [rbl (P ++ (T.take j ++ x :: T.drop j) ++ R)]) (fun j => j) k ⟨Nat.le_refl _, by rw [← htl, List.drop_length]; intro y hy; cases hy⟩ .wk ?_
    rintro j ⟨hj, hT⟩
    obtain ⟨y, hy⟩ : ∃ y, y = (T[j - 1]?).getD 0 := ⟨_, rfl⟩
    have hWl : (P ++ (T.take j ++ x :: T.drop j) ++ R).length = tot := by
      rw [← hl2]; simp; omega
    have hx : (P ++ (T.take j ++ x :: T.drop j) ++ R)[off + ((a + j : Nat) : Int).toNat]? = some x := by
      have := at_app (P ++ T.take j) (T.drop j ++ R) x
      rw [show (P ++ T.take j).length = off + ((a + j : Nat) : Int).toNat by simp; omega] at this
      simpa using this
    have hyv : 0 < j → (P ++ (T.take j ++ x :: T.drop j) ++ R) = (P ++ T.take (j - 1)) ++ y :: x :: (T.drop j ++ R) := by
      intro h0
      have e : T.take j = T.take (j - 1) ++ [y] := by
        obtain ⟨i, rfl⟩ : ∃ i, j = i + 1 := ⟨j - 1, by omega⟩
        have hi : i < T.length := by omega
        rw [List.take_succ_eq_append_getElem hi, hy]
        simp [hi]
      rw [e]; simp
    have hyp : (P ++ T.take (j - 1)).length = off + a + (j - 1) := by simp; omega
    refine goD ?_
    refine drA (k := 17) follows (hr := ?_)
    refine goD ?_
    refine gqA (h := fun hg => ql_ixR (b := 0) (l := P ++ (T.take j ++ x :: T.drop j) ++ R) (by simp +decide only [go_sem] <;> rfl) (by simp +decide only [go_sem] <;> rfl) rfl hWl (by omega) (by omega)) (hr := ?_)
    refine goD ?_
    refine gqA (h := fun hg => ql_loadR (b := 0) (by simp +decide only [go_sem] <;> rfl) rfl hWl hx) (hr := ?_)
    refine goD ?_
    rw [wrap_id (by omega) (by omega)]
    refine gqA (h := fun hg => ql_ixR (b := 0) (l := P ++ (T.take j ++ x :: T.drop j) ++ R) (by simp +decide only [go_sem] <;> rfl) (by simp +decide only [go_sem] <;> rfl) rfl hWl (by simp [gc, allL] at hg; omega) (by omega)) (hr := ?_)
    refine goD ?_
    refine ARun.gl (v := r32 y) rfl rfl (by simp +decide only [go_sem] <;> rfl) (fun hg => ql_loadR (b := 0) (v := y) (by simp +decide only [go_sem] <;> rfl) rfl hWl (by
      have hg' : 0 < j := by simp [gc, allL] at hg; omega
      rw [hyv hg']
      have := at_app (P ++ T.take (j - 1)) (x :: (T.drop j ++ R)) y
      rw [hyp] at this
      rw [show off + ((a + j : Nat) - 1 : Int).toNat = off + a + (j - 1) by omega]
      exact this)) ?_
    refine goD ?_
    refine gcallA (i := fun hg => cmp_ok x y) (hr := ?_)
    refine goD ?_
    refine keA [0, 1, 2, 3, 8, 9, 34] ?_
    refine ifA (fun hc => ?_) (fun hc => ?_)
    · simp only [Bool.cond_eq_ite, Bool.if_false_right, Bool.and_eq_true, decide_eq_true_eq] at hc
      obtain ⟨hc1, hc2⟩ := hc
      have hj0 : 0 < j := by omega
      have hjs : ((a + j : Nat) : Int) - 1 = ((a + (j - 1) : Nat) : Int) := by omega
      have e1 := hyv hj0
      have hnx : T.drop (j - 1) = y :: T.drop j := by
        obtain ⟨i, rfl⟩ : ∃ i, j = i + 1 := ⟨j - 1, by omega⟩
        have hi : i < T.length := by omega
        rw [hy]; simp [hi]
      have e2 : P ++ (T.take (j - 1) ++ x :: T.drop (j - 1)) ++ R = (P ++ T.take (j - 1)) ++ x :: y :: (T.drop j ++ R) := by rw [hnx]; simp
      have l1 := at_app (P ++ T.take (j - 1)) (x :: (T.drop j ++ R)) y
      have l2 := at_app1 (P ++ T.take (j - 1)) (T.drop j ++ R) x y
      have l3 := swp_dn (P ++ T.take (j - 1)) (T.drop j ++ R) x y
      rw [hyp] at l1 l2 l3
      rw [← e2] at l3
      rw [e1] at hWl
      rw [e1]
      generalize (P ++ T.take (j - 1)) ++ y :: x :: (T.drop j ++ R) = W at *
      obtain ⟨p, hp⟩ : ∃ p, p = off + a + (j - 1) := ⟨_, rfl⟩
      rw [← hp] at l1 l2 l3
      refine goD ?_
      with_reducible apply AWp.drawBK (k := 16) [none, none, none, none, none, none, none, none, none, none, none, none, none, none, none, some 0] [0, 0, 1, 1, 1, 0, 0, 0, 0, 0, 1, 1, 1, 0, 0, 1] (fun c => match c with | 0 => [rbl W] | _ => [rbl (W.set (p + 1) y)]) 1 follows
      · refine ⟨rfl, rfl, by kernel_rfl, by decide, ?_, ?_⟩
        · simp +decide only [go_sem, List.map, List.take]; rfl
        · simp +decide only [go_sem, List.map, List.drop]; rfl
      · kernel_rfl
      · kernel_rfl
      · rfl
      · refine BRun.qf0 rfl rfl (by simp +decide only [go_sem] <;> rfl) ?_
        refine BRun.qf0 rfl rfl (by simp +decide only [go_sem] <;> rfl) ?_
        refine BRun.qf1 rfl rfl (by simp +decide only [go_sem] <;> rfl) (by simp +decide only [go_sem] <;> rfl) ?_
        refine BRun.qf1 rfl rfl (by simp +decide only [go_sem] <;> rfl) (by simp +decide only [go_sem] <;> rfl) ?_
        refine BRun.qf1 rfl rfl (by simp +decide only [go_sem] <;> rfl) (by simp +decide only [go_sem] <;> rfl) ?_
        refine BRun.qf0 rfl rfl (by simp +decide only [go_sem] <;> rfl) ?_
        refine BRun.qf0 rfl rfl (by simp +decide only [go_sem] <;> rfl) ?_
        refine BRun.qf0 rfl rfl (by simp +decide only [go_sem] <;> rfl) ?_
        rw [wrap_id (by omega) (by omega), hjs]
        refine BRun.q0 rfl rfl (ql_ixR (by simp +decide only [go_sem] <;> rfl) (by simp +decide only [go_sem] <;> rfl) rfl hWl (by omega) (by omega)) ?_
        rw [show off + ((a + (j - 1) : Nat) : Int).toNat = p by omega]
        refine BRun.q0 rfl rfl (ql_loadR (b := 0) (by simp +decide only [go_sem] <;> rfl) rfl hWl l1) ?_
        refine BRun.qf1 rfl rfl (by simp +decide only [go_sem] <;> rfl) (by simp +decide only [go_sem] <;> rfl) ?_
        refine BRun.qf1 rfl rfl (by simp +decide only [go_sem] <;> rfl) (by simp +decide only [go_sem] <;> rfl) ?_
        refine BRun.q1 (v := .ptr 0 tot (p + 1) 0) rfl rfl (fun c _ hc => by
          rw [show p + 1 = off + ((a + j : Nat) : Int).toNat by omega]
          rcases (by omega : c = 0 ∨ c = 1) with h | h <;> subst h
          · exact ql_ixR (by simp +decide only [go_sem] <;> rfl) (by simp +decide only [go_sem] <;> rfl) rfl hWl (by omega) (by omega)
          · exact ql_ixR (by simp +decide only [go_sem] <;> rfl) (by simp +decide only [go_sem] <;> rfl) rfl (by simpa using hWl) (by omega) (by omega)) ?_
        refine BRun.q0 rfl rfl (ql_loadR (b := 0) (by simp +decide only [go_sem] <;> rfl) rfl hWl l2) ?_
        refine BRun.q0 (v := .ptr 0 tot (p + 1) 0) rfl rfl (by
          rw [show p + 1 = off + ((a + j : Nat) : Int).toNat by omega]
          exact ql_ixR (by simp +decide only [go_sem] <;> rfl) (by simp +decide only [go_sem] <;> rfl) rfl hWl (by omega) (by omega)) ?_
        refine BRun.p1 rfl rfl (fun ρ' h => pl_storeR (b := 0) (H := [rbl W]) y (i := p + 1) ((h (.tmp 51) (by simp [Op.operands])).trans (by simp +decide [go_sem])) ((h (.tmp 46) (by simp [Op.operands])).trans (by simp +decide only [go_sem] <;> rfl)) (by rfl) hWl (by omega)) ?_
        refine BRun.nil ?_
        refine goD ?_
        refine ARun.p1 rfl rfl (pl_storeR (b := 0) (tot := tot) x (i := p) (by rw [show p = off + (a + (j - 1)) by omega]; simp +decide [go_sem]; omega) (by simp +decide only [go_sem] <;> rfl) (by rfl) (by simpa using hWl) (by rw [List.length_set]; omega)) ?_
        simp only [List.set, l3]
        refine goD ?_
        rw [wrap_id (by omega) (by omega), hjs]
        exact ⟨j - 1, ⟨by omega, fun z hz => by
          rw [hnx] at hz
          rcases List.mem_cons.1 hz with rfl | hz
          · omega
          · exact hT z hz⟩, by omega, .wk⟩
    simp only [Bool.cond_eq_ite, Bool.if_false_right] at hc
    have e1 : T.take j ++ x :: T.drop j = st (S.take (k + 1)) := hfin j hj hT fun h0 z hz => by
      rw [hz] at hy
      simp only [Option.getD_some] at hy
      subst hy
      simp at hc
      have := hc (by omega)
      omega
    have e2 : P ++ (T.take j ++ x :: T.drop j) ++ R = P ++ (st (S.take (k + 1)) ++ S.drop (k + 1)) ++ Q := by rw [e1, hR]; simp
    rw [e2]
    refine goD ?_
    rw [wrap_succ (by omega)]
    exact ⟨k + 1, ⟨by omega, .inl (by omega)⟩, by omega, (.env' (by simp +decide only [go_sem, show ((a + (k + 1) : Nat) : Int) = ((a + k : Nat) : Int) + 1 by omega] <;> simp [Le.refl, show ((a + (k + 1) : Nat) : Int) = ((a + k : Nat) : Int) + 1 by omega]))⟩
  have h := of_decide_eq_false h
  have e : st (S.take k) ++ S.drop k = st S := by rw [List.take_of_length_le (by omega), List.drop_of_length_le (by omega), List.append_nil]
  rw [e]
  refine goD ?_
  exact RetH.same rfl rfl rfl
end Go.Ab
-- fnh
set_option maxHeartbeats 4000000
namespace Go.Ab
open Go Go.Ab Go.Proofs Go.Ab.Ty

/-! ### two ranges exchanged; a rotation -/
theorem swr_ok (X A Y B Z : List Int) (off len a b tot : Nat) (ha : X.length = off + a) (hAB : B.length = A.length) (hb : b = a + A.length + Y.length) (hbl : b + B.length ≤ len) (ht : (X ++ A ++ Y ++ B ++ Z).length = tot) (hl : off + len ≤ tot) (hm : tot ≤ 1000000) :
    FnH Tryd.prog 123 [.own 0 tot off len, .int a, .int b, .int A.length, .clo 102 []] [rbl (X ++ A ++ Y ++ B ++ Z)] (.tup []) [rbl (X ++ B ++ Y ++ A ++ Z)] := by
  simp only [List.length_append] at ht
  refine FnH.intro' [(0, .own 0 tot off len), (1, .int a), (2, .int b), (3, .int A.length), (4, .clo 102 [])] 5 38 1 Tryd.func123 (by kernel_rfl) rfl rfl rfl rfl rfl rfl ?_
  refine goD ?_
  refine keA [0, 1, 2, 3, 10] ?_
  refine AWp.loopH (J := fun i : Nat => i ≤ A.length) (fun i => [(10, .int i)]) (fun i => [rbl (X ++ (B.take i ++ A.drop i) ++ Y ++ (A.take i ++ B.drop i) ++ Z)]) (fun i => A.length - i) 0 (Nat.zero_le _) (by simp only [List.take_zero, List.drop_zero, List.nil_append]; exact .wk) ?_
  intro i hi
  refine goD ?_
  refine ifA (fun h => ?_) (fun h => ?_)
  · have h := of_decide_eq_true h
    have hi : i < A.length := by omega
    have hiB : i < B.length := by omega
    obtain ⟨u, hu1, hu2⟩ : ∃ u, A.drop i = u :: A.drop (i + 1) ∧ A.take (i + 1) = A.take i ++ [u] := ⟨A[i], List.drop_eq_getElem_cons hi, List.take_succ_eq_append_getElem hi⟩
    obtain ⟨v, hv1, hv2⟩ : ∃ v, B.drop i = v :: B.drop (i + 1) ∧ B.take (i + 1) = B.take i ++ [v] := ⟨B[i], List.drop_eq_getElem_cons hiB, List.take_succ_eq_append_getElem hiB⟩
    have e1 : X ++ (B.take i ++ A.drop i) ++ Y ++ (A.take i ++ B.drop i) ++ Z = (X ++ B.take i) ++ u :: (A.drop (i + 1) ++ Y ++ A.take i) ++ v :: (B.drop (i + 1) ++ Z) := by
      rw [hu1, hv1]; simp
    have e2 : X ++ (B.take (i + 1) ++ A.drop (i + 1)) ++ Y ++ (A.take (i + 1) ++ B.drop (i + 1)) ++ Z = (X ++ B.take i) ++ v :: (A.drop (i + 1) ++ Y ++ A.take i) ++ u :: (B.drop (i + 1) ++ Z) := by
      rw [hu2, hv2]; simp
    have l1 := at_app (X ++ B.take i) ((A.drop (i + 1) ++ Y ++ A.take i) ++ v :: (B.drop (i + 1) ++ Z)) u
    have l2 := at_appF (X ++ B.take i) (A.drop (i + 1) ++ Y ++ A.take i) (B.drop (i + 1) ++ Z) v u
    have l3 := swp_far (X ++ B.take i) (A.drop (i + 1) ++ Y ++ A.take i) (B.drop (i + 1) ++ Z) v u
    rw [show (X ++ B.take i).length = off + (a + i) by simp; omega] at l1 l2 l3
    rw [show off + (a + i) + 1 + (A.drop (i + 1) ++ Y ++ A.take i).length = off + (b + i) by simp; omega] at l2 l3
    rw [← e2] at l3
    have hWl : ((X ++ B.take i) ++ u :: (A.drop (i + 1) ++ Y ++ A.take i) ++ v :: (B.drop (i + 1) ++ Z)).length = tot := by simp; omega
    have l1 : ((X ++ B.take i) ++ u :: (A.drop (i + 1) ++ Y ++ A.take i) ++ v :: (B.drop (i + 1) ++ Z))[off + (a + i)]? = some u := by rw [← l1]; simp
    rw [e1]
    generalize (X ++ B.take i) ++ u :: (A.drop (i + 1) ++ Y ++ A.take i) ++ v :: (B.drop (i + 1) ++ Z) = W at *
    have w1 : IntKind.i64.wrap ((a : Int) + i) = ((a + i : Nat) : Int) := by rw [wrap_id (by omega) (by omega)]; omega
    have w2 : IntKind.i64.wrap ((b : Int) + i) = ((b + i : Nat) : Int) := by rw [wrap_id (by omega) (by omega)]; omega
    have t1 : ((a + i : Nat) : Int).toNat = a + i := by omega
    have t2 : ((b + i : Nat) : Int).toNat = b + i := by omega
    refine goD ?_
    with_reducible apply AWp.drawBK (k := 22) [none, none, none, none, none, none, none, none, none, none, none, none, none, none, none, none, none, none, none, none, none, some 0] [0, 0, 0, 0, 1, 1, 1, 1, 0, 0, 0, 0, 0, 0, 1, 1, 1, 1, 1, 0, 0, 1] (fun c => match c with | 0 => [rbl W] | _ => [rbl (W.set (off + (a + i)) v)]) 1 follows
    · refine ⟨rfl, rfl, by kernel_rfl, by decide, ?_, ?_⟩
      · simp +decide only [go_sem, List.map, List.take]; rfl
      · simp +decide only [go_sem, List.map, List.drop]; rfl
    · kernel_rfl
    · kernel_rfl
    · rfl
    · refine BRun.qf0 rfl rfl (by simp +decide only [go_sem] <;> rfl) ?_
      refine BRun.qf0 rfl rfl (by simp +decide only [go_sem] <;> rfl) ?_
      refine BRun.qf0 rfl rfl (by simp +decide only [go_sem] <;> rfl) ?_
      refine BRun.qf0 rfl rfl (by simp +decide only [go_sem] <;> rfl) ?_
      rw [w1]
      refine BRun.qf1 rfl rfl (by simp +decide only [go_sem] <;> rfl) (by simp +decide only [go_sem] <;> rfl) ?_
      refine BRun.qf1 rfl rfl (by simp +decide only [go_sem] <;> rfl) (by simp +decide only [go_sem] <;> rfl) ?_
      refine BRun.qf1 rfl rfl (by simp +decide only [go_sem] <;> rfl) (by simp +decide only [go_sem] <;> rfl) ?_
      refine BRun.qf1 rfl rfl (by simp +decide only [go_sem] <;> rfl) (by simp +decide only [go_sem] <;> rfl) ?_
      rw [w2]
      refine BRun.qf0 rfl rfl (by simp +decide only [go_sem] <;> rfl) ?_
      refine BRun.qf0 rfl rfl (by simp +decide only [go_sem] <;> rfl) ?_
      refine BRun.qf0 rfl rfl (by simp +decide only [go_sem] <;> rfl) ?_
      refine BRun.qf0 rfl rfl (by simp +decide only [go_sem] <;> rfl) ?_
      rw [w2]
      refine BRun.q0 rfl rfl (ql_ixR (by simp +decide only [go_sem] <;> rfl) (by simp +decide only [go_sem] <;> rfl) rfl hWl (by omega) (by omega)) ?_
      rw [t2]
      refine BRun.q0 rfl rfl (ql_loadR (b := 0) (by simp +decide only [go_sem] <;> rfl) rfl hWl l2) ?_
      refine BRun.qf1 rfl rfl (by simp +decide only [go_sem] <;> rfl) (by simp +decide only [go_sem] <;> rfl) ?_
      refine BRun.qf1 rfl rfl (by simp +decide only [go_sem] <;> rfl) (by simp +decide only [go_sem] <;> rfl) ?_
      refine BRun.qf1 rfl rfl (by simp +decide only [go_sem] <;> rfl) (by simp +decide only [go_sem] <;> rfl) ?_
      refine BRun.qf1 rfl rfl (by simp +decide only [go_sem] <;> rfl) (by simp +decide only [go_sem] <;> rfl) ?_
      rw [w1]
      refine BRun.q1 (v := .ptr 0 tot (off + (a + i)) 0) rfl rfl (fun c _ hc => by
        rw [show off + (a + i) = off + ((a + i : Nat) : Int).toNat by omega]
        rcases (by omega : c = 0 ∨ c = 1) with h | h <;> subst h
        · exact ql_ixR (by simp +decide only [go_sem] <;> rfl) (by simp +decide only [go_sem] <;> rfl) rfl hWl (by omega) (by omega)
        · exact ql_ixR (by simp +decide only [go_sem] <;> rfl) (by simp +decide only [go_sem] <;> rfl) rfl (by simpa using hWl) (by omega) (by omega)) ?_
      refine BRun.q0 rfl rfl (ql_loadR (b := 0) (by simp +decide only [go_sem] <;> rfl) rfl hWl l1) ?_
      refine BRun.q0 (v := .ptr 0 tot (off + (a + i)) 0) rfl rfl (by
        rw [show off + (a + i) = off + ((a + i : Nat) : Int).toNat by omega]
        exact ql_ixR (by simp +decide only [go_sem] <;> rfl) (by simp +decide only [go_sem] <;> rfl) rfl hWl (by omega) (by omega)) ?_
      refine BRun.p1 rfl rfl (fun ρ' h => pl_storeR (b := 0) (H := [rbl W]) v (i := off + (a + i)) ((h (.tmp 36) (by simp [Op.operands])).trans (by simp +decide [go_sem])) ((h (.tmp 29) (by simp [Op.operands])).trans (by simp +decide only [go_sem] <;> rfl)) (by rfl) hWl (by omega)) ?_
      refine BRun.nil ?_
      refine goD ?_
      refine ARun.p1 rfl rfl (pl_storeR (b := 0) (tot := tot) u (i := off + (b + i)) (by simp +decide [go_sem]; try omega) (by simp +decide only [go_sem] <;> rfl) (by rfl) (by simpa using hWl) (by rw [List.length_set]; omega)) ?_
      simp only [List.set, l3]
      refine goD ?_
      rw [wrap_succ (by omega)]
      exact ⟨i + 1, by omega, by omega, .wk⟩
  have h := of_decide_eq_false h
  have e : X ++ (B.take i ++ A.drop i) ++ Y ++ (A.take i ++ B.drop i) ++ Z = X ++ B ++ Y ++ A ++ Z := by
    rw [List.take_of_length_le (l := B) (by omega), List.drop_of_length_le (l := A) (by omega), List.take_of_length_le (l := A) (by omega), List.drop_of_length_le (l := B) (by omega)]; simp
  rw [e]
  refine goD ?_
  exact RetH.same rfl rfl rfl

theorem swr_n (X A Y B Z : List Int) (off len a b n tot : Nat) (hA : A.length = n) (hB : B.length = n) (ha : X.length = off + a) (hb : b = a + n + Y.length) (hbl : b + n ≤ len) (ht : (X ++ A ++ Y ++ B ++ Z).length = tot) (hl : off + len ≤ tot) (hm : tot ≤ 1000000) :
    FnH Tryd.prog 123 [.own 0 tot off len, .int a, .int b, .int n, .clo 102 []] [rbl (X ++ A ++ Y ++ B ++ Z)] (.tup []) [rbl (X ++ B ++ Y ++ A ++ Z)] := by
  subst hA
  exact swr_ok X A Y B Z off len a b tot ha hB hb (by omega) ht hl hm
theorem PuBl_R (l : List Int) : PuBl [rbl l] := fun blk h1 e h2 c h3 => by
  rw [List.mem_singleton] at h1; subst h1
  obtain ⟨x, _, rfl⟩ := List.mem_map.1 h2
  exact Pu_r32 x c h3
theorem rot_ok (X A B Z : List Int) (off len a m b tot : Nat) (ha : X.length = off + a) (h1 : 0 < A.length) (h2 : 0 < B.length) (hmm : m = a + A.length) (hb : b = m + B.length) (hbl : b ≤ len) (ht : (X ++ A ++ B ++ Z).length = tot) (hl : off + len ≤ tot) (hm : tot ≤ 1000000) :
    FnH Tryd.prog 122 [.own 0 tot off len, .int a, .int m, .int b, .clo 102 []] [rbl (X ++ A ++ B ++ Z)] (.tup []) [rbl (X ++ B ++ A ++ Z)] := by
  simp only [List.length_append] at ht
  refine FnH.intro' [(0, .own 0 tot off len), (1, .int a), (2, .int m), (3, .int b), (4, .clo 102 [])] 5 58 1 Tryd.func122 (by kernel_rfl) rfl rfl rfl rfl rfl rfl ?_
  refine goD ?_
  rw [wrap_id (by omega) (by omega)]
  refine goD ?_
  rw [wrap_id (by omega) (by omega)]
  refine keA [0, 2, 4, 10, 11] ?_
  refine AWp.loopH (X := List Int × List Int × List Int × List Int) (J := fun (p, q, r, z) => 0 < q.length ∧ 0 < r.length ∧ p.length + q.length = off + m ∧ m + r.length ≤ b ∧ q.length ≤ m ∧ p ++ r ++ q ++ z = X ++ B ++ A ++ Z) (fun (p, q, r, z) => [(10, .int q.length), (11, .int r.length)]) (fun (p, q, r, z) => [rbl (p ++ q ++ r ++ z)]) (fun (p, q, r, z) => q.length + r.length) (X, A, B, Z) ⟨h1, h2, by omega, by omega, by omega, rfl⟩ (.env' (by simp +decide only [go_sem, show (m : Int) - a = A.length by omega, show (b : Int) - m = B.length by omega] <;> simp [Le.refl, show (m : Int) - a = A.length by omega, show (b : Int) - m = B.length by omega])) ?_
  rintro ⟨p, q, r, z⟩ ⟨hq, hr, hp, hrb, hqm, he⟩
  have htl := congrArg List.length he
  simp only [List.length_append] at htl
  simp only
  refine goD ?_
  refine ifA (fun h => ?_) (fun h => ?_)
  · simp at h
    refine goD ?_
    refine ifA (fun hij => ?_) (fun hij => ?_)
    · have hij := of_decide_eq_true hij
      obtain ⟨q1, q2, rfl, hq1⟩ : ∃ q1 q2, q = q1 ++ q2 ∧ q1.length = r.length := ⟨q.take r.length, q.drop r.length, (List.take_append_drop _ _).symm, by simp; omega⟩
      simp only [List.length_append] at *
      have e1 : p ++ (q1 ++ q2) ++ r ++ z = p ++ q1 ++ q2 ++ r ++ z := by simp
      rw [e1]
      obtain ⟨x, hx⟩ : ∃ x, x = m - (q1.length + q2.length) := ⟨_, rfl⟩
      have i1 := swr_n p q1 q2 r z off len x m r.length tot hq1 rfl (by omega) (by omega) (by omega) (by simp; omega) hl hm
      refine goD ?_
      rw [wrap_id (by omega) (by omega), show (m : Int) - ((q1.length + q2.length : Nat) : Int) = (x : Int) by omega]
      refine ARun.p1 rfl rfl (pl_callH (e := [0]) (d' := .tup []) i1 (CallE.put1 (b := 0) rfl (PuBl_R _) (PuBl_R _)) rfl (by simp +decide only [go_sem] <;> rfl) (by simp +decide only [go_sem, List.map]; exact ⟨.own rfl, .pu (.base _), .pu (.base _), .pu (.base _), .pu (.clo (by simp)), trivial⟩) (.pu (.tup (by simp)))) ?_
      refine goD ?_
      rw [wrap_id (by omega) (by omega), show ((q1.length + q2.length : Nat) : Int) - r.length = q2.length by omega, ← hq1]
      refine ⟨(p ++ r, q2, q1, z), ⟨?_, ?_, ?_, ?_, ?_, ?_⟩, ?_, (.env' (by simp +decide only [go_sem, List.set] <;> simp [Le.refl, List.set]))⟩
      all_goals simp only [List.length_append]
      · omega
      · omega
      · omega
      · omega
      · omega
      · rw [← he]; simp
      · omega
    · have hij := of_decide_eq_false hij
      obtain ⟨r1, r2, rfl, hr2⟩ : ∃ r1 r2, r = r1 ++ r2 ∧ r2.length = q.length := ⟨r.take (r.length - q.length), r.drop (r.length - q.length), (List.take_append_drop _ _).symm, by simp; omega⟩
      simp only [List.length_append] at *
      have e1 : p ++ q ++ (r1 ++ r2) ++ z = p ++ q ++ r1 ++ r2 ++ z := by simp
      rw [e1]
      obtain ⟨x, hx⟩ : ∃ x, x = m - q.length := ⟨_, rfl⟩
      obtain ⟨y, hy⟩ : ∃ y, y = m + r1.length := ⟨_, rfl⟩
      have i1 := swr_n p q r1 r2 z off len x y q.length tot rfl hr2 (by omega) (by omega) (by omega) (by simp; omega) hl hm
      have w1 : IntKind.i64.wrap ((m : Int) - q.length) = (x : Int) := by rw [wrap_id (by omega) (by omega)]; omega
      have w2 : IntKind.i64.wrap (IntKind.i64.wrap ((m : Int) + ((r1.length + r2.length : Nat) : Int)) - q.length) = (y : Int) := by
        rw [wrap_id (x := (m : Int) + ((r1.length + r2.length : Nat) : Int)) (by omega) (by omega), wrap_id (by omega) (by omega)]; omega
      refine goD ?_
      rw [w1, w2]
      refine ARun.p1 rfl rfl (pl_callH (e := [0]) (d' := .tup []) i1 (CallE.put1 (b := 0) rfl (PuBl_R _) (PuBl_R _)) rfl (by simp +decide only [go_sem] <;> rfl) (by simp +decide only [go_sem, List.map]; exact ⟨.own rfl, .pu (.base _), .pu (.base _), .pu (.base _), .pu (.clo (by simp)), trivial⟩) (.pu (.tup (by simp)))) ?_
      refine goD ?_
      rw [wrap_id (by omega) (by omega), show ((r1.length + r2.length : Nat) : Int) - q.length = r1.length by omega, ← hr2]
      rw [show p ++ r2 ++ r1 ++ q ++ z = p ++ r2 ++ r1 ++ (q ++ z) by simp]
      refine ⟨(p, r2, r1, q ++ z), ⟨?_, ?_, ?_, ?_, ?_, ?_⟩, ?_, .wk⟩
      all_goals simp only [List.length_append]
      · omega
      · omega
      · omega
      · omega
      · omega
      · rw [← he]; simp
      · omega
  · simp at h
    obtain ⟨x, hx⟩ : ∃ x, x = m - q.length := ⟨_, rfl⟩
    have i1 := swr_n p q [] r z off len x m q.length tot rfl (by omega) (by omega) (by simp; omega) (by omega) (by simp; omega) hl hm
    simp only [List.append_nil] at i1
    refine goD ?_
    rw [wrap_id (by omega) (by omega), show (m : Int) - q.length = (x : Int) by omega]
    refine ARun.p1 rfl rfl (pl_callH (e := [0]) (d' := .tup []) i1 (CallE.put1 (b := 0) rfl (PuBl_R _) (PuBl_R _)) rfl (by simp +decide only [go_sem] <;> rfl) (by simp +decide only [go_sem, List.map]; exact ⟨.own rfl, .pu (.base _), .pu (.base _), .pu (.base _), .pu (.clo (by simp)), trivial⟩) (.pu (.tup (by simp)))) ?_
    refine goD ?_
    rw [he]
    exact RetH.same rfl rfl rfl
end Go.Ab
