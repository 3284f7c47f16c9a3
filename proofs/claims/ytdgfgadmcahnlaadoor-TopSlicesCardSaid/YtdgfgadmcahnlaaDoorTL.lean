/- Part of the proof. -/
import Derived.Test.YtdgfgadmcahnlaaDoorTK
import Derived.Test.YtdgfgadmcahnlaaDoorAbL
set_option linter.unusedSimpArgs false
set_option linter.unusedVariables false
-- fnh
set_option maxHeartbeats 4000000
namespace Go.Ab
open Go Go.Ab Go.Proofs Go.Ab.Ty

/-! ### the merge in place: slices.symMergeCmpFunc -/
def aA (A : List Int) (i : Nat) : Int := (A[i]?).getD 0
theorem aA_e {A : List Int} {i : Nat} (h : i < A.length) : A[i]? = some (aA A i) := by simp [aA, h]
theorem srt_le {A : List Int} (h : Srt A) {i j : Nat} (hij : i ≤ j) (hj : j < A.length) : rk (aA A i) ≤ rk (aA A j) := by
  have hi : i < A.length := by omega
  simp only [aA, List.getElem?_eq_getElem hi, List.getElem?_eq_getElem hj, Option.getD_some]
  rcases Nat.lt_or_ge i j with h1 | h1
  · exact List.pairwise_iff_getElem.1 h i j hi hj h1
  · obtain rfl : i = j := by omega
    exact Int.le_refl _
theorem mem_take_aA {A : List Int} {k : Nat} {y : Int} (h : y ∈ A.take k) : ∃ i, i < k ∧ i < A.length ∧ y = aA A i := by
  obtain ⟨i, hi, rfl⟩ := List.mem_iff_getElem.1 h
  simp at hi
  exact ⟨i, by omega, by omega, by simp [aA, show i < A.length by omega]⟩
theorem mem_drop_aA {A : List Int} {k : Nat} {y : Int} (h : y ∈ A.drop k) : ∃ i, k ≤ i ∧ i < A.length ∧ y = aA A i := by
  obtain ⟨i, hi, rfl⟩ := List.mem_iff_getElem.1 h
  simp at hi
  have : k + i < A.length := by omega
  exact ⟨k + i, by omega, by omega, by simp [aA, this]⟩
theorem at_A {X A R : List Int} {p i : Nat} (hp : X.length = p) (hi : i < A.length) : (X ++ A ++ R)[p + i]? = some (aA A i) := by
  subst hp
  rw [List.append_assoc, List.getElem?_append_right (by omega), Nat.add_sub_cancel_left, List.getElem?_append_left hi]
  exact aA_e hi
theorem half_ok (i j : Nat) (h : i + j < 4000000) : IntKind.i64.wrap ((IntKind.u64.wrap (IntKind.i64.wrap ((i : Int) + j))).fdiv (2 ^ min (Int.toNat 1) 64)) = (((i + j) / 2 : Nat) : Int) := by
  rw [wrap_id (x := (i : Int) + j) (by omega) (by omega), IntWalk.u64_in _ ⟨by omega, by omega⟩]
  have e : ((i : Int) + j).fdiv (2 ^ min (Int.toNat 1) 64) = (((i + j) / 2 : Nat) : Int) := by
    show ((i : Int) + j).fdiv 2 = _
    rw [Int.fdiv_eq_ediv_of_nonneg _ (by omega)]
    omega
  rw [e, wrap_id (by omega) (by omega)]
theorem sm_ok : ∀ (N : Nat) (X A B Z : List Int) (off len a m b tot : Nat), A.length + B.length ≤ N → X.length = off + a → 0 < A.length → 0 < B.length → m = a + A.length → b = m + B.length → b ≤ len → Srt A → Srt B → (X ++ A ++ B ++ Z).length = tot → off + len ≤ tot → tot ≤ 1000000 →
    FnH Tryd.prog 121 [.own 0 tot off len, .int a, .int m, .int b, .clo 102 []] [rbl (X ++ A ++ B ++ Z)] (.tup []) [rbl (X ++ st (A ++ B) ++ Z)] := by
  intro N
  induction N with
  | zero => intro X A B Z off len a m b tot hN; omega
  | succ N ih =>
  intro X A B Z off len a m b tot hN ha h1 h2 hmm hb hbl hA hB ht hl hm
  have ht' := ht
  simp only [List.length_append] at ht'
  refine FnH.intro' [(0, .own 0 tot off len), (1, .int a), (2, .int m), (3, .int b), (4, .clo 102 [])] 5 220 1 Tryd.func121 (by kernel_rfl) rfl rfl rfl rfl rfl rfl ?_
  refine goD ?_
  rw [wrap_id (by omega) (by omega)]
  refine ifA (fun c1 => ?_) (fun c1 => ?_)
  · have c1 := of_decide_eq_true c1
    obtain ⟨x, rfl⟩ : ∃ x, A = [x] := by
      match A, h1 with
      | [x], _ => exact ⟨x, rfl⟩
      | x :: y :: r, _ => simp at hmm; omega
    simp at hmm
    refine goD ?_
    refine keA [0, 1, 2, 3, 4, 10, 11] ?_
    refine AWp.loopP (X := Nat × Nat) (J := fun (i, j) => m ≤ i ∧ i ≤ j ∧ j ≤ b ∧ (i = m ∨ rk (aA B (i - 1 - m)) < rk x) ∧ (j = b ∨ rk x ≤ rk (aA B (j - m)))) (fun (i, j) => [(10, .int i), (11, .int j)]) (fun (i, j) => j - i) (m, b) ⟨Nat.le_refl _, by omega, Nat.le_refl _, .inl rfl, .inl rfl⟩ .wk ?_
    rintro ⟨i, j⟩ ⟨hi, hij, hj, q1, q2⟩
    simp only
    refine goD ?_
    refine ifA (fun hc => ?_) (fun hc => ?_)
    · have hc := of_decide_eq_true hc
      refine goD ?_
      rw [half_ok i j (by omega)]
      obtain ⟨g, hg⟩ : ∃ g, g = (i + j) / 2 := ⟨_, rfl⟩
      rw [← hg]
      have hg1 : i ≤ g := by omega
      have hg2 : g < j := by omega
      have l1 := at_A (X := X ++ [x]) (A := B) (R := Z) (p := off + m) (i := g - m) (by simp; omega) (by omega)
      rw [show off + m + (g - m) = off + (g : Int).toNat by omega] at l1
      have l2 := at_A (X := X) (A := [x]) (R := B ++ Z) (p := off + a) (i := 0) (by omega) (by simp)
      rw [show off + a + 0 = off + (a : Int).toNat by omega, show aA [x] 0 = x from rfl, ← List.append_assoc] at l2
      clear hg
      refine keA [0, 1, 2, 3, 4, 10, 11, 12] ?_
      refine drA (k := 11) follows (hr := ?_)
      refine goD ?_
      refine ARun.q1 rfl rfl (ql_ixR (b := 0) (l := X ++ [x] ++ B ++ Z) (by simp +decide only [go_sem] <;> rfl) (by simp +decide only [go_sem] <;> rfl) rfl ht (by omega) (by omega)) ?_
      refine goD ?_
      refine ARun.q1 rfl rfl (ql_loadR (b := 0) (by simp +decide only [go_sem] <;> rfl) rfl ht l1) ?_
      refine goD ?_
      refine ARun.q1 rfl rfl (ql_ixR (b := 0) (l := X ++ [x] ++ B ++ Z) (by simp +decide only [go_sem] <;> rfl) (by simp +decide only [go_sem] <;> rfl) rfl ht (by omega) (by omega)) ?_
      refine goD ?_
      refine ARun.q1 rfl rfl (ql_loadR (b := 0) (by simp +decide only [go_sem] <;> rfl) rfl ht l2) ?_
      refine goD ?_
      refine callA (cmp_ok (aA B (g - m)) x) ?_
      refine goD ?_
      refine ifA (fun hd => ?_) (fun hd => ?_)
      · have hd := of_decide_eq_true hd
        refine goD ?_
        rw [wrap_succ (by omega)]
        exact ⟨(g + 1, j), ⟨by omega, by omega, hj, .inr (by rw [Nat.add_sub_cancel]; omega), q2⟩, by simp only; omega, .wk⟩
      · have hd := of_decide_eq_false hd
        refine goD ?_
        exact ⟨(i, g), ⟨hi, by omega, by omega, q1, .inr (by simp only; omega)⟩, by simp only; omega, .wk⟩
    have hc := of_decide_eq_false hc
    obtain rfl : i = j := by omega
    obtain ⟨t, rfl⟩ : ∃ t, i = m + t := ⟨i - m, by omega⟩
    have htB : t ≤ B.length := by omega
    have hfin : B.take t ++ x :: B.drop t = st ([x] ++ B) := by
      have := st_insF (S1 := B.take t) (S2 := B.drop t) (x := x) (by rw [List.take_append_drop]; exact hB) (fun y hy => by
        obtain ⟨i, h1, h2, rfl⟩ := mem_take_aA hy
        rcases q1 with q1 | q1
        · omega
        · have := srt_le hB (i := i) (j := m + t - 1 - m) (by omega) (by omega)
          omega) (fun y hy => by
        obtain ⟨i, h1, h2, rfl⟩ := mem_drop_aA hy
        rcases q2 with q2 | q2
        · omega
        · have := srt_le hB (i := m + t - m) (j := i) (by omega) (by omega)
          omega)
      rw [List.take_append_drop] at this
      exact this
    refine goD ?_
    refine keA [0, 1, 10, 13] ?_
    refine AWp.loopH (J := fun c : Nat => c ≤ t) (fun c => [(13, .int ((a + c : Nat) : Int))]) (fun c => [rbl (X ++ (B.take c ++ x :: B.drop c) ++ Z)]) (fun c => t - c) 0 (Nat.zero_le _) (by
      rw [show X ++ (B.take 0 ++ x :: B.drop 0) ++ Z = X ++ [x] ++ B ++ Z by simp]; exact .wk) ?_
    intro c hct
    refine goD ?_
    rw [wrap_id (by omega) (by omega)]
    refine ifA (fun hk => ?_) (fun hk => ?_)
    · have hk := of_decide_eq_true hk
      have hcl : c < B.length := by omega
      obtain ⟨y, hy1, hy2⟩ : ∃ y, B.drop c = y :: B.drop (c + 1) ∧ B.take (c + 1) = B.take c ++ [y] := ⟨B[c], List.drop_eq_getElem_cons hcl, List.take_succ_eq_append_getElem hcl⟩
      have e1 : X ++ (B.take c ++ x :: B.drop c) ++ Z = (X ++ B.take c) ++ x :: y :: (B.drop (c + 1) ++ Z) := by rw [hy1]; simp
      have e2 : X ++ (B.take (c + 1) ++ x :: B.drop (c + 1)) ++ Z = (X ++ B.take c) ++ y :: x :: (B.drop (c + 1) ++ Z) := by rw [hy2]; simp
      have l1 := at_app (X ++ B.take c) (y :: (B.drop (c + 1) ++ Z)) x
      have l2 := at_app1 (X ++ B.take c) (B.drop (c + 1) ++ Z) y x
      have l3 := swp_up (X ++ B.take c) (B.drop (c + 1) ++ Z) y x
      rw [show (X ++ B.take c).length = off + (a + c) by simp; omega] at l1 l2 l3
      rw [← e2] at l3
      have hWl : ((X ++ B.take c) ++ x :: y :: (B.drop (c + 1) ++ Z)).length = tot := by simp at ht' ⊢; omega
      rw [e1]
      generalize (X ++ B.take c) ++ x :: y :: (B.drop (c + 1) ++ Z) = W at *
      have hjs : IntKind.i64.wrap (((a + c : Nat) : Int) + 1) = ((a + c + 1 : Nat) : Int) := by rw [wrap_id (by omega) (by omega)]; omega
      refine goD ?_
      with_reducible apply AWp.drawBK (k := 16) [none, none, none, none, none, none, none, none, none, none, none, none, none, none, none, some 0] [0, 0, 1, 1, 1, 0, 0, 0, 0, 0, 1, 1, 1, 0, 0, 1] (fun c' => match c' with | 0 => [rbl W] | _ => [rbl (W.set (off + (a + c)) y)]) 1 follows
      · refine ⟨rfl, rfl, by kernel_rfl, by decide, ?_, ?_⟩
        · simp +decide only [go_sem, List.map, List.take]; rfl
        · simp +decide only [go_sem, List.map, List.drop]; rfl
      · kernel_rfl
      · kernel_rfl
      · rfl
      · refine BRun.qf0 rfl rfl (by simp +decide only [go_sem] <;> rfl) ?_
        refine BRun.qf0 rfl rfl (by simp +decide only [go_sem] <;> rfl) ?_
        refine BRun.qf1 rfl rfl (by simp +decide only [go_sem] <;> rfl) (by simp +decide only [go_sem] <;> rfl) ?_
        refine BRun.qf1 rfl rfl (by simp +decide only [go_sem] <;> rfl) (by simp +decide only [go_sem] <;> rfl) ?_
        refine BRun.qf1 rfl rfl (by simp +decide only [go_sem] <;> rfl) (by simp +decide only [go_sem] <;> rfl) ?_
        rw [hjs]
        refine BRun.qf0 rfl rfl (by simp +decide only [go_sem] <;> rfl) ?_
        refine BRun.qf0 rfl rfl (by simp +decide only [go_sem] <;> rfl) ?_
        refine BRun.qf0 rfl rfl (by simp +decide only [go_sem] <;> rfl) ?_
        rw [hjs]
        refine BRun.q0 (v := .ptr 0 tot (off + (a + c) + 1) 0) rfl rfl (by
          rw [show off + (a + c) + 1 = off + ((a + c + 1 : Nat) : Int).toNat by omega]
          exact ql_ixR (by simp +decide only [go_sem] <;> rfl) (by simp +decide only [go_sem] <;> rfl) rfl hWl (by omega) (by omega)) ?_
        refine BRun.q0 rfl rfl (ql_loadR (b := 0) (by simp +decide only [go_sem] <;> rfl) rfl hWl l2) ?_
        refine BRun.qf1 rfl rfl (by simp +decide only [go_sem] <;> rfl) (by simp +decide only [go_sem] <;> rfl) ?_
        refine BRun.qf1 rfl rfl (by simp +decide only [go_sem] <;> rfl) (by simp +decide only [go_sem] <;> rfl) ?_
        refine BRun.q1 (v := .ptr 0 tot (off + (a + c)) 0) rfl rfl (fun c' _ hc => by
          rw [show off + (a + c) = off + ((a + c : Nat) : Int).toNat by omega]
          rcases (by omega : c' = 0 ∨ c' = 1) with h | h <;> subst h
          · exact ql_ixR (by simp +decide only [go_sem] <;> rfl) (by simp +decide only [go_sem] <;> rfl) rfl hWl (by omega) (by omega)
          · exact ql_ixR (by simp +decide only [go_sem] <;> rfl) (by simp +decide only [go_sem] <;> rfl) rfl (by simpa using hWl) (by omega) (by omega)) ?_
        refine BRun.q0 rfl rfl (ql_loadR (b := 0) (by simp +decide only [go_sem] <;> rfl) rfl hWl l1) ?_
        refine BRun.q0 (v := .ptr 0 tot (off + (a + c)) 0) rfl rfl (by
          rw [show off + (a + c) = off + ((a + c : Nat) : Int).toNat by omega]
          exact ql_ixR (by simp +decide only [go_sem] <;> rfl) (by simp +decide only [go_sem] <;> rfl) rfl hWl (by omega) (by omega)) ?_
        refine BRun.p1 rfl rfl (fun ρ' h => pl_storeR (b := 0) (H := [rbl W]) y (i := off + (a + c)) ((h (.tmp 75) (by simp [Op.operands])).trans (by simp +decide [go_sem])) ((h (.tmp 70) (by simp [Op.operands])).trans (by simp +decide only [go_sem] <;> rfl)) (by rfl) hWl (by omega)) ?_
        refine BRun.nil ?_
        refine goD ?_
        refine ARun.p1 rfl rfl (pl_storeR (b := 0) (tot := tot) x (i := off + (a + c) + 1) (by rw [show off + (a + c) + 1 = off + (a + c + 1) by omega]; simp +decide [go_sem]; try omega) (by simp +decide only [go_sem] <;> rfl) (by rfl) (by simpa using hWl) (by rw [List.length_set]; omega)) ?_
        simp only [List.set, l3]
        refine goD ?_
        rw [hjs]
        exact ⟨c + 1, by omega, by omega, .wk⟩
    have hk := of_decide_eq_false hk
    obtain rfl : c = t := by omega
    rw [hfin]
    refine goD ?_
    exact RetH.same rfl rfl rfl
  refine goD ?_
  rw [wrap_id (by omega) (by omega)]
  refine ifA (fun c2 => ?_) (fun c2 => ?_)
  · have c2 := of_decide_eq_true c2
    obtain ⟨x, rfl⟩ : ∃ x, B = [x] := by
      match B, h2 with
      | [x], _ => exact ⟨x, rfl⟩
      | x :: y :: r, _ => simp at hb; omega
    simp at hb
    refine goD ?_
    refine keA [0, 1, 2, 3, 4, 14, 15] ?_
    refine AWp.loopP (X := Nat × Nat) (J := fun (i, j) => a ≤ i ∧ i ≤ j ∧ j ≤ m ∧ (i = a ∨ rk (aA A (i - 1 - a)) ≤ rk x) ∧ (j = m ∨ rk x < rk (aA A (j - a)))) (fun (i, j) => [(14, .int i), (15, .int j)]) (fun (i, j) => j - i) (a, m) ⟨Nat.le_refl _, by omega, Nat.le_refl _, .inl rfl, .inl rfl⟩ .wk ?_
    rintro ⟨i, j⟩ ⟨hi, hij, hj, q1, q2⟩
    simp only
    refine goD ?_
    refine ifA (fun hc => ?_) (fun hc => ?_)
    · have hc := of_decide_eq_true hc
      refine goD ?_
      rw [half_ok i j (by omega)]
      obtain ⟨g, hg⟩ : ∃ g, g = (i + j) / 2 := ⟨_, rfl⟩
      rw [← hg]
      have hg1 : i ≤ g := by omega
      have hg2 : g < j := by omega
      have l1 := at_A (X := X) (A := A) (R := [x] ++ Z) (p := off + a) (i := g - a) (by omega) (by omega)
      rw [show off + a + (g - a) = off + (g : Int).toNat by omega, ← List.append_assoc] at l1
      have l2 := at_A (X := X ++ A) (A := [x]) (R := Z) (p := off + m) (i := 0) (by simp; omega) (by simp)
      rw [show off + m + 0 = off + (m : Int).toNat by omega, show aA [x] 0 = x from rfl] at l2
      clear hg
      refine keA [0, 1, 2, 3, 4, 14, 15, 16] ?_
      refine drA (k := 12) follows (hr := ?_)
      refine goD ?_
      refine ARun.q1 rfl rfl (ql_ixR (b := 0) (l := X ++ A ++ [x] ++ Z) (by simp +decide only [go_sem] <;> rfl) (by simp +decide only [go_sem] <;> rfl) rfl ht (by omega) (by omega)) ?_
      refine goD ?_
      refine ARun.q1 rfl rfl (ql_loadR (b := 0) (by simp +decide only [go_sem] <;> rfl) rfl ht l2) ?_
      refine goD ?_
      refine ARun.q1 rfl rfl (ql_ixR (b := 0) (l := X ++ A ++ [x] ++ Z) (by simp +decide only [go_sem] <;> rfl) (by simp +decide only [go_sem] <;> rfl) rfl ht (by omega) (by omega)) ?_
      refine goD ?_
      refine ARun.q1 rfl rfl (ql_loadR (b := 0) (by simp +decide only [go_sem] <;> rfl) rfl ht l1) ?_
      refine goD ?_
      refine callA (cmp_ok x (aA A (g - a))) ?_
      refine goD ?_
      refine ifA (fun hd => ?_) (fun hd => ?_)
      · have hd : ¬ (rk x - rk (aA A (g - a)) < 0) := by simpa using hd
        refine goD ?_
        rw [wrap_succ (by omega)]
        exact ⟨(g + 1, j), ⟨by omega, by omega, hj, .inr (by rw [Nat.add_sub_cancel]; omega), q2⟩, by simp only; omega, .wk⟩
      · have hd : rk x - rk (aA A (g - a)) < 0 := by simpa using hd
        refine goD ?_
        exact ⟨(i, g), ⟨hi, by omega, by omega, q1, .inr (by simp only; omega)⟩, by simp only; omega, .wk⟩
    have hc := of_decide_eq_false hc
    obtain rfl : i = j := by omega
    obtain ⟨t, rfl⟩ : ∃ t, i = a + t := ⟨i - a, by omega⟩
    have htA : t ≤ A.length := by omega
    have hfin : A.take t ++ x :: A.drop t = st (A ++ [x]) := by
      have := st_ins (S1 := A.take t) (S2 := A.drop t) (x := x) (by rw [List.take_append_drop]; exact hA) (fun y hy => by
        obtain ⟨i, h1, h2, rfl⟩ := mem_take_aA hy
        rcases q1 with q1 | q1
        · omega
        · have := srt_le hA (i := i) (j := a + t - 1 - a) (by omega) (by omega)
          omega) (fun y hy => by
        obtain ⟨i, h1, h2, rfl⟩ := mem_drop_aA hy
        rcases q2 with q2 | q2
        · omega
        · have := srt_le hA (i := a + t - a) (j := i) (by omega) (by omega)
          omega)
      rw [List.take_append_drop] at this
      exact this
    refine goD ?_
    refine keA [0, 2, 14, 17] ?_
    refine AWp.loopH (J := fun c : Nat => t ≤ c ∧ c ≤ A.length) (fun c => [(17, .int ((a + c : Nat) : Int))]) (fun c => [rbl (X ++ (A.take c ++ x :: A.drop c) ++ Z)]) (fun c => c) A.length ⟨htA, Nat.le_refl _⟩ (by
      rw [show X ++ (A.take A.length ++ x :: A.drop A.length) ++ Z = X ++ A ++ [x] ++ Z by simp, ← hmm]; exact .wk) ?_
    rintro c ⟨hct, hcA⟩
    refine goD ?_
    refine ifA (fun hk => ?_) (fun hk => ?_)
    · have hk := of_decide_eq_true hk
      obtain ⟨c, rfl⟩ : ∃ d, c = d + 1 := ⟨c - 1, by omega⟩
      have hcl : c < A.length := by omega
      obtain ⟨y, hy1, hy2⟩ : ∃ y, A.drop c = y :: A.drop (c + 1) ∧ A.take (c + 1) = A.take c ++ [y] := ⟨A[c], List.drop_eq_getElem_cons hcl, List.take_succ_eq_append_getElem hcl⟩
      have e1 : X ++ (A.take (c + 1) ++ x :: A.drop (c + 1)) ++ Z = (X ++ A.take c) ++ y :: x :: (A.drop (c + 1) ++ Z) := by rw [hy2]; simp
      have e2 : X ++ (A.take c ++ x :: A.drop c) ++ Z = (X ++ A.take c) ++ x :: y :: (A.drop (c + 1) ++ Z) := by rw [hy1]; simp
      have l1 := at_app (X ++ A.take c) (x :: (A.drop (c + 1) ++ Z)) y
      have l2 := at_app1 (X ++ A.take c) (A.drop (c + 1) ++ Z) x y
      have l3 := swp_dn (X ++ A.take c) (A.drop (c + 1) ++ Z) x y
      rw [show (X ++ A.take c).length = off + (a + c) by simp; omega] at l1 l2 l3
      rw [← e2] at l3
      have hWl : ((X ++ A.take c) ++ y :: x :: (A.drop (c + 1) ++ Z)).length = tot := by simp at ht' ⊢; omega
      rw [e1]
      generalize (X ++ A.take c) ++ y :: x :: (A.drop (c + 1) ++ Z) = W at *
      have hjs : IntKind.i64.wrap (((a + (c + 1) : Nat) : Int) - 1) = ((a + c : Nat) : Int) := by rw [wrap_id (by omega) (by omega)]; omega
      refine goD ?_
      with_reducible apply AWp.drawBK (k := 16) [none, none, none, none, none, none, none, none, none, none, none, none, none, none, none, some 0] [0, 0, 1, 1, 1, 0, 0, 0, 0, 0, 1, 1, 1, 0, 0, 1] (fun c' => match c' with | 0 => [rbl W] | _ => [rbl (W.set (off + (a + c) + 1) y)]) 1 follows
      · refine ⟨rfl, rfl, by kernel_rfl, by decide, ?_, ?_⟩
        · simp +decide only [go_sem, List.map, List.take]; rfl
        · simp +decide only [go_sem, List.map, List.drop]; rfl
      · kernel_rfl
      · kernel_rfl
      · rfl
      · refine BRun.qf0 rfl rfl (by simp +decide only [go_sem] <;> rfl) ?_
        refine BRun.qf0 rfl rfl (by simp +decide only [go_sem] <;> rfl) ?_
        refine BRun.qf1 rfl rfl (by simp +decide only [go_sem] <;> rfl) (by simp +decide only [go_sem] <;> rfl) ?_
        refine BRun.qf1 rfl rfl (by simp +decide only [go_sem] <;> rfl) (by simp +decide only [go_sem] <;> rfl) ?_
        refine BRun.qf1 rfl rfl (by simp +decide only [go_sem] <;> rfl) (by simp +decide only [go_sem] <;> rfl) ?_
        rw [hjs]
        refine BRun.qf0 rfl rfl (by simp +decide only [go_sem] <;> rfl) ?_
        refine BRun.qf0 rfl rfl (by simp +decide only [go_sem] <;> rfl) ?_
        refine BRun.qf0 rfl rfl (by simp +decide only [go_sem] <;> rfl) ?_
        rw [hjs]
        refine BRun.q0 (v := .ptr 0 tot (off + (a + c)) 0) rfl rfl (by
          rw [show off + (a + c) = off + ((a + c : Nat) : Int).toNat by omega]
          exact ql_ixR (by simp +decide only [go_sem] <;> rfl) (by simp +decide only [go_sem] <;> rfl) rfl hWl (by omega) (by omega)) ?_
        refine BRun.q0 rfl rfl (ql_loadR (b := 0) (by simp +decide only [go_sem] <;> rfl) rfl hWl l1) ?_
        refine BRun.qf1 rfl rfl (by simp +decide only [go_sem] <;> rfl) (by simp +decide only [go_sem] <;> rfl) ?_
        refine BRun.qf1 rfl rfl (by simp +decide only [go_sem] <;> rfl) (by simp +decide only [go_sem] <;> rfl) ?_
        refine BRun.q1 (v := .ptr 0 tot (off + (a + c) + 1) 0) rfl rfl (fun c' _ hc => by
          rw [show off + (a + c) + 1 = off + ((a + (c + 1) : Nat) : Int).toNat by omega]
          rcases (by omega : c' = 0 ∨ c' = 1) with h | h <;> subst h
          · exact ql_ixR (by simp +decide only [go_sem] <;> rfl) (by simp +decide only [go_sem] <;> rfl) rfl hWl (by omega) (by omega)
          · exact ql_ixR (by simp +decide only [go_sem] <;> rfl) (by simp +decide only [go_sem] <;> rfl) rfl (by simpa using hWl) (by omega) (by omega)) ?_
        refine BRun.q0 rfl rfl (ql_loadR (b := 0) (by simp +decide only [go_sem] <;> rfl) rfl hWl l2) ?_
        refine BRun.q0 (v := .ptr 0 tot (off + (a + c) + 1) 0) rfl rfl (by
          rw [show off + (a + c) + 1 = off + ((a + (c + 1) : Nat) : Int).toNat by omega]
          exact ql_ixR (by simp +decide only [go_sem] <;> rfl) (by simp +decide only [go_sem] <;> rfl) rfl hWl (by omega) (by omega)) ?_
        refine BRun.p1 rfl rfl (fun ρ' h => pl_storeR (b := 0) (H := [rbl W]) y (i := off + (a + c) + 1) ((h (.tmp 127) (by simp [Op.operands])).trans (by simp +decide [go_sem])) ((h (.tmp 122) (by simp [Op.operands])).trans (by simp +decide only [go_sem] <;> rfl)) (by rfl) hWl (by omega)) ?_
        refine BRun.nil ?_
        refine goD ?_
        refine ARun.p1 rfl rfl (pl_storeR (b := 0) (tot := tot) x (i := off + (a + c)) (by simp +decide [go_sem]; try omega) (by simp +decide only [go_sem] <;> rfl) (by rfl) (by simpa using hWl) (by rw [List.length_set]; omega)) ?_
        simp only [List.set, l3]
        refine goD ?_
        rw [hjs]
        exact ⟨c, ⟨by omega, by omega⟩, by omega, .wk⟩
    have hk := of_decide_eq_false hk
    obtain rfl : c = t := by omega
    rw [hfin]
    refine goD ?_
    exact RetH.same rfl rfl rfl
  have c1 := of_decide_eq_false c1
  have c2 := of_decide_eq_false c2
  refine goD ?_
  rw [half_ok a b (by omega)]
  obtain ⟨g, hg⟩ : ∃ g, g = (a + b) / 2 := ⟨_, rfl⟩
  rw [← hg]
  have hgn : IntKind.i64.wrap ((g : Int) + m) = ((g + m : Nat) : Int) := by rw [wrap_id (by omega) (by omega)]; omega
  rw [hgn]
  obtain ⟨s0, r0, h0⟩ : ∃ s0 r0 : Nat, (g < m ∧ s0 = g + m - b ∧ r0 = g) ∨ (m ≤ g ∧ s0 = a ∧ r0 = m) := by
    rcases Nat.lt_or_ge g m with h | h
    · exact ⟨_, _, .inl ⟨h, rfl, rfl⟩⟩
    · exact ⟨_, _, .inr ⟨h, rfl, rfl⟩⟩
  have hs0 : a ≤ s0 ∧ s0 ≤ r0 ∧ r0 ≤ m ∧ r0 ≤ g ∧ g ≤ s0 + B.length := by omega
  refine keA [0, 1, 2, 3, 4, 18, 19, 20, 21, 140] ?_
  refine AWp.joinP [(20, .int s0), (21, .int r0)] ?_ ?_
  · refine ifA (fun c3 => ?_) (fun c3 => ?_)
    · have c3 := of_decide_eq_true c3
      refine goD ?_
      obtain ⟨q1, q2⟩ : s0 = g + m - b ∧ r0 = g := by omega
      rw [wrap_id (by omega) (by omega), show ((g + m : Nat) : Int) - b = (s0 : Int) by omega, q2]
      exact .wk
    · have c3 := of_decide_eq_false c3
      obtain ⟨q1, q2⟩ : s0 = a ∧ r0 = m := by omega
      rw [q1, q2]
      refine goD ?_
      exact .wk
  refine goD ?_
  rw [wrap_id (by omega) (by omega)]
  refine keA [0, 1, 2, 3, 4, 18, 19, 20, 21, 22] ?_
  refine AWp.loopP (X := Nat × Nat) (J := fun (s, r) => s0 ≤ s ∧ s ≤ r ∧ r ≤ r0 ∧ (s = s0 ∨ rk (aA A (s - 1 - a)) ≤ rk (aA B (g - s))) ∧ (r = r0 ∨ rk (aA B (g - 1 - r)) < rk (aA A (r - a)))) (fun (s, r) => [(20, .int s), (21, .int r)]) (fun (s, r) => r - s) (s0, r0) ⟨Nat.le_refl _, by omega, Nat.le_refl _, .inl rfl, .inl rfl⟩ .wk ?_
  rintro ⟨s, r⟩ ⟨hi, hij, hj, q1, q2⟩
  simp only
  refine goD ?_
  refine ifA (fun hc => ?_) (fun hc => ?_)
  · have hc := of_decide_eq_true hc
    refine goD ?_
    rw [half_ok s r (by omega)]
    obtain ⟨c, hcd⟩ : ∃ c, c = (s + r) / 2 := ⟨_, rfl⟩
    rw [← hcd]
    have hg1 : s ≤ c := by omega
    have hg2 : c < r := by omega
    clear hcd
    have l1 := at_A (X := X) (A := A) (R := B ++ Z) (p := off + a) (i := c - a) (by omega) (by omega)
    rw [show off + a + (c - a) = off + (c : Int).toNat by omega, ← List.append_assoc] at l1
    have l2 := at_A (X := X ++ A) (A := B) (R := Z) (p := off + m) (i := g - 1 - c) (by simp; omega) (by omega)
    rw [show off + m + (g - 1 - c) = off + ((g + m - 1 - c : Nat) : Int).toNat by omega] at l2
    have hjs : IntKind.i64.wrap (((g + m : Nat) : Int) - 1 - (c : Int)) = ((g + m - 1 - c : Nat) : Int) := by rw [wrap_id (by omega) (by omega)]; omega
    refine keA [0, 1, 2, 3, 4, 18, 19, 20, 21, 22, 23] ?_
    refine drA (k := 14) follows (hr := ?_)
    refine goD ?_
    rw [hjs]
    refine ARun.q1 rfl rfl (ql_ixR (b := 0) (l := X ++ A ++ B ++ Z) (by simp +decide only [go_sem] <;> rfl) (by simp +decide only [go_sem] <;> rfl) rfl ht (by omega) (by omega)) ?_
    refine goD ?_
    refine ARun.q1 rfl rfl (ql_loadR (b := 0) (by simp +decide only [go_sem] <;> rfl) rfl ht l2) ?_
    refine goD ?_
    refine ARun.q1 rfl rfl (ql_loadR (b := 0) (by simp +decide only [go_sem] <;> rfl) rfl ht l1) ?_
    refine goD ?_
    refine callA (cmp_ok (aA B (g - 1 - c)) (aA A (c - a))) ?_
    refine goD ?_
    refine ifA (fun hd => ?_) (fun hd => ?_)
    · have hd : ¬ (rk (aA B (g - 1 - c)) - rk (aA A (c - a)) < 0) := by simpa using hd
      refine goD ?_
      rw [wrap_succ (by omega)]
      exact ⟨(c + 1, r), ⟨by omega, by omega, hj, .inr (by rw [Nat.add_sub_cancel, show g - (c + 1) = g - 1 - c by omega]; omega), q2⟩, by simp only; omega, .wk⟩
    · have hd : rk (aA B (g - 1 - c)) - rk (aA A (c - a)) < 0 := by simpa using hd
      refine goD ?_
      exact ⟨(s, c), ⟨hi, by omega, by omega, q1, .inr (by simp only; omega)⟩, by simp only; omega, .wk⟩
  have hc := of_decide_eq_false hc
  obtain rfl : s = r := by omega
  obtain ⟨A1, A2, eA, nA1⟩ : ∃ A1 A2, A = A1 ++ A2 ∧ A1.length = s - a := ⟨A.take (s - a), A.drop (s - a), (List.take_append_drop _ _).symm, by simp; omega⟩
  obtain ⟨B1, B2, eB, nB1⟩ : ∃ B1 B2, B = B1 ++ B2 ∧ B1.length = g - s := ⟨B.take (g - s), B.drop (g - s), (List.take_append_drop _ _).symm, by simp; omega⟩
  have nA : A.length = A1.length + A2.length := by rw [eA, List.length_append]
  have nB : B.length = B1.length + B2.length := by rw [eB, List.length_append]
  have tA : A1 = A.take (s - a) := by rw [eA, ← nA1]; simp
  have dA : A2 = A.drop (s - a) := by rw [eA, ← nA1]; simp
  have tB : B1 = B.take (g - s) := by rw [eB, ← nB1]; simp
  have dB : B2 = B.drop (g - s) := by rw [eB, ← nB1]; simp
  have k1 : ∀ y ∈ B1, ∀ x ∈ A2, rk y < rk x := by
    intro y hy x hx
    rw [tB] at hy; rw [dA] at hx
    obtain ⟨i, i1, i2, rfl⟩ := mem_take_aA hy
    obtain ⟨j, j1, j2, rfl⟩ := mem_drop_aA hx
    rcases q2 with q2 | q2
    · omega
    · have e1 := srt_le hB (i := i) (j := g - 1 - s) (by omega) (by omega)
      have e2 := srt_le hA (i := s - a) (j := j) (by omega) (by omega)
      omega
  have k2 : ∀ x ∈ A1, ∀ y ∈ B2, rk x ≤ rk y := by
    intro x hx y hy
    rw [tA] at hx; rw [dB] at hy
    obtain ⟨i, i1, i2, rfl⟩ := mem_take_aA hx
    obtain ⟨j, j1, j2, rfl⟩ := mem_drop_aA hy
    rcases q1 with q1 | q1
    · omega
    · have e1 := srt_le hA (i := i) (j := s - 1 - a) (by omega) (by omega)
      have e2 := srt_le hB (i := g - s) (j := j) (by omega) (by omega)
      omega
  clear tA dA tB dB q1 q2
  subst eA eB
  have hfin := st_parts k1 k2 hA hB
  obtain ⟨sA1, sA2, _⟩ := List.pairwise_append.1 hA
  obtain ⟨sB1, sB2, _⟩ := List.pairwise_append.1 hB
  simp only [List.length_append] at *
  obtain ⟨e, he⟩ : ∃ e, e = g + m - s := ⟨_, rfl⟩
  have hwe : IntKind.i64.wrap (((g + m : Nat) : Int) - s) = (e : Int) := by rw [wrap_id (by omega) (by omega)]; omega
  have m1 : X ++ (A1 ++ A2) ++ (B1 ++ B2) ++ Z = (X ++ A1) ++ A2 ++ B1 ++ (B2 ++ Z) := by simp
  have m2 : (X ++ A1) ++ B1 ++ A2 ++ (B2 ++ Z) = X ++ A1 ++ B1 ++ (A2 ++ B2 ++ Z) := by simp
  have m3 : X ++ st (A1 ++ B1) ++ (A2 ++ B2 ++ Z) = (X ++ st (A1 ++ B1)) ++ A2 ++ B2 ++ Z := by simp
  have m4 : (X ++ st (A1 ++ B1)) ++ st (A2 ++ B2) ++ Z = X ++ st (A1 ++ A2 ++ (B1 ++ B2)) ++ Z := by rw [← hfin]; simp
  have n3 := st_len (A1 ++ B1)
  rw [List.length_append] at n3
  rw [m1]
  refine goD ?_
  rw [hwe]
  refine keA [0, 1, 2, 3, 4, 18, 20, 24, 185] ?_
  refine AWp.joinH [] [rbl ((X ++ A1) ++ B1 ++ A2 ++ (B2 ++ Z))] ?_ ?_
  · refine ifA (fun d1 => ?_) (fun d1 => ?_)
    · simp only [Bool.cond_eq_ite, Bool.if_false_right, Bool.and_eq_true, decide_eq_true_eq] at d1
      have i1 := rot_ok (X ++ A1) A2 B1 (B2 ++ Z) off len s m e tot (by simp; omega) (by omega) (by omega) (by omega) (by omega) (by omega) (by simp; omega) hl hm
      refine goD ?_
      refine ARun.p1 rfl rfl (pl_callH (e := [0]) (d' := .tup []) i1 (CallE.put1 (b := 0) rfl (PuBl_R _) (PuBl_R _)) rfl (by simp +decide only [go_sem] <;> rfl) (by simp +decide only [go_sem, List.map]; exact ⟨.own rfl, .pu (.base _), .pu (.base _), .pu (.base _), .pu (.clo (by simp)), trivial⟩) (.pu (.tup (by simp)))) ?_
      refine goD ?_
      exact .wk
    · have d1 : A2 = [] ∨ B1 = [] := by
        simp only [Bool.cond_eq_ite, Bool.if_false_right, Bool.and_eq_false_iff, decide_eq_false_iff_not, decide_eq_true_eq] at d1
        rcases Nat.eq_zero_or_pos A2.length with h | h
        · exact .inl (List.eq_nil_of_length_eq_zero h)
        · refine .inr (List.eq_nil_of_length_eq_zero ?_)
          omega
      have e1 : (X ++ A1) ++ A2 ++ B1 ++ (B2 ++ Z) = (X ++ A1) ++ B1 ++ A2 ++ (B2 ++ Z) := by rcases d1 with rfl | rfl <;> simp
      rw [e1]
      refine goD ?_
      exact .wk
  rw [m2]
  refine goD ?_
  refine keA [0, 1, 2, 3, 4, 18, 20, 24, 199] ?_
  refine AWp.joinH [] [rbl (X ++ st (A1 ++ B1) ++ (A2 ++ B2 ++ Z))] ?_ ?_
  · refine ifA (fun d1 => ?_) (fun d1 => ?_)
    · simp only [Bool.cond_eq_ite, Bool.if_false_right, Bool.and_eq_true, decide_eq_true_eq] at d1
      have i1 := ih X A1 B1 (A2 ++ B2 ++ Z) off len a s g tot (by omega) (by omega) (by omega) (by omega) (by omega) (by omega) (by omega) sA1 sB1 (by simp; omega) hl hm
      refine goD ?_
      refine ARun.p1 rfl rfl (pl_callH (e := [0]) (d' := .tup []) i1 (CallE.put1 (b := 0) rfl (PuBl_R _) (PuBl_R _)) rfl (by simp +decide only [go_sem] <;> rfl) (by simp +decide only [go_sem, List.map]; exact ⟨.own rfl, .pu (.base _), .pu (.base _), .pu (.base _), .pu (.clo (by simp)), trivial⟩) (.pu (.tup (by simp)))) ?_
      refine goD ?_
      exact .wk
    · have d1 : st (A1 ++ B1) = A1 ++ B1 := by
        simp only [Bool.cond_eq_ite, Bool.if_false_right, Bool.and_eq_false_iff, decide_eq_false_iff_not, decide_eq_true_eq] at d1
        rcases Nat.eq_zero_or_pos A1.length with h | h
        · rw [List.eq_nil_of_length_eq_zero h]; exact st_of_srt sB1
        · rw [List.eq_nil_of_length_eq_zero (l := B1) (by omega), List.append_nil]; exact st_of_srt sA1
      have e1 : X ++ A1 ++ B1 ++ (A2 ++ B2 ++ Z) = X ++ st (A1 ++ B1) ++ (A2 ++ B2 ++ Z) := by rw [d1]; simp
      rw [e1]
      refine goD ?_
      exact .wk
  rw [m3]
  refine goD ?_
  refine keA [0, 1, 2, 3, 4, 18, 20, 24, 213] ?_
  refine ifA (fun d1 => ?_) (fun d1 => ?_)
  · simp only [Bool.cond_eq_ite, Bool.if_false_right, Bool.and_eq_true, decide_eq_true_eq] at d1
    have i1 := ih (X ++ st (A1 ++ B1)) A2 B2 Z off len g e b tot (by omega) (by rw [List.length_append]; omega) (by omega) (by omega) (by omega) (by omega) (by omega) (by assumption) (by assumption) (by simp; omega) hl hm
    rw [m4] at i1
    refine goD ?_
    refine ARun.p1 rfl rfl (pl_callH (e := [0]) (d' := .tup []) i1 (CallE.put1 (b := 0) rfl (PuBl_R _) (PuBl_R _)) rfl (by simp +decide only [go_sem] <;> rfl) (by simp +decide only [go_sem, List.map]; exact ⟨.own rfl, .pu (.base _), .pu (.base _), .pu (.base _), .pu (.clo (by simp)), trivial⟩) (.pu (.tup (by simp)))) ?_
    refine goD ?_
    exact RetH.same rfl rfl rfl
  · have d1 : st (A2 ++ B2) = A2 ++ B2 := by
      simp only [Bool.cond_eq_ite, Bool.if_false_right, Bool.and_eq_false_iff, decide_eq_false_iff_not, decide_eq_true_eq] at d1
      rcases Nat.eq_zero_or_pos A2.length with h | h
      · rw [List.eq_nil_of_length_eq_zero h]; exact st_of_srt (by assumption)
      · rw [List.eq_nil_of_length_eq_zero (l := B2) (by omega), List.append_nil]; exact st_of_srt (by assumption)
    have e1 : (X ++ st (A1 ++ B1)) ++ A2 ++ B2 ++ Z = X ++ st (A1 ++ A2 ++ (B1 ++ B2)) ++ Z := by rw [← m4, d1]; simp
    rw [e1]
    refine goD ?_
    exact RetH.same rfl rfl rfl
end Go.Ab
-- fnh
set_option maxHeartbeats 4000000
namespace Go.Ab
open Go Go.Ab Go.Proofs Go.Ab.Ty

/-! ### slices.SortStableFunc -/
def Bl (k : Nat) (L : List Int) (q : Nat) : Prop := Srt ((L.drop (q * k)).take k)
theorem bl_pre {P R R' : List Int} {k q : Nat} (h : (q + 1) * k ≤ P.length) (hb : Bl k (P ++ R) q) : Bl k (P ++ R') q := by
  rw [Nat.add_mul, Nat.one_mul] at h
  have e : ∀ R : List Int, ((P ++ R).drop (q * k)).take k = (P.drop (q * k)).take k := fun R => by
    rw [List.drop_append_of_le_length (by omega), List.take_append_of_le_length (by simp; omega)]
  unfold Bl at hb ⊢
  rw [e] at hb ⊢
  exact hb
theorem bl_suf {P M M' R : List Int} {k q : Nat} (hl : M'.length = M.length) (h : P.length + M.length ≤ q * k) (hb : Bl k (P ++ M ++ R) q) : Bl k (P ++ M' ++ R) q := by
  have e : ∀ M' : List Int, M'.length = M.length → (P ++ M' ++ R).drop (q * k) = R.drop (q * k - (P.length + M.length)) := fun M' hm => by
    rw [List.drop_append, List.drop_of_length_le (by simp; omega), List.length_append, hm, List.nil_append]
  unfold Bl at hb ⊢
  rw [e M rfl] at hb
  rw [e M' hl]
  exact hb
theorem mid_e {P M R : List Int} {k i : Nat} (hp : P.length = i) (hm : M.length ≤ k) (h : M.length = k ∨ R = []) : ((P ++ M ++ R).drop i).take k = M := by
  subst hp
  rw [List.append_assoc, List.drop_left]
  rcases h with h | h
  · rw [← h, List.take_left]
  · rw [h, List.append_nil, List.take_of_length_le hm]
theorem bl_mid {P M R : List Int} {k q : Nat} (hp : P.length = q * k) (hm : M.length ≤ k) (h : M.length = k ∨ R = []) : Bl k (P ++ M ++ R) q ↔ Srt M := by
  unfold Bl
  rw [mid_e hp hm h]
theorem bl_out {L : List Int} {k q : Nat} (h : L.length ≤ q * k) : Bl k L q := by
  unfold Bl
  rw [List.drop_of_length_le h]
  simp [Srt]
theorem same_mid (P M R : List Int) : Same (P ++ st M ++ R) (P ++ M ++ R) := ((Same.refl P).app (st_same M)).app (.refl R)
theorem split3 {L : List Int} {a n : Nat} (h : a + n ≤ L.length) : ∃ P M R, L = P ++ M ++ R ∧ P.length = a ∧ M.length = n :=
  ⟨L.take a, (L.drop a).take n, L.drop (a + n), by rw [← List.drop_drop, List.append_assoc, List.take_append_drop, List.take_append_drop], by simp; omega, by simp; omega⟩
theorem mul_lt_step {q c k : Nat} (h : q < c) : (q + 1) * k ≤ c * k := Nat.mul_le_mul_right k h
theorem stable_ok (X S Z : List Int) (off len tot : Nat) (hX : X.length = off) (hS : S.length = len) (ht : (X ++ S ++ Z).length = tot) (hm : tot ≤ 1000000) :
    FnH Tryd.prog 113 [.own 0 tot off len, .int len, .clo 102 []] [rbl (X ++ S ++ Z)] (.tup []) [rbl (X ++ st S ++ Z)] := by
  simp only [List.length_append] at ht
  refine FnH.intro' [(0, .own 0 tot off len), (1, .int len), (2, .clo 102 [])] 3 63 1 Tryd.func113 (by kernel_rfl) rfl rfl rfl rfl rfl rfl ?_
  refine goD ?_
  refine keA [0, 1, 2, 6, 7, 8] ?_
  refine AWp.loopH (X := Nat × Nat × List Int) (J := fun (c, a, L) => a = c * 20 ∧ a ≤ len ∧ L.length = len ∧ Same L S ∧ ∀ q, q < c → Bl 20 L q) (fun (c, a, L) => [(7, .int a), (8, .int ((a + 20 : Nat) : Int))]) (fun (c, a, L) => [rbl (X ++ L ++ Z)]) (fun (c, a, L) => len - a) (0, 0, S) ⟨rfl, Nat.zero_le _, hS, .refl S, fun q hq => absurd hq (Nat.not_lt_zero q)⟩ .wk ?_
  rintro ⟨c, a, L⟩ ⟨hac, hal, hL, hsm, hbl⟩
  simp only
  refine goD ?_
  refine ifA (fun h => ?_) (fun h => ?_)
  · have h := of_decide_eq_true h
    obtain ⟨P, M, R, rfl, hP, hM⟩ := split3 (L := L) (a := a) (n := 20) (by omega)
    have e1 : X ++ (P ++ M ++ R) ++ Z = (X ++ P) ++ M ++ (R ++ Z) := by simp
    have e2 : (X ++ P) ++ st M ++ (R ++ Z) = X ++ (P ++ st M ++ R) ++ Z := by simp
    have hL2 := hL
    simp only [List.length_append] at hL2
    have i1 := ins_ok (X ++ P) M (R ++ Z) off len a tot (by simp; omega) (by omega) (by simp; omega) (by omega) hm
    rw [hM, e2] at i1
    rw [e1]
    refine goD ?_
    refine ARun.p1 rfl rfl (pl_callH (e := [0]) (d' := .tup []) i1 (CallE.put1 (b := 0) rfl (PuBl_R _) (PuBl_R _)) rfl (by simp +decide only [go_sem] <;> rfl) (by simp +decide only [go_sem, List.map]; exact ⟨.own rfl, .pu (.base _), .pu (.base _), .pu (.clo (by simp)), trivial⟩) (.pu (.tup (by simp)))) ?_
    refine goD ?_
    rw [wrap_id (by omega) (by omega)]
    refine ⟨(c + 1, a + 20, P ++ st M ++ R), ⟨by simp only; omega, by simp only; omega, by simp [st_len]; omega, (same_mid P M R).trans hsm, fun q hq => ?_⟩, by simp only; omega, (.env' (by simp +decide only [go_sem, List.set, show ((a + 20 + 20 : Nat) : Int) = ((a + 20 : Nat) : Int) + 20 by omega] <;> simp [Le.refl, List.set, show ((a + 20 + 20 : Nat) : Int) = ((a + 20 : Nat) : Int) + 20 by omega]))⟩
    rcases Nat.lt_or_ge q c with h1 | h1
    · have := hbl q h1
      rw [List.append_assoc] at this ⊢
      exact bl_pre (by rw [hP, hac]; exact mul_lt_step h1) this
    · obtain rfl : q = c := by omega
      exact (bl_mid (by omega) (by rw [st_len]; omega) (.inl (by rw [st_len]; exact hM))).2 (st_srt M)
  have h := of_decide_eq_false h
  obtain ⟨P, M, R, rfl, hP, hM⟩ := split3 (L := L) (a := a) (n := len - a) (by omega)
  have hL2 := hL
  simp only [List.length_append] at hL2
  obtain rfl : R = [] := List.eq_nil_of_length_eq_zero (by omega)
  have e1 : X ++ (P ++ M ++ []) ++ Z = (X ++ P) ++ M ++ Z := by simp
  have e2 : (X ++ P) ++ st M ++ Z = X ++ (P ++ st M ++ []) ++ Z := by simp
  have i1 := ins_ok (X ++ P) M Z off len a tot (by simp; omega) (by omega) (by simp; omega) (by omega) hm
  rw [hM, e2, show a + (len - a) = len by omega] at i1
  rw [e1]
  refine goD ?_
  refine ARun.p1 rfl rfl (pl_callH (e := [0]) (d' := .tup []) i1 (CallE.put1 (b := 0) rfl (PuBl_R _) (PuBl_R _)) rfl (by simp +decide only [go_sem] <;> rfl) (by simp +decide only [go_sem, List.map]; exact ⟨.own rfl, .pu (.base _), .pu (.base _), .pu (.clo (by simp)), trivial⟩) (.pu (.tup (by simp)))) ?_
  have hsm2 := (same_mid P M []).trans hsm
  have hlen2 : (P ++ st M ++ []).length = len := by simp [st_len]; omega
  have hbl2 : ∀ q, Bl 20 (P ++ st M ++ []) q := by
    intro q
    rcases Nat.lt_or_ge q c with h1 | h1
    · have := hbl q h1
      rw [List.append_assoc] at this ⊢
      exact bl_pre (by rw [hP, hac]; exact mul_lt_step h1) this
    · rcases Nat.lt_or_ge c q with h2 | h2
      · exact bl_out (by rw [hlen2]; omega)
      · obtain rfl : q = c := by omega
        exact (bl_mid (by omega) (by rw [st_len]; omega) (.inr rfl)).2 (st_srt M)
  generalize P ++ st M ++ [] = L at *
  clear hbl hsm e1 e2 i1 hP hM hL hL2
  refine goD ?_
  refine keA [0, 1, 2, 6, 7, 8, 9] ?_
  refine AWp.loopH (X := Nat × List Int × AV × AV × AV) (J := fun (k, L, _) => 20 ≤ k ∧ k ≤ 2000000 ∧ L.length = len ∧ Same L S ∧ ∀ q, Bl k L q) (fun (k, L, u, v, w) => [(6, .int k), (7, u), (8, v), (9, w)]) (fun (k, L, _) => [rbl (X ++ L ++ Z)]) (fun (k, L, _) => len - k) (20, L, _, _, _) ⟨Nat.le_refl _, by omega, hlen2, hsm2, hbl2⟩ .wk ?_
  clear hlen2 hsm2 hbl2
  rintro ⟨k, L, u, v, w⟩ ⟨hk1, hk2, hL, hsm, hbl⟩
  simp only
  refine goD ?_
  refine ifA (fun hkl => ?_) (fun hkl => ?_)
  · have hkl := of_decide_eq_true hkl
    refine goD ?_
    rw [wrap_id (by omega) (by omega)]
    refine keA [0, 1, 2, 6, 7, 8, 9] ?_
    refine AWp.loopH (X := Nat × Nat × List Int) (J := fun (c, a, L) => a = c * (2 * k) ∧ a ≤ len ∧ L.length = len ∧ Same L S ∧ (∀ q, q < c → Bl (2 * k) L q) ∧ ∀ q, 2 * c ≤ q → Bl k L q) (fun (c, a, L) => [(7, .int a), (8, .int ((a + 2 * k : Nat) : Int))]) (fun (c, a, L) => [rbl (X ++ L ++ Z)]) (fun (c, a, L) => len - a) (0, 0, L) ⟨(Nat.zero_mul _).symm, Nat.zero_le _, hL, hsm, fun q hq => absurd hq (Nat.not_lt_zero q), fun q _ => hbl q⟩ (.env' (by simp +decide only [go_sem, show ((0 + 2 * k : Nat) : Int) = 2 * (k : Int) by omega] <;> simp [Le.refl, show ((0 + 2 * k : Nat) : Int) = 2 * (k : Int) by omega])) ?_
    clear hbl hsm hL
    rintro ⟨c, a, L⟩ ⟨hac, hal, hL, hsm, hb1, hb2⟩
    have hca : (2 * c) * k = a := by rw [hac, Nat.mul_comm 2 c, Nat.mul_assoc]
    have hca1 : (2 * c + 1) * k = a + k := by rw [Nat.add_mul, hca, Nat.one_mul]
    simp only
    refine goD ?_
    refine ifA (fun h3 => ?_) (fun h3 => ?_)
    · have h3 := of_decide_eq_true h3
      obtain ⟨P, M, R, rfl, hP, hM⟩ := split3 (L := L) (a := a) (n := 2 * k) (by omega)
      obtain ⟨_, A, B, rfl, hA0, hA⟩ := split3 (L := M) (a := 0) (n := k) (by omega)
      obtain rfl := List.eq_nil_of_length_eq_zero hA0
      simp only [List.nil_append] at *
      have hB : B.length = k := by rw [List.length_append] at hM; omega
      have hL2 := hL
      simp only [List.length_append] at hL2
      have sA : Srt A := by
        have := hb2 (2 * c) (Nat.le_refl _)
        rw [show P ++ (A ++ B) ++ R = P ++ A ++ (B ++ R) by simp] at this
        exact (bl_mid (by omega) (by omega) (.inl hA)).1 this
      have sB : Srt B := by
        have := hb2 (2 * c + 1) (by omega)
        rw [show P ++ (A ++ B) ++ R = (P ++ A) ++ B ++ R by simp] at this
        exact (bl_mid (by rw [List.length_append]; omega) (by omega) (.inl hB)).1 this
      have e1 : X ++ (P ++ (A ++ B) ++ R) ++ Z = (X ++ P) ++ A ++ B ++ (R ++ Z) := by simp
      have e2 : (X ++ P) ++ st (A ++ B) ++ (R ++ Z) = X ++ (P ++ st (A ++ B) ++ R) ++ Z := by simp
      have i1 := sm_ok (A.length + B.length) (X ++ P) A B (R ++ Z) off len a (a + k) (a + 2 * k) tot (Nat.le_refl _) (by simp; omega) (by omega) (by omega) (by omega) (by omega) (by omega) sA sB (by simp; omega) (by omega) hm
      rw [e2] at i1
      rw [e1]
      refine goD ?_
      rw [wrap_id (by omega) (by omega), show (a : Int) + k = ((a + k : Nat) : Int) by omega]
      refine ARun.p1 rfl rfl (pl_callH (e := [0]) (d' := .tup []) i1 (CallE.put1 (b := 0) rfl (PuBl_R _) (PuBl_R _)) rfl (by simp +decide only [go_sem] <;> rfl) (by simp +decide only [go_sem, List.map]; exact ⟨.own rfl, .pu (.base _), .pu (.base _), .pu (.base _), .pu (.clo (by simp)), trivial⟩) (.pu (.tup (by simp)))) ?_
      refine goD ?_
      have w1 : IntKind.i64.wrap (((a + 2 * k : Nat) : Int) + IntKind.i64.wrap (2 * (k : Int))) = ((a + 2 * k + 2 * k : Nat) : Int) := by
        rw [wrap_id (x := 2 * (k : Int)) (by omega) (by omega), wrap_id (by omega) (by omega)]; omega
      rw [w1]
      have hs2 : (c + 1) * (2 * k) = a + 2 * k := by rw [Nat.add_mul, Nat.one_mul, ← hac]
      refine ⟨(c + 1, a + 2 * k, P ++ st (A ++ B) ++ R), ⟨hs2.symm, by simp only; omega, by simp [st_len]; omega, (same_mid P (A ++ B) R).trans hsm, fun q hq => ?_, fun q hq => ?_⟩, by simp only; omega, .wk⟩
      · rcases Nat.lt_or_ge q c with h1 | h1
        · have := hb1 q h1
          rw [List.append_assoc] at this ⊢
          exact bl_pre (by rw [hP, hac]; exact mul_lt_step h1) this
        · obtain rfl : q = c := by omega
          exact (bl_mid (by rw [hP, hac]) (by rw [st_len]; omega) (.inl (by rw [st_len]; exact hM))).2 (st_srt _)
      · refine bl_suf (st_len _) ?_ (hb2 q (by omega))
        have : (2 * (c + 1)) * k ≤ q * k := Nat.mul_le_mul_right k hq
        rw [Nat.mul_add, Nat.add_mul, hca] at this
        omega
    have h3 := of_decide_eq_false h3
    refine goD ?_
    rw [wrap_id (by omega) (by omega)]
    refine keA [0, 1, 2, 6, 7, 8, 9, 54] ?_
    have hq0 : ∀ q, c < q → len ≤ q * (2 * k) := fun q hq => by
      have : (c + 1) * (2 * k) ≤ q * (2 * k) := Nat.mul_le_mul_right _ hq
      rw [Nat.add_mul, Nat.one_mul, ← hac] at this
      omega
    refine ifA (fun h4 => ?_) (fun h4 => ?_)
    · have h4 := of_decide_eq_true h4
      obtain ⟨P, A, B, rfl, hP, hA⟩ := split3 (L := L) (a := a) (n := k) (by omega)
      have hL2 := hL
      simp only [List.length_append] at hL2
      have sA : Srt A := (bl_mid (by omega) (by omega) (.inl hA)).1 (hb2 (2 * c) (Nat.le_refl _))
      have sB : Srt B := by
        have := hb2 (2 * c + 1) (by omega)
        rw [← List.append_nil (P ++ A ++ B)] at this
        exact (bl_mid (by rw [List.length_append]; omega) (by omega) (.inr rfl)).1 this
      have e1 : X ++ (P ++ A ++ B) ++ Z = (X ++ P) ++ A ++ B ++ Z := by simp
      have e2 : (X ++ P) ++ st (A ++ B) ++ Z = X ++ (P ++ st (A ++ B) ++ []) ++ Z := by simp
      have i1 := sm_ok (A.length + B.length) (X ++ P) A B Z off len a (a + k) len tot (Nat.le_refl _) (by simp; omega) (by omega) (by omega) (by omega) (by omega) (by omega) sA sB (by simp; omega) (by omega) hm
      rw [e2] at i1
      rw [e1]
      refine goD ?_
      rw [show (a : Int) + k = ((a + k : Nat) : Int) by omega]
      refine ARun.p1 rfl rfl (pl_callH (e := [0]) (d' := .tup []) i1 (CallE.put1 (b := 0) rfl (PuBl_R _) (PuBl_R _)) rfl (by simp +decide only [go_sem] <;> rfl) (by simp +decide only [go_sem, List.map]; exact ⟨.own rfl, .pu (.base _), .pu (.base _), .pu (.base _), .pu (.clo (by simp)), trivial⟩) (.pu (.tup (by simp)))) ?_
      refine goD ?_
      rw [wrap_id (by omega) (by omega), show (k : Int) * 2 = ((2 * k : Nat) : Int) by omega]
      refine ⟨(2 * k, P ++ st (A ++ B) ++ [], _, _, _), ⟨by simp only; omega, by simp only; omega, by simp [st_len]; omega, ?_, fun q => ?_⟩, by simp only; omega, .wk⟩
      · have := (same_mid P (A ++ B) []).trans (b := P ++ (A ++ B) ++ []) (by simp only [List.append_nil, ← List.append_assoc]; exact hsm)
        exact this
      · rcases Nat.lt_or_ge q c with h1 | h1
        · have := hb1 q h1
          simp only [List.append_assoc] at this ⊢
          exact bl_pre (by rw [hP, hac]; exact mul_lt_step h1) this
        · rcases Nat.lt_or_ge c q with h2 | h2
          · exact bl_out (by have := hq0 q h2; simp [st_len]; omega)
          · obtain rfl : q = c := by omega
            exact (bl_mid (by rw [hP, hac]) (by rw [st_len, List.length_append]; omega) (.inr rfl)).2 (st_srt _)
    have h4 := of_decide_eq_false h4
    refine goD ?_
    rw [wrap_id (by omega) (by omega), show (k : Int) * 2 = ((2 * k : Nat) : Int) by omega]
    refine ⟨(2 * k, L, _, _, _), ⟨by simp only; omega, by simp only; omega, hL, hsm, fun q => ?_⟩, by simp only; omega, .wk⟩
    rcases Nat.lt_or_ge q c with h1 | h1
    · exact hb1 q h1
    · rcases Nat.lt_or_ge c q with h2 | h2
      · exact bl_out (by have := hq0 q h2; simp only; omega)
      · obtain rfl : q = c := by omega
        have := hb2 (2 * q) (Nat.le_refl _)
        unfold Bl at this ⊢
        rw [hca] at this
        rw [← hac]
        rw [List.take_of_length_le (by simp; omega)] at this
        rw [List.take_of_length_le (by simp; omega)]
        exact this
  have hkl := of_decide_eq_false hkl
  have e : L = st S := by
    refine st_uniq ?_ hsm
    have := hbl 0
    unfold Bl at this
    rw [Nat.zero_mul, List.drop_zero, List.take_of_length_le (by omega)] at this
    exact this
  rw [e]
  refine goD ?_
  exact RetH.same rfl rfl rfl
theorem sortStable_ok (X S Z : List Int) (off len tot : Nat) (hX : X.length = off) (hS : S.length = len) (ht : (X ++ S ++ Z).length = tot) (hm : tot ≤ 1000000) :
    FnH Tryd.prog 101 [.own 0 tot off len, .clo 102 []] [rbl (X ++ S ++ Z)] (.tup []) [rbl (X ++ st S ++ Z)] := by
  have i1 := stable_ok X S Z off len tot hX hS ht hm
  generalize X ++ S ++ Z = W at *
  subst ht
  refine FnH.intro' [(0, .own 0 W.length off len), (1, .clo 102 [])] 2 9 1 Tryd.func101 (by kernel_rfl) rfl rfl rfl rfl rfl rfl ?_
  refine goD ?_
  refine ARun.p1 rfl rfl (pl_callH (e := [0]) (d' := .tup []) i1 (CallE.put1 (b := 0) rfl (PuBl_R _) (PuBl_R _)) rfl (by simp +decide only [go_sem] <;> rfl) (by simp +decide only [go_sem, List.map]; exact ⟨.own rfl, .pu (.base _), .pu (.clo (by simp)), trivial⟩) (.pu (.tup (by simp)))) ?_
  refine goD ?_
  exact RetH.same rfl rfl rfl
end Go.Ab
