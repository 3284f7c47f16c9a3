/- Part of the proof. -/
import Derived.Test.YtjfahhbobiiphaaXK
set_option linter.unusedSimpArgs false
set_option linter.unusedVariables false
set_option maxHeartbeats 4000000
namespace Go.Ab
open Go Go.Ab Go.Proofs Go.Ab.Ty

theorem pub_tab1H {b : ABlk} (hb : ∀ e ∈ b.es, ∀ c ∈ e.cells, Pu c) {H : List ABlk} {N : Nat} {f : Tb} : ∀ blk ∈ b :: tabH 1 N f, ∀ e ∈ blk.es, ∀ c ∈ e.cells, Pub H (N + 2) c c := by
  intro blk h1 e h2 c h3
  rcases List.mem_cons.1 h1 with rfl | h1
  · exact .pu (hb e h2 c h3)
  rcases List.mem_cons.1 h1 with rfl | h1
  · obtain ⟨i, hi, rfl⟩ := List.mem_map.1 h2
    simp [AV.cells] at h3
    subst h3
    exact .own (by have := List.mem_range.1 hi; omega)
  · obtain ⟨i, hi, rfl⟩ := List.mem_map.1 h1
    obtain ⟨x, _, rfl⟩ := List.mem_map.1 h2
    simp [AV.cells] at h3
    subst h3
    exact .pu (.base _)
def prR (R : Rl) (k : Nat) : Rl := fun a c => k ≤ a ∧ R a c
def prJ (R : Rl) (i j : Nat) : Rl := fun a c => (i < a ∨ a = i ∧ c < j) ∧ R a c
section
variable {N : Nat} {R : Rl} (h : Fwd N R)
include h
theorem prR_N : (fun _ _ => false) = tb (prR R N) := by
  funext a c; symm; simp only [tb, prR, decide_eq_false_iff_not]; have := h a c; grind
theorem prJ_s {i : Nat} : tb (prR R (i + 1)) = tb (prJ R i i) := tb_congr fun a c => by have := h a c; unfold prR prJ; grind
theorem prJ_e {i : Nat} : tb (prJ R i N) = tb (prR R i) := tb_congr fun a c => by have := h a c; unfold prR prJ; grind
end
theorem prR_0 {R : Rl} : tb (prR R 0) = tb R := tb_congr fun a c => by simp [prR]
theorem prJ_j {R : Rl} {i j : Nat} {v : Bool} (hv : v = true ↔ R i j) : updT (tb (prJ R i j)) i j v = tb (prJ R i (j + 1)) := tb_upd (by simp [prJ, hv]) fun a c h => by unfold prJ; grind
open Classical in
noncomputable def accB (s : ByteArray) (o : Int) (l : List Rx) (i j : Nat) : Bool := if o = 7 then decide (∀ y ∈ l, M s y i j) else decide (∃ y ∈ l, M s y i j)
theorem accB_and {s : ByteArray} {o : Int} {l : List Rx} {y : Rx} {i j : Nat} (h : o = 7) : accB s o (l ++ [y]) i j = (accB s o l i j && tb (M s y) i j) := by
  rw [Bool.eq_iff_iff]
  simp only [accB, if_pos h, tb, Bool.and_eq_true, decide_eq_true_eq]
  grind
theorem accB_or {s : ByteArray} {o : Int} {l : List Rx} {y : Rx} {i j : Nat} (h : o ≠ 7) : accB s o (l ++ [y]) i j = (accB s o l i j || tb (M s y) i j) := by
  rw [Bool.eq_iff_iff]
  simp only [accB, if_neg h, tb, Bool.or_eq_true, decide_eq_true_eq]
  grind
theorem foldl_or : ∀ (l : List Rl) (A : Rl) (i j : Nat), l.foldl (stepR 5) A i j ↔ A i j ∨ ∃ R ∈ l, R i j
  | [], A, i, j => by simp
  | R :: l, A, i, j => by
    rw [List.foldl_cons, foldl_or l]
    simp [stepR]
    unfold orR
    grind
theorem foldl_and : ∀ (l : List Rl) (A : Rl) (i j : Nat), l.foldl (stepR 7) A i j ↔ A i j ∧ ∀ R ∈ l, R i j
  | [], A, i, j => by simp
  | R :: l, A, i, j => by
    rw [List.foldl_cons, foldl_and l]
    simp [stepR]
    unfold andR
    grind
theorem M_or {s S : ByteArray} {l : List Rx} {i j : Nat} (hj : j < s.size + 1) : M s (.mk 5 S l) i j ↔ ∃ y ∈ l, M s y i j := by
  rw [M_mk]; unfold opM
  have h1 : foldR 5 (l.map (M s)) i j ↔ ∃ y ∈ l, M s y i j := by
    cases l with
    | nil => simp [foldR, noR]
    | cons x l =>
      rw [List.map_cons, foldR, foldl_or]
      constructor
      · rintro (h | ⟨R, hR, h⟩)
        · exact ⟨x, by simp, h⟩
        · obtain ⟨y, hy, rfl⟩ := List.mem_map.1 hR; exact ⟨y, by simp [hy], h⟩
      · rintro ⟨y, hy, h⟩
        rcases List.mem_cons.1 hy with rfl | hy
        · exact .inl h
        · exact .inr ⟨_, List.mem_map.2 ⟨y, hy, rfl⟩, h⟩
  have h2 : ∀ y, M s y i j → i ≤ j := fun y h => (M_fwd s y i j h).1
  constructor
  · rintro ⟨_, _, h⟩
    rw [← h1]; grind
  · intro h
    obtain ⟨y, hy, hm⟩ := h
    exact ⟨h2 y hm, hj, .inr (.inr (.inl ⟨by omega, h1.2 ⟨y, hy, hm⟩⟩))⟩
theorem M_and {s S : ByteArray} {l : List Rx} (hl : l ≠ []) {i j : Nat} (hj : j < s.size + 1) : M s (.mk 7 S l) i j ↔ ∀ y ∈ l, M s y i j := by
  rw [M_mk]; unfold opM
  have h1 : foldR 7 (l.map (M s)) i j ↔ ∀ y ∈ l, M s y i j := by
    cases l with
    | nil => exact absurd rfl hl
    | cons x l => rw [List.map_cons, foldR, foldl_and]; simp
  have h2 : ∀ y, M s y i j → i ≤ j := fun y h => (M_fwd s y i j h).1
  constructor
  · rintro ⟨_, _, h⟩
    rw [← h1]; grind
  · intro h
    obtain ⟨y, hy⟩ := List.exists_mem_of_ne_nil l hl
    exact ⟨h2 y (h y hy), hj, .inr (.inr (.inl ⟨by omega, h1.2 h⟩))⟩
theorem M_2 {s S : ByteArray} {l : List Rx} {i j : Nat} (hj : j < s.size + 1) : M s (.mk 2 S l) i j ↔ i = j := by
  rw [M_mk]; unfold opM; constructor
  · rintro ⟨_, _, h⟩; grind
  · rintro rfl; exact ⟨Nat.le_refl _, hj, .inl ⟨rfl, rfl⟩⟩
theorem M_3 {s S : ByteArray} {l : List Rx} {i j : Nat} (hj : j < s.size + 1) : M s (.mk 3 S l) i j ↔ j = i + 1 ∧ ∃ h : i < s.size, isIn S s[i] := by
  rw [M_mk]; unfold opM; constructor
  · rintro ⟨_, _, h⟩; grind
  · intro h; exact ⟨by omega, hj, .inr (.inl ⟨rfl, h⟩)⟩
theorem M_8 {s S : ByteArray} {x : Rx} {i j : Nat} (hij : i ≤ j) (hj : j < s.size + 1) : M s (.mk 8 S [x]) i j ↔ ¬ M s x i j := by
  rw [M_mk]; unfold opM; constructor
  · rintro ⟨_, _, h⟩; simp at h; grind
  · intro h; exact ⟨hij, hj, .inr (.inr (.inr (.inr ⟨rfl, h⟩)))⟩
theorem M_6 {s S : ByteArray} {x : Rx} {i j : Nat} (hj : j < s.size + 1) : M s (.mk 6 S [x]) i j ↔ Star (M s x) i j := by
  rw [M_mk]; unfold opM; constructor
  · rintro ⟨_, _, h⟩; simp at h; grind
  · intro h; exact ⟨h.le (M_fwd s x), hj, .inr (.inr (.inr (.inl ⟨rfl, h⟩)))⟩
theorem M_1 {s S : ByteArray} {l : List Rx} {i j : Nat} : ¬ M s (.mk 1 S l) i j := by
  rw [M_mk]; unfold opM; rintro ⟨_, _, h⟩; omega
def starK (s S : ByteArray) (x : Rx) (i j k : Nat) : Prop := i = j ∨ ∃ p, i < p ∧ p < k ∧ M s x i p ∧ M s (.mk 6 S [x]) p j
theorem starK_end {s S : ByteArray} {x : Rx} {i j : Nat} (hj : j < s.size + 1) : starK s S x i j (j + 1) ↔ M s (.mk 6 S [x]) i j := by
  rw [M_6 hj, Star.unfold (M_fwd s x)]
  unfold starK
  have : ∀ p, M s (.mk 6 S [x]) p j ↔ Star (M s x) p j := fun p => M_6 hj
  simp only [this]
  have h2 : ∀ p, Star (M s x) p j → p ≤ j := fun p h => h.le (M_fwd s x)
  grind
theorem starK_step {s S : ByteArray} {x : Rx} {i j k : Nat} (hik : i < k) : starK s S x i j (k + 1) ↔ starK s S x i j k ∨ (M s x i k ∧ M s (.mk 6 S [x]) k j) := by
  unfold starK
  grind
end Go.Ab
set_option maxHeartbeats 4000000
namespace Go.Ab
open Go Go.Ab Go.Proofs Go.Ab.Ty

theorem tab_last {b x : ABlk} {N : Nat} {f : Tb} : (b :: (tabH 1 N f ++ [x]))[N + 2]? = some x := by
  rw [List.getElem?_cons_succ, List.getElem?_append_right (by simp [tabH_len]), tabH_len]; simp
theorem tab_lastS {b x y : ABlk} {N : Nat} {f : Tb} : (b :: (tabH 1 N f ++ [x])).set (N + 2) y = b :: (tabH 1 N f ++ [y]) := by
  rw [List.set_cons_succ, List.set_append_right _ _ (by simp [tabH_len]), tabH_len]; simp
theorem tab_takeL {b x : ABlk} {N : Nat} {f : Tb} : (b :: (tabH 1 N f ++ [x])).take (N + 2) = b :: tabH 1 N f := by
  rw [List.take_succ_cons, List.take_append_of_le_length (by simp [tabH_len]), List.take_of_length_le (by simp [tabH_len])]
theorem ql_el {P : Program} {H : List ABlk} {ρ : Operand → AV} {α : Type} {t el : TypeId} {x i : Operand} {k : IntKind} {f : α → AV} {l : List α} (a : Nat) (h : a < l.length) (hx : ρ x = .lst (l.map f)) (hi : ρ i = .base (.int k a)) (ht : P.underlying t = some (.slice el)) (hsz : szTy P el = some (f l[a]).cells.length) :
    QL P H ρ (.indexAddr t x i) (.iptr (f l[a]) 0) := ql_indexAddr_lst hx hi ht (by omega) (by simp [h]) hsz
theorem refParts_ok (r : Rx) (hok : r.ok) (hwf : r.wf) (s : ByteArray) (hs : s.size ≤ 400) : Fn Try.prog 61 [encX r, str s] (tabM s r) := by
  induction r using Rx.ind with
  | h o S l ih =>
  obtain ⟨hS, hn, hl⟩ := ok_sub hok
  obtain ⟨hno, hlw⟩ := wf_sub.1 hwf
  have hl8 : l.length ≤ 8 := by unfold nodeOk at hno; split at hno <;> omega
  have hblank := blank_ok s.size (by omega)
  have hfw := M_fwd s (.mk o S l)
  have hhas := fun i (h : i < s.size) => has_ok hS s[i]
  unfold maxLen at hS hn
  rw [encX_mk]
  refine Fn.intro' [(0, .agg [.int o, str S, .lst (l.map encX)]), (1, str s)] 2 183 Try.func61 (by kernel_rfl) rfl rfl rfl rfl rfl ?_
  refine goA ?_
  refine zp rfl rfl (pl_callTab hblank rfl (by simp +decide only [go_sem] <;> rfl) (by simp +decide only [go_sem, List.map]) (by simp)) ?_
  simp only [List.length_cons, List.length_nil, Nat.zero_add, List.cons_append, List.nil_append]
  refine goA ?_
  refine ifA (fun g4 => ?_) (fun g4 => ?_)
  · simp at g4
    subst g4
    obtain ⟨x, l, rfl⟩ : ∃ x l', l = x :: l' := by
      cases l with
      | nil => unfold nodeOk at hno; simp at hno
      | cons x l' => exact ⟨x, l', rfl⟩
    have hl9 : l.length ≤ 8 := by simp at hl8; omega
    have hcat : ∀ (k : Nat) (hk : k < l.length), Fn Try.prog 93 [tabD (s.size + 1) (tb (((l.take k).map (M s)).foldl (stepR 4) (M s x))), tabM s l[k], .int s.size] (tabD (s.size + 1) (tb (((l.take (k + 1)).map (M s)).foldl (stepR 4) (M s x)))) := fun k hk => by
      have hF := foldl_fwd (o := 4) (l := (l.take k).map (M s)) (M_fwd s x) (fun R hR => by obtain ⟨y, _, rfl⟩ := List.mem_map.1 hR; exact M_fwd s y)
      have := refCat_ok (n := s.size) (by omega) hF (M_fwd s l[k])
      rw [List.take_succ_eq_append_getElem hk, List.map_append, List.foldl_append]
      exact this
    have ih1 := ih x (by simp) (hl _ (by simp)) (hlw _ (by simp))
    rcases hx : x with ⟨o1, s1, l1⟩
    rw [hx, encX_mk] at ih1
    refine goA ?_
    refine ARun.q1 rfl rfl (ql_indexAddr_lst rfl rfl Try.underlying22 (by omega) (e := .agg [.int o1, str s1, .lst (l1.map encX)]) (by simp [hx, encX_mk]) (by kernel_rfl)) ?_
    refine goA ?_
    refine callA (ih1) ?_
    refine goA ?_
    rw [← hx]
    refine keA [1, 2, 5, 6, 7] ?_
    refine AWp.loopP (J := fun k : Nat => k ≤ l.length) (fun k => [(6, tabD (s.size + 1) (tb (((l.take k).map (M s)).foldl (stepR 4) (M s x)))), (7, .int (k + 1 : Nat))]) (fun k => l.length - k) 0 (Nat.zero_le _) (.env' (by simp +decide only [go_sem]; simp [Le.refl, tabM])) ?_
    intro k hk
    refine goA ?_
    refine ifA (fun hd2 => ?_) (fun hd2 => ?_)
    · simp at hd2
      replace hd2 : k < l.length := by omega
      have hm : l[k] ∈ x :: l := by simp
      have ih2 := ih _ hm (hl _ hm) (hlw _ hm)
      rcases hy : l[k] with ⟨o2, s2, l2⟩
      have hc := hcat k hd2
      rw [hy] at hc
      rw [hy, encX_mk] at ih2
      refine goA ?_
      refine ARun.q1 rfl rfl (ql_indexAddr_lst rfl rfl Try.underlying22 (by omega) (e := .agg [.int o2, str s2, .lst (l2.map encX)]) (by simp [hd2, hy, encX_mk]) (by kernel_rfl)) ?_
      refine goA ?_
      refine callA (ih2) ?_
      refine goA ?_
      refine callA (hc) ?_
      refine goA ?_
      rw [wrap_succ (by omega)]
      exact ⟨k + 1, by omega, by omega, .wk⟩
    simp at hd2
    obtain rfl : k = l.length := by omega
    refine goA ?_
    exact Ret.data rfl (by rw [List.take_length]; exact M457 (.inl rfl) x l) (Pu_tabM _ _)
  simp at g4
  refine goA ?_
  obtain ⟨N, hN⟩ : ∃ N, N = s.size + 1 := ⟨_, rfl⟩
  rw [← hN] at hfw ⊢
  obtain ⟨BX, hBX⟩ : ∃ BX : ABlk, BX = ⟨24, 3, [.agg [.int o, str S, .lst (l.map encX)]]⟩ := ⟨_, rfl⟩
  have hHl : (BX :: tabH 1 N fun _ _ => false : List ABlk).length = N + 2 := by simp [tabH_len]
  have hPB : ∀ e ∈ BX.es, ∀ c ∈ e.cells, Pu c := by rw [hBX]; exact PuBlX o S l _ (List.mem_singleton.2 rfl)
  rw [← hBX]
  refine keA [1, 2, 5, 6, 8, 9] ?_
  have hw : Wk (OfNat.ofNat 183) ⟨[(1, str s), (2, .ptr 0 1 0 0), (5, .int s.size), (6, .own 1 N 0 N), (8, .base (.slice none 0 0)), (9, .base (.int .i64 0))], BX :: tabH 1 N fun _ _ => false⟩
      ⟨[(8, .own (N + 2) 0 0 0), (9, .int (0 : Nat)), (1, str s), (2, .ptr 0 1 0 0), (5, .int s.size), (6, .own 1 N 0 N)], (BX :: tabH 1 N fun _ _ => false) ++ [⟨67, 1, []⟩]⟩ :=
    .nil 67 1 (by simp [List.forall_mem_cons, lk, Le.refl, hHl])
  refine AWp.loop (J := fun k : Nat => k ≤ l.length) (fun k => ⟨[(8, .own (N + 2) k 0 k), (9, .int k), (1, str s), (2, .ptr 0 1 0 0), (5, .int s.size), (6, .own 1 N 0 N)], BX :: (tabH 1 N (fun _ _ => false) ++ [(⟨67, 1, (l.take k).map (tabM s)⟩ : ABlk)])⟩) (fun k => l.length - k) 0 (Nat.zero_le _) hw ?_
  clear hw
  intro k hk
  subst hBX
  refine goA ?_
  refine ifA (fun hd => ?_) (fun hd => ?_)
  · simp at hd
    have hm : l[k] ∈ l := List.getElem_mem _
    have ih1 := ih _ hm (hl _ hm) (hlw _ hm)
    rcases hx : l[k] with ⟨o1, s1, l1⟩
    rw [hx, encX_mk] at ih1
    refine goA ?_
    refine ARun.q1 rfl rfl (ql_indexAddr_lst rfl rfl Try.underlying22 (by omega) (e := .agg [.int o1, str s1, .lst (l1.map encX)]) (by simp [hd, hx, encX_mk]) (by kernel_rfl)) ?_
    refine goA ?_
    refine callA (ih1) ?_
    refine goA ?_
    refine bslA Try.underlying124 sz67 ?_
    refine goA ?_
    have hH : (l.take (k + 1)).map (tabM s) = (l.take k).map (tabM s) ++ [tabM s (.mk o1 s1 l1)] := by rw [List.take_succ_eq_append_getElem hd, hx]; simp
    refine ARun.p1 rfl rfl (pl_append (b := N + 2) (tot := k) (es := [tabM s (.mk o1 s1 l1)]) (by simp +decide only [go_sem] <;> rfl) (by simp +decide only [go_sem] <;> rfl) tab_last (by simp; omega) Try.underlying124 el67 rfl rfl (by simp) (fun e he => by rw [List.mem_singleton] at he; subst he; exact ⟨rfl, rfl⟩) (by simp; omega) (by simp; omega)) ?_
    rw [tab_lastS]
    refine goA ?_
    rw [wrap_succ (by omega)]
    refine ⟨k + 1, by omega, by omega, ?_⟩
    rw [hH]
    exact .wk
  simp at hd
  obtain rfl : k = l.length := by omega
  rw [List.take_length]
  refine AWp.weaken (s2 := ⟨[(1, str s), (2, .ptr 0 1 0 0), (5, .int s.size), (6, .own 1 N 0 N), (8, .lst (l.map (tabM s)))], ⟨24, 3, [.agg [.int o, str S, .lst (l.map encX)]]⟩ :: tabH 1 N fun _ _ => false⟩) (Wk.trim' (N + 2) tab_takeL (by simp +decide only [go_sem, WkP]; exact ⟨.pu (.base _), .ptr (by omega), .pu (.base _), .own (by omega), Pub.ownM (Nat.le_refl _) tab_last rfl fun x _ c hc => by simp [tabM_cells] at hc; subst hc; exact Pu_tabM s x⟩) (pub_tab1H hPB)) ?_
  refine goA ?_
  rw [prR_N hfw]
  refine keA [1, 2, 5, 6, 8, 10] ?_
  refine AWp.loopH (J := fun k : Nat => k ≤ N) (fun k => [(10, .int ((k : Int) - 1)), (11, .bad), (12, .bad), (13, .bad), (14, .bad)]) (fun k => ⟨24, 3, [.agg [.int o, str S, .lst (l.map encX)]]⟩ :: tabH 1 N (tb (prR (M s (.mk o S l)) k))) (fun k => k) N (Nat.le_refl _) (by simp only [show ((N : Int) - 1) = (s.size : Int) by omega]; exact .wk) ?_
  rintro k2 hk2
  refine goA ?_
  refine ifA (fun hdi => ?_) (fun hdi => ?_)
  · simp at hdi
    obtain ⟨i, rfl⟩ : ∃ i, k2 = i + 1 := ⟨k2 - 1, by omega⟩
    rw [show ((i + 1 : Nat) : Int) - 1 = (i : Int) by omega, prJ_s hfw]
    have hi : i < N := by omega
    refine goA ?_
    refine keA [1, 2, 5, 6, 8, 10, 11] ?_
    refine AWp.loopH (J := fun j : Nat => i ≤ j ∧ j ≤ N) (fun j => [(11, .int j), (12, .bad), (13, .bad), (14, .bad)]) (fun j => ⟨24, 3, [.agg [.int o, str S, .lst (l.map encX)]]⟩ :: tabH 1 N (tb (prJ (M s (.mk o S l)) i j))) (fun j => N - j) i ⟨Nat.le_refl _, by omega⟩ .wk ?_
    rintro j ⟨hij, hj⟩
    refine goA ?_
    refine ifA (fun hdj => ?_) (fun hdj => ?_)
    · simp at hdj
      have hjN : j < N := by omega
      have hj1 : j < s.size + 1 := by omega
      have hi1 : i < s.size + 1 := by omega
      refine goA ?_
      refine keA [1, 2, 5, 6, 8, 10, 11, 12, 13] ?_
      refine AWp.loopP (J := fun k : Nat => k ≤ l.length ∧ (o = 6 → k = 0)) (fun k => [(12, .bool (accB s o (l.take k) i j)), (13, .int k)]) (fun k => l.length - k) 0 ⟨Nat.zero_le _, fun _ => rfl⟩ (.env' (by simp +decide only [go_sem]; simp [Le.refl, accB])) ?_
      rintro k ⟨hk, hk6⟩
      refine goA ?_
      refine ifA (fun hdk => ?_) (fun hdk => ?_)
      · simp at hdk
        obtain ⟨hkl, h6⟩ := hdk
        refine goA ?_
        refine ifA (fun h7 => ?_) (fun h7 => ?_)
        · simp at h7
          have hacc : accB s o (l.take (k + 1)) i j = (bif accB s o (l.take k) i j then tb (M s l[k]) i j else false) := by
            rw [List.take_succ_eq_append_getElem hkl, accB_and h7]; cases accB s o (l.take k) i j <;> rfl
          refine goA ?_
          refine gqA (h := fun hg => ql_el k hkl (by simp +decide only [go_sem] <;> rfl) (by simp +decide only [go_sem] <;> rfl) Try.underlying124 (by kernel_rfl)) (hr := ?_)
          refine goA ?_
          refine gqA (h := fun hg => ql_tabRow i (by simp +decide only [go_sem] <;> rfl) (by simp +decide only [go_sem] <;> rfl) Try.underlying67 ⟨rfl, hi1⟩ (by kernel_rfl)) (hr := ?_)
          refine goA ?_
          refine gqA (h := fun hg => ql_tabCell j (by simp +decide only [go_sem] <;> rfl) (by simp +decide only [go_sem] <;> rfl) Try.underlying71 ⟨rfl, hj1⟩ (by kernel_rfl)) (hr := ?_)
          refine goA ?_
          rw [wrap_succ (by omega)]
          refine ⟨k + 1, ⟨by omega, fun h => absurd h h6⟩, by omega, ?_⟩
          rw [hacc]
          exact .wk
        simp at h7
        have hacc : accB s o (l.take (k + 1)) i j = (bif accB s o (l.take k) i j then true else tb (M s l[k]) i j) := by
          rw [List.take_succ_eq_append_getElem hkl, accB_or h7]; cases accB s o (l.take k) i j <;> rfl
        refine goA ?_
        refine gqA (h := fun hg => ql_el k hkl (by simp +decide only [go_sem] <;> rfl) (by simp +decide only [go_sem] <;> rfl) Try.underlying124 (by kernel_rfl)) (hr := ?_)
        refine goA ?_
        refine gqA (h := fun hg => ql_tabRow i (by simp +decide only [go_sem] <;> rfl) (by simp +decide only [go_sem] <;> rfl) Try.underlying67 ⟨rfl, hi1⟩ (by kernel_rfl)) (hr := ?_)
        refine goA ?_
        refine gqA (h := fun hg => ql_tabCell j (by simp +decide only [go_sem] <;> rfl) (by simp +decide only [go_sem] <;> rfl) Try.underlying71 ⟨rfl, hj1⟩ (by kernel_rfl)) (hr := ?_)
        refine goA ?_
        rw [wrap_succ (by omega)]
        refine ⟨k + 1, ⟨by omega, fun h => absurd h h6⟩, by omega, ?_⟩
        rw [hacc]
        exact .wk
      simp at hdk
      have hT : o ≠ 6 → l.take k = l := fun h => List.take_of_length_le (by
        rcases Nat.lt_or_ge k l.length with h1 | h1
        · exact absurd (hdk h1) h
        · exact h1)
      refine gnA ?_
      refine keA [1, 2, 5, 6, 8, 10, 11, 12, 118] ?_
      refine AWp.joinP [(12, .bool (tb (M s (.mk o S l)) i j)), (14, .bad)] ?_ ?_
      · refine goA ?_
        refine ifA (fun h2 => ?_) (fun h2 => ?_)
        · simp at h2
          subst h2
          refine goA ?_
          have e : tb (M s (.mk 2 S l)) i j = decide ((i : Int) = j) := by rw [Bool.eq_iff_iff]; simp [tb, M_2 hj1]; omega
          rw [e]
          exact .env' (by simp +decide only [go_sem])
        simp at h2
        refine goA ?_
        refine ifA (fun h3 => ?_) (fun h3 => ?_)
        · simp at h3
          subst h3
          refine goA ?_
          refine drA (k := 12) follows (hr := ?_)
          refine goA ?_
          rw [wrap_succ (by omega)]
          by_cases hlt : i < s.size
          · have hh := hhas i hlt
            refine gqA (h := fun hg => ql_index_str (by simp +decide only [go_sem] <;> rfl) (by simp +decide only [go_sem] <;> rfl) Try.underlying9 (by omega) (bs_get (i := i) hlt)) (hr := ?_)
            refine goA ?_
            refine gcallA (i := fun hg => hh) (hr := ?_)
            refine goA ?_
            have e : tb (M s (.mk 3 S l)) i j = (bif decide ((j : Int) = ((i + 1 : Nat) : Int)) then @decide (isIn S s[i]) (Classical.propDecidable _) else false) := by
              rw [Bool.eq_iff_iff]
              by_cases hji : j = i + 1
              · subst hji; simp [tb, M_3 hj1, hlt]
              · have : ¬ ((j : Int) = ((i + 1 : Nat) : Int)) := by omega
                simp [tb, M_3 hj1, hlt, hji]; omega
            rw [e]
            exact .env' (by simp +decide only [go_sem])
          have hji : ¬ ((j : Int) = ((i + 1 : Nat) : Int)) := by omega
          refine ARun.gl (v := chr 0) rfl rfl (by simp +decide only [go_sem] <;> rfl) (fun hg => by exfalso; simp [gc, allL] at hg; omega) ?_
          refine goA ?_
          refine ARun.gl (v := .bool false) rfl rfl (by simp +decide only [go_sem] <;> rfl) (fun hg => by exfalso; simp [gc, allL] at hg; omega) ?_
          refine goA ?_
          have e : tb (M s (.mk 3 S l)) i j = (bif decide ((j : Int) = ((i + 1 : Nat) : Int)) then false else false) := by
            rw [Bool.eq_iff_iff]
            simp [tb, M_3 hj1, hlt]
          rw [e]
          exact .env' (by simp +decide only [go_sem])
        simp at h3
        refine goA ?_
        refine ifA (fun h8 => ?_) (fun h8 => ?_)
        · simp at h8
          subst h8
          rw [hT (by omega)]
          obtain ⟨x, rfl⟩ : ∃ x, l = [x] := List.length_eq_one_iff.1 (by unfold nodeOk at hno; rw [if_neg (by omega)] at hno; omega)
          refine goA ?_
          have e : tb (M s (.mk 8 S [x])) i j = !accB s 8 [x] i j := by rw [Bool.eq_iff_iff]; simp [tb, accB, M_8 hij hj1]
          rw [e]
          exact .env' (by simp +decide only [go_sem])
        simp at h8
        refine goA ?_
        refine ifA (fun h6 => ?_) (fun h6 => ?_)
        · simp at h6
          subst h6
          obtain ⟨x, rfl⟩ : ∃ x, l = [x] := List.length_eq_one_iff.1 (by unfold nodeOk at hno; rw [if_neg (by omega)] at hno; omega)
          refine goA ?_
          rw [wrap_succ (by omega)]
          refine keA [1, 2, 5, 6, 8, 10, 11, 12, 14, 118] ?_
          refine AWp.loopP (J := fun k : Nat => i < k ∧ k ≤ j + 1) (fun k => [(12, .bool (tb (fun a c => starK s S x a c k) i j)), (14, .int k)]) (fun k => j + 1 - k) (i + 1) ⟨by omega, by omega⟩ ?_ ?_
          · have e : tb (fun a c => starK s S x a c (i + 1)) i j = decide ((i : Int) = j) := by
              rw [Bool.eq_iff_iff]; simp only [tb, decide_eq_true_eq]
              unfold starK
              constructor
              · rintro (h | ⟨p, h1, h2, _⟩) <;> omega
              · intro h; exact .inl (by omega)
            rw [e]
            exact .env' (by simp +decide only [go_sem])
          rintro k ⟨hik, hkj⟩
          refine goA ?_
          refine ifA (fun hdk => ?_) (fun hdk => ?_)
          · simp at hdk
            have hkN : k < N := by omega
            have hk1 : k < s.size + 1 := by omega
            have e : tb (fun a c => starK s S x a c (k + 1)) i j = (bif tb (fun a c => starK s S x a c k) i j then true else bif tb (M s x) i k then tb (prJ (M s (.mk 6 S [x])) i j) k j else false) := by
              have h1 : tb (prJ (M s (.mk 6 S [x])) i j) k j = tb (M s (.mk 6 S [x])) k j := by
                rw [Bool.eq_iff_iff]; simp only [tb, decide_eq_true_eq]; unfold prJ; grind
              rw [h1]
              by_cases hs1 : starK s S x i j k <;> by_cases hs2 : M s x i k <;> by_cases hs3 : M s (.mk 6 S [x]) k j <;> simp [tb, hs1, hs2, hs3, starK_step hik]
            refine goA ?_
            refine gqA (h := fun hg => ql_indexAddr_lst (by simp +decide only [go_sem] <;> rfl) (by simp +decide only [go_sem] <;> rfl) Try.underlying124 (by decide) (show ([x].map (tabM s))[(0 : Int).toNat]? = some (tabM s x) from rfl) (by kernel_rfl)) (hr := ?_)
            refine goA ?_
            refine gqA (h := fun hg => ql_tabRow i (by simp +decide only [go_sem] <;> rfl) (by simp +decide only [go_sem] <;> rfl) Try.underlying67 ⟨rfl, hi1⟩ (by kernel_rfl)) (hr := ?_)
            refine goA ?_
            refine gqA (h := fun hg => ql_tabCell k (by simp +decide only [go_sem] <;> rfl) (by simp +decide only [go_sem] <;> rfl) Try.underlying71 ⟨rfl, hk1⟩ (by kernel_rfl)) (hr := ?_)
            refine goA ?_
            refine gqA (h := fun hg => ql_ownRowAddr k (by simp +decide only [go_sem] <;> rfl) (by simp +decide only [go_sem] <;> rfl) (by rfl) Try.underlying67 ⟨rfl, hkN⟩ (by kernel_rfl)) (hr := ?_)
            refine goA ?_
            refine gqA (h := fun hg => ql_ownRow (by simp +decide only [go_sem] <;> rfl) (by rfl) hkN agg71) (hr := ?_)
            refine goA ?_
            refine gqA (h := fun hg => ql_ownCellAddr j (by simp +decide only [go_sem] <;> rfl) (by simp +decide only [go_sem] <;> rfl) (tab_row01 hkN) Try.underlying71 ⟨rfl, hjN⟩ (by kernel_rfl)) (hr := ?_)
            refine goA ?_
            refine gqA (h := fun hg => ql_ownCell (by simp +decide only [go_sem] <;> rfl) (tab_row01 hkN) hjN agg4) (hr := ?_)
            refine goA ?_
            rw [wrap_succ (by omega)]
            refine ⟨k + 1, ⟨by omega, by omega⟩, by omega, ?_⟩
            rw [e]
            exact .wk
          simp at hdk
          obtain rfl : k = j + 1 := by omega
          refine goA ?_
          have e : tb (M s (.mk 6 S [x])) i j = tb (fun a c => starK s S x a c (j + 1)) i j := by
            rw [Bool.eq_iff_iff]; simp only [tb, decide_eq_true_eq]; exact (starK_end hj1).symm
          rw [e]
          exact .env' (by simp +decide only [go_sem])
        simp at h6
        rw [hT h6]
        refine goA ?_
        have e : tb (M s (.mk o S l)) i j = accB s o l i j := by
          unfold nodeOk at hno
          rw [if_neg h3] at hno
          rcases (by omega : o = 1 ∨ o = 2 ∨ o = 5 ∨ o = 7) with rfl | rfl | rfl | rfl
          · obtain rfl : l = [] := List.eq_nil_of_length_eq_zero (by omega)
            rw [Bool.eq_iff_iff]; simp [tb, accB, M_1]
          · omega
          · rw [Bool.eq_iff_iff]; simp [tb, accB, M_or hj1]
          · rw [Bool.eq_iff_iff]; simp [tb, accB, M_and (l := l) (by intro h; subst h; simp at hno) hj1]
        rw [e]
        exact .env' (by simp +decide only [go_sem])
      refine goA ?_
      refine ARun.q1 rfl rfl (ql_ownRowAddr i rfl rfl (by rfl) Try.underlying67 ⟨rfl, hi⟩ (by kernel_rfl)) ?_
      refine goA ?_
      refine ARun.q1 rfl rfl (ql_ownRow rfl (by rfl) hi agg71) ?_
      refine goA ?_
      refine ARun.q1 rfl rfl (ql_ownCellAddr j rfl rfl (tab_row01 hi) Try.underlying71 ⟨rfl, hjN⟩ (by kernel_rfl)) ?_
      refine zp rfl rfl (pl_ownCell (tb (M s (.mk o S l)) i j) (by simp +decide only [go_sem] <;> rfl) (by simp +decide only [go_sem] <;> rfl) (tab_row01 hi) hjN (by kernel_rfl)) ?_
      rw [tab_set01 hi, prJ_j (by simp [tb])]
      refine goA ?_
      rw [wrap_succ (by omega)]
      exact ⟨j + 1, ⟨by omega, by omega⟩, by omega, .wk⟩
    simp at hdj
    obtain rfl : j = N := by omega
    rw [prJ_e hfw]
    refine goA ?_
    rw [wrap_id (by omega) (by omega)]
    exact ⟨i, by omega, by omega, .wk⟩
  simp at hdi
  obtain rfl : k2 = 0 := by omega
  rw [prR_0]
  refine goA ?_
  exact Ret.pub rfl (by subst hN; exact Pub_tab1)
end Go.Ab
