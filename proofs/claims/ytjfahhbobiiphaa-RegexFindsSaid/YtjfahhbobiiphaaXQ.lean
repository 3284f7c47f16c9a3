/- Part of the proof. -/
import Derived.Test.YtjfahhbobiiphaaXP
set_option linter.unusedSimpArgs false
set_option linter.unusedVariables false
set_option maxHeartbeats 4000000
namespace Go.Ab
open Go Go.Ab Go.Proofs Go.Ab.Ty

theorem Pu_tup3 {a b c : AV} (ha : Pu a) (hb : Pu b) (hc : Pu c) : Pu (.tup [a, b, c]) := .tup fun d hd => by
  simp only [List.mem_cons, List.not_mem_nil, or_false] at hd
  rcases hd with rfl | rfl | rfl
  · exact ha
  · exact hb
  · exact hc
def fI : Option (Nat × Nat) → Int × Int
  | none => (-1, -1)
  | some (a, b) => (a, b)
theorem encF_fI (o : Option (Nat × Nat)) : encF o = .tup [.int (fI o).1, .int (fI o).2] := by
  rcases o with _ | ⟨a, b⟩ <;> rfl
noncomputable def allL' (r : Rx) (s : ByteArray) : List (Nat × Nat) := allG (tb (M s r)) (s.size + 1) (s.size + 1 + 1) 0 (-1)
noncomputable def finI (r : Rx) (s : ByteArray) : Int × Int := fI (findO (tb (M s r)) (s.size + 1) (s.size + 1))
theorem all_t {r : Rx} (hok : r.ok) (hc : r.cnt ≤ 1000000000) {s : ByteArray} (hf : fit r s) : Fn Try.prog 28 [encX r, str s] (.tup [.lst ((allL' r s).map encP), .int 0]) := by
  have i1 := asked_ok r hok hc s
  rw [askA_t hf] at i1
  have i2 : Fn Try.prog 66 [tabM s r] (.lst ((allL' r s).map encP)) := allP_ok (N := s.size + 1) (by have := hf.2.1; omega) (tb (M s r))
  obtain ⟨o, S, l⟩ := r
  rw [encX_mk] at i1 ⊢
  refine Fn.intro' [(0, .agg [.int o, str S, .lst (l.map encX)]), (1, str s)] 2 19 Try.func28 (by kernel_rfl) rfl rfl rfl rfl rfl ?_
  refine goA ?_
  refine callA (i1) ?_
  refine goA ?_
  refine ifA (fun h => ?_) (fun h => ?_)
  · simp at h
  refine goA ?_
  refine callA (i2) ?_
  refine goA ?_
  exact Ret.data rfl rfl (Pu_tup2 (Pu_mapP _) (.base _))
theorem find_t {r : Rx} (hok : r.ok) (hc : r.cnt ≤ 1000000000) {s : ByteArray} (hf : fit r s) : Fn Try.prog 29 [encX r, str s] (.tup [.int (finI r s).1, .int (finI r s).2, .int 0]) := by
  have i1 := asked_ok r hok hc s
  rw [askA_t hf] at i1
  have i2 : Fn Try.prog 67 [tabM s r, .int 0] (.tup [.int (finI r s).1, .int (finI r s).2]) := by
    have := find_ok (N := s.size + 1) (by have := hf.2.1; omega) (tb (M s r)) 0 (by omega)
    rw [encF_fI] at this
    exact this
  obtain ⟨o, S, l⟩ := r
  rw [encX_mk] at i1 ⊢
  refine Fn.intro' [(0, .agg [.int o, str S, .lst (l.map encX)]), (1, str s)] 2 25 Try.func29 (by kernel_rfl) rfl rfl rfl rfl rfl ?_
  refine goA ?_
  refine callA (i1) ?_
  refine goA ?_
  refine ifA (fun h => ?_) (fun h => ?_)
  · simp at h
  refine goA ?_
  refine callA (i2) ?_
  refine goA ?_
  exact Ret.data rfl rfl (Pu_tup3 (.base _) (.base _) (.base _))
def prevT (t : Int) (l : List (Nat × Nat)) : Nat → Int
  | 0 => t
  | i + 1 => (nth (0, 0) l i).2
theorem goodL_get {f : Tb} {N : Nat} : ∀ {l : List (Nat × Nat)} {t p : Int}, goodL f N t p l → ∀ i : Nat, ∀ h : i < l.length,
    prevT t l i ≤ (l[i]).1 ∧ (l[i]).1 ≤ (l[i]).2 ∧ (l[i]).2 < N ∧ f (l[i]).1 (l[i]).2 = true ∧ (i = 0 → ((l[i]).1 : Int) ≠ p) ∧ ∀ k, ∀ e : i = k + 1, ((l[i]).1 : Int) ≠ (nth (0, 0) l k).1
  | (a, b) :: l, t, p, ⟨h1, h2, h3, h4, h5, h6⟩, 0, h => ⟨h1, h2, h3, h5, fun _ => h4, fun k e => by omega⟩
  | (a, b) :: l, t, p, ⟨h1, h2, h3, h4, h5, h6⟩, i + 1, h => by
    have hi : i < l.length := by simpa using h
    obtain ⟨g1, g2, g3, g4, g5, g6⟩ := goodL_get h6 i hi
    refine ⟨?_, g2, g3, g4, fun e => by omega, fun k e => ?_⟩
    · cases i with
      | zero => exact g1
      | succ i =>
        have : nth (0, 0) ((a, b) :: l) ((i + 1 : Nat) : Int) = nth (0, 0) l (i : Int) := by simp [nth]
        show ((nth (0, 0) ((a, b) :: l) ((i + 1 : Nat) : Int)).2 : Int) ≤ _
        rw [this]; exact g1
    · obtain rfl : i = k := by omega
      cases i with
      | zero => exact g5 rfl
      | succ i =>
        have : nth (0, 0) ((a, b) :: l) ((i + 1 : Nat) : Int) = nth (0, 0) l (i : Int) := by simp [nth]
        rw [this]; exact g6 i rfl
theorem allG_first {f : Tb} {N u : Nat} : (allG f N (u + 1) 0 (-1) = [] ∧ findO f N N = none) ∨ ∃ a b l, allG f N (u + 1) 0 (-1) = (a, b) :: l ∧ findO f N N = some (a, b) := by
  rw [allG, Nat.sub_zero]
  rcases h : findO f N N with _ | ⟨a, b⟩
  · exact .inl ⟨rfl, rfl⟩
  · right
    simp only
    split
    · rw [if_neg (by omega)]; exact ⟨a, b, _, rfl, rfl⟩
    · exact ⟨a, b, _, rfl, rfl⟩
theorem allG_len {f : Tb} {N : Nat} : ∀ {u at_ : Nat} {behind : Int}, (allG f N u at_ behind).length ≤ u
  | 0, _, _ => by simp [allG]
  | u + 1, at_, behind => by
    rw [allG]
    split
    · simp
    · rename_i a b he
      split
      · have := allG_len (f := f) (N := N) (u := u) (at_ := b + 1) (behind := behind)
        split
        · simpa using Nat.le_succ_of_le this
        · simp; omega
      · have := allG_len (f := f) (N := N) (u := u) (at_ := b) (behind := b)
        simp; omega
theorem ql_eq2 {P : Program} {H : List ABlk} {ρ : Operand → AV} (la lb : List Int) {t el yt : TypeId} {x y : Operand} {n : Nat} {k' : IntKind} (hx : ρ x = .agg (la.map AV.int)) (hy : ρ y = .agg (lb.map AV.int)) (ht : P.underlying t = some (.array n el))
    (hel : P.underlying el = some (.int k')) (hsz : szTy P el = some 1) (ha : aggTy P el = some false) (hl : la.length = n) (hl' : lb.length = n) (hg : P.eqGuardType P.depth t = false) : QL P H ρ (.binOp .eql t x y yt) (.bool (decide (la = lb))) :=
  ql_eq_arr hx hy ht hel hsz ha hl hl' hg
theorem law_parts (r : Rx) (hok : r.ok) (s : ByteArray) : Fn Try.prog 5 [encX r, str s] (.bool true) := by
  have i1 := small_ok [r] (Nat.le_of_lt (by decide : 1 < maxLen)) (by simpa using hok)
  have i2 := refValid_ok r hok
  have i3 := refText_ok s
  have hsm : smallX r → r.cnt ≤ 80 := fun h => h.1
  have hfit : r.valid → isTx s → fit r s := fun h1 h2 => ⟨h1, h2⟩
  have k1 := fun (h : smallX r) (hf : fit r s) => lonely_ok r hok (by have := h.1; omega) s
  have k2 := fun (h : smallX r) (hf : fit r s) => all_t hok (by have := h.1; omega) hf
  have k3 := fun (h : smallX r) (hf : fit r s) => find_t hok (by have := h.1; omega) hf
  have k4 := fun (h : smallX r) (hf : fit r s) (a b : Nat) (hab : a ≤ b) (hb : b ≤ s.size) => (matA_sub hf hab hb) ▸ matches_ok r hok (by have := h.1; omega) (s.extract a b)
  have hgood : goodL (tb (M s r)) (s.size + 1) 0 (-1) (allL' r s) := allG_good (by omega) (by omega)
  have hfirst : (allL' r s = [] ∧ finI r s = (-1, -1)) ∨ ∃ (a b : Nat) (l : List (Nat × Nat)), allL' r s = (a, b) :: l ∧ finI r s = ((a : Int), (b : Int)) := by
    unfold allL' finI
    rcases allG_first (f := tb (M s r)) (N := s.size + 1) (u := s.size + 1) with ⟨h1, h2⟩ | ⟨a, b, l, h1, h2⟩
    · exact .inl ⟨h1, by rw [h2]; rfl⟩
    · exact .inr ⟨a, b, l, h1, by rw [h2]; rfl⟩
  have hLl : (allL' r s).length ≤ s.size + 2 := allG_len
  have hlast := lastG_spec (g := tb (M s r) 0) (a := 0) (k := s.size + 1)
  have hlon := @lonA_t r s
  generalize allL' r s = L at *
  generalize finI r s = FI at *
  obtain ⟨o, S, l⟩ := r
  rw [List.map_cons, List.map_nil, encX_mk] at i1
  rw [encX_mk] at i2 k1 k2 k3 k4 ⊢
  refine Fn.intro' [(0, .agg [.int o, str S, .lst (l.map encX)]), (1, str s)] 2 191 Try.func5 (by kernel_rfl) rfl rfl rfl rfl rfl ?_
  refine goA ?_
  refine bslA Try.underlying22 sz24 ?_
  refine goA ?_
  refine callA (i1) ?_
  refine goA ?_
  refine gcallA (i := fun hg => i2) (hr := ?_)
  refine goA ?_
  refine gcallA (i := fun hg => i3) (hr := ?_)
  refine goA ?_
  refine ifA (fun hc => ?_) (fun hc => ?_)
  · refine goA ?_
    exact Ret.bool rfl (by simp)
  simp at hc
  obtain ⟨⟨⟨hsx, h50⟩, hva⟩, htx⟩ := hc
  have hf := hfit hva htx
  replace k1 := k1 hsx hf
  rw [hlon hf] at k1
  replace k2 := k2 hsx hf
  replace k3 := k3 hsx hf
  replace k4 := k4 hsx hf
  generalize tb (M s (Rx.mk o S l)) = F at *
  generalize hn : lastG (F 0) 0 (s.size + 1) = n at *
  have hn1 : -1 ≤ n ∧ n ≤ s.size := by
    rcases hlast with ⟨h1, _⟩ | ⟨j, h1, h2, h3, _⟩ <;> omega
  have hni : ∀ i : Nat, n ≤ i → i ≤ s.size → F 0 i = decide ((i : Int) = n) := fun i h1 h2 => by
    rcases hlast with ⟨e1, e2⟩ | ⟨j, e1, _, e3, e4, e5⟩
    · rw [e2 i (by omega) (by omega)]; symm; rw [decide_eq_false_iff_not]; omega
    · by_cases h : i = j
      · subst h; rw [e4]; symm; rw [decide_eq_true_iff]; omega
      · rw [e5 i (by omega) (by omega)]; symm; rw [decide_eq_false_iff_not]; omega
  refine goA ?_
  refine callA (k1) ?_
  refine goA ?_
  refine ifA (fun h1 => ?_) (fun h1 => ?_)
  · simp at h1; omega
  refine goA ?_
  refine ARun.q1 rfl rfl (ql_max rfl rfl) ?_
  refine goA ?_
  refine keA [1, 2, 4, 5, 7] ?_
  refine AWp.loopP (J := fun i : Nat => max n 0 ≤ i ∧ (i : Int) ≤ s.size + 1) (fun i => [(7, .int i), (8, .bad), (9, .bad)]) (fun i => s.size + 1 - i) (max n 0).toNat ⟨by omega, by omega⟩ (by rw [show (((max n 0).toNat : Nat) : Int) = max n 0 by omega]; exact .wk) ?_
  rintro i ⟨hi1, hi2⟩
  refine goA ?_
  refine ifA (fun hd => ?_) (fun hd => ?_)
  · simp at hd
    have hm := k4 0 i (by omega) (by omega)
    rw [hni i (by omega) (by omega)] at hm
    refine goA ?_
    refine drA (k := 10) follows (hr := ?_)
    refine goA ?_
    refine ARun.q1 rfl rfl (ql_slice_str (l := 0) (h := i) rfl Try.underlying9 rfl (by simp [bnd, lk, go_sem]) (by omega) (by omega)) ?_
    refine goA ?_
    refine callA (hm) ?_
    refine goA ?_
    refine ifA (fun hq => ?_) (fun hq => ?_)
    · simp at hq
    refine goA ?_
    rw [wrap_succ (by omega)]
    exact ⟨i + 1, ⟨by omega, by omega⟩, by omega, .wk⟩
  simp at hd
  refine goA ?_
  refine callA (k2) ?_
  refine goA ?_
  refine ifA (fun hq => ?_) (fun hq => ?_)
  · simp at hq
  refine goA ?_
  refine keA [1, 2, 4, 10, 12, 13] ?_
  have hget := goodL_get hgood
  refine AWp.loopP (J := fun i : Nat => i ≤ L.length) (fun i => [(13, .int i), (12, .int (prevT 0 L i)), (14, .bad), (15, .bad), (16, .bad), (17, .bad)]) (fun i => L.length - i) 0 (Nat.zero_le _) (.env' (by simp +decide only [go_sem, prevT] <;> simp [Le.refl, prevT])) ?_
  clear hd hq hi1 hi2
  intro i hi
  refine goA ?_
  refine ifA (fun hd => ?_) (fun hd => ?_)
  · simp at hd
    obtain ⟨g1, g2, g3, g4, g5, g6⟩ := hget i hd
    have hnx : prevT 0 L (i + 1) = ((L[i]).2 : Int) := by show ((nth (0, 0) L i).2 : Int) = _; rw [nth_eq hd]
    obtain ⟨⟨pa, pb⟩, hpr⟩ : ∃ q, nth (0, 0) L ((i - 1 : Nat) : Int) = q := ⟨_, rfl⟩
    have hp : 0 < i → (L.map encP)[((i : Int) - 1).toNat]? = some (.agg [.int pa, .int pb]) := fun h => by
      have h2 : i - 1 < L.length := by omega
      rw [show ((i : Int) - 1).toNat = i - 1 by omega, List.getElem?_map, List.getElem?_eq_getElem h2]
      rw [nth_eq h2] at hpr
      rw [hpr]; rfl
    have hne : 0 < i → ((L[i]).1 : Int) ≠ pa := fun h => by
      have := g6 (i - 1) (by omega)
      rw [hpr] at this
      exact this
    rcases hx : L[i] with ⟨a, b⟩
    rw [hx] at g1 g2 g3 g4 hnx hne
    simp only at g1 g2 g3 g4 hnx hne
    have hm := k4 a b (by omega) (by omega)
    rw [g4] at hm
    refine goA ?_
    refine drA (k := 12) follows (hr := ?_)
    refine goA ?_
    refine ARun.q1 rfl rfl (ql_indexAddr_lst rfl rfl Try.underlying40 (by omega) (e := .agg [.int a, .int b]) (by simp [hd, hx, encP]) (by kernel_rfl)) ?_
    refine goA ?_
    refine ARun.q1 rfl rfl (ql_indexAddr_iptr rfl rfl Try.underlying43 (by omega) (by omega) sz3) ?_
    refine goA ?_
    refine ARun.q1 rfl rfl (ql_indexAddr_lst rfl rfl Try.underlying40 (by omega) (e := .agg [.int a, .int b]) (by simp [hd, hx, encP]) (by kernel_rfl)) ?_
    refine goA ?_
    refine ARun.q1 rfl rfl (ql_indexAddr_iptr rfl rfl Try.underlying43 (by omega) (by omega) sz3) ?_
    refine goA ?_
    refine gqA (h := fun hg => ql_indexAddr_lst (by simp +decide only [go_sem] <;> rfl) (by simp +decide only [go_sem] <;> rfl) Try.underlying40 (by simp [gc, allL] at hg; rw [wrap_id (by omega) (by omega)]; omega) (by simp [gc, allL] at hg; rw [wrap_id (by omega) (by omega)]; exact hp (by omega)) (by kernel_rfl)) (hr := ?_)
    refine goA ?_
    refine gqA (h := fun hg => ql_indexAddr_iptr (by simp +decide only [go_sem] <;> rfl) (by simp +decide only [go_sem] <;> rfl) Try.underlying43 (by omega) (by omega) sz3) (hr := ?_)
    refine goA ?_
    refine ifA (fun h2 => ?_) (fun h2 => ?_)
    · exfalso
      simp at h2
      rcases h2 with ((h2 | h2) | h2) | h2
      · omega
      · omega
      · omega
      · exact hne h2.1 (by have := h2.2; omega)
    refine goA ?_
    refine drA (k := 11) follows (hr := ?_)
    refine goA ?_
    refine ARun.q1 rfl rfl (ql_slice_str (l := a) (h := b) rfl Try.underlying9 (by simp [bnd, lk, go_sem]) (by simp [bnd, lk, go_sem]) (by omega) (by omega)) ?_
    refine goA ?_
    refine callA (hm) ?_
    refine goA ?_
    refine ifA (fun h3 => ?_) (fun h3 => ?_)
    · simp at h3
    refine goA ?_
    rw [wrap_succ (by omega), ← hnx]
    exact ⟨i + 1, by omega, by omega, .wk⟩
  simp at hd
  obtain rfl : i = L.length := by omega
  refine goA ?_
  refine callA (k3) ?_
  refine goA ?_
  refine ifA (fun h2 => ?_) (fun h2 => ?_)
  · exfalso
    rcases hfirst with ⟨e1, e2⟩ | ⟨a, b, l2, e1, e2⟩
    · subst e1; rw [e2] at h2; simp at h2
    · subst e1; rw [e2] at h2; simp at h2; omega
  refine goA ?_
  rcases hfirst with ⟨e1, e2⟩ | ⟨a, b, l2, e1, e2⟩
  · subst e1; subst e2
    refine ARun.gl (v := .bad) rfl rfl (by simp +decide only [go_sem] <;> rfl) (fun hg => by exfalso; simp [gc, allL] at hg) ?_
    refine goA ?_
    refine ARun.gl (v := .bad) rfl rfl (by simp +decide only [go_sem] <;> rfl) (fun hg => by exfalso; simp [gc, allL] at hg) ?_
    refine goA ?_
    refine ARun.gl (v := .bad) rfl rfl (by simp +decide only [go_sem] <;> rfl) (fun hg => by exfalso; simp [gc, allL] at hg) ?_
    refine goA ?_
    refine ARun.gl (v := .bool false) rfl rfl (by simp +decide only [go_sem] <;> rfl) (fun hg => by exfalso; simp [gc, allL] at hg) ?_
    refine goA ?_
    refine gcallA (i := fun hg => awake_true) (hr := ?_)
    refine goA ?_
    exact Ret.bool rfl (by simp)
  · subst e1; subst e2
    refine gqA (h := fun hg => ql_indexAddr_lst (by simp +decide only [go_sem] <;> rfl) (by simp +decide only [go_sem] <;> rfl) Try.underlying40 (by decide) (show (((a, b) :: l2).map encP)[(0 : Int).toNat]? = some (.agg [.int a, .int b]) from rfl) (by kernel_rfl)) (hr := ?_)
    refine goA ?_
    refine gqA (h := fun hg => ql_buildA Try.underlying43 sz3 zero43 (by simp +decide only [go_sem, placesA_2, List.map] <;> rfl)) (hr := ?_)
    refine goA ?_
    refine gqA (h := fun hg => ql_eq2 [(a : Int), (b : Int)] [(a : Int), (b : Int)] (by simp +decide only [go_sem] <;> rfl) (by simp +decide only [go_sem] <;> rfl) Try.underlying43 Try.underlying3 sz3 agg3 rfl rfl (by kernel_rfl)) (hr := ?_)
    refine goA ?_
    refine gcallA (i := fun hg => awake_true) (hr := ?_)
    refine goA ?_
    exact Ret.bool rfl (by simp)
end Go.Ab
