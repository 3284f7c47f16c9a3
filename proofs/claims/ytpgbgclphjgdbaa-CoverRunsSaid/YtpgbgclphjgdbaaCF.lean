/- Part of the proof. -/
import Derived.Test.YtpgbgclphjgdbaaCE
set_option linter.unusedSimpArgs false
set_option linter.unusedVariables false
set_option maxHeartbeats 4000000
namespace Go.Ab
open Go Go.Ab Go.Proofs Go.Ab.Ty

/-! ### the first row that matches -/
def fstI (p : Nd → Bool) : List Nd → Nat → Int
  | [], _ => -1
  | x :: l, k => if p x then (k : Int) else fstI p l (k + 1)
theorem fstI_drop {p : Nd → Bool} {l : List Nd} {k : Nat} (h : k < l.length) : fstI p (l.drop k) k = if p l[k] then (k : Int) else fstI p (l.drop (k + 1)) (k + 1) := by
  rw [List.drop_eq_getElem_cons h, fstI]
theorem fstI_app (p : Nd → Bool) (x : Nd) : ∀ (l : List Nd) (k : Nat), fstI p (l ++ [x]) k = if fstI p l k = -1 then (if p x then ((k + l.length : Nat) : Int) else -1) else fstI p l k
  | [], k => by simp [fstI]
  | y :: l, k => by
    rw [List.cons_append, fstI, fstI]
    by_cases h : p y = true
    · rw [if_pos h, if_pos h, if_neg (by omega)]
    · rw [if_neg h, if_neg h, fstI_app p x l (k + 1), List.length_cons, show k + 1 + l.length = k + (l.length + 1) by omega]
theorem fstI_ge (p : Nd → Bool) : ∀ (l : List Nd) (k : Nat), fstI p l k = -1 ∨ (k : Int) ≤ fstI p l k
  | [], k => .inl rfl
  | y :: l, k => by
    rw [fstI]
    split
    · exact .inr (by omega)
    · rcases fstI_ge p l (k + 1) with h | h
      · exact .inl h
      · exact .inr (by omega)
theorem idxF_ok (p : Nd → Bool) (fid : FuncId) (caps : List AV) (l : List Nd) (hl : l.length ≤ maxLen) (hc : ∀ c ∈ caps, Pu c) (h : ∀ x ∈ l, Fn Try.prog fid (encN x :: caps) (.bool (p x))) :
    Fn Try.prog 30 [.lst (l.map encN), .clo fid caps] (.int (fstI p l 0)) := by
  unfold maxLen at hl
  refine Fn.intro' [(0, .lst (l.map encN)), (1, .clo fid caps)] 2 19 Try.func30 (by kernel_rfl) rfl rfl rfl rfl rfl ?_
  have hml : (l.map encN).length = l.length := List.length_map _
  refine goB ?_
  refine AWp.loopP (J := fun k : Nat => k ≤ l.length ∧ fstI p l 0 = fstI p (l.drop k) k) (fun k => [(8, .int k)]) (fun k => l.length - k) 0 ⟨Nat.zero_le _, rfl⟩ .wk ?_
  rintro k ⟨hk, he⟩
  refine goB ?_
  refine ifA (fun hd => ?_) (fun hd => ?_)
  · simp at hd
    have hk2 : k < l.length := by omega
    have ih := h _ (List.getElem_mem hk2)
    have hidx : (l.map encN)[k]? = some (encN l[k]) := by rw [List.getElem?_map, List.getElem?_eq_getElem hk2]; rfl
    rw [fstI_drop hk2] at he
    generalize l[k] = x at *
    generalize p x = v at *
    obtain ⟨o1, s1, n1, tk1, tm1, tn1, ta1, ts1, l1, a1⟩ := x
    rw [encN_mk] at ih hidx
    refine goB ?_
    refine ARun.q1 rfl rfl (ql_indexAddr_lst rfl rfl Try.underlying22 (by omega) hidx (by kernel_rfl)) ?_
    refine goB ?_
    refine ARun.q1 rfl rfl (ql_callC ih rfl (by simp +decide only [go_sem] <;> rfl) rfl (by simpa using hc)) ?_
    refine goB ?_
    cases v with
    | true =>
      rw [if_pos rfl] at he
      refine ift_ ?_ ?_ rfl
      rotate_left
      · rfl
      refine goB ?_
      exact Ret.data rfl (by simp [packA, lk, he]) (.base _)
    | false =>
      rw [if_neg (by simp)] at he
      refine iff_ ?_ ?_ rfl
      rotate_left
      · rfl
      refine goB ?_
      rw [wrap_succ (by omega)]
      exact ⟨k + 1, ⟨hk2, he⟩, by omega, .wk⟩
  simp at hd
  refine goB ?_
  exact Ret.data rfl (by rw [he, List.drop_eq_nil_of_le (by omega)]; rfl) (.base _)
theorem first_ok (l : List Nd) (hl : l.length ≤ maxLen) (hok : ∀ x ∈ l, x.ok) (v : Nd) : Fn Try.prog 9 [.lst (l.map encN), encN v] (.int (fstI (fun r => mtc r v) l 0)) := by
  have i1 : ∀ x ∈ l, Fn Try.prog 31 (encN x :: [.iptr (encN v) 0]) (.bool (mtc x v)) := fun x hx => by
    have i1 := matches_ok x (hok x hx) v
    obtain ⟨o, s, n, tk, tm, tn, ta, ts, l, a⟩ := x
    obtain ⟨o', s', n', tk', tm', tn', ta', ts', l', a'⟩ := v
    simp only [encN_mk] at i1 ⊢
    refine Fn.intro' [(0, agN o s n tk tm tn ta ts l a), (1, .iptr (agN o' s' n' tk' tm' tn' ta' ts' l' a') 0)] 2 7 Try.func31 (by kernel_rfl) rfl rfl rfl rfl rfl ?_
    refine goB ?_
    refine callA (i1) ?_
    refine goB ?_
    exact Ret.bool rfl (by simp)
  have i2 := idxF_ok (fun r => mtc r v) 31 [.iptr (encN v) 0] l hl (by simpa using Pu.iptr (Pu_cN v)) i1
  have hv := Pu_cN v
  obtain ⟨o', s', n', tk', tm', tn', ta', ts', l', a'⟩ := v
  simp only [encN_mk] at i2 hv ⊢
  refine Fn.intro' [(0, .lst (l.map encN)), (1, agN o' s' n' tk' tm' tn' ta' ts' l' a')] 2 8 Try.func9 (by kernel_rfl) rfl rfl rfl rfl rfl ?_
  refine goB ?_
  refine ARun.q1 rfl rfl (ql_callM (args := [.lst (l.map encN), .clo 31 [.iptr (agN o' s' n' tk' tm' tn' ta' ts' l' a') 0]]) rfl (by simp +decide only [go_sem] <;> rfl) (by simp +decide only [go_sem, List.map]; exact ⟨.pu (Pu_mapN l), .clo' ⟨.iptr rfl rfl rfl ⟨.pu (.base _), .pu (.base _), .pu (.base _), .pu (.base _), .pu (.base _), .pu (.base _), .pu (Pu_mapT ta'), .pu (Pu_mapT ts'), .pu (Pu_mapN l'), .pu (.base _), trivial⟩, trivial⟩, trivial⟩) (.base _) i2) ?_
  refine goB ?_
  exact Ret.data rfl rfl (.base _)
theorem refFirst_ok (l : List Nd) (hl : l.length ≤ maxLen) (hok : ∀ x ∈ l, x.ok) (v : Nd) : Fn Try.prog 11 [.lst (l.map encN), encN v] (.int (fstI (fun r => mtc r v) l 0)) := by
  unfold maxLen at hl
  have h := fun x hx => refMatches_ok x (hok x hx) v
  obtain ⟨o', s', n', tk', tm', tn', ta', ts', l', a'⟩ := v
  generalize hp : (fun r => mtc r (.mk o' s' n' tk' tm' tn' ta' ts' l' a')) = p at *
  have hp2 : ∀ x, mtc x (.mk o' s' n' tk' tm' tn' ta' ts' l' a') = p x := fun x => by rw [← hp]
  have hdr := @fstI_drop p l
  simp only [hp2, encN_mk] at h ⊢
  refine Fn.intro' [(0, .lst (l.map encN)), (1, agN o' s' n' tk' tm' tn' ta' ts' l' a')] 2 19 Try.func11 (by kernel_rfl) rfl rfl rfl rfl rfl ?_
  have hml : (l.map encN).length = l.length := List.length_map _
  refine goB ?_
  refine AWp.loopP (J := fun k : Nat => k ≤ l.length ∧ fstI p l 0 = fstI p (l.drop k) k) (fun k => [(5, .int k)]) (fun k => l.length - k) 0 ⟨Nat.zero_le _, rfl⟩ .wk ?_
  rintro k ⟨hk, he⟩
  refine goB ?_
  refine ifA (fun hd => ?_) (fun hd => ?_)
  · simp at hd
    have hk2 : k < l.length := by omega
    have ih := h _ (List.getElem_mem hk2)
    have hidx : (l.map encN)[k]? = some (encN l[k]) := by rw [List.getElem?_map, List.getElem?_eq_getElem hk2]; rfl
    rw [hdr hk2] at he
    generalize l[k] = x at *
    generalize p x = v at *
    obtain ⟨o1, s1, n1, tk1, tm1, tn1, ta1, ts1, l1, a1⟩ := x
    rw [encN_mk] at ih hidx
    refine goB ?_
    refine drA (k := 6) follows (hr := ?_)
    refine goB ?_
    refine ARun.q1 rfl rfl (ql_indexAddr_lst rfl rfl Try.underlying22 (by omega) hidx (by kernel_rfl)) ?_
    refine goB ?_
    refine callA (ih) ?_
    refine goB ?_
    cases v with
    | true =>
      rw [if_pos rfl] at he
      refine ift_ ?_ ?_ rfl
      rotate_left
      · rfl
      refine goB ?_
      exact Ret.data rfl (by simp [packA, lk, he]) (.base _)
    | false =>
      rw [if_neg (by simp)] at he
      refine iff_ ?_ ?_ rfl
      rotate_left
      · rfl
      refine goB ?_
      rw [wrap_succ (by omega)]
      exact ⟨k + 1, ⟨hk2, he⟩, by omega, .wk⟩
  simp at hd
  refine goB ?_
  exact Ret.data rfl (by rw [he, List.drop_eq_nil_of_le (by omega)]; rfl) (.base _)
/-! ### rows and one more -/
theorem okN {l : List Nd} : ∀ e ∈ l.map encN, e.cells.length = 10 ∧ okCells e = true := fun e he => by
  obtain ⟨x, _, rfl⟩ := List.mem_map.1 he
  obtain ⟨o, s, n, tk, tm, tn, ta, ts, l, a⟩ := x
  rw [encN_mk]
  exact ⟨rfl, rfl⟩
theorem with_ok (l : List Nd) (hl : l.length ≤ 1000) (x : Nd) : Fn Try.prog 10 [.lst (l.map encN), .lst [encN x]] (.lst ((l ++ [x]).map encN)) := by
  have hx : ∀ e ∈ [encN x], e.cells.length = 10 ∧ okCells e = true := fun e he => okN (l := [x]) e (by simpa using he)
  have hap : (l ++ [x]).map encN = l.map encN ++ [encN x] := by rw [List.map_append]; rfl
  have hpu : ∀ y ∈ l ++ [x], ∀ c ∈ (encN y).cells, Pu c := fun y _ => Pu_cN y
  refine Fn.intro' [(0, .lst (l.map encN)), (1, .lst [encN x])] 2 10 Try.func10 (by kernel_rfl) rfl rfl rfl rfl rfl ?_
  have hml : (l.map encN).length = l.length := List.length_map _
  refine goA ?_
  refine ARun.p1 rfl rfl (pl_buildSlice (es := []) (by decide) Try.underlying22 sz27 (by kernel_rfl) (by decide) (by rfl) (by rfl) (by rfl)) ?_
  refine goB ?_
  rcases l with _ | ⟨y, l⟩
  · refine ARun.q1 rfl rfl (ql_append_zero (b := 0) (tot := 0) (by simp +decide only [go_sem] <;> rfl) (by rfl) (by simp +decide only [go_sem] <;> rfl) Try.underlying22 el27) ?_
    refine goB ?_
    refine ARun.p1 rfl rfl (pl_append (b := 0) (tot := 0) (es := [encN x]) (by simp +decide only [go_sem] <;> rfl) (by simp +decide only [go_sem] <;> rfl) rfl rfl Try.underlying22 el27 rfl rfl (by simp) hx (by simp) (by simp)) ?_
    refine goB ?_
    exact Ret.pub rfl (Pub.ownM (f := encN) (l := [x]) (Nat.zero_le _) rfl rfl (fun y _ => Pu_cN y))
  · refine ARun.p1 rfl rfl (pl_append (b := 0) (tot := 0) (es := (y :: l).map encN) (by simp +decide only [go_sem] <;> rfl) (by simp +decide only [go_sem] <;> rfl) rfl rfl Try.underlying22 el27 rfl rfl (by simp) okN (by simp at hl ⊢; omega) (by simp at hl ⊢; omega)) ?_
    refine goB ?_
    refine ARun.p1 rfl rfl (pl_append (b := 0) (tot := (y :: l).length) (es := [encN x]) (by simp +decide only [go_sem] <;> rfl) (by simp +decide only [go_sem] <;> rfl) rfl (by simp) Try.underlying22 el27 rfl rfl (by simp) hx (by simp at hl ⊢; omega) (by simp at hl ⊢; omega)) ?_
    refine goB ?_
    rw [← hap]
    exact Ret.pub rfl (Pub.ownM (f := encN) (l := y :: l ++ [x]) (Nat.zero_le _) rfl (by simp) (fun y _ => Pu_cN y))
/-! ### rows, as they are read -/
theorem shNs {f : Nat} {p : List AV} (h : Sh Try.prog f 22 p) : ∃ l : List Nd, p = [.lst (l.map encN)] ∧ l.length ≤ maxLen ∧ ∀ x ∈ l, x.ok := by
  cases f with
  | zero => exact h.elim
  | succ g =>
    simp only [Sh, Try.underlying22] at h
    have ⟨parts, e, hn, h3⟩ := h; clear h; subst e
    obtain ⟨l, hl, hr⟩ := all_encP (f := encN) (R := Nd.ok) (g := mkEl (aggTy Try.prog 27 == some true)) h3 fun p hp => by
      obtain ⟨r, h1, h2⟩ := shNd (g + 1) g (Nat.lt_succ_self _) hp.2
      refine ⟨r, ?_, h2⟩
      rw [agg27]; exact h1
    exact ⟨l, by rw [hl], by have := congrArg List.length hl; rw [List.length_map, List.length_map] at this; rw [← this]; exact hn, hr⟩
theorem shRows {a : AV} (h : ShV Try.prog 22 a) : ∃ l : List Nd, a = .lst (l.map encN) ∧ l.length ≤ maxLen ∧ ∀ x ∈ l, x.ok := by
  unfold ShV at h
  obtain ⟨fuel, q, h, hn, e⟩ := h
  obtain ⟨l, rfl, h1, h2⟩ := shNs h
  exact ⟨l, by rw [e, agg22]; rfl, h1, h2⟩
/-! ### the law of the first row -/
@[simp] theorem Pu_agl1 (o : Int) (s : ByteArray) (n tk : Int) (tm : ByteArray) (tn : Int) (ta ts : List Tp) (l : List Nd) (a : Int) : Pu (.lst [agN o s n tk tm tn ta ts l a]) := by
  have := Pu_mapN [.mk o s n tk tm tn ta ts l a]
  rwa [List.map_cons, List.map_nil, encN_mk] at this
theorem law_first (rows : List Nd) (x v : Nd) (hr : rows.length ≤ maxLen) (hrows : ∀ r ∈ rows, r.ok) (hx : x.ok) (hv : v.ok) : Fn Try.prog 3 [.lst (rows.map encN), encN x, encN v] (.bool true) := by
  have i1 := few_ok rows hr hrows
  have i2 := few_ok [x, v] (Nat.le_of_lt (by decide : 2 < maxLen)) (by simp [hx, hv])
  have i3 := first_ok rows hr hrows v
  have i4 := fun h : rows.length ≤ 1000 => with_ok rows h x
  have i5 := fun h : rows.length ≤ 1000 => first_ok (rows ++ [x]) (by simp [maxLen]; omega) (fun r hr => by rcases List.mem_append.1 hr with h | h; exact hrows r h; exact (List.mem_singleton.1 h) ▸ hx) v
  have i6 := refFirst_ok rows hr hrows v
  have i7 := awake_true
  have h1 := fstI_app (fun r => mtc r v) x rows 0
  have h2 := fstI_ge (fun r => mtc r v) rows 0
  generalize (fun r => mtc r v) = p at *
  generalize fstI p rows 0 = n at *
  generalize fstI p (rows ++ [x]) 0 = m at *
  obtain ⟨o, s, n1, tk, tm, tn, ta, ts, l, a⟩ := x
  obtain ⟨o', s', n1', tk', tm', tn', ta', ts', l', a'⟩ := v
  rw [List.map_cons, List.map_cons, List.map_nil] at i2
  generalize hw : rows ++ [Nd.mk o s n1 tk tm tn ta ts l a] = rw2 at *
  simp only [encN_mk] at i2 i3 i4 i5 i6 ⊢
  refine Fn.intro' [(0, .lst (rows.map encN)), (1, agN o s n1 tk tm tn ta ts l a), (2, agN o' s' n1' tk' tm' tn' ta' ts' l' a')] 3 55 Try.func3 (by kernel_rfl) rfl rfl rfl rfl rfl ?_
  have hml : (rows.map encN).length = rows.length := List.length_map _
  refine goB ?_
  refine callA (i1) ?_
  refine goB ?_
  refine gqA (v := .lst [agN o s n1 tk tm tn ta ts l a, agN o' s' n1' tk' tm' tn' ta' ts' l' a']) (h := fun hg => ql_buildSlice (by decide) Try.underlying22 sz27 (by kernel_rfl) (by decide) (by (simp +decide only [List.map, go_sem, stripL] <;> rfl)) (by (simp +decide only [List.map, go_sem, stripL] <;> rfl)) rfl) (hr := ?_)
  refine goB ?_
  refine gcallA (i := fun hg => i2) (hr := ?_)
  refine goB ?_
  refine ifA (fun hq => ?_) (fun hq => ?_)
  · refine goB ?_
    exact Ret.bool rfl (by simp)
  simp at hq
  have hlen : rows.length ≤ 20 := hq.1.1
  have i4 := i4 (by omega)
  have i5 := i5 (by omega)
  refine goB ?_
  refine callA (i3) ?_
  refine goB ?_
  refine drA (k := 6) follows (hr := ?_)
  refine goB ?_
  refine callA (i4) ?_
  refine goB ?_
  refine callA (i5) ?_
  refine goB ?_
  refine callA (i6) ?_
  refine goB ?_
  refine gcallA (i := fun hg => i7) (hr := ?_)
  refine goB ?_
  have hm : (n < 0 ∧ (m = -1 ∨ m = rows.length)) ∨ m = n := by
    rw [h1]
    by_cases h3 : n = -1
    · rw [if_pos h3]
      left
      refine ⟨by omega, ?_⟩
      split
      · exact .inr (by simp)
      · exact .inl rfl
    · rw [if_neg h3]
      exact .inr rfl
  exact Ret.bool rfl (by
    rcases hm with ⟨h3, h4⟩ | h4
    · rcases h4 with h4 | h4 <;> simp [h3, h4]
    · simp [h4])
end Go.Ab
