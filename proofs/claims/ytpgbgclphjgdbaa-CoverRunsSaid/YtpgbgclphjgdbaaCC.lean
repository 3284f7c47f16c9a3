/- Part of the proof. -/
import Derived.Test.YtpgbgclphjgdbaaCB
set_option linter.unusedSimpArgs false
set_option linter.unusedVariables false
set_option maxHeartbeats 4000000
namespace Go.Ab
open Go Go.Ab Go.Proofs Go.Ab.Ty

/-! ### Matches and Apart of both programs -/
@[simp] theorem Pu_clo0 (f : FuncId) : Pu (.clo f []) := .clo (by simp)
theorem eqF_ok (l m : List Nd) (hl : l.length ≤ maxLen) (fid : FuncId) (h : ∀ x ∈ l, ∀ y, Fn Try.prog fid [encN x, encN y] (.bool (mtc x y))) : Fn Try.prog 40 [.lst (l.map encN), .lst (m.map encN), .clo fid []] (.bool (mtcs l m)) := by
  unfold maxLen at hl
  refine Fn.intro' [(0, .lst (l.map encN)), (1, .lst (m.map encN)), (2, .clo fid [])] 3 32 Try.func40 (by kernel_rfl) rfl rfl rfl rfl rfl ?_
  have hml : (l.map encN).length = l.length := List.length_map _
  have hmm : (m.map encN).length = m.length := List.length_map _
  refine goB ?_
  by_cases hlm : l.length = m.length
  rotate_left
  · refine ift_ ?_ ?_ rfl
    rotate_left
    · simp; omega
    refine goB ?_
    exact Ret.bool rfl (by
      rw [mtcs_iff]
      exact ⟨fun h => (nomatch h), fun h => absurd h.1 hlm⟩)
  refine iff_ ?_ ?_ rfl
  rotate_left
  · simp; omega
  refine goB ?_
  refine AWp.loop (J := fun k : Nat => k ≤ l.length ∧ ∀ i (h : i < l.length) (h' : i < m.length), i < k → mtc l[i] m[i] = true) (fun k => ⟨[(0, .lst (l.map encN)), (1, .lst (m.map encN)), (2, .clo fid []), (15, .lst (l.map encN)), (16, .int l.length), (17, .int k)], []⟩) (fun k => l.length - k) 0 ⟨Nat.zero_le _, fun i h h' h'' => by omega⟩ (by rw [← hml]; exact .wf) ?_
  rintro k ⟨hk, he⟩
  refine goB ?_
  refine ifA (fun hd => ?_) (fun hd => ?_)
  · simp at hd
    have hk2 : k < l.length := by omega
    have hk3 : k < m.length := by omega
    have hidx : (l.map encN)[k]? = some (encN l[k]) := by rw [List.getElem?_map, List.getElem?_eq_getElem hk2]; rfl
    have hidy : (m.map encN)[k]? = some (encN m[k]) := by rw [List.getElem?_map, List.getElem?_eq_getElem hk3]; rfl
    have ih := h _ (List.getElem_mem hk2) m[k]
    have hxx : ∀ i, ∀ (h : i < l.length) (h' : i < m.length), i = k → mtc l[i] m[i] = mtc l[k] m[k] := fun i h h' e => by subst e; rfl
    generalize l[k] = x at *
    generalize m[k] = y at *
    generalize mtc x y = v at *
    obtain ⟨o1, s1, n1, tk1, tm1, tn1, ta1, ts1, l1, a1⟩ := x
    obtain ⟨o2, s2, n2, tk2, tm2, tn2, ta2, ts2, l2, a2⟩ := y
    rw [encN_mk] at ih hidx
    rw [encN_mk] at ih hidy
    have ih : Fn Try.prog fid [agN o1 s1 n1 tk1 tm1 tn1 ta1 ts1 l1 a1, agN o2 s2 n2 tk2 tm2 tn2 ta2 ts2 l2 a2] (.bool v) := ih
    refine goB ?_
    refine ARun.q1 rfl rfl (ql_indexAddr_lst rfl rfl Try.underlying22 (by omega) hidx (by kernel_rfl)) ?_
    refine goB ?_
    refine ARun.q1 rfl rfl (ql_indexAddr_lst rfl rfl Try.underlying22 (by omega) hidy (by kernel_rfl)) ?_
    refine goB ?_
    refine ARun.q1 rfl rfl (ql_callC ih rfl (by simp +decide only [go_sem] <;> rfl) rfl (by simp)) ?_
    refine goB ?_
    cases v with
    | false =>
      refine ift_ ?_ ?_ rfl
      rotate_left
      · rfl
      refine goB ?_
      exact Ret.bool rfl (by
        rw [mtcs_iff]
        refine ⟨fun h => (nomatch h), fun h => ?_⟩
        have h1 := h.2 k hk2 hk3
        rw [hxx k hk2 hk3 rfl] at h1
        cases h1)
    | true =>
      refine iff_ ?_ ?_ rfl
      rotate_left
      · rfl
      refine goB ?_
      rw [wrap_succ (by omega)]
      refine ⟨k + 1, ⟨hk2, fun i h h' hi => ?_⟩, by omega, ?_⟩
      · by_cases e : i = k
        · exact hxx i h h' e
        · exact he i h h' (by omega)
      · exact Wk.trimM 0 (Nat.zero_le _) rfl ⟨.pu (Pu_mapN l), .pu (Pu_mapN m), .pu (Pu_clo0 _), .pu (Pu_mapN l), .pu (.base _), .pu (.base _), trivial⟩ (by simp)
  simp at hd
  obtain rfl : k = l.length := by omega
  refine goB ?_
  exact Ret.bool rfl (by
    rw [mtcs_iff]
    exact ⟨fun _ => ⟨hlm, fun i h h' => he i h h' h⟩, fun _ => rfl⟩)
theorem matches_ok (x : Nd) : x.ok → ∀ y, Fn Try.prog 17 [encN x, encN y] (.bool (mtc x y)) := by
  induction x using Nd.ind with
  | h o s n tk tm tn ta ts l a ih =>
  intro hok y
  obtain ⟨hs, ht, hts, htl, hn, hl⟩ := nok_sub hok
  have i1 := isWild_ok o s n tk tm tn ta ts l a
  obtain ⟨o', s', n', tk', tm', tn', ta', ts', l', a'⟩ := y
  have i2 := sameHead_ok o s n tk tm tn ta ts l a o' s' n' tk' tm' tn' ta' ts' l' a'
  have i3 := eqF_ok l l' hn 17 fun x hx y => ih x hx (hl x hx) y
  rw [mtc_mk]
  simp only [encN_mk]
  refine Fn.intro' [(0, agN o s n tk tm tn ta ts l a), (1, agN o' s' n' tk' tm' tn' ta' ts' l' a')] 2 21 Try.func17 (by kernel_rfl) rfl rfl rfl rfl rfl ?_
  refine goB ?_
  refine callA (i1) ?_
  refine goB ?_
  by_cases h1 : wldO o
  · rw [if_pos h1]
    refine ift_ ?_ ?_ rfl
    rotate_left
    · simp [h1]
    refine goB ?_
    exact Ret.bool rfl (by simp)
  rw [if_neg h1]
  refine iff_ ?_ ?_ rfl
  rotate_left
  · simp [h1]
  refine goB ?_
  refine callA (i2) ?_
  refine goB ?_
  by_cases h2 : samH o s n o' s' n'
  rotate_left
  · rw [if_neg h2]
    refine ift_ ?_ ?_ rfl
    rotate_left
    · simp [h2]
    refine goB ?_
    exact Ret.bool rfl (by simp)
  rw [if_pos h2]
  refine iff_ ?_ ?_ rfl
  rotate_left
  · simp [h2]
  refine goB ?_
  refine gcallA (i := fun hg => i3) (hr := ?_)
  refine goB ?_
  exact Ret.bool rfl (by by_cases h : o = 45 <;> simp [h])
theorem refMatches_ok (x : Nd) : x.ok → ∀ y, Fn Try.prog 19 [encN x, encN y] (.bool (mtc x y)) := by
  induction x using Nd.ind with
  | h o s n tk tm tn ta ts l a ih =>
  intro hok y
  obtain ⟨hs, ht, hts, htl, hn, hl⟩ := nok_sub hok
  unfold maxLen at hn
  have i1 := wild_ok o s n tk tm tn ta ts l a
  have i2 := head_ok o s n tk tm tn ta ts l a
  obtain ⟨o', s', n', tk', tm', tn', ta', ts', l', a'⟩ := y
  rw [mtc_mk]
  simp only [encN_mk]
  refine Fn.intro' [(0, agN o s n tk tm tn ta ts l a), (1, agN o' s' n' tk' tm' tn' ta' ts' l' a')] 2 74 Try.func19 (by kernel_rfl) rfl rfl rfl rfl rfl ?_
  have hml : (l.map encN).length = l.length := List.length_map _
  have hmm : (l'.map encN).length = l'.length := List.length_map _
  refine goB ?_
  refine callA (i1) ?_
  refine goB ?_
  by_cases h1 : wldO o
  · rw [if_pos h1]
    refine ift_ ?_ ?_ rfl
    rotate_left
    · simp [h1]
    refine goB ?_
    exact Ret.bool rfl (by simp)
  rw [if_neg h1]
  refine iff_ ?_ ?_ rfl
  rotate_left
  · simp [h1]
  refine goB ?_
  refine gcallA (i := fun hg => i2) (hr := ?_)
  refine goB ?_
  by_cases h2 : o = o' ∧ hdO o
  rotate_left
  · rw [if_neg (by unfold samH; unfold hdO at h2; omega)]
    refine ift_ ?_ ?_ rfl
    rotate_left
    · by_cases h3 : o = o'
      · have h4 : ¬ hdO o := fun h => h2 ⟨h3, h⟩
        simp [h3]
        rw [← h3]; exact h4
      · simp [h3]
    refine goB ?_
    exact Ret.bool rfl (by simp)
  obtain ⟨rfl, h2⟩ := h2
  refine iff_ ?_ ?_ rfl
  rotate_left
  · simp [h2]
  refine goB ?_
  by_cases h3 : o = 42 ∨ o = 43
  · refine ift_ ?_ ?_ rfl
    rotate_left
    · rcases h3 with rfl | rfl <;> simp
    refine goB ?_
    exact Ret.bool rfl (by
      have h5 : o ≠ 45 := by omega
      by_cases h4 : n = n'
      · rw [if_pos (.inl ⟨h3, rfl, h4⟩), if_neg h5]; simp [h4]
      · rw [if_neg (by unfold samH; omega)]; simp [h4])
  refine iff_ ?_ ?_ rfl
  rotate_left
  · simp; omega
  refine goB ?_
  have h45 : o = 44 ∨ o = 45 := by unfold hdO at h2; omega
  by_cases h4 : s = s' ∧ (o = 45 → l.length = l'.length)
  rotate_left
  · refine ift_ ?_ ?_ rfl
    rotate_left
    · rw [toL_beq]
      by_cases h5 : s = s'
      · have h6 : o = 45 ∧ l.length ≠ l'.length := by
          refine Classical.byContradiction fun h => h4 ⟨h5, fun h7 => ?_⟩
          exact Classical.byContradiction fun h8 => h ⟨h7, h8⟩
        have h7 := h6.2
        simp [h5, h6.1]; omega
      · simp [h5]
    refine goB ?_
    exact Ret.bool rfl (by
      by_cases h5 : s = s'
      · have h6 : o = 45 ∧ l.length ≠ l'.length := by
          refine Classical.byContradiction fun h => h4 ⟨h5, fun h7 => ?_⟩
          exact Classical.byContradiction fun h8 => h ⟨h7, h8⟩
        rw [if_pos (.inr ⟨h45, rfl, h5⟩), if_pos h6.1, mtcs_iff]
        exact ⟨fun h => (nomatch h), fun h => absurd h.1 h6.2⟩
      · rw [if_neg (by
          rintro (⟨h, _⟩ | ⟨_, _, h⟩)
          · exact h3 h
          · exact h5 h)])
  obtain ⟨rfl, h4⟩ := h4
  refine iff_ ?_ ?_ rfl
  rotate_left
  · by_cases h5 : o = 45
    · simp [h5, h4 h5]
    · simp [h5]
  rw [if_pos (.inr ⟨h45, rfl, rfl⟩)]
  refine goB ?_
  refine AWp.loop (J := fun k : Nat => k ≤ l.length ∧ ∀ i (h : i < l.length) (h' : i < l'.length), i < k → mtc l[i] l'[i] = true) (fun k => ⟨[(2, .ptr 0 1 0 0), (3, .ptr 1 1 0 0), (5, .int k)], [bxN o s n tk tm tn ta ts l a, bxN o s n' tk' tm' tn' ta' ts' l' a']⟩) (fun k => l.length - k) 0 ⟨Nat.zero_le _, fun i h h' h'' => by omega⟩ .wf ?_
  rintro k ⟨hk, he⟩
  refine goB ?_
  refine ifA (fun hd => ?_) (fun hd => ?_)
  · simp at hd
    have hk2 : k < l.length := by omega
    have h45 : o = 45 := by omega
    have hk3 : k < l'.length := by have := h4 h45; omega
    rw [if_pos h45]
    have hidx : (l.map encN)[k]? = some (encN l[k]) := by rw [List.getElem?_map, List.getElem?_eq_getElem hk2]; rfl
    have hidy : (l'.map encN)[k]? = some (encN l'[k]) := by rw [List.getElem?_map, List.getElem?_eq_getElem hk3]; rfl
    have ih := ih _ (List.getElem_mem hk2) (hl _ (List.getElem_mem hk2)) l'[k]
    have hxx : ∀ i, ∀ (h : i < l.length) (h' : i < l'.length), i = k → mtc l[i] l'[i] = mtc l[k] l'[k] := fun i h h' e => by subst e; rfl
    generalize l[k] = x at *
    generalize l'[k] = y at *
    generalize mtc x y = v at *
    obtain ⟨o1, s1, n1, tk1, tm1, tn1, ta1, ts1, l1, a1⟩ := x
    obtain ⟨o2, s2, n2, tk2, tm2, tn2, ta2, ts2, l2, a2⟩ := y
    rw [encN_mk] at ih hidx
    rw [encN_mk] at ih hidy
    have ih : Fn Try.prog 19 [agN o1 s1 n1 tk1 tm1 tn1 ta1 ts1 l1 a1, agN o2 s2 n2 tk2 tm2 tn2 ta2 ts2 l2 a2] (.bool v) := ih
    refine goB ?_
    refine drA (k := 12) follows (hr := ?_)
    refine goB ?_
    refine ARun.q1 rfl rfl (ql_indexAddr_lst rfl rfl Try.underlying22 (by omega) hidx (by kernel_rfl)) ?_
    refine goB ?_
    refine ARun.q1 rfl rfl (ql_indexAddr_lst rfl rfl Try.underlying22 (by omega) hidy (by kernel_rfl)) ?_
    refine goB ?_
    refine callA (ih) ?_
    refine goB ?_
    cases v with
    | false =>
      refine ift_ ?_ ?_ rfl
      rotate_left
      · rfl
      refine goB ?_
      exact Ret.bool rfl (by
        rw [mtcs_iff]
        refine ⟨fun h => (nomatch h), fun h => ?_⟩
        have h1 := h.2 k hk2 hk3
        rw [hxx k hk2 hk3 rfl] at h1
        cases h1)
    | true =>
      refine iff_ ?_ ?_ rfl
      rotate_left
      · rfl
      refine goB ?_
      rw [wrap_succ (by omega)]
      refine ⟨k + 1, ⟨hk2, fun i h h' hi => ?_⟩, by omega, .wf⟩
      by_cases e : i = k
      · exact hxx i h h' e
      · exact he i h h' (by omega)
  simp at hd
  refine goB ?_
  exact Ret.bool rfl (by
    by_cases h5 : o = 45
    · have hk2 := hd h5
      rw [if_pos h5, mtcs_iff]
      exact ⟨fun _ => ⟨h4 h5, fun i h h' => he i h h' (by omega)⟩, fun _ => rfl⟩
    · rw [if_neg h5])
end Go.Ab
set_option maxHeartbeats 4000000
namespace Go.Ab
open Go Go.Ab Go.Proofs Go.Ab.Ty

/-! ### Apart of both programs -/
theorem apart_ok (x : Nd) : x.ok → ∀ y, Fn Try.prog 18 [encN x, encN y] (.bool (apt x y)) := by
  induction x using Nd.ind with
  | h o s n tk tm tn ta ts l a ih =>
  intro hok y
  obtain ⟨hs, ht, hts, htl, hn, hl⟩ := nok_sub hok
  unfold maxLen at hn
  have i1 := isHead_ok o s n tk tm tn ta ts l a
  obtain ⟨o', s', n', tk', tm', tn', ta', ts', l', a'⟩ := y
  have i2 := isHead_ok o' s' n' tk' tm' tn' ta' ts' l' a'
  have i3 := sameHead_ok o s n tk tm tn ta ts l a o' s' n' tk' tm' tn' ta' ts' l' a'
  rw [apt_mk]
  simp only [encN_mk]
  refine Fn.intro' [(0, agN o s n tk tm tn ta ts l a), (1, agN o' s' n' tk' tm' tn' ta' ts' l' a')] 2 48 Try.func18 (by kernel_rfl) rfl rfl rfl rfl rfl ?_
  have hml : (l.map encN).length = l.length := List.length_map _
  have hmm : (l'.map encN).length = l'.length := List.length_map _
  refine goB ?_
  refine callA (i1) ?_
  refine goB ?_
  refine gcallA (i := fun hg => i2) (hr := ?_)
  refine goB ?_
  by_cases h1 : hdO o ∧ hdO o'
  rotate_left
  · rw [if_neg h1]
    refine ift_ ?_ ?_ rfl
    rotate_left
    · by_cases h3 : hdO o
      · have h4 : ¬ hdO o' := fun h => h1 ⟨h3, h⟩
        simp [h3, h4]
      · simp [h3]
    refine goB ?_
    exact Ret.bool rfl (by simp)
  rw [if_pos h1]
  refine iff_ ?_ ?_ rfl
  rotate_left
  · simp [h1.1, h1.2]
  refine goB ?_
  refine callA (i3) ?_
  refine goB ?_
  by_cases h2 : samH o s n o' s' n'
  rotate_left
  · rw [if_neg h2]
    refine ift_ ?_ ?_ rfl
    rotate_left
    · simp [h2]
    refine goB ?_
    exact Ret.bool rfl (by simp)
  rw [if_pos h2]
  refine iff_ ?_ ?_ rfl
  rotate_left
  · simp [h2]
  refine goB ?_
  refine AWp.loop (J := fun k : Nat => k ≤ l.length ∧ k ≤ l'.length ∧ ∀ i (h : i < l.length) (h' : i < l'.length), i < k → apt l[i] l'[i] = false) (fun k => ⟨[(2, .ptr 0 1 0 0), (3, .ptr 1 1 0 0), (5, .int k)], [bxN o s n tk tm tn ta ts l a, bxN o' s' n' tk' tm' tn' ta' ts' l' a']⟩) (fun k => l.length - k) 0 ⟨Nat.zero_le _, Nat.zero_le _, fun i h h' h'' => by omega⟩ .wf ?_
  rintro k ⟨hk, hk', he⟩
  refine goB ?_
  refine ifA (fun hd => ?_) (fun hd => ?_)
  · simp at hd
    have hk2 : k < l.length := by omega
    have hk3 : k < l'.length := by omega
    have h45 : o = 45 := by omega
    rw [if_pos h45]
    have hidx : (l.map encN)[k]? = some (encN l[k]) := by rw [List.getElem?_map, List.getElem?_eq_getElem hk2]; rfl
    have hidy : (l'.map encN)[k]? = some (encN l'[k]) := by rw [List.getElem?_map, List.getElem?_eq_getElem hk3]; rfl
    have ih := ih _ (List.getElem_mem hk2) (hl _ (List.getElem_mem hk2)) l'[k]
    have hxx : ∀ i, ∀ (h : i < l.length) (h' : i < l'.length), i = k → apt l[i] l'[i] = apt l[k] l'[k] := fun i h h' e => by subst e; rfl
    generalize l[k] = x at *
    generalize l'[k] = y at *
    generalize apt x y = v at *
    obtain ⟨o1, s1, n1, tk1, tm1, tn1, ta1, ts1, l1, a1⟩ := x
    obtain ⟨o2, s2, n2, tk2, tm2, tn2, ta2, ts2, l2, a2⟩ := y
    rw [encN_mk] at ih hidx
    rw [encN_mk] at ih hidy
    have ih : Fn Try.prog 18 [agN o1 s1 n1 tk1 tm1 tn1 ta1 ts1 l1 a1, agN o2 s2 n2 tk2 tm2 tn2 ta2 ts2 l2 a2] (.bool v) := ih
    refine goB ?_
    refine drA (k := 11) follows (hr := ?_)
    refine goB ?_
    refine ARun.q1 rfl rfl (ql_indexAddr_lst rfl rfl Try.underlying22 (by omega) hidx (by kernel_rfl)) ?_
    refine goB ?_
    refine ARun.q1 rfl rfl (ql_indexAddr_lst rfl rfl Try.underlying22 (by omega) hidy (by kernel_rfl)) ?_
    refine goB ?_
    refine callA (ih) ?_
    refine goB ?_
    cases v with
    | true =>
      refine ift_ ?_ ?_ rfl
      rotate_left
      · rfl
      refine goB ?_
      exact Ret.bool rfl (by
        rw [apts_iff]
        exact ⟨fun _ => ⟨k, hk2, hk3, hxx k hk2 hk3 rfl⟩, fun _ => rfl⟩)
    | false =>
      refine iff_ ?_ ?_ rfl
      rotate_left
      · rfl
      refine goB ?_
      rw [wrap_succ (by omega)]
      refine ⟨k + 1, ⟨hk2, hk3, fun i h h' hi => ?_⟩, by omega, .wf⟩
      by_cases e : i = k
      · exact hxx i h h' e
      · exact he i h h' (by omega)
  simp at hd
  refine goB ?_
  exact Ret.bool rfl (by
    by_cases h5 : o = 45
    · rw [if_pos h5, apts_iff]
      refine ⟨fun h => (nomatch h), fun ⟨i, h, h', h6⟩ => ?_⟩
      have h7 := hd h5
      have := he i h h' (by omega)
      rw [this] at h6; cases h6
    · rw [if_neg h5])
theorem refApart_ok (x : Nd) : x.ok → ∀ y, Fn Try.prog 20 [encN x, encN y] (.bool (apt x y)) := by
  induction x using Nd.ind with
  | h o s n tk tm tn ta ts l a ih =>
  intro hok y
  obtain ⟨hs, ht, hts, htl, hn, hl⟩ := nok_sub hok
  unfold maxLen at hn
  have i1 := head_ok o s n tk tm tn ta ts l a
  obtain ⟨o', s', n', tk', tm', tn', ta', ts', l', a'⟩ := y
  have i2 := head_ok o' s' n' tk' tm' tn' ta' ts' l' a'
  rw [apt_mk]
  simp only [encN_mk]
  refine Fn.intro' [(0, agN o s n tk tm tn ta ts l a), (1, agN o' s' n' tk' tm' tn' ta' ts' l' a')] 2 67 Try.func20 (by kernel_rfl) rfl rfl rfl rfl rfl ?_
  have hml : (l.map encN).length = l.length := List.length_map _
  have hmm : (l'.map encN).length = l'.length := List.length_map _
  refine goB ?_
  refine callA (i1) ?_
  refine goB ?_
  refine gcallA (i := fun hg => i2) (hr := ?_)
  refine goB ?_
  by_cases h1 : hdO o ∧ hdO o'
  rotate_left
  · rw [if_neg h1]
    refine ift_ ?_ ?_ rfl
    rotate_left
    · by_cases h3 : hdO o
      · have h4 : ¬ hdO o' := fun h => h1 ⟨h3, h⟩
        simp [h3, h4]
      · simp [h3]
    refine goB ?_
    exact Ret.bool rfl (by simp)
  rw [if_pos h1]
  refine iff_ ?_ ?_ rfl
  rotate_left
  · simp [h1.1, h1.2]
  refine goB ?_
  by_cases h6 : o = o'
  rotate_left
  · rw [if_neg (by unfold samH; omega)]
    refine ift_ ?_ ?_ rfl
    rotate_left
    · simp [h6]
    refine goB ?_
    exact Ret.bool rfl (by simp)
  subst h6
  refine iff_ ?_ ?_ rfl
  rotate_left
  · simp
  have h1 := h1.1
  refine goB ?_
  by_cases h3 : o = 42 ∨ o = 43
  · refine ift_ ?_ ?_ rfl
    rotate_left
    · rcases h3 with rfl | rfl <;> simp
    refine goB ?_
    exact Ret.bool rfl (by
      have h5 : o ≠ 45 := by omega
      by_cases h4 : n = n'
      · rw [if_pos (.inl ⟨h3, rfl, h4⟩), if_neg h5]; simp [h4]
      · rw [if_neg (by unfold samH; omega)]; simp [h4])
  refine iff_ ?_ ?_ rfl
  rotate_left
  · simp; omega
  refine goB ?_
  have h45 : o = 44 ∨ o = 45 := by unfold hdO at h1; omega
  by_cases h4 : s = s'
  rotate_left
  · rw [if_neg (by
      rintro (⟨h, _⟩ | ⟨_, _, h⟩)
      · exact h3 h
      · exact h4 h)]
    refine ift_ ?_ ?_ rfl
    rotate_left
    · rw [toL_beq]; simp [h4]
    refine goB ?_
    exact Ret.bool rfl (by simp)
  subst h4
  rw [if_pos (.inr ⟨h45, rfl, rfl⟩)]
  refine iff_ ?_ ?_ rfl
  rotate_left
  · simp
  refine goB ?_
  refine AWp.loop (J := fun k : Nat => k ≤ l.length ∧ k ≤ l'.length ∧ ∀ i (h : i < l.length) (h' : i < l'.length), i < k → apt l[i] l'[i] = false) (fun k => ⟨[(2, .ptr 0 1 0 0), (3, .ptr 1 1 0 0), (5, .int k)], [bxN o s n tk tm tn ta ts l a, bxN o s n' tk' tm' tn' ta' ts' l' a']⟩) (fun k => l.length - k) 0 ⟨Nat.zero_le _, Nat.zero_le _, fun i h h' h'' => by omega⟩ .wf ?_
  rintro k ⟨hk, hk', he⟩
  refine goB ?_
  refine ifA (fun hd => ?_) (fun hd => ?_)
  · simp at hd
    have hk2 : k < l.length := by omega
    have hk3 : k < l'.length := by omega
    have h45 : o = 45 := by omega
    rw [if_pos h45]
    have hidx : (l.map encN)[k]? = some (encN l[k]) := by rw [List.getElem?_map, List.getElem?_eq_getElem hk2]; rfl
    have hidy : (l'.map encN)[k]? = some (encN l'[k]) := by rw [List.getElem?_map, List.getElem?_eq_getElem hk3]; rfl
    have ih := ih _ (List.getElem_mem hk2) (hl _ (List.getElem_mem hk2)) l'[k]
    have hxx : ∀ i, ∀ (h : i < l.length) (h' : i < l'.length), i = k → apt l[i] l'[i] = apt l[k] l'[k] := fun i h h' e => by subst e; rfl
    generalize l[k] = x at *
    generalize l'[k] = y at *
    generalize apt x y = v at *
    obtain ⟨o1, s1, n1, tk1, tm1, tn1, ta1, ts1, l1, a1⟩ := x
    obtain ⟨o2, s2, n2, tk2, tm2, tn2, ta2, ts2, l2, a2⟩ := y
    rw [encN_mk] at ih hidx
    rw [encN_mk] at ih hidy
    have ih : Fn Try.prog 20 [agN o1 s1 n1 tk1 tm1 tn1 ta1 ts1 l1 a1, agN o2 s2 n2 tk2 tm2 tn2 ta2 ts2 l2 a2] (.bool v) := ih
    refine goB ?_
    refine drA (k := 11) follows (hr := ?_)
    refine goB ?_
    refine ARun.q1 rfl rfl (ql_indexAddr_lst rfl rfl Try.underlying22 (by omega) hidx (by kernel_rfl)) ?_
    refine goB ?_
    refine ARun.q1 rfl rfl (ql_indexAddr_lst rfl rfl Try.underlying22 (by omega) hidy (by kernel_rfl)) ?_
    refine goB ?_
    refine callA (ih) ?_
    refine goB ?_
    cases v with
    | true =>
      refine ift_ ?_ ?_ rfl
      rotate_left
      · rfl
      refine goB ?_
      exact Ret.bool rfl (by
        rw [apts_iff]
        exact ⟨fun _ => ⟨k, hk2, hk3, hxx k hk2 hk3 rfl⟩, fun _ => rfl⟩)
    | false =>
      refine iff_ ?_ ?_ rfl
      rotate_left
      · rfl
      refine goB ?_
      rw [wrap_succ (by omega)]
      refine ⟨k + 1, ⟨hk2, hk3, fun i h h' hi => ?_⟩, by omega, .wf⟩
      by_cases e : i = k
      · exact hxx i h h' e
      · exact he i h h' (by omega)
  simp at hd
  refine goB ?_
  exact Ret.bool rfl (by
    by_cases h5 : o = 45
    · rw [if_pos h5, apts_iff]
      refine ⟨fun h => (nomatch h), fun ⟨i, h, h', h6⟩ => ?_⟩
      have h7 := hd h5
      have := he i h h' (by omega)
      rw [this] at h6; cases h6
    · rw [if_neg h5])
end Go.Ab
