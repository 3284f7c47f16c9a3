/- Part of the proof. -/
import Derived.Test.YtpgbgclphjgdbaaCA
set_option linter.unusedSimpArgs false
set_option linter.unusedVariables false
set_option maxHeartbeats 4000000
namespace Go.Ab
open Go Go.Ab Go.Proofs Go.Ab.Ty

/-! ### sizes, as they are counted -/
theorem tnodes_ok (m : Nat) (hm : m ≤ 1000) (r : Tp) (hok : r.ok) : Fn Try.prog 33 [encT r, .int m] (.int (min r.cnt (m + 1) : Nat)) := by
  induction r using Tp.ind with
  | h k0 s n0 l ih =>
  obtain ⟨hs, hn, hl⟩ := tok_sub hok
  unfold maxLen at hs hn
  rw [encT_mk]
  refine Fn.intro' [(0, .agg [.int k0, str s, .int n0, .lst (l.map encT)]), (1, .int m)] 2 32 Try.func33 (by kernel_rfl) rfl rfl rfl rfl rfl ?_
  have hml : (l.map encT).length = l.length := List.length_map _
  refine goB ?_
  refine AWp.loopP (J := fun k : Nat => k ≤ l.length ∧ 1 + capS Tp.cnt (m + 1) l k ≤ 2 * m + 2) (fun k => [(6, .int k), (5, .int (1 + capS Tp.cnt (m + 1) l k : Nat))]) (fun k => l.length - k) 0 ⟨Nat.zero_le _, by rw [capS_zero]; omega⟩ (.env' (by simp +decide only [go_sem] <;> simp [Le.refl, capS_zero])) ?_
  rintro k ⟨hk, he⟩
  refine goB ?_
  refine ifA (fun hd => ?_) (fun hd => ?_)
  · simp at hd
    refine goB ?_
    have hm2 : l[k]'hd.1 ∈ l := List.getElem_mem _
    rcases hx : l[k]'hd.1 with ⟨o1, s1, n1, l1⟩
    have ih1 := ih _ hm2 (hl _ hm2)
    rw [hx, encT_mk] at ih1
    refine ARun.q1 rfl rfl (ql_indexAddr_lst rfl rfl Try.underlying23 (by omega) (e := .agg [.int o1, str s1, .int n1, .lst (l1.map encT)]) (by simp [hd.1, hx, encT_mk]) (by kernel_rfl)) ?_
    refine goB ?_
    refine callA (ih1) ?_
    refine goB ?_
    have hc := capS_succ (f := Tp.cnt) (m := m + 1) hd.1
    rw [hx] at hc
    rw [wrap_succ (by omega), wrap_id (by omega) (by omega)]
    have e2 : ((1 + capS Tp.cnt (m + 1) l k : Nat) : Int) + ((min (Tp.mk o1 s1 n1 l1).cnt (m + 1) : Nat) : Int) = ((1 + capS Tp.cnt (m + 1) l (k + 1) : Nat) : Int) := by omega
    rw [e2]
    exact ⟨k + 1, ⟨by omega, by omega⟩, by omega, .wk⟩
  simp at hd
  refine goB ?_
  have h1 := capS_le Tp.cnt (m + 1) l k
  have h2 := capS_all (f := Tp.cnt) (m := m + 1) (l := l)
  have hf : min ((1 + capS Tp.cnt (m + 1) l k : Nat) : Int) (IntKind.i64.wrap ((m : Int) + 1)) = ((min (Tp.mk k0 s n0 l).cnt (m + 1) : Nat) : Int) := by
    rw [wrap_id (by omega) (by omega), Tp.cnt, tcnts_sum]
    by_cases hlt : k < l.length
    · have := hd hlt; omega
    · obtain rfl : k = l.length := by omega
      omega
  exact Ret.data rfl (by simp only [packA, lk, List.map, if_true]; first | rw [hf] | (simp [packA, lk, hf])) (.base _)
theorem cap_fin {α : Type} {f : α → Nat} {m b k : Nat} {l : List α} (hk : k ≤ l.length) (hd : k < l.length → m < b + capS f (m + 1) l k) : min (b + capS f (m + 1) l k) (m + 1) = min (b + sumS f l) (m + 1) := by
  have h1 := capS_le f (m + 1) l k
  have h2 := capS_all (f := f) (m := m + 1) (l := l)
  by_cases hlt : k < l.length
  · have := hd hlt; omega
  · obtain rfl : k = l.length := by omega
    omega
abbrev bxN (o : Int) (s : ByteArray) (n tk : Int) (tm : ByteArray) (tn : Int) (ta ts : List Tp) (l : List Nd) (a : Int) : ABlk := ⟨27, 10, [.agg [.int o, str s, .int n, .int tk, str tm, .int tn, .lst (ta.map encT), .lst (ts.map encT), .lst (l.map encN), .int a]]⟩
theorem nnodes_ok (m : Nat) (hm : m ≤ 1000) (r : Nd) (hok : r.ok) : Fn Try.prog 29 [encN r, .int m] (.int (min r.cnt (m + 1) : Nat)) := by
  induction r using Nd.ind with
  | h o s n tk tm tn ta ts l a ih =>
  obtain ⟨hs, ht, hts, htl, hn, hl⟩ := nok_sub hok
  have it := tnodes_ok m hm (.mk tk tm tn ta) ht
  have its := fun x hx => tnodes_ok m hm x (htl x hx)
  unfold maxLen at hs hts hn
  rw [encN_mk]
  rw [encT_mk] at it
  refine Fn.intro' [(0, .agg [.int o, str s, .int n, .int tk, str tm, .int tn, .lst (ta.map encT), .lst (ts.map encT), .lst (l.map encN), .int a]), (1, .int m)] 2 69 Try.func29 (by kernel_rfl) rfl rfl rfl rfl rfl ?_
  have hml : (l.map encN).length = l.length := List.length_map _
  have hmt : (ts.map encT).length = ts.length := List.length_map _
  have e1 : ((s.size : Nat) : Int).tdiv 16 = ((s.size / 16 : Nat) : Int) := by rw [Int.tdiv_eq_ediv_of_nonneg (by omega)]; omega
  generalize hS : s.size / 16 = S at *
  have hS2 : S ≤ s.size := by omega
  refine goB ?_
  rw [e1, wrap_id (x := (S : Int)) (by omega) (by omega), wrap_id (x := 1 + (S : Int)) (by omega) (by omega)]
  rw [show 1 + (S : Int) = ((1 + S : Nat) : Int) by omega]
  have hT : (Tp.mk tk tm tn ta).cnt = 1 + tcnts ta := by rw [Tp.cnt]
  have hN : (Nd.mk o s n tk tm tn ta ts l a).cnt = 1 + S + tcnts ts + tcnts ta + ncnts l := by rw [Nd.cnt, hS]
  rw [hN]
  generalize (Nd.mk o s n tk tm tn ta ts l a).cnt = Z at *
  generalize (Tp.mk tk tm tn ta).cnt = T at *
  refine AWp.loop (J := fun k : Nat => k ≤ ts.length ∧ 1 + S + capS Tp.cnt (m + 1) ts k ≤ 1 + S + 2 * m + 2) (fun k => ⟨[(1, .int m), (2, .ptr 0 1 0 0), (5, .int ((1 + S + capS Tp.cnt (m + 1) ts k : Nat) : Int)), (6, .int k)], [bxN o s n tk tm tn ta ts l a]⟩) (fun k => ts.length - k) 0 ⟨Nat.zero_le _, by rw [capS_zero]; omega⟩ (by simp only [capS_zero, Nat.add_zero]; exact .wf) ?_
  rintro k ⟨hk, he⟩
  refine goB ?_
  refine ifA (fun hd => ?_) (fun hd => ?_)
  · simp at hd
    have hk2 : k < ts.length := hd.1
    refine goB ?_
    have hc := capS_succ (f := Tp.cnt) (m := m + 1) hk2
    have ih1 := its _ (List.getElem_mem hk2)
    have hidx : (ts.map encT)[k]? = some (encT ts[k]) := by rw [List.getElem?_map, List.getElem?_eq_getElem hk2]; rfl
    generalize ts[k] = x at *
    obtain ⟨o1, s1, n1, l1⟩ := x
    rw [encT_mk] at ih1 hidx
    refine ARun.q1 rfl rfl (ql_indexAddr_lst rfl rfl Try.underlying23 (by omega) (e := .agg [.int o1, str s1, .int n1, .lst (l1.map encT)]) hidx (by kernel_rfl)) ?_
    refine goB ?_
    refine callA (ih1) ?_
    refine goB ?_
    rw [wrap_succ (by omega), wrap_id (by omega) (by omega)]
    have e2 : ((1 + S + capS Tp.cnt (m + 1) ts k : Nat) : Int) + ((min (Tp.mk o1 s1 n1 l1).cnt (m + 1) : Nat) : Int) = ((1 + S + capS Tp.cnt (m + 1) ts (k + 1) : Nat) : Int) := by omega
    rw [e2]
    exact ⟨k + 1, ⟨by omega, by omega⟩, by omega, .wf⟩
  simp at hd
  have hf1 := cap_fin (f := Tp.cnt) (m := m) (b := 1 + S) hk (fun h => by have := hd h; omega)
  rw [← tcnts_sum] at hf1
  generalize 1 + S + capS Tp.cnt (m + 1) ts k = n1 at *
  refine AWp.exit ?_
  repeat (with_reducible apply thenQ_e)
  refine blkQ_e (thenQ_n ?_)
  refine goB ?_
  refine AWp.join ⟨[(1, .int m), (2, .ptr 0 1 0 0), (5, .int ((if n1 ≤ m then n1 + min T (m + 1) - 1 else n1 : Nat) : Int))], [bxN o s n tk tm tn ta ts l a]⟩ ?_ ?_
  · by_cases h : n1 ≤ m
    · rw [if_pos h]
      refine ift_ ?_ ?_ rfl
      rotate_left
      · simp; omega
      refine goB ?_
      refine callA (it) ?_
      refine goB ?_
      rw [wrap_id (x := (n1 : Int) + ((min T (m + 1) : Nat) : Int)) (by omega) (by omega), wrap_id (by omega) (by omega)]
      rw [show (n1 : Int) + ((min T (m + 1) : Nat) : Int) - 1 = ((n1 + min T (m + 1) - 1 : Nat) : Int) by omega]
      exact .wf
    · rw [if_neg h]
      refine iff_ ?_ ?_ rfl
      rotate_left
      · simp; omega
      refine goB ?_
      exact .wf
  generalize hn2 : (if n1 ≤ m then n1 + min T (m + 1) - 1 else n1) = n2
  have hf2 : min n2 (m + 1) = min (1 + S + tcnts ts + tcnts ta) (m + 1) := by
    rw [← hn2]; split <;> omega
  have hn2b : n2 ≤ 1 + S + 2 * m + 2 + m := by rw [← hn2]; split <;> omega
  refine goB ?_
  refine AWp.loop (J := fun k : Nat => k ≤ l.length ∧ n2 + capS Nd.cnt (m + 1) l k ≤ n2 + 2 * m + 2) (fun k => ⟨[(1, .int m), (2, .ptr 0 1 0 0), (5, .int ((n2 + capS Nd.cnt (m + 1) l k : Nat) : Int)), (7, .int k)], [bxN o s n tk tm tn ta ts l a]⟩) (fun k => l.length - k) 0 ⟨Nat.zero_le _, by rw [capS_zero]; omega⟩ (by simp only [capS_zero, Nat.add_zero]; exact .wf) ?_
  clear hd
  rintro k ⟨hk, he⟩
  refine goB ?_
  refine ifA (fun hd => ?_) (fun hd => ?_)
  · simp at hd
    have hk2 : k < l.length := hd.1
    refine goB ?_
    have hc := capS_succ (f := Nd.cnt) (m := m + 1) hk2
    have ih1 := ih _ (List.getElem_mem hk2) (hl _ (List.getElem_mem hk2))
    have hidx : (l.map encN)[k]? = some (encN l[k]) := by rw [List.getElem?_map, List.getElem?_eq_getElem hk2]; rfl
    generalize l[k] = x at *
    obtain ⟨o1, s1, n1', tk1, tm1, tn1, ta1, ts1, l1, a1⟩ := x
    rw [encN_mk] at ih1 hidx
    refine ARun.q1 rfl rfl (ql_indexAddr_lst rfl rfl Try.underlying22 (by omega) hidx (by kernel_rfl)) ?_
    refine goB ?_
    refine callA (ih1) ?_
    refine goB ?_
    generalize (Nd.mk o1 s1 n1' tk1 tm1 tn1 ta1 ts1 l1 a1).cnt = C1 at *
    rw [wrap_succ (by omega), wrap_id (by omega) (by omega)]
    have e2 : ((n2 + capS Nd.cnt (m + 1) l k : Nat) : Int) + ((min C1 (m + 1) : Nat) : Int) = ((n2 + capS Nd.cnt (m + 1) l (k + 1) : Nat) : Int) := by omega
    rw [e2]
    exact ⟨k + 1, ⟨by omega, by omega⟩, by omega, .wf⟩
  simp at hd
  have hf3 := cap_fin (f := Nd.cnt) (m := m) (b := n2) hk (fun h => by have := hd h; omega)
  rw [← ncnts_sum] at hf3
  generalize n2 + capS Nd.cnt (m + 1) l k = n3 at *
  refine AWp.exit ?_
  repeat (with_reducible apply thenQ_e)
  refine blkQ_e (thenQ_n ?_)
  refine goB ?_
  have hfin : min ((n3 : Nat) : Int) (IntKind.i64.wrap ((m : Int) + 1)) = ((min (1 + S + tcnts ts + tcnts ta + ncnts l) (m + 1) : Nat) : Int) := by
    rw [wrap_id (by omega) (by omega)]; omega
  exact Ret.data rfl (by simp only [packA, lk, List.map, if_true]; first | rw [hfin] | (simp [packA, lk, hfin])) (.base _)
end Go.Ab
set_option maxHeartbeats 4000000
namespace Go.Ab
open Go Go.Ab Go.Proofs Go.Ab.Ty

/-! ### few, isWild, isHead, sameHead -/
abbrev agN (o : Int) (s : ByteArray) (n tk : Int) (tm : ByteArray) (tn : Int) (ta ts : List Tp) (l : List Nd) (a : Int) : AV := .agg [.int o, str s, .int n, .int tk, str tm, .int tn, .lst (ta.map encT), .lst (ts.map encT), .lst (l.map encN), .int a]
theorem toL_iff (a b : ByteArray) : a.toList = b.toList ↔ a = b := by
  rw [ByteArray.toList_eq, ByteArray.toList_eq]
  constructor
  · intro h
    cases a; cases b
    simp only at h
    rename_i x y
    cases x; cases y
    simp only at h
    rw [h]
  · intro h; rw [h]
theorem toL_beq (a b : ByteArray) : (a.toList == b.toList) = decide (a = b) := by
  rw [Bool.eq_iff_iff, beq_iff_eq, decide_eq_true_iff, toL_iff]
open Classical in
theorem few_ok (l : List Nd) (hn : l.length ≤ maxLen) (hl : ∀ x ∈ l, x.ok) : Fn Try.prog 8 [.lst (l.map encN)] (.bool (decide (l.length ≤ 20 ∧ ∀ x ∈ l, x.cnt ≤ 120))) := by
  unfold maxLen at hn
  have ic := fun x hx => nnodes_ok 120 (by decide) x (hl x hx)
  refine Fn.intro' [(0, .lst (l.map encN))] 1 20 Try.func8 (by kernel_rfl) rfl rfl rfl rfl rfl ?_
  have hml : (l.map encN).length = l.length := List.length_map _
  refine goB ?_
  refine AWp.loop (J := fun k : Nat => k ≤ l.length ∧ k ≤ 20 ∧ ∀ i, ∀ h : i < l.length, i < k → l[i].cnt ≤ 120) (fun k => ⟨[(0, .lst (l.map encN)), (3, .int k)], []⟩) (fun k => l.length - k) 0 ⟨Nat.zero_le _, Nat.zero_le _, fun i h h' => by omega⟩ .wf ?_
  rintro k ⟨hk, hk20, he⟩
  refine goB ?_
  refine ifA (fun hd => ?_) (fun hd => ?_)
  · simp at hd
    have hk2 : k < l.length := by omega
    have hm := List.getElem_mem hk2
    have ih1 := ic _ hm
    have hidx : (l.map encN)[k]? = some (encN l[k]) := by rw [List.getElem?_map, List.getElem?_eq_getElem hk2]; rfl
    have hxx : ∀ i, ∀ h : i < l.length, i = k → l[i].cnt = l[k].cnt := fun i h e => by subst e; rfl
    generalize l[k] = x at *
    have hcnt : ∃ c, x.cnt = c := ⟨_, rfl⟩
    obtain ⟨c, hcc⟩ := hcnt
    rw [hcc] at ih1 hxx
    obtain ⟨o1, s1, n1, tk1, tm1, tn1, ta1, ts1, l1, a1⟩ := x
    rw [encN_mk] at ih1 hidx
    have ih1 : Fn Try.prog 29 [agN o1 s1 n1 tk1 tm1 tn1 ta1 ts1 l1 a1, .int 120] (.int (min c 121 : Nat)) := ih1
    refine goB ?_
    refine gqA (h := fun hg => ql_indexAddr_lst (by simp +decide only [go_sem] <;> rfl) (by simp +decide only [go_sem] <;> rfl) Try.underlying22 (by omega) hidx (by kernel_rfl)) (hr := ?_)
    refine goB ?_
    refine gcallA (i := fun hg => ih1) (hr := ?_)
    refine goB ?_
    by_cases hq : k = 20 ∨ 120 < c
    · refine ift_ ?_ ?_ rfl
      rotate_left
      · rcases hq with h | h
        · simp [h]
        · simp; omega
      refine goB ?_
      exact Ret.bool rfl (by
        rw [decide_eq_true_iff]
        refine ⟨fun h => (nomatch h), fun h => ?_⟩
        rcases hq with h1 | h1
        · omega
        · have := h.2 _ hm
          rw [hcc] at this
          omega)
    · refine iff_ ?_ ?_ rfl
      rotate_left
      · simp; omega
      refine goB ?_
      rw [wrap_succ (by omega)]
      refine ⟨k + 1, ⟨hk2, by omega, fun i h hi => ?_⟩, by omega, .wf⟩
      by_cases e : i = k
      · have := hxx i h e; omega
      · exact he i h (by omega)
  simp at hd
  refine goB ?_
  exact Ret.bool rfl (by rw [decide_eq_true_iff]; exact ⟨fun _ => ⟨by omega, fun x hx => by obtain ⟨i, hi, rfl⟩ := List.mem_iff_getElem.1 hx; exact he i hi (by omega)⟩, fun _ => rfl⟩)
section
variable (o : Int) (s : ByteArray) (n tk : Int) (tm : ByteArray) (tn : Int) (ta ts : List Tp) (l : List Nd) (a : Int)
theorem isWild_ok : Fn Try.prog 38 [agN o s n tk tm tn ta ts l a] (.bool (decide (wldO o))) := by
  refine Fn.intro' [(0, agN o s n tk tm tn ta ts l a)] 1 11 Try.func38 (by kernel_rfl) rfl rfl rfl rfl rfl ?_
  refine goB ?_
  exact Ret.bool rfl (by rw [decide_eq_true_iff]; unfold wldO; simp)
theorem wild_ok : Fn Try.prog 42 [agN o s n tk tm tn ta ts l a] (.bool (decide (wldO o))) := by
  refine Fn.intro' [(0, agN o s n tk tm tn ta ts l a)] 1 11 Try.func42 (by kernel_rfl) rfl rfl rfl rfl rfl ?_
  refine goB ?_
  exact Ret.bool rfl (by rw [decide_eq_true_iff]; unfold wldO; simp)
theorem isHead_ok : Fn Try.prog 41 [agN o s n tk tm tn ta ts l a] (.bool (decide (hdO o))) := by
  refine Fn.intro' [(0, agN o s n tk tm tn ta ts l a)] 1 21 Try.func41 (by kernel_rfl) rfl rfl rfl rfl rfl ?_
  refine goB ?_
  exact Ret.bool rfl (by rw [decide_eq_true_iff]; unfold hdO; simp [or_assoc])
theorem head_ok : Fn Try.prog 43 [agN o s n tk tm tn ta ts l a] (.bool (decide (hdO o))) := by
  refine Fn.intro' [(0, agN o s n tk tm tn ta ts l a)] 1 21 Try.func43 (by kernel_rfl) rfl rfl rfl rfl rfl ?_
  refine goB ?_
  exact Ret.bool rfl (by rw [decide_eq_true_iff]; unfold hdO; simp [or_assoc])
variable (o' : Int) (s' : ByteArray) (n' tk' : Int) (tm' : ByteArray) (tn' : Int) (ta' ts' : List Tp) (l' : List Nd) (a' : Int)
theorem sameHead_ok : Fn Try.prog 39 [agN o s n tk tm tn ta ts l a, agN o' s' n' tk' tm' tn' ta' ts' l' a'] (.bool (decide (samH o s n o' s' n'))) := by
  refine Fn.intro' [(0, agN o s n tk tm tn ta ts l a), (1, agN o' s' n' tk' tm' tn' ta' ts' l' a')] 2 37 Try.func39 (by kernel_rfl) rfl rfl rfl rfl rfl ?_
  refine goB ?_
  by_cases h2 : o = 42
  · subst h2
    refine ift_ ?_ ?_ rfl
    rotate_left
    · simp
    refine goB ?_
    refine ift_ ?_ ?_ rfl
    rotate_left
    · simp
    refine goB ?_
    exact Ret.bool rfl (by rw [decide_eq_true_iff]; unfold samH; simp)
  refine iff_ ?_ ?_ rfl
  rotate_left
  · simp [h2]
  refine goB ?_
  by_cases h3 : o = 43
  · subst h3
    refine ift_ ?_ ?_ rfl
    rotate_left
    · simp
    refine goB ?_
    exact Ret.bool rfl (by rw [decide_eq_true_iff]; unfold samH; simp)
  refine iff_ ?_ ?_ rfl
  rotate_left
  · simp [h3]
  refine goB ?_
  by_cases h4 : o = 44
  · subst h4
    refine ift_ ?_ ?_ rfl
    rotate_left
    · simp
    refine goB ?_
    refine ift_ ?_ ?_ rfl
    rotate_left
    · simp
    refine goB ?_
    exact Ret.bool rfl (by rw [decide_eq_true_iff]; unfold samH; simp [toL_iff])
  refine iff_ ?_ ?_ rfl
  rotate_left
  · simp [h4]
  refine goB ?_
  by_cases h5 : o = 45
  · subst h5
    refine ift_ ?_ ?_ rfl
    rotate_left
    · simp
    refine goB ?_
    exact Ret.bool rfl (by rw [decide_eq_true_iff]; unfold samH; simp [toL_iff])
  refine iff_ ?_ ?_ rfl
  rotate_left
  · simp [h5]
  refine goB ?_
  exact Ret.bool rfl (by rw [decide_eq_true_iff]; unfold samH; simp [h2, h3, h4, h5])
end
end Go.Ab
