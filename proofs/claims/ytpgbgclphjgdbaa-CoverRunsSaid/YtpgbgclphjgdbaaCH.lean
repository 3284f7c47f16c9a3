/- Part of the proof. -/
import Derived.Test.YtpgbgclphjgdbaaCG
set_option linter.unusedSimpArgs false
set_option linter.unusedVariables false
set_option maxHeartbeats 4000000
namespace Go.Ab
open Go Go.Ab Go.Proofs Go.Ab.Ty

/-! ### Run of the other program -/
section
variable {t : Dg} {x : Nd}
theorem nextT_end : nextT t x t.heads.length = t.other := by
  unfold nextT
  rw [List.drop_length, fstI, if_pos rfl]
theorem nextT_skip {i : Nat} (hi : i < t.heads.length) (h : samP x t.heads[i] = false) : nextT t x i = nextT t x (i + 1) := by
  have := fstI_drop (p := samP x) hi
  rw [if_neg (by simp [h])] at this
  unfold nextT
  simp only [this]
theorem nextT_hit {i : Nat} (hi : i < t.heads.length) (h : samP x t.heads[i] = true) : nextT t x i = if h : i < t.subs.length then t.subs[i] else -1 := by
  have := fstI_drop (p := samP x) hi
  rw [if_pos (by simp [h])] at this
  unfold nextT
  simp only [this]
  rw [if_neg (by omega)]
  simp only [Int.toNat_natCast]
end
theorem bcond (o3 : Int) (s3 : ByteArray) (n3 o2 : Int) (s2 : ByteArray) (n2 : Int) : (bif bif bif decide (hdO o3) then decide (o3 = o2) else false then bif bif decide (o3 = 42) then true else decide (o3 = 43) then true else s3.toList == s2.toList else false then bif bif decide (o3 = 44) then true else decide (o3 = 45) then true else decide (n3 = n2) else false) = decide (samH o3 s3 n3 o2 s2 n2) := by
  rw [toL_beq, Bool.eq_iff_iff, decide_eq_true_iff]
  by_cases h1 : hdO o3
  · rw [decide_eq_true h1]
    by_cases h2 : o3 = o2
    · subst h2
      unfold samH
      rcases h1 with h | h | h | h <;> subst h <;> simp
    · have : ¬ samH o3 s3 n3 o2 s2 n2 := by unfold samH; omega
      simp [h2, this]
  · have : ¬ samH o3 s3 n3 o2 s2 n2 := by unfold samH; unfold hdO at h1; omega
    simp [h1, this]
theorem refRun_ok (xs : List Dg) (hx : xs.length ≤ maxLen) (hok : ∀ t ∈ xs, t.ok) (v : Nd) : Fn Try.prog 28 [.lst (xs.map encR), encN v] (.int (runT xs v 1000 0)) := by
  unfold maxLen at hx
  obtain ⟨R, hR⟩ : ∃ R, R = runT xs v 1000 0 := ⟨_, rfl⟩
  rw [← hR]
  have hev : encN v = encN v := rfl
  have hpv := Pu_cN v
  obtain ⟨e, he⟩ : ∃ e, encN v = e := ⟨_, rfl⟩
  refine (show Fn Try.prog 28 [.lst (xs.map encR), encN v] (.int R) from ?_)
  have hvo : ∃ o s n tk tm tn ta ts l a, v = .mk o s n tk tm tn ta ts l a := by obtain ⟨o, s, n, tk, tm, tn, ta, ts, l, a⟩ := v; exact ⟨_, _, _, _, _, _, _, _, _, _, rfl⟩
  refine Fn.intro' [(0, .lst (xs.map encR)), (1, encN v)] 2 154 Try.func28 (by kernel_rfl) rfl rfl rfl rfl rfl ?_
  have hml : (xs.map encR).length = xs.length := List.length_map _
  obtain ⟨o, s, n, tk, tm, tn, ta, ts, l, a, hve⟩ := hvo
  rw [show encN v = agN o s n tk tm tn ta ts l a by rw [hve, encN_mk]]
  refine goB ?_
  refine AWp.loop (J := fun y : Nat × Int => y.1 ≤ 1000 ∧ R = runT xs v (1000 - y.1) y.2) (fun y => ⟨[(0, .lst (xs.map encR)), (3, .ptr 0 1 0 0), (5, .int y.2), (6, .int y.1)], [bxN o s n tk tm tn ta ts l a]⟩) (fun y => 1000 - y.1) (0, 0) ⟨Nat.zero_le _, hR⟩ .wf ?_
  rintro ⟨k, i⟩ ⟨hk, hRk⟩
  simp only at hk hRk ⊢
  refine goB ?_
  refine ifA (fun hd => ?_) (fun hd => ?_)
  rotate_left
  · simp at hd
    obtain rfl : k = 1000 := by omega
    rw [show (1000 - 1000 : Nat) = 0 from rfl, runT] at hRk
    refine goB ?_
    rw [hRk]
    exact Ret.data rfl rfl (.base _)
  simp at hd
  obtain ⟨m, hm⟩ : ∃ m, 1000 - k = m + 1 := ⟨999 - k, by omega⟩
  have hm2 : 1000 - (k + 1) = m := by omega
  rw [hm] at hRk
  refine goB ?_
  by_cases hi : 0 ≤ i ∧ i.toNat < xs.length
  rotate_left
  · rw [runT_out hi] at hRk
    refine ift_ ?_ ?_ rfl
    rotate_left
    · simp; omega
    refine goB ?_
    rw [hRk]
    exact Ret.data rfl rfl (.base _)
  refine iff_ ?_ ?_ rfl
  rotate_left
  · simp; omega
  obtain ⟨j, rfl⟩ : ∃ j : Nat, i = j := ⟨i.toNat, by omega⟩
  have hj : j < xs.length := by simpa using hi.2
  rw [runT_at hj] at hRk
  have hto := hok _ (List.getElem_mem hj)
  have hidx : (xs.map encR)[j]? = some (encR xs[j]) := by rw [List.getElem?_map, List.getElem?_eq_getElem hj]; rfl
  generalize xs[j] = t at *
  obtain ⟨r, p, hs, sb, ot⟩ := t
  simp only at hRk
  rw [encR] at hidx
  simp only at hidx
  refine goB ?_
  refine ARun.q1 rfl rfl (ql_indexAddr_lst rfl rfl Try.underlying52 (by omega) hidx (by kernel_rfl)) ?_
  refine goB ?_
  by_cases hh : hs = []
  · rw [if_pos hh] at hRk
    refine ift_ ?_ ?_ rfl
    rotate_left
    · simp [hh]
    refine goB ?_
    refine ARun.q1 rfl rfl (ql_indexAddr_lst rfl rfl Try.underlying52 (by omega) hidx (by kernel_rfl)) ?_
    refine goB ?_
    rw [hRk]
    exact Ret.data rfl rfl (.base _)
  rw [if_neg hh] at hRk
  refine iff_ ?_ ?_ rfl
  rotate_left
  · simp; omega
  have hmp : (p.map AV.int).length = p.length := List.length_map _
  have hmh : (hs.map encN).length = hs.length := List.length_map _
  have hms : (sb.map AV.int).length = sb.length := List.length_map _
  obtain ⟨h1, h2, h3, h4⟩ := hto
  simp only at h1 h2 h3 h4
  unfold maxLen at h1 h2 h4
  refine goB ?_
  rw [show (⟨27, 10, [agN o s n tk tm tn ta ts l a]⟩ : ABlk) = bxE v by rw [bxE, hve, encN_mk]]
  refine AWp.loop (J := fun y : Nat × Nd => y.1 ≤ p.length ∧ partAt p v = partAt (p.drop y.1) y.2) (fun y => ⟨[(0, .lst (xs.map encR)), (3, .ptr 0 1 0 0), (5, .int j), (6, .int k), (7, .ptr 1 1 0 0), (8, .int y.1)], [bxN o s n tk tm tn ta ts l a, bxE y.2]⟩) (fun y => p.length - y.1) (0, v) ⟨Nat.zero_le _, rfl⟩ .wf ?_
  rintro ⟨q, x⟩ ⟨hq, hpq⟩
  simp only at hq hpq ⊢
  refine goB ?_
  refine ARun.q1 rfl rfl (ql_indexAddr_lst rfl rfl Try.underlying52 (by omega) hidx (by kernel_rfl)) ?_
  refine goB ?_
  refine ifA (fun hd2 => ?_) (fun hd2 => ?_)
  · simp at hd2
    have hq2 : q < p.length := by omega
    rw [List.drop_eq_getElem_cons hq2] at hpq
    have hnp := nthI hq2
    generalize p[q] = e at *
    obtain ⟨o2, s2, n2, tk2, tm2, tn2, ta2, ts2, l2, a2⟩ := x
    rw [bxE_mk]
    have hm2 : (l2.map encN).length = l2.length := List.length_map _
    refine goB ?_
    refine ARun.q1 rfl rfl (ql_indexAddr_lst rfl rfl Try.underlying52 (by omega) hidx (by kernel_rfl)) ?_
    refine goB ?_
    rw [hnp]
    refine goB ?_
    by_cases he : 0 ≤ e ∧ e.toNat < l2.length
    rotate_left
    · rw [partAt_no he] at hpq
      rw [hpq] at hRk
      simp only at hRk
      refine ift_ ?_ ?_ rfl
      rotate_left
      · simp; omega
      refine goB ?_
      rw [hRk]
      exact Ret.data rfl rfl (.base _)
    rw [partAt_cons he] at hpq
    simp only [Nd.l] at hpq
    refine iff_ ?_ ?_ rfl
    rotate_left
    · simp; omega
    obtain ⟨m2, rfl⟩ : ∃ m2 : Nat, e = m2 := ⟨e.toNat, by omega⟩
    simp only [Int.toNat_natCast] at hpq he
    have hidy : (l2.map encN)[m2]? = some (encN l2[m2]) := by rw [List.getElem?_map, List.getElem?_eq_getElem he.2]; rfl
    generalize l2[m2] = y at *
    obtain ⟨o3, s3, n3, tk3, tm3, tn3, ta3, ts3, l3, a3⟩ := y
    rw [encN_mk] at hidy
    refine goB ?_
    refine ARun.q1 rfl rfl (ql_indexAddr_lst rfl rfl Try.underlying22 (by omega) hidy (by kernel_rfl)) ?_
    refine goB ?_
    rw [wrap_succ (by omega)]
    refine ⟨(q + 1, .mk o3 s3 n3 tk3 tm3 tn3 ta3 ts3 l3 a3), ⟨hq2, hpq⟩, by simp only; omega, ?_⟩
    rw [bxE_mk]
    exact .wf
  simp at hd2
  obtain rfl : q = p.length := by omega
  rw [List.drop_length, partAt] at hpq
  rw [hpq] at hRk
  simp only at hRk
  have hend := @nextT_end ⟨r, p, hs, sb, ot⟩ x
  have hskip := fun i => @nextT_skip ⟨r, p, hs, sb, ot⟩ x i
  have hhit := fun i => @nextT_hit ⟨r, p, hs, sb, ot⟩ x i
  simp only at hend hskip hhit
  generalize nextT ⟨r, p, hs, sb, ot⟩ x = N at *
  refine goB ?_
  refine ARun.q1 rfl rfl (ql_indexAddr_lst rfl rfl Try.underlying52 (by omega) hidx (by kernel_rfl)) ?_
  refine goB ?_
  refine ARun.q1 rfl rfl (ql_indexAddr_lst rfl rfl Try.underlying52 (by omega) hidx (by kernel_rfl)) ?_
  refine goB ?_
  rw [wrap_id (x := (hs.length : Int) - 1) (by omega) (by omega), ← hend]
  refine AWp.loop (J := fun c : Nat => c ≤ hs.length) (fun c => ⟨[(0, .lst (xs.map encR)), (3, .ptr 0 1 0 0), (5, .int j), (6, .int k), (7, .ptr 1 1 0 0), (10, .int (N c)), (11, .int ((c : Int) - 1))], [bxN o s n tk tm tn ta ts l a, bxE x]⟩) (fun c => c) hs.length (Nat.le_refl _) .wf ?_
  rintro c hc
  refine goB ?_
  refine ifA (fun hd3 => ?_) (fun hd3 => ?_)
  · simp at hd3
    obtain ⟨i, rfl⟩ : ∃ i, c = i + 1 := ⟨c - 1, by omega⟩
    have hi3 : i < hs.length := by omega
    have hskip := hskip i hi3
    have hhit := hhit i hi3
    rw [show ((i + 1 : Nat) : Int) - 1 = (i : Int) by omega]
    have hidy : (hs.map encN)[i]? = some (encN hs[i]) := by rw [List.getElem?_map, List.getElem?_eq_getElem hi3]; rfl
    generalize hs[i] = y at *
    obtain ⟨o3, s3, n3, tk3, tm3, tn3, ta3, ts3, l3, a3⟩ := y
    obtain ⟨o2, s2, n2, tk2, tm2, tn2, ta2, ts2, l2, a2⟩ := x
    have ih := head_ok o3 s3 n3 tk3 tm3 tn3 ta3 ts3 l3 a3
    rw [encN_mk] at hidy
    rw [bxE_mk]
    rw [show samP (.mk o2 s2 n2 tk2 tm2 tn2 ta2 ts2 l2 a2) (.mk o3 s3 n3 tk3 tm3 tn3 ta3 ts3 l3 a3) = decide (samH o3 s3 n3 o2 s2 n2) from rfl] at hskip hhit
    refine goB ?_
    refine ARun.q1 rfl rfl (ql_indexAddr_lst rfl rfl Try.underlying52 (by omega) hidx (by kernel_rfl)) ?_
    refine goB ?_
    refine ARun.q1 rfl rfl (ql_indexAddr_lst rfl rfl Try.underlying22 (by omega) hidy (by kernel_rfl)) ?_
    refine goB ?_
    refine callA (ih) ?_
    refine goB ?_
    by_cases hsm : samH o3 s3 n3 o2 s2 n2
    rotate_left
    · have hN := hskip (by simp [hsm])
      refine iff_ ?_ ?_ rfl
      rotate_left
      · rw [bcond, decide_eq_false hsm]
      refine goB ?_
      rw [wrap_id (x := (i : Int) - 1) (by omega) (by omega), ← hN]
      refine ⟨i, by omega, by omega, ?_⟩
      exact Wk.trimM 2 (Nat.zero_le _) rfl ⟨.pu (Pu_mapR xs), .ptr (by decide), .pu (.base _), .pu (.base _), .ptr (by decide), .pu (.base _), .pu (.base _), trivial⟩ (pubB (.cons (PuB_bxN _ _ _ _ _ _ _ _ _ _) (.cons (PuB_bxN _ _ _ _ _ _ _ _ _ _) .nil)))
    have hN := hhit (by simp [hsm])
    refine ift_ ?_ ?_ rfl
    rotate_left
    · rw [bcond, decide_eq_true hsm]
    refine AWp.weaken (Wk.trimM (E2 := [(0, .lst (xs.map encR)), (3, .ptr 0 1 0 0), (5, .int j), (6, .int k), (7, .ptr 1 1 0 0), (11, .int i)]) (H2 := [bxN o s n tk tm tn ta ts l a, bxN o2 s2 n2 tk2 tm2 tn2 ta2 ts2 l2 a2]) 2 (Nat.zero_le _) rfl ⟨.pu (Pu_mapR xs), .ptr (by decide), .pu (.base _), .pu (.base _), .ptr (by decide), .pu (.base _), trivial⟩ (pubB (.cons (PuB_bxN _ _ _ _ _ _ _ _ _ _) (.cons (PuB_bxN _ _ _ _ _ _ _ _ _ _) .nil)))) ?_
    refine goB ?_
    refine ARun.q1 rfl rfl (ql_indexAddr_lst rfl rfl Try.underlying52 (by omega) hidx (by kernel_rfl)) ?_
    refine goB ?_
    by_cases hsb : i < sb.length
    · rw [dif_pos hsb] at hN
      have hnp := nthI hsb
      refine ift_ ?_ ?_ rfl
      rotate_left
      · simp [hsb]
      refine goB ?_
      refine ARun.q1 rfl rfl (ql_indexAddr_lst rfl rfl Try.underlying52 (by omega) hidx (by kernel_rfl)) ?_
      refine goB ?_
      rw [hnp]
      refine goB ?_
      rw [wrap_id (x := (i : Int) - 1) (by omega) (by omega), ← hN]
      exact ⟨i, by omega, by omega, .wf⟩
    · rw [dif_neg hsb] at hN
      refine iff_ ?_ ?_ rfl
      rotate_left
      · simp; omega
      refine goB ?_
      rw [wrap_id (x := (i : Int) - 1) (by omega) (by omega)]
      refine ⟨i, by omega, by omega, ?_⟩
      rw [hN]
      exact .wf
  simp at hd3
  obtain rfl : c = 0 := by omega
  refine goB ?_
  rw [wrap_succ (by omega)]
  refine ⟨(k + 1, N 0), ⟨by simp only; omega, by simp only; rw [hm2]; exact hRk⟩, by simp only; omega, ?_⟩
  exact Wk.trimM 1 (Nat.zero_le _) rfl ⟨.pu (Pu_mapR xs), .ptr (by decide), .pu (.base _), .pu (.base _), trivial⟩ (pubB (.cons (PuB_bxN _ _ _ _ _ _ _ _ _ _) .nil))
end Go.Ab
set_option maxHeartbeats 4000000
namespace Go.Ab
open Go Go.Ab Go.Proofs Go.Ab.Ty

/-! ### decision graphs, as they are read -/
theorem shInts {f : Nat} {p : List AV} (h : Sh Try.prog f 53 p) : ∃ l : List Int, p = [liI l] ∧ l.length ≤ maxLen := by
  cases f with
  | zero => exact h.elim
  | succ g =>
    simp only [Sh, Try.underlying53] at h
    have ⟨parts, e, hn, h3⟩ := h; clear h; subst e
    obtain ⟨l, hl, _⟩ := all_encP (f := AV.int) (R := fun _ => True) (g := mkEl (aggTy Try.prog 3 == some true)) h3 fun p hp => by
      obtain ⟨n, h1⟩ := sh3 hp.2
      refine ⟨n, ?_, trivial⟩
      rw [agg3, h1]; rfl
    exact ⟨l, by rw [hl], by have := congrArg List.length hl; rw [List.length_map, List.length_map] at this; rw [← this]; exact hn⟩
theorem shDg {f : Nat} {p : List AV} (h : Sh Try.prog f 55 p) : ∃ r : Dg, AV.agg p = encR r ∧ r.ok := by
  cases f with
  | zero => exact h.elim
  | succ f =>
    simp only [Sh, Try.underlying55] at h
    obtain ⟨parts, hlen, rfl, h⟩ := h
    match parts, hlen, h with
    | [p0, p1, p2, p3, p4], _, h =>
      obtain ⟨r, rfl⟩ := sh3 (h 0 _ p0 rfl rfl).2
      obtain ⟨p, rfl, hp⟩ := shInts (h 1 _ p1 rfl rfl).2
      obtain ⟨hs, rfl, hh, ho⟩ := shNs (h 2 _ p2 rfl rfl).2
      obtain ⟨sb, rfl, hs2⟩ := shInts (h 3 _ p3 rfl rfl).2
      obtain ⟨ot, rfl⟩ := sh3 (h 4 _ p4 rfl rfl).2
      exact ⟨⟨r, p, hs, sb, ot⟩, rfl, ⟨hp, hh, ho, hs2⟩⟩
theorem shDgs {a : AV} (h : ShV Try.prog 52 a) : ∃ l : List Dg, a = .lst (l.map encR) ∧ l.length ≤ maxLen ∧ ∀ x ∈ l, x.ok := by
  unfold ShV at h
  obtain ⟨fuel, q, h, hn, e⟩ := h
  cases fuel with
  | zero => exact h.elim
  | succ g =>
    simp only [Sh, Try.underlying52] at h
    have ⟨parts, e2, hn2, h3⟩ := h; clear h; subst e2
    obtain ⟨l, hl, hr⟩ := all_encP (f := encR) (R := Dg.ok) (g := mkEl (aggTy Try.prog 55 == some true)) h3 fun p hp => by
      obtain ⟨r, h1, h2⟩ := shDg hp.2
      refine ⟨r, ?_, h2⟩
      rw [agg55]; exact h1
    refine ⟨l, ?_, by have := congrArg List.length hl; rw [List.length_map, List.length_map] at this; rw [← this]; exact hn2, hr⟩
    rw [e, agg52, ← hl]; rfl
/-! ### the law of runs -/
theorem law_runs (xs : List Dg) (v : Nd) (hx : xs.length ≤ maxLen) (hok : ∀ t ∈ xs, t.ok) (hv : v.ok) : Fn Try.prog 7 [.lst (xs.map encR), encN v] (.bool true) := by
  have i1 := few_ok [v] (Nat.le_of_lt (by decide : 1 < maxLen)) (by simp [hv])
  have i2 := run_ok xs hx hok v
  have i3 := refRun_ok xs hx hok v
  have i4 := fun t (ht : t ∈ xs) => few_ok t.heads (hok t ht).hh (hok t ht).ho
  have i5 := awake_true
  unfold maxLen at hx
  generalize runT xs v 1000 0 = R at *
  obtain ⟨o, s, n, tk, tm, tn, ta, ts, l, a⟩ := v
  rw [List.map_cons, List.map_nil] at i1
  simp only [encN_mk] at i1 i2 i3 ⊢
  refine Fn.intro' [(0, .lst (xs.map encR)), (1, agN o s n tk tm tn ta ts l a)] 2 56 Try.func7 (by kernel_rfl) rfl rfl rfl rfl rfl ?_
  have hml : (xs.map encR).length = xs.length := List.length_map _
  refine goB ?_
  refine gqA (v := .lst [agN o s n tk tm tn ta ts l a]) (h := fun hg => ql_buildSlice (by decide) Try.underlying22 sz27 (by kernel_rfl) (by decide) (by (simp +decide only [List.map, go_sem, stripL] <;> rfl)) (by (simp +decide only [List.map, go_sem, stripL] <;> rfl)) rfl) (hr := ?_)
  refine goB ?_
  refine gcallA (i := fun hg => i1) (hr := ?_)
  refine goB ?_
  refine ifA (fun hq => ?_) (fun hq => ?_)
  · refine goB ?_
    exact Ret.bool rfl (by simp)
  refine goB ?_
  refine AWp.loop (J := fun i : Nat => i ≤ xs.length) (fun i => ⟨[(0, .lst (xs.map encR)), (3, .ptr 0 1 0 0), (5, .int i)], [bxN o s n tk tm tn ta ts l a]⟩) (fun i => xs.length - i) 0 (Nat.zero_le _) .wf ?_
  intro i hi
  refine goB ?_
  refine ifA (fun hd => ?_) (fun hd => ?_)
  · simp at hd
    have hi2 : i < xs.length := by omega
    have hidx : (xs.map encR)[i]? = some (encR xs[i]) := by rw [List.getElem?_map, List.getElem?_eq_getElem hi2]; rfl
    have i4 := i4 _ (List.getElem_mem hi2)
    generalize xs[i] = t at *
    obtain ⟨r, p, hs, sb, ot⟩ := t
    rw [encR] at hidx
    simp only at hidx i4
    refine goB ?_
    refine ARun.q1 rfl rfl (ql_indexAddr_lst rfl rfl Try.underlying52 (by omega) hidx (by kernel_rfl)) ?_
    refine goB ?_
    refine gqA (h := fun hg => ql_indexAddr_lst (by simp +decide only [go_sem] <;> rfl) (by simp +decide only [go_sem] <;> rfl) Try.underlying52 (by omega) hidx (by kernel_rfl)) (hr := ?_)
    refine goB ?_
    refine gqA (h := fun hg => ql_indexAddr_lst (by simp +decide only [go_sem] <;> rfl) (by simp +decide only [go_sem] <;> rfl) Try.underlying52 (by omega) hidx (by kernel_rfl)) (hr := ?_)
    refine goB ?_
    refine gcallA (i := fun hg => i4) (hr := ?_)
    refine goB ?_
    refine ifA (fun hq2 => ?_) (fun hq2 => ?_)
    · refine goB ?_
      exact Ret.bool rfl (by simp)
    refine goB ?_
    rw [wrap_succ (by omega)]
    exact ⟨i + 1, hi2, by omega, .wf⟩
  simp at hd
  refine goB ?_
  refine drA (k := 10) follows (hr := ?_)
  refine goB ?_
  refine callA (i2) ?_
  refine goB ?_
  refine callA (i3) ?_
  refine goB ?_
  refine gcallA (i := fun hg => i5) (hr := ?_)
  refine goB ?_
  exact Ret.bool rfl (by simp)
end Go.Ab
