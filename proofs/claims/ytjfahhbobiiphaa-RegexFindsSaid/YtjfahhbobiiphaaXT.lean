/- Part of the proof. -/
import Derived.Test.YtjfahhbobiiphaaXQ
import Derived.Test.YtjfahhbobiiphaaXP
set_option linter.unusedSimpArgs false
set_option linter.unusedVariables false
set_option maxHeartbeats 4000000
namespace Go.Ab
open Go Go.Ab Go.Proofs Go.Ab.Ty

theorem refFirst_ok {N : Nat} (hN : 1 ≤ N ∧ N ≤ 1000) (f : Tb) (a : Nat) (ha : a ≤ N) : Fn Try.prog 68 [tabD N f, .int a] (encF (findO f N (N - a))) := by
  refine Fn.intro' [(0, tabD N f), (1, .int a)] 2 22 Try.func68 (by kernel_rfl) rfl rfl rfl rfl rfl ?_
  refine goA ?_
  refine AWp.loopP (J := fun k : Nat => k ≤ N ∧ findO f N (N - a) = findO f N k) (fun k => [(6, .int (N - k : Nat)), (7, .bad)]) (fun k => k) (N - a) ⟨by omega, rfl⟩ (by rw [show N - (N - a) = a by omega]; exact .wk) ?_
  rintro k ⟨hk, he⟩
  refine goA ?_
  refine ifA (fun hd => ?_) (fun hd => ?_)
  · simp at hd
    obtain ⟨j, rfl⟩ : ∃ j, k = j + 1 := ⟨k - 1, by omega⟩
    have i1 := refLongest_ok hN f (N - (j + 1)) (by omega)
    rw [findO] at he
    refine goA ?_
    refine callA (i1) ?_
    refine goA ?_
    refine ifA (fun hq => ?_) (fun hq => ?_)
    · simp at hq
      rw [if_pos hq] at he
      have e2 : ((lastG (f (N - (j + 1))) (N - (j + 1)) N).toNat : Int) = lastG (f (N - (j + 1))) (N - (j + 1)) N := by omega
      refine goA ?_
      exact Ret.data rfl (by rw [he]; simp [packA, lk, encF, e2]) (Pu_encF _)
    simp at hq
    rw [if_neg (by omega)] at he
    refine goA ?_
    rw [wrap_succ (by omega), show N - (j + 1) + 1 = N - j by omega]
    exact ⟨j, ⟨by omega, he⟩, by omega, .wk⟩
  simp at hd
  obtain rfl : k = 0 := by omega
  refine goA ?_
  exact Ret.data rfl (by rw [he]; rfl) (Pu_encF _)
theorem allG_behind {f : Tb} {N : Nat} : ∀ {u at_ : Nat} {b1 b2 : Int}, b1 < at_ → b2 < at_ → allG f N u at_ b1 = allG f N u at_ b2
  | 0, _, _, _, _, _ => rfl
  | u + 1, at_, b1, b2, h1, h2 => by
    rw [allG, allG]
    split
    · rfl
    · rename_i a b he
      obtain ⟨e1, e2, _⟩ := findO_some (by omega) he
      split
      · rw [if_neg (by omega), if_neg (by omega), allG_behind (b1 := b1) (b2 := b2) (by omega) (by omega)]
      · rfl
open Classical in
noncomputable def finA (r : Rx) (s : ByteArray) : AV := if fit r s then .tup [.int (finI r s).1, .int (finI r s).2, .int 0] else .tup [.int 0, .int 0, .int 4]
theorem finA_t {r : Rx} {s : ByteArray} (h : fit r s) : finA r s = .tup [.int (finI r s).1, .int (finI r s).2, .int 0] := by unfold finA; rw [if_pos h]
theorem finA_f {r : Rx} {s : ByteArray} (h : ¬ fit r s) : finA r s = .tup [.int 0, .int 0, .int 4] := by unfold finA; rw [if_neg h]
theorem refFind_ok (r : Rx) (hok : r.ok) (s : ByteArray) : Fn Try.prog 30 [encX r, str s] (finA r s) := by
  have i1 := refValid_ok r hok
  have i2 := refText_ok s
  have i3 : fit r s → Fn Try.prog 61 [encX r, str s] (tabM s r) := fun h => refParts_ok r hok h.1.2 s (by have := h.2.1; omega)
  have i4 : fit r s → Fn Try.prog 68 [tabM s r, .int 0] (.tup [.int (finI r s).1, .int (finI r s).2]) := fun h => by
    have := refFirst_ok (N := s.size + 1) (by have := h.2.1; omega) (tb (M s r)) 0 (by omega)
    rw [encF_fI] at this
    exact this
  have hT := @finA_t r s
  have hF := @finA_f r s
  have hfit : fit r s ↔ r.valid ∧ isTx s := Iff.rfl
  obtain ⟨o, S, l⟩ := r
  rw [encX_mk] at i1 i3 ⊢
  refine Fn.intro' [(0, .agg [.int o, str S, .lst (l.map encX)]), (1, str s)] 2 26 Try.func30 (by kernel_rfl) rfl rfl rfl rfl rfl ?_
  refine goA ?_
  refine callA (i1) ?_
  refine goA ?_
  refine gcallA (i := fun hg => i2) (hr := ?_)
  refine goA ?_
  refine ifA (fun h => ?_) (fun h => ?_)
  · simp at h
    rw [hF (by rw [hfit]; grind)]
    refine goA ?_
    exact Ret.data rfl rfl (Pu_tup3 (.base _) (.base _) (.base _))
  simp at h
  have hfy := hfit.2 h
  rw [hT hfy]
  refine goA ?_
  refine callA ((i3 hfy)) ?_
  refine goA ?_
  refine callA ((i4 hfy)) ?_
  refine goA ?_
  exact Ret.data rfl rfl (Pu_tup3 (.base _) (.base _) (.base _))
theorem find_f {r : Rx} (hok : r.ok) (hc : r.cnt ≤ 1000000000) {s : ByteArray} (hf : ¬ fit r s) : Fn Try.prog 29 [encX r, str s] (.tup [.int 0, .int 0, .int 4]) := by
  have i1 := asked_ok r hok hc s
  rw [askA_f hf] at i1
  obtain ⟨o, S, l⟩ := r
  rw [encX_mk] at i1 ⊢
  refine Fn.intro' [(0, .agg [.int o, str S, .lst (l.map encX)]), (1, str s)] 2 25 Try.func29 (by kernel_rfl) rfl rfl rfl rfl rfl ?_
  refine goA ?_
  refine callA (i1) ?_
  refine goA ?_
  refine ifA (fun h => ?_) (fun h => ?_)
  · refine goA ?_
    exact Ret.data rfl rfl (Pu_tup3 (.base _) (.base _) (.base _))
  simp at h
theorem all_f {r : Rx} (hok : r.ok) (hc : r.cnt ≤ 1000000000) {s : ByteArray} (hf : ¬ fit r s) : Fn Try.prog 28 [encX r, str s] (.tup [.lst [], .int 4]) := by
  have i1 := asked_ok r hok hc s
  rw [askA_f hf] at i1
  obtain ⟨o, S, l⟩ := r
  rw [encX_mk] at i1 ⊢
  refine Fn.intro' [(0, .agg [.int o, str S, .lst (l.map encX)]), (1, str s)] 2 19 Try.func28 (by kernel_rfl) rfl rfl rfl rfl rfl ?_
  refine goA ?_
  refine callA (i1) ?_
  refine goA ?_
  refine ifA (fun h => ?_) (fun h => ?_)
  · refine goA ?_
    exact Ret.pub rfl (.tup' ⟨.nilS, .pu (.base _), trivial⟩)
  simp at h
theorem refAll_f {r : Rx} (hok : r.ok) {s : ByteArray} (hf : ¬ fit r s) : Fn Try.prog 31 [encX r, str s] (.tup [.lst [], .int 4]) := by
  have i1 := refValid_ok r hok
  have i2 := refText_ok s
  have hfit : fit r s ↔ r.valid ∧ isTx s := Iff.rfl
  obtain ⟨o, S, l⟩ := r
  rw [encX_mk] at i1 ⊢
  refine Fn.intro' [(0, .agg [.int o, str S, .lst (l.map encX)]), (1, str s)] 2 60 Try.func31 (by kernel_rfl) rfl rfl rfl rfl rfl ?_
  refine goA ?_
  refine callA (i1) ?_
  refine goA ?_
  refine gcallA (i := fun hg => i2) (hr := ?_)
  refine goA ?_
  refine ifA (fun h => ?_) (fun h => ?_)
  · refine goA ?_
    exact Ret.pub rfl (.tup' ⟨.nilS, .pu (.base _), trivial⟩)
  simp at h
  exact (hf (hfit.2 h)).elim
theorem refAll_t {r : Rx} (hok : r.ok) {s : ByteArray} (hf : fit r s) : Fn Try.prog 31 [encX r, str s] (.tup [.lst ((allL' r s).map encP), .int 0]) := by
  have i1 := refValid_ok r hok
  have i2 := refText_ok s
  have i3 : Fn Try.prog 61 [encX r, str s] (tabM s r) := refParts_ok r hok hf.1.2 s (by have := hf.2.1; omega)
  have h50 := hf.2.1
  have i4 : ∀ a : Nat, a ≤ s.size + 1 → Fn Try.prog 68 [tabM s r, .int a] (encF (findO (tb (M s r)) (s.size + 1) (s.size + 1 - a))) := fun a ha => refFirst_ok (by omega) (tb (M s r)) a ha
  obtain ⟨R, hR⟩ : ∃ R, R = allL' r s := ⟨_, rfl⟩
  rw [← hR]
  unfold allL' at hR
  have i1' : Fn Try.prog 27 [encX r] (.bool true) := by
    have h := i1
    rw [show @decide r.valid (Classical.propDecidable _) = true from @decide_eq_true _ (Classical.propDecidable _) hf.1] at h; exact h
  have i2' : Fn Try.prog 19 [str s] (.bool true) := by
    have h := i2
    rw [show @decide (isTx s) (Classical.propDecidable _) = true from @decide_eq_true _ (Classical.propDecidable _) hf.2] at h; exact h
  have hT := Pu_tabM s r
  generalize tabM s r = T at *
  generalize tb (M s r) = f at *
  obtain ⟨N, hN⟩ : ∃ N, N = s.size + 1 := ⟨_, rfl⟩
  rw [← hN] at i4 hR
  obtain ⟨o, S, l⟩ := r
  rw [encX_mk] at i1' i3 ⊢
  refine Fn.intro' [(0, .agg [.int o, str S, .lst (l.map encX)]), (1, str s)] 2 60 Try.func31 (by kernel_rfl) rfl rfl rfl rfl rfl ?_
  refine goA ?_
  refine callA (i1') ?_
  refine goA ?_
  refine gcallA (i := fun hg => i2') (hr := ?_)
  refine goA ?_
  refine ifA (fun h => ?_) (fun h => ?_)
  · simp at h
  refine goA ?_
  refine callA (i3) ?_
  refine goA ?_
  refine keA [1, 6, 7, 8, 9] ?_
  refine AWp.loop (J := fun x : Nat × Nat × Int × List (Nat × Nat) => N - x.2.1 < x.1 ∧ x.2.1 ≤ N ∧ x.2.2.1 ≤ x.2.1 ∧ x.1 + x.2.2.2.length ≤ N + 1 ∧ R = x.2.2.2 ++ allG f N x.1 x.2.1 x.2.2.1)
    (fun x => ⟨[(7, .own 1 x.2.2.2.length 0 x.2.2.2.length), (9, .int x.2.2.1), (8, .int x.2.1), (1, str s), (6, T)], [⟨24, 3, [.agg [.int o, str S, .lst (l.map encX)]]⟩, (⟨43, 2, x.2.2.2.map encP⟩ : ABlk)]⟩) (fun x => x.1) (N + 1, 0, -1, []) ⟨by simp only; omega, by simp only; omega, by simp only; omega, by simp, hR⟩ (.nil 43 2 (by simp [List.forall_mem_cons, lk, Le.refl])) ?_
  rintro ⟨u, at_, last, out⟩ ⟨hu, hat, hla, hol, he⟩
  simp only at hu hat hla hol he ⊢
  refine goA ?_
  refine ifA (fun hd => ?_) (fun hd => ?_)
  · simp at hd
    replace hd : at_ < N := by omega
    obtain ⟨v, rfl⟩ : ∃ v, u = v + 1 := ⟨u - 1, by omega⟩
    have i5 := i4 at_ (by omega)
    rw [allG] at he
    rcases hfo : findO f N (N - at_) with _ | ⟨a, b⟩
    · rw [hfo] at i5 he
      simp only [encF] at i5
      refine goA ?_
      refine ARun.q1 rfl rfl (ql_callC i5 rfl (by simp +decide only [go_sem] <;> rfl) (by simp +decide only [go_sem, List.map]) (by simp [hT])) ?_
      refine goA ?_
      refine ifA (fun h2 => ?_) (fun h2 => ?_)
      · refine goA ?_
        exact Ret.pub rfl (.tup' ⟨by rw [he, List.append_nil]; exact Pub.ownM (by decide) rfl rfl fun x _ => Pu_cP x, .pu (.base _), trivial⟩)
      simp at h2
    obtain ⟨h1, h2, h3, _, _⟩ := findO_some (by omega) hfo
    rw [hfo] at i5 he
    simp only [encF] at i5
    simp only at he
    have happ : (out ++ [(a, b)]).map encP = out.map encP ++ [encP (a, b)] := by simp
    have hln : (out ++ [(a, b)]).length = out.length + 1 := by simp
    refine goA ?_
    refine ARun.q1 rfl rfl (ql_callC i5 rfl (by simp +decide only [go_sem] <;> rfl) (by simp +decide only [go_sem, List.map]) (by simp [hT])) ?_
    refine goA ?_
    refine ifA (fun hneg => ?_) (fun hneg => ?_)
    · simp at hneg; omega
    refine goA ?_
    refine ifA (fun heq => ?_) (fun heq => ?_)
    · simp at heq
      obtain rfl : a = b := by omega
      rw [if_pos rfl, if_pos heq.2, List.nil_append] at he
      refine goA ?_
      rw [wrap_succ (by omega)]
      exact ⟨(v, a + 1, last, out), ⟨by simp only; omega, by simp only; omega, by simp only; omega, by simp only; omega, he⟩, by simp only; omega, .wk⟩
    simp at heq
    refine goA ?_
    refine ARun.q1 rfl rfl (ql_buildA (cs := [.int a, .int b]) Try.underlying43 sz3 zero43 (by simp only [placesA_2]; rfl)) ?_
    refine goA ?_
    refine bslA Try.underlying40 sz43 ?_
    refine goA ?_
    refine ARun.p1 rfl rfl (pl_append (b := 1) (tot := out.length) (es := [encP (a, b)]) (by simp +decide only [go_sem] <;> rfl) (by simp +decide only [go_sem] <;> rfl) (by simp +decide only [go_sem] <;> rfl) (by simp) Try.underlying40 el43 rfl rfl (by simp) (fun e he => by rw [List.mem_singleton] at he; subst he; exact ⟨rfl, rfl⟩) (by simp; omega) (by simp; omega)) ?_
    refine goA ?_
    refine ifA (fun hab => ?_) (fun hab => ?_)
    · simp at hab
      obtain rfl : a = b := by omega
      rw [if_pos rfl, if_neg (heq rfl), allG_behind (b1 := last) (b2 := -1) (by omega) (by omega)] at he
      refine goA ?_
      rw [wrap_succ (by omega)]
      refine ⟨(v, a + 1, -1, out ++ [(a, a)]), ⟨by simp only; omega, by simp only; omega, by simp only; omega, by simp only; rw [hln]; omega, by rw [he]; simp⟩, by simp only; omega, ?_⟩
      simp only [hln, happ]
      exact .wk
    simp at hab
    rw [if_neg (by omega)] at he
    refine goA ?_
    refine ⟨(v, b, (b : Int), out ++ [(a, b)]), ⟨by simp only; omega, by simp only; omega, by simp only; omega, by simp only; rw [hln]; omega, by rw [he]; simp⟩, by simp only; omega, ?_⟩
    simp only [hln, happ]
    exact .wk
  simp at hd
  have : allG f N u at_ last = [] := by
    cases u with
    | zero => rfl
    | succ u => rw [allG, show N - at_ = 0 by omega]; rfl
  rw [this, List.append_nil] at he
  refine goA ?_
  exact Ret.pub rfl (.tup' ⟨by rw [he]; exact Pub.ownM (by decide) rfl rfl fun x _ => Pu_cP x, .pu (.base _), trivial⟩)
end Go.Ab
set_option maxHeartbeats 4000000
namespace Go.Ab
open Go Go.Ab Go.Proofs Go.Ab.Ty Go.RowKit
section
variable {P : Program} {H : List ABlk} {ρ : Operand → AV}
theorem ql_ne_arr {t el yt : TypeId} {x y : Operand} {n : Nat} {k' : IntKind} {la lb : List Int} (hx : ρ x = .agg (la.map AV.int)) (hy : ρ y = .agg (lb.map AV.int)) (ht : P.underlying t = some (.array n el))
    (hel : P.underlying el = some (.int k')) (hsz : szTy P el = some 1) (ha : aggTy P el = some false) (hl : la.length = n) (hl' : lb.length = n) (hg : P.eqGuardType P.depth t = false) : QL P H ρ (.binOp .neq t x y yt) (.bool (!decide (la = lb))) := by
  refine QL.of_run fun w0 O ι A w hs hv o ho => ?_
  have h1 := hv x (by simp [Op.operands])
  have h2 := hv y (by simp [Op.operands])
  rw [hx] at h1; rw [hy] at h2
  obtain ⟨xs, e1, h3, h4⟩ := h1.agg_inv
  obtain ⟨ys, e2, h5, h6⟩ := h2.agg_inv
  obtain ⟨i, hi⟩ : ∃ i, P.info? el = some i := by
    unfold szTy at hsz
    cases h : P.info? el with
    | none => simp [h] at hsz
    | some i => exact ⟨i, rfl⟩
  have hc : P.cellsOf el = 1 := by
    unfold szTy at hsz
    simp [hi] at hsz
    simp [Program.cellsOf, hi, hsz]
  have hr := eqItems_run (w := w) hel hsz ha h3 h4 h5 h6 (by omega) 9998 n 0 (by omega)
  rw [← List.range_eq_range'] at hr
  have he : (Op.equal t (.agg xs) (.agg ys)).run P w = .ok (decide (la = lb)) w := by
    show (Op.equalIn (9999 + 1) t (.agg xs) (.agg ys)).run P w = _
    rw [run_equalIn_array w 9999 xs ys ht hi, hc, hr]
    simp
  have hgr : (eqGuard .neq t x y (.agg xs) (.agg ys)).run P w = .ok () w := by
    simp [eqGuard, hg]
  exact ⟨.bool (!decide (la = lb)), by simp only [execOp, ho, e1, e2, Sem.run_bind, hgr, Result.andThen_ok, binOp, he, Sem.run_pure], .base _⟩
end
attribute [local go_sem] List.length_map
open Classical in
theorem equal_ok (a b : List (Nat × Nat)) (ha : a.length ≤ 1000000) : Fn Try.prog 34 [.lst (a.map encP), .lst (b.map encP)] (.bool (decide (a = b))) := by
  refine Fn.intro' [(0, .lst (a.map encP)), (1, .lst (b.map encP))] 2 26 Try.func34 (by kernel_rfl) rfl rfl rfl rfl rfl ?_
  refine goB ?_
  refine ifA (fun hl => ?_) (fun hl => ?_)
  · simp at hl
    refine goB ?_
    exact Ret.ff rfl (fun h => hl (by rw [h]))
  simp at hl
  have hl : a.length = b.length := by omega
  refine goB ?_
  refine AWp.loopP (J := fun k : Nat => k ≤ a.length ∧ ∀ i, i < k → a[i]? = b[i]?) (fun k => [(5, .int k)]) (fun k => a.length - k) 0 ⟨Nat.zero_le _, fun i h => by omega⟩ .wk ?_
  rintro k ⟨hk, he⟩
  refine goB ?_
  refine ifA (fun hd => ?_) (fun hd => ?_)
  · simp at hd
    have hkb : k < b.length := by omega
    refine goB ?_
    refine drA (k := 9) follows (hr := ?_)
    refine goB ?_
    refine ARun.q1 rfl rfl (ql_ne_arr (la := [(nth default a k).1, (nth default a k).2]) (lb := [(nth default b k).1, (nth default b k).2]) (by simp +decide only [go_sem] <;> rfl) (by simp +decide only [go_sem] <;> rfl) Try.underlying43 Try.underlying3 (by kernel_rfl) (by kernel_rfl) rfl rfl (by kernel_rfl)) ?_
    refine goB ?_
    have ea : a[k]? = some (nth default a k) := by rw [nth_eq hd, List.getElem?_eq_getElem hd]
    have eb : b[k]? = some (nth default b k) := by rw [nth_eq hkb, List.getElem?_eq_getElem hkb]
    generalize nth default a k = x at *
    generalize nth default b k = y at *
    refine ifA (fun hq => ?_) (fun hq => ?_)
    · simp at hq
      refine goB ?_
      exact Ret.ff rfl (fun h => by
        rw [h, eb] at ea; injection ea with ea; subst ea
        simp at hq)
    · simp at hq
      refine goB ?_
      rw [wrap_succ (by omega)]
      refine ⟨k + 1, ⟨by omega, fun i hi => ?_⟩, by omega, .wk⟩
      by_cases e : i = k
      · subst e
        rw [ea, eb]
        obtain ⟨x1, x2⟩ := x
        obtain ⟨y1, y2⟩ := y
        simp at hq
        simp; omega
      · exact he i (by omega)
  simp at hd
  refine goB ?_
  exact Ret.tt rfl (List.ext_getElem? fun i => by
    rcases Nat.lt_or_ge i a.length with h | h
    · exact he i (by omega)
    · rw [List.getElem?_eq_none h, List.getElem?_eq_none (by omega)])
end Go.Ab
