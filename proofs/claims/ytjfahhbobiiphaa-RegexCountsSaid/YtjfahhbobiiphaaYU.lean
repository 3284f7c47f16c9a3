/- Part of the proof. -/
import Derived.Test.YtjfahhbobiiphaaYP
import Derived.Test.YtjfahhbobiiphaaYT
import Derived.Test.YtjfahhbobiiphaaAbP
set_option linter.unusedSimpArgs false
set_option linter.unusedVariables false
set_option maxHeartbeats 4000000
namespace Go.Ab
open Go Go.Ab Go.Proofs Go.Ab.Ty

theorem mem_take_q {l : List Rx} {k : Nat} (h : k < l.length) {x : Rx} : x ∈ l.take (k + 1) ↔ x ∈ l.take k ∨ x = l[k] := by
  rw [List.take_succ_eq_append_getElem h, List.mem_append, List.mem_singleton]
open Classical in
theorem looseQ_ok (r : Rx) (hok : r.ok) : Fn Try.prog 37 [encX r] (.bool (decide (¬ r.tight))) := by
  induction r using Rx.ind with
  | h o s l ih =>
  obtain ⟨hs, hn, hl⟩ := ok_sub hok
  unfold maxLen at hn
  rw [encX_mk]
  refine Fn.intro' [(0, .agg [.int o, str s, .lst (l.map encX)])] 1 25 Try.func37 (by kernel_rfl) rfl rfl rfl rfl rfl ?_
  refine goB ?_
  refine ifA (fun h1 => ?_) (fun h1 => ?_)
  · refine goB ?_
    refine Ret.tt rfl (fun h => ?_)
    have := tight_sub.1 h
    simp at h1
    omega
  simp at h1
  refine goB ?_
  refine AWp.loopP (J := fun k : Nat => k ≤ l.length ∧ ∀ x ∈ l.take k, x.tight) (fun k => [(3, .int k)]) (fun k => l.length - k) 0 ⟨Nat.zero_le _, by simp⟩ .wk ?_
  rintro k ⟨hk, he⟩
  refine goB ?_
  refine ifA (fun hd => ?_) (fun hd => ?_)
  · have hd := of_decide_eq_true hd
    have hk2 : k < l.length := by omega
    have i1 := ih _ (List.getElem_mem hk2) (hl _ (List.getElem_mem hk2))
    have hms := fun x => mem_take_q (x := x) hk2
    have hm := List.getElem_mem hk2
    rcases hx : l[k] with ⟨o1, s1, l1⟩
    rw [hx] at i1 hms hm
    rw [encX_mk] at i1
    refine goA ?_
    refine ARun.q1 rfl rfl (ql_indexAddr_lst rfl rfl Try.underlying22 (by omega) (e := .agg [.int o1, str s1, .lst (l1.map encX)]) (by simp [hk2, hx, encX_mk]) (by kernel_rfl)) ?_
    refine goA ?_
    refine callA (i1) ?_
    refine goB ?_
    refine ifA (fun h2 => ?_) (fun h2 => ?_)
    · have h2 := of_decide_eq_true h2
      refine goB ?_
      exact Ret.tt rfl (fun h => h2 ((tight_sub.1 h).2.2 _ hm))
    · have h2 : (Rx.mk o1 s1 l1).tight := by simpa using h2
      refine goB ?_
      rw [wrap_succ (by omega)]
      refine ⟨k + 1, ⟨by omega, fun x hx => ?_⟩, by omega, .wk⟩
      rcases (hms x).1 hx with h | rfl
      · exact he x h
      · exact h2
  have hd := of_decide_eq_false hd
  obtain rfl : k = l.length := by omega
  rw [List.take_length] at he
  refine goB ?_
  exact Ret.ff rfl (fun h => h (tight_sub.2 ⟨by omega, by omega, he⟩))
open Classical in
theorem nested_ok (r : Rx) (hok : r.ok) : Fn Try.prog 83 [encX r] (.bool (decide (¬ r.flat))) := by
  induction r using Rx.ind with
  | h o s l ih =>
  obtain ⟨hs, hn, hl⟩ := ok_sub hok
  have ih2 := fun x hx => looseQ_ok x (hl x hx)
  unfold maxLen at hn
  rw [encX_mk]
  refine Fn.intro' [(0, .agg [.int o, str s, .lst (l.map encX)])] 1 35 Try.func83 (by kernel_rfl) rfl rfl rfl rfl rfl ?_
  refine goB ?_
  refine AWp.loopP (J := fun k : Nat => k ≤ l.length ∧ ∀ x ∈ l.take k, ((o = 4 ∨ o = 6) → x.tight) ∧ x.flat) (fun k => [(3, .int k)]) (fun k => l.length - k) 0 ⟨Nat.zero_le _, by simp⟩ .wk ?_
  rintro k ⟨hk, he⟩
  refine goB ?_
  refine ifA (fun hd => ?_) (fun hd => ?_)
  · have hd := of_decide_eq_true hd
    have hk2 : k < l.length := by omega
    have i1 := ih _ (List.getElem_mem hk2) (hl _ (List.getElem_mem hk2))
    have i2 := ih2 _ (List.getElem_mem hk2)
    have hms := fun x => mem_take_q (x := x) hk2
    have hm := List.getElem_mem hk2
    rcases hx : l[k] with ⟨o1, s1, l1⟩
    rw [hx] at i1 i2 hms hm
    rw [encX_mk] at i1 i2
    refine goA ?_
    refine gqA (h := fun hg => ql_indexAddr_lst (by simp +decide only [go_sem] <;> rfl) (by simp +decide only [go_sem] <;> rfl) Try.underlying22 (by omega) (e := .agg [.int o1, str s1, .lst (l1.map encX)]) (by simp [hk2, hx, encX_mk]) (by kernel_rfl)) (hr := ?_)
    refine goA ?_
    refine gcallA (i := fun hg => i2) (hr := ?_)
    refine goA ?_
    refine gqA (h := fun hg => ql_indexAddr_lst (by simp +decide only [go_sem] <;> rfl) (by simp +decide only [go_sem] <;> rfl) Try.underlying22 (by omega) (e := .agg [.int o1, str s1, .lst (l1.map encX)]) (by simp [hk2, hx, encX_mk]) (by kernel_rfl)) (hr := ?_)
    refine goA ?_
    refine gcallA (i := fun hg => i1) (hr := ?_)
    refine goA ?_
    refine ifA (fun hq => ?_) (fun hq => ?_)
    · refine goB ?_
      refine Ret.tt rfl (fun h => ?_)
      obtain ⟨f1, f2⟩ := flat_sub.1 h
      have f2 := f2 _ hm
      have f3 := fun e => f1 e _ hm
      simp at hq
      rcases hq with ⟨hq1, hq2⟩ | hq2
      · exact hq2 (f3 hq1)
      · exact hq2 f2
    · refine goB ?_
      rw [wrap_succ (by omega)]
      simp at hq
      refine ⟨k + 1, ⟨by omega, fun x hx => ?_⟩, by omega, .wk⟩
      rcases (hms x).1 hx with hx | rfl
      · exact he x hx
      · exact ⟨fun e => hq.1 e, hq.2⟩
  have hd := of_decide_eq_false hd
  obtain rfl : k = l.length := by omega
  rw [List.take_length] at he
  refine goB ?_
  exact Ret.ff rfl (fun h => h (flat_sub.2 ⟨fun e x hx => (he x hx).1 e, fun x hx => (he x hx).2⟩))
end Go.Ab
set_option maxHeartbeats 4000000
namespace Go.Ab
open Go Go.Ab Go.Proofs Go.Ab.Ty

def Rx.fixed (r : Rx) : Prop := r.cnt ≤ 14 ∧ r.flat
open Classical in
theorem fixed_ok (r : Rx) (hok : r.ok) (hv : r.valid) : Fn Try.prog 44 [encX r] (.bool (decide r.fixed)) := by
  have i1 := refSize_ok r 1 hok (by omega)
  have i2 := nested_ok r hok
  have hsz : szR r 1 = (r.cnt, r.dep) := by
    rcases szR_spec r 1 (by omega) (by omega) with ⟨h1, h2, h3⟩ | ⟨h1, h2⟩
    · rw [h3]; congr 1; omega
    · exact absurd ⟨hv.1.1, by have := hv.1.2; omega⟩ h1
  rw [hsz] at i1
  unfold Rx.fixed
  obtain ⟨o, s, l⟩ := r
  rw [encX_mk] at *
  refine Fn.intro' [(0, .agg [.int o, str s, .lst (l.map encX)])] 1 17 Try.func44 (by kernel_rfl) rfl rfl rfl rfl rfl ?_
  unfold encSz at i1
  refine goB ?_
  refine callA (i1) ?_
  refine goB ?_
  refine gcallA (i := fun hg => i2) (hr := ?_)
  refine goB ?_
  refine Ret.bool rfl ?_
  simp
  intro _
  omega
end Go.Ab
set_option maxHeartbeats 4000000
namespace Go.Ab
open Go Go.Ab Go.Proofs Go.Ab.Ty

abbrev stS (l : List ByteArray) : ABlk := ⟨9, 1, l.map str⟩
theorem PuBl_stS (l : List ByteArray) : PuBl [stS l] := .cons (PuB_chB l) .nil
theorem setsRs_take {l : List Rx} {k : Nat} (h : k < l.length) : setsRs (l.take (k + 1)) = setsRs (l.take k) ++ setsR l[k] := by
  have : ∀ (a b : List Rx), setsRs (a ++ b) = setsRs a ++ setsRs b := by
    intro a b
    induction a with
    | nil => rfl
    | cons x a ih => rw [List.cons_append, setsRs, setsRs, ih, List.append_assoc]
  rw [List.take_succ_eq_append_getElem h, this, setsRs, setsRs, List.append_nil]
theorem setsR_len (r : Rx) : (setsR r).length ≤ r.cnt := by
  induction r using Rx.ind with
  | h o s l ih =>
  have : ∀ l : List Rx, (∀ x ∈ l, (setsR x).length ≤ x.cnt) → (setsRs l).length ≤ cnts l := by
    intro l
    induction l with
    | nil => intro _; simp [setsRs]
    | cons x l ih2 =>
      intro h
      have h1 := h x (by simp)
      have h2 := ih2 fun y hy => h y (by simp [hy])
      rw [setsRs, cnts, List.length_append]; omega
  have := this l ih
  rw [setsR, cnt_mk, List.length_append]
  split <;> simp <;> omega
theorem cnts_tk {l : List Rx} {k : Nat} (h : k < l.length) : cnts (l.take k) + (l[k]).cnt ≤ cnts l := by
  induction l generalizing k with
  | nil => simp at h
  | cons x l ih =>
    cases k with
    | zero => simp [cnts]
    | succ k =>
      have := ih (k := k) (by simpa using h)
      simp only [List.take_succ_cons, List.getElem_cons_succ, cnts]; omega
theorem setsRs_len : ∀ l : List Rx, (setsRs l).length ≤ cnts l
  | [] => by simp [setsRs]
  | x :: l => by
    have h1 := setsR_len x
    have h2 := setsRs_len l
    rw [setsRs, cnts, List.length_append]; omega
theorem sets_ok (r : Rx) (hok : r.ok) : ∀ L : List ByteArray, L.length + r.cnt ≤ 1000 → FnH Try.prog 85 [encX r, .own 0 L.length 0 L.length] [stS L] (.own 0 (L ++ setsR r).length 0 (L ++ setsR r).length) [stS (L ++ setsR r)] := by
  induction r using Rx.ind with
  | h o s l ih =>
  intro L hL
  obtain ⟨hs, hn, hl⟩ := ok_sub hok
  unfold maxLen at hn
  rw [encX_mk]
  refine FnH.intro' [(0, .agg [.int o, str s, .lst (l.map encX)]), (1, .own 0 L.length 0 L.length)] 2 29 1 Try.func85 (by kernel_rfl) rfl rfl rfl rfl rfl rfl ?_
  rw [cnt_mk] at hL
  refine goD ?_
  obtain ⟨L1, hL1⟩ : ∃ L1, L1 = L ++ (if o = 3 then [s] else []) := ⟨_, rfl⟩
  have hL1l : L1.length ≤ L.length + 1 := by rw [hL1, List.length_append]; split <;> simp
  refine AWp.join ⟨[(1, .own 0 L1.length 0 L1.length), (2, .ptr 1 1 0 0)], [stS L1, boxX o s l]⟩ ?_ ?_
  · refine ifA (fun h3 => ?_) (fun h3 => ?_)
    · simp at h3
      rw [if_pos h3] at hL1
      refine goD ?_
      refine ARun.p1 rfl rfl (pl_append (b := 0) (tot := L.length) (es := [str s]) (by simp +decide only [go_sem] <;> rfl) (by simp +decide only [go_sem] <;> rfl) rfl (by simp) Try.underlying50 el9 rfl rfl (by simp) (fun e he => by rw [List.mem_singleton] at he; subst he; exact ⟨rfl, rfl⟩) (by simp; omega) (by simp; omega)) ?_
      rw [show L.map str ++ [str s] = L1.map str by rw [hL1, List.map_append]; rfl]
      refine goD ?_
      rw [hL1, List.length_append]
      exact .wf
    · simp at h3
      rw [if_neg h3, List.append_nil] at hL1
      subst hL1
      refine goD ?_
      exact .wf
  · have hres : L ++ setsR (.mk o s l) = L1 ++ setsRs l := by rw [setsR, hL1, List.append_assoc]
    rw [hres]
    clear hres hL1
    refine goD ?_
    refine AWp.loop (J := fun k : Nat => k ≤ l.length) (fun k => ⟨[(1, .own 0 (L1 ++ setsRs (l.take k)).length 0 (L1 ++ setsRs (l.take k)).length), (2, .ptr 1 1 0 0), (5, .int k)], [stS (L1 ++ setsRs (l.take k)), boxX o s l]⟩) (fun k => l.length - k) 0 (Nat.zero_le _) (by simp only [List.take_zero, setsRs, List.append_nil]; exact .wf) ?_
    intro k hk
    refine goD ?_
    refine ifA (fun hd => ?_) (fun hd => ?_)
    · have hd := of_decide_eq_true hd
      have hk2 : k < l.length := by omega
      have hc := cnts_tk hk2
      have h1 := setsRs_len (l.take k)
      have h2 := setsR_len l[k]
      have hst := setsRs_take hk2
      have hml : (L1 ++ setsRs (l.take k)).length ≤ L1.length + cnts (l.take k) := by rw [List.length_append]; omega
      have i1 := ih _ (List.getElem_mem hk2) (hl _ (List.getElem_mem hk2)) (L1 ++ setsRs (l.take k)) (by omega)
      rw [List.append_assoc, ← hst] at i1
      have hml2 : (L1 ++ setsRs (l.take (k + 1))).length ≤ 2000 := by rw [hst, ← List.append_assoc, List.length_append]; omega
      generalize L1 ++ setsRs (l.take k) = A at *
      generalize hB : L1 ++ setsRs (l.take (k + 1)) = B at *
      rcases hx : l[k] with ⟨o1, s1, l1⟩
      rw [hx, encX_mk] at i1
      refine goC ?_
      refine ARun.q1 rfl rfl (ql_indexAddr_lst (by simp +decide only [go_sem] <;> rfl) (by simp +decide only [go_sem] <;> rfl) Try.underlying22 (by omega) (e := .agg [.int o1, str s1, .lst (l1.map encX)]) (by simp [hk2, hx, encX_mk]) (by kernel_rfl)) ?_
      refine goD ?_
      refine ARun.p1 rfl rfl (pl_callH (e := [0]) (d' := .own 0 B.length 0 B.length) i1 (CallE.put1 (b := 0) rfl (PuBl_stS _) (PuBl_stS _)) rfl (by simp +decide only [go_sem] <;> rfl) (by simp +decide only [go_sem, List.map]; exact ⟨.pu (by simp), .own rfl, trivial⟩) (.own rfl)) ?_
      refine goD ?_
      rw [wrap_succ (by omega)]
      refine ⟨k + 1, by omega, by omega, ?_⟩
      rw [hB]
      exact .wf
    have hd := of_decide_eq_false hd
    obtain rfl : k = l.length := by omega
    rw [List.take_length]
    refine goD ?_
    exact RetH.of (vs := [.own 0 (L1 ++ setsRs l).length 0 (L1 ++ setsRs l).length]) [0] (by kernel_rfl) (by decide) (fun b hb => selG b hb) ⟨⟨_, rfl, .pu (PuB_chB _)⟩, trivial⟩ (.own (by decide))
theorem sets0_ok (r : Rx) (hok : r.ok) (hL : r.cnt ≤ 900) : Fn Try.prog 85 [encX r, .base (.slice none 0 0)] (.lst ((setsR r).map str)) := by
  have ih := fun (x : Rx) (hx : x.ok) => sets_ok x hx
  obtain ⟨o, s, l⟩ := r
  obtain ⟨L, hL0⟩ : ∃ L : List ByteArray, L = [] := ⟨_, rfl⟩
  have hLl : L.length = 0 := by rw [hL0]; rfl
  obtain ⟨hs, hn, hl⟩ := ok_sub hok
  unfold maxLen at hn
  rw [encX_mk]
  refine Fn.intro' [(0, .agg [.int o, str s, .lst (l.map encX)]), (1, .base (.slice none 0 0))] 2 29 Try.func85 (by kernel_rfl) rfl rfl rfl rfl rfl ?_
  rw [cnt_mk] at hL
  refine AWp.weaken (Wk.nil (E2 := [(0, .agg [.int o, str s, .lst (l.map encX)]), (1, .own 0 0 0 0)]) 9 1 (by intro p hp; simp only [List.mem_cons, List.not_mem_nil, or_false] at hp; rcases hp with rfl | rfl; exact .inl (Le.refl _); exact .inr ⟨rfl, rfl⟩)) ?_
  rw [show (.own 0 0 0 0 : AV) = .own 0 L.length 0 L.length by rw [hLl], show ([] ++ [⟨9, 1, []⟩] : List ABlk) = [stS L] by rw [hL0]; rfl]
  refine goD ?_
  obtain ⟨L1, hL1⟩ : ∃ L1, L1 = L ++ (if o = 3 then [s] else []) := ⟨_, rfl⟩
  have hL1l : L1.length ≤ L.length + 1 := by rw [hL1, List.length_append]; split <;> simp
  refine AWp.join ⟨[(1, .own 0 L1.length 0 L1.length), (2, .ptr 1 1 0 0)], [stS L1, boxX o s l]⟩ ?_ ?_
  · refine ifA (fun h3 => ?_) (fun h3 => ?_)
    · simp at h3
      rw [if_pos h3] at hL1
      refine goD ?_
      refine ARun.p1 rfl rfl (pl_append (b := 0) (tot := L.length) (es := [str s]) (by simp +decide only [go_sem] <;> rfl) (by simp +decide only [go_sem] <;> rfl) rfl (by simp) Try.underlying50 el9 rfl rfl (by simp) (fun e he => by rw [List.mem_singleton] at he; subst he; exact ⟨rfl, rfl⟩) (by simp; omega) (by simp; omega)) ?_
      rw [show L.map str ++ [str s] = L1.map str by rw [hL1, List.map_append]; rfl]
      refine goD ?_
      rw [hL1, List.length_append]
      exact .wf
    · simp at h3
      rw [if_neg h3, List.append_nil] at hL1
      subst hL1
      refine goD ?_
      exact .wf
  · have hres : setsR (.mk o s l) = L1 ++ setsRs l := by rw [setsR, hL1, hL0, List.nil_append]
    rw [hres]
    clear hres hL1
    refine goD ?_
    refine AWp.loop (J := fun k : Nat => k ≤ l.length) (fun k => ⟨[(1, .own 0 (L1 ++ setsRs (l.take k)).length 0 (L1 ++ setsRs (l.take k)).length), (2, .ptr 1 1 0 0), (5, .int k)], [stS (L1 ++ setsRs (l.take k)), boxX o s l]⟩) (fun k => l.length - k) 0 (Nat.zero_le _) (by simp only [List.take_zero, setsRs, List.append_nil]; exact .wf) ?_
    intro k hk
    refine goD ?_
    refine ifA (fun hd => ?_) (fun hd => ?_)
    · have hd := of_decide_eq_true hd
      have hk2 : k < l.length := by omega
      have hc := cnts_tk hk2
      have h1 := setsRs_len (l.take k)
      have h2 := setsR_len l[k]
      have hst := setsRs_take hk2
      have hml : (L1 ++ setsRs (l.take k)).length ≤ L1.length + cnts (l.take k) := by rw [List.length_append]; omega
      have i1 := ih _ (hl _ (List.getElem_mem hk2)) (L1 ++ setsRs (l.take k)) (by omega)
      rw [List.append_assoc, ← hst] at i1
      have hml2 : (L1 ++ setsRs (l.take (k + 1))).length ≤ 2000 := by rw [hst, ← List.append_assoc, List.length_append]; omega
      generalize L1 ++ setsRs (l.take k) = A at *
      generalize hB : L1 ++ setsRs (l.take (k + 1)) = B at *
      rcases hx : l[k] with ⟨o1, s1, l1⟩
      rw [hx, encX_mk] at i1
      refine goC ?_
      refine ARun.q1 rfl rfl (ql_indexAddr_lst (by simp +decide only [go_sem] <;> rfl) (by simp +decide only [go_sem] <;> rfl) Try.underlying22 (by omega) (e := .agg [.int o1, str s1, .lst (l1.map encX)]) (by simp [hk2, hx, encX_mk]) (by kernel_rfl)) ?_
      refine goD ?_
      refine ARun.p1 rfl rfl (pl_callH (e := [0]) (d' := .own 0 B.length 0 B.length) i1 (CallE.put1 (b := 0) rfl (PuBl_stS _) (PuBl_stS _)) rfl (by simp +decide only [go_sem] <;> rfl) (by simp +decide only [go_sem, List.map]; exact ⟨.pu (by simp), .own rfl, trivial⟩) (.own rfl)) ?_
      refine goD ?_
      rw [wrap_succ (by omega)]
      refine ⟨k + 1, by omega, by omega, ?_⟩
      rw [hB]
      exact .wf
    have hd := of_decide_eq_false hd
    obtain rfl : k = l.length := by omega
    rw [List.take_length]
    refine goD ?_
    exact Ret.pub (vs := [.own 0 (L1 ++ setsRs l).length 0 (L1 ++ setsRs l).length]) (by kernel_rfl) (PubR.ownM (f := str) (l := L1 ++ setsRs l) (pre_ge (Nat.zero_le _)) rfl rfl Pu_strs)
end Go.Ab
