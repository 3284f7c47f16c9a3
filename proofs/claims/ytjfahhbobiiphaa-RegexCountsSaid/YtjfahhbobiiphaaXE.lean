/- Part of the proof. -/
import Derived.Test.YtjfahhbobiiphaaXD
set_option linter.unusedSimpArgs false
set_option linter.unusedVariables false
set_option maxHeartbeats 4000000
namespace Go.Ab
open Go Go.Ab Go.Proofs Go.Ab.Ty

inductive Rx.wf : Rx → Prop
  | mk (o : Int) (s : ByteArray) (l : List Rx) (h : nodeOk o s l.length) (hl : ∀ x ∈ l, Rx.wf x) : Rx.wf (.mk o s l)
theorem wf_sub {o : Int} {s : ByteArray} {l : List Rx} : (Rx.mk o s l).wf ↔ nodeOk o s l.length ∧ ∀ x ∈ l, x.wf :=
  ⟨fun | .mk _ _ _ h1 h2 => ⟨h1, h2⟩, fun ⟨h1, h2⟩ => .mk _ _ _ h1 h2⟩
open Classical in
theorem all_ok (r : Rx) (hok : r.ok) : Fn Try.prog 65 [encX r] (.bool (decide r.wf)) := by
  induction r using Rx.ind with
  | h o s l ih =>
  obtain ⟨hs, hn, hl⟩ := ok_sub hok
  have hnode := node_ok o s l hs hn
  unfold maxLen at hs hn
  rw [encX_mk]
  refine Fn.intro' [(0, .agg [.int o, str s, .lst (l.map encX)])] 1 21 Try.func65 (by kernel_rfl) rfl rfl rfl rfl rfl ?_
  refine goB ?_
  refine callA (hnode) ?_
  refine goB ?_
  refine ifA (fun h1 => ?_) (fun h1 => ?_)
  · simp at h1
    refine goB ?_
    exact Ret.ff rfl (by rw [wf_sub]; exact fun h => h1 h.1)
  simp at h1
  refine goB ?_
  refine AWp.loopP (J := fun k : Nat => k ≤ l.length ∧ ∀ i, ∀ h : i < l.length, i < k → (l[i]).wf) (fun k => [(3, .int k)]) (fun k => l.length - k) 0 ⟨Nat.zero_le _, fun i h h' => by omega⟩ .wk ?_
  rintro k ⟨hk, he⟩
  refine goB ?_
  refine ifA (fun hd => ?_) (fun hd => ?_)
  · simp at hd
    refine goB ?_
    have hm : l[k] ∈ l := List.getElem_mem _
    rcases hx : l[k] with ⟨o1, s1, l1⟩
    have ih1 := ih _ hm (hl _ hm)
    rw [hx, encX_mk] at ih1
    refine ARun.q1 rfl rfl (ql_indexAddr_lst rfl rfl Try.underlying22 (by omega) (e := .agg [.int o1, str s1, .lst (l1.map encX)]) (by simp [hd, hx, encX_mk]) (by kernel_rfl)) ?_
    refine goB ?_
    refine callA (ih1) ?_
    refine goB ?_
    refine ifA (fun hq => ?_) (fun hq => ?_)
    · simp at hq
      refine goB ?_
      exact Ret.ff rfl (by rw [wf_sub]; exact fun h => hq (hx ▸ h.2 _ hm))
    · simp at hq
      refine goB ?_
      rw [wrap_succ (by omega)]
      refine ⟨k + 1, ⟨by omega, fun i h hi => ?_⟩, by omega, .wk⟩
      by_cases e : i = k
      · subst e; rw [hx]; exact hq
      · exact he i h (by omega)
  simp at hd
  refine goB ?_
  exact Ret.tt rfl (by rw [wf_sub]; exact ⟨h1, fun x hx => by obtain ⟨i, hi, rfl⟩ := List.mem_iff_getElem.1 hx; exact he i hi (by omega)⟩)

mutual
def Rx.dep : Rx → Nat
  | .mk _ _ l => deps l + 1
def deps : List Rx → Nat
  | [] => 0
  | r :: l => max r.dep (deps l)
end
theorem Rx.dep_pos : ∀ r : Rx, 1 ≤ r.dep
  | .mk _ _ _ => by rw [Rx.dep]; omega
theorem dep_le_cnt (r : Rx) : r.dep ≤ r.cnt := by
  induction r using Rx.ind with
  | h o s l ih =>
  rw [Rx.dep, Rx.cnt]
  suffices ∀ L : List Rx, (∀ x ∈ L, x.dep ≤ x.cnt) → deps L ≤ cnts L by have := this l ih; omega
  intro L
  induction L with
  | nil => intro _; simp [deps]
  | cons r L ih2 =>
    intro h
    have := h r (by simp)
    have := ih2 fun x hx => h x (by simp [hx])
    simp only [deps, cnts]; omega
def Rx.fits (r : Rx) : Prop := r.cnt ≤ 60 ∧ r.dep ≤ 12
theorem szL_gt : ∀ (l : List Rx) (v : Nat) (a : Nat × Nat), a.1 ≤ (szL l v a).1 ∧ a.2 ≤ (szL l v a).2
  | [], v, a => by simp [szL]
  | r :: l, v, a => by
    rw [szL]
    split
    · have := szL_gt l v (a.1 + (szR r (v + 1)).1, max a.2 (szR r (v + 1)).2)
      simp only at this; omega
    · simp
theorem szR_spec (r : Rx) : ∀ v : Nat, 1 ≤ v → v ≤ 13 → (r.cnt ≤ 60 ∧ v + r.dep ≤ 13 ∧ szR r v = (r.cnt, v + r.dep - 1)) ∨ (¬ (r.cnt ≤ 60 ∧ v + r.dep ≤ 13) ∧ ¬ ((szR r v).1 ≤ 60 ∧ (szR r v).2 ≤ 12)) := by
  induction r using Rx.ind with
  | h o s l ih =>
  intro v hv1 hv
  rw [szR, Rx.cnt, Rx.dep]
  suffices ∀ (L : List Rx), (∀ x ∈ L, ∀ v : Nat, 1 ≤ v → v ≤ 13 → (x.cnt ≤ 60 ∧ v + x.dep ≤ 13 ∧ szR x v = (x.cnt, v + x.dep - 1)) ∨ (¬ (x.cnt ≤ 60 ∧ v + x.dep ≤ 13) ∧ ¬ ((szR x v).1 ≤ 60 ∧ (szR x v).2 ≤ 12))) →
      ∀ a : Nat × Nat, 1 ≤ a.1 → v ≤ a.2 → a.2 ≤ 13 → (a.1 + cnts L ≤ 60 ∧ a.2 ≤ 12 ∧ v + deps L ≤ 12 ∧ szL L v a = (a.1 + cnts L, max a.2 (v + deps L))) ∨ (¬ (a.1 + cnts L ≤ 60 ∧ a.2 ≤ 12 ∧ v + deps L ≤ 12) ∧ ¬ ((szL L v a).1 ≤ 60 ∧ (szL L v a).2 ≤ 12)) by
    rcases this l ih (1, v) (by simp) (by simp) hv with ⟨h1, h2, h3, h4⟩ | ⟨h1, h2⟩
    · left
      simp only at h1 h2 h3 h4
      refine ⟨h1, by omega, ?_⟩
      rw [h4]; simp only
      congr 1 <;> omega
    · right
      simp only at h1
      exact ⟨fun ⟨h3, h4⟩ => h1 ⟨h3, by omega, by omega⟩, fun ⟨h3, h4⟩ => h2 ⟨by omega, h4⟩⟩
  intro L
  induction L with
  | nil =>
    intro _ a ha1 ha ha2
    simp only [szL, cnts, deps]
    by_cases h : a.1 + 0 ≤ 60 ∧ a.2 ≤ 12 ∧ v + 0 ≤ 12
    · left
      refine ⟨h.1, h.2.1, h.2.2, ?_⟩
      rw [show max a.2 (v + 0) = a.2 by omega]; rfl
    · right
      exact ⟨h, fun ⟨h1, h2⟩ => h ⟨by omega, h2, by omega⟩⟩
  | cons r L ih2 =>
    intro h a ha1 ha ha2
    have hr := r.cnt_pos
    have hr2 := r.dep_pos
    rw [szL, cnts, deps]
    split
    · rename_i hc
      have hle := szR_le r (v + 1)
      have hdp := szR_deep r (v + 1) (by omega)
      have hg := szL_gt L v (a.1 + (szR r (v + 1)).1, max a.2 (szR r (v + 1)).2)
      simp only at hg
      rcases h r (by simp) (v + 1) (by omega) (by omega) with ⟨h1, h2, h3⟩ | ⟨h1, h2⟩
      · rcases ih2 (fun x hx => h x (by simp [hx])) (a.1 + (szR r (v + 1)).1, max a.2 (szR r (v + 1)).2) (by simp only; omega) (by simp only; omega) (by simp only; omega) with ⟨h4, h5, h6, h7⟩ | ⟨h4, h5⟩
        · left
          rw [h7]
          rw [h3] at h4 h5 ⊢
          simp only at h4 h5 ⊢
          refine ⟨by omega, by omega, by omega, ?_⟩
          congr 1 <;> omega
        · right
          refine ⟨fun ⟨h6, h7, h8⟩ => h4 ?_, h5⟩
          rw [h3]; simp only
          omega
      · right
        refine ⟨fun ⟨h6, h7, h8⟩ => h1 ⟨by omega, by omega⟩, fun ⟨h6, h7⟩ => h2 ⟨by omega, by omega⟩⟩
    · right
      rename_i hc
      refine ⟨fun ⟨h6, h7, h8⟩ => hc ⟨by omega, by omega⟩, fun ⟨h6, h7⟩ => hc ⟨h6, by omega⟩⟩
def Rx.valid (r : Rx) : Prop := r.fits ∧ r.wf
theorem fits_sz (r : Rx) : r.fits ↔ (szR r 1).1 ≤ 60 ∧ (szR r 1).2 ≤ 12 := by
  have := r.dep_pos
  rcases szR_spec r 1 (by omega) (by omega) with ⟨h1, h2, h3⟩ | ⟨h1, h2⟩
  · rw [h3]; simp only [Rx.fits]; omega
  · exact ⟨fun h => (h1 ⟨h.1, by have := h.2; omega⟩).elim, fun h => (h2 h).elim⟩
open Classical in
theorem refValid_ok (r : Rx) (hok : r.ok) : Fn Try.prog 27 [encX r] (.bool (decide r.valid)) := by
  have i1 := refSize_ok r 1 hok (by omega)
  have i2 := all_ok r hok
  have hf := fits_sz r
  obtain ⟨o, s, l⟩ := r
  rw [encX_mk] at i1 i2 ⊢
  refine Fn.intro' [(0, .agg [.int o, str s, .lst (l.map encX)])] 1 20 Try.func27 (by kernel_rfl) rfl rfl rfl rfl rfl ?_
  refine goB ?_
  refine callA (i1) ?_
  simp only [encSz]
  refine goB ?_
  refine gcallA (i := fun hg => i2) (hr := ?_)
  refine goB ?_
  exact Ret.bool rfl (by
    rw [decide_eq_true_iff, Rx.valid, hf]
    simp
    intro _; omega)
end Go.Ab
set_option maxHeartbeats 4000000
namespace Go.Ab
open Go Go.Ab Go.Proofs Go.Ab.Ty

def kinds : List (Int × Int) := [(1, 0), (2, 0), (3, 0), (4, 2), (5, 2), (7, 2), (6, 1), (8, 1)]
abbrev encI (n : Int) : Value := .int .i64 n
theorem kindOf_ok (o : Int) : Fn Try.prog 105 [.int o] (.tup [.int ((getM kinds o).getD 0), .bool (getM kinds o).isSome]) := by
  refine Fn.intro' [(0, .int o)] 1 17 Try.func105 (by kernel_rfl) rfl rfl rfl rfl rfl ?_
  refine goB ?_
  refine zp rfl rfl (pl_makeMap encI AV.int) ?_
  refine goB ?_
  refine zp rfl rfl (pl_insert encI AV.int 1 0 (by simp +decide only [go_sem] <;> rfl) (by simp +decide only [go_sem] <;> rfl) (by simp +decide only [go_sem] <;> rfl) (by rfl) Try.underlying153 Try.underlying3 (KeyEnc.int .i64)) ?_
  refine zp rfl rfl (pl_insert encI AV.int 2 0 (by simp +decide only [go_sem] <;> rfl) (by simp +decide only [go_sem] <;> rfl) (by simp +decide only [go_sem] <;> rfl) (by rfl) Try.underlying153 Try.underlying3 (KeyEnc.int .i64)) ?_
  refine zp rfl rfl (pl_insert encI AV.int 3 0 (by simp +decide only [go_sem] <;> rfl) (by simp +decide only [go_sem] <;> rfl) (by simp +decide only [go_sem] <;> rfl) (by rfl) Try.underlying153 Try.underlying3 (KeyEnc.int .i64)) ?_
  refine zp rfl rfl (pl_insert encI AV.int 4 2 (by simp +decide only [go_sem] <;> rfl) (by simp +decide only [go_sem] <;> rfl) (by simp +decide only [go_sem] <;> rfl) (by rfl) Try.underlying153 Try.underlying3 (KeyEnc.int .i64)) ?_
  refine zp rfl rfl (pl_insert encI AV.int 5 2 (by simp +decide only [go_sem] <;> rfl) (by simp +decide only [go_sem] <;> rfl) (by simp +decide only [go_sem] <;> rfl) (by rfl) Try.underlying153 Try.underlying3 (KeyEnc.int .i64)) ?_
  refine zp rfl rfl (pl_insert encI AV.int 7 2 (by simp +decide only [go_sem] <;> rfl) (by simp +decide only [go_sem] <;> rfl) (by simp +decide only [go_sem] <;> rfl) (by rfl) Try.underlying153 Try.underlying3 (KeyEnc.int .i64)) ?_
  refine zp rfl rfl (pl_insert encI AV.int 6 1 (by simp +decide only [go_sem] <;> rfl) (by simp +decide only [go_sem] <;> rfl) (by simp +decide only [go_sem] <;> rfl) (by rfl) Try.underlying153 Try.underlying3 (KeyEnc.int .i64)) ?_
  refine zp rfl rfl (pl_insert encI AV.int 8 1 (by simp +decide only [go_sem] <;> rfl) (by simp +decide only [go_sem] <;> rfl) (by simp +decide only [go_sem] <;> rfl) (by rfl) Try.underlying153 Try.underlying3 (KeyEnc.int .i64)) ?_
  refine goB ?_
  refine ARun.q1 rfl rfl (ql_lookupOk (enc := encI) (f := AV.int) (m := kinds) o (by simp +decide only [go_sem] <;> rfl) (by simp +decide only [go_sem] <;> rfl) rfl Try.underlying153 Try.underlying3 (KeyEnc.int .i64) zero3) ?_
  refine goB ?_
  exact Ret.data rfl (by cases h : getM kinds o <;> simp [packA, lk, h]) (.tup fun c hc => by
    simp only [List.mem_cons, List.not_mem_nil, or_false] at hc
    rcases hc with rfl | rfl <;> exact .base _)
theorem PuBlX (o : Int) (s : ByteArray) (l : List Rx) : PuBl [⟨24, 3, [.agg [.int o, str s, .lst (l.map encX)]]⟩] := .cons (fun e he c hc => by
  simp only [List.mem_singleton] at he
  subst he
  have := Pu_Xc (.mk o s l)
  rw [encX_mk] at this
  exact this c hc) .nil
theorem cnts_take {l : List Rx} {k : Nat} (h : k < l.length) : cnts (l.take (k + 1)) = cnts (l.take k) + (l[k]).cnt := by
  induction l generalizing k with
  | nil => simp at h
  | cons r l ih =>
    cases k with
    | zero => simp [cnts]
    | succ k => have := ih (k := k) (by simpa using h); simp only [List.take_succ_cons, cnts, List.getElem_cons_succ]; omega
theorem deps_take {l : List Rx} {k : Nat} (h : k < l.length) : deps (l.take (k + 1)) = max (deps (l.take k)) (l[k]).dep := by
  induction l generalizing k with
  | nil => simp at h
  | cons r l ih =>
    cases k with
    | zero => simp [deps]
    | succ k => have := ih (k := k) (by simpa using h); simp only [List.take_succ_cons, deps, List.getElem_cons_succ]; omega
theorem cnts_take_le (l : List Rx) (k : Nat) : cnts (l.take k) ≤ cnts l := by
  induction l generalizing k with
  | nil => simp
  | cons r l ih =>
    cases k with
    | zero => simp [cnts]
    | succ k => have := ih k; simp only [List.take_succ_cons, cnts]; omega
theorem deps_take_le (l : List Rx) (k : Nat) : deps (l.take k) ≤ cnts (l.take k) := by
  induction l generalizing k with
  | nil => simp [deps, cnts]
  | cons r l ih =>
    cases k with
    | zero => simp [deps, cnts]
    | succ k => have := ih k; have := dep_le_cnt r; simp only [List.take_succ_cons, deps, cnts]; omega
theorem size_ok (r : Rx) (hok : r.ok) (hc : r.cnt ≤ 1000000000) : Fn Try.prog 77 [encX r] (encSz (r.cnt, r.dep)) := by
  induction r using Rx.ind with
  | h o s l ih =>
  obtain ⟨hs, hn, hl⟩ := ok_sub hok
  unfold maxLen at hs hn
  rw [encX_mk]
  refine Fn.intro' [(0, .agg [.int o, str s, .lst (l.map encX)])] 1 30 Try.func77 (by kernel_rfl) rfl rfl rfl rfl rfl ?_
  refine goB ?_
  have hcl : 1 + cnts l ≤ 1000000000 := by rw [Rx.cnt] at hc; exact hc
  refine AWp.loopP (J := fun k : Nat => k ≤ l.length) (fun k => [(11, .int k), (2, .int (1 + cnts (l.take k) : Nat)), (3, .int (deps (l.take k))), (5, .bad), (6, .bad), (7, .bad), (13, .bad), (14, .bad)]) (fun k => l.length - k) 0 (Nat.zero_le _) (.env' (by simp +decide only [go_sem] <;> simp [Le.refl, Le_bad, cnts, deps])) ?_
  rintro k hk
  refine goB ?_
  refine ifA (fun hd => ?_) (fun hd => ?_)
  · simp at hd
    refine goB ?_
    have hm : l[k] ∈ l := List.getElem_mem _
    have h1 := cnts_take hd
    have h2 := deps_take hd
    have h3 := cnts_take_le l (k + 1)
    have h4 := cnts_take_le l k
    have h5 := deps_take_le l k
    have h6 := dep_le_cnt l[k]
    rcases hx : l[k] with ⟨o1, s1, l1⟩
    have ih1 := ih _ hm (hl _ hm) (by omega)
    rw [hx, encX_mk] at ih1
    rw [hx] at h1 h2 h6
    refine ARun.q1 rfl rfl (ql_indexAddr_lst rfl rfl Try.underlying22 (by omega) (e := .agg [.int o1, str s1, .lst (l1.map encX)]) (by simp [hd, hx, encX_mk]) (by kernel_rfl)) ?_
    refine goB ?_
    refine callA (ih1) ?_
    simp only [encSz]
    refine goB ?_
    (repeat rw [wrap_id (by omega) (by omega)])
    refine ⟨k + 1, by omega, by omega, ?_⟩
    rw [h1, h2]
    have e1 : ((1 + cnts (l.take k) : Nat) : Int) + ((Rx.mk o1 s1 l1).cnt : Int) = ((1 + (cnts (l.take k) + (Rx.mk o1 s1 l1).cnt) : Nat) : Int) := by omega
    have e2 : max (deps (l.take k) : Int) ((Rx.mk o1 s1 l1).dep : Int) = ((max (deps (l.take k)) (Rx.mk o1 s1 l1).dep : Nat) : Int) := by omega
    rw [e1, e2]
    exact (Wk.trim' 1 rfl (by simp +decide only [go_sem, WkP]; (repeat' apply And.intro); all_goals first | trivial | exact .pu (.base _) | exact .ptr (by decide) | exact .own (by decide) | exact .pu (by simp) | exact .bad _)) (pubB (PuBlX o s l))
  simp at hd
  refine goB ?_
  obtain rfl : k = l.length := by omega
  have h5 := deps_take_le l l.length
  rw [List.take_length] at h5 ⊢
  rw [wrap_succ (by omega)]
  exact Ret.data rfl (by simp [packA, lk, encSz, Rx.cnt, Rx.dep]) (.tup fun c hc => by
    simp only [List.mem_cons, List.not_mem_nil, or_false] at hc
    rcases hc with rfl | rfl <;> exact .base _)
end Go.Ab
