/- Part of the proof. -/
import Derived.Test.YthgicbkdckpeaaaDoorG19
import Derived.Test.YthgicbkdckpeaaaDoorG45
set_option linter.unusedSimpArgs false
set_option linter.unusedVariables false
set_option maxHeartbeats 4000000
namespace Go.Ab.Rg
open Go Go.Ab Go.Proofs Go.Ab.Ty
theorem okVars1 {n v : Int} : okVars n [v] ↔ 0 ≤ v ∧ v < n := by simp [okVars]
theorem okVars2 {n v w : Int} : okVars n [v, w] ↔ (0 ≤ v ∧ v < n) ∧ (0 ≤ w ∧ w < n) ∧ v ≠ w := by
  simp [okVars, and_assoc]
theorem take_all {l : List Stp} {i : Nat} (hi : i ≤ l.length) (q : Stp → Prop) : (∀ x ∈ l.take i, q x) ↔ ∀ k : Nat, (k : Int) < i → q (stp l k) := by
  constructor
  · intro h k hk
    have : k < l.length := by omega
    rw [show stp l k = l[k] from nth_eq this]
    exact h _ (List.mem_iff_getElem.2 ⟨k, by rw [List.length_take]; omega, by rw [List.getElem_take]⟩)
  · intro h x hx
    obtain ⟨k, hk, rfl⟩ := List.mem_iff_getElem.1 hx
    rw [List.length_take] at hk
    have := h k (by omega)
    rw [show stp l k = l[k]'(by omega) from nth_eq (by omega)] at this
    rw [List.getElem_take]; exact this
theorem fits_step {l : Lk} {i : Nat} (hi : i ≤ l.c.steps.length) {s : Stp} (h : okFits l.p l.c i l.own l.method s) : okStep l i s := by
  obtain ⟨⟨ho, ⟨z1, z2, z3, z4, z5⟩, ⟨r1, r2⟩, hl, hv⟩, f1, f6, f7, f8, f9⟩ := h
  have hta := fun q => take_all (q := q) hi
  unfold okStep
  rw [Int.toNat_natCast]
  rcases (by omega : s.op = 1 ∨ s.op = 2 ∨ s.op = 3 ∨ s.op = 4 ∨ s.op = 5 ∨ s.op = 6 ∨ s.op = 7 ∨ s.op = 8 ∨ s.op = 9 ∨ s.op = 10 ∨ s.op = 11 ∨ s.op = 12) with e | e | e | e | e | e | e | e | e | e | e | e
  · simp [e, u1, u2, u3, u4, u5] at *; exact ⟨okVars1.2 r1, z2, f1.1, f1.2, z4, by simp [z5]⟩
  · simp [e, u1, u2, u3, u4, u5] at *; exact ⟨okVars2.2 ⟨r1, ⟨r2.1, r2.2.1⟩, r2.2.2⟩, z3, z4, by simp [z5]⟩
  · simp [e, u1, u2, u3, u4, u5] at *; exact ⟨okVars2.2 ⟨r1, ⟨r2.1, r2.2.1⟩, r2.2.2⟩, z3, z4, by simp [z5]⟩
  · simp [e, u1, u2, u3, u4, u5] at *; exact ⟨okVars1.2 r1, z2, z3, z4, by simp [z5]⟩
  · simp [e, u1, u2, u3, u4, u5] at *; exact ⟨okVars1.2 r1, z2, f1.1, f1.2, z4, by simp [z5]⟩
  · simp [e, u1, u2, u3, u4, u5] at *; exact ⟨⟨z1, z2⟩, by omega, by omega, by omega, by omega, f6.2.1, f6.2.2, hv⟩
  · simp only [e, hta] at *; simp [u1, u2, u3, u4, u5] at *; exact ⟨⟨z1, z2⟩, f7.1, ⟨z4, by simp [z5]⟩, ⟨f7.2.1, f7.2.2.1⟩, f7.2.2.2⟩
  · simp [e, u1, u2, u3, u4, u5] at *; exact ⟨⟨z1, z2⟩, f8.1, f8.2.1, f8.2.2.1, z4, f8.2.2.2, by omega, hv⟩
  · simp [e, u1, u2, u3, u4, u5] at *; exact ⟨⟨z1, z2⟩, by omega, by omega, by omega, by omega, f9.2.1, f9.2.2, hv⟩
  · simp [e, u1, u2, u3, u4, u5] at *; exact ⟨⟨z1, z2⟩, f7.1, ⟨z4, by simp [z5]⟩, ⟨f7.2.1, f7.2.2⟩⟩
  · simp [e, u1, u2, u3, u4, u5] at *; exact ⟨⟨z1, z2⟩, z3, z4, by simp [z5]⟩
  · simp [e, u1, u2, u3, u4, u5] at *; exact ⟨⟨z1, z2⟩, z3, z4, by simp [z5]⟩
theorem step_fits {l : Lk} {i : Nat} (hi : i ≤ l.c.steps.length) {s : Stp} (hp : ∀ n : Int, 0 ≤ n → n < l.p.codes.length → (cod l.p.codes n).params ≤ 4) (hm : ∀ n : Int, 0 ≤ n → n < l.p.methods.length → (cod l.p.methods n).params ≤ 4) (h : okStep l i s) : okFits l.p l.c i l.own l.method s := by
  have hta := fun q => take_all (q := q) hi
  unfold okStep at h
  rw [Int.toNat_natCast] at h
  have hnil : ∀ {n : Int}, s.vars.length = 0 → s.vars = [] ∧ s.vars.length ≤ 4 ∧ okVars n s.vars := fun h => by
    have := List.eq_nil_of_length_eq_zero h
    rw [this]; simp [okVars]
  rcases h with ⟨ho, h1, h2, h3, h4, h5, h6⟩ | ⟨ho, h1, h2, h3, h4⟩ | ⟨ho, h1, h2, h3, h4, h5⟩ | ⟨ho, ⟨h1, h1'⟩, h2, h3, h4, h5, h6, h7, h8⟩ | ⟨ho, ⟨h1, h1'⟩, h2, ⟨h3, h3'⟩, h4, h5⟩ | ⟨ho, ⟨h1, h1'⟩, h2, h3, h4, h5, h6, h7, h8⟩ | ⟨ho, ⟨h1, h1'⟩, h2, h3, h4, h5, h6, h7, h8⟩ | ⟨ho, ⟨h1, h1'⟩, h2, h3, h4⟩
  · obtain ⟨g1, g2, g3⟩ := hnil (n := l.c.vars) h6
    rw [okVars1] at h1
    rcases ho with e | e <;> simp [okFits, okFormed, u1, u2, u3, u4, u5, e, h1, h2, h3, h4, h5, g1, okVars]
  · obtain ⟨g1, g2, g3⟩ := hnil (n := l.c.vars) h4
    rw [okVars2] at h1
    rcases ho with e | e <;> simp [okFits, okFormed, u1, u2, u3, u4, u5, e, h1, h2, h3, g1, okVars]
  · obtain ⟨g1, g2, g3⟩ := hnil (n := l.c.vars) h5
    rw [okVars1] at h1
    simp [okFits, okFormed, u1, u2, u3, u4, u5, ho, h1, h2, h3, h4, g1, okVars]
  · have := hp s.task (by omega) h5
    have g : s.vars.length ≤ 4 := by omega
    simp [okFits, okFormed, u1, u2, u3, u4, u5, ho, h1, h1', h2, h3, g, h8]
    exact ⟨by omega, h6, h7⟩
  · obtain ⟨g1, g2, g3⟩ := hnil (n := l.c.vars) h3'
    obtain ⟨h4, h4'⟩ := h4
    rcases ho with e | e
    · simp only [e, hta] at h5
      simp at h5
      simp [okFits, okFormed, u1, u2, u3, u4, u5, e, h1, h1', h2, h3, h4, h4', g1, okVars]
      exact h5
    · simp [okFits, okFormed, u1, u2, u3, u4, u5, e, h1, h1', h2, h3, h4, h4', g1, okVars]
  · have g : s.vars.length ≤ 4 := by omega
    simp [okFits, okFormed, u1, u2, u3, u4, u5, ho, h1, h1', h2, h3, h4, h5, g, h8]
    omega
  · have := hm s.task h4 h5
    have g : s.vars.length ≤ 4 := by omega
    simp [okFits, okFormed, u1, u2, u3, u4, u5, ho, h1, h1', h2, h3, h4, h5, g, h8]
    exact ⟨h6, h7⟩
  · obtain ⟨g1, g2, g3⟩ := hnil (n := l.c.vars) h4
    rcases ho with e | e <;> simp [okFits, okFormed, u1, u2, u3, u4, u5, e, h1, h1', h2, h3, g1, okVars]

theorem valid_iff (p : Tk) : okValid p ↔ okRef p := by
  constructor
  · rintro ⟨h, hc, hm⟩
    have hp : ∀ n : Int, 0 ≤ n → n < (p.codes.length : Int) → (cod p.codes n).params ≤ 4 := fun n h0 h1 => by
      have := (hc n.toNat (by omega)).1.2.1
      rwa [Int.toNat_of_nonneg h0] at this
    have hq : ∀ n : Int, 0 ≤ n → n < (p.methods.length : Int) → (cod p.methods n).params ≤ 4 := fun n h0 h1 => by
      have := (hm n.toNat (by omega)).1.2.1
      rwa [Int.toNat_of_nonneg h0] at this
    refine ⟨h, fun i hi => ⟨(hc i hi).1, fun j hj => ?_⟩, fun i hi => ⟨(hm i hi).1, fun j hj => ?_⟩⟩
    · exact step_fits (l := ⟨p, cod p.codes i, i, false⟩) (Nat.le_of_lt hj) hp hq ((hc i hi).2 j hj)
    · exact step_fits (l := ⟨p, cod p.methods i, i, true⟩) (Nat.le_of_lt hj) hp hq ((hm i hi).2 j hj)
  · rintro ⟨h, hc, hm⟩
    refine ⟨h, fun i hi => ⟨(hc i hi).1, fun j hj => ?_⟩, fun i hi => ⟨(hm i hi).1, fun j hj => ?_⟩⟩
    · exact fits_step (l := ⟨p, cod p.codes i, i, false⟩) (Nat.le_of_lt hj) ((hc i hi).2 j hj)
    · exact fits_step (l := ⟨p, cod p.methods i, i, true⟩) (Nat.le_of_lt hj) ((hm i hi).2 j hj)
end Go.Ab.Rg
set_option maxHeartbeats 4000000
namespace Go.Ab
open Go Go.Ab Go.Proofs Go.Ab.Ty

open Classical in
theorem refv_ok (p : Tk) : Fn Tryd.prog 28 [encT p] (.bool (decide (Rg.okValid p))) := Rg.refValid_ok p _ (by rw [decide_eq_true_iff]; exact Rg.valid_iff p)
open Classical in
theorem law_ends {mm : List (Nat × Obj)} (hmm : TabM mm) (p : Tk) (sched : List Int) : FnM Tryd.prog mm 8 [encT p, .lst (sched.map .int)] (.bool true) := by
  refine FnM.intro' [(0, encT p), (1, .lst (sched.map .int))] 2 134 Tryd.func8 (by kernel_rfl) rfl rfl rfl rfl rfl ?_
  have hPu : ∀ (r : Nat → Option Nat) (H : List ABlk), PubRL r H (encT p).cells (encT p).cells := fun r H => ⟨.pu (Pu_mapC _), .pu (Pu_mapC _), .pu (.base _), trivial⟩
  refine AWp.seq ?_
  refine AWp.join ⟨[(1, .lst (sched.map .int)), (2, .iptr (encT p) 0), (memSlot, .mem mm)], []⟩ ?_ ?_
  · refine goB ?_
    exact Wk.selB [] List.nodup_nil (fun b hb => absurd hb (Nat.not_lt_zero _)) trivial (WkR.all ⟨.pu (Pu_mapInt _), .iptr rfl rfl rfl rfl (hPu _ _), .pu (.mem _), trivial⟩)
  refine goB ?_
  refine callA (heavy_ok p sched) ?_
  refine goB ?_
  refine gcallA (i := fun hg => refv_ok p) (hp := fun a ha => by rw [List.mem_singleton] at ha; subst ha; exact Pu_encT p) (hr := ?_)
  refine goB ?_
  refine AWp.cond rfl (fun hc => ?_) (fun hc => ?_)
  · clear hc
    refine goB ?_
    exact Ret.data (vs := [.bool true]) rfl rfl (.base _)
  refine AWp.skip ?_
  have hok : okRun p sched := by
    cases hv : hvy p sched.length with
    | true => rw [hv] at hc; cases hc
    | false =>
      rw [hv] at hc
      by_cases hl : sched.length > 200
      · have : decide ((sched.length : Int) > 200) = true := decide_eq_true (by omega)
        rw [this] at hc; cases hc
      · by_cases hp : Rg.okValid p
        · exact ⟨hp, by omega⟩
        · have h1 : decide ((sched.length : Int) > 200) = false := decide_eq_false (by omega)
          rw [h1, decide_eq_false hp] at hc; cases hc
  clear hc
  refine AWp.weaken (s2 := ⟨[(1, .lst (sched.map .int)), (2, .iptr (encT p) 0), (memSlot, .mem mm)], []⟩) .wf ?_
  have iaw := awake_ok hmm
  have irun := run_ok hmm hok
  have itn := turns_ok hmm hok
  have idd := dead_ok hmm hok
  obtain ⟨hRI, hend⟩ := endF_ri hok
  rw [ranV_tr] at irun
  obtain ⟨R, hR⟩ : ∃ R, R = endF p sched := ⟨_, rfl⟩
  rw [← hR] at irun itn hRI hend
  clear hR
  obtain ⟨N, hN⟩ : ∃ N, N = R.tasks.length := ⟨_, rfl⟩
  obtain ⟨S, hS⟩ : ∃ S, S = R.tasks.map (·.state) := ⟨_, rfl⟩
  have lS : S.length = N := by rw [hS, List.length_map, hN]
  obtain ⟨D, hD⟩ : ∃ D, D = R.tasks.all fun t => decide (3 ≤ t.state) := ⟨_, rfl⟩
  obtain ⟨TL, hTL⟩ : ∃ TL, TL = R.turns := ⟨_, rfl⟩
  have hN32 : N ≤ 32 := by have := hRI.gg.iv.wf.nT; omega
  have lT : TL.length ≤ 2000 := by rw [hTL]; exact hRI.gg.sz.tn
  have hT : ∀ k : Nat, k < TL.length → 0 ≤ nth 0 TL k ∧ nth 0 TL k < N := fun k hk => by
    have h1 := List.getElem?_eq_getElem hk
    rw [nth_at h1, hN]
    exact hRI.tn _ (by rw [← hTL]; exact List.getElem_mem hk)
  have hDo : TL.length < 2000 → D = true := fun h => by
    rw [hD, List.all_eq_true]
    intro t ht
    obtain ⟨k, hk⟩ := List.getElem?_of_mem ht
    refine decide_eq_true (stuck_over hRI.gg hRI.ti ?_ k t hk)
    rcases hend with g | g
    · rw [hTL] at h; omega
    · exact g
  have hSt : ∀ k : Nat, k < N → 1 ≤ nth 0 S k ∧ nth 0 S k ≤ 4 ∧ (D = true → 3 ≤ nth 0 S k) := fun k hk => by
    obtain ⟨t, ht⟩ : ∃ t, R.tasks[k]? = some t := ⟨_, List.getElem?_eq_getElem (by omega)⟩
    have e1 : nth 0 S k = t.state := nth_at (by rw [hS, List.getElem?_map, ht]; rfl)
    rw [e1]
    have h4 : 1 ≤ t.state ∧ t.state ≤ 4 := by
      rcases hRI.ti.st k t ht with ⟨a, _⟩ | ⟨a, _⟩ | ⟨a, _⟩ | ⟨a, _⟩ <;> omega
    refine ⟨h4.1, h4.2, fun hd => ?_⟩
    rw [hD, List.all_eq_true] at hd
    exact of_decide_eq_true (hd t (List.mem_of_getElem? ht))
  have hE : trV R = ⟨R.lines, R.accs, S, R.tasks.map (·.par), D, TL.length⟩ := by rw [hS, hD, hTL]; rfl
  rw [hE] at irun
  rw [← hTL] at itn
  generalize R.lines = gz1 at irun
  generalize R.accs = gz2 at irun
  generalize R.tasks.map (·.par) = gz3 at irun
  clear hE hS hD hTL hRI hend hN
  refine goB ?_
  refine callA irun ?_ (hp := Pu_args _ _)
  refine goB ?_
  refine callA itn ?_ (hp := Pu_args _ _)
  refine goB ?_
  refine callA idd ?_ (hp := Pu_args _ _)
  refine goB ?_
  refine iff_ ?_ ?_ rfl
  rotate_left
  · have h2k : decide ((TL.length : Int) > 2000) = false := decide_eq_false (by omega)
    rw [h2k]
    by_cases h3 : TL.length < 2000
    · rw [hDo h3]; simp
    · have h4 : decide ((TL.length : Int) < 2000) = false := decide_eq_false (by omega)
      rw [h4]; simp
  refine goB ?_
  refine AWp.loop (J := fun k : Nat => k ≤ N) (fun k => ⟨[(5, .ptr 0 1 0 0), (7, .lst (TL.map .int)), (11, .int k), (memSlot, .mem mm)], [⟨32, 6, [encR ⟨gz1, gz2, S, gz3, D, TL.length⟩]⟩]⟩) (fun k => N - k) 0 (Nat.zero_le _) .wf ?_
  rintro k hk
  refine goB ?_
  by_cases hlt : k < N
  · refine ift_ ?_ (decide_eq_true (by omega)) rfl
    refine goB ?_
    obtain ⟨s1, s2, s3⟩ := hSt k hlt
    refine gqA (h := fun hg => ql_idxD (l := S) (f := AV.int) 0 (by simp +decide only [go_sem] <;> rfl) (by simp +decide only [go_sem] <;> rfl) Tryd.underlying25 (by omega) (by omega) (by kernel_rfl)) (hr := ?_)
    refine goB ?_
    refine gqA (h := fun hg => ql_idxD (l := S) (f := AV.int) 0 (by simp +decide only [go_sem] <;> rfl) (by simp +decide only [go_sem] <;> rfl) Tryd.underlying25 (by omega) (by omega) (by kernel_rfl)) (hr := ?_)
    refine goB ?_
    refine iff_ ?_ ?_ rfl
    rotate_left
    · have d1 : decide (nth 0 S k < 1) = false := decide_eq_false (by omega)
      have d2 : decide (nth 0 S k > 4) = false := decide_eq_false (by omega)
      rw [d1, d2]
      cases hd : D with
      | true =>
        have d3 : decide (nth 0 S k < 3) = false := decide_eq_false (by have := s3 hd; omega)
        rw [d3]; rfl
      | false => rfl
    refine goB ?_
    rw [wrap_succ (by omega)]
    exact ⟨k + 1, by omega, by omega, .wf⟩
  refine iff_ ?_ (decide_eq_false (by omega)) rfl
  refine goB ?_
  refine AWp.loop (J := fun k : Nat => k ≤ TL.length) (fun k => ⟨[(5, .ptr 0 1 0 0), (7, .lst (TL.map .int)), (12, .int k), (memSlot, .mem mm)], [⟨32, 6, [encR ⟨gz1, gz2, S, gz3, D, TL.length⟩]⟩]⟩) (fun k => TL.length - k) 0 (Nat.zero_le _) .wf ?_
  rintro k2 hk2
  refine goB ?_
  by_cases hlt2 : k2 < TL.length
  · refine ift_ ?_ (decide_eq_true (by omega)) rfl
    refine goB ?_
    obtain ⟨s1, s2⟩ := hT k2 hlt2
    refine drA (k := 15) follows (hr := ?_)
    refine goB ?_
    refine gqA (h := fun hg => ql_idxD (l := TL) (f := AV.int) 0 (by simp +decide only [go_sem] <;> rfl) (by simp +decide only [go_sem] <;> rfl) Tryd.underlying25 (by omega) (by omega) (by kernel_rfl)) (hr := ?_)
    refine goB ?_
    refine iff_ ?_ ?_ rfl
    rotate_left
    · have d1 : decide (nth 0 TL k2 < 0) = false := decide_eq_false (by omega)
      have d2 : decide (nth 0 TL k2 ≥ (S.length : Int)) = false := decide_eq_false (by omega)
      rw [d1, d2]; rfl
    refine goB ?_
    rw [wrap_succ (by omega)]
    exact ⟨k2 + 1, by omega, by omega, .wf⟩
  refine iff_ ?_ (decide_eq_false (by omega)) rfl
  refine goB ?_
  refine callA (iaw) ?_
  refine goB ?_
  exact Ret.data (vs := [.bool true]) rfl rfl (.base _)
end Go.Ab
