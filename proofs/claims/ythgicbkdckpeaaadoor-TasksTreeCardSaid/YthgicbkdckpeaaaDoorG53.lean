/- Part of the proof. -/
import Derived.Test.YthgicbkdckpeaaaDoorG52
set_option linter.unusedSimpArgs false
set_option linter.unusedVariables false
set_option maxHeartbeats 4000000
namespace Go.Ab
open Go Go.Ab Go.Proofs Go.Ab.Ty

theorem run_cases (p : Tk) (sched : List Int) : okRun p sched ∨ (∃ e : Int, e ≠ 0 ∧ Fn Tryd.prog 59 [encT p, .lst (sched.map .int)] (.int e)) := by
  by_cases hv : Rg.okValid p
  · by_cases hl : sched.length ≤ 200
    · exact .inl ⟨hv, hl⟩
    · have := checked_ok p sched true (by simp [hv])
      unfold chkI at this
      rw [if_pos rfl, if_pos (by omega)] at this
      exact .inr ⟨2, by decide, this⟩
  · exact .inr ⟨230, by decide, checked_ok p sched false (by simp [hv])⟩
theorem law_tree {mm : List (Nat × Obj)} (hmm : TabM mm) (p : Tk) (sched : List Int) : FnM Tryd.prog mm 6 [encT p, .lst (sched.map .int)] (.bool true) := by
  refine FnM.intro' [(0, encT p), (1, .lst (sched.map .int))] 2 109 Tryd.func6 (by kernel_rfl) rfl rfl rfl rfl rfl ?_
  have hPu : ∀ (r : Nat → Option Nat) (H : List ABlk), PubRL r H (encT p).cells (encT p).cells := fun r H => ⟨.pu (Pu_mapC _), .pu (Pu_mapC _), .pu (.base _), trivial⟩
  refine AWp.seq ?_
  refine AWp.join ⟨[(1, .lst (sched.map .int)), (2, .iptr (encT p) 0), (memSlot, .mem mm)], []⟩ ?_ ?_
  · refine goB ?_
    exact Wk.selB [] List.nodup_nil (fun b hb => absurd hb (Nat.not_lt_zero _)) trivial (WkR.all ⟨.pu (Pu_mapInt _), .iptr rfl rfl rfl rfl (hPu _ _), .pu (.mem _), trivial⟩)
  refine goB ?_
  refine callA (heavy_ok p sched) ?_
  refine goB ?_
  refine AWp.cond rfl (fun hc => ?_) (fun hc => ?_)
  · clear hc
    refine goB ?_
    exact Ret.data (vs := [.bool true]) rfl rfl (.base _)
  refine AWp.skip ?_
  clear hc
  refine AWp.weaken (s2 := ⟨[(1, .lst (sched.map .int)), (2, .iptr (encT p) 0), (memSlot, .mem mm)], []⟩) .wf ?_
  have iaw := awake_ok hmm
  rcases run_cases p sched with hok | ⟨e, he, hck⟩
  · have irun := run_ok hmm hok
    have icn := canc_ok hmm hok
    obtain ⟨hRI, _⟩ := endF_ri hok
    rw [ranV_tr] at irun
    obtain ⟨R, hR⟩ : ∃ R, R = endF p sched := ⟨_, rfl⟩
    rw [← hR] at irun icn hRI
    clear hR
    obtain ⟨N, hN⟩ : ∃ N, N = R.tasks.length := ⟨_, rfl⟩
    have h0 := hRI.t0
    obtain ⟨S, hS⟩ : ∃ S, S = R.tasks.map (·.state) := ⟨_, rfl⟩
    obtain ⟨P, hP⟩ : ∃ P, P = R.tasks.map (·.par) := ⟨_, rfl⟩
    obtain ⟨C, hC⟩ : ∃ C, C = R.tasks.map (·.canc) := ⟨_, rfl⟩
    have lS : S.length = N := by rw [hS, List.length_map, hN]
    have lP : P.length = N := by rw [hP, List.length_map, hN]
    have lC : C.length = N := by rw [hC, List.length_map, hN]
    have hfact : ∀ k : Nat, k < N → (k = 0 ∧ nth 0 P k = -1) ∨ ∃ q : Nat, nth 0 P k = (q : Int) ∧ q < k ∧ (2 < nth 0 S q → 2 < nth 0 S k) ∧ (nth false C q = true → nth false C k = true) := fun k hk => by
      obtain ⟨t, ht⟩ : ∃ t, R.tasks[k]? = some t := ⟨_, List.getElem?_eq_getElem (by omega)⟩
      have at1 : ∀ (i : Nat) (u : PTask), R.tasks[i]? = some u → nth 0 S i = u.state ∧ nth 0 P i = u.par ∧ nth false C i = u.canc := fun i u hu =>
        ⟨nth_at (by rw [hS, List.getElem?_map, hu]; rfl), nth_at (by rw [hP, List.getElem?_map, hu]; rfl), nth_at (by rw [hC, List.getElem?_map, hu]; rfl)⟩
      obtain ⟨a1, a2, a3⟩ := at1 k t ht
      rcases hRI.ti.up k t ht with ⟨b1, b2⟩ | ⟨q, u, b1, b2, b3, b4⟩
      · exact .inl ⟨b1, by rw [a2]; exact b2⟩
      · obtain ⟨c1, c2, c3⟩ := at1 q u b3
        obtain ⟨k', t', d1, d2, d3, d4, d5, d6⟩ := hRI.ti.kd q u k b3 b4
        have : k' = k := by omega
        subst this
        rw [ht] at d3; injection d3 with d3; subst d3
        exact .inr ⟨q, by rw [a2]; exact b1, b2, by rw [c1, a1]; omega, by rw [c3, a3]; exact d6⟩
    have hE : trV R = ⟨R.lines, R.accs, S, P, R.tasks.all fun t => decide (3 ≤ t.state), R.turns.length⟩ := by rw [hS, hP]; rfl
    rw [hE] at irun
    rw [← hC] at icn
    generalize R.lines = gz1 at irun
    generalize R.accs = gz2 at irun
    generalize (R.tasks.all fun t => decide (3 ≤ t.state)) = gz3 at irun
    generalize R.turns.length = gz4 at irun
    have h0N : 0 < N := by omega
    have hN32 : N ≤ 32 := by have := hRI.gg.iv.wf.nT; omega
    clear hE hS hP hC hRI hN h0
    refine goB ?_
    refine callA irun ?_ (hp := Pu_args _ _)
    refine goB ?_
    refine callA icn ?_ (hp := Pu_args _ _)
    refine goB ?_
    refine iff_ ?_ (by simp) rfl
    refine goB ?_
    refine iff_ ?_ (by simp) rfl
    refine goB ?_
    refine gqA (h := fun hg => ql_idxD (l := P) (f := AV.int) 0 (by simp +decide only [go_sem] <;> rfl) (by simp +decide only [go_sem] <;> rfl) Tryd.underlying25 (by omega) (by omega) (by kernel_rfl)) (hr := ?_)
    refine goB ?_
    have hp0 : nth 0 P 0 = -1 := by
      rcases hfact 0 h0N with ⟨_, g⟩ | ⟨q, _, g, _⟩
      · exact g
      · omega
    refine iff_ ?_ ?_ rfl
    rotate_left
    · have hne : ¬ N = 0 := by omega
      simp [lS, lP, lC, hp0, hne]
    refine goB ?_
    refine AWp.loop (J := fun k : Nat => 1 ≤ k ∧ k ≤ N) (fun k => ⟨[(5, .ptr 0 1 0 0), (7, .lst (C.map bolV)), (9, .int k), (memSlot, .mem mm)], [⟨32, 6, [encR ⟨gz1, gz2, S, P, gz3, gz4⟩]⟩]⟩) (fun k => N - k) 1 ⟨Nat.le_refl _, h0N⟩ .wf ?_
    rintro k ⟨hk1, hk2⟩
    refine goB ?_
    by_cases hlt : k < N
    · refine ift_ ?_ (decide_eq_true (by omega)) rfl
      refine goB ?_
      rcases hfact k hlt with ⟨g, _⟩ | ⟨q, g1, g2, g3, g4⟩
      · omega
      rw [g1]
      refine gqA (h := fun hg => ql_idxD (l := S) (f := AV.int) 0 (by simp +decide only [go_sem] <;> rfl) (by simp +decide only [go_sem] <;> rfl) Tryd.underlying25 (by omega) (by omega) (by kernel_rfl)) (hr := ?_)
      refine goB ?_
      refine gqA (h := fun hg => ql_idxD (l := S) (f := AV.int) 0 (by simp +decide only [go_sem] <;> rfl) (by simp +decide only [go_sem] <;> rfl) Tryd.underlying25 (by omega) (by omega) (by kernel_rfl)) (hr := ?_)
      refine goB ?_
      refine gqA (h := fun hg => ql_idxD (l := C) (f := bolV) false (by simp +decide only [go_sem] <;> rfl) (by simp +decide only [go_sem] <;> rfl) Tryd.underlying36 (by omega) (by omega) (by kernel_rfl)) (hr := ?_)
      refine goB ?_
      refine gqA (h := fun hg => ql_idxD (l := C) (f := bolV) false (by simp +decide only [go_sem] <;> rfl) (by simp +decide only [go_sem] <;> rfl) Tryd.underlying36 (by omega) (by omega) (by kernel_rfl)) (hr := ?_)
      refine goB ?_
      have d1 : decide ((q : Int) < 0) = false := decide_eq_false (by omega)
      have d2 : decide ((q : Int) ≥ (k : Int)) = false := decide_eq_false (by omega)
      refine iff_ ?_ ?_ rfl
      rotate_left
      · rw [d1, d2]
        by_cases g5 : 2 < nth 0 S q
        · have g6 := g3 g5
          have d3 : decide (nth 0 S k ≤ 2) = false := decide_eq_false (by omega)
          rw [d3]
          cases hq : nth false C q with
          | true => rw [g4 hq]; simp
          | false => simp
        · have d3 : decide (nth 0 S q > 2) = false := decide_eq_false (by omega)
          rw [d3]
          cases hq : nth false C q with
          | true => rw [g4 hq]; simp
          | false => simp
      refine goB ?_
      rw [wrap_succ (by omega)]
      exact ⟨k + 1, ⟨by omega, by omega⟩, by omega, .wf⟩
    · refine iff_ ?_ (decide_eq_false (by omega)) rfl
      refine goB ?_
      refine callA (iaw) ?_
      refine goB ?_
      exact Ret.data (vs := [.bool true]) rfl rfl (.base _)
  · have ir := run_bad e he hck
    have ic := canc_bad e he hck
    refine goB ?_
    refine callA ir ?_ (hp := Pu_args _ _)
    refine goB ?_
    refine callA ic ?_ (hp := Pu_args _ _)
    refine goB ?_
    refine iff_ ?_ (by simp) rfl
    refine goB ?_
    refine ift_ ?_ (by simp [he]) rfl
    refine goB ?_
    refine callA (iaw) ?_
    refine goB ?_
    exact Ret.data (vs := [.bool true]) rfl rfl (.base _)
end Go.Ab
