/- Part of the proof. -/
import Derived.Test.YtjfahhbobiiphaaVL27
import Derived.Test.YtjfahhbobiiphaaAbP
set_option linter.unusedSimpArgs false
set_option linter.unusedVariables false
set_option maxHeartbeats 4000000
namespace Go.Ab
open Go Go.Ab Go.Proofs Go.Ab.Ty

/-! ### the law of turns -/
abbrev notR (r : Rx) : Rx := .mk 8 ByteArray.empty [r]
theorem lng_not (r : Rx) (w : Wd) : lng (notR r) w ↔ ¬ lng r w := by
  rw [lng_mk]
  simp [opL]
theorem lng_and (a b : Rx) (w : Wd) : lng (.mk 7 ByteArray.empty [a, b]) w ↔ lng a w ∧ lng b w := by
  rw [lng_mk]
  simp [opL]
theorem lng_alt (a b : Rx) (w : Wd) : lng (.mk 5 ByteArray.empty [a, b]) w ↔ lng a w ∨ lng b w := by
  rw [lng_mk]
  simp [opL]
theorem ok_1 {o : Int} {a : Rx} (h : a.ok) : (Rx.mk o ByteArray.empty [a]).ok := .mk _ _ _ (by decide) (by simp [maxLen]) (by simpa using h)
theorem ok_2 {o : Int} {a b : Rx} (h : a.ok) (h2 : b.ok) : (Rx.mk o ByteArray.empty [a, b]).ok := .mk _ _ _ (by decide) (by simp [maxLen]) (by simp [h, h2])
theorem Pu_nC {o : Int} {S : ByteArray} {L : AV} (h : Pu L) : ∀ c ∈ [.int o, str S, L], Pu c := fun c hc => by
  simp only [List.mem_cons, List.not_mem_nil, or_false] at hc
  rcases hc with rfl | rfl | rfl
  · exact .base _
  · exact .base _
  · exact h
theorem Pu_l1 {cs : List AV} (h : ∀ c ∈ cs, Pu c) : Pu (.lst [.agg cs]) := .lst fun e he c hc => by
  rw [List.mem_singleton] at he; subst he
  exact h c hc
theorem Pu_l2 {cs ds : List AV} (h : ∀ c ∈ cs, Pu c) (h2 : ∀ c ∈ ds, Pu c) : Pu (.lst [.agg cs, .agg ds]) := .lst fun e he c hc => by
  simp only [List.mem_cons, List.not_mem_nil, or_false] at he
  rcases he with rfl | rfl
  · exact h c hc
  · exact h2 c hc
theorem Pu_X (o : Int) (S : ByteArray) (l : List Rx) : ∀ c ∈ [.int o, str S, .lst (l.map encX)], Pu c := Pu_nC (Pu_mapX l)
@[simp] theorem Pu_n2 (o : Int) (S : ByteArray) (l : List Rx) (a b : Int) (A B : ByteArray) : Pu (.agg [.int a, str A, .lst [.agg [.int b, str B, .lst [.agg [.int o, str S, .lst (l.map encX)]]]]]) := .agg (Pu_nC (Pu_l1 (Pu_nC (Pu_l1 (Pu_X o S l)))))
@[simp] theorem Pu_n3 (o p : Int) (S T : ByteArray) (l m : List Rx) (a : Int) (A : ByteArray) : Pu (.agg [.int a, str A, .lst [.agg [.int o, str S, .lst (l.map encX)], .agg [.int p, str T, .lst (m.map encX)]]]) := .agg (Pu_nC (Pu_l2 (Pu_X o S l) (Pu_X p T m)))
@[simp] theorem Pu_n4 (o p : Int) (S T : ByteArray) (l m : List Rx) (a b c d : Int) (A B C D : ByteArray) : Pu (.agg [.int a, str A, .lst [.agg [.int b, str B, .lst [.agg [.int c, str C, .lst [.agg [.int o, str S, .lst (l.map encX)]]], .agg [.int d, str D, .lst [.agg [.int p, str T, .lst (m.map encX)]]]]]]]) :=
  .agg (Pu_nC (Pu_l1 (Pu_nC (Pu_l2 (Pu_nC (Pu_l1 (Pu_X o S l))) (Pu_nC (Pu_l1 (Pu_X p T m)))))))
abbrev zX : AV := .agg [.int 0, str ByteArray.empty, .base (.slice none 0 0)]
theorem storeM {ρ : Operand → AV} {x y : Operand} {a b c : ABlk} {o : Int} {S : ByteArray} {l : List AV} (hx : ρ x = .ptr 2 1 0 0) (hy : ρ y = .agg [.int o, str S, .lst l]) : PL Try.prog [a, b, ⟨24, 3, [zX]⟩, c] ρ (.store 24 x y) .bad [a, b, ⟨24, 3, [.agg [.int o, str S, .lst l]]⟩, c] :=
  pl_store (b := 2) (tot := 1) (i := 0) (off := 0) (blk := ⟨24, 3, [zX]⟩) (v := .agg [.int o, str S, .lst l]) hx hy rfl rfl rfl sz24 rfl rfl
open Classical in
theorem law_turns (a b : Rx) (ha : a.ok) (hb : b.ok) : Fn Try.prog 12 [encX a, encX b] (.bool true) := by
  have i1 := small_ok [a, b] (Nat.le_of_lt (by decide : 2 < maxLen)) (by simp [ha, hb])
  have i2 := refValid_ok a ha
  have i3 := refValid_ok b hb
  have j1 := fun h : a.cnt ≤ 80 ∧ b.cnt ≤ 80 => equal_ok2 a (notR (notR a)) ha (ok_1 (ok_1 ha)) (by omega) (by simp only [cnt_mk, cnts]; omega)
  have j2 := fun h : a.cnt ≤ 80 ∧ b.cnt ≤ 80 => equal_ok2 (.mk 7 ByteArray.empty [a, b]) (notR (.mk 5 ByteArray.empty [notR a, notR b])) (ok_2 ha hb) (ok_1 (ok_2 (ok_1 ha) (ok_1 hb))) (by simp only [cnt_mk, cnts]; omega) (by simp only [cnt_mk, cnts]; omega)
  have j0 := awake_true
  have h1 : (eqV a (notR (notR a))).2 = 0 → (eqV a (notR (notR a))).1 = true := fun h => by
    by_cases hv : a.valid ∧ (notR (notR a)).valid
    · rw [eqV_ok hv.1 hv.2 h]
      intro w
      rw [lng_not, lng_not, Classical.not_not]
    · rw [eqV_form hv] at h; cases h
  have h2 : (eqV (.mk 7 ByteArray.empty [a, b]) (notR (.mk 5 ByteArray.empty [notR a, notR b]))).2 = 0 → (eqV (.mk 7 ByteArray.empty [a, b]) (notR (.mk 5 ByteArray.empty [notR a, notR b]))).1 = true := fun h => by
    by_cases hv : (Rx.mk 7 ByteArray.empty [a, b]).valid ∧ (notR (.mk 5 ByteArray.empty [notR a, notR b])).valid
    · rw [eqV_ok hv.1 hv.2 h]
      intro w
      rw [lng_not, lng_alt, lng_not, lng_not, lng_and]
      constructor
      · rintro ⟨h1, h2⟩ (h | h)
        · exact h h1
        · exact h h2
      · intro h
        exact ⟨Classical.byContradiction fun h1 => h (.inl h1), Classical.byContradiction fun h1 => h (.inr h1)⟩
    · rw [eqV_form hv] at h; cases h
  generalize eqV a (notR (notR a)) = v1 at *
  generalize eqV (.mk 7 ByteArray.empty [a, b]) (notR (.mk 5 ByteArray.empty [notR a, notR b])) = v2 at *
  obtain ⟨x1, e1⟩ := v1
  obtain ⟨x2, e2⟩ := v2
  simp only at j1 j2 h1 h2
  obtain ⟨o, s, l⟩ := a
  obtain ⟨o', s', l'⟩ := b
  rw [List.map_cons, List.map_cons, List.map_nil] at i1
  simp only [encX_mk, List.map_cons, List.map_nil, notR] at i1 i2 i3 j1 j2 ⊢
  refine Fn.intro' [(0, .agg [.int o, str s, .lst (l.map encX)]), (1, .agg [.int o', str s', .lst (l'.map encX)])] 2 73 Try.func12 (by kernel_rfl) rfl rfl rfl rfl rfl ?_
  refine goA ?_
  refine bslA Try.underlying22 sz24 ?_
  refine callA (i1) ?_
  refine goB ?_
  refine gcallA (i := fun hg => i2) (hr := ?_)
  refine goB ?_
  refine gcallA (i := fun hg => i3) (hr := ?_)
  refine goB ?_
  refine ifA (fun q1 => ?_) (fun q1 => ?_)
  · refine goB ?_
    exact Ret.bool rfl (by simp)
  simp at q1
  have h80 : (Rx.mk o s l).cnt ≤ 80 ∧ (Rx.mk o' s' l').cnt ≤ 80 := ⟨q1.1.1.1.1, q1.1.1.2.1⟩
  have j1 := j1 h80
  have j2 := j2 h80
  clear i1 i2 i3 q1
  refine AWp.skip (z1 ?_)
  refine keF [2, 3] ?_
  refine AWp.weaken (Wk.nil (E2 := [(2, .ptr 0 1 0 0), (3, .ptr 1 1 0 0)]) 24 3 (by intro p hp; simp only [List.mem_cons, List.not_mem_nil, or_false] at hp; rcases hp with rfl | rfl <;> exact .inl (Le.refl _))) ?_
  refine AWp.weaken (Wk.nil (E2 := [(2, .ptr 0 1 0 0), (3, .ptr 1 1 0 0)]) 24 3 (by intro p hp; simp only [List.mem_cons, List.not_mem_nil, or_false] at hp; rcases hp with rfl | rfl <;> exact .inl (Le.refl _))) ?_
  refine zs ?_
  with_reducible apply AWp.drawMK (k := 9) [none, none, none, none, none, none, some 0, some 1, some 2] [[0, 1, 2, 3], [0, 1, 2, 3], [0, 1, 2, 3], [0, 1, 2, 3, 4, 5, 6, 7], [0, 1, 2, 3, 4, 5, 6, 7], [0, 1, 2, 3, 4, 5, 6, 7], [0, 2], [0, 1], [3]] (fun S => match S with
    | 0 => [boxX o s l, boxX o' s' l', ⟨24, 3, []⟩, ⟨24, 3, []⟩]
    | 1 => [boxX o s l, boxX o' s' l', ⟨24, 3, [zX]⟩, ⟨24, 3, []⟩]
    | 2 => [boxX o s l, boxX o' s' l', ⟨24, 3, []⟩, ⟨24, 3, [zX]⟩]
    | 3 => [boxX o s l, boxX o' s' l', ⟨24, 3, [zX]⟩, ⟨24, 3, [zX]⟩]
    | _ => [boxX o s l, boxX o' s' l', ⟨24, 3, [.agg [.int 8, str ByteArray.empty, .lst [.agg [.int o, str s, .lst (l.map encX)]]]]⟩, ⟨24, 3, [zX]⟩]) 3 follows
  · refine ⟨rfl, rfl, by kernel_rfl, by decide, ?_, ?_⟩
    · simp +decide only [go_sem, List.map, List.take]; rfl
    · simp +decide only [go_sem, List.map, List.drop]; rfl
  · kernel_rfl
  · rfl
  refine MRun.q1 (v := .agg [.int o, str s, .lst (l.map encX)]) rfl rfl (fun S hS => ql_fun (by simp only [List.mem_cons, List.not_mem_nil, or_false] at hS; rcases hS with rfl | rfl | rfl | rfl <;> (simp +decide only [go_sem] <;> rfl))) ?_
  refine MRun.q1 (v := .lst [.agg [.int o, str s, .lst (l.map encX)]]) rfl rfl (fun S hS => ql_buildSlice (by decide) Try.underlying22 sz24 (by kernel_rfl) (by decide) (by (simp +decide only [List.map, go_sem] <;> rfl)) (by (simp +decide only [List.map, go_sem] <;> rfl)) rfl) ?_
  refine MRun.q1 (v := .agg [.int 8, str ByteArray.empty, .lst [.agg [.int o, str s, .lst (l.map encX)]]]) rfl rfl (fun S hS => ql_build pl24 zero24 (by simp +decide only [List.map, go_sem] <;> rfl)) ?_
  refine MRun.q1 (v := .agg [.int o', str s', .lst (l'.map encX)]) rfl rfl (fun S hS => ql_fun (by simp only [List.mem_cons, List.not_mem_nil, or_false] at hS; rcases hS with rfl | rfl | rfl | rfl | rfl | rfl | rfl | rfl <;> (simp +decide only [go_sem] <;> rfl))) ?_
  refine MRun.q1 (v := .lst [.agg [.int o', str s', .lst (l'.map encX)]]) rfl rfl (fun S hS => ql_buildSlice (by decide) Try.underlying22 sz24 (by kernel_rfl) (by decide) (by (simp +decide only [List.map, go_sem] <;> rfl)) (by (simp +decide only [List.map, go_sem] <;> rfl)) rfl) ?_
  refine MRun.q1 (v := .agg [.int 8, str ByteArray.empty, .lst [.agg [.int o', str s', .lst (l'.map encX)]]]) rfl rfl (fun S hS => ql_build pl24 zero24 (by simp +decide only [List.map, go_sem] <;> rfl)) ?_
  refine MRun.p1 (v := .ptr 2 1 0 0) rfl rfl (fun S hS ρ' h => by simp only [List.mem_cons, List.not_mem_nil, or_false] at hS; rcases hS with rfl | rfl <;> exact pl_allocAt (b := 2) (blk0 := ⟨24, 3, []⟩) rfl rfl zero24 rfl (by decide)) ?_
  refine MRun.p1 (v := .ptr 3 1 0 0) rfl rfl (fun S hS ρ' h => by simp only [List.mem_cons, List.not_mem_nil, or_false] at hS; rcases hS with rfl | rfl <;> exact pl_allocAt (b := 3) (blk0 := ⟨24, 3, []⟩) rfl rfl zero24 rfl (by decide)) ?_
  refine MRun.p1 (v := .bad) rfl rfl (fun S hS ρ' h => by
    simp only [List.mem_cons, List.not_mem_nil, or_false] at hS; subst hS
    exact storeM ((h (.tmp 5) (by simp [Op.operands])).trans (by simp +decide only [go_sem] <;> rfl)) ((h (.tmp 31) (by simp [Op.operands])).trans (by simp +decide only [go_sem] <;> rfl))) ?_
  refine MRun.nil ?_
  refine rcA ?_
  refine zOut ?_
  refine keF [2, 3, 5, 6] ?_
  refine (show AWp Try.prog _ _ _ ⟨[(2, .ptr 0 1 0 0), (3, .ptr 1 1 0 0), (5, .ptr 2 1 0 0), (6, .ptr 3 1 0 0)], [boxX o s l, boxX o' s' l', ⟨24, 3, [.agg [.int 8, str ByteArray.empty, .lst [.agg [.int o, str s, .lst (l.map encX)]]]]⟩, ⟨24, 3, [.agg [.int 8, str ByteArray.empty, .lst [.agg [.int o', str s', .lst (l'.map encX)]]]]⟩]⟩ from ?_)
  refine goB ?_
  refine bldA pl24 zero24 ?_
  refine goB ?_
  refine bldA pl24 zero24 ?_
  refine goB ?_
  refine bldA pl24 zero24 ?_
  refine goB ?_
  refine bldA pl24 zero24 ?_
  refine goB ?_
  refine callA (j1) ?_
  refine goB ?_
  refine ifA (fun q2 => ?_) (fun q2 => ?_)
  · exfalso
    simp at q2
    rw [h1 q2.1] at q2
    simp at q2
  refine goB ?_
  refine callA (j2) ?_
  refine goB ?_
  refine ifA (fun q3 => ?_) (fun q3 => ?_)
  · exfalso
    simp at q3
    rw [h2 q3.1] at q3
    simp at q3
  refine goB ?_
  refine callA (j0) ?_
  refine goB ?_
  exact Ret.bool rfl (by simp)
end Go.Ab
