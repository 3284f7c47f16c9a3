/- Part of the proof. -/
import Derived.Laws.StructEq
import Derived.Test.YthgicbkdckpeaaaDoorCards
import Derived.Test.YthgicbkdckpeaaaDoorTie
import Derived.WalkKit
import Derived.ProofKit
import Derived.OpenShut
import Derived.Deep.DeepHandedRow
import Derived.Lib.LaidTab
import Derived.Lib.LaidU8
import Derived.Test.YthgicbkdckpeaaaDoorG40
import Derived.Test.YthgicbkdckpeaaaDoorG17
import Derived.Test.YthgicbkdckpeaaaDoorG10
set_option linter.unusedSimpArgs false
set_option linter.unusedVariables false
set_option maxHeartbeats 4000000
namespace Go.Ab
open Go Go.Ab Go.Proofs Go.Ab.Ty

def ranV (R : PRun) : AV := .agg [.lst (R.lines.map fun x => .base (.string x)), .lst (R.accs.map encA), .lst ((R.tasks.map (·.state)).map AV.int), .lst ((R.tasks.map (·.par)).map AV.int), .base (.bool (R.tasks.all fun t => decide (3 ≤ t.state))), .int R.turns.length]
abbrev z32B : ABlk := ⟨32, 6, [.agg [nilS, nilS, nilS, nilS, .base (.bool false), .int 0]]⟩
theorem NilB.app {H : List ABlk} : ∀ {L L' M M' : List ABlk}, NilB H L L' → NilB H M M' → NilB H (L ++ M) (L' ++ M')
  | [], [], _, _, _, h => h
  | _ :: _, _ :: _, _, _, ⟨h1, h2⟩, h => ⟨h1, NilB.app h2 h⟩
abbrev runB (R : PRun) (v1 v2 : AV) (b : Bool) : ABlk := ⟨32, 6, [.agg [.own (ix .ln) R.lines.length 0 R.lines.length, .own (ix .ac) R.accs.length 0 R.accs.length, v1, v2, .base (.bool b), .int R.turns.length]]⟩
theorem run_ok {mm : List (Nat × Obj)} (hmm : TabM mm) {p : Tk} {sched : List Int} (h : okRun p sched) : FnM Tryd.prog mm 17 [encT p, .lst (sched.map .int)] (.tup [ranV (endF p sched), .int 0]) := by
  obtain ⟨iran, hGE⟩ := ran_good hmm h
  obtain ⟨R, hR⟩ : ∃ R, R = endF p sched := ⟨_, rfl⟩
  rw [← hR] at iran hGE ⊢
  have hwR := hGE.iv.wf
  have hlR := HH_len R
  obtain ⟨co, me, ac⟩ := p
  clear hR
  refine FnM.intro' [(0, encT ⟨co, me, ac⟩), (1, .lst (sched.map .int))] 2 71 Tryd.func17 (by kernel_rfl) rfl rfl rfl rfl rfl ?_
  refine AWp.seq ?_
  refine AWp.join ⟨[(1, .lst (sched.map .int)), (2, .iptr (encT ⟨co, me, ac⟩) 0), (4, .ptr 0 1 0 0), (memSlot, .mem mm)], [z32B]⟩ ?_ ?_
  · refine reS ?_
    refine goF ?_
    refine Wk.selB [1] (by simp) (fun b hb => absurd hb (Nat.not_lt_zero _)) ⟨⟨_, rfl, .pu (fun e he c hc => by
      rw [List.mem_singleton] at he; subst he
      simp only [AV.cells, List.mem_cons, List.not_mem_nil, or_false] at hc
      rcases hc with rfl | rfl | rfl | rfl | rfl | rfl <;> exact .base _)⟩, trivial⟩ (WkR.all ⟨.pu (Pu_mapInt _), .iptr rfl rfl rfl rfl ⟨.pu (Pu_mapC _), .pu (Pu_mapC _), .pu (.base _), trivial⟩, .ptr rfl, .pu (.mem _), trivial⟩)
  have hcE : CallE [] [z32B] [] (HH R) ([z32B] ++ (HH R).map (shB 1)) := CallE.runner (HC := [z32B]) hwR
  have hmv : MvR (rb [] [z32B].length) (HH R) (.tup [ptR, .int 0]) (.tup [.ptr 1 1 0 0, .int 0]) := .tup' ⟨.ptr (by simp [rb, ix]), .pu (.base _), trivial⟩
  refine AWp.seq ?_
  refine AWp.join ⟨[(4, .ptr NN 1 0 0), (6, ptR), (7, .int 0), (memSlot, .mem mm)], HH R ++ [z32B]⟩ ?_ ?_
  · refine reS ?_
    refine ARun.p1 rfl rfl (pl_callHM iran (.inr (by simp +decide only [go_sem, *] <;> rfl)) hcE rfl (by simp +decide only [go_sem, *] <;> rfl) (args := [encT ⟨co, me, ac⟩, .lst (sched.map .int)]) ?_ hmv) ?_
    · exact ⟨.pu (Pu_encT ⟨co, me, ac⟩), .pu (Pu_mapInt _), trivial⟩
    refine goF ?_
    exact Wk.front (T := [z32B]) hwR rfl (fun b hb e he c hc => by
      rw [List.mem_singleton] at hb; subst hb
      rw [List.mem_singleton] at he; subst he
      simp only [AV.cells, List.mem_cons, List.not_mem_nil, or_false] at hc
      rcases hc with rfl | rfl | rfl | rfl | rfl | rfl <;> exact .base _) ⟨.ptr (by unfold frt; rfl), .ptr (by
        unfold frt; rw [if_neg (by decide), if_pos (by have := ixl_rn; simp only [List.length_singleton]; omega)]; rfl), .pu (.base _), .pu (.mem _), trivial⟩
  clear hcE hmv iran
  refine goF ?_
  refine iff_ ?_ rfl (by simp +decide only [go_sem, *] <;> rfl)
  refine AWp.skip ?_
  obtain ⟨B0, hB0⟩ : ∃ B0 : ABlk, B0 = runB R nilS nilS true := ⟨_, rfl⟩
  refine AWp.seq ?_
  refine AWp.join ⟨[(4, .ptr NN 1 0 0), (6, ptR), (8, .ptr (NN + 1) 1 0 0), (memSlot, .mem mm)], HH R ++ [z32B, B0]⟩ ?_ ?_
  · refine drS (k := 15) [none, none, none, none, none, none, none, none, none, none, none, none, none, none, some 0] (fun k => match k with
      | 0 => HH R ++ [z32B]
      | _ => HH R ++ [z32B, z32B]) 1 follows ?_
    refine gS ?_
    refine gS ?_
    refine gS ?_
    refine gS ?_
    refine gS ?_
    refine gS ?_
    refine gS ?_
    refine gS ?_
    refine gS ?_
    refine gS ?_
    refine gS ?_
    refine gS ?_
    refine gS ?_
    refine GRun.q1 (v := .agg [.own (ix .ln) R.lines.length 0 R.lines.length, .own (ix .ac) R.accs.length 0 R.accs.length, nilS, nilS, .base (.bool true), .int R.turns.length]) rfl rfl (fun c _ => ql_build pl32 zero32 (by (simp +decide only [List.map, go_sem] <;> rfl))) ?_
    refine GRun.p1 (v := .ptr (NN + 1) 1 0 0) rfl rfl (fun ρ' h => ?_) ?_
    · show PL Tryd.prog (HH R ++ [z32B]) ρ' _ (.ptr (NN + 1) 1 0 0) (HH R ++ [z32B, z32B])
      have h1 := pl_alloc (P := Tryd.prog) (H := HH R ++ [z32B]) (ρ := ρ') zero32 rfl
      rw [List.append_assoc, List.length_append, hlR] at h1
      exact h1
    refine GRun.nil ?_
    refine goF ?_
    exact .wf (hH := by rw [hB0]; simp +decide only [go_sem, *] <;> rfl)
  rw [hB0]
  clear hB0
  refine goF ?_
  have hzN : ∀ {H : List ABlk}, BlkNil H z32B z32B := .pu fun e he c hc => by
    rw [List.mem_singleton] at he; subst he
    simp only [AV.cells, List.mem_cons, List.not_mem_nil, or_false] at hc
    rcases hc with rfl | rfl | rfl | rfl | rfl | rfl <;> exact .base _
  have hRN : ∀ {H : List ABlk}, NilB H (HH R) (HH R) := NilB.rf (S := (· < NN)) (HH_rn hwR)
  refine AWp.weaken (Wk.nilC (E2 := [(4, .ptr NN 1 0 0), (6, ptR), (8, .ptr (NN + 1) 1 0 0), (38, .own (ix .tk) R.tasks.length 0 R.tasks.length), (39, .int R.tasks.length), (40, .int 0)]) (H2 := HH R ++ [z32B, runB R (.own (NN + 2) 0 0 0) nilS true]) 3 1
    (.app hRN ⟨hzN, .one ⟨.own, .own, .nil (by simp [hlR]), .pu (.base _), .pu (.base _), .pu (.base _), trivial⟩, trivial⟩) ⟨.ptr, .ptr, .ptr, .own, .pu (.base _), .pu (.base _), trivial⟩) ?_
  refine AWp.weaken (Wk.nilC (E2 := [(4, .ptr NN 1 0 0), (6, ptR), (8, .ptr (NN + 1) 1 0 0), (38, .own (ix .tk) R.tasks.length 0 R.tasks.length), (39, .int R.tasks.length), (40, .int 0)]) (H2 := HH R ++ [z32B, runB R (.own (NN + 2) 0 0 0) (.own (NN + 3) 0 0 0) true] ++ [intB []]) 3 1
    (.app (.app hRN ⟨hzN, .one ⟨.own, .own, .own, .nil (by simp [hlR]), .pu (.base _), .pu (.base _), trivial⟩, trivial⟩) ⟨.pu (fun e he => by cases he), trivial⟩) ⟨.ptr, .ptr, .ptr, .own, .pu (.base _), .pu (.base _), trivial⟩) ?_
  refine AWp.loop (J := fun i : Nat => i ≤ R.tasks.length) (fun i => ⟨[(4, .ptr NN 1 0 0), (6, ptR), (8, .ptr (NN + 1) 1 0 0), (38, .own (ix .tk) R.tasks.length 0 R.tasks.length), (39, .int R.tasks.length), (40, .int i)], HH R ++ [z32B, runB R (.own (NN + 2) i 0 i) (.own (NN + 3) i 0 i) ((R.tasks.take i).all fun t => decide (3 ≤ t.state)), intB ((R.tasks.take i).map (·.state)), intB ((R.tasks.take i).map (·.par))]⟩) (fun i => R.tasks.length - i) 0 (Nat.zero_le _) (.wf (hH := by simp)) ?_
  rintro i hi
  by_cases hlt : i < R.tasks.length
  · have hd : decide ((i : Int) < (R.tasks.length : Int)) = true := decide_eq_true (by omega)
    obtain ⟨t, ht⟩ : ∃ t, R.tasks[i]? = some t := ⟨_, List.getElem?_eq_getElem hlt⟩
    obtain ⟨g1, g2, g3, g4, _, g6⟩ := hwR.k ht
    have hn32 := hwR.nT
    have htk : R.tasks.take (i + 1) = R.tasks.take i ++ [t] := by rw [List.take_add_one, ht]; rfl
    obtain ⟨l1, hl1⟩ : ∃ l1, l1 = (R.tasks.take i).map (·.state) := ⟨_, rfl⟩
    obtain ⟨l2, hl2⟩ : ∃ l2, l2 = (R.tasks.take i).map (·.par) := ⟨_, rfl⟩
    obtain ⟨b, hb⟩ : ∃ b, b = (R.tasks.take i).all fun t => decide (3 ≤ t.state) := ⟨_, rfl⟩
    have hn1 : Hid ((R.tasks.take (i + 1)).map (·.state) = l1 ++ [t.state]) := ⟨by rw [htk, List.map_append, ← hl1]; rfl⟩
    have hn2 : Hid ((R.tasks.take (i + 1)).map (·.par) = l2 ++ [t.par]) := ⟨by rw [htk, List.map_append, ← hl2]; rfl⟩
    have hn3 : Hid (((R.tasks.take (i + 1)).all fun t => decide (3 ≤ t.state)) = (b && decide (3 ≤ t.state))) := ⟨by rw [htk, List.all_append, ← hb]; simp⟩
    have hll1 : l1.length = i := by rw [hl1]; simp; omega
    have hll2 : l2.length = i := by rw [hl2]; simp; omega
    rw [← hl1, ← hl2, ← hb]
    clear hl1 hl2 hb htk
    refine goF ?_
    refine ift_ ?_ rfl (by simp +decide only [go_sem, *] <;> rfl)
    refine goF ?_
    refine ARun.q1 rfl rfl (ql_ixo (n := i) (b := ix .tk) (by simp +decide only [go_sem, *] <;> rfl) (by simp +decide only [go_sem, *] <;> rfl) Tryd.underlying80 (by simp +decide only [go_sem, *] <;> rfl) (by simp) hlt (by simp +decide only [go_sem, *] <;> rfl)) ?_
    refine goF ?_
    refine drS (k := 8) [none, none, none, none, none, none, none, some 0] (fun k => match k with
      | 0 => HH R ++ [z32B, runB R (.own (NN + 2) i 0 i) (.own (NN + 3) i 0 i) b, intB l1, intB l2]
      | _ => HH R ++ [z32B, runB R (.own (NN + 2) i 0 i) (.own (NN + 3) i 0 i) b, intB (l1 ++ [t.state]), intB l2]) 1 follows ?_
    refine gS ?_
    refine gS ?_
    refine gS ?_
    refine gS ?_
    refine gS ?_
    refine gS ?_
    refine GRun.q1 (v := .lst [.int t.state]) rfl rfl (fun _ _ => ql_buildSlice (by decide) Tryd.underlying25 sz3 (by kernel_rfl) (by decide) (by (simp +decide only [List.map, go_sem, *] <;> rfl)) (by (simp +decide only [List.map, go_sem, *] <;> rfl)) rfl) ?_
    refine GRun.p1 (v := .own (NN + 2) (i + 1) 0 (i + 1)) rfl rfl (fun ρ' h => ?_) ?_
    · have h1 := pl_append (P := Tryd.prog) (ρ := ρ') (H := HH R ++ [z32B, runB R (.own (NN + 2) i 0 i) (.own (NN + 3) i 0 i) b, intB l1, intB l2]) (b := NN + 2) (tot := i) (es := [.int t.state]) (blk := intB l1) ((h (.tmp 45) (by simp [Op.operands, Call.operands])).trans (by simp +decide only [go_sem, *] <;> rfl)) ((h (.tmp 50) (by simp [Op.operands, Call.operands])).trans (by simp +decide only [go_sem, *] <;> rfl)) (by simp +decide only [go_sem, *] <;> rfl) (by simp [hll1]) Tryd.underlying25 el3 rfl rfl (by simp) (fun e he => by rw [List.mem_singleton] at he; subst he; exact ⟨rfl, rfl⟩) (by simp; omega) (by simp; omega)
      rw [app_setT hlR] at h1
      have e1 : intB (l1 ++ [t.state]) = ⟨3, 1, l1.map AV.int ++ [.int t.state]⟩ := by simp
      show PL Tryd.prog _ ρ' _ _ (HH R ++ [z32B, runB R (.own (NN + 2) i 0 i) (.own (NN + 3) i 0 i) b, intB (l1 ++ [t.state]), intB l2])
      rw [e1]
      exact h1
    refine GRun.nil ?_
    refine rcS ?_
    refine zOut' ?_
    refine AWp.weaken (s2 := ⟨[(4, .ptr NN 1 0 0), (6, ptR), (8, .ptr (NN + 1) 1 0 0), (10, ptK i), (38, .own (ix .tk) R.tasks.length 0 R.tasks.length), (39, .int R.tasks.length), (40, .int i)], HH R ++ [z32B, runB R (.own (NN + 2) (i + 1) 0 (i + 1)) (.own (NN + 3) i 0 i) b, intB (l1 ++ [t.state]), intB l2]⟩) ?_ ?_
    · exact .wf (hH := by simp +decide only [go_sem, *] <;> rfl)
    refine AWp.seq ?_
    refine drS (k := 8) [none, none, none, none, none, none, none, some 0] (fun k => match k with
      | 0 => HH R ++ [z32B, runB R (.own (NN + 2) (i + 1) 0 (i + 1)) (.own (NN + 3) i 0 i) b, intB (l1 ++ [t.state]), intB l2]
      | _ => HH R ++ [z32B, runB R (.own (NN + 2) (i + 1) 0 (i + 1)) (.own (NN + 3) i 0 i) b, intB (l1 ++ [t.state]), intB (l2 ++ [t.par])]) 1 follows ?_
    refine gS ?_
    refine gS ?_
    refine gS ?_
    refine gS ?_
    refine gS ?_
    refine gS ?_
    refine GRun.q1 (v := .lst [.int t.par]) rfl rfl (fun _ _ => ql_buildSlice (by decide) Tryd.underlying25 sz3 (by kernel_rfl) (by decide) (by (simp +decide only [List.map, go_sem, *] <;> rfl)) (by (simp +decide only [List.map, go_sem, *] <;> rfl)) rfl) ?_
    refine GRun.p1 (v := .own (NN + 3) (i + 1) 0 (i + 1)) rfl rfl (fun ρ' h => ?_) ?_
    · have h1 := pl_append (P := Tryd.prog) (ρ := ρ') (H := HH R ++ [z32B, runB R (.own (NN + 2) (i + 1) 0 (i + 1)) (.own (NN + 3) i 0 i) b, intB (l1 ++ [t.state]), intB l2]) (b := NN + 3) (tot := i) (es := [.int t.par]) (blk := intB l2) ((h (.tmp 54) (by simp [Op.operands, Call.operands])).trans (by simp +decide only [go_sem, *] <;> rfl)) ((h (.tmp 59) (by simp [Op.operands, Call.operands])).trans (by simp +decide only [go_sem, *] <;> rfl)) (by simp +decide only [go_sem, *] <;> rfl) (by simp [hll2]) Tryd.underlying25 el3 rfl rfl (by simp) (fun e he => by rw [List.mem_singleton] at he; subst he; exact ⟨rfl, rfl⟩) (by simp; omega) (by simp; omega)
      rw [app_setT hlR] at h1
      have e1 : intB (l2 ++ [t.par]) = ⟨3, 1, l2.map AV.int ++ [.int t.par]⟩ := by simp
      show PL Tryd.prog _ ρ' _ _ (HH R ++ [z32B, runB R (.own (NN + 2) (i + 1) 0 (i + 1)) (.own (NN + 3) i 0 i) b, intB (l1 ++ [t.state]), intB (l2 ++ [t.par])])
      rw [e1]
      exact h1
    refine GRun.nil ?_
    refine rcS ?_
    refine zOut' ?_
    refine AWp.weaken (s2 := ⟨[(4, .ptr NN 1 0 0), (6, ptR), (8, .ptr (NN + 1) 1 0 0), (10, ptK i), (38, .own (ix .tk) R.tasks.length 0 R.tasks.length), (39, .int R.tasks.length), (40, .int i)], HH R ++ [z32B, runB R (.own (NN + 2) (i + 1) 0 (i + 1)) (.own (NN + 3) (i + 1) 0 (i + 1)) b, intB (l1 ++ [t.state]), intB (l2 ++ [t.par])]⟩) ?_ ?_
    · exact .wf (hH := by simp +decide only [go_sem, *] <;> rfl)
    have iov := over_ok ht g1
    cases b with
    | false =>
      refine goF ?_
      refine gxA (.bool false) ?_
      refine goF ?_
      rw [wrap_succ (by omega)]
      refine ⟨i + 1, by omega, by omega, ?_⟩
      rw [hn1.out, hn2.out, hn3.out]
      exact .wf
    | true =>
      refine goF ?_
      refine ARun.gpl rfl rfl (by simp +decide only [go_sem, *] <;> rfl) rfl (pl_callR hwR hwR (T := [z32B, runB R (.own (NN + 2) (i + 1) 0 (i + 1)) (.own (NN + 3) (i + 1) 0 (i + 1)) true, intB (l1 ++ [t.state]), intB (l2 ++ [t.par])]) iov rfl (by simp +decide only [go_sem, *] <;> rfl) (by simp +decide only [go_sem, *] <;> rfl) (by
        intro a ha
        rw [List.mem_singleton] at ha; subst ha
        exact .ptr g1) (.pu (.base _))) ?_
      refine goF ?_
      rw [wrap_succ (by omega)]
      refine ⟨i + 1, by omega, by omega, ?_⟩
      rw [hn1.out, hn2.out, hn3.out]
      exact .wf
  · have hd : decide ((i : Int) < (R.tasks.length : Int)) = false := decide_eq_false (by omega)
    have hin : R.tasks.length = i := by omega
    have hti : R.tasks.take i = R.tasks := by rw [← hin]; exact List.take_length
    rw [hti]
    obtain ⟨l1, hl1⟩ : ∃ l1, l1 = R.tasks.map (·.state) := ⟨_, rfl⟩
    obtain ⟨l2, hl2⟩ : ∃ l2, l2 = R.tasks.map (·.par) := ⟨_, rfl⟩
    obtain ⟨b, hb⟩ : ∃ b, b = R.tasks.all fun t => decide (3 ≤ t.state) := ⟨_, rfl⟩
    have hll1 : l1.length = i := by rw [hl1, List.length_map]; exact hin
    have hll2 : l2.length = i := by rw [hl2, List.length_map]; exact hin
    have hV : ranV R = .agg [.lst (R.lines.map fun x => .base (.string x)), .lst (R.accs.map encA), .lst (l1.map AV.int), .lst (l2.map AV.int), .base (.bool b), .int R.turns.length] := by rw [hl1, hl2, hb]; rfl
    rw [hV, ← hl1, ← hl2, ← hb]
    clear hl1 hl2 hb hV hti hin
    refine goF ?_
    refine iff_ ?_ rfl (by simp +decide only [go_sem, *] <;> rfl)
    refine goF ?_
    refine Ret.pub (vs := [.agg [.own (ix .ln) R.lines.length 0 R.lines.length, .own (ix .ac) R.accs.length 0 R.accs.length, .own (NN + 2) i 0 i, .own (NN + 3) i 0 i, .base (.bool b), .int R.turns.length], .int 0]) (by show resVals _ _ [.cell 4 32, .tmp 5] = _; simp +decide only [resVals, resVal, ldPtr, ldE, go_sem, *] <;> rfl) ?_
    have hpi : ∀ x : Int, ∀ c ∈ (AV.int x).cells, Pu c := fun x c hc => by simp only [AV.cells, List.mem_singleton] at hc; subst hc; exact .base _
    refine .tup' ⟨.agg' ⟨.ownM (ty := 9) (sz := 1) (f := fun x => .base (.string x)) (Nat.zero_le _) (by rw [app_get hlR ixl_ln, HH_get R _ ixl_ln]; rfl) rfl (fun x _ c hc => by simp only [AV.cells, List.mem_singleton] at hc; subst hc; exact .base _),
      .ownM (ty := 73) (sz := 4) (f := encA) (Nat.zero_le _) (by rw [app_get hlR ixl_ac, HH_get R _ ixl_ac]; rfl) rfl (fun x _ c hc => by
        simp only [encA, AV.cells, List.mem_cons, List.not_mem_nil, or_false] at hc
        rcases hc with rfl | rfl | rfl | rfl <;> exact .base _),
      .ownM (ty := 3) (sz := 1) (f := AV.int) (Nat.zero_le _) (app_getT hlR) hll1 (fun x _ c hc => hpi x c hc),
      .ownM (ty := 3) (sz := 1) (f := AV.int) (Nat.zero_le _) (app_getT hlR) hll2 (fun x _ c hc => hpi x c hc), .pu (.base _), .pu (.base _), trivial⟩, .pu (.base _), trivial⟩
end Go.Ab
set_option maxHeartbeats 4000000
namespace Go.Ab
open Go Go.Ab Go.Proofs Go.Ab.Ty

def p0 : Tk := ⟨[⟨0, 1, [⟨1, 0, 0, 5, 0, []⟩, ⟨4, 0, 0, 0, 0, []⟩]⟩], [], 0⟩
theorem end0_turns : (endF p0 []).turns.length = 2 := by
  unfold endF; decide +kernel
theorem end0_states : (endF p0 []).tasks.map (·.state) = [3] := by
  unfold endF; decide +kernel
theorem end0_line : (endF p0 []).lines = [⟨#[48, 58, 53]⟩] := by
  unfold endF; decide +kernel
theorem end0_all : ((endF p0 []).tasks.all fun t => decide (3 ≤ t.state)) = true := by
  unfold endF; decide +kernel
theorem ok0 : okRun p0 [] := by
  have hs1 : Rg.okStep ⟨p0, Rg.cod p0.codes 0, 0, false⟩ 0 ⟨1, 0, 0, 5, 0, []⟩ := .inl ⟨.inl rfl, ⟨fun v hv => by rw [List.mem_singleton] at hv; subst hv; exact ⟨by decide, by decide⟩, by decide⟩, rfl, by decide, by decide, rfl, rfl⟩
  have hs2 : Rg.okStep ⟨p0, Rg.cod p0.codes 0, 0, false⟩ 1 ⟨4, 0, 0, 0, 0, []⟩ := .inr (.inr (.inl ⟨rfl, ⟨fun v hv => by rw [List.mem_singleton] at hv; subst hv; exact ⟨by decide, by decide⟩, by decide⟩, rfl, rfl, rfl, rfl⟩))
  refine ⟨⟨⟨by decide, by decide, by decide, by decide, by decide⟩, fun i hi => ?_, fun i hi => absurd hi (Nat.not_lt_zero _)⟩, by decide⟩
  have : i = 0 := by have : i < 1 := hi; omega
  subst this
  refine ⟨⟨by decide, by decide, by decide, by decide, by decide⟩, fun k hk => ?_⟩
  have hk2 : k < 2 := hk
  rcases k with _ | _ | k
  · exact hs1
  · exact hs2
  · omega
theorem ran0 : ∃ (ac : List Acc) (ps : List Int), ranV (endF p0 []) = .agg [.lst [.base (.string ⟨#[48, 58, 53]⟩)], .lst (ac.map encA), .lst [.int 3], .lst (ps.map AV.int), .base (.bool true), .int 2] :=
  ⟨(endF p0 []).accs, (endF p0 []).tasks.map (·.par), by
    unfold ranV
    rw [end0_line, end0_states, end0_all, end0_turns]
    rfl⟩
end Go.Ab
set_option maxHeartbeats 4000000
namespace Go.Ab
open Go Go.Ab Go.Proofs Go.Ab.Ty

theorem Le.lstL {es ds : List AV} (hl : es.length = ds.length) (h : ∀ (i : Nat) (e d : AV), es[i]? = some e → ds[i]? = some d → LeL e.cells d.cells) : Le (.lst es) (.lst ds) := fun w O ι H u hu => by
  have hex : ∀ (i : Nat) (d : AV), ds[i]? = some d → ∃ e, es[i]? = some e ∧ LeL e.cells d.cells := fun i d hd => by
    have hi : i < es.length := by rw [hl]; exact (List.getElem?_eq_some_iff.1 hd).1
    exact ⟨_, List.getElem?_eq_getElem hi, h i _ d (List.getElem?_eq_getElem hi) hd⟩
  cases hu with
  | lnil =>
    obtain rfl : ds = [] := List.eq_nil_of_length_eq_zero hl.symm
    exact .lnil
  | lst es a n cap s val hn hcap hmax hlen hspot hc hv =>
    refine .lst ds a n cap s val (hn.trans hl) hcap hmax (fun d hd => ?_) (fun d hd => ?_) (fun i j d c hd hc' => ?_) (fun i j d c hd hc' => ?_)
    · obtain ⟨i, hi⟩ := List.getElem?_of_mem hd
      obtain ⟨e, he, hle⟩ := hex i d hi
      rw [← hle.len]; exact hlen e (List.mem_of_getElem? he)
    · obtain ⟨i, hi⟩ := List.getElem?_of_mem hd
      obtain ⟨e, he, hle⟩ := hex i d hi
      exact hspot e (List.mem_of_getElem? he)
    · obtain ⟨e, he, hle⟩ := hex i d hd
      obtain ⟨y, hy, _⟩ := hle.at hc'
      exact hc i j e y he hy
    · obtain ⟨e, he, hle⟩ := hex i d hd
      obtain ⟨y, hy, hll⟩ := hle.at hc'
      exact hll _ _ _ _ _ (hv i j e y he hy)
theorem LeL.refl : ∀ l : List AV, LeL l l
  | [] => trivial
  | a :: l => ⟨.refl a, LeL.refl l⟩
abbrev n0 : AV := .agg [.lst [.agg [.int 0, .int 1, .lst [.agg [.int 1, .int 0, .int 0, .int 5, .int 0, nilS], .agg [.int 4, .int 0, .int 0, .int 0, .int 0, nilS]]]], nilS, .int 0]
theorem n0_le : Le n0 (encT p0) := by
  have hs : ∀ (a b c d e : Int), Le (.agg [.int a, .int b, .int c, .int d, .int e, nilS]) (encS ⟨a, b, c, d, e, []⟩) := fun a b c d e => .aggL ⟨.refl _, .refl _, .refl _, .refl _, .refl _, .nil, trivial⟩
  refine .aggL ⟨.lst1 ⟨.refl _, .refl _, .lstL rfl fun i e d h1 h2 => ?_, trivial⟩, .nil, .refl _, trivial⟩
  rcases i with _ | _ | i
  · cases h1; cases h2; exact ⟨.refl _, .refl _, .refl _, .refl _, .refl _, .nil, trivial⟩
  · cases h1; cases h2; exact ⟨.refl _, .refl _, .refl _, .refl _, .refl _, .nil, trivial⟩
  · cases h1
theorem pu_n0 : Pu n0 := by
  have hS : ∀ (x : AV), x ∈ [AV.agg [.int 1, .int 0, .int 0, .int 5, .int 0, nilS], .agg [.int 4, .int 0, .int 0, .int 0, .int 0, nilS]] → ∀ c ∈ x.cells, Pu c := fun x hx c hc => by
    simp only [List.mem_cons, List.not_mem_nil, or_false] at hx
    rcases hx with rfl | rfl <;> (simp only [AV.cells, List.mem_cons, List.not_mem_nil, or_false] at hc; rcases hc with rfl | rfl | rfl | rfl | rfl | rfl <;> exact .base _)
  refine .agg fun c hc => ?_
  simp only [List.mem_cons, List.not_mem_nil, or_false] at hc
  rcases hc with rfl | rfl | rfl
  · refine .lst fun e he c hc => ?_
    rw [List.mem_singleton] at he; subst he
    simp only [AV.cells, List.mem_cons, List.not_mem_nil, or_false] at hc
    rcases hc with rfl | rfl | rfl
    · exact .base _
    · exact .base _
    · exact .lst hS
  · exact .base _
  · exact .base _
theorem awake_ok {mm : List (Nat × Obj)} (hmm : TabM mm) : FnM Tryd.prog mm 22 [] (.bool true) := by
  have ir0 := run_ok hmm ok0
  obtain ⟨ac, ps, e0⟩ := ran0
  rw [e0] at ir0
  have ir : FnM Tryd.prog mm 17 [n0, nilS] _ := ir0.le ⟨n0_le, .nil, trivial⟩
  clear ir0 e0
  refine FnM.intro' [] 0 52 Tryd.func22 (by kernel_rfl) rfl rfl rfl rfl rfl ?_
  refine goA ?_
  refine bldA pl70 zero70 ?_
  refine goA ?_
  refine bldA pl70 zero70 ?_
  refine goA ?_
  refine ARun.q1 rfl rfl (ql_buildSlice (by decide) Tryd.underlying66 sz70 (by kernel_rfl) (by decide) (by (simp +decide only [List.map, go_sem, *] <;> rfl)) (by (simp +decide only [List.map, go_sem, *] <;> rfl)) rfl) ?_
  refine goA ?_
  refine bldA pl68 zero68 ?_
  refine goA ?_
  refine ARun.q1 rfl rfl (ql_buildSlice (by decide) Tryd.underlying22 sz68 (by kernel_rfl) (by decide) (by (simp +decide only [List.map, go_sem, *] <;> rfl)) (by (simp +decide only [List.map, go_sem, *] <;> rfl)) rfl) ?_
  refine goA ?_
  refine bldA pl24 zero24 ?_
  refine goA ?_
  have hp0 : ∀ a ∈ [n0, nilS], Pu a := fun a ha => by
    simp only [List.mem_cons, List.not_mem_nil, or_false] at ha
    rcases ha with rfl | rfl
    · exact pu_n0
    · exact .base _
  refine callA ir ?_ (hp := hp0)
  refine goA ?_
  refine gqA (h := fun hg => ql_indexAddr_lst (e := .base (.string ⟨#[48, 58, 53]⟩)) rfl rfl Tryd.underlying29 (by omega) rfl (by kernel_rfl)) (hr := ?_)
  refine goA ?_
  refine gqA (h := fun hg => ql_indexAddr_lst (e := .int 3) rfl rfl Tryd.underlying25 (by omega) rfl (by kernel_rfl)) (hr := ?_)
  refine goA ?_
  exact Ret.data (vs := [.bool true]) rfl rfl (.base _)
end Go.Ab
set_option maxHeartbeats 4000000
namespace Go.Ab
open Go Go.Ab Go.Proofs Go.Ab.Ty

end Go.Ab
set_option maxHeartbeats 4000000
namespace Go.Ab
open Go Go.Ab Go.Proofs Go.Ab.Ty

abbrev strV (x : ByteArray) : AV := .base (.string x)
instance : OfNat ByteArray 0 := ⟨ByteArray.empty⟩

end Go.Ab
set_option maxHeartbeats 4000000
namespace Go.Ab
open Go Go.Ab Go.Proofs Go.Ab.Ty Go.RowKit

deriving instance DecidableEq for Acc
instance : Inhabited Acc := ⟨⟨0, 0, false, 0⟩⟩
instance : OfNat Acc 0 := ⟨⟨0, 0, false, 0⟩⟩
end Go.Ab
set_option maxHeartbeats 4000000
namespace Go.Ab
open Go Go.Ab Go.Proofs Go.Ab.Ty

end Go.Ab
set_option maxHeartbeats 4000000
namespace Go.Ab
open Go Go.Ab Go.Proofs Go.Ab.Ty

structure TR where
  lines : List ByteArray
  accs : List Acc
  states : List Int
  pars : List Int
  all : Bool
  turns : Int
deriving DecidableEq
def encR (x : TR) : AV := .agg [.lst (x.lines.map strV), .lst (x.accs.map encA), .lst (x.states.map .int), .lst (x.pars.map .int), .base (.bool x.all), .int x.turns]
attribute [go_sem] encR
@[simp] theorem Pu_mapStr (l : List ByteArray) : Pu (.lst (l.map strV)) := .lst fun e he c hc => by
  obtain ⟨x, _, rfl⟩ := List.mem_map.1 he
  simp only [AV.cells, List.mem_singleton] at hc; subst hc; exact .base _
@[simp] theorem Pu_mapAcc (l : List Acc) : Pu (.lst (l.map encA)) := .lst fun e he c hc => by
  obtain ⟨x, _, rfl⟩ := List.mem_map.1 he
  simp only [encA, AV.cells, List.mem_cons, List.not_mem_nil, or_false] at hc
  rcases hc with rfl | rfl | rfl | rfl <;> exact .base _
@[simp] theorem Pu_mapInt2 (l : List Int) : Pu (.lst (l.map .int)) := Pu_mapInt l
end Go.Ab
set_option maxHeartbeats 4000000
namespace Go.Ab
open Go Go.Ab Go.Proofs Go.Ab.Ty

end Go.Ab
set_option maxHeartbeats 4000000
namespace Go.Ab
open Go Go.Ab Go.Proofs Go.Ab.Ty

theorem Pu_encR (x : TR) : Pu (encR x) := .agg fun c hc => by
  simp only [List.mem_cons, List.not_mem_nil, or_false] at hc
  rcases hc with rfl | rfl | rfl | rfl | rfl | rfl
  · exact Pu_mapStr _
  · exact Pu_mapAcc _
  · exact Pu_mapInt _
  · exact Pu_mapInt _
  · exact .base _
  · exact .base _
attribute [simp] Pu_encR
end Go.Ab
set_option maxHeartbeats 4000000
namespace Go.Ab
open Go Go.Ab Go.Proofs Go.Ab.Ty

theorem shI3 {f : Nat} {xs : List AV} (h : Sh Tryd.prog f 3 xs) : ∃ n : Int, xs = [.int n] := by
  cases f with
  | zero => exact h.elim
  | succ f =>
    simp only [Sh, Tryd.underlying3] at h
    obtain ⟨n, h1, h2⟩ := h
    exact ⟨n, h1⟩
theorem allMap {α : Type} {Q : List AV → Prop} {f : α → AV} {g : List AV → AV} {parts : List (List AV)} (h : ∀ p ∈ parts, Q p) (hq : ∀ p, Q p → ∃ x, g p = f x) : ∃ l : List α, parts.map g = l.map f := by
  induction parts with
  | nil => exact ⟨[], rfl⟩
  | cons p ps ih =>
    obtain ⟨l, hl⟩ := ih fun q hq' => h q (by simp [hq'])
    obtain ⟨x, hx⟩ := hq p (h p (by simp))
    exact ⟨x :: l, by rw [List.map_cons, List.map_cons, hl, hx]⟩
theorem shL25 {f : Nat} {xs : List AV} (h : Sh Tryd.prog f 25 xs) : ∃ l : List Int, xs = [.lst (l.map .int)] := by
  cases f with
  | zero => exact h.elim
  | succ f =>
    simp only [Sh, Tryd.underlying25] at h
    obtain ⟨parts, rfl, hl, h⟩ := h
    obtain ⟨l, h1⟩ := allMap (f := AV.int) (g := mkEl (aggTy Tryd.prog 3 == some true)) h fun p hp => by
      obtain ⟨n, rfl⟩ := shI3 hp.2
      exact ⟨n, by rw [agg3]; rfl⟩
    exact ⟨l, by rw [h1]⟩
theorem six {α : Type} {l : List α} (h : l.length = 6) : ∃ p0 p1 p2 p3 p4 p5, l = [p0, p1, p2, p3, p4, p5] := by
  match l, h with
  | [p0, p1, p2, p3, p4, p5], _ => exact ⟨_, _, _, _, _, _, rfl⟩
end Go.Ab
set_option maxHeartbeats 4000000
namespace Go.Proofs.YthgicbkdckpeaaaDoor
open Go.ChangeShapes Go.WideShapes Go.ChangeAt Go.RowKit Go.Lib Go.Ab
theorem own : ownKnob Tryd.prog.godebug = none := by kernel_rfl
set_option maxRecDepth 100000 in
theorem powD : (Rows.laid_internal_strconv_uint64pow10 : DataW Unit) = tabData .u64 pow10Tab := by kernel_rfl
theorem tabs {W : World} (h : laidMetH Tryd.prog [("math/bits.deBruijn32tab", Rows.laid_math_bits_deBruijn32tab), ("math/bits.deBruijn64tab", Rows.laid_math_bits_deBruijn64tab), ("internal/strconv.uint64pow10", Rows.laid_internal_strconv_uint64pow10)] W) : ∃ mm, TabM mm ∧ ∀ p ∈ mm, W.heap[p.1]? = some p.2 := by
  have h : laidMet Tryd.prog [("math/bits.deBruijn32tab", Rows.laid_math_bits_deBruijn32tab), ("math/bits.deBruijn64tab", Rows.laid_math_bits_deBruijn64tab), ("internal/strconv.uint64pow10", Rows.laid_internal_strconv_uint64pow10)] W := h
  obtain ⟨g, t, cs, fuel, p, h1, h2, h3, h4⟩ := laidMet.reads h (n := "internal/strconv.uint64pow10") (d := tabData .u64 pow10Tab) (by rw [powD]; exact List.mem_cons_of_mem _ (List.mem_cons_of_mem _ (List.mem_singleton.2 rfl)))
  have e1 : Tryd.prog.globalNamed "internal/strconv.uint64pow10" = some 0 := laysI.m17
  obtain rfl := Option.some.inj (e1.symm.trans h1)
  have e2 : (Tryd.prog.globals[0]?).map (·.type) = some 177 := by kernel_rfl
  obtain rfl := Option.some.inj (e2.symm.trans h2)
  have hcs := cells_of_tab (P := Tryd.prog) (t := 177) (e := 171) (n := 20) (k := .u64) (zs := pow10Tab) (by kernel_rfl) (by kernel_rfl) (by kernel_rfl) (by kernel_rfl) h4
  unfold World.var? at h3
  rw [e1] at h3
  simp only [Option.bind_some] at h3
  split at h3
  · rename_i c ty fz hc
    injection h3 with h3
    subst h3
    refine ⟨[(0, .cells c ty fz)], ⟨ty, fz, ?_⟩, fun p hp => ?_⟩
    · rw [← hcs]
    · rw [List.mem_singleton] at hp; subst hp; exact hc
  · cases h3
def layT (l : List Value) : Obj → Obj
  | .cells _ t frozen => .cells l.toArray t frozen
  | o => o
def lay0 : List Value := pow10Tab.map fun z => Value.int .u64 z
def lay1 : List Value := [0, 1, 28, 2, 29, 14, 24, 3, 30, 22, 20, 15, 25, 17, 4, 8, 31, 27, 13, 23, 21, 19, 16, 7, 26, 12, 18, 6, 11, 5, 10, 9].map fun z => Value.int .u8 z
def lay2 : List Value := [0, 1, 56, 2, 57, 49, 28, 3, 61, 58, 42, 50, 38, 29, 17, 4, 62, 47, 59, 36, 45, 43, 51, 22, 53, 39, 33, 30, 24, 18, 12, 5, 63, 55, 48, 27, 60, 41, 37, 16, 46, 35, 44, 21, 52, 32, 23, 11, 54, 26, 40, 15, 34, 20, 31, 10, 25, 14, 19, 9, 13, 8, 7, 6].map fun z => Value.int .u8 z
noncomputable def layHeap (os : Os) : Array Obj := (((World.holding Tryd.prog os ⟨#[], #[], []⟩).heap.modify 0 (layT lay0)).modify 1 (layT lay1)).modify 2 (layT lay2)
noncomputable def laidWorld (os : Os) : World := { World.holding Tryd.prog os ⟨#[], #[], []⟩ with heap := layHeap os }
end Go.Proofs.YthgicbkdckpeaaaDoor
set_option maxHeartbeats 4000000
namespace Go.Ab
open Go Go.Ab Go.Proofs Go.Ab.Ty

theorem three {α : Type} {l : List α} (h : l.length = 3) : ∃ p0 p1 p2, l = [p0, p1, p2] := by
  match l, h with
  | [p0, p1, p2], _ => exact ⟨_, _, _, rfl⟩
theorem shS70 {f : Nat} {p : List AV} (h : Sh Tryd.prog f 70 p) : ∃ x : Stp, AV.agg p = encS x := by
  cases f with
  | zero => exact h.elim
  | succ f =>
    simp only [Sh, Tryd.underlying70] at h
    obtain ⟨parts, hlen, rfl, h⟩ := h
    obtain ⟨p0, p1, p2, p3, p4, p5, rfl⟩ := six (show parts.length = 6 from hlen)
    obtain ⟨a0, rfl⟩ := shI3 (h 0 _ p0 rfl rfl).2
    obtain ⟨a1, rfl⟩ := shI3 (h 1 _ p1 rfl rfl).2
    obtain ⟨a2, rfl⟩ := shI3 (h 2 _ p2 rfl rfl).2
    obtain ⟨a3, rfl⟩ := shI3 (h 3 _ p3 rfl rfl).2
    obtain ⟨a4, rfl⟩ := shI3 (h 4 _ p4 rfl rfl).2
    obtain ⟨a5, rfl⟩ := shL25 (h 5 _ p5 rfl rfl).2
    exact ⟨⟨a0, a1, a2, a3, a4, a5⟩, rfl⟩
theorem shL66 {f : Nat} {xs : List AV} (h : Sh Tryd.prog f 66 xs) : ∃ l : List Stp, xs = [.lst (l.map encS)] := by
  cases f with
  | zero => exact h.elim
  | succ f =>
    simp only [Sh, Tryd.underlying66] at h
    obtain ⟨parts, rfl, hl, h⟩ := h
    obtain ⟨l, h1⟩ := allMap (f := encS) (g := mkEl (aggTy Tryd.prog 70 == some true)) h fun p hp => by
      obtain ⟨n, hn⟩ := shS70 hp.2
      exact ⟨n, by rw [agg70]; exact hn⟩
    exact ⟨l, by rw [h1]⟩
theorem shC68 {f : Nat} {p : List AV} (h : Sh Tryd.prog f 68 p) : ∃ x : Cd, AV.agg p = encC x := by
  cases f with
  | zero => exact h.elim
  | succ f =>
    simp only [Sh, Tryd.underlying68] at h
    obtain ⟨parts, hlen, rfl, h⟩ := h
    obtain ⟨p0, p1, p2, rfl⟩ := three (show parts.length = 3 from hlen)
    obtain ⟨a0, rfl⟩ := shI3 (h 0 _ p0 rfl rfl).2
    obtain ⟨a1, rfl⟩ := shI3 (h 1 _ p1 rfl rfl).2
    obtain ⟨a2, rfl⟩ := shL66 (h 2 _ p2 rfl rfl).2
    exact ⟨⟨a0, a1, a2⟩, rfl⟩
theorem shL22 {f : Nat} {xs : List AV} (h : Sh Tryd.prog f 22 xs) : ∃ l : List Cd, xs = [.lst (l.map encC)] := by
  cases f with
  | zero => exact h.elim
  | succ f =>
    simp only [Sh, Tryd.underlying22] at h
    obtain ⟨parts, rfl, hl, h⟩ := h
    obtain ⟨l, h1⟩ := allMap (f := encC) (g := mkEl (aggTy Tryd.prog 68 == some true)) h fun p hp => by
      obtain ⟨n, hn⟩ := shC68 hp.2
      exact ⟨n, by rw [agg68]; exact hn⟩
    exact ⟨l, by rw [h1]⟩
theorem shT24 {a : AV} (h : ShV Tryd.prog 24 a) : ∃ x : Tk, a = encT x := by
  unfold ShV at h
  obtain ⟨f, p, h, hn, e⟩ := h
  cases f with
  | zero => exact h.elim
  | succ f =>
    simp only [Sh, Tryd.underlying24] at h
    have ⟨parts, hlen, e2, h3⟩ := h
    clear h
    subst e2
    obtain ⟨p0, p1, p2, hp⟩ := three (show parts.length = 3 from hlen)
    rw [hp] at h3 e
    have g0 : Sh Tryd.prog f 22 p0 := (h3 0 _ p0 rfl rfl).2
    have g1 : Sh Tryd.prog f 22 p1 := (h3 1 _ p1 rfl rfl).2
    have g2 : Sh Tryd.prog f 3 p2 := (h3 2 _ p2 rfl rfl).2
    obtain ⟨a0, rfl⟩ := shL22 g0
    obtain ⟨a1, rfl⟩ := shL22 g1
    obtain ⟨a2, rfl⟩ := shI3 g2
    exact ⟨⟨a0, a1, a2⟩, by rw [e, agg24]; rfl⟩
theorem shL25V {a : AV} (h : ShV Tryd.prog 25 a) : ∃ l : List Int, a = .lst (l.map .int) := by
  unfold ShV at h
  obtain ⟨f, p, h, hn, e⟩ := h
  obtain ⟨l, rfl⟩ := shL25 h
  exact ⟨l, by rw [e, agg25]; rfl⟩
end Go.Ab
