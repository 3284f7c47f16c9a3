/- Part of the proof. -/
import Derived.Test.YthgicbkdckpeaaaDoorG31
set_option linter.unusedSimpArgs false
set_option linter.unusedVariables false
set_option maxHeartbeats 4000000
namespace Go.Ab
open Go Go.Ab Go.Proofs Go.Ab.Ty

def PRun.setO (s : PRun) (o : Nat) (x : Int × Int) : PRun := { s with objs := s.objs.set o x }
theorem HH_setO {s : PRun} {o : Nat} {x : Int × Int} : (HH s).set (ix .ob) ⟨157, 2, (s.objs.set o x).map encO⟩ = HH (s.setO o x) :=
  HH_upd (s := s) (s' := s.setO o x) [(.ob, _)] (upd1 ⟨ixl_ob, rfl⟩) fun a ha => by
    cases a with
    | ob => simp at ha
    | rn => simp only [blk, rnB, PRun.setO, List.length_set]
    | _ => rfl
theorem step_c {s : PRun} (h : Iv s) {n j : Nat} {t : PTask} {c : PCall} {vn wn o : Nat} {x : Int × Int} {y nn tk : Int} {vs : List Int} {time : Int} (ht : s.tasks[n]? = some t) (hc : s.calls[j]? = some c) (hac : -1 ≤ c.actor ∧ c.actor ≤ 1000) (hv : c.vars[vn]? = some (o : Int)) (hwv : c.vars[wn]? = some y) (ho : s.objs[o]? = some x) (hac2 : s.accs.length ≤ 900000) :
    FnH Tryd.prog 91 [ptR, .int n, encS ⟨3, vn, wn, nn, tk, vs⟩, ptC j, .int time] (HH s) (.bool true) (HH ((s.addA ⟨whoF c n, o, true, time⟩).setO o (x.1, y))) := by
  have hw := h.wf
  obtain ⟨g1, g2, g3, g4, hn, g6⟩ := hw.k ht
  obtain ⟨k1, k2⟩ := hw.c hc
  have hlen := HH_len s
  refine FnH.intro' [(0, ptR), (1, .int n), (2, encS ⟨3, vn, wn, nn, tk, vs⟩), (3, ptC j), (4, .int time)] 5 372 NN Tryd.func91 (by kernel_rfl) rfl rfl rfl rfl rfl (HH_len s) ?_
  refine goF ?_
  refine ARun.q1 rfl rfl (ql_ixo (n := n) (b := ix .tk) (by simp +decide only [go_sem, *] <;> rfl) (by simp +decide only [go_sem, *] <;> rfl) Tryd.underlying80 (by simp +decide only [go_sem, *] <;> rfl) (by simp) hn (by simp +decide only [go_sem, *] <;> rfl)) ?_
  refine goF ?_
  refine AWp.join ⟨[(1, .int n), (3, ptC j), (5, .ptr NN 1 0 0), (7, .ptr (NN + 1) 1 0 0), (9, .ptr (NN + 2) 1 0 0), (12, .ptr (NN + 3) 1 0 0), (11, ptK n), (10, .bool false)], HH s ++ stT ⟨3, vn, wn, nn, tk, vs⟩ time (whoF c n)⟩ ?_ ?_
  · by_cases ha : 0 ≤ c.actor
    · have hd : decide (c.actor ≥ 0) = true := by simp [ha]
      have hwr : IntKind.i64.wrap (-1 - c.actor) = -1 - c.actor := wrap_id (by omega) (by omega)
      have hwf : whoF c n = -1 - c.actor := if_pos ha
      refine ift_ ?_ rfl (by simp +decide only [go_sem, *] <;> rfl)
      refine goF ?_
      rw [hwf]
      exact .wf (hH := by show (HH s ++ _).set (NN + 3) _ = _; rw [app_setT (HH_len s)]; rfl)
    · have hd : decide (c.actor ≥ 0) = false := by simp; omega
      have hwf : whoF c n = n := if_neg ha
      refine iff_ ?_ rfl (by simp +decide only [go_sem, *] <;> rfl)
      refine goF ?_
      rw [hwf]
      exact .wf
  obtain ⟨who, hwho⟩ : ∃ who, who = whoF c n := ⟨_, rfl⟩
  rw [← hwho]
  clear hwho
  have hvv := vrsV_own (j := j) hv
  have hvm : (c.vars.map AV.int)[vn]? = some (.int o) := by rw [List.getElem?_map, hv]; rfl
  have hwm : (c.vars.map AV.int)[wn]? = some (.int y) := by rw [List.getElem?_map, hwv]; rfl
  have hvl : vn < c.vars.length := (List.getElem?_eq_some_iff.1 hv).1
  have hwl : wn < c.vars.length := (List.getElem?_eq_some_iff.1 hwv).1
  have is := step1_ok (s := s) (st := ⟨3, vn, wn, nn, tk, vs⟩) (time := time) (who := who) (o := o) (w := true) hac2
  refine goF ?_
  refine iff_ ?_ rfl (by simp +decide only [go_sem, *] <;> rfl)
  refine goF ?_
  refine iff_ ?_ rfl (by simp +decide only [go_sem, *] <;> rfl)
  refine goF ?_
  refine ift_ ?_ rfl (by simp +decide only [go_sem, *] <;> rfl)
  refine goF ?_
  refine drA (k := 9) follows (hr := ?_)
  refine goF ?_
  refine ARun.q1 rfl rfl (ql_ixo (n := vn) (b := ix (.vrs j)) (by simp +decide only [go_sem, *] <;> rfl) (by simp +decide only [go_sem, *] <;> rfl) Tryd.underlying25 (by simp +decide only [go_sem, *] <;> rfl) (by simp) hvl (by simp +decide only [go_sem, *] <;> rfl)) ?_
  refine goF ?_
  refine ARun.p1 rfl rfl (pl_callW (caps := [.ptr NN 1 0 0, .ptr (NN + 3) 1 0 0, .ptr (NN + 2) 1 0 0]) is (by simp [HH_len]) rfl (by simp +decide only [go_sem, List.map]) (by simp +decide only [go_sem, *] <;> rfl)) ?_
  obtain ⟨s1, hs1⟩ : ∃ s1, s1 = s.addA ⟨who, o, true, time⟩ := ⟨_, rfl⟩
  have hs1' : Hid (s.addA ⟨who, o, true, time⟩ = s1) := ⟨hs1.symm⟩
  have hc1 : s1.calls[j]? = some c := by rw [hs1]; exact hc
  have ho1 : s1.objs[o]? = some x := by rw [hs1]; exact ho
  have hw1 : WF s1 := by rw [hs1]; exact (h.addA _ (by omega)).wf
  clear hs1 is
  rw [hs1'.out]
  refine goF ?_
  refine drA (k := 20) follows (hr := ?_)
  refine goF ?_
  refine ARun.q1 rfl rfl (ql_ixo (n := vn) (b := ix (.vrs j)) (by simp +decide only [go_sem, *] <;> rfl) (by simp +decide only [go_sem, *] <;> rfl) Tryd.underlying25 (by simp +decide only [go_sem, *] <;> rfl) (by simp) hvl (by simp +decide only [go_sem, *] <;> rfl)) ?_
  refine goF ?_
  refine ARun.q1 rfl rfl (ql_ixo (n := wn) (b := ix (.vrs j)) (by simp +decide only [go_sem, *] <;> rfl) (by simp +decide only [go_sem, *] <;> rfl) Tryd.underlying25 (by simp +decide only [go_sem, *] <;> rfl) (by simp) hwl (by simp +decide only [go_sem, *] <;> rfl)) ?_
  refine goF ?_
  have hol : o < s1.objs.length := (List.getElem?_eq_some_iff.1 ho1).1
  have hom : (s1.objs.map encO)[o]? = some (encO x) := by rw [List.getElem?_map, ho1]; rfl
  have e1 := HH_setO (s := s1) (o := o) (x := (x.1, y))
  rw [List.map_set] at e1
  have hw2 : WF (s1.setO o (x.1, y)) := ⟨hw1.1, hw1.2, hw1.3, hw1.4, hw1.5, hw1.6, hw1.7, hw1.8, hw1.9, hw1.10, hw1.11, by
    obtain ⟨a1, a2⟩ := hw1.12
    exact ⟨by simp only [PRun.setO, List.length_set]; exact a1, a2⟩, hw1.13, hw1.14⟩
  refine ARun.q1 rfl rfl (ql_ixo (n := o) (b := ix .ob) (by simp +decide only [go_sem, *] <;> rfl) (by simp +decide only [go_sem, *] <;> rfl) Tryd.underlying79 (by simp +decide only [go_sem, *] <;> rfl) (by simp) hol (by simp +decide only [go_sem, *] <;> rfl)) ?_
  refine goF ?_
  refine ARun.p1 rfl rfl (pl_store (b := ix .ob) (tot := s1.objs.length) (i := o) (off := 1) (blk := ⟨157, 2, s1.objs.map encO⟩) (v := .int y) (by simp +decide only [go_sem, *] <;> rfl) (by simp +decide only [go_sem, *] <;> rfl) (by simp +decide only [go_sem, *] <;> rfl) (by simp) hom sz3 rfl rfl) ?_
  refine goF ?_
  exact .runV (stT ⟨3, vn, wn, nn, tk, vs⟩ time who) hw2 (vs := [.bool true]) (by show resVals _ _ [.tmp 10] = _; simp +decide only [resVals, resVal, ldPtr, ldE, go_sem, *] <;> rfl) rfl rfl (.pu (.base _))
end Go.Ab
set_option maxHeartbeats 4000000
namespace Go.Ab
open Go Go.Ab Go.Proofs Go.Ab.Ty

theorem step_e {s : PRun} (h : Iv s) {n j : Nat} {t : PTask} {c : PCall} {vn o : Nat} {x : Int × Int} {w nn tk : Int} {vs : List Int} {time : Int} (ht : s.tasks[n]? = some t) (hc : s.calls[j]? = some c) (hac : -1 ≤ c.actor ∧ c.actor ≤ 1000) (hv : c.vars[vn]? = some (o : Int)) (ho : s.objs[o]? = some x) (hac2 : s.accs.length ≤ 900000) :
    FnH Tryd.prog 91 [ptR, .int n, encS ⟨5, vn, w, nn, tk, vs⟩, ptC j, .int time] (HH s) (.bool true) (HH ((s.addA ⟨whoF c n, o, true, time⟩).setO o (nn, x.2))) := by
  have hw := h.wf
  obtain ⟨g1, g2, g3, g4, hn, g6⟩ := hw.k ht
  obtain ⟨k1, k2⟩ := hw.c hc
  have hlen := HH_len s
  refine FnH.intro' [(0, ptR), (1, .int n), (2, encS ⟨5, vn, w, nn, tk, vs⟩), (3, ptC j), (4, .int time)] 5 372 NN Tryd.func91 (by kernel_rfl) rfl rfl rfl rfl rfl (HH_len s) ?_
  refine goF ?_
  refine ARun.q1 rfl rfl (ql_ixo (n := n) (b := ix .tk) (by simp +decide only [go_sem, *] <;> rfl) (by simp +decide only [go_sem, *] <;> rfl) Tryd.underlying80 (by simp +decide only [go_sem, *] <;> rfl) (by simp) hn (by simp +decide only [go_sem, *] <;> rfl)) ?_
  refine goF ?_
  refine AWp.join ⟨[(1, .int n), (3, ptC j), (5, .ptr NN 1 0 0), (7, .ptr (NN + 1) 1 0 0), (9, .ptr (NN + 2) 1 0 0), (12, .ptr (NN + 3) 1 0 0), (11, ptK n), (10, .bool false)], HH s ++ stT ⟨5, vn, w, nn, tk, vs⟩ time (whoF c n)⟩ ?_ ?_
  · by_cases ha : 0 ≤ c.actor
    · have hd : decide (c.actor ≥ 0) = true := by simp [ha]
      have hwr : IntKind.i64.wrap (-1 - c.actor) = -1 - c.actor := wrap_id (by omega) (by omega)
      have hwf : whoF c n = -1 - c.actor := if_pos ha
      refine ift_ ?_ rfl (by simp +decide only [go_sem, *] <;> rfl)
      refine goF ?_
      rw [hwf]
      exact .wf (hH := by show (HH s ++ _).set (NN + 3) _ = _; rw [app_setT (HH_len s)]; rfl)
    · have hd : decide (c.actor ≥ 0) = false := by simp; omega
      have hwf : whoF c n = n := if_neg ha
      refine iff_ ?_ rfl (by simp +decide only [go_sem, *] <;> rfl)
      refine goF ?_
      rw [hwf]
      exact .wf
  obtain ⟨who, hwho⟩ : ∃ who, who = whoF c n := ⟨_, rfl⟩
  rw [← hwho]
  clear hwho
  have hvv := vrsV_own (j := j) hv
  have hvm : (c.vars.map AV.int)[vn]? = some (.int o) := by rw [List.getElem?_map, hv]; rfl
  have hvl : vn < c.vars.length := (List.getElem?_eq_some_iff.1 hv).1
  have is := step1_ok (s := s) (st := ⟨5, vn, w, nn, tk, vs⟩) (time := time) (who := who) (o := o) (w := true) hac2
  refine goF ?_
  refine iff_ ?_ rfl (by simp +decide only [go_sem, *] <;> rfl)
  refine goF ?_
  refine iff_ ?_ rfl (by simp +decide only [go_sem, *] <;> rfl)
  refine goF ?_
  refine iff_ ?_ rfl (by simp +decide only [go_sem, *] <;> rfl)
  refine goF ?_
  refine iff_ ?_ rfl (by simp +decide only [go_sem, *] <;> rfl)
  refine goF ?_
  refine ift_ ?_ rfl (by simp +decide only [go_sem, *] <;> rfl)
  refine goF ?_
  refine drA (k := 6) follows (hr := ?_)
  refine goF ?_
  refine ARun.q1 rfl rfl (ql_ixo (n := vn) (b := ix (.vrs j)) (by simp +decide only [go_sem, *] <;> rfl) (by simp +decide only [go_sem, *] <;> rfl) Tryd.underlying25 (by simp +decide only [go_sem, *] <;> rfl) (by simp) hvl (by simp +decide only [go_sem, *] <;> rfl)) ?_
  refine goF ?_
  refine ARun.p1 rfl rfl (pl_callW (caps := [.ptr NN 1 0 0, .ptr (NN + 3) 1 0 0, .ptr (NN + 2) 1 0 0]) is (by simp [HH_len]) rfl (by simp +decide only [go_sem, List.map]) (by simp +decide only [go_sem, *] <;> rfl)) ?_
  obtain ⟨s1, hs1⟩ : ∃ s1, s1 = s.addA ⟨who, o, true, time⟩ := ⟨_, rfl⟩
  have hs1' : Hid (s.addA ⟨who, o, true, time⟩ = s1) := ⟨hs1.symm⟩
  have hc1 : s1.calls[j]? = some c := by rw [hs1]; exact hc
  have ho1 : s1.objs[o]? = some x := by rw [hs1]; exact ho
  have hw1 : WF s1 := by rw [hs1]; exact (h.addA _ (by omega)).wf
  clear hs1 is
  rw [hs1'.out]
  have hol : o < s1.objs.length := (List.getElem?_eq_some_iff.1 ho1).1
  have hom : (s1.objs.map encO)[o]? = some (encO x) := by rw [List.getElem?_map, ho1]; rfl
  have e1 := HH_setO (s := s1) (o := o) (x := (nn, x.2))
  rw [List.map_set] at e1
  have hw2 : WF (s1.setO o (nn, x.2)) := ⟨hw1.1, hw1.2, hw1.3, hw1.4, hw1.5, hw1.6, hw1.7, hw1.8, hw1.9, hw1.10, hw1.11, by
    obtain ⟨a1, a2⟩ := hw1.12
    exact ⟨by simp only [PRun.setO, List.length_set]; exact a1, a2⟩, hw1.13, hw1.14⟩
  refine goF ?_
  refine drA (k := 7) follows (hr := ?_)
  refine goF ?_
  refine ARun.q1 rfl rfl (ql_ixo (n := o) (b := ix .ob) (by simp +decide only [go_sem, *] <;> rfl) (by simp +decide only [go_sem, *] <;> rfl) Tryd.underlying79 (by simp +decide only [go_sem, *] <;> rfl) (by simp) hol (by simp +decide only [go_sem, *] <;> rfl)) ?_
  refine goF ?_
  refine ARun.p1 rfl rfl (pl_store (b := ix .ob) (tot := s1.objs.length) (i := o) (off := 0) (blk := ⟨157, 2, s1.objs.map encO⟩) (v := .int nn) (by simp +decide only [go_sem, *] <;> rfl) (by simp +decide only [go_sem, *] <;> rfl) (by simp +decide only [go_sem, *] <;> rfl) (by simp) hom sz3 rfl rfl) ?_
  refine goF ?_
  exact .runV (stT ⟨5, vn, w, nn, tk, vs⟩ time who) hw2 (vs := [.bool true]) (by show resVals _ _ [.tmp 10] = _; simp +decide only [resVals, resVal, ldPtr, ldE, go_sem, *] <;> rfl) rfl rfl (.pu (.base _))
end Go.Ab
set_option maxHeartbeats 4000000
namespace Go.Ab
open Go Go.Ab Go.Proofs Go.Ab.Ty

theorem step_h {s : PRun} (h : Iv s) {n j : Nat} {t : PTask} {c : PCall} {wn o : Nat} {x : Int × Int} {v w y tk : Int} {vs : List Int} {time : Int} (ht : s.tasks[n]? = some t) (hc : s.calls[j]? = some c) (hac : -1 ≤ c.actor ∧ c.actor ≤ 1000) (hv : c.vars[wn]? = some y) (ho32 : o ≤ 1000000) (ho : s.objs[o]? = some x) (hac2 : s.accs.length ≤ 900000) :
    FnH Tryd.prog 91 [ptR, .int n, encS ⟨8, v, w, o, tk, (wn : Int) :: vs⟩, ptC j, .int time] (HH s) (.bool true) (HH ((s.addA ⟨-1 - (o : Int), o, true, time⟩).setO o (x.1, y))) := by
  have hw := h.wf
  obtain ⟨g1, g2, g3, g4, hn, g6⟩ := hw.k ht
  obtain ⟨k1, k2⟩ := hw.c hc
  have hlen := HH_len s
  refine FnH.intro' [(0, ptR), (1, .int n), (2, encS ⟨8, v, w, o, tk, (wn : Int) :: vs⟩), (3, ptC j), (4, .int time)] 5 372 NN Tryd.func91 (by kernel_rfl) rfl rfl rfl rfl rfl (HH_len s) ?_
  refine goF ?_
  refine ARun.q1 rfl rfl (ql_ixo (n := n) (b := ix .tk) (by simp +decide only [go_sem, *] <;> rfl) (by simp +decide only [go_sem, *] <;> rfl) Tryd.underlying80 (by simp +decide only [go_sem, *] <;> rfl) (by simp) hn (by simp +decide only [go_sem, *] <;> rfl)) ?_
  refine goF ?_
  refine AWp.join ⟨[(1, .int n), (3, ptC j), (5, .ptr NN 1 0 0), (7, .ptr (NN + 1) 1 0 0), (9, .ptr (NN + 2) 1 0 0), (12, .ptr (NN + 3) 1 0 0), (11, ptK n), (10, .bool false)], HH s ++ stT ⟨8, v, w, o, tk, (wn : Int) :: vs⟩ time (whoF c n)⟩ ?_ ?_
  · by_cases ha : 0 ≤ c.actor
    · have hd : decide (c.actor ≥ 0) = true := by simp [ha]
      have hwr : IntKind.i64.wrap (-1 - c.actor) = -1 - c.actor := wrap_id (by omega) (by omega)
      have hwf : whoF c n = -1 - c.actor := if_pos ha
      refine ift_ ?_ rfl (by simp +decide only [go_sem, *] <;> rfl)
      refine goF ?_
      rw [hwf]
      exact .wf (hH := by show (HH s ++ _).set (NN + 3) _ = _; rw [app_setT (HH_len s)]; rfl)
    · have hd : decide (c.actor ≥ 0) = false := by simp; omega
      have hwf : whoF c n = n := if_neg ha
      refine iff_ ?_ rfl (by simp +decide only [go_sem, *] <;> rfl)
      refine goF ?_
      rw [hwf]
      exact .wf
  obtain ⟨who, hwho⟩ : ∃ who, who = whoF c n := ⟨_, rfl⟩
  rw [← hwho]
  clear hwho
  have hvv := vrsV_own (j := j) hv
  have hvm : (c.vars.map AV.int)[wn]? = some (.int y) := by rw [List.getElem?_map, hv]; rfl
  have hvl : wn < c.vars.length := (List.getElem?_eq_some_iff.1 hv).1
  have is := step1_ok (s := s) (st := ⟨8, v, w, o, tk, (wn : Int) :: vs⟩) (time := time) (who := -1 - (o : Int)) (o := o) (w := true) hac2
  have hwo : IntKind.i64.wrap (-1 - (o : Int)) = -1 - (o : Int) := wrap_id (by omega) (by omega)
  refine goF ?_
  refine iff_ ?_ rfl (by simp +decide only [go_sem, *] <;> rfl)
  refine goF ?_
  refine iff_ ?_ rfl (by simp +decide only [go_sem, *] <;> rfl)
  refine goF ?_
  refine iff_ ?_ rfl (by simp +decide only [go_sem, *] <;> rfl)
  refine goF ?_
  refine iff_ ?_ rfl (by simp +decide only [go_sem, *] <;> rfl)
  refine goF ?_
  refine iff_ ?_ rfl (by simp +decide only [go_sem, *] <;> rfl)
  refine goF ?_
  refine iff_ ?_ rfl (by simp +decide only [go_sem, *] <;> rfl)
  refine goF ?_
  refine iff_ ?_ rfl (by simp +decide only [go_sem, *] <;> rfl)
  refine goF ?_
  refine ift_ ?_ rfl (by simp +decide only [go_sem, *] <;> rfl)
  refine goF ?_
  have hT : ∀ a b c d e : ABlk, (HH s ++ [a, b, c, d]).set (NN + 3) e = HH s ++ [a, b, c, e] := fun a b c d e => app_setT (HH_len s)
  refine ARun.p1 rfl rfl (pl_callW (caps := [.ptr NN 1 0 0, .ptr (NN + 3) 1 0 0, .ptr (NN + 2) 1 0 0]) is (by simp [HH_len]) rfl (by simp +decide only [go_sem, List.map]) (by simp +decide only [go_sem, *] <;> rfl)) ?_
  obtain ⟨s1, hs1⟩ : ∃ s1, s1 = s.addA ⟨-1 - (o : Int), o, true, time⟩ := ⟨_, rfl⟩
  have hs1' : Hid (s.addA ⟨-1 - (o : Int), o, true, time⟩ = s1) := ⟨hs1.symm⟩
  have hc1 : s1.calls[j]? = some c := by rw [hs1]; exact hc
  have ho1 : s1.objs[o]? = some x := by rw [hs1]; exact ho
  have hw1 : WF s1 := by rw [hs1]; exact (h.addA _ (by omega)).wf
  clear hs1 is
  rw [hs1'.out]
  have hol : o < s1.objs.length := (List.getElem?_eq_some_iff.1 ho1).1
  have hom : (s1.objs.map encO)[o]? = some (encO x) := by rw [List.getElem?_map, ho1]; rfl
  have e1 := HH_setO (s := s1) (o := o) (x := (x.1, y))
  rw [List.map_set] at e1
  have hw2 : WF (s1.setO o (x.1, y)) := ⟨hw1.1, hw1.2, hw1.3, hw1.4, hw1.5, hw1.6, hw1.7, hw1.8, hw1.9, hw1.10, hw1.11, by
    obtain ⟨a1, a2⟩ := hw1.12
    exact ⟨by simp only [PRun.setO, List.length_set]; exact a1, a2⟩, hw1.13, hw1.14⟩
  refine goF ?_
  refine drA (k := 16) follows (hr := ?_)
  refine goF ?_
  refine ARun.q1 rfl rfl (ql_indexAddr_lst (by simp +decide only [go_sem, *] <;> rfl) (by simp +decide only [go_sem, *] <;> rfl) Tryd.underlying25 (by omega) (e := .int wn) rfl (by kernel_rfl)) ?_
  refine goF ?_
  refine ARun.q1 rfl rfl (ql_ixo (n := wn) (b := ix (.vrs j)) (by simp +decide only [go_sem, *] <;> rfl) (by simp +decide only [go_sem, *] <;> rfl) Tryd.underlying25 (by simp +decide only [go_sem, *] <;> rfl) (by simp) hvl (by simp +decide only [go_sem, *] <;> rfl)) ?_
  refine goF ?_
  refine ARun.q1 rfl rfl (ql_ixo (n := o) (b := ix .ob) (by simp +decide only [go_sem, *] <;> rfl) (by simp +decide only [go_sem, *] <;> rfl) Tryd.underlying79 (by simp +decide only [go_sem, *] <;> rfl) (by simp) hol (by simp +decide only [go_sem, *] <;> rfl)) ?_
  refine goF ?_
  refine ARun.p1 rfl rfl (pl_store (b := ix .ob) (tot := s1.objs.length) (i := o) (off := 1) (blk := ⟨157, 2, s1.objs.map encO⟩) (v := .int y) (by simp +decide only [go_sem, *] <;> rfl) (by simp +decide only [go_sem, *] <;> rfl) (by simp +decide only [go_sem, *] <;> rfl) (by simp) hom sz3 rfl rfl) ?_
  refine goF ?_
  exact .runV (stT ⟨8, v, w, o, tk, (wn : Int) :: vs⟩ time (-1 - (o : Int))) hw2 (vs := [.bool true]) (by show resVals _ _ [.tmp 10] = _; simp +decide only [resVals, resVal, ldPtr, ldE, go_sem, *] <;> rfl) rfl rfl (.pu (.base _))
end Go.Ab
set_option maxHeartbeats 4000000
namespace Go.Ab
open Go Go.Ab Go.Proofs Go.Ab.Ty

theorem step_b {s : PRun} (h : Iv s) {n j : Nat} {t : PTask} {c : PCall} {vn wn o : Nat} {x : Int × Int} {nn tk : Int} {vs : List Int} {time : Int} (ht : s.tasks[n]? = some t) (hc : s.calls[j]? = some c) (hac : -1 ≤ c.actor ∧ c.actor ≤ 1000) (hv : c.vars[wn]? = some (o : Int)) (hvn : vn < c.vars.length) (hx2 : 0 ≤ x.2) (ho : s.objs[o]? = some x) (hac2 : s.accs.length ≤ 900000) :
    FnH Tryd.prog 91 [ptR, .int n, encS ⟨2, vn, wn, nn, tk, vs⟩, ptC j, .int time] (HH s) (.bool true) (HH ((s.addA ⟨whoF c n, o, false, time⟩).cset j { c with vars := c.vars.set vn x.2 })) := by
  have hw := h.wf
  obtain ⟨g1, g2, g3, g4, hn, g6⟩ := hw.k ht
  obtain ⟨k1, k2⟩ := hw.c hc
  have hlen := HH_len s
  refine FnH.intro' [(0, ptR), (1, .int n), (2, encS ⟨2, vn, wn, nn, tk, vs⟩), (3, ptC j), (4, .int time)] 5 372 NN Tryd.func91 (by kernel_rfl) rfl rfl rfl rfl rfl (HH_len s) ?_
  refine goF ?_
  refine ARun.q1 rfl rfl (ql_ixo (n := n) (b := ix .tk) (by simp +decide only [go_sem, *] <;> rfl) (by simp +decide only [go_sem, *] <;> rfl) Tryd.underlying80 (by simp +decide only [go_sem, *] <;> rfl) (by simp) hn (by simp +decide only [go_sem, *] <;> rfl)) ?_
  refine goF ?_
  refine AWp.join ⟨[(1, .int n), (3, ptC j), (5, .ptr NN 1 0 0), (7, .ptr (NN + 1) 1 0 0), (9, .ptr (NN + 2) 1 0 0), (12, .ptr (NN + 3) 1 0 0), (11, ptK n), (10, .bool false)], HH s ++ stT ⟨2, vn, wn, nn, tk, vs⟩ time (whoF c n)⟩ ?_ ?_
  · by_cases ha : 0 ≤ c.actor
    · have hd : decide (c.actor ≥ 0) = true := by simp [ha]
      have hwr : IntKind.i64.wrap (-1 - c.actor) = -1 - c.actor := wrap_id (by omega) (by omega)
      have hwf : whoF c n = -1 - c.actor := if_pos ha
      refine ift_ ?_ rfl (by simp +decide only [go_sem, *] <;> rfl)
      refine goF ?_
      rw [hwf]
      exact .wf (hH := by show (HH s ++ _).set (NN + 3) _ = _; rw [app_setT (HH_len s)]; rfl)
    · have hd : decide (c.actor ≥ 0) = false := by simp; omega
      have hwf : whoF c n = n := if_neg ha
      refine iff_ ?_ rfl (by simp +decide only [go_sem, *] <;> rfl)
      refine goF ?_
      rw [hwf]
      exact .wf
  obtain ⟨who, hwho⟩ : ∃ who, who = whoF c n := ⟨_, rfl⟩
  rw [← hwho]
  clear hwho
  have hvv := vrsV_own (j := j) hv
  have hvm : (c.vars.map AV.int)[wn]? = some (.int o) := by rw [List.getElem?_map, hv]; rfl
  have hvl : wn < c.vars.length := (List.getElem?_eq_some_iff.1 hv).1
  have is := step1_ok (s := s) (st := ⟨2, vn, wn, nn, tk, vs⟩) (time := time) (who := who) (o := o) (w := false) hac2
  refine goF ?_
  refine iff_ ?_ rfl (by simp +decide only [go_sem, *] <;> rfl)
  refine goF ?_
  refine ift_ ?_ rfl (by simp +decide only [go_sem, *] <;> rfl)
  refine goF ?_
  refine drA (k := 6) follows (hr := ?_)
  refine goF ?_
  refine ARun.q1 rfl rfl (ql_ixo (n := wn) (b := ix (.vrs j)) (by simp +decide only [go_sem, *] <;> rfl) (by simp +decide only [go_sem, *] <;> rfl) Tryd.underlying25 (by simp +decide only [go_sem, *] <;> rfl) (by simp) hvl (by simp +decide only [go_sem, *] <;> rfl)) ?_
  refine goF ?_
  refine ARun.p1 rfl rfl (pl_callW (caps := [.ptr NN 1 0 0, .ptr (NN + 3) 1 0 0, .ptr (NN + 2) 1 0 0]) is (by simp [HH_len]) rfl (by simp +decide only [go_sem, List.map]) (by simp +decide only [go_sem, *] <;> rfl)) ?_
  obtain ⟨s1, hs1⟩ : ∃ s1, s1 = s.addA ⟨who, o, false, time⟩ := ⟨_, rfl⟩
  have hs1' : Hid (s.addA ⟨who, o, false, time⟩ = s1) := ⟨hs1.symm⟩
  have hc1 : s1.calls[j]? = some c := by rw [hs1]; exact hc
  have ho1 : s1.objs[o]? = some x := by rw [hs1]; exact ho
  have hw1 : WF s1 := by rw [hs1]; exact (h.addA _ (by omega)).wf
  clear hs1 is
  rw [hs1'.out]
  have hol : o < s1.objs.length := (List.getElem?_eq_some_iff.1 ho1).1
  have hom : (s1.objs.map encO)[o]? = some (encO x) := by rw [List.getElem?_map, ho1]; rfl
  refine goF ?_
  refine ARun.q1 rfl rfl (ql_ixo (n := o) (b := ix .ob) (by simp +decide only [go_sem, *] <;> rfl) (by simp +decide only [go_sem, *] <;> rfl) Tryd.underlying79 (by simp +decide only [go_sem, *] <;> rfl) (by simp) hol (by simp +decide only [go_sem, *] <;> rfl)) ?_
  refine goF ?_
  have hd : decide (x.2 < 0) = false := by simp; omega
  refine iff_ ?_ rfl (by simp +decide only [go_sem, *] <;> rfl)
  refine goF ?_
  obtain ⟨z, hz⟩ : ∃ z, c.vars[vn]? = some z := ⟨_, List.getElem?_eq_getElem hvn⟩
  have hset := HH_vset (s := s1) (c' := { c with vars := c.vars.set vn x.2 }) hc1 k2 (by simp) rfl
  have hwZ := hw1.cset (j := j) (c := { c with vars := c.vars.set vn x.2 }) (by simp; exact (hw.csz c (List.mem_of_getElem? hc)).1) (hw.csz c (List.mem_of_getElem? hc)).2
  refine drA (k := 14) follows (hr := ?_)
  refine goF ?_
  refine ARun.q1 rfl rfl (ql_ixo (n := o) (b := ix .ob) (by simp +decide only [go_sem, *] <;> rfl) (by simp +decide only [go_sem, *] <;> rfl) Tryd.underlying79 (by simp +decide only [go_sem, *] <;> rfl) (by simp) hol (by simp +decide only [go_sem, *] <;> rfl)) ?_
  refine goF ?_
  refine ARun.q1 rfl rfl (ql_ixo (n := vn) (b := ix (.vrs j)) (by simp +decide only [go_sem, *] <;> rfl) (by simp +decide only [go_sem, *] <;> rfl) Tryd.underlying25 (by simp +decide only [go_sem, *] <;> rfl) (by simp) hvn (by simp +decide only [go_sem, *] <;> rfl)) ?_
  refine ARun.p1 rfl rfl (pl_store_own (f := AV.int) (l := c.vars) (b := ix (.vrs j)) (tot := c.vars.length) (i := vn) (ty := 3) (sz := 1) x.2 (by simp +decide only [go_sem, *] <;> rfl) (by simp +decide only [go_sem, *] <;> rfl) (by simp +decide only [go_sem, *] <;> rfl) rfl hvn sz3 rfl rfl) ?_
  refine goF ?_
  exact .runV (stT ⟨2, vn, wn, nn, tk, vs⟩ time who) hwZ (vs := [.bool true]) (by show resVals _ _ [.tmp 10] = _; simp +decide only [resVals, resVal, ldPtr, ldE, go_sem, *] <;> rfl) rfl rfl (.pu (.base _))
end Go.Ab
set_option maxHeartbeats 4000000
namespace Go.Ab
open Go Go.Ab Go.Proofs Go.Ab.Ty

theorem step_b2 {s : PRun} (h : Iv s) {n j : Nat} {t : PTask} {c : PCall} {vn wn o : Nat} {x : Int × Int} {nn tk : Int} {vs : List Int} {time : Int} (ht : s.tasks[n]? = some t) (hc : s.calls[j]? = some c) (hac : -1 ≤ c.actor ∧ c.actor ≤ 1000) (hv : c.vars[wn]? = some (o : Int)) (hvn : vn < c.vars.length) (hx2 : x.2 < 0) (hob : s.objs.length ≤ 900000) (ho : s.objs[o]? = some x) (hac2 : s.accs.length ≤ 800000) :
    FnH Tryd.prog 91 [ptR, .int n, encS ⟨2, vn, wn, nn, tk, vs⟩, ptC j, .int time] (HH s) (.bool true) (HH (((((s.addA ⟨whoF c n, o, false, time⟩).mkO 0).setO o (x.1, s.objs.length)).addA ⟨whoF c n, o, true, time⟩).cset j { c with vars := c.vars.set vn s.objs.length })) := by
  have hw := h.wf
  obtain ⟨g1, g2, g3, g4, hn, g6⟩ := hw.k ht
  obtain ⟨k1, k2⟩ := hw.c hc
  have hlen := HH_len s
  refine FnH.intro' [(0, ptR), (1, .int n), (2, encS ⟨2, vn, wn, nn, tk, vs⟩), (3, ptC j), (4, .int time)] 5 372 NN Tryd.func91 (by kernel_rfl) rfl rfl rfl rfl rfl (HH_len s) ?_
  refine goF ?_
  refine ARun.q1 rfl rfl (ql_ixo (n := n) (b := ix .tk) (by simp +decide only [go_sem, *] <;> rfl) (by simp +decide only [go_sem, *] <;> rfl) Tryd.underlying80 (by simp +decide only [go_sem, *] <;> rfl) (by simp) hn (by simp +decide only [go_sem, *] <;> rfl)) ?_
  refine goF ?_
  refine AWp.join ⟨[(1, .int n), (3, ptC j), (5, .ptr NN 1 0 0), (7, .ptr (NN + 1) 1 0 0), (9, .ptr (NN + 2) 1 0 0), (12, .ptr (NN + 3) 1 0 0), (11, ptK n), (10, .bool false)], HH s ++ stT ⟨2, vn, wn, nn, tk, vs⟩ time (whoF c n)⟩ ?_ ?_
  · by_cases ha : 0 ≤ c.actor
    · have hd : decide (c.actor ≥ 0) = true := by simp [ha]
      have hwr : IntKind.i64.wrap (-1 - c.actor) = -1 - c.actor := wrap_id (by omega) (by omega)
      have hwf : whoF c n = -1 - c.actor := if_pos ha
      refine ift_ ?_ rfl (by simp +decide only [go_sem, *] <;> rfl)
      refine goF ?_
      rw [hwf]
      exact .wf (hH := by show (HH s ++ _).set (NN + 3) _ = _; rw [app_setT (HH_len s)]; rfl)
    · have hd : decide (c.actor ≥ 0) = false := by simp; omega
      have hwf : whoF c n = n := if_neg ha
      refine iff_ ?_ rfl (by simp +decide only [go_sem, *] <;> rfl)
      refine goF ?_
      rw [hwf]
      exact .wf
  obtain ⟨who, hwho⟩ : ∃ who, who = whoF c n := ⟨_, rfl⟩
  rw [← hwho]
  clear hwho
  have hvv := vrsV_own (j := j) hv
  have hvm : (c.vars.map AV.int)[wn]? = some (.int o) := by rw [List.getElem?_map, hv]; rfl
  have hvl : wn < c.vars.length := (List.getElem?_eq_some_iff.1 hv).1
  have is := step1_ok (s := s) (st := ⟨2, vn, wn, nn, tk, vs⟩) (time := time) (who := who) (o := o) (w := false) (by omega)
  refine goF ?_
  refine iff_ ?_ rfl (by simp +decide only [go_sem, *] <;> rfl)
  refine goF ?_
  refine ift_ ?_ rfl (by simp +decide only [go_sem, *] <;> rfl)
  refine goF ?_
  refine drA (k := 6) follows (hr := ?_)
  refine goF ?_
  refine ARun.q1 rfl rfl (ql_ixo (n := wn) (b := ix (.vrs j)) (by simp +decide only [go_sem, *] <;> rfl) (by simp +decide only [go_sem, *] <;> rfl) Tryd.underlying25 (by simp +decide only [go_sem, *] <;> rfl) (by simp) hvl (by simp +decide only [go_sem, *] <;> rfl)) ?_
  refine goF ?_
  refine ARun.p1 rfl rfl (pl_callW (caps := [.ptr NN 1 0 0, .ptr (NN + 3) 1 0 0, .ptr (NN + 2) 1 0 0]) is (by simp [HH_len]) rfl (by simp +decide only [go_sem, List.map]) (by simp +decide only [go_sem, *] <;> rfl)) ?_
  obtain ⟨s1, hs1⟩ : ∃ s1, s1 = s.addA ⟨who, o, false, time⟩ := ⟨_, rfl⟩
  have hs1' : Hid (s.addA ⟨who, o, false, time⟩ = s1) := ⟨hs1.symm⟩
  have hc1 : s1.calls[j]? = some c := by rw [hs1]; exact hc
  have ho1 : s1.objs[o]? = some x := by rw [hs1]; exact ho
  have hw1 : WF s1 := by rw [hs1]; exact (h.addA _ (by omega)).wf
  clear hs1 is
  rw [hs1'.out]
  have hol : o < s1.objs.length := (List.getElem?_eq_some_iff.1 ho1).1
  have hom : (s1.objs.map encO)[o]? = some (encO x) := by rw [List.getElem?_map, ho1]; rfl
  refine goF ?_
  refine ARun.q1 rfl rfl (ql_ixo (n := o) (b := ix .ob) (by simp +decide only [go_sem, *] <;> rfl) (by simp +decide only [go_sem, *] <;> rfl) Tryd.underlying79 (by simp +decide only [go_sem, *] <;> rfl) (by simp) hol (by simp +decide only [go_sem, *] <;> rfl)) ?_
  refine goF ?_
  have hd : decide (x.2 < 0) = true := by simp; omega
  have hlO : s1.objs.length = s.objs.length := by rw [← hs1'.out]; rfl
  have hac1 : s1.accs.length ≤ 800001 := by rw [← hs1'.out]; simp [PRun.addA]; omega
  refine ift_ ?_ rfl (by simp +decide only [go_sem, *] <;> rfl)
  refine goF ?_
  have hwO : WF (s1.mkO 0) := hw1.mkO 0 (by omega)
  refine ARun.p1 rfl rfl (pl_callR hw1 hwO (T := stT ⟨2, vn, wn, nn, tk, vs⟩ time who) (object_ok hw1 0 (by omega)) rfl (by simp +decide only [go_sem, *] <;> rfl) (by simp +decide only [go_sem, *] <;> rfl) (rfRi _) (.pu (.base _))) ?_
  rw [hlO]
  have hlO' : Hid (s1.objs.length = s.objs.length) := ⟨hlO⟩
  clear hlO
  obtain ⟨s2, hs2⟩ : ∃ s2, s2 = s1.mkO 0 := ⟨_, rfl⟩
  have hs2' : Hid (s1.mkO 0 = s2) := ⟨hs2.symm⟩
  have hc2 : s2.calls[j]? = some c := by rw [hs2]; exact hc1
  have ho2 : s2.objs[o]? = some x := by rw [hs2]; show (s1.objs ++ [(0, -1)])[o]? = _; rw [List.getElem?_append_left hol]; exact ho1
  have hw2 : WF s2 := by rw [hs2]; exact hwO
  have hl2 : Hid (s2.objs.length = s.objs.length + 1) := ⟨by rw [hs2]; show (s1.objs ++ [(0, -1)]).length = _; rw [List.length_append, hlO'.out]; rfl⟩
  clear hs2 hwO
  rw [hs2'.out]
  have hol2 : o < s2.objs.length := (List.getElem?_eq_some_iff.1 ho2).1
  have hom2 : (s2.objs.map encO)[o]? = some (encO x) := by rw [List.getElem?_map, ho2]; rfl
  have e1 := HH_setO (s := s2) (o := o) (x := (x.1, (s.objs.length : Int)))
  rw [List.map_set] at e1
  clear ho1 hom hol hc1
  refine goF ?_
  refine ARun.q1 rfl rfl (ql_ixo (n := o) (b := ix .ob) (by simp +decide only [go_sem, *] <;> rfl) (by simp +decide only [go_sem, *] <;> rfl) Tryd.underlying79 (by simp +decide only [go_sem, *] <;> rfl) (by simp) hol2 (by simp +decide only [go_sem, *] <;> rfl)) ?_
  refine goF ?_
  refine ARun.p1 rfl rfl (pl_store (b := ix .ob) (tot := s2.objs.length) (i := o) (off := 1) (blk := ⟨157, 2, s2.objs.map encO⟩) (v := .int s.objs.length) (by simp +decide only [go_sem, *] <;> rfl) (by simp +decide only [go_sem, *] <;> rfl) (by simp +decide only [go_sem, *] <;> rfl) (by simp) hom2 sz3 rfl rfl) ?_
  obtain ⟨s3, hs3⟩ : ∃ s3, s3 = s2.setO o (x.1, (s.objs.length : Int)) := ⟨_, rfl⟩
  rw [← hs3] at e1
  have hs3' : Hid (s2.setO o (x.1, (s.objs.length : Int)) = s3) := ⟨hs3.symm⟩
  have hc3 : s3.calls[j]? = some c := by rw [hs3]; exact hc2
  have ho3 : s3.objs[o]? = some (x.1, (s.objs.length : Int)) := by rw [hs3]; show (s2.objs.set o _)[o]? = _; rw [List.getElem?_set_self hol2]
  have hw3 : WF s3 := by
    rw [hs3]
    exact ⟨hw2.1, hw2.2, hw2.3, hw2.4, hw2.5, hw2.6, hw2.7, hw2.8, hw2.9, hw2.10, hw2.11, by
      obtain ⟨a1, a2⟩ := hw2.12
      exact ⟨by simp only [PRun.setO, List.length_set]; exact a1, a2⟩, hw2.13, hw2.14⟩
  have hac3 : s3.accs.length ≤ 800001 := by rw [hs3, ← hs2'.out]; exact hac1
  have is2 := step1_ok (s := s3) (st := ⟨2, vn, wn, nn, tk, vs⟩) (time := time) (who := who) (o := o) (w := true) (by omega)
  clear hs3 ho2 hom2 hol2 hc2 hac1
  rw [hs3'.out]
  refine goF ?_
  refine ARun.p1 rfl rfl (pl_callW (caps := [.ptr NN 1 0 0, .ptr (NN + 3) 1 0 0, .ptr (NN + 2) 1 0 0]) is2 (by simp [HH_len]) rfl (by simp +decide only [go_sem, List.map]) (by simp +decide only [go_sem, *] <;> rfl)) ?_
  obtain ⟨s4, hs4⟩ : ∃ s4, s4 = s3.addA ⟨who, o, true, time⟩ := ⟨_, rfl⟩
  have hs4' : Hid (s3.addA ⟨who, o, true, time⟩ = s4) := ⟨hs4.symm⟩
  have hc4 : s4.calls[j]? = some c := by rw [hs4]; exact hc3
  have ho4 : s4.objs[o]? = some (x.1, (s.objs.length : Int)) := by rw [hs4]; exact ho3
  have hw4 : WF s4 := by
    rw [hs4]
    exact ⟨hw3.1, hw3.2, hw3.3, hw3.4, hw3.5, hw3.6, hw3.7, hw3.8, hw3.9, hw3.10, hw3.11, by
      obtain ⟨a1, a2, a3, a4⟩ := hw3.12
      exact ⟨a1, a2, by simp [PRun.addA]; omega, a4⟩, hw3.13, hw3.14⟩
  clear hs4 is2 ho3 hc3 e1
  rw [hs4'.out]
  have hol4 : o < s4.objs.length := (List.getElem?_eq_some_iff.1 ho4).1
  have hom4 : (s4.objs.map encO)[o]? = some (encO (x.1, (s.objs.length : Int))) := by rw [List.getElem?_map, ho4]; rfl
  refine goF ?_
  obtain ⟨z, hz⟩ : ∃ z, c.vars[vn]? = some z := ⟨_, List.getElem?_eq_getElem hvn⟩
  have hset := HH_vset (s := s4) (c' := { c with vars := c.vars.set vn (s.objs.length : Int) }) hc4 k2 (by simp) rfl
  have hwZ := hw4.cset (j := j) (c := { c with vars := c.vars.set vn (s.objs.length : Int) }) (by simp; exact (hw.csz c (List.mem_of_getElem? hc)).1) (hw.csz c (List.mem_of_getElem? hc)).2
  refine drA (k := 14) follows (hr := ?_)
  refine goF ?_
  refine ARun.q1 rfl rfl (ql_ixo (n := o) (b := ix .ob) (by simp +decide only [go_sem, *] <;> rfl) (by simp +decide only [go_sem, *] <;> rfl) Tryd.underlying79 (by simp +decide only [go_sem, *] <;> rfl) (by simp) hol4 (by simp +decide only [go_sem, *] <;> rfl)) ?_
  refine goF ?_
  refine ARun.q1 rfl rfl (ql_ixo (n := vn) (b := ix (.vrs j)) (by simp +decide only [go_sem, *] <;> rfl) (by simp +decide only [go_sem, *] <;> rfl) Tryd.underlying25 (by simp +decide only [go_sem, *] <;> rfl) (by simp) hvn (by simp +decide only [go_sem, *] <;> rfl)) ?_
  refine ARun.p1 rfl rfl (pl_store_own (f := AV.int) (l := c.vars) (b := ix (.vrs j)) (tot := c.vars.length) (i := vn) (ty := 3) (sz := 1) (s.objs.length : Int) (by simp +decide only [go_sem, *] <;> rfl) (by simp +decide only [go_sem, *] <;> rfl) (by simp +decide only [go_sem, *] <;> rfl) rfl hvn sz3 rfl rfl) ?_
  refine goF ?_
  exact .runV (stT ⟨2, vn, wn, nn, tk, vs⟩ time who) hwZ (vs := [.bool true]) (by show resVals _ _ [.tmp 10] = _; simp +decide only [resVals, resVal, ldPtr, ldE, go_sem, *] <;> rfl) rfl rfl (.pu (.base _))
end Go.Ab
