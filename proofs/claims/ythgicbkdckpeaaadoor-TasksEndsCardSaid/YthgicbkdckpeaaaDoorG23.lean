/- Part of the proof. -/
import Derived.Test.YthgicbkdckpeaaaDoorG22
import Derived.Test.YthgicbkdckpeaaaDoorG16
set_option linter.unusedSimpArgs false
set_option linter.unusedVariables false
set_option maxHeartbeats 4000000
namespace Go.Ab
open Go Go.Ab Go.Proofs Go.Ab.Ty

structure Kok (s : PRun) : Prop where
  kd : ∀ k t, s.tasks[k]? = some t → ∀ c : Int, c ∈ t.kids → ∃ j : Nat, c = j ∧ k < j ∧ j < s.tasks.length
def canL (s : PRun) (l : List Nat) : PRun := { s with tasks := s.tasks.mapIdx fun k t => if k ∈ l then { t with canc := true } else t }
theorem canL_len {s : PRun} {l : List Nat} : (canL s l).tasks.length = s.tasks.length := by simp [canL]
theorem canL_at {s : PRun} {l : List Nat} {k : Nat} {t : PTask} (ht : s.tasks[k]? = some t) : (canL s l).tasks[k]? = some (if k ∈ l then { t with canc := true } else t) := by
  simp [canL, List.getElem?_mapIdx, ht]
theorem canL_of {s : PRun} {l : List Nat} {k : Nat} {t' : PTask} (ht : (canL s l).tasks[k]? = some t') : ∃ t, s.tasks[k]? = some t ∧ t' = if k ∈ l then { t with canc := true } else t := by
  have hk : k < s.tasks.length := by rw [← canL_len (l := l)]; exact (List.getElem?_eq_some_iff.1 ht).1
  obtain ⟨t, h⟩ : ∃ t, s.tasks[k]? = some t := ⟨_, List.getElem?_eq_getElem hk⟩
  rw [canL_at h] at ht
  exact ⟨t, h, by injection ht with e; exact e.symm⟩
theorem canL_nil {s : PRun} : canL s [] = s := by
  unfold canL
  have : s.tasks.mapIdx (fun k t => if k ∈ ([] : List Nat) then { t with canc := true } else t) = s.tasks := by
    refine List.ext_getElem? fun k => ?_
    rw [List.getElem?_mapIdx]
    cases s.tasks[k]? <;> simp
  rw [this]
theorem canL_app {s : PRun} {l m : List Nat} : canL (canL s l) m = canL s (l ++ m) := by
  unfold canL
  simp only [PRun.mk.injEq, true_and, and_true]
  refine List.ext_getElem? fun k => ?_
  simp only [List.getElem?_mapIdx, Option.map_map]
  congr 1
  funext t
  simp only [Function.comp, List.mem_append]
  by_cases h1 : k ∈ l <;> by_cases h2 : k ∈ m <;> simp [h1, h2]
theorem canL_tset {s : PRun} {l : List Nat} {k : Nat} {t : PTask} (ht : (canL s l).tasks[k]? = some t) : (canL s l).tset k { t with canc := true } = canL s (l ++ [k]) := by
  rw [← canL_app]
  generalize canL s l = s' at ht
  unfold canL PRun.tset
  simp only [PRun.mk.injEq, true_and, and_true]
  refine List.ext_getElem? fun i => ?_
  rw [List.getElem?_mapIdx, List.getElem?_set]
  by_cases h : k = i
  · subst h; rw [if_pos rfl, if_pos (List.getElem?_eq_some_iff.1 ht).1, ht]; simp
  · rw [if_neg h]; cases s'.tasks[i]? <;> simp [Ne.symm h]
theorem Kok.can {s : PRun} (h : Kok s) (l : List Nat) : Kok (canL s l) := ⟨fun k t' ht c hc => by
  obtain ⟨t, h1, rfl⟩ := canL_of ht
  rw [canL_len]
  refine h.kd k t h1 c ?_
  split at hc <;> exact hc⟩
theorem WF.can {s : PRun} (hw : WF s) (l : List Nat) : WF (canL s l) := by
  have key : ∀ {p : PTask → Prop}, (∀ t b, p t → p { t with canc := b }) → (∀ t ∈ s.tasks, p t) → ∀ t ∈ (canL s l).tasks, p t := by
    intro p h1 h2 t ht
    obtain ⟨k, hk⟩ := List.mem_iff_getElem?.1 ht
    obtain ⟨t0, h3, rfl⟩ := canL_of hk
    have := h2 t0 (List.mem_of_getElem? h3)
    split
    · exact h1 _ _ this
    · exact this
  refine ⟨by rw [canL_len]; exact hw.nT, hw.nC, hw.nK, hw.nB, hw.pl, hw.cks, hw.acts, hw.ends, key (fun t b h => h) hw.tsk, hw.behs, by rw [canL_len]; exact hw.endl, hw.sz, key (fun t b h => h) hw.tsz, hw.csz⟩
def kidsF (s : PRun) (n : Nat) : List Int := match s.tasks[n]? with
  | some t => t.kids
  | none => []
theorem kidsF_can {s : PRun} {l : List Nat} {n : Nat} : kidsF (canL s l) n = kidsF s n := by
  unfold kidsF
  cases h : s.tasks[n]? with
  | some t => rw [canL_at h]; simp only; split <;> rfl
  | none => simp [canL, List.getElem?_mapIdx, h]
def dsc (s : PRun) : Nat → Nat → List Nat
  | 0, _ => []
  | f + 1, n => n :: (kidsF s n).flatMap fun k => dsc s f k.toNat
theorem dsc_can {s : PRun} {l : List Nat} (f : Nat) (n : Nat) : dsc (canL s l) f n = dsc s f n := by
  induction f generalizing n with
  | zero => rfl
  | succ f ih => simp only [dsc, kidsF_can, ih]
theorem cancel_ok : ∀ (f : Nat) {s : PRun} (n : Nat), WF s → Kok s → s.tasks.length - n ≤ f → n < s.tasks.length → FnH Tryd.prog 112 [ptR, .int n] (HH s) (.tup []) (HH (canL s (dsc s f n))) := by
  intro f
  induction f with
  | zero => intro s n _ _ h1 h2; omega
  | succ f ih =>
    intro s n hw hk hf hn
    obtain ⟨t, ht⟩ : ∃ t, s.tasks[n]? = some t := ⟨_, List.getElem?_eq_getElem hn⟩
    obtain ⟨g1, g2, g3, g4, _, g6⟩ := hw.k ht
    have hkd := hk.kd n t ht
    have hk32 := (hw.tsz t (List.mem_of_getElem? ht)).2
    have hkF : kidsF s n = t.kids := by unfold kidsF; rw [ht]
    have hset := HH_tset (t' := { t with canc := true }) ht g1 rfl rfl rfl
    have hst := canL_tset (l := []) (s := s) (k := n) (t := t) (by rw [canL_nil]; exact ht)
    rw [canL_nil, List.nil_append] at hst
    rw [hst] at hset
    clear hst
    obtain ⟨s1, hs1⟩ : ∃ s1, s1 = canL s [n] := ⟨_, rfl⟩
    have hw1 : WF s1 := by rw [hs1]; exact hw.can _
    have ht1 : s1.tasks[n]? = some { t with canc := true } := by rw [hs1, canL_at ht]; simp
    have hn1 : n < s1.tasks.length := by rw [hs1, canL_len]; exact hn
    obtain ⟨e1, e2, e3, e4, _, e6⟩ := hw1.k ht1
    rw [← hs1] at hset
    have hs1' : Hid (s1 = canL s [n]) := ⟨hs1⟩
    clear hs1
    simp only [tskB, behV] at hset
    have hlk := lenFk (H := HH s1) (k := n) (l := t.kids) (by simp +decide only [go_sem, *])
    simp +decide only [go_sem] at hlk
    refine FnH.intro' [(0, ptR), (1, .int n)] 2 34 NN Tryd.func112 (by kernel_rfl) rfl rfl rfl rfl rfl (HH_len s) ?_
    refine goF ?_
    refine ARun.q1 rfl rfl (ql_ixo (n := n) (b := ix .tk) (by simp +decide only [go_sem, *] <;> rfl) (by simp +decide only [go_sem, *] <;> rfl) Tryd.underlying80 (by simp +decide only [go_sem, *] <;> rfl) (by simp) hn (by simp +decide only [go_sem, *] <;> rfl)) ?_
    refine goF ?_
    refine ARun.q1 rfl rfl (ql_ixo (n := n) (b := ix .tk) (by simp +decide only [go_sem, *] <;> rfl) (by simp +decide only [go_sem, *] <;> rfl) Tryd.underlying80 (by simp +decide only [go_sem, *] <;> rfl) (by simp) hn1 (by simp +decide only [go_sem, *] <;> rfl)) ?_
    refine goF ?_
    rw [hs1'.out]
    refine AWp.loop (J := fun i : Nat => i ≤ t.kids.length) (fun i => ⟨[(0, ptR), (24, kidV n t.kids), (25, .int t.kids.length), (26, .int i)], HH (canL s (n :: (t.kids.take i).flatMap fun k => dsc s f k.toNat))⟩) (fun i => t.kids.length - i) 0 (Nat.zero_le _) .wf ?_
    intro i hi
    obtain ⟨l, hl⟩ : ∃ l, l = n :: (t.kids.take i).flatMap fun k => dsc s f k.toNat := ⟨_, rfl⟩
    have hnl : n ∈ l := by rw [hl]; simp
    obtain ⟨s2, hs2⟩ : ∃ s2, s2 = canL s l := ⟨_, rfl⟩
    have hw2 : WF s2 := by rw [hs2]; exact hw.can _
    have ht2 : s2.tasks[n]? = some { t with canc := true } := by rw [hs2, canL_at ht, if_pos hnl]
    obtain ⟨f1, f2, f3, f4, _, f6⟩ := hw2.k ht2
    have hl' : Hid (l = n :: (t.kids.take i).flatMap fun k => dsc s f k.toNat) := ⟨hl⟩
    have hs2' : Hid (s2 = canL s l) := ⟨hs2⟩
    rw [← hl, ← hs2]
    clear hl hs2
    refine goF ?_
    refine ifA (fun hd => ?_) (fun hd => ?_)
    · simp at hd
      obtain ⟨k, hkk⟩ : ∃ k, t.kids[i]? = some k := ⟨_, List.getElem?_eq_getElem hd⟩
      obtain ⟨j, rfl, hj1, hj2⟩ := hkd k (List.mem_of_getElem? hkk)
      have hkm : (t.kids.map AV.int)[i]? = some (.int j) := by rw [List.getElem?_map, hkk]; rfl
      have ih' := ih (s := s2) j hw2 (by rw [hs2'.out]; exact hk.can l) (by rw [hs2'.out, canL_len]; omega) (by rw [hs2'.out, canL_len]; exact hj2)
      have hR : Hid (canL s2 (dsc s2 f j) = canL s (n :: (t.kids.take (i + 1)).flatMap fun k => dsc s f k.toNat)) := ⟨by
        rw [hs2'.out, dsc_can, canL_app, hl'.out, List.take_add_one, hkk, List.flatMap_append]
        simp⟩
      have hkv := kidV_own (k := n) hkk
      clear hkk
      refine goF ?_
      refine ARun.q1 rfl rfl (ql_ixo (n := i) (b := ix (.kid n)) (by simp +decide only [go_sem, *] <;> rfl) (by simp +decide only [go_sem, *] <;> rfl) Tryd.underlying25 (by simp +decide only [go_sem, *] <;> rfl) (by simp) hd (by simp +decide only [go_sem, *] <;> rfl)) ?_
      refine goF ?_
      refine ARun.p1 rfl rfl (pl_callW ih' (by simp [HH_len]) rfl (by simp +decide only [go_sem, *] <;> rfl) (by simp +decide only [go_sem, *] <;> rfl)) ?_
      refine goF ?_
      rw [wrap_succ (by omega)]
      refine ⟨i + 1, hd, by omega, ?_⟩
      rw [hR.out, hkv]
      exact .wf
    simp at hd
    obtain rfl : i = t.kids.length := by omega
    have hR : Hid (s2 = canL s (dsc s (f + 1) n)) := ⟨by rw [hs2'.out, hl'.out, List.take_length]; simp only [dsc, hkF]⟩
    refine goF ?_
    rw [← hR.out]
    exact .runV [] hw2 (vs := []) (by show resVals _ _ [] = _; simp +decide only [resVals, resVal, ldPtr, ldE, go_sem, *] <;> rfl) (by simp) rfl (.pu (Pu.tup (by simp)))
end Go.Ab
set_option maxHeartbeats 4000000
namespace Go.Ab
open Go Go.Ab Go.Proofs Go.Ab.Ty

def newC (c : Cd) (vs : List Int) (a : Int) : PCall := ⟨c, vs ++ List.replicate (c.vars.toNat - vs.length) (-1), 0, a⟩
def PRun.addC (s : PRun) (c : PCall) : PRun := { s with calls := s.calls ++ [c] }
theorem addC_at {s : PRun} {c : PCall} : (s.addC c).calls[s.calls.length]? = some c := by simp [PRun.addC]
theorem addC_ne {s : PRun} {c : PCall} {j : Nat} (h : j ≠ s.calls.length) : (s.addC c).calls[j]? = s.calls[j]? := by
  unfold PRun.addC
  simp only
  rcases Nat.lt_or_ge j s.calls.length with h1 | h1
  · exact List.getElem?_append_left h1
  · rw [List.getElem?_eq_none (by simp; omega), List.getElem?_eq_none h1]
theorem HH_addC {s : PRun} {c : PCall} {j : Nat} (hj : j = s.calls.length) (h1 : ix (.cal j) < NN) (h2 : ix (.vrs j) < NN) : ((HH s).set (ix (.vrs j)) (intB c.vars)).set (ix (.cal j)) (calB j c) = HH (s.addC c) := by
  subst hj
  refine HH_upd (s := s) (s' := s.addC c) [(.vrs s.calls.length, intB c.vars), (.cal s.calls.length, calB s.calls.length c)] (upd2 ⟨h2, by simp only [blk]; rw [addC_at]⟩ ⟨h1, by simp only [blk]; rw [addC_at]⟩) fun a ha => ?_
  simp only [List.map_cons, List.map_nil, List.mem_cons, List.not_mem_nil, or_false, not_or] at ha
  cases a with
  | cal j => simp only [blk]; rw [addC_ne fun e => ha.2 (by rw [e])]
  | vrs j => simp only [blk]; rw [addC_ne fun e => ha.1 (by rw [e])]
  | _ => rfl
theorem WF.addC {s : PRun} (hw : WF s) {c : PCall} (h1 : s.calls.length < MM) (h2 : c.vars.length ≤ 1000) (h3 : c.code.steps.length ≤ 1000) : WF (s.addC c) := by
  refine ⟨hw.nT, by simp [PRun.addC]; omega, hw.nK, hw.nB, hw.pl, hw.cks, hw.acts, hw.ends, fun t ht => ?_, hw.behs, hw.endl, hw.sz, hw.tsz, fun x hx => ?_⟩
  · obtain ⟨a1, a2⟩ := hw.tsk t ht
    exact ⟨fun j hj => by have := a1 j hj; simp [PRun.addC]; omega, a2⟩
  · simp only [PRun.addC, List.mem_append, List.mem_singleton] at hx
    rcases hx with hx | rfl
    · exact hw.csz x hx
    · exact ⟨h2, h3⟩
theorem HH_nb {s : PRun} (hw : WF s) {a : Nm} (ha : ¬ dom s a) {q : Nat} (hq : NN ≤ q) : ∀ b ∈ HH s, RfB (Nb q (ix a)) b := fun b hb =>
  (HH_rf hw b hb).mono fun i hi => ⟨fun e => by obtain ⟨a', h1, h2⟩ := hi; rw [e] at h2; rw [ix_inj h2] at ha; exact ha h1, by have := hi.lt hw; omega⟩
abbrev cdB (c : Cd) : ABlk := ⟨68, 3, [encC c]⟩
theorem cdB_rf {c : Cd} {S : Nat → Prop} : RfB S (cdB c) := fun e he d hd => by
  rw [List.mem_singleton] at he; subst he
  simp only [encC, AV.cells, List.mem_cons, List.not_mem_nil, or_false] at hd
  rcases hd with rfl | rfl | rfl
  · exact .pu (.base _)
  · exact .pu (.base _)
  · exact .pu (Pu_mapS _)
theorem set_same {L : List ABlk} {i : Nat} {X : ABlk} (h : L[i]? = some X) : L.set i X = L := by
  obtain ⟨h1, h2⟩ := List.getElem?_eq_some_iff.1 h
  rw [← h2]; exact List.set_getElem_self h1
theorem intB_rf {l : List Int} {S : Nat → Prop} : RfB S (intB l) := fun e he c hc => by
  obtain ⟨x, _, rfl⟩ := List.mem_map.1 he
  simp only [AV.cells, List.mem_singleton] at hc; subst hc
  exact .pu (.base _)
theorem set_rf {L : List ABlk} {i : Nat} {X : ABlk} {S : Nat → Prop} (h : ∀ b ∈ L, RfB S b) (hX : RfB S X) : ∀ b ∈ L.set i X, RfB S b := fun b hb => by
  rcases List.mem_or_eq_of_mem_set hb with hb | rfl
  · exact h b hb
  · exact hX
theorem app_rf {L T : List ABlk} {S : Nat → Prop} (h : ∀ b ∈ L, RfB S b) (hX : ∀ b ∈ T, RfB S b) : ∀ b ∈ L ++ T, RfB S b := fun b hb => by
  rcases List.mem_append.1 hb with hb | hb
  · exact h b hb
  · exact hX b hb
theorem one_rf {X : ABlk} {S : Nat → Prop} (h : RfB S X) : ∀ b ∈ [X], RfB S b := fun b hb => by
  rw [List.mem_singleton] at hb; subst hb; exact h
theorem addC_cset {s : PRun} {c c' : PCall} {j : Nat} (hj : j = s.calls.length) : (s.addC c).cset j c' = s.addC c' := by
  subst hj; simp [PRun.addC, PRun.cset]
theorem entered_ok {s : PRun} (hw : WF s) {c : Cd} {vs : List Int} {a : Int} (hv0 : 0 ≤ c.vars) (hv1 : c.vars ≤ 1000) (hvs : vs.length ≤ c.vars) (hM : s.calls.length < MM) (hcs : c.steps.length ≤ 1000) :
    FnH Tryd.prog 107 [encC c, .lst (vs.map .int), .int a] (HH s) (ptC s.calls.length) (HH (s.addC (newC c vs a))) := by
  obtain ⟨cp, cv, cs⟩ := c
  simp only at hv0 hv1 hvs hcs
  obtain ⟨nv, rfl⟩ : ∃ nv : Nat, cv = nv := ⟨_, (Int.toNat_of_nonneg hv0).symm⟩
  obtain ⟨j, hj⟩ : ∃ j, j = s.calls.length := ⟨_, rfl⟩
  have hjM : j < MM := by omega
  have hjc : ix (.cal j) < NN := ix_lt hjM
  have hjv : ix (.vrs j) < NN := ix_lt hjM
  refine FnH.intro' [(0, encC ⟨cp, nv, cs⟩), (1, .lst (vs.map .int)), (2, .int a)] 3 38 NN Tryd.func107 (by kernel_rfl) rfl rfl rfl rfl rfl (HH_len s) ?_
  refine goF ?_
  refine drS (k := 5) [none, none, none, some 0, none] (fun k => match k with
    | 0 => HH s ++ [cdB ⟨cp, nv, cs⟩]
    | _ => (HH s).set (ix (.vrs j)) (intB (List.replicate nv 0)) ++ [cdB ⟨cp, nv, cs⟩]) 1 follows ?_
  refine gS ?_
  refine gS ?_
  refine gS ?_
  refine GRun.p1 (v := vrsV j (List.replicate nv 0)) rfl rfl (fun ρ' h => ?_) ?_
  · show PL Tryd.prog (HH s ++ [cdB ⟨cp, nv, cs⟩]) ρ' _ (vrsV j (List.replicate nv 0)) ((HH s).set (ix (.vrs j)) (intB (List.replicate nv 0)) ++ [cdB ⟨cp, nv, cs⟩])
    have hl : ρ' (.tmp 11) = .int nv := (h (.tmp 11) (by simp [Op.operands])).trans (by simp +decide only [go_sem, *] <;> rfl)
    have h1 := pl_make (P := Tryd.prog) (H := HH s ++ [cdB ⟨cp, nv, cs⟩]) (ρ := ρ') (n := nv) (m := nv) hl hl Tryd.underlying25 el3 zero3 (by kernel_rfl) (by omega) (Int.le_refl _) (by omega) (by omega)
    rw [Int.toNat_natCast] at h1
    have hz : List.replicate nv (AV.int 0) = (List.replicate nv (0 : Int)).map AV.int := by simp
    rw [hz] at h1
    have hrf : ∀ q, NN ≤ q → ∀ b ∈ HH s ++ [cdB ⟨cp, nv, cs⟩], RfB (Nb q (ix (.vrs j))) b := fun q hq b hb => by
      rcases List.mem_append.1 hb with hb | hb
      · exact HH_nb hw (a := .vrs j) (by show ¬ j < _; omega) hq b hb
      · rw [List.mem_singleton] at hb; subst hb; exact cdB_rf
    have hdm : (HH s)[ix (.vrs j)]? = some (intB []) := by
      rw [HH_get s _ hjv]; simp only [blk]; rw [List.getElem?_eq_none (by omega)]
    cases nv with
    | zero =>
      have h2 := PL.own0 h1 rfl fun b hb => by
        rcases List.mem_append.1 hb with hb | hb
        · exact (HH_rf hw b hb).mono fun i hi => by have := hi.lt hw; simp [HH_len]; omega
        · rw [List.mem_singleton] at hb; subst hb; exact cdB_rf
      show PL _ _ _ _ _ ((HH s).set (ix (.vrs j)) (intB []) ++ _)
      rw [set_same hdm]
      exact h2
    | succ m =>
      have h2 := PL.placeS h1 (p := ix (.vrs j)) (blk0 := intB []) (by rw [app_get (HH_len s) hjv]; exact hdm) rfl (by simp) intB_rf (hrf _ (by simp [HH_len])) MvR.ownL
      rw [app_set (HH_len s) hjv] at h2
      have hv : vrsV j (List.replicate (m + 1) 0) = .own (ix (.vrs j)) (m + 1) 0 (m + 1) := by simp [vrsV, List.replicate_succ]
      rw [hv]
      exact h2
  refine gS ?_
  refine GRun.nil ?_
  refine goF ?_
  refine bldA (cs := [.int cp, .int nv, .lst (cs.map encS), vrsV j (List.replicate nv 0), .int 0, .int a]) pl140 zero140 ?_ (h := by cases nv <;> (simp +decide only [List.map, go_sem, vrsV, List.replicate]; try rfl))
  obtain ⟨c0, hc0⟩ : ∃ c0, c0 = PCall.mk ⟨cp, nv, cs⟩ (List.replicate nv 0) 0 a := ⟨_, rfl⟩
  have hbx : ∀ (ρ : Operand → AV) (x : Operand), ρ x = .agg [.int cp, .int nv, .lst (cs.map encS), vrsV j (List.replicate nv 0), .int 0, .int a] → PL Tryd.prog ((HH s).set (ix (.vrs j)) (intB (List.replicate nv 0)) ++ [cdB ⟨cp, nv, cs⟩]) ρ (.box 140 x) (ptC j) (HH (s.addC c0) ++ [cdB ⟨cp, nv, cs⟩]) := by
    obtain ⟨L, hL⟩ : ∃ L, L = (HH s).set (ix (.vrs j)) (intB (List.replicate nv 0)) := ⟨_, rfl⟩
    have hLl : L.length = NN := by rw [hL, set_len, HH_len]
    have hLr : ∀ q, NN ≤ q → ∀ b ∈ L ++ [cdB ⟨cp, nv, cs⟩], RfB (Nb q (ix (.cal j))) b := fun q hq => by
      rw [hL]; exact app_rf (set_rf (HH_nb hw (a := .cal j) (by show ¬ j < _; omega) hq) intB_rf) (one_rf cdB_rf)
    have hLd : L[ix (.cal j)]? = some ⟨140, 6, []⟩ := by
      rw [hL, set_get (HH_len s) hjv, if_neg (by simp), HH_get s _ hjc]; simp only [blk]; rw [List.getElem?_eq_none (by omega)]
    intro ρ x hx
    have h1 := PL.placeS (p := ix (.cal j)) (pl_box (P := Tryd.prog) (H := L ++ [cdB ⟨cp, nv, cs⟩]) (el := 140) hx (by cases nv <;> rfl)) (by rw [app_get hLl hjc]; exact hLd) rfl (by simp) (fun e he d hd => by
      rw [List.mem_singleton] at he; subst he
      simp only [AV.cells, List.mem_cons, List.not_mem_nil, or_false] at hd
      rcases hd with rfl | rfl | rfl | rfl | rfl | rfl
      · exact .pu (.base _)
      · exact .pu (.base _)
      · exact .pu (Pu_mapS _)
      · cases nv with
        | zero => exact .pu (.lst fun e he => by cases he)
        | succ m => exact .own ⟨fun e => (by have := ix_inj e; cases this), by simp only [List.length_append, hLl]; omega⟩
      · exact .pu (.base _)
      · exact .pu (.base _)) (hLr _ (by simp [hLl])) MvR.ptrL
    rw [app_set hLl hjc, hL] at h1
    rw [← HH_addC hj hjc hjv, hc0]
    exact h1
  refine ARun.p1 rfl rfl (hbx _ _ (by simp +decide only [go_sem] <;> rfl)) ?_
  obtain ⟨cI, hcI⟩ : ∃ cI : Nat → PCall, ∀ i, cI i = PCall.mk ⟨cp, nv, cs⟩ (List.replicate i (-1) ++ List.replicate (nv - i) 0) 0 a := ⟨_, fun _ => rfl⟩
  have hc00 : Hid (c0 = cI 0) := ⟨by rw [hcI, hc0]; simp⟩
  have hwI : ∀ c : PCall, c.vars.length ≤ 1000 → c.code = ⟨cp, nv, cs⟩ → WF (s.addC c) := fun c h1 h2 => hw.addC hM h1 (by rw [h2]; exact hcs)
  have h1w : WF (s.addC c0) := hwI c0 (by rw [hc0]; simp; omega) (by rw [hc0])
  have hc1 : (s.addC c0).calls[j]? = some ⟨⟨cp, nv, cs⟩, List.replicate nv 0, 0, a⟩ := by rw [← hc0, hj]; exact addC_at
  have hcI' : Hid (∀ i, cI i = PCall.mk ⟨cp, nv, cs⟩ (List.replicate i (-1) ++ List.replicate (nv - i) 0) 0 a) := ⟨hcI⟩
  have hj' : Hid (j = s.calls.length) := ⟨hj⟩
  clear hcI hc0 hj hbx
  have hlv := lenFv (H := HH (s.addC c0) ++ [cdB ⟨cp, nv, cs⟩]) (k := j) (l := List.replicate nv 0) (by simp +decide only [go_sem, *])
  simp +decide only [go_sem] at hlv
  refine goF ?_
  have hrl : (List.replicate nv (0 : Int)).length = nv := List.length_replicate
  rw [hrl, hc00.out]
  refine AWp.loop (J := fun i : Nat => i ≤ nv) (fun i => ⟨[(7, ptC j), (1, .lst (vs.map .int)), (20, .int nv), (21, .int i)], HH (s.addC (cI i)) ++ [cdB ⟨cp, nv, cs⟩]⟩) (fun i => nv - i) 0 (Nat.zero_le _) .wf ?_
  intro i hi
  have hIl : (List.replicate i (-1 : Int) ++ List.replicate (nv - i) 0).length = nv := by simp; omega
  have hiw : WF (s.addC (cI i)) := hwI _ (by rw [hcI'.out]; simp; omega) (by rw [hcI'.out])
  obtain ⟨ci, hci⟩ : ∃ ci, ci = cI i := ⟨_, rfl⟩
  obtain ⟨l, hl⟩ : ∃ l, l = List.replicate i (-1 : Int) ++ List.replicate (nv - i) 0 := ⟨_, rfl⟩
  have hci1 : (s.addC ci).calls[j]? = some ⟨⟨cp, nv, cs⟩, l, 0, a⟩ := by rw [hci, hcI'.out, hj'.out, hl]; exact addC_at
  rw [← hl] at hIl
  rw [← hci]
  rw [← hci] at hiw
  have hl' : Hid (l = List.replicate i (-1 : Int) ++ List.replicate (nv - i) 0) := ⟨hl⟩
  have hci' : Hid (ci = cI i) := ⟨hci⟩
  clear hl hci hlv hrl hc1 h1w
  refine goF ?_
  refine ifA (fun hd => ?_) (fun hd => ?_)
  · simp at hd
    obtain ⟨x, hx⟩ : ∃ x, l[i]? = some x := ⟨_, List.getElem?_eq_getElem (by omega)⟩
    have hvv := vrsV_own (j := j) hx
    have hxm : (l.map AV.int)[i]? = some (.int x) := by rw [List.getElem?_map, hx]; rfl
    refine goF ?_
    refine ARun.q1 rfl rfl (ql_ixo (n := i) (b := ix (.vrs j)) (by simp +decide only [go_sem, *] <;> rfl) (by simp +decide only [go_sem, *] <;> rfl) Tryd.underlying25 (by simp +decide only [go_sem, *] <;> rfl) (by simp [hIl]) (by omega) (by simp +decide only [go_sem, *] <;> rfl)) ?_
    refine goF ?_
    refine ARun.p1 rfl rfl (pl_store_own (f := AV.int) (l := l) (b := ix (.vrs j)) (tot := nv) (i := i) (ty := 3) (sz := 1) (-1) (by simp +decide only [go_sem, *] <;> rfl) (by simp +decide only [go_sem, *] <;> rfl) (by simp +decide only [go_sem, *] <;> rfl) hIl (by omega) sz3 rfl rfl) ?_
    have hst : (HH (s.addC ci)).set (ix (.vrs j)) (intB (l.set i (-1))) = HH (s.addC (cI (i + 1))) := by
      have h1 := HH_vset (s := s.addC ci) (j := j) (c' := ⟨⟨cp, nv, cs⟩, l.set i (-1), 0, a⟩) hci1 hjv (by simp) rfl
      rw [addC_cset hj'.out] at h1
      rw [h1, hcI'.out]
      congr 3
      rw [hl'.out, List.set_append_right _ _ (by simp)]
      obtain ⟨m, hm⟩ : ∃ m, nv - i = m + 1 := ⟨nv - i - 1, by omega⟩
      rw [hm, show nv - (i + 1) = m by omega, List.length_replicate, Nat.sub_self, List.replicate_succ, List.set_cons_zero, List.replicate_succ', List.append_assoc]
      rfl
    refine goF ?_
    rw [wrap_succ (by omega)]
    exact ⟨i + 1, hd, by omega, .wf⟩
  simp at hd
  obtain rfl : i = nv := by omega
  refine goF ?_
  have hle : l = List.replicate i (-1) := by rw [hl'.out]; simp
  have hfin : (HH (s.addC ci)).set (ix (.vrs j)) (intB (vs ++ l.drop vs.length)) = HH (s.addC (newC ⟨cp, i, cs⟩ vs a)) := by
    have h1 := HH_vset (s := s.addC ci) (j := j) (c' := ⟨⟨cp, i, cs⟩, vs ++ l.drop vs.length, 0, a⟩) hci1 hjv (by simp; omega) rfl
    rw [addC_cset hj'.out] at h1
    rw [h1, hle, List.drop_replicate]
    rfl
  have hwe : WF (s.addC (newC ⟨cp, i, cs⟩ vs a)) := hwI _ (by simp [newC]; omega) rfl
  have hRe : RfA (· < NN) (ptC j) := .ptr hjc
  rw [← hj'.out]
  clear hle hl' hci' hc00 hcI' hj'
  cases l with
  | nil =>
    have hvs0 : vs = [] := List.eq_nil_of_length_eq_zero (by simp at hIl; omega)
    have hs0 : (HH (s.addC ci)).set (ix (.vrs j)) (intB []) = HH (s.addC ci) := set_same (by rw [HH_get _ _ hjv]; simp only [blk]; rw [hci1])
    rw [hvs0, List.drop_nil, List.append_nil, hs0] at hfin
    rw [hvs0] at hwe
    rw [hvs0]
    refine ARun.p1 rfl rfl (pl_copy0 (es := ([] : List Int).map .int) (by simp +decide only [go_sem, *] <;> rfl) (by simp +decide only [go_sem, *] <;> rfl) Tryd.underlying25 el3) ?_
    refine goF ?_
    exact .runV [_] hwe (vs := [ptC j]) (by show resVals _ _ [.tmp 6] = _; simp +decide only [resVals, resVal, ldPtr, ldE, go_sem, *] <;> rfl) rfl rfl hRe
  | cons x l' =>
    refine ARun.p1 rfl rfl (pl_copyI (k := .i64) (b := ix (.vrs j)) (n := l'.length + 1) (d := x :: l') (l := vs) (av := .lst (vs.map .int)) (ty := 3) (by simp +decide only [go_sem, *] <;> rfl) (by simp +decide only [go_sem, *] <;> rfl) rfl (by simp +decide only [go_sem, *] <;> rfl) (.pu (by simp)) (by omega) Tryd.underlying25 el3) ?_
    refine goF ?_
    exact .runV [_] hwe (vs := [ptC j]) (by show resVals _ _ [.tmp 6] = _; simp +decide only [resVals, resVal, ldPtr, ldE, go_sem, *] <;> rfl) rfl rfl hRe
end Go.Ab
set_option maxHeartbeats 4000000
namespace Go.Ab
open Go Go.Ab Go.Proofs Go.Ab.Ty

theorem tset_tset {s : PRun} {k : Nat} {a b : PTask} : (s.tset k a).tset k b = s.tset k b := by simp [PRun.tset]
theorem tset_len {s : PRun} {k : Nat} {a : PTask} : (s.tset k a).tasks.length = s.tasks.length := by simp [PRun.tset]
structure NxS (s : PRun) (k : Nat) (t' : PTask) (s1 : PRun) : Prop where
  eq : s1 = s.tset k t'
  tk : s1.tasks[k]? = some t'
  len : s1.tasks.length = s.tasks.length
theorem NxS.mk' {s : PRun} {k : Nat} {t : PTask} (ht : s.tasks[k]? = some t) (t' : PTask) : ∃ s1, NxS s k t' s1 := ⟨_, rfl, tset_at ht, tset_len⟩
theorem NxS.hset {s s1 : PRun} {k : Nat} {t t' : PTask} (h : NxS s k t' s1) (ht : s.tasks[k]? = some t) (hk : ix (.tsk k) < NN) (h1 : t'.sarr = t.sarr) (h2 : t'.kids = t.kids) (h3 : t'.spn = t.spn) : (HH s).set (ix (.tsk k)) (tskB k t') = HH s1 := by
  rw [h.eq]; exact HH_tset ht hk h1 h2 h3
def clo (t : PTask) (st : Int) : PTask := { t with ending := st, state := 2, has := -1 }
theorem close_ok {s s2 : PRun} (hw : WF s) {n : Nat} {t : PTask} {st : Int} (ht : s.tasks[n]? = some t) (hw2 : WF s2) (hS : FnH Tryd.prog 122 [ptR, .int n] (HH (s.tset n (clo t st))) (.tup []) (HH s2)) :
    FnH Tryd.prog 108 [ptR, .int n, .int st] (HH s) (.tup []) (HH s2) := by
  obtain ⟨g1, g2, g3, g4, hn, g6⟩ := hw.k ht
  obtain ⟨s1, h1⟩ := NxS.mk' ht { t with ending := st }
  obtain ⟨s3, h3⟩ := NxS.mk' h1.tk { t with ending := st, state := 2 }
  have e1 := h1.hset ht g1 rfl rfl rfl
  have e3 := h3.hset h1.tk g1 rfl rfl rfl
  obtain ⟨s4, h4⟩ := NxS.mk' h3.tk (clo t st)
  have e4 := h4.hset h3.tk g1 rfl rfl rfl
  have hs4 : s.tset n (clo t st) = s4 := by rw [h4.eq, h3.eq, h1.eq, tset_tset, tset_tset]
  rw [hs4] at hS
  have q1 := h1.tk
  have q3 := h3.tk
  clear hs4 h1 h3 h4
  simp only [tskB, behV, clo] at e1 e3 e4
  refine FnH.intro' [(0, ptR), (1, .int n), (2, .int st)] 3 27 NN Tryd.func108 (by kernel_rfl) rfl rfl rfl rfl rfl (HH_len s) ?_
  refine goF ?_
  refine ARun.q1 rfl rfl (ql_ixo (n := n) (b := ix .tk) (by simp +decide only [go_sem, *] <;> rfl) (by simp +decide only [go_sem, *] <;> rfl) Tryd.underlying80 (by simp +decide only [go_sem, *] <;> rfl) (by simp) hn (by simp +decide only [go_sem, *] <;> rfl)) ?_
  refine goF ?_
  refine ARun.p1 rfl rfl (pl_callW hS (by simp [HH_len]) rfl (by simp +decide only [go_sem, *] <;> rfl) (by simp +decide only [go_sem, *] <;> rfl)) ?_
  refine goF ?_
  exact .runV [] hw2 (vs := []) (by show resVals _ _ [] = _; simp +decide only [resVals, resVal, ldPtr, ldE, go_sem, *] <;> rfl) (by simp) rfl (.pu (Pu.tup (by simp)))

def popS (cs : List PCall) (sa : List Nat) : Nat → Nat → Option Nat
  | 0, j => match cs[j]? with
    | some c => if (c.code.steps.length : Int) ≤ c.pc then none else some 0
    | none => some 0
  | m + 1, j => match cs[j]? with
    | some c => if (c.code.steps.length : Int) ≤ c.pc then (match sa[m]? with
      | some j' => popS cs sa m j'
      | none => none) else some (m + 1)
    | none => some (m + 1)
theorem popS_stay {cs : List PCall} {sa : List Nat} {m j : Nat} {c : PCall} (hc : cs[j]? = some c) (h : c.pc < c.code.steps.length) : popS cs sa m j = some m := by
  cases m <;> simp only [popS, hc] <;> rw [if_neg (by omega)]
theorem popS_end {cs : List PCall} {sa : List Nat} {j : Nat} {c : PCall} (hc : cs[j]? = some c) (h : (c.code.steps.length : Int) ≤ c.pc) : popS cs sa 0 j = none := by
  simp only [popS, hc]; rw [if_pos h]
theorem popS_pop {cs : List PCall} {sa : List Nat} {m j j' : Nat} {c : PCall} (hc : cs[j]? = some c) (h : (c.code.steps.length : Int) ≤ c.pc) (hj : sa[m]? = some j') : popS cs sa (m + 1) j = popS cs sa m j' := by
  simp only [popS, hc, hj]; rw [if_pos h]
theorem WF.cset {s : PRun} (hw : WF s) {j : Nat} {c : PCall} (h1 : c.vars.length ≤ 1000) (h2 : c.code.steps.length ≤ 1000) : WF (s.cset j c) := by
  have hl : (s.calls.set j c).length = s.calls.length := List.length_set
  refine ⟨hw.nT, by show (s.calls.set j c).length ≤ _; rw [hl]; exact hw.nC, hw.nK, hw.nB, hw.pl, hw.cks, hw.acts, hw.ends, fun t ht => ?_, hw.behs, hw.endl, hw.sz, hw.tsz, fun x hx => ?_⟩
  · obtain ⟨a1, a2⟩ := hw.tsk t ht
    exact ⟨fun j hj => by show _ < (s.calls.set _ _).length; rw [hl]; exact a1 j hj, a2⟩
  · rcases List.mem_or_eq_of_mem_set hx with hx | rfl
    · exact hw.csz x hx
    · exact ⟨h1, h2⟩
theorem WF.tset {s : PRun} (hw : WF s) {k : Nat} {t : PTask} (h1 : (∀ j ∈ t.sarr, j < s.calls.length) ∧ t.slen ≤ t.sarr.length ∧ t.clk < s.pool.length ∧ ∀ b, t.beh = some b → b < s.behs.length) (h2 : t.sarr.length ≤ 1000 ∧ t.kids.length ≤ 1000) : WF (s.tset k t) := by
  have hl : (s.tasks.set k t).length = s.tasks.length := List.length_set
  refine ⟨by show (s.tasks.set k t).length ≤ _; rw [hl]; exact hw.nT, hw.nC, hw.nK, hw.nB, hw.pl, hw.cks, hw.acts, hw.ends, fun x hx => ?_, hw.behs, by show _ = (s.tasks.set k t).length; rw [hl]; exact hw.endl, hw.sz, fun x hx => ?_, hw.csz⟩
  · rcases List.mem_or_eq_of_mem_set hx with hx | rfl
    · exact hw.tsk x hx
    · exact h1
  · rcases List.mem_or_eq_of_mem_set hx with hx | rfl
    · exact hw.tsz x hx
    · exact h2
theorem WF.tset' {s : PRun} (hw : WF s) {k : Nat} {t t' : PTask} (ht : s.tasks[k]? = some t) (h1 : t'.sarr = t.sarr) (h2 : t'.slen ≤ t.slen) (h3 : t'.clk = t.clk) (h4 : t'.beh = t.beh) (h5 : t'.kids = t.kids) : WF (s.tset k t') := by
  obtain ⟨a1, a2, a3, a4⟩ := hw.tsk t (List.mem_of_getElem? ht)
  exact hw.tset ⟨by rw [h1]; exact a1, by rw [h1]; omega, by rw [h3]; exact a3, by rw [h4]; exact a4⟩ (by rw [h1, h5]; exact hw.tsz t (List.mem_of_getElem? ht))
theorem tset_self {s : PRun} {k : Nat} {t : PTask} (ht : s.tasks[k]? = some t) : s.tset k t = s := by
  unfold PRun.tset
  have : s.tasks.set k t = s.tasks := by
    obtain ⟨h1, h2⟩ := List.getElem?_eq_some_iff.1 ht
    rw [← h2]; exact List.set_getElem_self h1
  rw [this]
theorem goOn_ok {s s2 : PRun} (hw : WF s) {n j m : Nat} {t : PTask} {c : PCall} (ht : s.tasks[n]? = some t) (hm : t.slen = m + 1) (hj : t.sarr[m]? = some j) (hc : s.calls[j]? = some c) (hpc : ∀ c ∈ s.calls, 0 ≤ c.pc ∧ c.pc ≤ 1000) (hw2 : WF s2)
    (hS : popS (s.cset j { c with pc := c.pc + 1 }).calls t.sarr m j = none → FnH Tryd.prog 122 [ptR, .int n] (HH ((s.cset j { c with pc := c.pc + 1 }).tset n (clo { t with slen := 1 } 3))) (.tup []) (HH s2))
    (hR : ∀ m', popS (s.cset j { c with pc := c.pc + 1 }).calls t.sarr m j = some m' → s2 = (s.cset j { c with pc := c.pc + 1 }).tset n { t with slen := m' + 1 }) :
    FnH Tryd.prog 92 [ptR, .int n, ptC j] (HH s) (.tup []) (HH s2) := by
  obtain ⟨g1, g2, g3, g4, hn, g6⟩ := hw.k ht
  obtain ⟨k1, k2⟩ := hw.c hc
  obtain ⟨p1, p2⟩ := hpc c (List.mem_of_getElem? hc)
  obtain ⟨v1, v2⟩ := hw.csz c (List.mem_of_getElem? hc)
  have e1 := HH_cset (c' := { c with pc := c.pc + 1 }) hc k1 rfl
  obtain ⟨s1, hs1⟩ : ∃ s1, s1 = s.cset j { c with pc := c.pc + 1 } := ⟨_, rfl⟩
  rw [← hs1] at e1 hS hR
  have hw1 : WF s1 := by rw [hs1]; exact hw.cset v1 v2
  have hpc1 : ∀ c ∈ s1.calls, 0 ≤ c.pc ∧ c.pc ≤ 1001 := fun x hx => by
    rw [hs1] at hx
    rcases List.mem_or_eq_of_mem_set hx with hx | rfl
    · have := hpc x hx; omega
    · simp only; omega
  have ht1 : s1.tasks[n]? = some t := by rw [hs1]; exact ht
  simp only [calB] at e1
  refine FnH.intro' [(0, ptR), (1, .int n), (2, ptC j)] 3 67 NN Tryd.func92 (by kernel_rfl) rfl rfl rfl rfl rfl (HH_len s) ?_
  have hpw : IntKind.i64.wrap (c.pc + 1) = c.pc + 1 := wrap_id (by omega) (by omega)
  have hS' := Hid.mk hS
  have hR' := Hid.mk hR
  have hs1' := Hid.mk hs1
  clear hS hR hs1
  refine goF ?_
  refine ARun.q1 rfl rfl (ql_ixo (n := n) (b := ix .tk) (by simp +decide only [go_sem, *] <;> rfl) (by simp +decide only [go_sem, *] <;> rfl) Tryd.underlying80 (by simp +decide only [go_sem, *] <;> rfl) (by simp) hn (by simp +decide only [go_sem, *] <;> rfl)) ?_
  refine goF ?_
  refine AWp.loop (J := fun x : Nat × Nat × PRun => x.1 ≤ m ∧ t.sarr[x.1]? = some x.2.1 ∧ x.2.2 = s1.tset n { t with slen := x.1 + 1 } ∧ popS s1.calls t.sarr x.1 x.2.1 = popS s1.calls t.sarr m j) (fun x => ⟨[(0, ptR), (1, .int n), (2, ptC x.2.1), (6, ptK n)], HH x.2.2⟩) (fun x => x.1) (m, j, s1) ⟨Nat.le_refl _, hj, by show s1 = _; rw [← hm, tset_self ht1], rfl⟩ (.wf (hH := e1)) ?_
  rintro ⟨m', j', si⟩ ⟨x1, x2, x3, x4⟩
  simp only at x1 x2 x3 x4
  have hti : si.tasks[n]? = some { t with slen := m' + 1 } := by rw [x3]; exact tset_at ht1
  have hli : si.tasks.length = s1.tasks.length := by rw [x3, tset_len]
  have hwi : WF si := by rw [x3]; exact hw1.tset' ht1 rfl (by show m' + 1 ≤ t.slen; omega) rfl rfl rfl
  obtain ⟨c', hc'⟩ : ∃ c', s1.calls[j']? = some c' := ⟨_, List.getElem?_eq_getElem ((hw1.tsk t (List.mem_of_getElem? ht1)).1 j' (List.mem_of_getElem? x2))⟩
  have hci : si.calls[j']? = some c' := by rw [x3]; exact hc'
  obtain ⟨f1, f2, f3, f4, fn, f6⟩ := hwi.k hti
  obtain ⟨u1, u2⟩ := hwi.c hci
  have hlc : m' < t.sarr.length := (List.getElem?_eq_some_iff.1 x2).1
  have ht1000 := (hw1.tsz t (List.mem_of_getElem? ht1)).1
  have x3' := Hid.mk x3
  have x4' := Hid.mk x4
  clear x3 x4 e1 ht1
  refine goF ?_
  refine drA (k := 10) follows (hr := ?_)
  refine goF ?_
  refine ifA (fun hd => ?_) (fun hd => ?_)
  · simp at hd
    cases m' with
    | zero =>
      have hn0 := x4'.out.symm.trans (popS_end hc' hd)
      have hcl := close_ok hwi (st := 3) hti hw2 (by rw [x3'.out, tset_tset]; exact hS'.out hn0)
      have hd1 : decide ((↑(0 + 1 : Nat) : Int) = 1) = true := by decide
      clear hn0
      refine goF ?_
      refine ift_ ?_ rfl rfl
      refine goF ?_
      refine ARun.p1 rfl rfl (pl_callW hcl (by simp [HH_len]) rfl (by simp +decide only [go_sem, *] <;> rfl) (by simp +decide only [go_sem, *] <;> rfl)) ?_
      refine goF ?_
      exact .runV [] hw2 (vs := []) (by show resVals _ _ [] = _; simp +decide only [resVals, resVal, ldPtr, ldE, go_sem, *] <;> rfl) (by simp) rfl (.pu (Pu.tup (by simp)))
    | succ m' =>
      have hd1 : decide ((↑(m' + 1 + 1 : Nat) : Int) = 1) = false := by simp; omega
      obtain ⟨j2, hj2⟩ : ∃ j2, t.sarr[m']? = some j2 := ⟨_, List.getElem?_eq_getElem (by omega)⟩
      obtain ⟨s3, h3⟩ := NxS.mk' hti { t with slen := m' + 1 }
      have e3 := h3.hset hti g1 rfl rfl rfl
      have hp3 := Hid.mk ((popS_pop hc' hd hj2).symm.trans x4'.out)
      have hs3 : Hid (s3 = s1.tset n { t with slen := m' + 1 }) := ⟨by rw [h3.eq, x3'.out, tset_tset]⟩
      have q3 := h3.tk
      clear h3
      have hjm : (t.sarr.map ptC)[m']? = some (ptC j2) := by rw [List.getElem?_map, hj2]; rfl
      simp only [tskB, behV] at e3
      refine goF ?_
      refine iff_ ?_ rfl rfl
      refine goF ?_
      have hsz0 : m' + 1 - 0 = m' + 1 := rfl
      have hwr2 : IntKind.i64.wrap ((↑(m' + 1 : Nat) : Int) - 1) = (m' : Int) := by rw [wrap_id (by omega) (by omega)]; omega
      have hwr : IntKind.i64.wrap ((↑(m' + 1 + 1 : Nat) : Int) - 1) = ((m' + 1 : Nat) : Int) := by rw [wrap_id (by omega) (by omega)]; omega
      refine drA (k := 12) follows (hr := ?_)
      refine goF ?_
      refine ARun.q1 rfl rfl (ql_slice_own (b := ix (.stk n)) (l := 0) (h := m' + 1) (blk := ⟨135, 1, t.sarr.map ptC⟩) (by simp +decide only [go_sem, *] <;> rfl) Tryd.underlying85 (by simp +decide only [go_sem, *] <;> rfl) (by simp) (by simp [bnd, lk, go_sem]) (by simp +decide only [bnd, go_sem, *] <;> rfl) (Nat.zero_le _) (by omega) (by kernel_rfl)) ?_
      refine goF ?_
      refine drA (k := 10) follows (hr := ?_)
      refine goF ?_
      refine ARun.q1 rfl rfl (ql_ixo (n := m') (b := ix (.stk n)) (by simp +decide only [go_sem, *] <;> rfl) (by simp +decide only [go_sem, *] <;> rfl) Tryd.underlying85 (by simp +decide only [go_sem, *] <;> rfl) (by simp) (by omega) (by simp +decide only [go_sem, *] <;> rfl)) ?_
      refine goF ?_
      exact ⟨(m', j2, s3), ⟨by show m' ≤ m; omega, hj2, hs3.out, hp3.out⟩, by show m' < m' + 1; omega, .wf⟩
  simp at hd
  have hs2 := hR'.out m' (x4'.out.symm.trans (popS_stay hc' hd))
  rw [← x3'.out] at hs2
  subst hs2
  refine goF ?_
  exact .runV [] hw2 (vs := []) (by show resVals _ _ [] = _; simp +decide only [resVals, resVal, ldPtr, ldE, go_sem, *] <;> rfl) (by simp) rfl (.pu (Pu.tup (by simp)))
end Go.Ab
