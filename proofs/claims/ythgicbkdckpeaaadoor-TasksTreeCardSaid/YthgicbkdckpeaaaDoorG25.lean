/- Part of the proof. -/
import Derived.Test.YthgicbkdckpeaaaDoorG24
set_option linter.unusedSimpArgs false
set_option linter.unusedVariables false
set_option maxHeartbeats 4000000
namespace Go.Ab
open Go Go.Ab Go.Proofs Go.Ab.Ty

theorem WF.k {s : PRun} (hw : WF s) {k : Nat} {t : PTask} (ht : s.tasks[k]? = some t) : ix (.tsk k) < NN ∧ ix (.stk k) < NN ∧ ix (.kid k) < NN ∧ ix (.spn k) < NN ∧ k < s.tasks.length ∧ ((List.range s.tasks.length).map ptK)[k]? = some (ptK k) := by
  have hk : k < s.tasks.length := (List.getElem?_eq_some_iff.1 ht).1
  refine ⟨ix_lt (dom_inR hw (a := .tsk k) hk), ix_lt (dom_inR hw (a := .stk k) hk), ix_lt (dom_inR hw (a := .kid k) hk), ix_lt (dom_inR hw (a := .spn k) hk), hk, ?_⟩
  rw [List.getElem?_map, List.getElem?_range hk]; rfl
theorem WF.c {s : PRun} (hw : WF s) {j : Nat} {c : PCall} (hc : s.calls[j]? = some c) : ix (.cal j) < NN ∧ ix (.vrs j) < NN := by
  have hj : j < s.calls.length := (List.getElem?_eq_some_iff.1 hc).1
  exact ⟨ix_lt (dom_inR hw (a := .cal j) hj), ix_lt (dom_inR hw (a := .vrs j) hj)⟩
theorem WF.p {s : PRun} (hw : WF s) {j : Nat} {l : List Int} (hc : s.pool[j]? = some l) : ix (.clk j) < NN ∧ l.length = 32 := by
  have hj : j < s.pool.length := (List.getElem?_eq_some_iff.1 hc).1
  exact ⟨ix_lt (dom_inR hw (a := .clk j) hj), hw.pl l (List.mem_of_getElem? hc)⟩
theorem GRun.gl {P : Program} {n : Fr} {HS : Nat → List ABlk} {m : Nat} {o : LOp} {l : List LOp} {sl : List (Option Nat)} {E : Env} {K : Env → Prop} {t : Tmp} {want : Bool} {L : List Bool} {v : AV} (hg : o.g = some (t, want)) (hd : dstOk n o.dst = true) (hb : gval want (lk E t) = some L)
    (h : allL L = true → ∀ c, c ≤ m → QL P (HS c) (fun x => stripL L (ev E x)) o.op v) (hr : GRun P n HS m l sl K (putE E o.dst (wrapL L v))) : GRun P n HS m (o :: l) (none :: sl) K E :=
  let ⟨E', h1, h2⟩ := hr
  ⟨E', .q o l sl E (wrapL L v) E' (fun c hc => .gq t want L v hg hd hb fun ha => by rw [show evF (lk E) = ev E from funext fun x => (ev_eq E x).symm]; exact h ha c hc) h1, h2⟩
theorem gG {P : Program} {n : Fr} {HS : Nat → List ABlk} {o : LOp} {l : List LOp} {sl : List (Option Nat)} {E : Env} {K : Env → Prop} {t : Tmp} {want : Bool} {L : List Bool} {v : AV} (hr : GRun P n HS 1 l sl K (putE E o.dst (wrapL L v))) (hg : o.g = some (t, want) := by rfl) (hd : dstOk n o.dst = true := by rfl) (hb : gval want (lk E t) = some L := by (simp +decide only [go_sem, *] <;> rfl))
    (h0 : qfun P (HS 0) (fun x => stripL L (ev E x)) o.op = some v := by (simp +decide only [go_sem, *] <;> rfl)) (h1 : qfun P (HS 1) (fun x => stripL L (ev E x)) o.op = some v := by (simp +decide only [go_sem, *] <;> rfl)) : GRun P n HS 1 (o :: l) (none :: sl) K E :=
  .gl hg hd hb (fun _ c hc => ql_fun (by rcases (by omega : c = 0 ∨ c = 1) with h | h <;> subst h <;> assumption)) hr
theorem gX {P : Program} {n : Fr} {HS : Nat → List ABlk} {m : Nat} {o : LOp} {l : List LOp} {sl : List (Option Nat)} {E : Env} {K : Env → Prop} {t : Tmp} {want : Bool} {L : List Bool} {v : AV} (hr : GRun P n HS m l sl K (putE E o.dst (wrapL L v))) (hg : o.g = some (t, want) := by rfl) (hd : dstOk n o.dst = true := by rfl) (hb : gval want (lk E t) = some L := by (simp +decide only [go_sem, *] <;> rfl))
    (hx : allL L = false := by (simp +decide only [go_sem, allL, Bool.false_and, Bool.and_false, *])) : GRun P n HS m (o :: l) (none :: sl) K E :=
  .gl hg hd hb (fun h => by rw [hx] at h; cases h) hr
abbrev stB (st : Stp) : ABlk := ⟨70, 6, [encS st]⟩
def room (s : PRun) : Bool := decide ((s.objs.length : Int) < 200)
def objL (s : PRun) (n : Int) : Int := (s.objs.getD n.toNat (0, 0)).2
def canF (s : PRun) (c : PCall) (st : Stp) : Bool :=
  if st.op = 1 then room s
  else if st.op = 2 then setB c [st.w] && (room s || decide (0 ≤ objL s (c.vars.getD st.w.toNat 0)))
  else if st.op = 3 then setB c [st.v, st.w]
  else if st.op = 4 ∨ st.op = 5 then setB c [st.v]
  else if st.op = 6 then bif setB c st.vars then decide ((s.tasks.length : Int) < 32) else false
  else if st.op = 8 ∨ st.op = 9 then setB c st.vars
  else true
structure Vok (s : PRun) (c : PCall) (st : Stp) : Prop where
  v : (st.op = 1 ∨ st.op = 2 ∨ st.op = 3 ∨ st.op = 4 ∨ st.op = 5) → inV c st.v
  w : (st.op = 2 ∨ st.op = 3) → inV c st.w
  vs : (st.op = 6 ∨ st.op = 8 ∨ st.op = 9) → ∀ v ∈ st.vars, inV c v
  ob : ∀ x ∈ c.vars, x < s.objs.length
  vl : st.vars.length ≤ 1000
theorem RetH.runV {rs : List ResultVar} {n : Nat} {d : AV} {s' : PRun} {E : Env} {H : List ABlk} {vs : List AV} (T : List ABlk) (hw : WF s') (hv : resVals Tryd.prog ⟨E, H⟩ rs = some vs) (hH : H = HH s' ++ T) (he : packA vs = d) (hd : RfA (· < NN) d) : RetH Tryd.prog rs ⟨n, NN⟩ d (HH s') ⟨E, H⟩ :=
  .run hw hv hH (by rw [he]; exact hd.pub fun b hb => pre_lt hb)
theorem can2 (a b : Bool) : (bif a then true else b) = (a || b) := by cases a <;> rfl
theorem can_ok {s : PRun} (hw : WF s) {j : Nat} {c : PCall} {st : Stp} (hc : s.calls[j]? = some c) (hv : Vok s c st) : FnH Tryd.prog 88 [ptR, encS st, ptC j] (HH s) (.bool (canF s c st)) (HH s) := by
  obtain ⟨hj, hj2⟩ := hw.c hc
  obtain ⟨R, hR⟩ : ∃ R, R = canF s c st := ⟨_, rfl⟩
  rw [← hR]
  have i1 : ∀ vs : List Int, (∀ v ∈ vs, inV c v) → vs.length ≤ 1000 → FnH Tryd.prog 111 [ptC j, .lst (vs.map .int)] (HH s) (.bool (setB c vs)) (HH s) := fun vs h1 h2 => set_ok hw h1 (by omega) hc hj hj2
  have hrl : ∀ vs : List Int, ∀ a ∈ [ptC j, AV.lst (vs.map .int)], RfA (· < NN) a := fun vs a ha => by
    simp only [List.mem_cons, List.not_mem_nil, or_false] at ha
    rcases ha with rfl | rfl
    · exact .ptr hj
    · exact .pu (Pu_mapInt _)
  refine FnH.intro' [(0, ptR), (1, encS st), (2, ptC j)] 3 85 NN Tryd.func88 (by kernel_rfl) rfl rfl rfl rfl rfl (HH_len s) ?_
  obtain ⟨o, v, w, n, tk, vs⟩ := st
  obtain ⟨v1, v2, v3, v4, v5⟩ := hv
  simp only at v1 v2 v3 v5
  simp only [canF] at hR
  refine goF ?_
  refine ifA (fun h1 => ?_) (fun h1 => ?_)
  · simp at h1
    rw [if_pos h1] at hR
    refine goF ?_
    rw [hR]
    clear hR i1 v1 v2 v3
    exact .runV [stB ⟨1, v, w, n, tk, vs⟩] hw (vs := [.bool (room s)]) (by show resVals _ _ [.tmp 6] = _; simp +decide only [resVals, resVal, ldPtr, ldE, go_sem, *] <;> rfl) rfl rfl (.pu (.base _))
  simp at h1
  rw [if_neg h1] at hR
  refine goF ?_
  refine ifA (fun h2 => ?_) (fun h2 => ?_)
  · simp at h2
    rw [if_pos h2] at hR
    have hw2 := v2 (.inl h2)
    have i2 := i1 [w] (by simp [hw2]) (by simp)
    obtain ⟨w0, w1⟩ := hw2
    obtain ⟨w', rfl⟩ : ∃ w' : Nat, w = w' := ⟨_, (Int.toNat_of_nonneg w0).symm⟩
    rw [Int.toNat_natCast] at w1
    obtain ⟨x, hx⟩ : ∃ x, c.vars[w']? = some x := ⟨_, List.getElem?_eq_getElem w1⟩
    have hvv := vrsV_own (j := j) hx
    have hidx : (c.vars.map AV.int)[w']? = some (.int x) := by rw [List.getElem?_map, hx]; rfl
    have hxo := v4 x (List.mem_of_getElem? hx)
    have hsx : setB c [(w' : Int)] = !decide (x < 0) := by simp [setB, List.getD_eq_getElem?_getD, hx]
    have hgd : c.vars.getD (w' : Int).toNat 0 = x := by rw [Int.toNat_natCast, List.getD_eq_getElem?_getD, hx]; rfl
    rw [hsx, hgd] at hR
    rw [hsx] at i2
    clear v1 v2 v3 hsx hgd h1 i1
    refine AWp.seq ?_
    by_cases hx0 : x < 0
    · have hdx : decide (x < 0) = true := by simp [hx0]
      rw [hdx] at hR i2
      refine drS (k := 26) [none, none, none, none, some 0, none, none, none, none, none, none, none, none, none, none, none, none, none, none, none, none, none, none, none, none, none] (fun _ => HH s ++ [stB ⟨o, v, w', n, tk, vs⟩]) 1 follows ?_
      refine gS ?_
      refine gS ?_
      refine gS ?_
      refine GRun.q1 (v := .lst [.int w']) rfl rfl (fun _ _ => ql_buildSlice (by decide) Tryd.underlying25 sz3 (by kernel_rfl) (by decide) (by (simp +decide only [List.map, go_sem, *] <;> rfl)) (by (simp +decide only [List.map, go_sem, *] <;> rfl)) rfl) ?_
      refine GRun.p1 (v := .bool (false)) rfl rfl (fun ρ' h => pl_callR hw hw i2 rfl ((h (.func 111) (by simp [Op.operands, Call.operands])).trans rfl) (by
        have e1 := (h (.tmp 21) (by simp [Op.operands, Call.operands])).trans (show _ = ptC j by simp +decide only [go_sem, *] <;> rfl)
        have e2 := (h (.tmp 24) (by simp [Op.operands, Call.operands])).trans (show _ = AV.lst [.int w'] by simp +decide only [go_sem, *] <;> rfl)
        simp only [List.map_cons, List.map_nil, e1, e2]; rfl) (hrl _) (.pu (.base _))) ?_
      refine gS ?_
      refine gG ?_
      refine gG ?_
      refine gX (v := .bad) ?_
      refine gX (v := .bad) ?_
      refine gX (v := .bad) ?_
      refine gX (v := .bad) ?_
      refine gX (v := .bad) ?_
      refine gX (v := .bad) ?_
      refine gX (v := .bad) ?_
      refine gX (v := .bad) ?_
      refine gX (v := .bad) ?_
      refine gX (v := .bad) ?_
      refine gX (v := .bad) ?_
      refine gX (v := .bad) ?_
      refine gX (v := .bad) ?_
      refine gX (v := .bad) ?_
      refine gX (v := .bad) ?_
      refine gX (v := .bad) ?_
      refine gX (v := .bool false) ?_
      refine gS ?_
      refine GRun.nil ?_
      refine goF ?_
      rw [hR]
      clear hR hrl i2
      exact .runV [stB ⟨2, v, w', n, tk, vs⟩] hw (vs := [.bool false]) (by show resVals _ _ [.tmp 6] = _; simp +decide only [resVals, resVal, ldPtr, ldE, go_sem, *] <;> rfl) rfl (by simp [packA]) (.pu (.base _))
    have hdx : decide (x < 0) = false := by simp; omega
    rw [hdx] at hR i2
    obtain ⟨x', rfl⟩ : ∃ x' : Nat, x = x' := ⟨_, (Int.toNat_of_nonneg (by omega)).symm⟩
    have hxl : x' < s.objs.length := by omega
    obtain ⟨y, hy⟩ : ∃ y, s.objs[x']? = some y := ⟨_, List.getElem?_eq_getElem hxl⟩
    have hyo : objL s (x' : Int) = y.2 := by simp [objL, List.getD_eq_getElem?_getD, hy]
    have hyx : (s.objs.map encO)[x']? = some (encO y) := by rw [List.getElem?_map, hy]; rfl
    rw [hyo] at hR
    clear hyo hdx hx0 v4
    refine drS (k := 26) [none, none, none, none, some 0, none, none, none, none, none, none, none, none, none, none, none, none, none, none, none, none, none, none, none, none, none] (fun _ => HH s ++ [stB ⟨o, v, w', n, tk, vs⟩]) 1 follows ?_
    refine gS ?_
    refine gS ?_
    refine gS ?_
    refine GRun.q1 (v := .lst [.int w']) rfl rfl (fun _ _ => ql_buildSlice (by decide) Tryd.underlying25 sz3 (by kernel_rfl) (by decide) (by (simp +decide only [List.map, go_sem, *] <;> rfl)) (by (simp +decide only [List.map, go_sem, *] <;> rfl)) rfl) ?_
    refine GRun.p1 (v := .bool (true)) rfl rfl (fun ρ' h => pl_callR hw hw i2 rfl ((h (.func 111) (by simp [Op.operands, Call.operands])).trans rfl) (by
      have e1 := (h (.tmp 21) (by simp [Op.operands, Call.operands])).trans (show _ = ptC j by simp +decide only [go_sem, *] <;> rfl)
      have e2 := (h (.tmp 24) (by simp [Op.operands, Call.operands])).trans (show _ = AV.lst [.int w'] by simp +decide only [go_sem, *] <;> rfl)
      simp only [List.map_cons, List.map_nil, e1, e2]; rfl) (hrl _) (.pu (.base _))) ?_
    refine gS ?_
    refine gG ?_
    refine gG ?_
    refine gG ?_
    refine gG ?_
    refine gG ?_
    refine gG ?_
    refine gG ?_
    refine gG ?_
    refine gG ?_
    refine gG ?_
    refine gG ?_
    refine gG ?_
    refine GRun.gl (L := [true, !decide ((s.objs.length : Int) < 200)]) (v := .ptr (ix (.vrs j)) c.vars.length w' 0) rfl rfl (by simp +decide only [go_sem] <;> rfl) (fun _ _ _ => ql_ixo (n := w') (by simp +decide only [go_sem, *] <;> rfl) (by simp +decide only [go_sem, *] <;> rfl) Tryd.underlying25 (by simp +decide only [go_sem, *] <;> rfl) (by simp) w1 (by simp +decide only [go_sem, *] <;> rfl)) ?_
    refine gG ?_
    refine GRun.gl (L := [true, !decide ((s.objs.length : Int) < 200)]) (v := .ptr (ix .ob) s.objs.length x' 0) rfl rfl (by simp +decide only [go_sem] <;> rfl) (fun _ _ _ => ql_ixo (n := x') (by simp +decide only [go_sem, *] <;> rfl) (by simp +decide only [go_sem, *] <;> rfl) Tryd.underlying79 (by simp +decide only [go_sem, *] <;> rfl) (by simp) hxl (by simp +decide only [go_sem, *] <;> rfl)) ?_
    refine gG ?_
    refine gG ?_
    refine gG ?_
    refine gG ?_
    refine gS ?_
    refine GRun.nil ?_
    refine goF ?_
    rw [hR]
    clear hR hrl i2
    exact .runV [stB ⟨2, v, w', n, tk, vs⟩] hw (vs := [.bool (bif decide ((s.objs.length : Int) < 200) then true else decide (0 ≤ y.2))]) (by show resVals _ _ [.tmp 6] = _; simp +decide only [resVals, resVal, ldPtr, ldE, go_sem, *] <;> rfl) rfl (by rw [can2, Bool.not_false, Bool.true_and]; unfold room; rfl) (.pu (.base _))
  simp at h2
  rw [if_neg h2] at hR
  refine goF ?_
  refine ifA (fun h3 => ?_) (fun h3 => ?_)
  · simp at h3
    rw [if_pos h3] at hR
    have i2 := i1 [v, w] (by simp [v1 (by omega), v2 (by omega)]) (by simp)
    refine goF ?_
    refine ARun.p1 rfl rfl (pl_callR hw hw (T := [stB ⟨3, v, w, n, tk, vs⟩]) i2 rfl (by simp +decide only [go_sem, *] <;> rfl) (by simp +decide only [go_sem, *] <;> rfl) (hrl _) (.pu (.base _))) ?_
    refine goF ?_
    rw [hR]
    clear hR i1 v1 v2 v3
    exact .runV [stB ⟨3, v, w, n, tk, vs⟩] hw (vs := [.bool (setB c [v, w])]) (by show resVals _ _ [.tmp 6] = _; simp +decide only [resVals, resVal, ldPtr, ldE, go_sem, *] <;> rfl) rfl rfl (.pu (.base _))
  simp at h3
  rw [if_neg h3] at hR
  refine goF ?_
  have i2 : (o = 4 ∨ o = 5) → FnH Tryd.prog 111 [ptC j, .lst ([v].map .int)] (HH s) (.bool (setB c [v])) (HH s) := fun h => i1 [v] (by simp [v1 (by omega)]) (by simp)
  refine ifA (fun h4 => ?_) (fun h4 => ?_)
  · simp at h4
    rw [if_pos (.inl h4)] at hR
    replace i2 := i2 (.inl h4)
    refine goF ?_
    refine iftd_ rfl (by omega) ?_
    refine goF ?_
    refine ARun.p1 rfl rfl (pl_callR hw hw (T := [stB ⟨4, v, w, n, tk, vs⟩]) i2 rfl (by simp +decide only [go_sem, *] <;> rfl) (by simp +decide only [go_sem, *] <;> rfl) (hrl _) (.pu (.base _))) ?_
    refine goF ?_
    rw [hR]
    clear hR i1 v1 v2 v3
    exact .runV [stB ⟨4, v, w, n, tk, vs⟩] hw (vs := [.bool (setB c [v])]) (by show resVals _ _ [.tmp 6] = _; simp +decide only [resVals, resVal, ldPtr, ldE, go_sem, *] <;> rfl) rfl rfl (.pu (.base _))
  simp at h4
  refine goF ?_
  refine ifA (fun h5 => ?_) (fun h5 => ?_)
  · simp at h5
    rw [if_pos (.inr h5)] at hR
    replace i2 := i2 (.inr h5)
    refine goF ?_
    refine ARun.p1 rfl rfl (pl_callR hw hw (T := [stB ⟨5, v, w, n, tk, vs⟩]) i2 rfl (by simp +decide only [go_sem, *] <;> rfl) (by simp +decide only [go_sem, *] <;> rfl) (hrl _) (.pu (.base _))) ?_
    refine goF ?_
    rw [hR]
    clear hR i1 v1 v2 v3
    exact .runV [stB ⟨5, v, w, n, tk, vs⟩] hw (vs := [.bool (setB c [v])]) (by show resVals _ _ [.tmp 6] = _; simp +decide only [resVals, resVal, ldPtr, ldE, go_sem, *] <;> rfl) rfl rfl (.pu (.base _))
  simp at h5
  rw [if_neg (by omega)] at hR
  refine goF ?_
  clear i2
  have i2 : (o = 6 ∨ o = 8 ∨ o = 9) → FnH Tryd.prog 111 [ptC j, .lst (vs.map .int)] (HH s) (.bool (setB c vs)) (HH s) := fun h => i1 vs (v3 h) v5
  refine ifA (fun h6 => ?_) (fun h6 => ?_)
  · simp at h6
    rw [if_pos h6] at hR
    replace i2 := i2 (.inl h6)
    refine goF ?_
    refine ARun.p1 rfl rfl (pl_callR hw hw (T := [stB ⟨6, v, w, n, tk, vs⟩]) i2 rfl (by simp +decide only [go_sem, *] <;> rfl) (by simp +decide only [go_sem, *] <;> rfl) (hrl _) (.pu (.base _))) ?_
    refine goF ?_
    rw [hR]
    clear hR i1 v1 v2 v3
    exact .runV [stB ⟨6, v, w, n, tk, vs⟩] hw (vs := [.bool (bif setB c vs then decide ((s.tasks.length : Int) < 32) else false)]) (by show resVals _ _ [.tmp 6] = _; simp +decide only [resVals, resVal, ldPtr, ldE, go_sem, *] <;> rfl) rfl rfl (.pu (.base _))
  simp at h6
  rw [if_neg h6] at hR
  refine goF ?_
  refine ifA (fun h8 => ?_) (fun h8 => ?_)
  · simp at h8
    rw [if_pos (.inl h8)] at hR
    replace i2 := i2 (.inr (.inl h8))
    refine goF ?_
    refine iftd_ rfl (by omega) ?_
    refine goF ?_
    refine ARun.p1 rfl rfl (pl_callR hw hw (T := [stB ⟨8, v, w, n, tk, vs⟩]) i2 rfl (by simp +decide only [go_sem, *] <;> rfl) (by simp +decide only [go_sem, *] <;> rfl) (hrl _) (.pu (.base _))) ?_
    refine goF ?_
    rw [hR]
    clear hR i1 v1 v2 v3
    exact .runV [stB ⟨8, v, w, n, tk, vs⟩] hw (vs := [.bool (setB c vs)]) (by show resVals _ _ [.tmp 6] = _; simp +decide only [resVals, resVal, ldPtr, ldE, go_sem, *] <;> rfl) rfl rfl (.pu (.base _))
  simp at h8
  refine goF ?_
  refine ifA (fun h9 => ?_) (fun h9 => ?_)
  · simp at h9
    rw [if_pos (.inr h9)] at hR
    replace i2 := i2 (.inr (.inr h9))
    refine goF ?_
    refine ARun.p1 rfl rfl (pl_callR hw hw (T := [stB ⟨9, v, w, n, tk, vs⟩]) i2 rfl (by simp +decide only [go_sem, *] <;> rfl) (by simp +decide only [go_sem, *] <;> rfl) (hrl _) (.pu (.base _))) ?_
    refine goF ?_
    rw [hR]
    clear hR i1 v1 v2 v3
    exact .runV [stB ⟨9, v, w, n, tk, vs⟩] hw (vs := [.bool (setB c vs)]) (by show resVals _ _ [.tmp 6] = _; simp +decide only [resVals, resVal, ldPtr, ldE, go_sem, *] <;> rfl) rfl rfl (.pu (.base _))
  simp at h9
  rw [if_neg (by omega)] at hR
  refine goF ?_
  rw [hR]
  clear hR i1 v1 v2 v3
  exact .runV [stB ⟨o, v, w, n, tk, vs⟩] hw (vs := [.bool true]) (by show resVals _ _ [.tmp 6] = _; simp +decide only [resVals, resVal, ldPtr, ldE, go_sem, *] <;> rfl) rfl rfl (.pu (.base _))
end Go.Ab
set_option maxHeartbeats 4000000
namespace Go.Ab
open Go Go.Ab Go.Proofs Go.Ab.Ty

structure Nx (s : PRun) (k : Nat) (t : PTask) (j : Nat) (c : PCall) (st : Stp) : Prop where
  ht : s.tasks[k]? = some t
  hm : ∃ m, t.slen = m + 1 ∧ t.sarr[m]? = some j
  hc : s.calls[j]? = some c
  hi : ∃ i : Nat, c.pc = i ∧ c.code.steps[i]? = some st
theorem nextN {s : PRun} (hw : WF s) {k j : Nat} {t : PTask} {c : PCall} {st : Stp} (h : Nx s k t j c st) : FnH Tryd.prog 86 [ptK k] (HH s) (.tup [encS st, ptC j]) (HH s) := by
  obtain ⟨m, h1, h2⟩ := h.hm
  obtain ⟨i, h3, h4⟩ := h.hi
  have hk := hw.k h.ht
  have hc := hw.c h.hc
  exact next_ok hw h.ht hk.1 hk.2.1 h1 h2 h.hc hc.1 h3 h4
def actOf (c : PCall) (st : Stp) : Int := if st.op = 8 then st.n else c.actor
def hasN (s : PRun) (k : Nat) (a : Int) (i : Nat) : Bool := match s.tasks[i]? with
  | some t => bif (i : Int) != (k : Int) then decide (t.has = a) else false
  | none => false
def blkF (s : PRun) (k : Nat) (a : Int) : Bool := !decide (a < 0) && (List.range s.tasks.length).any (hasN s k a)
theorem blocked_ok {s : PRun} (hw : WF s) {k j : Nat} {t : PTask} {c : PCall} {st : Stp} (h : Nx s k t j c st) : FnH Tryd.prog 110 [ptR, .int k] (HH s) (.bool (blkF s k (actOf c st))) (HH s) := by
  have i1 := nextN hw h
  have ht := h.ht
  have hc := h.hc
  obtain ⟨hk1, hk2, hk3, hk4, hkl, hrg⟩ := hw.k ht
  obtain ⟨hj, hj2⟩ := hw.c hc
  have hrl : ∀ a ∈ [ptK k], RfA (· < NN) a := fun a ha => by rw [List.mem_singleton] at ha; subst ha; exact .ptr hk1
  obtain ⟨R, hR⟩ : ∃ R, R = blkF s k (actOf c st) := ⟨_, rfl⟩
  rw [← hR]
  clear h
  refine FnH.intro' [(0, ptR), (1, .int k)] 2 54 NN Tryd.func110 (by kernel_rfl) rfl rfl rfl rfl rfl (HH_len s) ?_
  refine goF ?_
  refine ARun.q1 rfl rfl (ql_ixo (n := k) (b := ix .tk) (by simp +decide only [go_sem, *] <;> rfl) (by simp +decide only [go_sem, *] <;> rfl) Tryd.underlying80 (by simp +decide only [go_sem, *] <;> rfl) (by simp) hkl (by simp +decide only [go_sem, *] <;> rfl)) ?_
  refine goF ?_
  refine ARun.p1 rfl rfl (pl_callW i1 (Nat.le_refl _) rfl (by simp +decide only [go_sem, *] <;> rfl) (by simp +decide only [go_sem, *] <;> rfl)) ?_
  refine goF ?_
  have hlen : (HH s).length = NN := HH_len s
  refine AWp.join ⟨[(0, ptR), (1, .int k), (7, .int (actOf c st))], HH s ++ [stB st]⟩ ?_ ?_
  · refine ifA (fun h8 => ?_) (fun h8 => ?_)
    · simp at h8
      refine goF ?_
      rw [show actOf c st = st.n by rw [actOf, if_pos h8]]
      rw [← h8]
      exact .wf
    simp at h8
    refine goF ?_
    rw [show actOf c st = c.actor by rw [actOf, if_neg h8]]
    exact .wf
  generalize actOf c st = a at *
  clear i1 ht hc hj hj2
  refine goF ?_
  refine ifA (fun ha => ?_) (fun ha => ?_)
  · simp at ha
    rw [show R = false by rw [hR, blkF]; simp [ha]]
    refine goF ?_
    exact .runV [stB st] hw (vs := [.bool false]) (by show resVals _ _ [.tmp 4] = _; simp +decide only [resVals, resVal, ldPtr, ldE, go_sem, *] <;> rfl) rfl rfl (.pu (.base _))
  simp at ha
  have hR2 : R = (List.range s.tasks.length).any (hasN s k a) := by rw [hR, blkF]; simp; intro _ _ _; omega
  have hn32 := hw.nT
  refine goF ?_
  refine AWp.loop (J := fun i : Nat => i ≤ s.tasks.length ∧ Fst (fun x => hasN s k a x = false) (List.range s.tasks.length) i) (fun i => ⟨[(0, ptR), (1, .int k), (7, .int a), (35, .own (ix .tk) s.tasks.length 0 s.tasks.length), (36, .int s.tasks.length), (37, .int i)], HH s ++ [stB st]⟩) (fun i => s.tasks.length - i) 0 ⟨Nat.zero_le _, .zero _ _⟩ .wf ?_
  rintro i ⟨hi, he⟩
  refine goF ?_
  refine ifA (fun hd => ?_) (fun hd => ?_)
  · simp at hd
    obtain ⟨ti, hti⟩ : ∃ ti, s.tasks[i]? = some ti := ⟨_, List.getElem?_eq_getElem hd⟩
    obtain ⟨g1, g2, g3, g4, _, g6⟩ := hw.k hti
    have hh : hasN s k a i = bif (i : Int) != (k : Int) then decide (ti.has = a) else false := by unfold hasN; rw [hti]
    have hsu : hasN s k a i = false → Fst (fun x => hasN s k a x = false) (List.range s.tasks.length) (i + 1) := fun hp => he.succ (by rw [List.getElem?_range hd]) hp
    have hny : hasN s k a i = true → R = true := fun hp => by rw [hR2, List.any_eq_true]; exact ⟨i, List.mem_range.2 hd, hp⟩
    clear he hR hR2
    refine goF ?_
    refine ARun.q1 rfl rfl (ql_ixo (n := i) (b := ix .tk) (by simp +decide only [go_sem, *] <;> rfl) (by simp +decide only [go_sem, *] <;> rfl) Tryd.underlying80 (by simp +decide only [go_sem, *] <;> rfl) (by simp) hd (by simp +decide only [go_sem, *] <;> rfl)) ?_
    refine goF ?_
    rw [← hh]
    refine ifA (fun hb => ?_) (fun hb => ?_)
    · rw [hny hb]
      clear hny hsu hh
      refine goF ?_
      exact .runV [stB st] hw (vs := [.bool true]) (by show resVals _ _ [.tmp 4] = _; simp +decide only [resVals, resVal, ldPtr, ldE, go_sem, *] <;> rfl) rfl rfl (.pu (.base _))
    clear hny
    refine goF ?_
    rw [wrap_succ (by omega)]
    exact ⟨i + 1, ⟨hd, hsu hb⟩, by omega, .wf⟩
  simp at hd
  obtain rfl : i = s.tasks.length := by omega
  rw [show R = false by rw [hR2, List.any_eq_false]; exact fun x hx => by simp [he.all (by simp) x hx]]
  refine goF ?_
  exact .runV [stB st] hw (vs := [.bool false]) (by show resVals _ _ [.tmp 4] = _; simp +decide only [resVals, resVal, ldPtr, ldE, go_sem, *] <;> rfl) rfl rfl (.pu (.base _))
end Go.Ab
