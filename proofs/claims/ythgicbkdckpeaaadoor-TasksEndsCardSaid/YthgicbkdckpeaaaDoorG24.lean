/- Part of the proof. -/
import Derived.Test.YthgicbkdckpeaaaDoorG23
set_option linter.unusedSimpArgs false
set_option linter.unusedVariables false
set_option maxHeartbeats 4000000
namespace Go.Ab
open Go Go.Ab Go.Proofs Go.Ab.Ty

def PRun.addP (s : PRun) (l : List Int) : PRun := { s with pool := s.pool ++ [l] }
theorem addP_at {s : PRun} {l : List Int} : (s.addP l).pool[s.pool.length]? = some l := by simp [PRun.addP]
theorem addP_ne {s : PRun} {l : List Int} {j : Nat} (h : j ≠ s.pool.length) : (s.addP l).pool[j]? = s.pool[j]? := by
  unfold PRun.addP
  simp only
  rcases Nat.lt_or_ge j s.pool.length with h1 | h1
  · exact List.getElem?_append_left h1
  · rw [List.getElem?_eq_none (by simp; omega), List.getElem?_eq_none h1]
theorem HH_addP {s : PRun} {l : List Int} {j : Nat} (hj : j = s.pool.length) (h1 : ix (.clk j) < NN) : (HH s).set (ix (.clk j)) (intB l) = HH (s.addP l) := by
  subst hj
  refine HH_upd (s := s) (s' := s.addP l) [(.clk s.pool.length, intB l)] (upd1 ⟨h1, by simp only [blk]; rw [addP_at]⟩) fun a ha => ?_
  simp only [List.map_cons, List.map_nil, List.mem_singleton] at ha
  cases a with
  | clk j => simp only [blk]; rw [addP_ne fun e => ha (by rw [e])]
  | _ => rfl
theorem WF.addP {s : PRun} (hw : WF s) {l : List Int} (h1 : s.pool.length < MM) (h2 : l.length = 32) : WF (s.addP l) := by
  have hl : (s.addP l).pool.length = s.pool.length + 1 := by simp [PRun.addP]
  refine ⟨hw.nT, hw.nC, by rw [hl]; omega, hw.nB, fun x hx => ?_, fun j hj => by rw [hl]; have := hw.cks j hj; omega, fun j hj => by rw [hl]; have := hw.acts j hj; omega, fun o ho j e => by rw [hl]; have := hw.ends o ho j e; omega, fun t ht => ?_, fun x hx => ?_, hw.endl, hw.sz, hw.tsz, hw.csz⟩
  · simp only [PRun.addP, List.mem_append, List.mem_singleton] at hx
    rcases hx with hx | rfl
    · exact hw.pl x hx
    · exact h2
  · obtain ⟨a1, a2, a3, a4⟩ := hw.tsk t ht
    exact ⟨a1, a2, by rw [hl]; omega, a4⟩
  · obtain ⟨a1, a2⟩ := hw.behs x hx
    exact ⟨a1, fun j hj => by rw [hl]; have := a2 j hj; omega⟩
theorem PL.clk {s : PRun} (hw : WF s) {T : List ABlk} {ρ : Operand → AV} {op : Op} {l : List Int} (hM : s.pool.length < MM) (hl : l.length = 32) (h : PL Tryd.prog (HH s ++ T) ρ op (.own (HH s ++ T).length 32 0 32) ((HH s ++ T) ++ [intB l])) (hT : ∀ b ∈ T, RfB (Nb (HH s ++ T).length (ix (.clk s.pool.length))) b) :
    PL Tryd.prog (HH s ++ T) ρ op (ownC s.pool.length) (HH (s.addP l) ++ T) := by
  have hi : ix (.clk s.pool.length) < NN := ix_lt hM
  have h1 := PL.placeS h (p := ix (.clk s.pool.length)) (blk0 := intB []) (by rw [app_get (HH_len s) hi, HH_get s _ hi]; simp only [blk]; rw [List.getElem?_eq_none (Nat.le_refl _)]) rfl (by simp; intro e; rw [e] at hl; cases hl) intB_rf (app_rf (HH_nb hw (a := .clk s.pool.length) (by show ¬ _ < _; omega) (by simp [HH_len])) hT) MvR.ownL
  rw [app_set (HH_len s) hi, HH_addP rfl hi] at h1
  exact h1
theorem pl_join {s : PRun} (hw : WF s) {T : List ABlk} {ρ : Operand → AV} {c : Call} {fx : Operand} {x y : Nat} {a b : List Int} (hM : s.pool.length < MM) (hx : s.pool[x]? = some a) (hy : s.pool[y]? = some b) (hT : ∀ b ∈ T, RfB (Nb (HH s ++ T).length (ix (.clk s.pool.length))) b)
    (hc : c.callee = .value fx) (hfx : ρ fx = .clo 87 []) (ha : c.args.toList.map ρ ++ [] = [ownC x, ownC y]) : PL Tryd.prog (HH s ++ T) ρ (.call c) (ownC s.pool.length) (HH (s.addP (joinL a b)) ++ T) := by
  obtain ⟨i1, l1⟩ := hw.p hx
  obtain ⟨i2, l2⟩ := hw.p hy
  refine .clk hw hM (by rw [joinL_len (by omega)]; exact l1) (pl_callW (join_ok (by rw [app_get (HH_len s) i1, HH_get s _ i1]; simp only [blk]; rw [hx]) (by rw [app_get (HH_len s) i2, HH_get s _ i2]; simp only [blk]; rw [hy]) l1 l2 (by decide) (by decide)) (by simp) hc hfx ha) hT
theorem pl_clone {s : PRun} (hw : WF s) {T : List ABlk} {ρ : Operand → AV} {c : Call} {fx : Operand} {x : Nat} {a : List Int} (hM : s.pool.length < MM) (hx : s.pool[x]? = some a) (hT : ∀ b ∈ T, RfB (Nb (HH s ++ T).length (ix (.clk s.pool.length))) b)
    (hc : c.callee = .value fx) (hfx : ρ fx = .clo 89 []) (ha : c.args.toList.map ρ ++ [] = [ownC x]) : PL Tryd.prog (HH s ++ T) ρ (.call c) (ownC s.pool.length) (HH (s.addP a) ++ T) := by
  obtain ⟨i1, l1⟩ := hw.p hx
  refine .clk hw hM l1 (pl_callW (clone_ok (by rw [app_get (HH_len s) i1, HH_get s _ i1]; simp only [blk]; rw [hx]) l1 (by decide) (by decide)) (by simp) hc hfx ha) hT
end Go.Ab
set_option maxHeartbeats 4000000
namespace Go.Ab
open Go Go.Ab Go.Proofs Go.Ab.Ty

def PRun.enS (s : PRun) (n j : Nat) : PRun := { s with ends := s.ends.set n (some j) }
theorem HH_enS {s : PRun} {n j : Nat} : (HH s).set (ix .en) ⟨25, 1, (s.ends.set n (some j)).map endV⟩ = HH (s.enS n j) :=
  HH_upd (s := s) (s' := s.enS n j) [(.en, _)] (upd1 ⟨ixl_en, rfl⟩) fun a ha => by
    cases a with
    | en => simp at ha
    | rn => simp only [blk, rnB, PRun.enS, List.length_set]
    | _ => rfl
theorem WF.enS {s : PRun} (hw : WF s) {n j : Nat} (hj : j < s.pool.length) : WF (s.enS n j) := by
  refine ⟨hw.nT, hw.nC, hw.nK, hw.nB, hw.pl, hw.cks, hw.acts, fun o ho i e => ?_, hw.tsk, hw.behs, by simp [PRun.enS]; exact hw.endl, hw.sz, hw.tsz, hw.csz⟩
  rcases List.mem_or_eq_of_mem_set ho with ho | rfl
  · exact hw.ends o ho i e
  · injection e with e; subst e; exact hj
def PRun.addB (s : PRun) (l : List Nat) : PRun := { s with behs := s.behs ++ [l] }
theorem addB_at {s : PRun} {l : List Nat} : (s.addB l).behs[s.behs.length]? = some l := by simp [PRun.addB]
theorem addB_ne {s : PRun} {l : List Nat} {j : Nat} (h : j ≠ s.behs.length) : (s.addB l).behs[j]? = s.behs[j]? := by
  unfold PRun.addB
  simp only
  rcases Nat.lt_or_ge j s.behs.length with h1 | h1
  · exact List.getElem?_append_left h1
  · rw [List.getElem?_eq_none (by simp; omega), List.getElem?_eq_none h1]
theorem HH_addB {s : PRun} {l : List Nat} {j : Nat} (hj : j = s.behs.length) (h1 : ix (.beh j) < NN) : (HH s).set (ix (.beh j)) ⟨25, 1, l.map ownC⟩ = HH (s.addB l) := by
  subst hj
  refine HH_upd (s := s) (s' := s.addB l) [(.beh s.behs.length, ⟨25, 1, l.map ownC⟩)] (upd1 ⟨h1, by simp only [blk]; rw [addB_at]⟩) fun a ha => ?_
  simp only [List.map_cons, List.map_nil, List.mem_singleton] at ha
  cases a with
  | beh j => simp only [blk]; rw [addB_ne fun e => ha (by rw [e])]
  | _ => rfl
theorem WF.addB {s : PRun} (hw : WF s) {j : Nat} (h1 : s.behs.length < MM) (h2 : j < s.pool.length) : WF (s.addB [j]) := by
  have hl : (s.addB [j]).behs.length = s.behs.length + 1 := by simp [PRun.addB]
  refine ⟨hw.nT, hw.nC, hw.nK, by rw [hl]; omega, hw.pl, hw.cks, hw.acts, hw.ends, fun t ht => ?_, fun x hx => ?_, hw.endl, hw.sz, hw.tsz, hw.csz⟩
  · obtain ⟨a1, a2, a3, a4⟩ := hw.tsk t ht
    exact ⟨a1, a2, a3, fun b hb => by rw [hl]; have := a4 b hb; omega⟩
  · simp only [PRun.addB, List.mem_append, List.mem_singleton] at hx
    rcases hx with hx | rfl
    · exact hw.behs x hx
    · exact ⟨rfl, fun i hi => by rw [List.mem_singleton] at hi; subst hi; exact h2⟩
theorem pl_beh {s : PRun} (hw : WF s) {ρ : Operand → AV} {x y : Operand} {j : Nat} (hM : s.behs.length < MM) (hj : j < s.pool.length) (hx : ρ x = nilS) (hy : ρ y = .lst [ownC j]) :
    PL Tryd.prog (HH s) ρ (.call { callee := .builtin .append, args := #[x, y], argTypes := #[81, 81] }) (.own (ix (.beh s.behs.length)) 1 0 1) (HH (s.addB [j])) := by
  have hi : ix (.beh s.behs.length) < NN := ix_lt hM
  have h0 := pl_append_nil (P := Tryd.prog) (H := HH s) (ρ := ρ) (s := x) (x := y) hx hy Tryd.underlying81 el25 (fun e he => by rw [List.mem_singleton] at he; subst he; exact ⟨rfl, rfl⟩) (by simp) (by simp)
  have h1 := PL.placeS h0 (p := ix (.beh s.behs.length)) (blk0 := ⟨25, 1, []⟩) (by rw [HH_get s _ hi]; simp only [blk]; rw [List.getElem?_eq_none (Nat.le_refl _)]) rfl (by simp) (fun e he d hd => by
    rw [List.mem_singleton] at he; subst he
    simp only [AV.cells, List.mem_singleton] at hd; subst hd
    exact .own ⟨fun e => (by have := ix_inj e; cases this), by
      have : ix (.clk j) < NN := ix_lt (by show j < MM; have := hw.nK; omega)
      simp only [HH_len]; omega⟩) (HH_nb hw (a := .beh s.behs.length) (by show ¬ _ < _; omega) (by simp [HH_len])) MvR.ownL
  rw [← HH_addB rfl hi]
  exact h1
end Go.Ab
set_option maxHeartbeats 4000000
namespace Go.Ab
open Go Go.Ab Go.Proofs Go.Ab.Ty

def kidsJ : PRun → Nat → List Int → PRun × Nat × Bool
  | s, e, [] => (s, e, true)
  | s, e, k :: ks => match s.tasks[k.toNat]?, s.ends[k.toNat]? with
    | some tk, some (some x) => if 3 ≤ tk.state then kidsJ (s.addP (joinL (s.pool.getD e []) (s.pool.getD x []))) s.pool.length ks else (s, e, false)
    | _, _ => (s, e, false)
def topJ (t : PTask) : Nat := t.sarr.getD (t.slen - 1) 0
def goOnF (S : PRun → Nat → PRun) (s : PRun) (n j : Nat) : PRun := match s.tasks[n]?, s.calls[j]? with
  | some t, some c => match popS (s.cset j { c with pc := c.pc + 1 }).calls t.sarr (t.slen - 1) j with
    | none => S ((s.cset j { c with pc := c.pc + 1 }).tset n (clo { t with slen := 1 } 3)) n
    | some m => (s.cset j { c with pc := c.pc + 1 }).tset n { t with slen := m + 1 }
  | _, _ => s
def wakeT (s : PRun) (p : Nat) (tp : PTask) (e : Nat) : PRun := (s.addB [e]).tset p { tp with waits := -1, state := 1, beh := some s.behs.length }
def wakeP (s : PRun) (p : Nat) (tp : PTask) (e : Nat) : PRun := match s.calls[topJ tp]? with
  | some c => if c.pc = (c.code.steps.length : Int) - 1 then (((wakeT s p tp e).addP (joinL (s.pool.getD tp.clk []) (s.pool.getD e []))).tset p { tp with waits := -1, state := 1, beh := some s.behs.length, clk := s.pool.length }) else wakeT s p tp e
  | none => wakeT s p tp e
def settleF : Nat → PRun → Nat → PRun
  | 0, s, _ => s
  | f + 1, s, n => match s.tasks[n]? with
    | none => s
    | some t => if t.ending = 0 ∨ 3 ≤ t.state then s else match kidsJ s t.clk t.kids with
      | (s1, _, false) => s1
      | (s1, e, true) => if t.par < 0 then (s1.enS n e).tset n { t with state := t.ending } else match s1.tasks[t.par.toNat]? with
        | none => s1
        | some tp => if tp.waits = n then goOnF (settleF f) (wakeP ((s1.enS n e).tset n { t with state := t.ending }) t.par.toNat tp e) t.par.toNat (topJ tp)
          else settleF f ((s1.enS n e).tset n { t with state := t.ending }) t.par.toNat

structure Iv (s : PRun) : Prop where
  wf : WF s
  kd : Kok s
  par : ∀ (k : Nat) (t : PTask), s.tasks[k]? = some t → t.par = -1 ∨ ∃ p : Nat, t.par = (p : Int) ∧ p < k
  stk : ∀ (k : Nat) (t : PTask), s.tasks[k]? = some t → 0 < t.slen
  en : ∀ (k : Nat) (t : PTask), s.tasks[k]? = some t → 3 ≤ t.state → ∃ j, s.ends[k]? = some (some j)
  wt : ∀ (k : Nat) (t : PTask), s.tasks[k]? = some t → 0 ≤ t.waits → t.beh = none
  ed : ∀ (k : Nat) (t : PTask), s.tasks[k]? = some t → t.ending = 0 ∨ 3 ≤ t.ending
  dis : ∀ (k : Nat) (t : PTask) (k' : Nat) (t' : PTask) (i i' j : Nat), s.tasks[k]? = some t → s.tasks[k']? = some t' → i < t.slen → i' < t'.slen → t.sarr[i]? = some j → t'.sarr[i']? = some j → k = k' ∧ i = i'
  pcB : ∀ c ∈ s.calls, 0 ≤ c.pc ∧ c.pc ≤ c.code.steps.length
  pcI : ∀ (k : Nat) (t : PTask) (j : Nat) (c : PCall), s.tasks[k]? = some t → (t.state = 1 ∨ 0 ≤ t.waits) → t.sarr[t.slen - 1]? = some j → s.calls[j]? = some c → c.pc < c.code.steps.length
theorem Iv.addP {s : PRun} (h : Iv s) {l : List Int} (h1 : s.pool.length < MM) (h2 : l.length = 32) : Iv (s.addP l) :=
  ⟨h.wf.addP h1 h2, ⟨h.kd.kd⟩, h.par, h.stk, h.en, h.wt, h.ed, h.dis, h.pcB, h.pcI⟩
theorem Iv.addB {s : PRun} (h : Iv s) {j : Nat} (h1 : s.behs.length < MM) (h2 : j < s.pool.length) : Iv (s.addB [j]) :=
  ⟨h.wf.addB h1 h2, ⟨h.kd.kd⟩, h.par, h.stk, h.en, h.wt, h.ed, h.dis, h.pcB, h.pcI⟩
theorem Iv.enS {s : PRun} (h : Iv s) {n j : Nat} (hj : j < s.pool.length) : Iv (s.enS n j) :=
  ⟨h.wf.enS hj, ⟨h.kd.kd⟩, h.par, h.stk, fun k t h1 h2 => by
    obtain ⟨i, hi⟩ := h.en k t h1 h2
    show ∃ j', (s.ends.set n (some j))[k]? = _
    rw [List.getElem?_set]
    split
    · rename_i e
      subst e
      exact ⟨j, by rw [if_pos (List.getElem?_eq_some_iff.1 hi).1]⟩
    · exact ⟨i, hi⟩, h.wt, h.ed, h.dis, h.pcB, h.pcI⟩
theorem Iv.tset {s : PRun} (h : Iv s) {k : Nat} {t t' : PTask} (ht : s.tasks[k]? = some t) (h1 : t'.sarr = t.sarr) (h2 : t'.slen ≤ t.slen) (h20 : 0 < t'.slen) (h3 : t'.kids = t.kids) (h4 : t'.par = t.par) (h5 : t'.clk < s.pool.length) (h6 : ∀ b, t'.beh = some b → b < s.behs.length)
    (h7 : 3 ≤ t'.state → ∃ j, s.ends[k]? = some (some j)) (h8 : 0 ≤ t'.waits → t'.beh = none) (h9 : t'.ending = 0 ∨ 3 ≤ t'.ending)
    (h10 : (t'.state = 1 ∨ 0 ≤ t'.waits) → ∀ (j : Nat) (c : PCall), t.sarr[t'.slen - 1]? = some j → s.calls[j]? = some c → c.pc < c.code.steps.length) : Iv (s.tset k t') := by
  have key : ∀ {p : Nat → PTask → Prop}, (∀ i u, s.tasks[i]? = some u → p i u) → p k t' → ∀ i u, (s.tset k t').tasks[i]? = some u → p i u := fun {p} g1 g2 i u hu => by
    by_cases e : k = i
    · subst e; rw [tset_at ht] at hu; injection hu with hu; subst hu; exact g2
    · rw [tset_ne e] at hu; exact g1 i u hu
  obtain ⟨a1, a2, a3, a4⟩ := h.wf.tsk t (List.mem_of_getElem? ht)
  refine ⟨h.wf.tset ⟨by rw [h1]; exact a1, by rw [h1]; omega, h5, h6⟩ (by rw [h1, h3]; exact h.wf.tsz t (List.mem_of_getElem? ht)), ⟨key (p := fun i u => ∀ c : Int, c ∈ u.kids → ∃ j : Nat, c = j ∧ i < j ∧ j < (s.tset k t').tasks.length) (by rw [tset_len]; exact h.kd.kd) (by rw [tset_len, h3]; exact h.kd.kd k t ht)⟩,
    key h.par (by rw [h4]; exact h.par k t ht), key h.stk h20, key h.en h7, key h.wt h8, key h.ed h9, ?_, h.pcB, fun i u j c hu => key (p := fun i u => (u.state = 1 ∨ 0 ≤ u.waits) → u.sarr[u.slen - 1]? = some j → s.calls[j]? = some c → c.pc < c.code.steps.length) (fun i u hu => h.pcI i u j c hu) (fun g1 g2 => h10 g1 j c (by rw [← h1]; exact g2)) i u hu⟩
  intro i u i' u' x x' j hu hu' hx hx' hj hj'
  have cv : ∀ {i : Nat} {u : PTask} {x : Nat}, (s.tset k t').tasks[i]? = some u → x < u.slen → u.sarr[x]? = some j → ∃ v : PTask, s.tasks[i]? = some v ∧ x < v.slen ∧ v.sarr[x]? = some j := fun {i u x} hu hx hj => by
    by_cases e : k = i
    · subst e; rw [tset_at ht] at hu; injection hu with hu; subst hu; exact ⟨t, ht, by omega, by rw [← h1]; exact hj⟩
    · rw [tset_ne e] at hu; exact ⟨u, hu, hx, hj⟩
  obtain ⟨v, b1, b2, b3⟩ := cv hu hx hj
  obtain ⟨v', b1', b2', b3'⟩ := cv hu' hx' hj'
  exact h.dis i v i' v' x x' j b1 b1' b2 b2' b3 b3'
end Go.Ab
set_option maxHeartbeats 4000000
namespace Go.Ab
open Go Go.Ab Go.Proofs Go.Ab.Ty

theorem getD_some {α : Type} {l : List α} {i : Nat} {x d : α} (h : l[i]? = some x) : l.getD i d = x := by rw [List.getD_eq_getElem?_getD, h]; rfl
theorem kidsJ_ok : ∀ (ks : List Int) (s : PRun) (e : Nat), Iv s → e < s.pool.length → s.pool.length + ks.length ≤ MM → Iv (kidsJ s e ks).1 ∧ (kidsJ s e ks).2.1 < (kidsJ s e ks).1.pool.length ∧ (kidsJ s e ks).1 = { s with pool := (kidsJ s e ks).1.pool } ∧ s.pool.length ≤ (kidsJ s e ks).1.pool.length ∧ (kidsJ s e ks).1.pool.length ≤ s.pool.length + ks.length := by
  intro ks
  induction ks with
  | nil => intro s e h he hb; exact ⟨h, he, rfl, Nat.le_refl _, Nat.le_refl _⟩
  | cons k ks ih =>
    intro s e h he hb
    have hdone : Iv s ∧ e < s.pool.length ∧ s = { s with pool := s.pool } ∧ s.pool.length ≤ s.pool.length ∧ s.pool.length ≤ s.pool.length + (k :: ks).length := ⟨h, he, rfl, Nat.le_refl _, by omega⟩
    simp only [List.length_cons] at hb
    simp only [kidsJ]
    split
    · rename_i tk x h1 h2
      split
      · have hx : x < s.pool.length := h.wf.ends _ (List.mem_of_getElem? h2) x rfl
        have hl : ∀ i, i < s.pool.length → (s.pool.getD i []).length = 32 := fun i hi => by
          rw [getD_some (List.getElem?_eq_getElem hi)]; exact h.wf.pl _ (List.getElem_mem hi)
        have hpl : (s.addP (joinL (s.pool.getD e []) (s.pool.getD x []))).pool.length = s.pool.length + 1 := by simp [PRun.addP]
        obtain ⟨a1, a2, a3, a4, a5⟩ := ih (s.addP (joinL (s.pool.getD e []) (s.pool.getD x []))) s.pool.length (h.addP (by omega) (by rw [joinL_len (by rw [hl e he, hl x hx]), hl e he])) (by omega) (by omega)
        exact ⟨a1, a2, a3, by omega, by simp only [List.length_cons]; omega⟩
      · exact hdone
    · exact hdone
theorem Iv.cset {s : PRun} (h : Iv s) {j : Nat} {c c' : PCall} (hc : s.calls[j]? = some c) (h1 : c'.vars.length ≤ 1000) (h2 : c'.code = c.code) (h3 : 0 ≤ c'.pc ∧ c'.pc ≤ c'.code.steps.length) (h4 : ∀ (k : Nat) (t : PTask), s.tasks[k]? = some t → (t.state = 1 ∨ 0 ≤ t.waits) → t.sarr[t.slen - 1]? = some j → c'.pc < c'.code.steps.length) : Iv (s.cset j c') := by
  refine ⟨h.wf.cset h1 (by rw [h2]; exact (h.wf.csz c (List.mem_of_getElem? hc)).2), ⟨h.kd.kd⟩, h.par, h.stk, h.en, h.wt, h.ed, h.dis, fun x hx => ?_, fun k t i x ht hs hi hx => ?_⟩
  · rcases List.mem_or_eq_of_mem_set hx with hx | rfl
    · exact h.pcB x hx
    · exact h3
  · by_cases e : j = i
    · subst e; rw [cset_at hc] at hx; injection hx with hx; subst hx; exact h4 k t ht hs hi
    · rw [cset_ne e] at hx; exact h.pcI k t i x ht hs hi hx
theorem popS_top {cs : List PCall} {sa : List Nat} : ∀ {m j m' : Nat}, popS cs sa m j = some m' → sa[m]? = some j → m' ≤ m ∧ ∀ (i : Nat) (c : PCall), sa[m']? = some i → cs[i]? = some c → c.pc < c.code.steps.length := by
  intro m
  induction m with
  | zero =>
    intro j m' h hj
    simp only [popS] at h
    split at h
    · rename_i c hc
      split at h
      · cases h
      · injection h with h; subst h
        exact ⟨Nat.le_refl _, fun i c' h1 h2 => by rw [hj] at h1; injection h1 with h1; subst h1; rw [hc] at h2; injection h2 with h2; subst h2; omega⟩
    · rename_i hc
      injection h with h; subst h
      exact ⟨Nat.le_refl _, fun i c' h1 h2 => by rw [hj] at h1; injection h1 with h1; subst h1; rw [hc] at h2; cases h2⟩
  | succ m ih =>
    intro j m' h hj
    simp only [popS] at h
    split at h
    · rename_i c hc
      split at h
      · split at h
        · rename_i j' hj'
          obtain ⟨a1, a2⟩ := ih h hj'
          exact ⟨by omega, a2⟩
        · cases h
      · injection h with h; subst h
        exact ⟨Nat.le_refl _, fun i c' h1 h2 => by rw [hj] at h1; injection h1 with h1; subst h1; rw [hc] at h2; injection h2 with h2; subst h2; omega⟩
    · rename_i hc
      injection h with h; subst h
      exact ⟨Nat.le_refl _, fun i c' h1 h2 => by rw [hj] at h1; injection h1 with h1; subst h1; rw [hc] at h2; cases h2⟩
theorem Iv.go {s : PRun} (h : Iv s) {n j : Nat} {t t' : PTask} {c : PCall} (ht : s.tasks[n]? = some t) (hj : t.sarr[t.slen - 1]? = some j) (hc : s.calls[j]? = some c) (hp : c.pc < c.code.steps.length) (h1 : t'.sarr = t.sarr) (h2 : t'.slen ≤ t.slen) (h20 : 0 < t'.slen) (h3 : t'.kids = t.kids) (h4 : t'.par = t.par) (h5 : t'.clk = t.clk) (h6 : t'.beh = t.beh)
    (h7 : t'.state < 3) (h8 : t'.waits < 0) (h9 : t'.ending = 0 ∨ 3 ≤ t'.ending) (h10 : t'.state = 1 → ∀ (i : Nat) (x : PCall), t.sarr[t'.slen - 1]? = some i → (s.cset j { c with pc := c.pc + 1 }).calls[i]? = some x → x.pc < x.code.steps.length) : Iv ((s.cset j { c with pc := c.pc + 1 }).tset n t') := by
  obtain ⟨a1, a2, a3, a4⟩ := h.wf.tsk t (List.mem_of_getElem? ht)
  have hs0 := h.stk n t ht
  obtain ⟨t0, ht0⟩ : ∃ t0 : PTask, t0 = { t with state := 2, waits := -1 } := ⟨_, rfl⟩
  have i1 : Iv (s.tset n t0) := h.tset ht (by rw [ht0]) (by rw [ht0]; exact Nat.le_refl _) (by rw [ht0]; exact hs0) (by rw [ht0]) (by rw [ht0]) (by rw [ht0]; exact a3) (by rw [ht0]; exact a4) (by rw [ht0]; intro e; simp at e) (by rw [ht0]; intro e; simp at e) (by rw [ht0]; exact h.ed n t ht) (by rw [ht0]; intro e; simp at e)
  have i2 : Iv ((s.tset n t0).cset j { c with pc := c.pc + 1 }) := i1.cset hc (h.wf.csz c (List.mem_of_getElem? hc)).1 rfl (by have := h.pcB c (List.mem_of_getElem? hc); simp only; omega) fun k u hu hs hi => by
    by_cases e : n = k
    · subst e; rw [tset_at ht] at hu; injection hu with hu; subst hu; rw [ht0] at hs; simp at hs
    · rw [tset_ne e] at hu
      have := (h.dis n t k u (t.slen - 1) (u.slen - 1) j ht hu (by omega) (by have := h.stk k u hu; omega) hj hi).1
      exact absurd this e
  have ht0' : ((s.tset n t0).cset j { c with pc := c.pc + 1 }).tasks[n]? = some t0 := tset_at ht
  have i3 := i2.tset (t' := t') ht0' (by rw [ht0]; exact h1) (by rw [ht0]; exact h2) h20 (by rw [ht0]; exact h3) (by rw [ht0]; exact h4) (by rw [h5]; exact a3) (by rw [h6]; exact a4) (fun e => by omega) (fun e => by omega) h9 (fun e i x hi hx => by
    rcases e with e | e
    · exact h10 e i x (by rw [ht0] at hi; exact hi) hx
    · omega)
  have he : ((s.tset n t0).cset j { c with pc := c.pc + 1 }).tset n t' = (s.cset j { c with pc := c.pc + 1 }).tset n t' := by simp [PRun.tset, PRun.cset]
  rw [← he]; exact i3
structure Sb (s s' : PRun) (f : Nat) : Prop where
  tl : s'.tasks.length = s.tasks.length
  cl : s'.calls.length = s.calls.length
  pl : s'.pool.length ≤ s.pool.length + 1001 * f
  bl : s'.behs.length ≤ s.behs.length + f
def Okf (S : PRun → Nat → PRun) (f : Nat) : Prop := ∀ (s : PRun) (n : Nat), Iv s → s.pool.length + 1001 * f ≤ MM → s.behs.length + f ≤ MM → Iv (S s n) ∧ Sb s (S s n) f
theorem goOnF_iv {S : PRun → Nat → PRun} {f : Nat} (hS : Okf S f) {s : PRun} (h : Iv s) {n j : Nat} {t : PTask} {c : PCall} (ht : s.tasks[n]? = some t) (hst : t.state < 3) (hwt : t.waits < 0) (hj : t.sarr[t.slen - 1]? = some j) (hc : s.calls[j]? = some c) (hp : c.pc < c.code.steps.length)
    (hb1 : s.pool.length + 1001 * f ≤ MM) (hb2 : s.behs.length + f ≤ MM) : Iv (goOnF S s n j) ∧ Sb s (goOnF S s n j) f := by
  have hs0 := h.stk n t ht
  have hcl : (s.cset j { c with pc := c.pc + 1 }).calls.length = s.calls.length := by simp [PRun.cset]
  unfold goOnF
  rw [ht, hc]
  simp only
  cases hpop : popS (s.cset j { c with pc := c.pc + 1 }).calls t.sarr (t.slen - 1) j with
  | none =>
    have i1 := h.go (t' := clo { t with slen := 1 } 3) ht hj hc hp rfl (by show 1 ≤ _; omega) (by show 0 < 1; omega) rfl rfl rfl rfl (by show (2 : Int) < 3; omega) hwt (.inr (by show (3 : Int) ≤ 3; omega)) (fun e => by have : (2 : Int) = 1 := e; omega)
    obtain ⟨b1, b2⟩ := hS _ n i1 hb1 hb2
    exact ⟨b1, ⟨by rw [b2.tl, tset_len]; rfl, by rw [b2.cl]; exact hcl, b2.pl, b2.bl⟩⟩
  | some m =>
    obtain ⟨p1, p2⟩ := popS_top hpop hj
    have i1 := h.go (t' := { t with slen := m + 1 }) ht hj hc hp rfl (by show m + 1 ≤ _; omega) (by show 0 < m + 1; omega) rfl rfl rfl rfl hst hwt (h.ed n t ht) (fun _ i x hi hx => p2 i x hi hx)
    exact ⟨i1, ⟨by rw [tset_len]; rfl, hcl, by show s.pool.length ≤ _; omega, by show s.behs.length ≤ _; omega⟩⟩
end Go.Ab
set_option maxHeartbeats 4000000
namespace Go.Ab
open Go Go.Ab Go.Proofs Go.Ab.Ty

theorem enS_at {s : PRun} {n e : Nat} (h : n < s.ends.length) : (s.enS n e).ends[n]? = some (some e) := by
  unfold PRun.enS; simp only; rw [List.getElem?_set_self h]
theorem Iv.end {s : PRun} (h : Iv s) {n e : Nat} {t : PTask} (ht : s.tasks[n]? = some t) (he : e < s.pool.length) (hE : t.ending ≠ 0) : Iv ((s.enS n e).tset n { t with state := t.ending }) := by
  obtain ⟨a1, a2, a3, a4⟩ := h.wf.tsk t (List.mem_of_getElem? ht)
  have hed := h.ed n t ht
  have hn : n < s.ends.length := by rw [h.wf.endl]; exact (List.getElem?_eq_some_iff.1 ht).1
  exact (h.enS he).tset (s := s.enS n e) (t := t) ht rfl (Nat.le_refl _) (h.stk n t ht) rfl rfl a3 a4 (fun _ => ⟨e, enS_at hn⟩) (h.wt n t ht) hed (fun g j c => h.pcI n t j c ht (by
    rcases g with g | g
    · have : t.ending = 1 := g
      omega
    · exact .inr g))
theorem topJ_at {s : PRun} (h : Iv s) {p : Nat} {tp : PTask} (ht : s.tasks[p]? = some tp) : ∃ c, tp.sarr[tp.slen - 1]? = some (topJ tp) ∧ s.calls[topJ tp]? = some c := by
  obtain ⟨a1, a2, a3, a4⟩ := h.wf.tsk tp (List.mem_of_getElem? ht)
  have := h.stk p tp ht
  have hl : tp.slen - 1 < tp.sarr.length := by omega
  have h1 : tp.sarr[tp.slen - 1]? = some (topJ tp) := by unfold topJ; rw [List.getElem?_eq_getElem hl, getD_some (List.getElem?_eq_getElem hl)]
  exact ⟨_, h1, List.getElem?_eq_getElem (a1 _ (List.mem_of_getElem? h1))⟩
structure Wk1 (s s' : PRun) (p : Nat) : Prop where
  iv : Iv s'
  tl : s'.tasks.length = s.tasks.length
  cl : s'.calls = s.calls
  pl : s'.pool.length ≤ s.pool.length + 1
  bl : s'.behs.length = s.behs.length + 1
theorem wakeT_iv {s : PRun} (h : Iv s) {p e : Nat} {tp : PTask} (ht : s.tasks[p]? = some tp) (hw : 0 ≤ tp.waits) (he : e < s.pool.length) (hb : s.behs.length < MM) : Wk1 s (wakeT s p tp e) p := by
  obtain ⟨a1, a2, a3, a4⟩ := h.wf.tsk tp (List.mem_of_getElem? ht)
  refine ⟨(h.addB hb he).tset (s := s.addB [e]) (t := tp) ht rfl (Nat.le_refl _) (h.stk p tp ht) rfl rfl a3 (fun b hb => ?_) (fun g => absurd g (by show ¬ (3 : Int) ≤ 1; omega)) (fun g => absurd g (by show ¬ (0 : Int) ≤ -1; omega)) (h.ed p tp ht) (fun _ j c hj hc => h.pcI p tp j c ht (.inr hw) hj hc), by unfold wakeT; rw [tset_len]; rfl, rfl, Nat.le_succ _, by simp [wakeT, PRun.tset, PRun.addB]⟩
  · injection hb with hb
    simp [PRun.addB]; omega
theorem wakeP_iv {s : PRun} (h : Iv s) {p e : Nat} {tp : PTask} (ht : s.tasks[p]? = some tp) (hw : 0 ≤ tp.waits) (he : e < s.pool.length) (hb : s.behs.length < MM) (hp : s.pool.length < MM) : Wk1 s (wakeP s p tp e) p := by
  obtain ⟨a1, a2, a3, a4⟩ := h.wf.tsk tp (List.mem_of_getElem? ht)
  have h1 := wakeT_iv h ht hw he hb
  unfold wakeP
  split
  · rename_i c hc
    split
    · have hl : ∀ i, i < s.pool.length → (s.pool.getD i []).length = 32 := fun i hi => by
        rw [getD_some (List.getElem?_eq_getElem hi)]; exact h.wf.pl _ (List.getElem_mem hi)
      have ht2 : ((wakeT s p tp e).addP (joinL (s.pool.getD tp.clk []) (s.pool.getD e []))).tasks[p]? = some { tp with waits := -1, state := 1, beh := some s.behs.length } := tset_at ht
      have i2 := (h1.iv.addP (l := joinL (s.pool.getD tp.clk []) (s.pool.getD e [])) hp (by rw [joinL_len (by rw [hl _ a3, hl e he]), hl _ a3])).tset (t' := { tp with waits := -1, state := 1, beh := some s.behs.length, clk := s.pool.length }) ht2 rfl (Nat.le_refl _) (h.stk p tp ht) rfl rfl (by simp [PRun.addP, wakeT, PRun.tset, PRun.addB]) (fun b hb => by injection hb with hb; simp [PRun.addP, wakeT, PRun.tset, PRun.addB]; omega) (fun g => absurd g (by show ¬ (3 : Int) ≤ 1; omega)) (fun g => absurd g (by show ¬ (0 : Int) ≤ -1; omega)) (h.ed p tp ht) (fun _ j c hj hc => h.pcI p tp j c ht (.inr hw) hj hc)
      exact ⟨i2, by simp [PRun.addP, wakeT, PRun.tset, PRun.addB], rfl, by simp [PRun.addP, wakeT, PRun.tset, PRun.addB], by simp [PRun.addP, wakeT, PRun.tset, PRun.addB]⟩
    · exact h1
  · exact h1
theorem wakeP_at {s : PRun} {p e : Nat} {tp : PTask} (ht : s.tasks[p]? = some tp) : ∃ t, (wakeP s p tp e).tasks[p]? = some t ∧ t.state = 1 ∧ t.waits = -1 ∧ t.sarr = tp.sarr ∧ t.slen = tp.slen := by
  have h1 : (wakeT s p tp e).tasks[p]? = some { tp with waits := -1, state := 1, beh := some s.behs.length } := tset_at ht
  unfold wakeP
  split
  · split
    · exact ⟨_, tset_at (s := (wakeT s p tp e).addP _) h1, rfl, rfl, rfl, rfl⟩
    · exact ⟨_, h1, rfl, rfl, rfl, rfl⟩
  · exact ⟨_, h1, rfl, rfl, rfl, rfl⟩
theorem settleF_iv : ∀ f : Nat, Okf (settleF f) f := by
  intro f
  induction f with
  | zero => intro s n h _ _; exact ⟨h, ⟨rfl, rfl, Nat.le_refl _, Nat.le_refl _⟩⟩
  | succ f ih =>
    intro s n h hb1 hb2
    have hdone : Iv s ∧ Sb s s (f + 1) := ⟨h, ⟨rfl, rfl, by omega, by omega⟩⟩
    simp only [settleF]
    split
    · exact hdone
    · rename_i t ht
      split
      · exact hdone
      · rename_i hcl
        obtain ⟨a1, a2, a3, a4⟩ := h.wf.tsk t (List.mem_of_getElem? ht)
        have hkl := (h.wf.tsz t (List.mem_of_getElem? ht)).2
        obtain ⟨k1, k2, k3, k4, k5⟩ := kidsJ_ok t.kids s t.clk h a3 (by omega)
        split
        · rename_i s1 e hk
          rw [hk] at k1 k2 k3 k4 k5
          simp only at k1 k2 k3 k4 k5
          exact ⟨k1, ⟨by rw [k3], by rw [k3], by omega, by rw [k3]; simp only; omega⟩⟩
        · rename_i s1 e hk
          rw [hk] at k1 k2 k3 k4 k5
          simp only at k1 k2 k3 k4 k5
          have htl : s1.tasks = s.tasks := by rw [k3]
          have hcll : s1.calls = s.calls := by rw [k3]
          have hbl : s1.behs = s.behs := by rw [k3]
          have ht1 : s1.tasks[n]? = some t := by rw [htl]; exact ht
          have i2 := k1.end ht1 k2 (fun g => hcl (.inl g))
          have l2 : ((s1.enS n e).tset n { t with state := t.ending }).tasks.length = s.tasks.length := by rw [tset_len]; show s1.tasks.length = _; rw [htl]
          split
          · exact ⟨i2, ⟨l2, by show s1.calls.length = _; rw [hcll], by show s1.pool.length ≤ _; omega, by show s1.behs.length ≤ _; rw [hbl]; omega⟩⟩
          · rename_i hpar
            have hs1 : Iv s1 ∧ Sb s s1 (f + 1) := ⟨k1, ⟨by rw [htl], by rw [hcll], by omega, by rw [hbl]; omega⟩⟩
            split
            · exact hs1
            · rename_i tp htp
              have hpn : t.par.toNat ≠ n := by
                rcases h.par n t ht with e1 | ⟨p, e1, e2⟩
                · omega
                · rw [e1]; simp; omega
              have htp2 : ((s1.enS n e).tset n { t with state := t.ending }).tasks[t.par.toNat]? = some tp := by rw [tset_ne (fun g => hpn g.symm)]; exact htp
              have hb1' : s1.pool.length + 1 + 1001 * f ≤ MM := by omega
              split
              · rename_i hwt
                have hw := wakeP_iv (e := e) i2 htp2 (by omega) k2 (by show s1.behs.length < _; rw [hbl]; omega) (by show s1.pool.length < _; omega)
                obtain ⟨tq, q1, q2, q3, q4, q5⟩ := wakeP_at (e := e) htp2
                obtain ⟨c, c1, c2⟩ := topJ_at i2 htp2
                have hc3 : c.pc < c.code.steps.length := i2.pcI _ tp _ c htp2 (.inr (by omega)) c1 c2
                have hpb : (wakeP ((s1.enS n e).tset n { t with state := t.ending }) t.par.toNat tp e).pool.length ≤ s1.pool.length + 1 := hw.pl
                have hbb : (wakeP ((s1.enS n e).tset n { t with state := t.ending }) t.par.toNat tp e).behs.length = s.behs.length + 1 := by rw [hw.bl]; show s1.behs.length + 1 = _; rw [hbl]
                obtain ⟨g1, g2⟩ := goOnF_iv ih hw.iv q1 (by omega) (by omega) (by rw [q4, q5]; exact c1) (by rw [hw.cl]; exact c2) hc3 (by omega) (by omega)
                exact ⟨g1, ⟨by rw [g2.tl, hw.tl, l2], by rw [g2.cl, hw.cl]; show s1.calls.length = _; rw [hcll], by have := g2.pl; omega, by have := g2.bl; omega⟩⟩
              · obtain ⟨g1, g2⟩ := ih _ t.par.toNat i2 (by show s1.pool.length + _ ≤ _; omega) (by show s1.behs.length + _ ≤ _; rw [hbl]; omega)
                exact ⟨g1, ⟨by rw [g2.tl, l2], by rw [g2.cl]; show s1.calls.length = _; rw [hcll], by have := g2.pl; have e2 : ((s1.enS n e).tset n { t with state := t.ending }).pool.length = s1.pool.length := rfl; omega, by have := g2.bl; have e2 : ((s1.enS n e).tset n { t with state := t.ending }).behs.length = s.behs.length := (by show s1.behs.length = _; rw [hbl]); omega⟩⟩
end Go.Ab
