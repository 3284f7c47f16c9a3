/- Part of the proof. -/
import Derived.Test.YthgicbkdckpeaaaDoorG41
set_option linter.unusedSimpArgs false
set_option linter.unusedVariables false
set_option maxHeartbeats 4000000
namespace Go.Ab
open Go Go.Ab Go.Proofs Go.Ab.Ty

def nwS (p : Tk) (sched : List Int) (no na : Nat) (pool : List (List Int)) : PRun := ⟨p, sched, 0, List.replicate no (0, -1), [], [], [], [], [], [], List.range na, [], pool, []⟩
abbrev z32 : List Int := List.replicate 32 0
abbrev m32 : List Int := List.replicate 32 (-1)
def varsN (na np : Nat) : List Int := (List.range np).map fun i => ((na + i : Nat) : Int)
noncomputable def newF (p : Tk) (sched : List Int) (cd : Cd) : PRun :=
  startF (nwS p sched (p.actors.toNat + cd.params.toNat) p.actors.toNat (List.replicate (p.actors.toNat + 1) m32)) cd (varsN p.actors.toNat cd.params.toNat) m32 0 (-1) false
theorem nwS_iv {p : Tk} {sched : List Int} {no na : Nat} {pool : List (List Int)} (h1 : no ≤ 1000000) (h2 : na ≤ pool.length) (h3 : na ≤ 1000) (h4 : sched.length ≤ 1000000) (h5 : pool.length ≤ MM) (h6 : ∀ l ∈ pool, l.length = 32) : Iv (nwS p sched no na pool) := by
  have hn : ∀ {α : Type} {k : Nat} {x : α}, ([] : List α)[k]? = some x → False := fun h => by simp at h
  refine ⟨⟨by simp [nwS], by simp [nwS], h5, by simp [nwS], h6, by simp [nwS], fun j hj => ?_, by simp [nwS], by simp [nwS], by simp [nwS], rfl, ⟨by simpa [nwS] using h1, by simp [nwS], by simp [nwS], by simp [nwS], by simp [nwS], by simpa [nwS] using h3, h4⟩, by simp [nwS], by simp [nwS]⟩, ⟨fun k t h => (hn h).elim⟩, fun k t h => (hn h).elim, fun k t h => (hn h).elim, fun k t h => (hn h).elim, fun k t h => (hn h).elim, fun k t h => (hn h).elim, fun k t k' t' i i' j h => (hn h).elim, fun c hc => by simp [nwS] at hc, fun k t j c h => (hn h).elim⟩
  have := List.mem_range.1 hj
  show j < pool.length
  omega
theorem nwS_mkO {p : Tk} {sched : List Int} {no na : Nat} {pool : List (List Int)} : (nwS p sched no na pool).mkO 0 = nwS p sched (no + 1) na pool := by
  simp [nwS, PRun.mkO, List.replicate_succ']
theorem nwS_addP {p : Tk} {sched : List Int} {no na : Nat} {pool : List (List Int)} {l : List Int} : (nwS p sched no na pool).addP l = nwS p sched no na (pool ++ [l]) := rfl
def addAct (s : PRun) (k : Nat) : PRun := { s with acts := s.acts ++ [k] }
theorem nwS_addAct {p : Tk} {sched : List Int} {no na : Nat} {pool : List (List Int)} : addAct (nwS p sched no na pool) na = nwS p sched no (na + 1) pool := by
  simp [nwS, addAct, List.range_succ]
theorem HH_act {s : PRun} {k : Nat} : ((HH s).set (ix .at') ⟨25, 1, s.acts.map ownC ++ [ownC k]⟩).set (ix .rn) (rnB (addAct s k)) = HH (addAct s k) := by
  refine HH_upd (s := s) (s' := addAct s k) [(.at', _), (.rn, _)] (upd2 ⟨ixl_at, ?_⟩ ⟨ixl_rn, rfl⟩) fun a ha => ?_
  · simp [blk, addAct]
  · cases a <;> first | rfl | simp at ha
theorem HH_new {p : Tk} {sched : List Int} {T : List ABlk} (hT : T.length = NN - 9) (hT2 : ∀ i, i < NN - 9 → T[i]? = some (blk (nwS p sched 0 0 []) (nm (9 + i)))) :
    [rnB (nwS p sched 0 0 []), ⟨157, 2, []⟩, ⟨84, 1, []⟩, ⟨9, 1, []⟩, ⟨73, 4, []⟩, intB [], ⟨25, 1, []⟩, ⟨25, 1, []⟩, ⟨25, 1, []⟩] ++ T = HH (nwS p sched 0 0 []) := by
  have hNN : 9 ≤ NN := by unfold NN; omega
  refine HH_eq (by simp [hT]; omega) fun a ha => ?_
  have hl := ix_lt ha
  by_cases h : ix a < 9
  · cases a <;> first | rfl | (simp only [ix] at h; omega)
  · rw [List.getElem?_append_right (by simp; omega)]
    have := hT2 (ix a - 9) (by omega)
    rw [show 9 + (ix a - 9) = ix a by omega, nm_ix] at this
    exact this
theorem HH_newT (p : Tk) (sched : List Int) : ∃ T : List ABlk, (∀ b ∈ T, b.es = []) ∧
    [rnB (nwS p sched 0 0 []), ⟨157, 2, []⟩, ⟨84, 1, []⟩, ⟨9, 1, []⟩, ⟨73, 4, []⟩, intB [], ⟨25, 1, []⟩, ⟨25, 1, []⟩, ⟨25, 1, []⟩] ++ T = HH (nwS p sched 0 0 []) := by
  have hNN : 9 ≤ NN := by unfold NN; omega
  have hg : ∀ i, i < NN - 9 → ((HH (nwS p sched 0 0 [])).drop 9)[i]? = some (blk (nwS p sched 0 0 []) (nm (9 + i))) := fun i hi => by
    rw [List.getElem?_drop]
    have := HH_get (nwS p sched 0 0 []) (nm (9 + i)) (by rw [ix_nm]; omega)
    rw [ix_nm] at this; exact this
  refine ⟨(HH (nwS p sched 0 0 [])).drop 9, fun b hb => ?_, HH_new (by rw [List.length_drop, HH_len]) hg⟩
  obtain ⟨i, hi⟩ := List.getElem?_of_mem hb
  have hil : i < NN - 9 := by
    have := (List.getElem?_eq_some_iff.1 hi).1
    rw [List.length_drop, HH_len] at this; exact this
  rw [hg i hil] at hi
  injection hi with hi; subst hi
  have h9 := ix_nm (9 + i)
  cases h : nm (9 + i) <;> rw [h] at h9 <;> first | (simp only [ix] at h9; omega) | rfl
theorem pl_callR0 {s s' : PRun} (hw : WF s) (hw' : WF s') {ρ : Operand → AV} {c : Call} {fx : Operand} {f : FuncId} {caps args : List AV} {d : AV} (hf : FnH Tryd.prog f args (HH s) d (HH s')) (hc : c.callee = .value fx) (hfx : ρ fx = .clo f caps) (ha : c.args.toList.map ρ ++ caps = args) (hr : ∀ a ∈ args, RfA (· < NN) a) (hd : RfA (· < NN) d) : PL Tryd.prog (HH s) ρ (.call c) d (HH s') := by
  have := pl_callR hw hw' (T := []) hf hc hfx ha hr hd
  simpa using this
theorem pl_mkClk {s : PRun} (hw : WF s) {ρ : Operand → AV} {x y : Operand} (hM : s.pool.length < MM) (hx : ρ x = .int 32) (hy : ρ y = .int 32) {T : List ABlk} (hT : ∀ b ∈ T, RfB (Nb (HH s ++ T).length (ix (.clk s.pool.length))) b) : PL Tryd.prog (HH s ++ T) ρ (.makeSlice 25 x y) (ownC s.pool.length) (HH (s.addP z32) ++ T) := by
  have h1 := pl_make (P := Tryd.prog) (H := HH s ++ T) (ρ := ρ) (n := 32) (m := 32) hx hy Tryd.underlying25 el3 zero3 (by kernel_rfl) (by decide) (by decide) (by decide) (by decide)
  exact .clk hw hM rfl h1 hT
theorem pl_mkClk0 {s : PRun} (hw : WF s) {ρ : Operand → AV} {x y : Operand} (hM : s.pool.length < MM) (hx : ρ x = .int 32) (hy : ρ y = .int 32) : PL Tryd.prog (HH s) ρ (.makeSlice 25 x y) (ownC s.pool.length) (HH (s.addP z32)) := by
  have := pl_mkClk hw hM hx hy (T := []) (by simp)
  simpa using this
theorem Wk.giveL {n : Fr} {s : PRun} (hw : WF s) {T : List ABlk} {E E2 : Env} (hm : n.m ≤ NN) (h : WkR (pre NN) (HH s ++ T) E E2) : Wk n ⟨E, HH s ++ T⟩ ⟨E2, HH s⟩ :=
  Wk.sel (q := id) (.pre (by simp [HH_len]) hm (HH_len s) fun j b1 b2 h1 h2 => by
    have hj := (List.getElem?_eq_some_iff.1 h2).1
    rw [List.getElem?_append_left hj, h2] at h1
    injection h1 with h1; subst h1
    refine ⟨rfl, rfl, rfl, fun i e e2 h3 h4 => ?_⟩
    rw [h3] at h4; injection h4 with h4; subst h4
    refine ⟨rfl, fun k c c2 h5 h6 => ?_⟩
    rw [h5] at h6; injection h6 with h6; subst h6
    exact (HH_rn hw b2 (List.mem_of_getElem? h2) e (List.mem_of_getElem? h3) c (List.mem_of_getElem? h5)).pub fun b hb => pre_lt hb) (WkR.all h)
theorem pre_NN : pre NN NN = none := by unfold pre; rw [if_neg (by omega)]
def fillL (j : Nat) : List Int := List.replicate j (-1) ++ List.replicate (32 - j) 0
theorem fillL_len {j : Nat} (h : j ≤ 32) : (fillL j).length = 32 := by simp [fillL]; omega
theorem fillL_get {j : Nat} (h : j < 32) : (fillL j)[j]? = some 0 := by
  unfold fillL
  rw [List.getElem?_append_right (by simp), List.getElem?_replicate]
  simp; omega
theorem fillL_set {j : Nat} (h : j < 32) : (fillL j).set j (-1) = fillL (j + 1) := by
  unfold fillL
  rw [List.set_append_right _ _ (by simp), List.length_replicate, Nat.sub_self, show 32 - j = (32 - (j + 1)) + 1 by omega, List.replicate_succ, List.set_cons_zero, List.replicate_succ' (n := j), List.append_assoc]
  rfl
theorem RetH.runM {rs : List ResultVar} {n : Fr} {d : AV} {s' : PRun} {E : Env} {H T : List ABlk} {vs : List AV} (hw : WF s') (hm : n.m ≤ NN) (hv : resVals Tryd.prog ⟨E, H⟩ rs = some vs) (hH : H = HH s' ++ T) (hd : PubR (pre NN) H (packA vs) d) : RetH Tryd.prog rs n d (HH s') ⟨E, H⟩ := by
  have hl := HH_len s'
  refine ⟨_, vs, pre NN, id, .refl _, hv, .pre (by rw [hH]; simp [hl]) hm hl fun j b1 b2 h1 h2 => ?_, hd⟩
  have hj := (List.getElem?_eq_some_iff.1 h2).1
  simp only at h1
  rw [hH, List.getElem?_append_left hj, h2] at h1
  injection h1 with h1; subst h1
  refine ⟨rfl, rfl, rfl, fun i e e2 h3 h4 => ?_⟩
  rw [h3] at h4; injection h4 with h4; subst h4
  refine ⟨rfl, fun k c c2 h5 h6 => ?_⟩
  rw [h5] at h6; injection h6 with h6; subst h6
  exact (HH_rn hw b2 (List.mem_of_getElem? h2) e (List.mem_of_getElem? h3) c (List.mem_of_getElem? h5)).pub fun b hb => pre_lt hb
end Go.Ab
