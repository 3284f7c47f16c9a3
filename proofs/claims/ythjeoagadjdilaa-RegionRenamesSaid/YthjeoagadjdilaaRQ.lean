/- Part of the proof. -/
import Derived.Test.YthjeoagadjdilaaRG
import Derived.Test.YthjeoagadjdilaaRGb
import Derived.Test.YthjeoagadjdilaaRLb
import Derived.Test.YthjeoagadjdilaaAbF
set_option linter.unusedSimpArgs false
set_option linter.unusedVariables false
set_option maxHeartbeats 4000000
namespace Go.Ab
open Go Go.Ab Go.Proofs Go.Ab.Ty
set_option linter.unusedSimpArgs false
set_option linter.unusedVariables false

/-- the numbers a and b exchanged -/
def sw (a b v : Int) : Int := if v = a then b else if v = b then a else v
theorem sw_sw (a b v : Int) : sw a b (sw a b v) = v := by
  unfold sw
  by_cases h1 : v = a
  · subst h1
    by_cases h2 : b = v
    · subst h2; simp
    · simp [h2]
  · by_cases h2 : v = b
    · subst h2; simp [h1]
    · simp [h1, h2]
theorem sw_inj {a b v w : Int} : sw a b v = sw a b w ↔ v = w := ⟨fun h => by rw [← sw_sw a b v, h, sw_sw], fun h => by rw [h]⟩
theorem sw_eq {a b v w : Int} : v = sw a b w ↔ sw a b v = w := ⟨fun h => by rw [h, sw_sw], fun h => by rw [← h, sw_sw]⟩
theorem sw_lo {a b v : Int} {m : Int} (ha : m ≤ a) (hb : m ≤ b) : sw a b v < m ↔ v < m := by
  unfold sw
  split
  · omega
  · split <;> omega
theorem sw_rng {a b v n : Int} (ha : 0 ≤ a ∧ a < n) (hb : 0 ≤ b ∧ b < n) : (0 ≤ sw a b v ∧ sw a b v < n) ↔ (0 ≤ v ∧ v < n) := by
  unfold sw
  split
  · omega
  · split <;> omega
theorem sw_lt8 {a b v : Int} (ha : a < 8) (hb : b < 8) : sw a b v < 8 ↔ v < 8 := by
  unfold sw
  split
  · omega
  · split <;> omega

/-- a step with them exchanged -/
def swS (a b : Int) (s : Stp) : Stp :=
  { s with v := if s.op = 2 ∨ s.op = 3 ∨ s.op = 1 ∨ s.op = 4 ∨ s.op = 5 then sw a b s.v else s.v, w := if s.op = 2 ∨ s.op = 3 then sw a b s.w else s.w, vars := s.vars.map (sw a b) }
def swR (a b : Int) (r : Rg) : Rg := ⟨fun i => r.of (sw a b i), r.count, r.actor⟩

section
variable {a b : Int}
theorem sw_must (r : Rg) : ∀ vs : List Int, mustF (swR a b r) (vs.map (sw a b)) = mustF r vs
  | [] => rfl
  | v :: vs => by
    simp only [List.map_cons, mustF, swR, sw_sw]
    have := sw_must r vs
    simp only [swR] at this
    rw [this]
theorem sw_map (r : Rg) (vs : List Int) : (vs.map (sw a b)).map (swR a b r).of = vs.map r.of := by
  rw [List.map_map]
  apply List.map_congr_left
  intro v _
  simp [swR, sw_sw]
theorem sw_dupl (r : Rg) (vs : List Int) : dupl (swR a b r) (vs.map (sw a b)) ↔ dupl r vs := by
  unfold dupl
  constructor
  · rintro ⟨i, j, hi, hj, e⟩
    rw [List.length_map] at hi
    refine ⟨i, j, hi, hj, ?_⟩
    simpa [swR, sw_sw] using e
  · rintro ⟨i, j, hi, hj, e⟩
    refine ⟨i, j, by rw [List.length_map]; exact hi, hj, ?_⟩
    simpa [swR, sw_sw] using e
theorem sw_sendE (r : Rg) (vs : List Int) (d : Bool) : sendE (swR a b r) (vs.map (sw a b)) d = sendE r vs d := by
  unfold sendE
  rw [sw_must, sw_map]
  have hA : (d = true ∧ dupl (swR a b r) (vs.map (sw a b))) ↔ (d = true ∧ dupl r vs) := by rw [sw_dupl]
  have hB : ((swR a b r).actor ∈ vs.map r.of) ↔ (r.actor ∈ vs.map r.of) := Iff.rfl
  by_cases h0 : mustF r vs ≠ 0
  · rw [if_pos h0, if_pos h0]
  · rw [if_neg h0, if_neg h0]
    by_cases hx : d = true ∧ dupl r vs
    · rw [if_pos (hA.2 hx), if_pos hx]
    · rw [if_neg fun h => hx (hA.1 h), if_neg hx]
      rfl
theorem sw_sendR (ha : a < 8) (hb : b < 8) (r : Rg) (vs : List Int) (d : Bool) : sendR (swR a b r) (vs.map (sw a b)) d = swR a b (sendR r vs d) := by
  unfold sendR
  rw [sw_sendE]
  split
  · rw [sw_map]
    simp only [swR, Rg.mk.injEq, and_true]
    funext i
    simp only [goneF, sw_lt8 ha hb]
  · rfl
theorem sw_fresh (r : Rg) (v : Int) : freshR (swR a b r) (sw a b v) = swR a b (freshR r v) := by
  simp only [freshR, swR, Rg.mk.injEq, and_true]
  funext i
  simp only [updI]
  by_cases e : i = sw a b v
  · rw [if_pos e, if_pos (sw_eq.1 e)]
  · rw [if_neg e, if_neg fun h => e (sw_eq.2 h)]
theorem sw_get (r : Rg) (v w : Int) : (⟨updI (swR a b r).of (sw a b v) ((swR a b r).of (sw a b w)), r.count, r.actor⟩ : Rg) = swR a b ⟨updI r.of v (r.of w), r.count, r.actor⟩ := by
  simp only [swR, Rg.mk.injEq, and_true, sw_sw]
  funext i
  simp only [updI]
  by_cases e : i = sw a b v
  · rw [if_pos e, if_pos (sw_eq.1 e)]
  · rw [if_neg e, if_neg fun h => e (sw_eq.2 h)]
theorem sw_join (ha : a < 8) (hb : b < 8) (r : Rg) (v w : Int) : joinF (swR a b r) (sw a b v) (sw a b w) = swR a b (joinF r v w) := by
  have hO : joinO (swR a b r) (sw a b v) (sw a b w) = joinO r v w := by simp only [joinO, swR, sw_sw]
  have hN : joinN (swR a b r) (sw a b v) (sw a b w) = joinN r v w := by simp only [joinN, swR, sw_sw]
  unfold joinF
  rw [hO, hN]
  simp only [swR, Rg.mk.injEq, and_true]
  funext i
  simp only [repl, sw_lt8 ha hb]

theorem sw_afterE (r : Rg) (s : Stp) : afterE (swR a b r) (swS a b s) = afterE r s := by
  have h1 := sw_must (a := a) (b := b) r [s.w]
  have h2 := sw_must (a := a) (b := b) r [s.v, s.w]
  have h3 := sw_must (a := a) (b := b) r [s.v]
  simp only [List.map_cons, List.map_nil] at h1 h2 h3
  have h4 := fun d => sw_sendE (a := a) (b := b) r s.vars d
  unfold afterE
  simp only [swS]
  by_cases o1 : s.op = 1
  · simp [o1]
  by_cases o2 : s.op = 2
  · simp [o2, h1]
  by_cases o3 : s.op = 3
  · simp [o3, h2]
  by_cases o4 : s.op = 4 ∨ s.op = 5
  · rcases o4 with h | h <;> simp [h, h3]
  by_cases o6 : s.op = 6 ∨ s.op = 9
  · rcases o6 with h | h <;> simp [h, h4]
  by_cases o8 : s.op = 8
  · simp [o8, h4]
  · rw [not_or] at o4 o6; simp [o1, o2, o3, o4, o6, o8]
theorem sw_afterR (ha : a < 8) (hb : b < 8) (r : Rg) (s : Stp) : afterR (swR a b r) (swS a b s) = swR a b (afterR r s) := by
  have h1 := sw_must (a := a) (b := b) r [s.w]
  have h2 := sw_must (a := a) (b := b) r [s.v, s.w]
  simp only [List.map_cons, List.map_nil] at h1 h2
  have h4 := fun d => sw_sendR ha hb r s.vars d
  unfold afterR
  simp only [swS]
  by_cases o1 : s.op = 1
  · simp [o1, sw_fresh]
  by_cases o2 : s.op = 2
  · by_cases e : mustF r [s.w] = 0
    · simp [o2, h1, e]; exact sw_get r s.v s.w
    · simp [o2, h1, e]
  by_cases o3 : s.op = 3
  · by_cases e : mustF r [s.v, s.w] = 0
    · simp [o3, h2, e, sw_join ha hb]
    · simp [o3, h2, e]
  by_cases o4 : s.op = 4 ∨ s.op = 5
  · rcases o4 with h | h <;> simp [h]
  by_cases o6 : s.op = 6 ∨ s.op = 9
  · rcases o6 with h | h <;> simp [h, h4]
  by_cases o8 : s.op = 8
  · simp [o8, h4]
  · rw [not_or] at o4 o6; simp [o1, o2, o3, o4, o6, o8]
theorem sw_steps (ha : a < 8) (hb : b < 8) : ∀ (ss : List Stp) (r : Rg) (k : Int), stepsF (swR a b r) (ss.map (swS a b)) k = stepsF r ss k
  | [], r, k => rfl
  | s :: ss, r, k => by
    simp only [List.map_cons, stepsF, sw_afterE, sw_afterR ha hb, sw_steps ha hb ss]
theorem sw_start {c : Cd} (h0 : 0 ≤ c.params) (hp : c.params ≤ 4) (ha : c.params ≤ a) (hb : c.params ≤ b) : swR a b (startF c false) = startF c false := by
  have h : ∀ k : Nat, (k : Int) ≤ a → (k : Int) ≤ b → ∀ i, (startN start0 k).of (sw a b i) = (startN start0 k).of i := by
    intro k
    induction k with
    | zero => intro _ _ i; rfl
    | succ k ih =>
      intro h1 h2 i
      simp only [startN, freshR, updI]
      have := ih (by omega) (by omega) i
      have e : sw a b i = k ↔ i = k := by
        rw [← sw_eq]
        have : sw a b (k : Int) = k := by unfold sw; rw [if_neg (by omega), if_neg (by omega)]
        rw [this]
      simp only [e, this]
  simp only [startF, swR, Bool.false_eq_true, if_false]
  have := h c.params.toNat (by omega) (by omega)
  simp only [this]

theorem sw_okVars {n : Int} (ha : 0 ≤ a ∧ a < n) (hb : 0 ≤ b ∧ b < n) {vs : List Int} (h : okVars n vs) : okVars n (vs.map (sw a b)) := by
  refine ⟨fun v hv => ?_, ?_⟩
  · obtain ⟨w, hw, rfl⟩ := List.mem_map.1 hv
    exact (sw_rng ha hb).2 (h.1 w hw)
  · have := h.2
    rw [List.nodup_iff_pairwise_ne, List.pairwise_iff_getElem] at this ⊢
    intro i j hi hj hij
    simp only [List.length_map] at hi hj
    simp only [List.getElem_map, ne_eq, sw_inj]
    exact this i j hi hj hij
end

/-- the program with them exchanged in one code -/
def swP (a b : Int) (p : Tk) (n : Nat) : Tk := { p with codes := p.codes.set n { cod p.codes n with steps := (cod p.codes n).steps.map (swS a b) } }
theorem swP_cod (a b : Int) (p : Tk) {n : Nat} (hn : n < p.codes.length) (i : Int) : cod (swP a b p n).codes i = if i.toNat = n then { cod p.codes n with steps := (cod p.codes n).steps.map (swS a b) } else cod p.codes i := by
  simp only [cod, nth, swP, List.getElem?_set]
  by_cases e : i.toNat = n
  · subst e; simp [hn]
  · simp [e, Ne.symm e]
theorem stp_map {a b : Int} {l : List Stp} {k : Int} (h : 0 ≤ k) (h2 : k < l.length) : stp (l.map (swS a b)) k = swS a b (stp l k) := by
  have h3 : k.toNat < l.length := by omega
  rw [show stp (l.map (swS a b)) k = (l.map (swS a b))[k.toNat]'(by simpa using h3) from nth_eqI (by simpa using h3), show stp l k = l[k.toNat] from nth_eqI h3]
  simp
theorem swS_op (a b : Int) (s : Stp) : (swS a b s).op = s.op ∧ (swS a b s).n = s.n ∧ (swS a b s).task = s.task ∧ (swS a b s).vars.length = s.vars.length := ⟨rfl, rfl, rfl, by simp [swS]⟩
theorem sw_okStep {a b : Int} {l : Lk} {j : Nat} {s : Stp} (hj : j < l.c.steps.length) (ha : 0 ≤ a ∧ a < l.c.vars) (hb : 0 ≤ b ∧ b < l.c.vars) (h : okStep l j s) : okStep ⟨l.p, { l.c with steps := l.c.steps.map (swS a b) }, l.own, l.method⟩ j (swS a b s) := by
  unfold okStep at h ⊢
  simp only [swS, noneT, plain, spawn, List.length_map, ← List.map_take] at h ⊢
  rcases h with ⟨ho, h1, h2⟩ | ⟨ho, h1, h2⟩ | ⟨ho, h1, h2⟩ | ⟨ho, h1, h2, h3, h4, h5, h6, h7, h8⟩ | ⟨ho, h1, h2, h3, ⟨h5, h6⟩, h7⟩ | ⟨ho, h1, h2, h3, h4, h5, h6, h7, h8⟩ | ⟨ho, h1, h2, h3, h4, h5, h6, h7, h8⟩ | ⟨ho, h1, h2⟩
  · have := sw_okVars ha hb h1
    refine .inl ⟨ho, ?_, ?_⟩
    · rw [if_pos (by omega)]; exact this
    · rw [if_neg (by omega)]; exact h2
  · have := sw_okVars ha hb h1
    refine .inr (.inl ⟨ho, ?_, h2⟩)
    rw [if_pos (by omega), if_pos (by omega)]; exact this
  · have := sw_okVars ha hb h1
    refine .inr (.inr (.inl ⟨ho, ?_, ?_⟩))
    · rw [if_pos (by omega)]; exact this
    · rw [if_neg (by omega)]; exact h2
  · refine .inr (.inr (.inr (.inl ⟨ho, ?_, h2, h3, h4, h5, h6, h7, sw_okVars ha hb h8⟩)))
    rw [if_neg (by omega), if_neg (by omega)]; exact h1
  · refine .inr (.inr (.inr (.inr (.inl ⟨ho, ?_, h2, h3, ⟨h5, ?_⟩, fun h x hx => ?_⟩))))
    · rw [if_neg (by omega), if_neg (by omega)]; exact h1
    · rw [stp_map h5.1 (by omega)]; exact h6
    · obtain ⟨y, hy, rfl⟩ := List.mem_map.1 hx
      exact h7 h y hy
  · refine .inr (.inr (.inr (.inr (.inr (.inl ⟨ho, ?_, h2, h3, h4, h5, h6, h7, sw_okVars ha hb h8⟩)))))
    rw [if_neg (by omega), if_neg (by omega)]; exact h1
  · refine .inr (.inr (.inr (.inr (.inr (.inr (.inl ⟨ho, ?_, h2, h3, h4, h5, h6, h7, sw_okVars ha hb h8⟩))))))
    rw [if_neg (by omega), if_neg (by omega)]; exact h1
  · refine .inr (.inr (.inr (.inr (.inr (.inr (.inr ⟨ho, ?_, ?_⟩))))))
    · rw [if_neg (by omega), if_neg (by omega)]; exact h1
    · exact h2
theorem sw_okCode {a b : Int} {p : Tk} {n : Nat} (hn : n < p.codes.length) {c c' : Cd} {own : Int} {m : Bool} (h : okCode ⟨p, c, own, m⟩) (hc : c' = c ∨ (c' = { c with steps := c.steps.map (swS a b) } ∧ (0 ≤ a ∧ a < c.vars) ∧ (0 ≤ b ∧ b < c.vars))) : okCode ⟨swP a b p n, c', own, m⟩ := by
  have hlen : (swP a b p n).codes.length = p.codes.length := by simp [swP]
  have hpar : ∀ k, (cod (swP a b p n).codes k).params = (cod p.codes k).params := fun k => by
    rw [swP_cod a b p hn]
    split
    · rename_i e; simp only [cod, nth, ← e, Int.toNat_natCast]
    · rfl
  rcases hc with rfl | ⟨rfl, ha, hb⟩
  · obtain ⟨hh, hst⟩ := h
    exact ⟨hh, fun j hj => okStep_cong (hst j hj) rfl hlen hpar rfl rfl rfl rfl rfl fun _ _ _ => rfl⟩
  · obtain ⟨hh, hst⟩ := h
    refine ⟨by simpa using hh, fun j hj => ?_⟩
    simp only [List.length_map] at hj
    have h1 := sw_okStep hj ha hb (hst j hj)
    rw [show stp (Lk.mk (swP a b p n) { c with steps := c.steps.map (swS a b) } own m).c.steps j = swS a b (stp c.steps j) from stp_map (by omega) (by omega)]
    exact okStep_cong h1 rfl hlen hpar rfl rfl rfl rfl rfl fun _ _ _ => rfl
theorem sw_valid {a b : Int} {p : Tk} {n : Nat} (hn : n < p.codes.length) (ha : 0 ≤ a ∧ a < (cod p.codes n).vars) (hb : 0 ≤ b ∧ b < (cod p.codes n).vars) (h : okValid p) : okValid (swP a b p n) := by
  obtain ⟨hh, hc, hm⟩ := h
  have hlen : (swP a b p n).codes.length = p.codes.length := by simp [swP]
  refine ⟨by rw [hlen]; exact hh, fun i hi => ?_, fun i hi => ?_⟩
  · rw [hlen] at hi
    rw [swP_cod a b p hn]
    split
    · rename_i e
      simp only [Int.toNat_natCast] at e
      subst e
      exact sw_okCode hn (hc i hi) (.inr ⟨rfl, ha, hb⟩)
    · exact sw_okCode hn (hc i hi) (.inl rfl)
  · exact sw_okCode hn (hm i hi) (.inl rfl)
theorem sw_nums {a b : Int} {p : Tk} {n : Nat} (hn : n < p.codes.length) (hv : okValid p) (ha : (cod p.codes n).params ≤ a ∧ a < (cod p.codes n).vars) (hb : (cod p.codes n).params ≤ b ∧ b < (cod p.codes n).vars) :
    numsF (swP a b p n) (nums (swP a b p n)) = numsF p (nums p) := by
  have hnums : nums (swP a b p n) = nums p := by simp [nums, swP]
  rw [hnums]
  have hcd := (hv.2.1 n hn).1
  simp only [Bool.false_eq_true, if_false] at hcd
  have key : ∀ m, codeF (swP a b p n) m = codeF p m := fun m => by
    unfold codeF codeOf
    by_cases e : m < 0
    · simp only [e, if_true]; rfl
    · simp only [e, if_false]
      rw [swP_cod a b p hn]
      split
      · rename_i e2
        have e3 : cod p.codes m = cod p.codes n := by simp only [cod, nth, e2, Int.toNat_natCast]
        rw [e3]
        have h8 : (cod p.codes n).vars ≤ 8 := hcd.2.2.2.1
        have h1 := sw_start (a := a) (b := b) (c := cod p.codes n) hcd.1 hcd.2.1 ha.1 hb.1
        have h2 := sw_steps (a := a) (b := b) (by omega) (by omega) (cod p.codes n).steps (startF (cod p.codes n) false) 0
        rw [h1] at h2
        simpa [startF] using h2
      · rfl
  have : ∀ l : List Int, numsF (swP a b p n) l = numsF p l := fun l => by
    induction l with
    | nil => rfl
    | cons m l ih => simp only [numsF, key, ih]
  exact this _
end Go.Ab
set_option maxHeartbeats 4000000
namespace Go.Ab
open Go Go.Ab Go.Proofs Go.Ab.Ty
set_option linter.unusedSimpArgs false
set_option linter.unusedVariables false

theorem swapped_ok (n a b v : Int) : Fn Try.prog 14 [.int v, .agg [.int n, .int a, .int b]] (.int (sw a b v)) := by
  refine Fn.intro' [(0, .int v), (1, .agg [.int n, .int a, .int b])] 2 19 Try.func14 (by kernel_rfl) rfl rfl rfl rfl rfl ?_
  repeat (first | (with_reducible first | apply zs | apply zN | apply z1 | apply z2 | apply z3 | apply z4 | apply z5 | apply z6 | refine z7 rfl ?_ | apply zb | apply zk | apply zr | apply ze | apply y1 | apply y2) | ((with_reducible apply zR); (refine ⟨rfl, rfl, ?_⟩; simp (decide := true) only [go_sem, List.map]; rfl)) | ((with_reducible apply zG); (simp (decide := true) only [go_sem]; rfl); (simp (decide := true) only [go_sem]; (repeat simp (decide := true) only [go_sem]); rfl)) | (refine zp rfl rfl (pl_box (by simp (decide := true) only [go_sem]; rfl) rfl) ?_) | (refine zp rfl rfl (pl_alloc (by simp only [go_sem]; rfl) rfl) ?_) | (refine zp rfl rfl (pl_store (by simp (decide := true) only [go_sem]; rfl) (by simp (decide := true) only [go_sem]; rfl) (by simp (decide := true) only [go_sem]; rfl) (by rfl) (by rfl) (by kernel_rfl) (by rfl) (by rfl)) ?_) | (refine zq rfl rfl (qi rfl rfl (by simp only [go_sem]; rfl) (by first | omega | (simp; omega)) (by kernel_rfl)) ?_) | (refine zq rfl rfl (qo rfl rfl (by simp only [go_sem]; rfl) rfl (by first | omega | (simp; omega)) (by simp only [go_sem] <;> rfl)) ?_) | (refine zq rfl rfl (qw 0 _ rfl rfl (by first | rfl | (simp only [Nat.zero_add] <;> rfl)) (by first | omega | (simp; omega)) (by simp only [go_sem] <;> rfl)) ?_) | (refine zq rfl rfl (qb (by simp only [go_sem]; rfl) (by simp only [go_sem]; rfl) (by decide) (by kernel_rfl) (by simp (decide := true) only [List.map, go_sem] <;> rfl) (by simp (decide := true) only [List.map, go_sem] <;> rfl) (by rfl)) ?_) | (refine zq rfl rfl (qn rfl rfl) ?_) | (refine zq rfl rfl (qx rfl rfl) ?_) | fail)
  refine AWp.cond (b := _) rfl (fun h1 => ?_) (fun h1 => ?_)
  · simp at h1
    repeat (first | (with_reducible first | apply zs | apply zN | apply z1 | apply z2 | apply z3 | apply z4 | apply z5 | apply z6 | refine z7 rfl ?_ | apply zb | apply zk | apply zr | apply ze | apply y1 | apply y2) | ((with_reducible apply zR); (refine ⟨rfl, rfl, ?_⟩; simp (decide := true) only [go_sem, List.map]; rfl)) | ((with_reducible apply zG); (simp (decide := true) only [go_sem]; rfl); (simp (decide := true) only [go_sem]; (repeat simp (decide := true) only [go_sem]); rfl)) | (refine zp rfl rfl (pl_box (by simp (decide := true) only [go_sem]; rfl) rfl) ?_) | (refine zp rfl rfl (pl_alloc (by simp only [go_sem]; rfl) rfl) ?_) | (refine zp rfl rfl (pl_store (by simp (decide := true) only [go_sem]; rfl) (by simp (decide := true) only [go_sem]; rfl) (by simp (decide := true) only [go_sem]; rfl) (by rfl) (by rfl) (by kernel_rfl) (by rfl) (by rfl)) ?_) | (refine zq rfl rfl (qi rfl rfl (by simp only [go_sem]; rfl) (by first | omega | (simp; omega)) (by kernel_rfl)) ?_) | (refine zq rfl rfl (qo rfl rfl (by simp only [go_sem]; rfl) rfl (by first | omega | (simp; omega)) (by simp only [go_sem] <;> rfl)) ?_) | (refine zq rfl rfl (qw 0 _ rfl rfl (by first | rfl | (simp only [Nat.zero_add] <;> rfl)) (by first | omega | (simp; omega)) (by simp only [go_sem] <;> rfl)) ?_) | (refine zq rfl rfl (qb (by simp only [go_sem]; rfl) (by simp only [go_sem]; rfl) (by decide) (by kernel_rfl) (by simp (decide := true) only [List.map, go_sem] <;> rfl) (by simp (decide := true) only [List.map, go_sem] <;> rfl) (by rfl)) ?_) | (refine zq rfl rfl (qn rfl rfl) ?_) | (refine zq rfl rfl (qx rfl rfl) ?_) | fail)
    exact Ret.data rfl (by simp [sw, h1, packA, lk]) (.base _)
  simp at h1
  repeat (first | (with_reducible first | apply zs | apply zN | apply z1 | apply z2 | apply z3 | apply z4 | apply z5 | apply z6 | refine z7 rfl ?_ | apply zb | apply zk | apply zr | apply ze | apply y1 | apply y2) | ((with_reducible apply zR); (refine ⟨rfl, rfl, ?_⟩; simp (decide := true) only [go_sem, List.map]; rfl)) | ((with_reducible apply zG); (simp (decide := true) only [go_sem]; rfl); (simp (decide := true) only [go_sem]; (repeat simp (decide := true) only [go_sem]); rfl)) | (refine zp rfl rfl (pl_box (by simp (decide := true) only [go_sem]; rfl) rfl) ?_) | (refine zp rfl rfl (pl_alloc (by simp only [go_sem]; rfl) rfl) ?_) | (refine zp rfl rfl (pl_store (by simp (decide := true) only [go_sem]; rfl) (by simp (decide := true) only [go_sem]; rfl) (by simp (decide := true) only [go_sem]; rfl) (by rfl) (by rfl) (by kernel_rfl) (by rfl) (by rfl)) ?_) | (refine zq rfl rfl (qi rfl rfl (by simp only [go_sem]; rfl) (by first | omega | (simp; omega)) (by kernel_rfl)) ?_) | (refine zq rfl rfl (qo rfl rfl (by simp only [go_sem]; rfl) rfl (by first | omega | (simp; omega)) (by simp only [go_sem] <;> rfl)) ?_) | (refine zq rfl rfl (qw 0 _ rfl rfl (by first | rfl | (simp only [Nat.zero_add] <;> rfl)) (by first | omega | (simp; omega)) (by simp only [go_sem] <;> rfl)) ?_) | (refine zq rfl rfl (qb (by simp only [go_sem]; rfl) (by simp only [go_sem]; rfl) (by decide) (by kernel_rfl) (by simp (decide := true) only [List.map, go_sem] <;> rfl) (by simp (decide := true) only [List.map, go_sem] <;> rfl) (by rfl)) ?_) | (refine zq rfl rfl (qn rfl rfl) ?_) | (refine zq rfl rfl (qx rfl rfl) ?_) | fail)
  refine AWp.cond (b := _) rfl (fun h2 => ?_) (fun h2 => ?_)
  · simp at h2
    repeat (first | (with_reducible first | apply zs | apply zN | apply z1 | apply z2 | apply z3 | apply z4 | apply z5 | apply z6 | refine z7 rfl ?_ | apply zb | apply zk | apply zr | apply ze | apply y1 | apply y2) | ((with_reducible apply zR); (refine ⟨rfl, rfl, ?_⟩; simp (decide := true) only [go_sem, List.map]; rfl)) | ((with_reducible apply zG); (simp (decide := true) only [go_sem]; rfl); (simp (decide := true) only [go_sem]; (repeat simp (decide := true) only [go_sem]); rfl)) | (refine zp rfl rfl (pl_box (by simp (decide := true) only [go_sem]; rfl) rfl) ?_) | (refine zp rfl rfl (pl_alloc (by simp only [go_sem]; rfl) rfl) ?_) | (refine zp rfl rfl (pl_store (by simp (decide := true) only [go_sem]; rfl) (by simp (decide := true) only [go_sem]; rfl) (by simp (decide := true) only [go_sem]; rfl) (by rfl) (by rfl) (by kernel_rfl) (by rfl) (by rfl)) ?_) | (refine zq rfl rfl (qi rfl rfl (by simp only [go_sem]; rfl) (by first | omega | (simp; omega)) (by kernel_rfl)) ?_) | (refine zq rfl rfl (qo rfl rfl (by simp only [go_sem]; rfl) rfl (by first | omega | (simp; omega)) (by simp only [go_sem] <;> rfl)) ?_) | (refine zq rfl rfl (qw 0 _ rfl rfl (by first | rfl | (simp only [Nat.zero_add] <;> rfl)) (by first | omega | (simp; omega)) (by simp only [go_sem] <;> rfl)) ?_) | (refine zq rfl rfl (qb (by simp only [go_sem]; rfl) (by simp only [go_sem]; rfl) (by decide) (by kernel_rfl) (by simp (decide := true) only [List.map, go_sem] <;> rfl) (by simp (decide := true) only [List.map, go_sem] <;> rfl) (by rfl)) ?_) | (refine zq rfl rfl (qn rfl rfl) ?_) | (refine zq rfl rfl (qx rfl rfl) ?_) | fail)
    exact Ret.data rfl (by simp [sw, h2, packA, lk]; intro h; exact absurd (h2.trans h) h1) (.base _)
  simp at h2
  repeat (first | (with_reducible first | apply zs | apply zN | apply z1 | apply z2 | apply z3 | apply z4 | apply z5 | apply z6 | refine z7 rfl ?_ | apply zb | apply zk | apply zr | apply ze | apply y1 | apply y2) | ((with_reducible apply zR); (refine ⟨rfl, rfl, ?_⟩; simp (decide := true) only [go_sem, List.map]; rfl)) | ((with_reducible apply zG); (simp (decide := true) only [go_sem]; rfl); (simp (decide := true) only [go_sem]; (repeat simp (decide := true) only [go_sem]); rfl)) | (refine zp rfl rfl (pl_box (by simp (decide := true) only [go_sem]; rfl) rfl) ?_) | (refine zp rfl rfl (pl_alloc (by simp only [go_sem]; rfl) rfl) ?_) | (refine zp rfl rfl (pl_store (by simp (decide := true) only [go_sem]; rfl) (by simp (decide := true) only [go_sem]; rfl) (by simp (decide := true) only [go_sem]; rfl) (by rfl) (by rfl) (by kernel_rfl) (by rfl) (by rfl)) ?_) | (refine zq rfl rfl (qi rfl rfl (by simp only [go_sem]; rfl) (by first | omega | (simp; omega)) (by kernel_rfl)) ?_) | (refine zq rfl rfl (qo rfl rfl (by simp only [go_sem]; rfl) rfl (by first | omega | (simp; omega)) (by simp only [go_sem] <;> rfl)) ?_) | (refine zq rfl rfl (qw 0 _ rfl rfl (by first | rfl | (simp only [Nat.zero_add] <;> rfl)) (by first | omega | (simp; omega)) (by simp only [go_sem] <;> rfl)) ?_) | (refine zq rfl rfl (qb (by simp only [go_sem]; rfl) (by simp only [go_sem]; rfl) (by decide) (by kernel_rfl) (by simp (decide := true) only [List.map, go_sem] <;> rfl) (by simp (decide := true) only [List.map, go_sem] <;> rfl) (by rfl)) ?_) | (refine zq rfl rfl (qn rfl rfl) ?_) | (refine zq rfl rfl (qx rfl rfl) ?_) | fail)
  exact Ret.data rfl (by simp [sw, h1, h2, packA, lk]) (.base _)

def mapJ (l : List Int) (f : Int → Int) (j : Nat) : List Int := (List.range l.length).map fun i : Nat => if i < j then f (nth 0 l i) else nth 0 l i
theorem mapJ_len (l : List Int) (f : Int → Int) (j : Nat) : (mapJ l f j).length = l.length := by simp [mapJ]
theorem mapJ_0 (l : List Int) (f : Int → Int) : mapJ l f 0 = l := by
  apply List.ext_getElem
  · simp [mapJ]
  · intro i h1 h2; simp [mapJ, nth_eq h2]
theorem mapJ_end (l : List Int) (f : Int → Int) : mapJ l f l.length = l.map f := by
  apply List.ext_getElem
  · simp [mapJ]
  · intro i h1 h2
    have h3 : i < l.length := by simpa using h2
    simp [mapJ, h3, nth_eq h3]
theorem mapJ_get (l : List Int) (f : Int → Int) (j : Nat) (hj : j < l.length) : nth 0 (mapJ l f j) j = nth 0 l j := by
  rw [nth_eq (by simpa [mapJ_len] using hj)]; simp [mapJ]
theorem mapJ_set {l : List Int} {f : Int → Int} {j : Nat} (hj : j < l.length) : (mapJ l f j).set j (f (nth 0 l j)) = mapJ l f (j + 1) := by
  apply List.ext_getElem
  · simp [mapJ]
  · intro i h1 h2
    simp only [mapJ, List.getElem_set, List.getElem_map, List.getElem_range]
    by_cases e : j = i
    · subst e; simp
    · simp only [e, if_false]
      by_cases e2 : i < j
      · simp [e2, show i < j + 1 by omega]
      · simp [e2, show ¬ i < j + 1 by omega]
theorem okStep_vars {l : Lk} {i : Int} {s : Stp} (h : okStep l i s) (hp : ∀ c ∈ l.p.codes, c.params ≤ 4) (hm : ∀ c ∈ l.p.methods, c.params ≤ 4) : s.vars.length ≤ 4 := by
  have hmem : ∀ (L : List Cd) (n : Int), 0 ≤ n → n < L.length → cod L n ∈ L := fun L n h0 h1 => by
    rw [show cod L n = L[n.toNat]'(by omega) from nth_eqI (by omega)]; exact List.getElem_mem _
  rcases h with ⟨ho, h1, _, _, _, h⟩ | ⟨ho, h1, _, h⟩ | ⟨ho, h1, _, _, h⟩ | ⟨ho, _, _, _, h4, h5, _, h7, h8⟩ | ⟨ho, _, _, h, _⟩ | ⟨ho, _, _, _, _, _, h6, h7, h8⟩ | ⟨ho, _, _, _, h4, h5, _, h7, h8⟩ | ⟨ho, _, _, h⟩
  · have := h.2; omega
  · have := h.2; omega
  · have := h.2; omega
  · have := hp _ (hmem _ _ (by omega) h5); omega
  · have := h.2; omega
  · omega
  · have := hm _ (hmem _ _ h4 h5); omega
  · have := h.2; omega
theorem vars4 {p : Tk} (hv : okValid p) {n : Nat} (hn : n < p.codes.length) {k : Nat} (hk : k < (nth cd0 p.codes n).steps.length) : (nth stp0 (nth cd0 p.codes n).steps k).vars.length ≤ 4 := by
  obtain ⟨_, hc, hm⟩ := hv
  have hp : ∀ c ∈ p.codes, c.params ≤ 4 := fun c h => by
    obtain ⟨i, hi, rfl⟩ := List.mem_iff_getElem.1 h
    have := (hc i hi).1.2.1
    simp only [cod, nth_eq hi] at this; exact this
  have hq : ∀ c ∈ p.methods, c.params ≤ 4 := fun c h => by
    obtain ⟨i, hi, rfl⟩ := List.mem_iff_getElem.1 h
    have := (hm i hi).1.2.1
    simp only [cod, nth_eq hi] at this; exact this
  exact okStep_vars ((hc n hn).2 k hk) hp hq
end Go.Ab
