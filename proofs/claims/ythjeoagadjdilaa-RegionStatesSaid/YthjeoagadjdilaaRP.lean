/- Part of the proof. -/
import Derived.Test.YthjeoagadjdilaaRO
import Derived.Test.YthjeoagadjdilaaRLb
set_option linter.unusedSimpArgs false
set_option linter.unusedVariables false
set_option maxHeartbeats 4000000
namespace Go.Ab
open Go Go.Ab Go.Proofs Go.Ab.Ty
set_option linter.unusedSimpArgs false
set_option linter.unusedVariables false

theorem after_keep {r : Rg} {s : Stp} (h : s.op ≠ 1) : (afterR r s).count = r.count ∧ (afterR r s).actor = r.actor := by
  have hs : ∀ d, (sendR r s.vars d).count = r.count ∧ (sendR r s.vars d).actor = r.actor := fun d => by
    unfold sendR; split <;> exact ⟨rfl, rfl⟩
  unfold afterR
  rw [if_neg h]
  split
  · split <;> exact ⟨rfl, rfl⟩
  · split
    · split <;> exact ⟨rfl, rfl⟩
    · split
      · exact ⟨rfl, rfl⟩
      · split
        · exact hs _
        · split
          · exact hs _
          · exact ⟨rfl, rfl⟩

theorem arr_at {r r' : Rg} (h : arr r = arr r') {i : Int} (h0 : 0 ≤ i) (h8 : i < 8) : r.of i = r'.of i := by
  simp only [arr, List.cons.injEq] at h
  obtain ⟨e0, e1, e2, e3, e4, e5, e6, e7, _⟩ := h
  rcases (by omega : i = 0 ∨ i = 1 ∨ i = 2 ∨ i = 3 ∨ i = 4 ∨ i = 5 ∨ i = 6 ∨ i = 7) with h | h | h | h | h | h | h | h <;> subst h <;> assumption
theorem Rel.of_arr {n : Nat} {m : Bool} {k k' : Nat} {r r' : Rg} {l l' : List Int} (h0 : Rel n m k r l) (hk : k ≤ 1000) (h : Rel n m k' r' l') (ha : arr r' = arr r) {s : Stp} (hr : r' = afterR r s) (hv : s.op = 1 → 0 ≤ s.v ∧ s.v < n) : Rel n m k' r l' := by
  have hof : ∀ i : Int, 0 ≤ i → i < n → r'.of i = r.of i := fun i h1 h2 => arr_at ha h1 (by have := h0.n8; omega)
  by_cases h1 : s.op = 1
  · exfalso
    obtain ⟨v0, v1⟩ := hv h1
    have e := hof s.v v0 v1
    rw [hr] at e
    have hc := h0.cnt
    have hva := h0.val s.v v0 v1
    have hn := h.cnt
    have : IntKind.i64.wrap (r.count + 1) = r.of s.v := by simpa [afterR, h1, freshR, updI] using e
    rw [wrap_id (by omega) (by omega)] at this
    omega
  · obtain ⟨e1, e2⟩ := after_keep (r := r) h1
    rw [← hr] at e1 e2
    exact ⟨h.len, h.n8, by rw [← e1]; exact h.cnt, fun i a b => by rw [← hof i a b, ← e1]; exact h.val i a b, fun i j a b c d x y => by
      rw [← hof i a b] at x ⊢; rw [← hof j c d] at y ⊢; exact h.same i j a b c d x y, fun i a b x => by
      rw [← hof i a b] at x ⊢; rw [← e2]; exact h.act i a b x, by rw [← e1, ← e2]; exact h.actor⟩

theorem until_rel {n : Nat} {m : Bool} : ∀ {ss : List Stp} {k : Nat} {r : Rg} {l : List Int}, Rel n m k r l → (∀ s ∈ ss, inL n s) → k + ss.length ≤ 1000 →
    (untilS r ss).2 = (rsteps m l ss k).2.2 ∧ ((untilS r ss).2 = 0 → Rel n m (k + ss.length) (untilS r ss).1 (rsteps m l ss k).1) ∧ ((untilS r ss).2 ≠ 0 → (rsteps m l ss k).1 = [])
  | [], k, r, l, h, _, _ => ⟨rfl, fun _ => h, fun h => absurd rfl h⟩
  | s :: ss, k, r, l, h, hi, hk => by
    have hs := hi s (by simp)
    have e := h.stepE hs
    simp only [List.length_cons] at hk
    simp only [untilS, rsteps, e]
    by_cases h0 : afterE r s = 0
    · have h1 := h.step (by omega) hs h0
      simp only [h0, if_true, List.length_cons]
      rw [show k + (ss.length + 1) = k + 1 + ss.length by omega]
      by_cases ha : arr (afterR r s) = arr r
      · rw [if_pos ha]
        exact until_rel (ss := ss) (k := k + 1) (h.of_arr (by omega) h1 ha rfl fun ho => hs.1 (by unfold u1; omega)) (fun x hx => hi x (List.mem_cons_of_mem _ hx)) (by omega)
      · rw [if_neg ha]
        exact until_rel (ss := ss) (k := k + 1) h1 (fun x hx => hi x (List.mem_cons_of_mem _ hx)) (by omega)
    · rw [if_neg h0, if_neg h0]
      exact ⟨rfl, fun h => absurd h h0, fun _ => rfl⟩

theorem st_rel (p : Tk) (n k : Int) : (untilF p n k).2.2 = (stRes p n k).2 ∧ ((untilF p n k).2.2 ≠ 0 → (stRes p n k).1 = []) ∧ ((untilF p n k).2.2 = 0 → ∃ m k', Rel (untilF p n k).2.1.vars.toNat m k' (untilF p n k).1 (stRes p n k).1) := by
  classical
  by_cases hv : okValid p
  · by_cases hb : ¬ numOk p n ∨ k < 0 ∨ k > (codeOf p n).steps.length
    · have e1 : (untilF p n k).2.2 = 1 := by
        unfold untilF
        rw [if_neg (by simp [hv])]
        by_cases hn : numOk p n
        · have : untilC p n = codeOf p n := by simp [untilC, hn]
          rw [this, if_pos hb]
        · rw [if_pos (.inl hn)]
      have e2 : stRes p n k = ([], 1) := by unfold stRes; rw [if_neg (by simp [hv]), if_pos hb]
      rw [e1, e2]; simp
    · have hnum : numOk p n := by
        rcases Classical.em (numOk p n) with h | h
        · exact h
        · exact absurd (.inl h) hb
      have hC : untilC p n = codeOf p n := by simp [untilC, hnum]
      have hCO := codeOk_of hv hnum
      have e1 : untilF p n k = ((untilS (startF (codeOf p n) (decide (n < 0))) ((codeOf p n).steps.take k.toNat)).1, codeOf p n, (untilS (startF (codeOf p n) (decide (n < 0))) ((codeOf p n).steps.take k.toNat)).2) := by
        unfold untilF; rw [if_neg (by simp [hv]), hC, if_neg hb]
      have e2 : stRes p n k = ((rsteps (decide (n < 0)) (begin0 (codeOf p n) (decide (n < 0))) ((codeOf p n).steps.take k.toNat) 0).1, (rsteps (decide (n < 0)) (begin0 (codeOf p n) (decide (n < 0))) ((codeOf p n).steps.take k.toNat) 0).2.2) := by
        unfold stRes; rw [if_neg (by simp [hv]), if_neg hb]
      have := until_rel (rel_start (m := decide (n < 0)) hCO.params hCO.vars.2 hCO.le (fun h => hCO.less (by simpa using h))) (ss := (codeOf p n).steps.take k.toNat) (fun s hs => hCO.inl s (List.mem_of_mem_take hs)) (by have := hCO.steps; rw [List.length_take]; omega)
      rw [e1, e2]
      exact ⟨this.1, this.2.2, fun h => ⟨_, _, this.2.1 h⟩⟩
  · have e1 : (untilF p n k).2.2 = 230 := by unfold untilF; rw [if_pos hv]
    have e2 : stRes p n k = ([], 230) := by unfold stRes; rw [if_pos hv]
    rw [e1, e2]; simp

theorem pick_congr {q q' : Int → Bool} {k : Nat} (h : ∀ i : Int, 0 ≤ i → i < k → q i = q' i) : pick q k = pick q' k := by
  unfold pick
  apply List.filter_congr
  intro x hx
  obtain ⟨i, hi, rfl⟩ := List.mem_map.1 hx
  rw [List.mem_range] at hi
  exact h i (by omega) (by omega)

theorem Rel.regs {n : Nat} {m : Bool} {k : Nat} {r : Rg} {l : List Int} (h : Rel n m k r l) : outsF r.of 1 n n = regsR l := by
  have hset : ∀ i : Int, 0 ≤ i → i < n → (1 ≤ r.of i ↔ 0 ≤ nth 0 l i) := fun i h1 h2 => by have := h.val i h1 h2; omega
  have heq : ∀ i j : Int, 0 ≤ i → i < n → 0 ≤ j → j < n → 1 ≤ r.of j → (r.of i = r.of j ↔ nth 0 l i = nth 0 l j) := fun i j a b c d hj => by
    by_cases hi : 1 ≤ r.of i
    · exact h.same i j a b c d hi hj
    · have v1 := h.val i a b
      have v2 := h.val j c d
      omega
  unfold regsR outsF
  rw [h.len]
  have hp : pick (isFst r.of 1) n = pick (isFst (nth 0 l) 0) n := pick_congr fun i h0 h1 => by
    unfold isFst
    rw [decide_eq_decide, hset i h0 h1]
    constructor
    · rintro ⟨a, b⟩
      exact ⟨a, fun w hw hwe => b w hw ((heq w i (by omega) (by omega) h0 h1 ((hset i h0 h1).2 a)).2 hwe)⟩
    · rintro ⟨a, b⟩
      exact ⟨a, fun w hw hwe => b w hw ((heq w i (by omega) (by omega) h0 h1 ((hset i h0 h1).2 a)).1 hwe)⟩
  rw [hp]
  apply List.map_congr_left
  intro v hv
  rw [mem_pick] at hv
  obtain ⟨⟨v0, v1⟩, hf⟩ := hv
  have hf : 0 ≤ nth 0 l v ∧ ∀ w : Nat, (w : Int) < v → nth 0 l w ≠ nth 0 l v := by
    unfold isFst at hf
    simp only [decide_eq_true_eq] at hf
    exact hf
  unfold grpF
  exact pick_congr fun w h0 h1 => by
    rw [decide_eq_decide, heq w v h0 h1 v0 v1 ((hset v v0 v1).2 hf.1)]
theorem Rel.gone {n : Nat} {m : Bool} {k : Nat} {r : Rg} {l : List Int} (h : Rel n m k r l) : pick (fun i => decide (r.of i = -1)) n = goneR l := by
  unfold goneR
  rw [h.len]
  exact pick_congr fun i h0 h1 => by
    rw [decide_eq_decide]
    have := h.val i h0 h1
    omega

theorem st_regs (p : Tk) (n k : Int) : regsRes p n k = if (stRes p n k).2 = 0 then regsR (stRes p n k).1 else [] := by
  obtain ⟨h1, h2, h3⟩ := st_rel p n k
  unfold regsRes
  rw [← h1]
  by_cases e : (untilF p n k).2.2 = 0
  · obtain ⟨m, k', hr⟩ := h3 e
    rw [if_pos e, if_pos e, hr.regs]
  · rw [if_neg e, if_neg e]
theorem st_gone (p : Tk) (n k : Int) : goneRes p n k = goneR (stRes p n k).1 := by
  obtain ⟨h1, h2, h3⟩ := st_rel p n k
  unfold goneRes
  by_cases e : (untilF p n k).2.2 = 0
  · obtain ⟨m, k', hr⟩ := h3 e
    rw [if_pos e, hr.gone]
  · rw [if_neg e, h2 e]; rfl
theorem regs_len (p : Tk) (n k : Int) : (regsRes p n k).length ≤ 8 := by
  unfold regsRes
  split
  · rename_i h
    have := outsF_len (untilF p n k).1.of 1 (untilF p n k).2.1.vars.toNat (untilF p n k).2.1.vars.toNat
    obtain ⟨hv, hnum, _, e, _⟩ := until_vars h
    have hC := (codeOk_of hv hnum).vars
    rw [e] at this ⊢
    simp only at this ⊢
    omega
  · simp

instance : Inhabited (List Int) := ⟨[]⟩
theorem law_states (p : Tk) (a b : Int) : Fn Try.prog 8 [encT p, .agg [.int a, .int b]] (.bool true) := by
  obtain ⟨bb, hb⟩ := big_ok p
  refine Fn.intro' [(0, encT p), (1, .agg [.int a, .int b])] 2 91 Try.func8 (by kernel_rfl) rfl rfl rfl rfl rfl ?_
  have hl := regs_len p a b
  have h1 := regions_ok p a b
  have h2 := refRegions_ok p a b
  have h3 := gone_ok p a b
  have h4 := refGone_ok p a b
  rw [← (st_rel p a b).1] at h2 h4
  rw [(st_rel p a b).1, ← st_regs, ← (st_rel p a b).1] at h2
  rw [← st_gone] at h4
  generalize regsRes p a b = A at *
  generalize goneRes p a b = B at *
  generalize (untilF p a b).2.2 = e at *
  repeat (first | (with_reducible first | apply zs | apply zN | apply z1 | apply z2 | apply z3 | apply z4 | apply z5 | apply z6 | refine z7 rfl ?_ | apply zb | apply zk | apply zr | apply ze | apply y1 | apply y2) | ((with_reducible apply zR); (refine ⟨rfl, rfl, ?_⟩; simp (decide := true) only [go_sem, List.map]; rfl)) | ((with_reducible apply zG); (simp (decide := true) only [go_sem]; rfl); (simp (decide := true) only [go_sem]; (repeat simp (decide := true) only [go_sem]); rfl)) | (refine zp rfl rfl (pl_box (by simp (decide := true) only [go_sem]; rfl) rfl) ?_) | (refine zp rfl rfl (pl_alloc (by simp only [go_sem]; rfl) rfl) ?_) | (refine zp rfl rfl (pl_store (by simp (decide := true) only [go_sem]; rfl) (by simp (decide := true) only [go_sem]; rfl) (by simp (decide := true) only [go_sem]; rfl) (by rfl) (by rfl) (by kernel_rfl) (by rfl) (by rfl)) ?_) | (refine zq rfl rfl (qi rfl rfl (by simp only [go_sem]; rfl) (by first | omega | (simp; omega)) (by kernel_rfl)) ?_) | (refine zq rfl rfl (qo rfl rfl (by simp only [go_sem]; rfl) rfl (by first | omega | (simp; omega)) (by simp only [go_sem] <;> rfl)) ?_) | (refine zq rfl rfl (qw 0 _ rfl rfl (by first | rfl | (simp only [Nat.zero_add] <;> rfl)) (by first | omega | (simp; omega)) (by simp only [go_sem] <;> rfl)) ?_) | (refine zq rfl rfl (qb (by simp only [go_sem]; rfl) (by simp only [go_sem]; rfl) (by decide) (by kernel_rfl) (by simp (decide := true) only [List.map, go_sem] <;> rfl) (by simp (decide := true) only [List.map, go_sem] <;> rfl) (by rfl)) ?_) | (refine zq rfl rfl (qn rfl rfl) ?_) | (refine zq rfl rfl (qx rfl rfl) ?_) | fail)
  refine ARun.q1 rfl rfl (ql_callC (hb) rfl (by simp (decide := true) only [go_sem] <;> rfl) (by simp (decide := true) only [go_sem, List.map]) (by simp [-List.map_take, -List.map_drop])) ?_
  repeat (first | (with_reducible first | apply zs | apply zN | apply z1 | apply z2 | apply z3 | apply z4 | apply z5 | apply z6 | refine z7 rfl ?_ | apply zb | apply zk | apply zr | apply ze | apply y1 | apply y2) | ((with_reducible apply zR); (refine ⟨rfl, rfl, ?_⟩; simp (decide := true) only [go_sem, List.map]; rfl)) | ((with_reducible apply zG); (simp (decide := true) only [go_sem]; rfl); (simp (decide := true) only [go_sem]; (repeat simp (decide := true) only [go_sem]); rfl)) | (refine zp rfl rfl (pl_box (by simp (decide := true) only [go_sem]; rfl) rfl) ?_) | (refine zp rfl rfl (pl_alloc (by simp only [go_sem]; rfl) rfl) ?_) | (refine zp rfl rfl (pl_store (by simp (decide := true) only [go_sem]; rfl) (by simp (decide := true) only [go_sem]; rfl) (by simp (decide := true) only [go_sem]; rfl) (by rfl) (by rfl) (by kernel_rfl) (by rfl) (by rfl)) ?_) | (refine zq rfl rfl (qi rfl rfl (by simp only [go_sem]; rfl) (by first | omega | (simp; omega)) (by kernel_rfl)) ?_) | (refine zq rfl rfl (qo rfl rfl (by simp only [go_sem]; rfl) rfl (by first | omega | (simp; omega)) (by simp only [go_sem] <;> rfl)) ?_) | (refine zq rfl rfl (qw 0 _ rfl rfl (by first | rfl | (simp only [Nat.zero_add] <;> rfl)) (by first | omega | (simp; omega)) (by simp only [go_sem] <;> rfl)) ?_) | (refine zq rfl rfl (qb (by simp only [go_sem]; rfl) (by simp only [go_sem]; rfl) (by decide) (by kernel_rfl) (by simp (decide := true) only [List.map, go_sem] <;> rfl) (by simp (decide := true) only [List.map, go_sem] <;> rfl) (by rfl)) ?_) | (refine zq rfl rfl (qn rfl rfl) ?_) | (refine zq rfl rfl (qx rfl rfl) ?_) | fail)
  refine AWp.cond (b := _) rfl (fun hc => ?_) (fun hc => ?_)
  · repeat (first | (with_reducible first | apply zs | apply zN | apply z1 | apply z2 | apply z3 | apply z4 | apply z5 | apply z6 | refine z7 rfl ?_ | apply zb | apply zk | apply zr | apply ze | apply y1 | apply y2) | ((with_reducible apply zR); (refine ⟨rfl, rfl, ?_⟩; simp (decide := true) only [go_sem, List.map]; rfl)) | ((with_reducible apply zG); (simp (decide := true) only [go_sem]; rfl); (simp (decide := true) only [go_sem]; (repeat simp (decide := true) only [go_sem]); rfl)) | (refine zp rfl rfl (pl_box (by simp (decide := true) only [go_sem]; rfl) rfl) ?_) | (refine zp rfl rfl (pl_alloc (by simp only [go_sem]; rfl) rfl) ?_) | (refine zp rfl rfl (pl_store (by simp (decide := true) only [go_sem]; rfl) (by simp (decide := true) only [go_sem]; rfl) (by simp (decide := true) only [go_sem]; rfl) (by rfl) (by rfl) (by kernel_rfl) (by rfl) (by rfl)) ?_) | (refine zq rfl rfl (qi rfl rfl (by simp only [go_sem]; rfl) (by first | omega | (simp; omega)) (by kernel_rfl)) ?_) | (refine zq rfl rfl (qo rfl rfl (by simp only [go_sem]; rfl) rfl (by first | omega | (simp; omega)) (by simp only [go_sem] <;> rfl)) ?_) | (refine zq rfl rfl (qw 0 _ rfl rfl (by first | rfl | (simp only [Nat.zero_add] <;> rfl)) (by first | omega | (simp; omega)) (by simp only [go_sem] <;> rfl)) ?_) | (refine zq rfl rfl (qb (by simp only [go_sem]; rfl) (by simp only [go_sem]; rfl) (by decide) (by kernel_rfl) (by simp (decide := true) only [List.map, go_sem] <;> rfl) (by simp (decide := true) only [List.map, go_sem] <;> rfl) (by rfl)) ?_) | (refine zq rfl rfl (qn rfl rfl) ?_) | (refine zq rfl rfl (qx rfl rfl) ?_) | fail)
    refine ARun.q1 rfl rfl (ql_callC (awake_true) rfl (by simp (decide := true) only [go_sem] <;> rfl) (by simp (decide := true) only [go_sem, List.map]) (by simp [-List.map_take, -List.map_drop])) ?_
    repeat (first | (with_reducible first | apply zs | apply zN | apply z1 | apply z2 | apply z3 | apply z4 | apply z5 | apply z6 | refine z7 rfl ?_ | apply zb | apply zk | apply zr | apply ze | apply y1 | apply y2) | ((with_reducible apply zR); (refine ⟨rfl, rfl, ?_⟩; simp (decide := true) only [go_sem, List.map]; rfl)) | ((with_reducible apply zG); (simp (decide := true) only [go_sem]; rfl); (simp (decide := true) only [go_sem]; (repeat simp (decide := true) only [go_sem]); rfl)) | (refine zp rfl rfl (pl_box (by simp (decide := true) only [go_sem]; rfl) rfl) ?_) | (refine zp rfl rfl (pl_alloc (by simp only [go_sem]; rfl) rfl) ?_) | (refine zp rfl rfl (pl_store (by simp (decide := true) only [go_sem]; rfl) (by simp (decide := true) only [go_sem]; rfl) (by simp (decide := true) only [go_sem]; rfl) (by rfl) (by rfl) (by kernel_rfl) (by rfl) (by rfl)) ?_) | (refine zq rfl rfl (qi rfl rfl (by simp only [go_sem]; rfl) (by first | omega | (simp; omega)) (by kernel_rfl)) ?_) | (refine zq rfl rfl (qo rfl rfl (by simp only [go_sem]; rfl) rfl (by first | omega | (simp; omega)) (by simp only [go_sem] <;> rfl)) ?_) | (refine zq rfl rfl (qw 0 _ rfl rfl (by first | rfl | (simp only [Nat.zero_add] <;> rfl)) (by first | omega | (simp; omega)) (by simp only [go_sem] <;> rfl)) ?_) | (refine zq rfl rfl (qb (by simp only [go_sem]; rfl) (by simp only [go_sem]; rfl) (by decide) (by kernel_rfl) (by simp (decide := true) only [List.map, go_sem] <;> rfl) (by simp (decide := true) only [List.map, go_sem] <;> rfl) (by rfl)) ?_) | (refine zq rfl rfl (qn rfl rfl) ?_) | (refine zq rfl rfl (qx rfl rfl) ?_) | fail)
    exact Ret.bool rfl (by simp)
  have hpu : Pu (.lst (A.map fL)) := .lst fun x hx c hc => Pu_mapB A x hx c hc
  repeat (first | (with_reducible first | apply zs | apply zN | apply z1 | apply z2 | apply z3 | apply z4 | apply z5 | apply z6 | refine z7 rfl ?_ | apply zb | apply zk | apply zr | apply ze | apply y1 | apply y2) | ((with_reducible apply zR); (refine ⟨rfl, rfl, ?_⟩; simp (decide := true) only [go_sem, List.map]; rfl)) | ((with_reducible apply zG); (simp (decide := true) only [go_sem]; rfl); (simp (decide := true) only [go_sem]; (repeat simp (decide := true) only [go_sem]); rfl)) | (refine zp rfl rfl (pl_box (by simp (decide := true) only [go_sem]; rfl) rfl) ?_) | (refine zp rfl rfl (pl_alloc (by simp only [go_sem]; rfl) rfl) ?_) | (refine zp rfl rfl (pl_store (by simp (decide := true) only [go_sem]; rfl) (by simp (decide := true) only [go_sem]; rfl) (by simp (decide := true) only [go_sem]; rfl) (by rfl) (by rfl) (by kernel_rfl) (by rfl) (by rfl)) ?_) | (refine zq rfl rfl (qi rfl rfl (by simp only [go_sem]; rfl) (by first | omega | (simp; omega)) (by kernel_rfl)) ?_) | (refine zq rfl rfl (qo rfl rfl (by simp only [go_sem]; rfl) rfl (by first | omega | (simp; omega)) (by simp only [go_sem] <;> rfl)) ?_) | (refine zq rfl rfl (qw 0 _ rfl rfl (by first | rfl | (simp only [Nat.zero_add] <;> rfl)) (by first | omega | (simp; omega)) (by simp only [go_sem] <;> rfl)) ?_) | (refine zq rfl rfl (qb (by simp only [go_sem]; rfl) (by simp only [go_sem]; rfl) (by decide) (by kernel_rfl) (by simp (decide := true) only [List.map, go_sem] <;> rfl) (by simp (decide := true) only [List.map, go_sem] <;> rfl) (by rfl)) ?_) | (refine zq rfl rfl (qn rfl rfl) ?_) | (refine zq rfl rfl (qx rfl rfl) ?_) | fail)
  refine ARun.q1 rfl rfl (ql_callC h1 rfl (by simp (decide := true) only [go_sem] <;> rfl) (by simp (decide := true) only [go_sem, List.map]) (by simp)) ?_
  simp only [encLLE]
  repeat (first | (with_reducible first | apply zs | apply zN | apply z1 | apply z2 | apply z3 | apply z4 | apply z5 | apply z6 | refine z7 rfl ?_ | apply zb | apply zk | apply zr | apply ze | apply y1 | apply y2) | ((with_reducible apply zR); (refine ⟨rfl, rfl, ?_⟩; simp (decide := true) only [go_sem, List.map]; rfl)) | ((with_reducible apply zG); (simp (decide := true) only [go_sem]; rfl); (simp (decide := true) only [go_sem]; (repeat simp (decide := true) only [go_sem]); rfl)) | (refine zp rfl rfl (pl_box (by simp (decide := true) only [go_sem]; rfl) rfl) ?_) | (refine zp rfl rfl (pl_alloc (by simp only [go_sem]; rfl) rfl) ?_) | (refine zp rfl rfl (pl_store (by simp (decide := true) only [go_sem]; rfl) (by simp (decide := true) only [go_sem]; rfl) (by simp (decide := true) only [go_sem]; rfl) (by rfl) (by rfl) (by kernel_rfl) (by rfl) (by rfl)) ?_) | (refine zq rfl rfl (qi rfl rfl (by simp only [go_sem]; rfl) (by first | omega | (simp; omega)) (by kernel_rfl)) ?_) | (refine zq rfl rfl (qo rfl rfl (by simp only [go_sem]; rfl) rfl (by first | omega | (simp; omega)) (by simp only [go_sem] <;> rfl)) ?_) | (refine zq rfl rfl (qw 0 _ rfl rfl (by first | rfl | (simp only [Nat.zero_add] <;> rfl)) (by first | omega | (simp; omega)) (by simp only [go_sem] <;> rfl)) ?_) | (refine zq rfl rfl (qb (by simp only [go_sem]; rfl) (by simp only [go_sem]; rfl) (by decide) (by kernel_rfl) (by simp (decide := true) only [List.map, go_sem] <;> rfl) (by simp (decide := true) only [List.map, go_sem] <;> rfl) (by rfl)) ?_) | (refine zq rfl rfl (qn rfl rfl) ?_) | (refine zq rfl rfl (qx rfl rfl) ?_) | fail)
  refine ARun.q1 rfl rfl (ql_callC h2 rfl (by simp (decide := true) only [go_sem] <;> rfl) (by simp (decide := true) only [go_sem, List.map]) (by simp)) ?_
  simp only [encLLE]
  repeat (first | (with_reducible first | apply zs | apply zN | apply z1 | apply z2 | apply z3 | apply z4 | apply z5 | apply z6 | refine z7 rfl ?_ | apply zb | apply zk | apply zr | apply ze | apply y1 | apply y2) | ((with_reducible apply zR); (refine ⟨rfl, rfl, ?_⟩; simp (decide := true) only [go_sem, List.map]; rfl)) | ((with_reducible apply zG); (simp (decide := true) only [go_sem]; rfl); (simp (decide := true) only [go_sem]; (repeat simp (decide := true) only [go_sem]); rfl)) | (refine zp rfl rfl (pl_box (by simp (decide := true) only [go_sem]; rfl) rfl) ?_) | (refine zp rfl rfl (pl_alloc (by simp only [go_sem]; rfl) rfl) ?_) | (refine zp rfl rfl (pl_store (by simp (decide := true) only [go_sem]; rfl) (by simp (decide := true) only [go_sem]; rfl) (by simp (decide := true) only [go_sem]; rfl) (by rfl) (by rfl) (by kernel_rfl) (by rfl) (by rfl)) ?_) | (refine zq rfl rfl (qi rfl rfl (by simp only [go_sem]; rfl) (by first | omega | (simp; omega)) (by kernel_rfl)) ?_) | (refine zq rfl rfl (qo rfl rfl (by simp only [go_sem]; rfl) rfl (by first | omega | (simp; omega)) (by simp only [go_sem] <;> rfl)) ?_) | (refine zq rfl rfl (qw 0 _ rfl rfl (by first | rfl | (simp only [Nat.zero_add] <;> rfl)) (by first | omega | (simp; omega)) (by simp only [go_sem] <;> rfl)) ?_) | (refine zq rfl rfl (qb (by simp only [go_sem]; rfl) (by simp only [go_sem]; rfl) (by decide) (by kernel_rfl) (by simp (decide := true) only [List.map, go_sem] <;> rfl) (by simp (decide := true) only [List.map, go_sem] <;> rfl) (by rfl)) ?_) | (refine zq rfl rfl (qn rfl rfl) ?_) | (refine zq rfl rfl (qx rfl rfl) ?_) | fail)
  refine ARun.q1 rfl rfl (ql_callC (h3) rfl (by simp (decide := true) only [go_sem] <;> rfl) (by simp (decide := true) only [go_sem, List.map]) (by simp [-List.map_take, -List.map_drop])) ?_
  simp only [encLE]
  repeat (first | (with_reducible first | apply zs | apply zN | apply z1 | apply z2 | apply z3 | apply z4 | apply z5 | apply z6 | refine z7 rfl ?_ | apply zb | apply zk | apply zr | apply ze | apply y1 | apply y2) | ((with_reducible apply zR); (refine ⟨rfl, rfl, ?_⟩; simp (decide := true) only [go_sem, List.map]; rfl)) | ((with_reducible apply zG); (simp (decide := true) only [go_sem]; rfl); (simp (decide := true) only [go_sem]; (repeat simp (decide := true) only [go_sem]); rfl)) | (refine zp rfl rfl (pl_box (by simp (decide := true) only [go_sem]; rfl) rfl) ?_) | (refine zp rfl rfl (pl_alloc (by simp only [go_sem]; rfl) rfl) ?_) | (refine zp rfl rfl (pl_store (by simp (decide := true) only [go_sem]; rfl) (by simp (decide := true) only [go_sem]; rfl) (by simp (decide := true) only [go_sem]; rfl) (by rfl) (by rfl) (by kernel_rfl) (by rfl) (by rfl)) ?_) | (refine zq rfl rfl (qi rfl rfl (by simp only [go_sem]; rfl) (by first | omega | (simp; omega)) (by kernel_rfl)) ?_) | (refine zq rfl rfl (qo rfl rfl (by simp only [go_sem]; rfl) rfl (by first | omega | (simp; omega)) (by simp only [go_sem] <;> rfl)) ?_) | (refine zq rfl rfl (qw 0 _ rfl rfl (by first | rfl | (simp only [Nat.zero_add] <;> rfl)) (by first | omega | (simp; omega)) (by simp only [go_sem] <;> rfl)) ?_) | (refine zq rfl rfl (qb (by simp only [go_sem]; rfl) (by simp only [go_sem]; rfl) (by decide) (by kernel_rfl) (by simp (decide := true) only [List.map, go_sem] <;> rfl) (by simp (decide := true) only [List.map, go_sem] <;> rfl) (by rfl)) ?_) | (refine zq rfl rfl (qn rfl rfl) ?_) | (refine zq rfl rfl (qx rfl rfl) ?_) | fail)
  refine ARun.q1 rfl rfl (ql_callC (h4) rfl (by simp (decide := true) only [go_sem] <;> rfl) (by simp (decide := true) only [go_sem, List.map]) (by simp [-List.map_take, -List.map_drop])) ?_
  simp only [encLE]
  repeat (first | (with_reducible first | apply zs | apply zN | apply z1 | apply z2 | apply z3 | apply z4 | apply z5 | apply z6 | refine z7 rfl ?_ | apply zb | apply zk | apply zr | apply ze | apply y1 | apply y2) | ((with_reducible apply zR); (refine ⟨rfl, rfl, ?_⟩; simp (decide := true) only [go_sem, List.map]; rfl)) | ((with_reducible apply zG); (simp (decide := true) only [go_sem]; rfl); (simp (decide := true) only [go_sem]; (repeat simp (decide := true) only [go_sem]); rfl)) | (refine zp rfl rfl (pl_box (by simp (decide := true) only [go_sem]; rfl) rfl) ?_) | (refine zp rfl rfl (pl_alloc (by simp only [go_sem]; rfl) rfl) ?_) | (refine zp rfl rfl (pl_store (by simp (decide := true) only [go_sem]; rfl) (by simp (decide := true) only [go_sem]; rfl) (by simp (decide := true) only [go_sem]; rfl) (by rfl) (by rfl) (by kernel_rfl) (by rfl) (by rfl)) ?_) | (refine zq rfl rfl (qi rfl rfl (by simp only [go_sem]; rfl) (by first | omega | (simp; omega)) (by kernel_rfl)) ?_) | (refine zq rfl rfl (qo rfl rfl (by simp only [go_sem]; rfl) rfl (by first | omega | (simp; omega)) (by simp only [go_sem] <;> rfl)) ?_) | (refine zq rfl rfl (qw 0 _ rfl rfl (by first | rfl | (simp only [Nat.zero_add] <;> rfl)) (by first | omega | (simp; omega)) (by simp only [go_sem] <;> rfl)) ?_) | (refine zq rfl rfl (qb (by simp only [go_sem]; rfl) (by simp only [go_sem]; rfl) (by decide) (by kernel_rfl) (by simp (decide := true) only [List.map, go_sem] <;> rfl) (by simp (decide := true) only [List.map, go_sem] <;> rfl) (by rfl)) ?_) | (refine zq rfl rfl (qn rfl rfl) ?_) | (refine zq rfl rfl (qx rfl rfl) ?_) | fail)
  refine ARun.gl rfl rfl (by simp (decide := true) only [go_sem] <;> rfl) (fun hg => ql_callC (eqInts_ok B B) rfl (by simp (decide := true) only [go_sem] <;> rfl) (by simp (decide := true) only [go_sem, List.map]) (by simp [-List.map_take, -List.map_drop])) ?_
  repeat (first | (with_reducible first | apply zs | apply zN | apply z1 | apply z2 | apply z3 | apply z4 | apply z5 | apply z6 | refine z7 rfl ?_ | apply zb | apply zk | apply zr | apply ze | apply y1 | apply y2) | ((with_reducible apply zR); (refine ⟨rfl, rfl, ?_⟩; simp (decide := true) only [go_sem, List.map]; rfl)) | ((with_reducible apply zG); (simp (decide := true) only [go_sem]; rfl); (simp (decide := true) only [go_sem]; (repeat simp (decide := true) only [go_sem]); rfl)) | (refine zp rfl rfl (pl_box (by simp (decide := true) only [go_sem]; rfl) rfl) ?_) | (refine zp rfl rfl (pl_alloc (by simp only [go_sem]; rfl) rfl) ?_) | (refine zp rfl rfl (pl_store (by simp (decide := true) only [go_sem]; rfl) (by simp (decide := true) only [go_sem]; rfl) (by simp (decide := true) only [go_sem]; rfl) (by rfl) (by rfl) (by kernel_rfl) (by rfl) (by rfl)) ?_) | (refine zq rfl rfl (qi rfl rfl (by simp only [go_sem]; rfl) (by first | omega | (simp; omega)) (by kernel_rfl)) ?_) | (refine zq rfl rfl (qo rfl rfl (by simp only [go_sem]; rfl) rfl (by first | omega | (simp; omega)) (by simp only [go_sem] <;> rfl)) ?_) | (refine zq rfl rfl (qw 0 _ rfl rfl (by first | rfl | (simp only [Nat.zero_add] <;> rfl)) (by first | omega | (simp; omega)) (by simp only [go_sem] <;> rfl)) ?_) | (refine zq rfl rfl (qb (by simp only [go_sem]; rfl) (by simp only [go_sem]; rfl) (by decide) (by kernel_rfl) (by simp (decide := true) only [List.map, go_sem] <;> rfl) (by simp (decide := true) only [List.map, go_sem] <;> rfl) (by rfl)) ?_) | (refine zq rfl rfl (qn rfl rfl) ?_) | (refine zq rfl rfl (qx rfl rfl) ?_) | fail)
  refine AWp.cond (b := _) rfl (fun hq => ?_) (fun hq => ?_)
  · simp at hq
  repeat (first | (with_reducible first | apply zs | apply zN | apply z1 | apply z2 | apply z3 | apply z4 | apply z5 | apply z6 | refine z7 rfl ?_ | apply zb | apply zk | apply zr | apply ze | apply y1 | apply y2) | ((with_reducible apply zR); (refine ⟨rfl, rfl, ?_⟩; simp (decide := true) only [go_sem, List.map]; rfl)) | ((with_reducible apply zG); (simp (decide := true) only [go_sem]; rfl); (simp (decide := true) only [go_sem]; (repeat simp (decide := true) only [go_sem]); rfl)) | (refine zp rfl rfl (pl_box (by simp (decide := true) only [go_sem]; rfl) rfl) ?_) | (refine zp rfl rfl (pl_alloc (by simp only [go_sem]; rfl) rfl) ?_) | (refine zp rfl rfl (pl_store (by simp (decide := true) only [go_sem]; rfl) (by simp (decide := true) only [go_sem]; rfl) (by simp (decide := true) only [go_sem]; rfl) (by rfl) (by rfl) (by kernel_rfl) (by rfl) (by rfl)) ?_) | (refine zq rfl rfl (qi rfl rfl (by simp only [go_sem]; rfl) (by first | omega | (simp; omega)) (by kernel_rfl)) ?_) | (refine zq rfl rfl (qo rfl rfl (by simp only [go_sem]; rfl) rfl (by first | omega | (simp; omega)) (by simp only [go_sem] <;> rfl)) ?_) | (refine zq rfl rfl (qw 0 _ rfl rfl (by first | rfl | (simp only [Nat.zero_add] <;> rfl)) (by first | omega | (simp; omega)) (by simp only [go_sem] <;> rfl)) ?_) | (refine zq rfl rfl (qb (by simp only [go_sem]; rfl) (by simp only [go_sem]; rfl) (by decide) (by kernel_rfl) (by simp (decide := true) only [List.map, go_sem] <;> rfl) (by simp (decide := true) only [List.map, go_sem] <;> rfl) (by rfl)) ?_) | (refine zq rfl rfl (qn rfl rfl) ?_) | (refine zq rfl rfl (qx rfl rfl) ?_) | fail)
  (refine AWp.only [4, 5, 7, 13] ?_; simp (decide := true) only [List.map, lk, putE, if_true, if_false, List.cons_append, List.nil_append, cut_nil, cut_cons, keys_nil, keys_cons])
  refine AWp.loopP (J := fun i : Nat => i ≤ A.length) (fun i => [(13, .int i)]) (fun i => A.length - i) 0 (Nat.zero_le _) (.env' (by simp (decide := true) only [go_sem])) ?_
  intro i hi
  repeat (first | (with_reducible first | apply zs | apply zN | apply z1 | apply z2 | apply z3 | apply z4 | apply z5 | apply z6 | refine z7 rfl ?_ | apply zb | apply zk | apply zr | apply ze | apply y1 | apply y2) | ((with_reducible apply zR); (refine ⟨rfl, rfl, ?_⟩; simp (decide := true) only [go_sem, List.map]; rfl)) | ((with_reducible apply zG); (simp (decide := true) only [go_sem]; rfl); (simp (decide := true) only [go_sem]; (repeat simp (decide := true) only [go_sem]); rfl)) | (refine zp rfl rfl (pl_box (by simp (decide := true) only [go_sem]; rfl) rfl) ?_) | (refine zp rfl rfl (pl_alloc (by simp only [go_sem]; rfl) rfl) ?_) | (refine zp rfl rfl (pl_store (by simp (decide := true) only [go_sem]; rfl) (by simp (decide := true) only [go_sem]; rfl) (by simp (decide := true) only [go_sem]; rfl) (by rfl) (by rfl) (by kernel_rfl) (by rfl) (by rfl)) ?_) | (refine zq rfl rfl (qi rfl rfl (by simp only [go_sem]; rfl) (by first | omega | (simp; omega)) (by kernel_rfl)) ?_) | (refine zq rfl rfl (qo rfl rfl (by simp only [go_sem]; rfl) rfl (by first | omega | (simp; omega)) (by simp only [go_sem] <;> rfl)) ?_) | (refine zq rfl rfl (qw 0 _ rfl rfl (by first | rfl | (simp only [Nat.zero_add] <;> rfl)) (by first | omega | (simp; omega)) (by simp only [go_sem] <;> rfl)) ?_) | (refine zq rfl rfl (qb (by simp only [go_sem]; rfl) (by simp only [go_sem]; rfl) (by decide) (by kernel_rfl) (by simp (decide := true) only [List.map, go_sem] <;> rfl) (by simp (decide := true) only [List.map, go_sem] <;> rfl) (by rfl)) ?_) | (refine zq rfl rfl (qn rfl rfl) ?_) | (refine zq rfl rfl (qx rfl rfl) ?_) | fail)
  refine AWp.cond (b := _) rfl (fun hd => ?_) (fun hd => ?_)
  · simp at hd
    repeat (first | (with_reducible first | apply zs | apply zN | apply z1 | apply z2 | apply z3 | apply z4 | apply z5 | apply z6 | refine z7 rfl ?_ | apply zb | apply zk | apply zr | apply ze | apply y1 | apply y2) | ((with_reducible apply zR); (refine ⟨rfl, rfl, ?_⟩; simp (decide := true) only [go_sem, List.map]; rfl)) | ((with_reducible apply zG); (simp (decide := true) only [go_sem]; rfl); (simp (decide := true) only [go_sem]; (repeat simp (decide := true) only [go_sem]); rfl)) | (refine zp rfl rfl (pl_box (by simp (decide := true) only [go_sem]; rfl) rfl) ?_) | (refine zp rfl rfl (pl_alloc (by simp only [go_sem]; rfl) rfl) ?_) | (refine zp rfl rfl (pl_store (by simp (decide := true) only [go_sem]; rfl) (by simp (decide := true) only [go_sem]; rfl) (by simp (decide := true) only [go_sem]; rfl) (by rfl) (by rfl) (by kernel_rfl) (by rfl) (by rfl)) ?_) | (refine zq rfl rfl (qi rfl rfl (by simp only [go_sem]; rfl) (by first | omega | (simp; omega)) (by kernel_rfl)) ?_) | (refine zq rfl rfl (qo rfl rfl (by simp only [go_sem]; rfl) rfl (by first | omega | (simp; omega)) (by simp only [go_sem] <;> rfl)) ?_) | (refine zq rfl rfl (qw 0 _ rfl rfl (by first | rfl | (simp only [Nat.zero_add] <;> rfl)) (by first | omega | (simp; omega)) (by simp only [go_sem] <;> rfl)) ?_) | (refine zq rfl rfl (qb (by simp only [go_sem]; rfl) (by simp only [go_sem]; rfl) (by decide) (by kernel_rfl) (by simp (decide := true) only [List.map, go_sem] <;> rfl) (by simp (decide := true) only [List.map, go_sem] <;> rfl) (by rfl)) ?_) | (refine zq rfl rfl (qn rfl rfl) ?_) | (refine zq rfl rfl (qx rfl rfl) ?_) | fail)
    ((with_reducible apply AWp.drawL (k := 10) follows); (refine ⟨rfl, rfl, by kernel_rfl, by decide, ?_, ?_⟩; (simp (decide := true) only [go_sem, List.map, List.take]; rfl); (simp (decide := true) only [go_sem, List.map, List.drop]; rfl)))
    repeat (first | (with_reducible first | apply zs | apply zN | apply z1 | apply z2 | apply z3 | apply z4 | apply z5 | apply z6 | refine z7 rfl ?_ | apply zb | apply zk | apply zr | apply ze | apply y1 | apply y2) | ((with_reducible apply zR); (refine ⟨rfl, rfl, ?_⟩; simp (decide := true) only [go_sem, List.map]; rfl)) | ((with_reducible apply zG); (simp (decide := true) only [go_sem]; rfl); (simp (decide := true) only [go_sem]; (repeat simp (decide := true) only [go_sem]); rfl)) | (refine zp rfl rfl (pl_box (by simp (decide := true) only [go_sem]; rfl) rfl) ?_) | (refine zp rfl rfl (pl_alloc (by simp only [go_sem]; rfl) rfl) ?_) | (refine zp rfl rfl (pl_store (by simp (decide := true) only [go_sem]; rfl) (by simp (decide := true) only [go_sem]; rfl) (by simp (decide := true) only [go_sem]; rfl) (by rfl) (by rfl) (by kernel_rfl) (by rfl) (by rfl)) ?_) | (refine zq rfl rfl (qi rfl rfl (by simp only [go_sem]; rfl) (by first | omega | (simp; omega)) (by kernel_rfl)) ?_) | (refine zq rfl rfl (qo rfl rfl (by simp only [go_sem]; rfl) rfl (by first | omega | (simp; omega)) (by simp only [go_sem] <;> rfl)) ?_) | (refine zq rfl rfl (qw 0 _ rfl rfl (by first | rfl | (simp only [Nat.zero_add] <;> rfl)) (by first | omega | (simp; omega)) (by simp only [go_sem] <;> rfl)) ?_) | (refine zq rfl rfl (qb (by simp only [go_sem]; rfl) (by simp only [go_sem]; rfl) (by decide) (by kernel_rfl) (by simp (decide := true) only [List.map, go_sem] <;> rfl) (by simp (decide := true) only [List.map, go_sem] <;> rfl) (by rfl)) ?_) | (refine zq rfl rfl (qn rfl rfl) ?_) | (refine zq rfl rfl (qx rfl rfl) ?_) | fail)
    refine ARun.q1 rfl rfl (ql_callC (eqInts_ok (nth default A i) (nth default A i)) rfl (by simp (decide := true) only [go_sem] <;> rfl) (by simp (decide := true) only [go_sem, List.map] <;> rfl) (by simp)) ?_
    repeat (first | (with_reducible first | apply zs | apply zN | apply z1 | apply z2 | apply z3 | apply z4 | apply z5 | apply z6 | refine z7 rfl ?_ | apply zb | apply zk | apply zr | apply ze | apply y1 | apply y2) | ((with_reducible apply zR); (refine ⟨rfl, rfl, ?_⟩; simp (decide := true) only [go_sem, List.map]; rfl)) | ((with_reducible apply zG); (simp (decide := true) only [go_sem]; rfl); (simp (decide := true) only [go_sem]; (repeat simp (decide := true) only [go_sem]); rfl)) | (refine zp rfl rfl (pl_box (by simp (decide := true) only [go_sem]; rfl) rfl) ?_) | (refine zp rfl rfl (pl_alloc (by simp only [go_sem]; rfl) rfl) ?_) | (refine zp rfl rfl (pl_store (by simp (decide := true) only [go_sem]; rfl) (by simp (decide := true) only [go_sem]; rfl) (by simp (decide := true) only [go_sem]; rfl) (by rfl) (by rfl) (by kernel_rfl) (by rfl) (by rfl)) ?_) | (refine zq rfl rfl (qi rfl rfl (by simp only [go_sem]; rfl) (by first | omega | (simp; omega)) (by kernel_rfl)) ?_) | (refine zq rfl rfl (qo rfl rfl (by simp only [go_sem]; rfl) rfl (by first | omega | (simp; omega)) (by simp only [go_sem] <;> rfl)) ?_) | (refine zq rfl rfl (qw 0 _ rfl rfl (by first | rfl | (simp only [Nat.zero_add] <;> rfl)) (by first | omega | (simp; omega)) (by simp only [go_sem] <;> rfl)) ?_) | (refine zq rfl rfl (qb (by simp only [go_sem]; rfl) (by simp only [go_sem]; rfl) (by decide) (by kernel_rfl) (by simp (decide := true) only [List.map, go_sem] <;> rfl) (by simp (decide := true) only [List.map, go_sem] <;> rfl) (by rfl)) ?_) | (refine zq rfl rfl (qn rfl rfl) ?_) | (refine zq rfl rfl (qx rfl rfl) ?_) | fail)
    refine AWp.cond (b := _) rfl (fun hz => ?_) (fun hz => ?_)
    · simp at hz
    repeat (first | (with_reducible first | apply zs | apply zN | apply z1 | apply z2 | apply z3 | apply z4 | apply z5 | apply z6 | refine z7 rfl ?_ | apply zb | apply zk | apply zr | apply ze | apply y1 | apply y2) | ((with_reducible apply zR); (refine ⟨rfl, rfl, ?_⟩; simp (decide := true) only [go_sem, List.map]; rfl)) | ((with_reducible apply zG); (simp (decide := true) only [go_sem]; rfl); (simp (decide := true) only [go_sem]; (repeat simp (decide := true) only [go_sem]); rfl)) | (refine zp rfl rfl (pl_box (by simp (decide := true) only [go_sem]; rfl) rfl) ?_) | (refine zp rfl rfl (pl_alloc (by simp only [go_sem]; rfl) rfl) ?_) | (refine zp rfl rfl (pl_store (by simp (decide := true) only [go_sem]; rfl) (by simp (decide := true) only [go_sem]; rfl) (by simp (decide := true) only [go_sem]; rfl) (by rfl) (by rfl) (by kernel_rfl) (by rfl) (by rfl)) ?_) | (refine zq rfl rfl (qi rfl rfl (by simp only [go_sem]; rfl) (by first | omega | (simp; omega)) (by kernel_rfl)) ?_) | (refine zq rfl rfl (qo rfl rfl (by simp only [go_sem]; rfl) rfl (by first | omega | (simp; omega)) (by simp only [go_sem] <;> rfl)) ?_) | (refine zq rfl rfl (qw 0 _ rfl rfl (by first | rfl | (simp only [Nat.zero_add] <;> rfl)) (by first | omega | (simp; omega)) (by simp only [go_sem] <;> rfl)) ?_) | (refine zq rfl rfl (qb (by simp only [go_sem]; rfl) (by simp only [go_sem]; rfl) (by decide) (by kernel_rfl) (by simp (decide := true) only [List.map, go_sem] <;> rfl) (by simp (decide := true) only [List.map, go_sem] <;> rfl) (by rfl)) ?_) | (refine zq rfl rfl (qn rfl rfl) ?_) | (refine zq rfl rfl (qx rfl rfl) ?_) | fail)
    rw [wrap_succ (by omega)]
    refine ⟨i + 1, by omega, by omega, (.env' (by simp (decide := true) only [go_sem]))⟩
  simp at hd
  repeat (first | (with_reducible first | apply zs | apply zN | apply z1 | apply z2 | apply z3 | apply z4 | apply z5 | apply z6 | refine z7 rfl ?_ | apply zb | apply zk | apply zr | apply ze | apply y1 | apply y2) | ((with_reducible apply zR); (refine ⟨rfl, rfl, ?_⟩; simp (decide := true) only [go_sem, List.map]; rfl)) | ((with_reducible apply zG); (simp (decide := true) only [go_sem]; rfl); (simp (decide := true) only [go_sem]; (repeat simp (decide := true) only [go_sem]); rfl)) | (refine zp rfl rfl (pl_box (by simp (decide := true) only [go_sem]; rfl) rfl) ?_) | (refine zp rfl rfl (pl_alloc (by simp only [go_sem]; rfl) rfl) ?_) | (refine zp rfl rfl (pl_store (by simp (decide := true) only [go_sem]; rfl) (by simp (decide := true) only [go_sem]; rfl) (by simp (decide := true) only [go_sem]; rfl) (by rfl) (by rfl) (by kernel_rfl) (by rfl) (by rfl)) ?_) | (refine zq rfl rfl (qi rfl rfl (by simp only [go_sem]; rfl) (by first | omega | (simp; omega)) (by kernel_rfl)) ?_) | (refine zq rfl rfl (qo rfl rfl (by simp only [go_sem]; rfl) rfl (by first | omega | (simp; omega)) (by simp only [go_sem] <;> rfl)) ?_) | (refine zq rfl rfl (qw 0 _ rfl rfl (by first | rfl | (simp only [Nat.zero_add] <;> rfl)) (by first | omega | (simp; omega)) (by simp only [go_sem] <;> rfl)) ?_) | (refine zq rfl rfl (qb (by simp only [go_sem]; rfl) (by simp only [go_sem]; rfl) (by decide) (by kernel_rfl) (by simp (decide := true) only [List.map, go_sem] <;> rfl) (by simp (decide := true) only [List.map, go_sem] <;> rfl) (by rfl)) ?_) | (refine zq rfl rfl (qn rfl rfl) ?_) | (refine zq rfl rfl (qx rfl rfl) ?_) | fail)
  refine ARun.q1 rfl rfl (ql_callC (awake_true) rfl (by simp (decide := true) only [go_sem] <;> rfl) (by simp (decide := true) only [go_sem, List.map]) (by simp [-List.map_take, -List.map_drop])) ?_
  repeat (first | (with_reducible first | apply zs | apply zN | apply z1 | apply z2 | apply z3 | apply z4 | apply z5 | apply z6 | refine z7 rfl ?_ | apply zb | apply zk | apply zr | apply ze | apply y1 | apply y2) | ((with_reducible apply zR); (refine ⟨rfl, rfl, ?_⟩; simp (decide := true) only [go_sem, List.map]; rfl)) | ((with_reducible apply zG); (simp (decide := true) only [go_sem]; rfl); (simp (decide := true) only [go_sem]; (repeat simp (decide := true) only [go_sem]); rfl)) | (refine zp rfl rfl (pl_box (by simp (decide := true) only [go_sem]; rfl) rfl) ?_) | (refine zp rfl rfl (pl_alloc (by simp only [go_sem]; rfl) rfl) ?_) | (refine zp rfl rfl (pl_store (by simp (decide := true) only [go_sem]; rfl) (by simp (decide := true) only [go_sem]; rfl) (by simp (decide := true) only [go_sem]; rfl) (by rfl) (by rfl) (by kernel_rfl) (by rfl) (by rfl)) ?_) | (refine zq rfl rfl (qi rfl rfl (by simp only [go_sem]; rfl) (by first | omega | (simp; omega)) (by kernel_rfl)) ?_) | (refine zq rfl rfl (qo rfl rfl (by simp only [go_sem]; rfl) rfl (by first | omega | (simp; omega)) (by simp only [go_sem] <;> rfl)) ?_) | (refine zq rfl rfl (qw 0 _ rfl rfl (by first | rfl | (simp only [Nat.zero_add] <;> rfl)) (by first | omega | (simp; omega)) (by simp only [go_sem] <;> rfl)) ?_) | (refine zq rfl rfl (qb (by simp only [go_sem]; rfl) (by simp only [go_sem]; rfl) (by decide) (by kernel_rfl) (by simp (decide := true) only [List.map, go_sem] <;> rfl) (by simp (decide := true) only [List.map, go_sem] <;> rfl) (by rfl)) ?_) | (refine zq rfl rfl (qn rfl rfl) ?_) | (refine zq rfl rfl (qx rfl rfl) ?_) | fail)
  exact Ret.bool rfl (by simp)
end Go.Ab
