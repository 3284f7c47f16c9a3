/- Part of the proof. -/
import Derived.Test.YthjeoagadjdilaaRG
set_option linter.unusedSimpArgs false
set_option linter.unusedVariables false
set_option maxHeartbeats 4000000
namespace Go.Ab
open Go Go.Ab Go.Proofs Go.Ab.Ty
set_option linter.unusedSimpArgs false
set_option linter.unusedVariables false

/-- the code of that number without its last step -/
def shorter (p : Tk) (n : Nat) : Tk := { p with codes := p.codes.set n { cod p.codes n with steps := (cod p.codes n).steps.take ((cod p.codes n).steps.length - 1) } }

open Classical in
theorem law_shorter (p : Tk) (n : Int) (hlaw : ∀ n : Nat, n < p.codes.length → (cod p.codes n).steps ≠ [] → acc p → acc (shorter p n)) : Fn Try.prog 5 [encT p, .int n] (.bool true) := by
  obtain ⟨b, hb⟩ := big_ok p
  refine Fn.intro' [(0, encT p), (1, .int n)] 2 64 Try.func5 (by kernel_rfl) rfl rfl rfl rfl rfl ?_
  repeat (first | (with_reducible first | apply zs | apply zN | apply z1 | apply z2 | apply z3 | apply z4 | apply z5 | apply z6 | refine z7 rfl ?_ | apply zb | apply zk | apply zr | apply ze | apply y1 | apply y2) | ((with_reducible apply zR); (refine ⟨rfl, rfl, ?_⟩; simp (decide := true) only [go_sem, List.map]; rfl)) | ((with_reducible apply zG); (simp (decide := true) only [go_sem]; rfl); (simp (decide := true) only [go_sem]; (repeat simp (decide := true) only [go_sem]); rfl)) | (refine zp rfl rfl (pl_box (by simp (decide := true) only [go_sem]; rfl) rfl) ?_) | (refine zp rfl rfl (pl_alloc (by simp only [go_sem]; rfl) rfl) ?_) | (refine zp rfl rfl (pl_store (by simp (decide := true) only [go_sem]; rfl) (by simp (decide := true) only [go_sem]; rfl) (by simp (decide := true) only [go_sem]; rfl) (by rfl) (by rfl) (by kernel_rfl) (by rfl) (by rfl)) ?_) | fail)
  refine ARun.q1 rfl rfl (ql_callC (hb) rfl (by simp (decide := true) only [go_sem] <;> rfl) (by simp (decide := true) only [go_sem, List.map]) (by simp [-List.map_take, -List.map_drop])) ?_
  repeat (first | (with_reducible first | apply zs | apply zN | apply z1 | apply z2 | apply z3 | apply z4 | apply z5 | apply z6 | refine z7 rfl ?_ | apply zb | apply zk | apply zr | apply ze | apply y1 | apply y2) | ((with_reducible apply zR); (refine ⟨rfl, rfl, ?_⟩; simp (decide := true) only [go_sem, List.map]; rfl)) | ((with_reducible apply zG); (simp (decide := true) only [go_sem]; rfl); (simp (decide := true) only [go_sem]; (repeat simp (decide := true) only [go_sem]); rfl)) | (refine zp rfl rfl (pl_box (by simp (decide := true) only [go_sem]; rfl) rfl) ?_) | (refine zp rfl rfl (pl_alloc (by simp only [go_sem]; rfl) rfl) ?_) | (refine zp rfl rfl (pl_store (by simp (decide := true) only [go_sem]; rfl) (by simp (decide := true) only [go_sem]; rfl) (by simp (decide := true) only [go_sem]; rfl) (by rfl) (by rfl) (by kernel_rfl) (by rfl) (by rfl)) ?_) | fail)
  refine ARun.gl rfl rfl (by simp (decide := true) only [go_sem] <;> rfl) (fun hg => ql_idxD (l := p.codes) (f := encC) cd0 (by simp (decide := true) only [go_sem] <;> rfl) (by simp (decide := true) only [go_sem] <;> rfl) Try.underlying22 (by simp [gc, allL] at hg; omega) (by simp [gc, allL] at hg; omega) (by kernel_rfl)) ?_
  repeat (first | (with_reducible first | apply zs | apply zN | apply z1 | apply z2 | apply z3 | apply z4 | apply z5 | apply z6 | refine z7 rfl ?_ | apply zb | apply zk | apply zr | apply ze | apply y1 | apply y2) | ((with_reducible apply zR); (refine ⟨rfl, rfl, ?_⟩; simp (decide := true) only [go_sem, List.map]; rfl)) | ((with_reducible apply zG); (simp (decide := true) only [go_sem]; rfl); (simp (decide := true) only [go_sem]; (repeat simp (decide := true) only [go_sem]); rfl)) | (refine zp rfl rfl (pl_box (by simp (decide := true) only [go_sem]; rfl) rfl) ?_) | (refine zp rfl rfl (pl_alloc (by simp only [go_sem]; rfl) rfl) ?_) | (refine zp rfl rfl (pl_store (by simp (decide := true) only [go_sem]; rfl) (by simp (decide := true) only [go_sem]; rfl) (by simp (decide := true) only [go_sem]; rfl) (by rfl) (by rfl) (by kernel_rfl) (by rfl) (by rfl)) ?_) | fail)
  refine ARun.gl rfl rfl (by simp (decide := true) only [go_sem] <;> rfl) (fun hg => ql_callC (acc_ok p) rfl (by simp (decide := true) only [go_sem] <;> rfl) (by simp (decide := true) only [go_sem, List.map]) (by simp [-List.map_take, -List.map_drop])) ?_
  repeat (first | (with_reducible first | apply zs | apply zN | apply z1 | apply z2 | apply z3 | apply z4 | apply z5 | apply z6 | refine z7 rfl ?_ | apply zb | apply zk | apply zr | apply ze | apply y1 | apply y2) | ((with_reducible apply zR); (refine ⟨rfl, rfl, ?_⟩; simp (decide := true) only [go_sem, List.map]; rfl)) | ((with_reducible apply zG); (simp (decide := true) only [go_sem]; rfl); (simp (decide := true) only [go_sem]; (repeat simp (decide := true) only [go_sem]); rfl)) | (refine zp rfl rfl (pl_box (by simp (decide := true) only [go_sem]; rfl) rfl) ?_) | (refine zp rfl rfl (pl_alloc (by simp only [go_sem]; rfl) rfl) ?_) | (refine zp rfl rfl (pl_store (by simp (decide := true) only [go_sem]; rfl) (by simp (decide := true) only [go_sem]; rfl) (by simp (decide := true) only [go_sem]; rfl) (by rfl) (by rfl) (by kernel_rfl) (by rfl) (by rfl)) ?_) | fail)
  refine AWp.cond (b := _) rfl (fun hc => ?_) (fun hc => ?_)
  · repeat (first | (with_reducible first | apply zs | apply zN | apply z1 | apply z2 | apply z3 | apply z4 | apply z5 | apply z6 | refine z7 rfl ?_ | apply zb | apply zk | apply zr | apply ze | apply y1 | apply y2) | ((with_reducible apply zR); (refine ⟨rfl, rfl, ?_⟩; simp (decide := true) only [go_sem, List.map]; rfl)) | ((with_reducible apply zG); (simp (decide := true) only [go_sem]; rfl); (simp (decide := true) only [go_sem]; (repeat simp (decide := true) only [go_sem]); rfl)) | (refine zp rfl rfl (pl_box (by simp (decide := true) only [go_sem]; rfl) rfl) ?_) | (refine zp rfl rfl (pl_alloc (by simp only [go_sem]; rfl) rfl) ?_) | (refine zp rfl rfl (pl_store (by simp (decide := true) only [go_sem]; rfl) (by simp (decide := true) only [go_sem]; rfl) (by simp (decide := true) only [go_sem]; rfl) (by rfl) (by rfl) (by kernel_rfl) (by rfl) (by rfl)) ?_) | fail)
    refine ARun.q1 rfl rfl (ql_callC (awake_true) rfl (by simp (decide := true) only [go_sem] <;> rfl) (by simp (decide := true) only [go_sem, List.map]) (by simp [-List.map_take, -List.map_drop])) ?_
    repeat (first | (with_reducible first | apply zs | apply zN | apply z1 | apply z2 | apply z3 | apply z4 | apply z5 | apply z6 | refine z7 rfl ?_ | apply zb | apply zk | apply zr | apply ze | apply y1 | apply y2) | ((with_reducible apply zR); (refine ⟨rfl, rfl, ?_⟩; simp (decide := true) only [go_sem, List.map]; rfl)) | ((with_reducible apply zG); (simp (decide := true) only [go_sem]; rfl); (simp (decide := true) only [go_sem]; (repeat simp (decide := true) only [go_sem]); rfl)) | (refine zp rfl rfl (pl_box (by simp (decide := true) only [go_sem]; rfl) rfl) ?_) | (refine zp rfl rfl (pl_alloc (by simp only [go_sem]; rfl) rfl) ?_) | (refine zp rfl rfl (pl_store (by simp (decide := true) only [go_sem]; rfl) (by simp (decide := true) only [go_sem]; rfl) (by simp (decide := true) only [go_sem]; rfl) (by rfl) (by rfl) (by kernel_rfl) (by rfl) (by rfl)) ?_) | fail)
    exact Ret.bool rfl (by simp)
  simp at hc
  repeat (first | (with_reducible first | apply zs | apply zN | apply z1 | apply z2 | apply z3 | apply z4 | apply z5 | apply z6 | refine z7 rfl ?_ | apply zb | apply zk | apply zr | apply ze | apply y1 | apply y2) | ((with_reducible apply zR); (refine ⟨rfl, rfl, ?_⟩; simp (decide := true) only [go_sem, List.map]; rfl)) | ((with_reducible apply zG); (simp (decide := true) only [go_sem]; rfl); (simp (decide := true) only [go_sem]; (repeat simp (decide := true) only [go_sem]); rfl)) | (refine zp rfl rfl (pl_box (by simp (decide := true) only [go_sem]; rfl) rfl) ?_) | (refine zp rfl rfl (pl_alloc (by simp only [go_sem]; rfl) rfl) ?_) | (refine zp rfl rfl (pl_store (by simp (decide := true) only [go_sem]; rfl) (by simp (decide := true) only [go_sem]; rfl) (by simp (decide := true) only [go_sem]; rfl) (by rfl) (by rfl) (by kernel_rfl) (by rfl) (by rfl)) ?_) | fail)
  obtain ⟨⟨⟨⟨_, h0⟩, h1⟩, hne⟩, hacc⟩ := hc
  have hc8 := hacc.1.1.2.1
  refine ARun.p1 rfl rfl (pl_append_nil (es := p.codes.map encC) (by simp (decide := true) only [go_sem] <;> rfl) (by simp (decide := true) only [go_sem] <;> rfl) Try.underlying22 el31 (fun e he => by obtain ⟨x, _, rfl⟩ := List.mem_map.1 he; exact ⟨rfl, rfl⟩) (by simp; omega) (by simp; omega)) ?_
  repeat (first | (with_reducible first | apply zs | apply zN | apply z1 | apply z2 | apply z3 | apply z4 | apply z5 | apply z6 | refine z7 rfl ?_ | apply zb | apply zk | apply zr | apply ze | apply y1 | apply y2) | ((with_reducible apply zR); (refine ⟨rfl, rfl, ?_⟩; simp (decide := true) only [go_sem, List.map]; rfl)) | ((with_reducible apply zG); (simp (decide := true) only [go_sem]; rfl); (simp (decide := true) only [go_sem]; (repeat simp (decide := true) only [go_sem]); rfl)) | (refine zp rfl rfl (pl_box (by simp (decide := true) only [go_sem]; rfl) rfl) ?_) | (refine zp rfl rfl (pl_alloc (by simp only [go_sem]; rfl) rfl) ?_) | (refine zp rfl rfl (pl_store (by simp (decide := true) only [go_sem]; rfl) (by simp (decide := true) only [go_sem]; rfl) (by simp (decide := true) only [go_sem]; rfl) (by rfl) (by rfl) (by kernel_rfl) (by rfl) (by rfl)) ?_) | fail)
  refine ARun.q1 rfl rfl (ql_indexAddr_own rfl rfl Try.underlying22 rfl (by simp) h0 (by simpa using h1) sz31) ?_
  have hget : (p.codes.map encC)[n.toNat]? = some (encC (cod p.codes n)) := by
    rw [List.getElem?_map, List.getElem?_eq_getElem (by omega)]; simp [nth_eqI (show n.toNat < p.codes.length by omega)]
  simp only [encC] at hget
  repeat (first | (with_reducible first | apply zs | apply zN | apply z1 | apply z2 | apply z3 | apply z4 | apply z5 | apply z6 | refine z7 rfl ?_ | apply zb | apply zk | apply zr | apply ze | apply y1 | apply y2) | ((with_reducible apply zR); (refine ⟨rfl, rfl, ?_⟩; simp (decide := true) only [go_sem, List.map]; rfl)) | ((with_reducible apply zG); (simp (decide := true) only [go_sem, hget]; rfl); (simp (decide := true) only [go_sem, hget]; (repeat simp (decide := true) only [go_sem, hget]); rfl)) | (refine zp rfl rfl (pl_box (by simp (decide := true) only [go_sem, hget]; rfl) rfl) ?_) | (refine zp rfl rfl (pl_alloc (by simp only [go_sem]; rfl) rfl) ?_) | (refine zp rfl rfl (pl_store (by simp (decide := true) only [go_sem, hget]; rfl) (by simp (decide := true) only [go_sem, hget]; rfl) (by simp (decide := true) only [go_sem]; rfl) (by rfl) (by rfl) (by kernel_rfl) (by rfl) (by rfl)) ?_) | fail)
  have hl20 : (cod p.codes n).steps.length ≤ 20 := by
    have := (hacc.1.2.1 n.toNat (by omega)).1.2.2.2.2
    rwa [Int.toNat_of_nonneg h0] at this
  have hpos : 0 < (cod p.codes n).steps.length := List.length_pos_iff.2 hne
  rw [wrap_id (x := ((cod p.codes n).steps.length : Int) - 1) (by omega) (by omega)]
  refine ARun.q1 rfl rfl (ql_slice_pre (l := (cod p.codes n).steps) (f := encS) (by simp (decide := true) only [go_sem] <;> rfl) (by simp (decide := true) only [go_sem] <;> rfl) Try.underlying29 (by omega) (by omega) sz34 (fun _ => rfl)) ?_
  repeat (first | (with_reducible first | apply zs | apply zN | apply z1 | apply z2 | apply z3 | apply z4 | apply z5 | apply z6 | refine z7 rfl ?_ | apply zb | apply zk | apply zr | apply ze | apply y1 | apply y2) | ((with_reducible apply zR); (refine ⟨rfl, rfl, ?_⟩; simp (decide := true) only [go_sem, List.map]; rfl)) | ((with_reducible apply zG); (simp (decide := true) only [go_sem]; rfl); (simp (decide := true) only [go_sem]; (repeat simp (decide := true) only [go_sem]); rfl)) | (refine zp rfl rfl (pl_box (by simp (decide := true) only [go_sem]; rfl) rfl) ?_) | (refine zp rfl rfl (pl_alloc (by simp only [go_sem]; rfl) rfl) ?_) | (refine zp rfl rfl (pl_store (by simp (decide := true) only [go_sem]; rfl) (by simp (decide := true) only [go_sem]; rfl) (by simp (decide := true) only [go_sem]; rfl) (by rfl) (by rfl) (by kernel_rfl) (by rfl) (by rfl)) ?_) | fail)
  refine ARun.q1 rfl rfl (ql_indexAddr_own rfl rfl Try.underlying22 rfl (by simp) h0 (by simpa using h1) sz31) ?_
  refine ARun.p1 rfl rfl (pl_store (v := encC ⟨(cod p.codes n).params, (cod p.codes n).vars, (cod p.codes n).steps.take ((cod p.codes n).steps.length - 1 : Int).toNat⟩) (e := encC (cod p.codes n)) (e' := encC ⟨(cod p.codes n).params, (cod p.codes n).vars, (cod p.codes n).steps.take ((cod p.codes n).steps.length - 1 : Int).toNat⟩) (by simp (decide := true) only [go_sem] <;> rfl) (by simp (decide := true) only [go_sem] <;> rfl) (by simp (decide := true) only [go_sem] <;> rfl) (by simp) (by simpa [encC] using hget) (by kernel_rfl) (by rfl) (by rfl)) ?_
  repeat (first | (with_reducible first | apply zs | apply zN | apply z1 | apply z2 | apply z3 | apply z4 | apply z5 | apply z6 | refine z7 rfl ?_ | apply zb | apply zk | apply zr | apply ze | apply y1 | apply y2) | ((with_reducible apply zR); (refine ⟨rfl, rfl, ?_⟩; simp (decide := true) only [go_sem, List.map]; rfl)) | ((with_reducible apply zG); (simp (decide := true) only [go_sem]; rfl); (simp (decide := true) only [go_sem]; (repeat simp (decide := true) only [go_sem]); rfl)) | (refine zp rfl rfl (pl_box (by simp (decide := true) only [go_sem]; rfl) rfl) ?_) | (refine zp rfl rfl (pl_alloc (by simp only [go_sem]; rfl) rfl) ?_) | (refine zp rfl rfl (pl_store (by simp (decide := true) only [go_sem]; rfl) (by simp (decide := true) only [go_sem]; rfl) (by simp (decide := true) only [go_sem]; rfl) (by rfl) (by rfl) (by kernel_rfl) (by rfl) (by rfl)) ?_) | fail)
  have hS : acc (shorter p n.toNat) := hlaw n.toNat (by omega) (by rw [Int.toNat_of_nonneg h0]; exact hne) hacc
  have hlm : (p.codes.map encC).set n.toNat (encC ⟨(cod p.codes n).params, (cod p.codes n).vars, (cod p.codes n).steps.take ((cod p.codes n).steps.length - 1 : Int).toNat⟩) = (shorter p n.toNat).codes.map encC := by
    rw [← List.map_set]
    simp only [shorter, Int.toNat_of_nonneg h0]
    rw [show ((cod p.codes n).steps.length - 1 : Int).toNat = (cod p.codes n).steps.length - 1 by omega]
  have hLL : ∀ (H : List ABlk) (l : List Cd), LendLL H (l.map encC) (l.map encC) := fun H l => by
    induction l with
    | nil => trivial
    | cons c l ih => exact ⟨.pu (PuB_C c _ (List.mem_singleton.2 rfl)), ih⟩
  simp only [encC] at hlm hLL
  refine ARun.q1 rfl rfl (ql_callM (args := [encT (shorter p n.toNat)]) rfl (by simp (decide := true) only [go_sem] <;> rfl) (by simp (decide := true) only [go_sem, List.map, LendL]; exact .agg' ⟨.ownL rfl (by simp) (by rw [hlm]; exact hLL _ _), .pu (Pu_mapC _), .pu (.base _), trivial⟩) (.base _) (acc_ok (shorter p n.toNat))) ?_
  repeat (first | (with_reducible first | apply zs | apply zN | apply z1 | apply z2 | apply z3 | apply z4 | apply z5 | apply z6 | refine z7 rfl ?_ | apply zb | apply zk | apply zr | apply ze | apply y1 | apply y2) | ((with_reducible apply zR); (refine ⟨rfl, rfl, ?_⟩; simp (decide := true) only [go_sem, List.map]; rfl)) | ((with_reducible apply zG); (simp (decide := true) only [go_sem]; rfl); (simp (decide := true) only [go_sem]; (repeat simp (decide := true) only [go_sem]); rfl)) | (refine zp rfl rfl (pl_box (by simp (decide := true) only [go_sem]; rfl) rfl) ?_) | (refine zp rfl rfl (pl_alloc (by simp only [go_sem]; rfl) rfl) ?_) | (refine zp rfl rfl (pl_store (by simp (decide := true) only [go_sem]; rfl) (by simp (decide := true) only [go_sem]; rfl) (by simp (decide := true) only [go_sem]; rfl) (by rfl) (by rfl) (by kernel_rfl) (by rfl) (by rfl)) ?_) | fail)
  refine ARun.gl rfl rfl (by simp (decide := true) only [go_sem] <;> rfl) (fun hg => ql_callC (awake_true) rfl (by simp (decide := true) only [go_sem] <;> rfl) (by simp (decide := true) only [go_sem, List.map]) (by simp [-List.map_take, -List.map_drop])) ?_
  repeat (first | (with_reducible first | apply zs | apply zN | apply z1 | apply z2 | apply z3 | apply z4 | apply z5 | apply z6 | refine z7 rfl ?_ | apply zb | apply zk | apply zr | apply ze | apply y1 | apply y2) | ((with_reducible apply zR); (refine ⟨rfl, rfl, ?_⟩; simp (decide := true) only [go_sem, List.map]; rfl)) | ((with_reducible apply zG); (simp (decide := true) only [go_sem]; rfl); (simp (decide := true) only [go_sem]; (repeat simp (decide := true) only [go_sem]); rfl)) | (refine zp rfl rfl (pl_box (by simp (decide := true) only [go_sem]; rfl) rfl) ?_) | (refine zp rfl rfl (pl_alloc (by simp only [go_sem]; rfl) rfl) ?_) | (refine zp rfl rfl (pl_store (by simp (decide := true) only [go_sem]; rfl) (by simp (decide := true) only [go_sem]; rfl) (by simp (decide := true) only [go_sem]; rfl) (by rfl) (by rfl) (by kernel_rfl) (by rfl) (by rfl)) ?_) | fail)
  exact Ret.bool rfl (by simp [hS])
end Go.Ab
set_option maxHeartbeats 4000000
namespace Go.Ab
open Go Go.Ab Go.Proofs Go.Ab.Ty
set_option linter.unusedSimpArgs false
set_option linter.unusedVariables false

theorem stepsF_take {l : List Stp} : ∀ {r : Rg} {i : Int} (k : Nat), stepsF r l i = none → stepsF r (l.take k) i = none := by
  induction l with
  | nil => intro r i k h; simpa using h
  | cons s l ih =>
    intro r i k h
    cases k with
    | zero => rfl
    | succ k =>
      simp only [List.take_succ_cons, stepsF] at h ⊢
      split at h
      · rename_i e; rw [if_pos e]; exact ih k h
      · cases h
theorem numsF_none {p : Tk} : ∀ {l : List Int}, (numsF p l).2.2 = 0 ↔ ∀ n ∈ l, codeF p n = none := by
  intro l
  induction l with
  | nil => simp [numsF]
  | cons n l ih =>
    simp only [numsF]
    cases h : codeF p n with
    | none => simp [h, ih]
    | some x =>
      obtain ⟨k, e⟩ := x
      have := stepsF_ne h
      simp [h, this]
theorem okStep_cong {l l' : Lk} {j : Nat} {s : Stp} (h : okStep l j s) (hv : l'.c.vars = l.c.vars) (hl : l'.p.codes.length = l.p.codes.length) (hc : ∀ k, (cod l'.p.codes k).params = (cod l.p.codes k).params)
    (hm : l'.p.methods = l.p.methods) (ha : l'.p.actors = l.p.actors) (ho : l'.own = l.own) (hmm : l'.method = l.method) (ht : l'.c.steps.take j = l.c.steps.take j) (hs : ∀ k : Int, 0 ≤ k → k < j → stp l'.c.steps k = stp l.c.steps k) : okStep l' j s := by
  unfold okStep at h ⊢
  rw [Int.toNat_natCast] at h ⊢
  simp only [hv, hl, hc, hm, ha, ho, hmm, ht]
  rcases h with h | h | h | h | ⟨h1, h2, h3, h4, ⟨h5, h6⟩, h7⟩ | h | h | h
  · exact .inl h
  · exact .inr (.inl h)
  · exact .inr (.inr (.inl h))
  · exact .inr (.inr (.inr (.inl h)))
  · exact .inr (.inr (.inr (.inr (.inl ⟨h1, h2, h3, h4, ⟨h5, by rw [hs s.n h5.1 h5.2]; exact h6⟩, h7⟩))))
  · exact .inr (.inr (.inr (.inr (.inr (.inl h)))))
  · exact .inr (.inr (.inr (.inr (.inr (.inr (.inl h))))))
  · exact .inr (.inr (.inr (.inr (.inr (.inr (.inr h))))))

theorem shorter_cod (p : Tk) {n : Nat} (hn : n < p.codes.length) (i : Int) : cod (shorter p n).codes i = if i.toNat = n then { cod p.codes n with steps := (cod p.codes n).steps.take ((cod p.codes n).steps.length - 1) } else cod p.codes i := by
  simp only [cod, nth, shorter, List.getElem?_set]
  by_cases e : i.toNat = n
  · subst e; simp [hn]
  · simp [e, Ne.symm e]
theorem shorter_okCode {p : Tk} {n : Nat} (hn : n < p.codes.length) {c c' : Cd} {own : Int} {m : Bool} (h : okCode ⟨p, c, own, m⟩) (h1 : c'.params = c.params) (h2 : c'.vars = c.vars) (h3 : ∃ k, c'.steps = c.steps.take k) : okCode ⟨shorter p n, c', own, m⟩ := by
  obtain ⟨k, hk⟩ := h3
  obtain ⟨hh, hst⟩ := h
  have hlen : c'.steps.length ≤ c.steps.length := by rw [hk, List.length_take]; omega
  refine ⟨by simp only [h1, h2] at *; omega, fun j hj => ?_⟩
  simp only at hj
  have hjk : j < k := by rw [hk, List.length_take] at hj; omega
  have hst' : ∀ i : Int, 0 ≤ i → i ≤ j → stp c'.steps i = stp c.steps i := fun i h0 hi => by
    simp only [stp, nth, hk, List.getElem?_take, show i.toNat < k by omega, if_true]
  have h5 := hst j (by simp only; omega)
  rw [show stp (Lk.mk (shorter p n) c' own m).c.steps j = stp c.steps j from hst' j (by omega) (by omega)]
  refine okStep_cong h5 h2 (by simp [shorter]) (fun i => ?_) rfl rfl rfl rfl ?_ fun i h0 hi => hst' i h0 (by omega)
  · rw [shorter_cod p hn]
    split
    · rename_i e
      simp only [cod, nth, ← e, Int.toNat_natCast]
    · rfl
  · simp only [hk, List.take_take]
    rw [Nat.min_eq_left (by omega)]
theorem shorter_acc {p : Tk} {n : Nat} (hn : n < p.codes.length) (h : acc p) : acc (shorter p n) := by
  obtain ⟨⟨hh, hc, hm⟩, hz⟩ := h
  have hlen : (shorter p n).codes.length = p.codes.length := by simp [shorter]
  refine ⟨⟨by rw [hlen]; exact hh, fun i hi => ?_, fun i hi => ?_⟩, ?_⟩
  · rw [hlen] at hi
    rw [shorter_cod p hn]
    split
    · rename_i e
      simp only [Int.toNat_natCast] at e
      subst e
      exact shorter_okCode hn (hc i hi) rfl rfl ⟨_, rfl⟩
    · exact shorter_okCode hn (hc i hi) rfl rfl ⟨_, (List.take_length ..).symm⟩
  · exact shorter_okCode hn (hm i hi) rfl rfl ⟨_, (List.take_length ..).symm⟩
  · have hnums : nums (shorter p n) = nums p := by simp [nums, shorter]
    rw [hnums]
    rw [numsF_none] at hz ⊢
    intro m hm'
    have h1 := hz m hm'
    unfold codeF codeOf at h1 ⊢
    by_cases e : m < 0
    · simp only [e, if_true] at h1 ⊢; exact h1
    · simp only [e, if_false] at h1 ⊢
      rw [shorter_cod p hn]
      split
      · rename_i e2
        have e3 : cod p.codes m = cod p.codes n := by simp only [cod, nth, e2, Int.toNat_natCast]
        rw [e3] at h1
        exact stepsF_take _ h1
      · exact h1
theorem law5 (p : Tk) (n : Int) : Fn Try.prog 5 [encT p, .int n] (.bool true) := law_shorter p n fun n hn _ h => shorter_acc hn h
end Go.Ab
