/- A slice that is cut to its length, and append behind it: always a new list. -/
import Derived.Test.YtdgfgadmcahnlaaDoorAbL
set_option linter.unusedSimpArgs false
set_option linter.unusedVariables false
namespace Go.Ab
open Go Go.RowKit

section
variable {P : Program} {H : List ABlk} {ρ : Operand → AV}
theorem strs_at {w : World} {O : Nat → Prop} {ι : Nat → Option Nat} {H : List ABlk} {l : List ByteArray} {v : Value} (h : VR w O ι H (.lst (l.map fun s => .base (.string s))) v) :
    (v = .slice none 0 0 ∧ l = []) ∨ ∃ a c, v = .slice (some a) l.length c ∧ ∀ j u, (l.map Value.string)[j]? = some u → w.cell? (a.add j) = some u := by
  generalize hL : l.map (fun s => AV.base (.string s)) = L at h
  cases h with
  | lnil => exact .inl ⟨rfl, List.map_eq_nil_iff.1 hL⟩
  | lst es a n cap s val hn hcap hmax hlen hspot hc hv =>
    subst hL
    simp only [List.length_map] at hn
    subst hn
    refine .inr ⟨a, cap, rfl, fun j v hj => ?_⟩
    rw [List.getElem?_map, Option.map_eq_some_iff] at hj
    obtain ⟨x, hx, rfl⟩ := hj
    have he : (l.map fun s => AV.base (.string s))[j]? = some (.base (.string x)) := by rw [List.getElem?_map, hx]; rfl
    have hm := List.mem_of_getElem? he
    have h1 := hlen _ hm
    simp [AV.cells] at h1
    subst h1
    obtain ⟨_, h2⟩ := hc j 0 _ (.base (.string x)) he rfl
    have h3 := (hv j 0 _ (.base (.string x)) he rfl).base_inv
    rw [h3] at h2
    rw [add_eq _ _ (hspot _ hm)]
    simpa using h2
theorem ql_slice_clip {t el : TypeId} {x y z : Operand} {es : List AV} {k k' : IntKind} {n : Nat} {sz : Nat} (hx : ρ x = .lst es) (ht : P.underlying t = some (.slice el)) (hy : ρ y = .base (.int k n)) (hz : ρ z = .base (.int k' n)) (hn : n ≤ es.length) (hsz : szTy P el = some sz) (hes : ∀ e ∈ es, e.cells.length = sz) :
    QL P H ρ (.slice t x none (some y) (some z)) (.clip (.lst (es.take n))) := by
  refine QL.of_run fun w0 O ι a w hs hv o ho => ?_
  have h1 := hv x (by simp [Op.operands])
  have h2 := hv y (by simp [Op.operands])
  have h3 := hv z (by simp [Op.operands])
  rw [hx] at h1
  rw [hy] at h2
  rw [hz] at h3
  have h2 := h2.base_inv
  have h3 := h3.base_inv
  generalize hX : a.eval x = X at h1
  have hb : ∀ cap : Nat, n ≤ cap → ∀ len, (Instr.sliceBounds true len cap none (some (a.eval y)) (some (a.eval z))).run P w = .ok (0, n, n) w := fun cap hc len => by
    unfold Instr.sliceBounds
    simp only [Option.map_some, Sem.run_bind, Sem.run_pure, Result.andThen_ok, h2, h3, sliceBound_run (Int.natCast_nonneg n) (show (n : Int) ≤ (cap : Int) by omega), sliceBound_run (Int.natCast_nonneg n) (show (n : Int) ≤ ((n : Nat) : Int) by omega), Int.toNat_natCast]
  cases h1 with
  | lnil =>
    have : n = 0 := by simpa using hn
    subst this
    refine ⟨.slice none 0 0, ?_, .clip _ none 0 (by simpa using VR.lnil)⟩
    simp [execOp, ho, hX, Instr.sliceAt, run_underlying ht, Instr.slice, hb 0 (by omega) 0, sizeOf_run hsz, Sem.run_bind, Sem.run_pure, Result.andThen_ok]
  | lst es ad m cap s val hm hcap hmax hlen hspot hc hvv =>
    subst hm
    have hmem : ∀ e, e ∈ es.take n → e ∈ es := fun e he => List.mem_of_mem_take he
    have hget : ∀ (i : Nat) (e : AV), (es.take n)[i]? = some e → es[i]? = some e := by
      intro i e he
      rw [List.getElem?_take] at he
      split at he
      · exact he
      · cases he
    by_cases hn0 : n = 0
    · subst hn0
      refine ⟨.slice (some ad) 0 0, ?_, .clip _ (some ad) 0 (.lst _ ad _ _ s val (by simp) (by simp) (Nat.zero_le _) (by simp) (by simp) (by simp) (by simp))⟩
      simp [execOp, ho, hX, Instr.sliceAt, run_underlying ht, Instr.slice, hb cap (by omega) es.length, sizeOf_run hsz, Sem.run_bind, Sem.run_pure, Result.andThen_ok]
    · have had : ad.add (0 * sz) = ad := by
        have hsp := hspot es[0] (List.getElem_mem (by omega))
        rw [add_eq _ _ hsp]
        cases ad; simp at hsp ⊢; exact hsp.symm
      refine ⟨.slice (some ad) n n, ?_, .clip _ (some ad) n (.lst _ ad _ _ s val (by simp; omega) (Nat.le_refl _) (by omega) (fun e he => hlen e (hmem e he)) (fun e he => hspot e (hmem e he)) (fun i j e c he hj => hc i j e c (hget i e he) hj) fun i j e c he hj => hvv i j e c (hget i e he) hj)⟩
      have hm0 : ¬ (n : Nat) = 0 := hn0
      simp [execOp, ho, hX, Instr.sliceAt, run_underlying ht, Instr.slice, hb cap (by omega) es.length, sizeOf_run hsz, Sem.run_bind, Sem.run_pure, Result.andThen_ok, hm0]
      simpa using had
theorem pl_append_clip {s x : Operand} {t el : TypeId} {bytes : Nat} {av : AV} {A B : List ByteArray} (hsv : ρ s = .clip (.lst (A.map fun s => .base (.string s)))) (hx : ρ x = av) (hl : Lend H av (.lst (B.map fun s => .base (.string s))))
    (ht : P.underlying t = some (.slice el)) (hel : elI P el 1 bytes = true) (hB : 1 ≤ B.length) (hbd : (A.length + B.length) * bytes ≤ 140737488355328) (h63 : A.length + B.length ≤ 140737488355328) :
    PL P H ρ (.call { callee := .builtin .append, args := #[s, x], argTypes := #[t, t] }) (.own H.length (A ++ B).length 0 (A ++ B).length) (H ++ [⟨el, 1, (A ++ B).map fun s => .base (.string s)⟩]) := by
  refine PL.of_run fun w0 O ι a w hs hv o ho => ?_
  have h1 := hv s; rw [hsv] at h1
  have h2 := hv x; rw [hx] at h2
  have h2 := hl _ _ _ _ _ hs h2
  obtain ⟨ι2, s2, g2, hn⟩ := hs.nil el 1
  obtain ⟨hpos, hmt⟩ : 0 < 1 ∧ el < mapTy := by obtain ⟨_, _, _, _, _, _, _, h⟩ := elI_inv hel; exact h
  have hgetH : (H ++ [(⟨el, 1, []⟩ : ABlk)])[H.length]? = some ⟨el, 1, []⟩ := by simp
  obtain ⟨i0, z, k1, k2, k3, k4, k5, k6, _⟩ := elI_inv hel
  have h48 : (A.length + B.length) ≤ maxLen := by simp only [maxLen]; omega
  obtain ⟨X, cX, hX, cells⟩ : ∃ ad c, a.eval x = .slice (some ad) B.length c ∧ ∀ j u, (B.map Value.string)[j]? = some u → w.cell? (ad.add j) = some u := by
    rcases strs_at h2 with ⟨_, h3⟩ | h3
    · rw [h3] at hB; simp at hB
    · exact h3
  -- what append gives
  obtain ⟨v', w', r1, r2, r3, r4⟩ : ∃ v' w', (Builtin.append_ #[t, t] o.type #[a.eval s, a.eval x]).run P w = .ok v' w' ∧ w'.ownsRow 0 el 1 v' (0 + (A ++ B).length) ([] ++ (A ++ B).map Value.string) ∧ w.grownBy w' none ∧ v'.ownBlock = some w.heap.size := by
    have grown : ∀ old : Nat, old < A.length + B.length →
        (w.drew.alloc (.cells ((A.map Value.string).toArray ++ (B.map Value.string).toArray ++ Builtin.zeroCells z.cells (grownCap w (A.length + B.length) old el - (A.length + B.length))) el)).ownsRow 0 el 1
          (.slice (some ⟨w.heap.size, 0, none⟩) (A.length + B.length) (grownCap w (A.length + B.length) old el)) (0 + (A ++ B).length) ([] ++ (A ++ B).map Value.string) ∧
        w.grownBy (w.drew.alloc (.cells ((A.map Value.string).toArray ++ (B.map Value.string).toArray ++ Builtin.zeroCells z.cells (grownCap w (A.length + B.length) old el - (A.length + B.length))) el)) none := by
      intro old hold
      have hge := grownCap_ge w (A.length + B.length) old el
      have hcm : grownCap w (A.length + B.length) old el ≤ maxLen := grownCap_le_maxLen w (A.length + B.length) old el h48
      rw [Nat.zero_add, List.nil_append, List.length_append]
      refine ⟨⟨by simp, .inr ⟨w.heap.size, _, _, rfl, Nat.zero_le _, heap_alloc_new w.drew _, hge, hcm, ?_, ?_⟩⟩, ⟨rfl, rfl, rfl, by simp, fun k hk _ => heap_alloc_old w.drew _ hk⟩⟩
      · simp only [Array.size_append, List.size_toArray, size_zeroCells, k5, k3, List.length_map]
        omega
      · simp only [Array.toList_append, List.append_assoc, List.map_append]
        rw [← List.append_assoc]
        exact List.take_left' (by simp)
    generalize hS : a.eval s = S at h1
    cases h1 with
    | clip av ad n h =>
      rcases strs_at h with ⟨e, hA⟩ | ⟨ad', c, e, hcs⟩
      · injection e with e1 e2 _
        subst e1; subst e2; subst hA
        have hr := run_append_nil (P := P) w t o.type el i0 z ht k1 k2 X B.length cX (B.map Value.string) (by simp [k3]) cells (by omega) (by simp only [maxLen] at h48; omega) (by rw [k4]; have hb := hbd; simp only [List.length_nil, Nat.zero_add] at hb; omega)
        have hg := grown 0 (by simp; omega)
        simp only [List.length_nil, Nat.zero_add, List.map_nil, Array.empty_append, List.nil_append] at hg
        refine ⟨_, _, by rw [hX]; exact hr, ?_, ?_, rfl⟩
        · simpa using hg.1
        · simpa using hg.2
      · injection e with e1 e2 e3
        subst e1; subst e3; subst e2
        have hr := run_append_grow (P := P) w t o.type el i0 z ht k1 k2 ad' A.length A.length (A.map Value.string) (by simp [k3]) hcs X B.length cX (B.map Value.string) (by simp [k3]) cells (by omega) (by simp only [maxLen] at h48; omega) (by rw [k4]; exact growslice_fits (by omega) hbd)
        have hg := grown A.length (by omega)
        exact ⟨_, _, by rw [hX]; exact hr, hg.1, hg.2, rfl⟩
  have hvn : (Value.slice none 0 0).ownBlock = ι2 H.length := hn.symm
  obtain ⟨ι', g3, g4, g5⟩ := s2.grow (m := 0) (es := (A ++ B).map fun s => AV.base (.string s)) (v := .slice none 0 0) (xs := []) (news := (A ++ B).map Value.string) hgetH rfl hmt (by simp; omega) (fun e he => by obtain ⟨_, _, rfl⟩ := List.mem_map.1 he; rfl) hvn (by simp) (fun i j e d he _ => by simp at he) (fun i j e d he hd => by
    rw [List.getElem?_map, Option.map_eq_some_iff] at he
    obtain ⟨y, hy, rfl⟩ := he
    cases j with
    | zero =>
      simp [AV.cells] at hd; subst hd
      exact ⟨.string y, by simp only [Nat.mul_one, Nat.add_zero]; rw [List.getElem?_map, hy]; rfl, .base _⟩
    | succ j => simp [AV.cells] at hd) (by simp) (by simpa using r2) r3 (.inr r4)
  have hset : (H ++ [(⟨el, 1, []⟩ : ABlk)]).set H.length { (⟨el, 1, []⟩ : ABlk) with es := [] ++ (A ++ B).map fun s => AV.base (.string s) } = H ++ [⟨el, 1, (A ++ B).map fun s => AV.base (.string s)⟩] := by simp
  simp only at hset
  rw [hset] at g3 g4 g5
  simp only [List.length_nil, Nat.zero_add, List.length_map] at g5
  exact ⟨v', w', ι', _, append_exec (ρ := ρ) ho r1, .inl rfl, g3, g2.trans g4, g5⟩
end
end Go.Ab
