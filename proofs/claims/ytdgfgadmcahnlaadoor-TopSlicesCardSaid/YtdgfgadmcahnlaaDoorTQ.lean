/- Part of the proof. -/
import Derived.Test.YtdgfgadmcahnlaaDoorTP
import Derived.Test.YtdgfgadmcahnlaaDoorAbL
set_option linter.unusedSimpArgs false
set_option linter.unusedVariables false
set_option maxHeartbeats 4000000
namespace Go.Ab
open Go Go.Ab Go.Proofs Go.Ab.Ty

/-! ### Split -/
noncomputable def splF (W L P : List ByteArray) : Nat → Nat → Nat → List ByteArray → List ByteArray
  | 0, _, f, out => out ++ [cat (W.drop f)]
  | n + 1, i, f, out => if i < L.length then (if occ L P i then splF W L P n (i + P.length) (i + P.length) (out ++ [cat ((W.drop f).take (i - f))]) else splF W L P n (i + 1) f out) else out ++ [cat (W.drop f)]
noncomputable def splR (s p : ByteArray) : List ByteArray := if errB s p = 0 then (if p.size = 0 then [] else splF (clu s) (cf s) (cf p) ((cf s).length + 1) 0 0 []) else []
noncomputable def splE (s p : ByteArray) : Int := if errB s p = 0 then (if p.size = 0 then 4 else 0) else errB s p
theorem sum_take_le (l : List Nat) : ∀ k, (l.take k).sum ≤ l.sum := by
  induction l with
  | nil => intro k; simp
  | cons a l ih =>
    intro k
    cases k with
    | zero => simp
    | succ k => have := ih k; simp; omega
theorem sum_drop_le (l : List Nat) : ∀ k, (l.drop k).sum ≤ l.sum := by
  induction l with
  | nil => intro k; simp
  | cons a l ih =>
    intro k
    cases k with
    | zero => simp
    | succ k => have := ih k; simp; omega
theorem cat_part (l : List ByteArray) (f n : Nat) : (cat ((l.drop f).take n)).size ≤ (cat l).size := by
  rw [cat_size, cat_size, List.map_take, List.map_drop]
  exact Nat.le_trans (sum_take_le _ _) (sum_drop_le _ _)
theorem cat_drop (l : List ByteArray) (f : Nat) : (cat (l.drop f)).size ≤ (cat l).size := by
  rw [cat_size, cat_size, List.map_drop]
  exact sum_drop_le _ _
theorem Pu_t2l (l : List ByteArray) (n : Int) : Pu (.tup [.lst (l.map str), .int n]) := .tup (by simp)
theorem split_ok (s p : ByteArray) : FnM Tryd.prog mm24 62 [str s, str p] (.tup [.lst ((splR s p).map str), .int (splE s p)]) := by
  have hc := check_ok [s, p] (by simp)
  rw [errL_2] at hc
  have hc : FnM Tryd.prog mm24 68 [.lst ([s, p].map str)] (.int (errB s p)) := hc
  have hN : splR s p = if errB s p = 0 then (if p.size = 0 then [] else splF (clu s) (cf s) (cf p) ((cf s).length + 1) 0 0 []) else [] := rfl
  have hX : splE s p = if errB s p = 0 then (if p.size = 0 then 4 else 0) else errB s p := rfl
  have he := errB_v (a := s) (b := p)
  have c1 := fun h => clusters_ok s h
  have c2 := fun h => clusters_ok p h
  have f1 := fun h h2 => forms_ok (clu s) h h2
  have f2 := fun h h2 => forms_ok (clu p) h h2
  have v1 := fun hv => @clu_v s hv
  have v2 := fun hv => @clu_v p hv
  have n1 := cf_len s
  have n2 := cf_len p
  have m1 := mks_len s
  have m2 := mks_len p
  have k1 := clu_len s
  have k2 := clu_len p
  have hcn := @clu_ne p
  have hcf : cf s = (clu s).map canS := rfl
  have hcf2 : cf p = (clu p).map canS := rfl
  rw [← hcf] at f1
  rw [← hcf2] at f2
  have oc := fun i h1 h2 h3 => occurs_ok (cf s) (cf p) i h1 h2 h3
  have ol := fun i h => @occ_le (cf s) (cf p) i h
  have hsz := clu_size s
  have cp := fun f n => cat_part (clu s) f n
  have cd := fun f => cat_drop (clu s) f
  generalize splR s p = N at *
  generalize splE s p = X at *
  generalize errB s p = E at *
  refine FnM.intro' [(0, str s), (1, str p)] 2 60 Tryd.func62 (by kernel_rfl) rfl rfl rfl rfl rfl ?_
  refine goB ?_
  refine callA (hc) ?_
  refine goB ?_
  refine ifA (fun h1 => ?_) (fun h1 => ?_)
  · simp at h1
    rw [if_neg h1] at hN hX
    refine goB ?_
    exact Ret.pub rfl (by rw [hN, hX]; exact Pub.tup' ⟨Pub.nilS, Pub.pu (.base _), trivial⟩)
  simp at h1
  rw [if_pos h1] at hN hX
  obtain ⟨⟨s1, w1⟩, s2, w2⟩ := he h1
  have f1 := f1 (by omega) fun x hx => by have := (v1 w1 hx).2.1; omega
  have f2 := f2 (by omega) fun x hx => by have := (v2 w2 hx).2.1; omega
  have oc := fun i h3 => oc i (by omega) (by omega) h3
  refine goB ?_
  refine ifA (fun h2 => ?_) (fun h2 => ?_)
  · have h2 := of_decide_eq_true h2
    rw [if_pos h2] at hN hX
    refine goB ?_
    exact Ret.pub rfl (by rw [hN, hX]; exact Pub.tup' ⟨Pub.nilS, Pub.pu (.base _), trivial⟩)
  have h2 := of_decide_eq_false h2
  rw [if_neg h2] at hN hX
  have hPn : 0 < (cf p).length := by
    rw [hcf2, List.length_map]
    exact List.length_pos_iff.2 fun e => h2 (hcn.1 e)
  refine goB ?_
  refine callA ((c1 (by omega))) ?_
  refine goB ?_
  refine callA (f1) ?_
  refine goB ?_
  refine callA ((c2 (by omega))) ?_
  refine goB ?_
  refine callA (f2) ?_
  refine goB ?_
  refine keA [7, 8, 9, 10, 11, 12, 1000000] ?_
  generalize clu s = W at *
  generalize cf s = L at *
  generalize cf p = P at *
  refine AWp.weaken (Wk.nil (E2 := [(7, .lst (W.map str)), (8, .lst (L.map str)), (9, .lst (P.map str)), (10, .own 0 0 0 0), (11, .int 0), (12, .int 0), (1000000, .mem mm24)]) 9 1 (by simp [lk, Le.refl])) ?_
  have hWL : W.length = L.length := by omega
  refine AWp.loopH (X := Nat × Nat × Nat × List ByteArray) (J := fun (n, i, f, out) => L.length < i + n ∧ f ≤ i ∧ i ≤ L.length ∧ out.length ≤ i ∧ N = splF W L P n i f out) (fun (n, i, f, out) => [(10, .own 0 out.length 0 out.length), (11, .int f), (12, .int i)]) (fun (n, i, f, out) => [⟨9, 1, out.map str⟩]) (fun (n, i, f, out) => L.length - i) (L.length + 1, 0, 0, []) ⟨by omega, Nat.le_refl _, Nat.zero_le _, Nat.le_refl _, hN⟩ .wk ?_
  clear hN
  rintro ⟨n, i, f, out⟩ ⟨hn, hfi, hiL, hoi, hN⟩
  simp only at hn hfi hiL hoi hN ⊢
  have cp := cp f (i - f)
  have cd := cd f
  refine goB ?_
  refine ifA (fun h3 => ?_) (fun h3 => ?_)
  · have h3 := of_decide_eq_true h3
    have hiL2 : i < L.length := by omega
    obtain ⟨n, rfl⟩ : ∃ m, n = m + 1 := ⟨n - 1, by omega⟩
    have i1 := oc i (by omega)
    have ol := ol i
    rw [splF, if_pos hiL2] at hN
    refine goB ?_
    refine callA (i1) ?_
    refine goB ?_
    refine ifA (fun h4 => ?_) (fun h4 => ?_)
    · simp at h4
      rw [if_neg (by rw [h4]; decide)] at hN
      refine goB ?_
      rw [wrap_succ (by omega)]
      exact ⟨(n, i + 1, f, out), ⟨by simp only; omega, by simp only; omega, by simp only; omega, by simp only; omega, hN⟩, by simp only; omega, .wk⟩
    · simp at h4
      rw [if_pos h4] at hN
      have ol := ol h4
      have i2 := joinE_ok ((W.drop f).take (i - f)) (by simp; omega) (by omega)
      generalize cat ((W.drop f).take (i - f)) = C at *
      refine goB ?_
      refine ARun.q1 rfl rfl (ql_slcL (a := f) (b := i) (c := i - f) (by simp +decide only [go_sem] <;> rfl) (by simp [bnd, lk, go_sem]) (by simp [bnd, lk, go_sem]) hfi (by omega) rfl) ?_
      refine goB ?_
      refine callA (i2) ?_
      refine goB ?_
      refine ARun.p1 rfl rfl (pl_append (b := 0) (tot := out.length) (es := [str C]) (by simp +decide only [go_sem] <;> rfl) (by simp +decide only [go_sem] <;> rfl) rfl (by simp) Tryd.underlying25 el9d rfl rfl (by simp) (fun e he => by rw [List.mem_singleton] at he; subst he; exact ⟨rfl, rfl⟩) (by simp; omega) (by simp; omega)) ?_
      have hb2 : out.map str ++ [str C] = (out ++ [C]).map str := by rw [List.map_append]; rfl
      rw [hb2]
      refine goB ?_
      rw [wrap_id (by omega) (by omega), show (i : Int) + P.length = ((i + P.length : Nat) : Int) by omega, show out.length + 1 = (out ++ [C]).length by simp]
      exact ⟨(n, i + P.length, i + P.length, out ++ [C]), ⟨by simp only; omega, Nat.le_refl _, by simp only; omega, by simp; omega, hN⟩, by simp only; omega, .wk⟩
  have h3 := of_decide_eq_false h3
  have hN : N = out ++ [cat (W.drop f)] := by
    cases n with
    | zero => exact hN
    | succ n => rw [splF, if_neg (by omega)] at hN; exact hN
  have i2 := joinE_ok (W.drop f) (by simp; omega) (by omega)
  generalize cat (W.drop f) = C at *
  refine goB ?_
  refine ARun.q1 rfl rfl (ql_slcL (a := f) (b := W.length) (c := W.length - f) (by simp +decide only [go_sem] <;> rfl) (by simp [bnd, lk, go_sem]) (by simp [bnd]) (by omega) (by omega) rfl) ?_
  rw [List.take_of_length_le (by simp)]
  refine goB ?_
  refine callA (i2) ?_
  refine goB ?_
  refine ARun.p1 rfl rfl (pl_append (b := 0) (tot := out.length) (es := [str C]) (by simp +decide only [go_sem] <;> rfl) (by simp +decide only [go_sem] <;> rfl) rfl (by simp) Tryd.underlying25 el9d rfl rfl (by simp) (fun e he => by rw [List.mem_singleton] at he; subst he; exact ⟨rfl, rfl⟩) (by simp; omega) (by simp; omega)) ?_
  have hb2 : out.map str ++ [str C] = (out ++ [C]).map str := by rw [List.map_append]; rfl
  rw [hb2]
  refine goB ?_
  exact Ret.pub rfl (by rw [hN, hX]; exact Pub.tup' ⟨Pub.ownM (by decide) rfl (by simp) fun x _ => Pu_str x, Pub.pu (.base _), trivial⟩)
end Go.Ab
set_option maxHeartbeats 4000000
namespace Go.Ab
open Go Go.Ab Go.Proofs Go.Ab.Ty
attribute [local go_sem] List.length_map beq_self_eq_true

/-! ### Split of the document; the law -/
theorem cat_snocT (l : List ByteArray) (f i : Nat) (hf : f ≤ i) (hi : i < l.length) : cat ((l.drop f).take (i + 1 - f)) = cat ((l.drop f).take (i - f)) ++ l[i] := by
  have h : i - f < (l.drop f).length := by rw [List.length_drop]; omega
  rw [show i + 1 - f = (i - f) + 1 by omega, List.take_succ_eq_append_getElem h, cat_snoc]
  congr 1
  rw [List.getElem_drop]
  congr 1
  omega
theorem refSplit_ok (s p : ByteArray) : Fn Tryd.prog 63 [str s, str p] (.tup [.lst ((splR s p).map str), .int (splE s p)]) := by
  have hc := both_ok s p
  have hN : splR s p = if errB s p = 0 then (if p.size = 0 then [] else splF (clu s) (cf s) (cf p) ((cf s).length + 1) 0 0 []) else [] := rfl
  have hX : splE s p = if errB s p = 0 then (if p.size = 0 then 4 else 0) else errB s p := rfl
  have he := errB_v (a := s) (b := p)
  have c1 := fun h h2 => refClusters_ok s h h2
  have c2 := fun h h2 => refClusters_ok p h h2
  have v1 := fun hv => @clu_v s hv
  have v2 := fun hv => @clu_v p hv
  have m1 := mks_len s
  have m2 := mks_len p
  have k1 := clu_len s
  have k2 := clu_len p
  have hcn := @clu_ne p
  have st' := fun (l : List ByteArray) a b c d => stands_ok l (clu p) a b c d
  have hcl : (cf s).length = (clu s).length := by rw [cf, List.length_map]
  have hpl : (cf p).length = (clu p).length := by rw [cf, List.length_map]
  have ho : ∀ k, occ (cf s) (cf p) k = decide ((((clu s).drop k).map canS).take (clu p).length = (clu p).map canS) := fun k => by
    simp only [occ, cf, List.length_map, List.map_drop]
  have ol := fun i h => @occ_le (cf s) (cf p) i h
  have hsz := clu_size s
  have cp := fun f n => cat_part (clu s) f n
  generalize splR s p = N at *
  generalize splE s p = X at *
  generalize errB s p = E at *
  refine Fn.intro' [(0, str s), (1, str p)] 2 59 Tryd.func63 (by kernel_rfl) rfl rfl rfl rfl rfl ?_
  refine goA ?_
  refine callA (hc) ?_
  refine goA ?_
  refine ifA (fun h1 => ?_) (fun h1 => ?_)
  · simp at h1
    rw [if_neg h1] at hN hX
    refine goA ?_
    exact Ret.pub rfl (by rw [hN, hX]; exact Pub.tup' ⟨Pub.nilS, Pub.pu (.base _), trivial⟩)
  simp at h1
  rw [if_pos h1] at hN hX
  obtain ⟨⟨s1, w1⟩, s2, w2⟩ := he h1
  have st' := fun (l : List ByteArray) a c => st' l a (by omega) c fun x hx => ⟨by have := (v2 w2 hx).2.1; omega, (v2 w2 hx).1⟩
  have v1 := fun x hx => (v1 w1 (x := x) hx)
  refine goA ?_
  refine ifA (fun h2 => ?_) (fun h2 => ?_)
  · have h2 := of_decide_eq_true h2
    rw [if_pos h2] at hN hX
    refine goA ?_
    exact Ret.pub rfl (by rw [hN, hX]; exact Pub.tup' ⟨Pub.nilS, Pub.pu (.base _), trivial⟩)
  have h2 := of_decide_eq_false h2
  rw [if_neg h2] at hN hX
  have hPn : 0 < (clu p).length := List.length_pos_iff.2 fun e => h2 (hcn.1 e)
  refine goA ?_
  refine callA ((c1 (by omega) w1)) ?_
  refine goA ?_
  refine callA ((c2 (by omega) w2)) ?_
  refine goA ?_
  refine ARun.p1 rfl rfl (pl_buildSlice (by decide) Tryd.underlying25 sz9d (by kernel_rfl) (by decide) (by simp +decide only [go_sem] <;> rfl) (by simp +decide only [go_sem] <;> rfl) (by rfl)) ?_
  refine goA ?_
  refine keA [7, 8, 9, 10] ?_
  refine AWp.loopH (X := Nat × Nat × Nat × List ByteArray × List ByteArray) (J := fun (n, i, f, out, O) => (cf s).length < i + n ∧ f ≤ i ∧ i ≤ (cf s).length ∧ out.length ≤ i ∧ N = splF (clu s) (cf s) (cf p) n i f out ∧ O = out ++ [cat (((clu s).drop f).take (i - f))]) (fun (n, i, f, out, O) => [(9, .own 0 O.length 0 O.length), (10, .int i)]) (fun (n, i, f, out, O) => [⟨9, 1, O.map str⟩]) (fun (n, i, f, out, O) => (cf s).length - i) ((cf s).length + 1, 0, 0, [], [⟨#[]⟩]) ⟨by omega, Nat.le_refl _, Nat.zero_le _, Nat.le_refl _, hN, rfl⟩ .wk ?_
  clear hN
  rintro ⟨n, i, f, out, O⟩ ⟨hn, hfi, hiL, hoi, hN, hO⟩
  simp only at hn hfi hiL hoi hN hO ⊢
  have cp1 := cp f (i - f)
  have hOl : O.length = out.length + 1 := by rw [hO]; simp
  refine goA ?_
  refine ifA (fun h3 => ?_) (fun h3 => ?_)
  · have h3 := of_decide_eq_true h3
    have hiL2 : i < (cf s).length := by omega
    have hiW : i < (clu s).length := by omega
    obtain ⟨n, rfl⟩ : ∃ m, n = m + 1 := ⟨n - 1, by omega⟩
    have i1 := st' ((clu s).drop i) (by rw [List.length_drop]; omega) fun x hx => ⟨by have := (v1 x (List.mem_of_mem_drop hx)).2.1; omega, (v1 x (List.mem_of_mem_drop hx)).1⟩
    rw [← ho] at i1
    have ol := ol i
    rw [splF, if_pos hiL2] at hN
    refine goA ?_
    refine ARun.q1 rfl rfl (ql_slcL (a := i) (b := (clu s).length) (c := (clu s).length - i) (by simp +decide only [go_sem] <;> rfl) (by simp [bnd, lk, go_sem]) (by simp [bnd]) (by omega) (by omega) rfl) ?_
    rw [List.take_of_length_le (by rw [List.length_drop]; omega)]
    refine goA ?_
    refine callA (i1) ?_
    refine goA ?_
    refine keA [7, 8, 9, 10, 32] ?_
    refine ifA (fun h4 => ?_) (fun h4 => ?_)
    · rw [if_pos h4] at hN
      have ol := ol h4
      refine goA ?_
      refine bslA Tryd.underlying25 sz9d ?_
      refine goA ?_
      refine ARun.p1 rfl rfl (pl_append (b := 0) (tot := O.length) (es := [str ⟨#[]⟩]) (by simp +decide only [go_sem] <;> rfl) (by simp +decide only [go_sem] <;> rfl) rfl (by simp) Tryd.underlying25 el9d rfl rfl (by simp) (fun e he => by rw [List.mem_singleton] at he; subst he; exact ⟨rfl, rfl⟩) (by simp; omega) (by simp; omega)) ?_
      have hb2 : O.map str ++ [str ⟨#[]⟩] = (O ++ [(⟨#[]⟩ : ByteArray)]).map str := by rw [List.map_append]; rfl
      rw [hb2]
      refine goA ?_
      rw [wrap_id (by omega) (by omega), show (i : Int) + (clu p).length = ((i + (cf p).length : Nat) : Int) by omega, show O.length + 1 = (O ++ [(⟨#[]⟩ : ByteArray)]).length by simp]
      exact ⟨(n, i + (cf p).length, i + (cf p).length, out ++ [cat (((clu s).drop f).take (i - f))], O ++ [⟨#[]⟩]), ⟨by simp only; omega, Nat.le_refl _, by simp only; omega, by simp; omega, hN, by simp only; rw [hO, Nat.sub_self, List.take_zero, cat_nil]⟩, by simp only; omega, .wk⟩
    rw [if_neg (by rw [h4]; decide)] at hN
    have hg : nth default (clu s) (i : Int) = (clu s)[i] := nth_eq hiW
    have hcs := cat_snocT (clu s) f i hfi hiW
    have cp2 := cp f (i + 1 - f)
    rw [hcs, ByteArray.size_append] at cp2
    have hOv : O[O.length - 1]? = some (cat (((clu s).drop f).take (i - f))) := by rw [hO]; simp
    have hOs : O.set (O.length - 1) (cat (((clu s).drop f).take (i + 1 - f))) = out ++ [cat (((clu s).drop f).take (i + 1 - f))] := by
      rw [hO]; simp
    rw [hcs] at hOs
    refine goA ?_
    refine drA (k := 15) follows (hr := ?_)
    refine goA ?_
    rw [wrap_id (by omega) (by omega)]
    refine ARun.q1 rfl rfl (ql_indexAddr_own (n := (O.length : Int) - 1) (by simp +decide only [go_sem] <;> rfl) (by simp +decide only [go_sem] <;> rfl) Tryd.underlying25 (by rfl) (by simp) (by omega) (by omega) (by kernel_rfl)) ?_
    rw [show 0 + ((O.length : Int) - 1).toNat = O.length - 1 by omega]
    refine ARun.q1 rfl rfl (ql_loadS (b := 0) (i := O.length - 1) (by simp +decide [go_sem]) (by rfl) rfl hOv) ?_
    refine goA ?_
    refine ARun.q1 rfl rfl (ql_idxI (by simp +decide only [go_sem] <;> rfl) (by simp +decide only [go_sem] <;> rfl) Tryd.underlying25 (by omega) (by omega) (by kernel_rfl)) ?_
    refine goA ?_
    rw [hg]
    refine ARun.q1 rfl rfl (ql_addStr (a := cat (((clu s).drop f).take (i - f))) (b := (clu s)[i]) (by simp +decide only [go_sem] <;> rfl) (by simp +decide only [go_sem] <;> rfl) (by omega)) ?_
    refine goA ?_
    refine ARun.q1 rfl rfl (ql_indexAddr_own (n := (O.length : Int) - 1) (by simp +decide only [go_sem] <;> rfl) (by simp +decide only [go_sem] <;> rfl) Tryd.underlying25 (by rfl) (by simp) (by omega) (by omega) (by kernel_rfl)) ?_
    rw [show 0 + ((O.length : Int) - 1).toNat = O.length - 1 by omega]
    refine ARun.p1 rfl rfl (pl_storeS (b := 0) (tot := O.length) (cat (((clu s).drop f).take (i - f)) ++ (clu s)[i]) (i := O.length - 1) (by simp +decide [go_sem]) (by simp +decide only [go_sem] <;> rfl) (by rfl) rfl (by omega)) ?_
    simp only [List.set, hOs]
    refine goA ?_
    rw [wrap_succ (by omega), show O.length = (out ++ [cat (((clu s).drop f).take (i - f)) ++ (clu s)[i]]).length by simp [hOl]]
    exact ⟨(n, i + 1, f, out, out ++ [cat (((clu s).drop f).take (i - f)) ++ (clu s)[i]]), ⟨by simp only; omega, by simp only; omega, by simp only; omega, by simp only; omega, hN, by simp only; rw [hcs]⟩, by simp only; omega, .wk⟩
  have h3 := of_decide_eq_false h3
  have hN : N = out ++ [cat ((clu s).drop f)] := by
    cases n with
    | zero => exact hN
    | succ n => rw [splF, if_neg (by omega)] at hN; exact hN
  rw [List.take_of_length_le (by simp; omega), ← hN] at hO
  subst hO
  refine goA ?_
  exact Ret.pub rfl (by rw [hX]; exact Pub.tup' ⟨Pub.ownM (by decide) rfl rfl fun x _ => Pu_str x, Pub.pu (.base _), trivial⟩)
theorem splR_len (s p : ByteArray) : (splR s p).length ≤ 10000 := by
  have key : ∀ (W L P : List ByteArray) n i f out, (splF W L P n i f out).length ≤ out.length + n + 1 := by
    intro W L P n
    induction n with
    | zero => intro i f out; simp [splF]
    | succ n ih =>
      intro i f out
      rw [splF]
      split
      · split
        · have := ih (i + P.length) (i + P.length) (out ++ [cat ((W.drop f).take (i - f))])
          simp at this ⊢; omega
        · have := ih (i + 1) f out; omega
      · simp only [List.length_append, List.length_cons, List.length_nil]; omega
  unfold splR
  split
  · rename_i h
    split
    · simp
    · have h1 := key (clu s) (cf s) (cf p) ((cf s).length + 1) 0 0 []
      have h2 := cf_len s
      have h3 := mks_len s
      have h4 := (errB_v h).1.1
      simp at h1; omega
  · simp
theorem splits_law (s p : ByteArray) : FnM Tryd.prog mm24 17 [str s, str p] (.bool true) := by
  have i0 := long_ok s
  have i1 := long_ok p
  have i2 := awake_ok
  have i3 := split_ok s p
  have i4 := refSplit_ok s p
  have hl := splR_len s p
  have i5 := eqStrs_ok (splR s p) (splR s p) (by omega) (by omega)
  generalize splR s p = R at *
  generalize splE s p = E at *
  refine FnM.intro' [(0, str s), (1, str p)] 2 39 Tryd.func17 (by kernel_rfl) rfl rfl rfl rfl rfl ?_
  refine goA ?_
  refine callA (i0) ?_
  refine goA ?_
  refine gcallA (i := fun hg => i1) (hr := ?_)
  refine goA ?_
  refine ifA (fun h => ?_) (fun h => ?_)
  · refine goA ?_
    refine callA (i2) ?_
    refine goA ?_
    exact Ret.bool rfl Iff.rfl
  refine goA ?_
  refine callA (i3) ?_
  refine goA ?_
  refine callA (i4) ?_
  refine goA ?_
  refine gcallA (i := fun hg => i5) (hr := ?_)
  refine goA ?_
  refine gcallA (i := fun hg => i2) (hr := ?_)
  refine goA ?_
  exact Ret.bool rfl (by simp)
end Go.Ab
