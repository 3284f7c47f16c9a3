/- Part of the proof. -/
import Derived.Test.YtdgfgadmcahnlaaDoorTO
import Derived.Test.YtdgfgadmcahnlaaDoorAbL
set_option linter.unusedSimpArgs false
set_option linter.unusedVariables false
set_option maxHeartbeats 4000000
namespace Go.Ab
open Go Go.Ab Go.Proofs Go.Ab.Ty
attribute [local go_sem] toL_eq

/-! ### where a row of forms occurs in another one -/
noncomputable def occ (L P : List ByteArray) (i : Nat) : Bool := decide ((L.drop i).take P.length = P)
theorem occ_le {L P : List ByteArray} {i : Nat} (h : occ L P i = true) : P.length = 0 ∨ i + P.length ≤ L.length := by
  unfold occ at h
  have h := of_decide_eq_true h
  have := congrArg List.length h
  simp at this
  omega
theorem el9s : szTy Tryd.prog 9 = some 1 := by kernel_rfl
theorem forms_ok (l : List ByteArray) (hl : l.length ≤ 10000) (hs : ∀ x ∈ l, x.size ≤ 10000) : Fn Tryd.prog 84 [.lst (l.map str)] (.lst ((l.map canS).map str)) := by
  have i1 := fun x hx => canonical_ok x (hs x hx)
  refine Fn.intro' [(0, .lst (l.map str))] 1 19 Tryd.func84 (by kernel_rfl) rfl rfl rfl rfl rfl ?_
  refine goB ?_
  refine AWp.weaken (Wk.nil (E2 := [(3, .own 0 0 0 0), (6, .lst (l.map str)), (7, .int l.length), (8, .int 0)]) 9 1 (by simp [lk, Le.refl])) ?_
  refine AWp.loopH (J := fun k : Nat => k ≤ l.length) (fun k => [(3, .own 0 k 0 k), (8, .int k)]) (fun k => [⟨9, 1, ((l.take k).map canS).map str⟩]) (fun k => l.length - k) 0 (Nat.zero_le _) .wk ?_
  intro k hk
  refine goB ?_
  refine ifA (fun h => ?_) (fun h => ?_)
  · have h := of_decide_eq_true h
    have hk2 : k < l.length := by omega
    have hg : nth default l (k : Int) = l[k] := nth_eq hk2
    have i2 := i1 l[k] (List.getElem_mem hk2)
    have hx : (l.take (k + 1)).map canS = (l.take k).map canS ++ [canS l[k]] := by rw [List.take_succ_eq_append_getElem hk2, List.map_append]; rfl
    refine goB ?_
    rw [hg]
    refine goB ?_
    refine callA (i2) ?_
    refine goB ?_
    refine ARun.p1 rfl rfl (pl_append (b := 0) (tot := k) (es := [str (canS l[k])]) (by simp +decide only [go_sem] <;> rfl) (by simp +decide only [go_sem] <;> rfl) rfl (by simp; omega) Tryd.underlying25 el9d rfl rfl (by simp) (fun e he => by rw [List.mem_singleton] at he; subst he; exact ⟨rfl, rfl⟩) (by simp; omega) (by simp; omega)) ?_
    have hb2 : ((l.take k).map canS).map str ++ [str (canS l[k])] = ((l.take (k + 1)).map canS).map str := by rw [hx, List.map_append]; rfl
    rw [hb2]
    refine goB ?_
    rw [wrap_succ (by omega)]
    exact ⟨k + 1, by omega, by omega, .wk⟩
  have h := of_decide_eq_false h
  obtain rfl : k = l.length := by omega
  rw [List.take_length]
  refine goB ?_
  exact Ret.pub rfl (Pub.ownM (by decide) rfl (by simp) fun x _ => Pu_str x)
theorem slEqual_ok (a b : List ByteArray) (ha : a.length ≤ 1000000) : Fn Tryd.prog 108 [.lst (a.map str), .lst (b.map str)] (.bool (decide (a = b))) := by
  refine Fn.intro' [(0, .lst (a.map str)), (1, .lst (b.map str))] 2 26 Tryd.func108 (by kernel_rfl) rfl rfl rfl rfl rfl ?_
  refine goB ?_
  refine ifA (fun h => ?_) (fun h => ?_)
  · simp at h
    refine goB ?_
    exact Ret.bool rfl (by simp; intro e; exact h (by rw [e]))
  simp at h
  have h : a.length = b.length := by omega
  refine goB ?_
  refine AWp.loopP (J := fun k : Nat => k ≤ a.length ∧ a.take k = b.take k) (fun k => [(13, .int k), (5, .bad)]) (fun k => a.length - k) 0 ⟨Nat.zero_le _, by simp⟩ .wk ?_
  rintro k ⟨hk, he⟩
  refine goB ?_
  refine ifA (fun h2 => ?_) (fun h2 => ?_)
  · have h2 := of_decide_eq_true h2
    have hka : k < a.length := by omega
    have hkb : k < b.length := by omega
    have g1 : nth default a (k : Int) = a[k] := nth_eq hka
    have g2 : nth default b (k : Int) = b[k] := nth_eq hkb
    refine goB ?_
    refine drA (k := 9) follows (hr := ?_)
    refine goB ?_
    rw [g1, g2]
    refine ifA (fun h3 => ?_) (fun h3 => ?_)
    · simp at h3
      refine goB ?_
      exact Ret.bool rfl (by
        simp
        intro e
        subst e
        exact h3 rfl)
    simp at h3
    refine goB ?_
    rw [wrap_succ (by omega)]
    exact ⟨k + 1, ⟨by omega, by rw [List.take_succ_eq_append_getElem hka, List.take_succ_eq_append_getElem hkb, he, h3]⟩, by omega, .wk⟩
  have h2 := of_decide_eq_false h2
  obtain rfl : k = a.length := by omega
  rw [List.take_length, h, List.take_length] at he
  refine goB ?_
  exact Ret.bool rfl (by simp [he])
theorem ql_slcL {H : List ABlk} {ρ : Operand → AV} {x : Operand} {lo hi : Option Operand} {l : List ByteArray} {a b c : Nat} (hx : ρ x = .lst (l.map str)) (hlo : bnd ρ 0 lo = some a) (hhi : bnd ρ l.length hi = some b) (hab : a ≤ b) (hb : b ≤ l.length) (hc : b - a = c) :
    QL Tryd.prog H ρ (.slice 25 x lo hi none) (.lst (((l.drop a).take c).map str)) := by
  subst hc
  have := ql_slice_lst (P := Tryd.prog) (H := H) (sz := 1) hx Tryd.underlying25 hlo (by rw [List.length_map]; exact hhi) hab (by rw [List.length_map]; exact hb) el9s (fun e he => by obtain ⟨_, _, rfl⟩ := List.mem_map.1 he; rfl)
  rw [← List.map_drop, ← List.map_take] at this
  exact this
theorem occurs_ok (L P : List ByteArray) (i : Nat) (hL : L.length ≤ 10000) (hP : P.length ≤ 10000) (hi : i ≤ L.length) : Fn Tryd.prog 85 [.lst (L.map str), .lst (P.map str), .int i] (.bool (occ L P i)) := by
  have i1 := slEqual_ok ((L.drop i).take P.length) P (by simp; omega)
  have hN : occ L P i = decide ((L.drop i).take P.length = P) := rfl
  have hO := occ_le (L := L) (P := P) (i := i)
  generalize occ L P i = N at *
  refine Fn.intro' [(0, .lst (L.map str)), (1, .lst (P.map str)), (2, .int i)] 3 25 Tryd.func85 (by kernel_rfl) rfl rfl rfl rfl rfl ?_
  refine goB ?_
  have w : IntKind.i64.wrap ((i : Int) + P.length) = ((i + P.length : Nat) : Int) := by rw [wrap_id (by omega) (by omega)]; omega
  rw [w]
  refine ARun.gl (v := .lst (((L.drop i).take P.length).map str)) rfl rfl (by simp +decide only [go_sem] <;> rfl) (fun hg => by
    have hg' : i + P.length ≤ L.length := by simp [gc, allL] at hg; omega
    exact ql_slcL (a := i) (b := i + P.length) (by simp +decide only [go_sem] <;> rfl) (by simp [bnd, lk, go_sem, stripL, stripA]) (by simp [bnd, lk, go_sem, stripL, stripA]; omega) (by omega) hg' (by omega)) ?_
  refine goB ?_
  refine gcallA (i := fun hg => i1) (hr := ?_)
  refine goB ?_
  exact Ret.bool rfl (by
    rw [hN]
    by_cases h : (L.drop i).take P.length = P
    · have := hO (by rw [hN]; exact decide_eq_true h)
      have h2 : ((i + P.length : Nat) : Int) ≤ L.length := by omega
      simp [h]; omega
    · simp [h])
theorem stands_ok (l p : List ByteArray) (hl : l.length ≤ 10000) (hp : p.length ≤ 10000) (h1 : ∀ x ∈ l, x.size ≤ 3000 ∧ Vd x 0) (h2 : ∀ x ∈ p, x.size ≤ 3000 ∧ Vd x 0) : Fn Tryd.prog 90 [.lst (l.map str), .lst (p.map str)] (.bool (decide ((l.map canS).take p.length = p.map canS))) := by
  have i1 := fun x hx => refCanonical_ok x (h1 x hx).1 (h1 x hx).2
  have i2 := fun x hx => refCanonical_ok x (h2 x hx).1 (h2 x hx).2
  refine Fn.intro' [(0, .lst (l.map str)), (1, .lst (p.map str))] 2 28 Tryd.func90 (by kernel_rfl) rfl rfl rfl rfl rfl ?_
  refine goB ?_
  refine ifA (fun h => ?_) (fun h => ?_)
  · simp at h
    refine goB ?_
    exact Ret.bool rfl (by
      simp
      intro e
      have := congrArg List.length e
      simp at this; omega)
  simp at h
  refine goB ?_
  refine keA [0, 1, 5] ?_
  refine AWp.loopP (J := fun k : Nat => k ≤ p.length ∧ (l.map canS).take k = (p.map canS).take k) (fun k => [(5, .int k)]) (fun k => p.length - k) 0 ⟨Nat.zero_le _, by simp⟩ .wk ?_
  rintro k ⟨hk, he⟩
  refine goB ?_
  refine ifA (fun h3 => ?_) (fun h3 => ?_)
  · have h3 := of_decide_eq_true h3
    have hkp : k < p.length := by omega
    have hkl : k < l.length := by omega
    have g1 : nth default l (k : Int) = l[k] := nth_eq hkl
    have g2 : nth default p (k : Int) = p[k] := nth_eq hkp
    have i3 := i1 l[k] (List.getElem_mem hkl)
    have i4 := i2 p[k] (List.getElem_mem hkp)
    refine goB ?_
    refine drA (k := 11) follows (hr := ?_)
    refine goB ?_
    rw [g1]
    refine callA (i3) ?_
    refine goB ?_
    rw [g2]
    refine callA (i4) ?_
    refine goB ?_
    refine keA [0, 1, 5, 27] ?_
    have t1 : (l.map canS).take (k + 1) = (l.map canS).take k ++ [canS l[k]] := by rw [List.take_succ_eq_append_getElem (by simpa using hkl)]; simp
    have t2 : (p.map canS).take (k + 1) = (p.map canS).take k ++ [canS p[k]] := by rw [List.take_succ_eq_append_getElem (by simpa using hkp)]; simp
    refine ifA (fun h4 => ?_) (fun h4 => ?_)
    · simp at h4
      refine goB ?_
      exact Ret.bool rfl (by
        simp
        intro e
        have e2 := congrArg (List.take (k + 1)) e
        rw [List.take_take, Nat.min_eq_left (by omega), t1, t2, he] at e2
        exact h4 (by simpa using e2))
    simp at h4
    refine goB ?_
    rw [wrap_succ (by omega)]
    exact ⟨k + 1, ⟨by omega, by rw [t1, t2, he, h4]⟩, by omega, .wk⟩
  have h3 := of_decide_eq_false h3
  obtain rfl : k = p.length := by omega
  rw [List.take_of_length_le (l := p.map canS) (by simp)] at he
  refine goB ?_
  exact Ret.bool rfl (by simp [he])
end Go.Ab
set_option maxHeartbeats 4000000
namespace Go.Ab
open Go Go.Ab Go.Proofs Go.Ab.Ty

/-! ### Find -/
theorem clu_get' {s : ByteArray} {i : Nat} (h : i < (clu s).length) : ∃ a b, a < b ∧ b ≤ nch s ∧ (clu s)[i] = part s a b ∧ (mI s)[i]? = some a ∧ (mI s)[i + 1]? = some b := by
  have hl := clu_len s
  have hm : (mks s).length = (mI s).length := by rw [mks_I, List.length_map]
  have h1 : i + 1 < (mI s).length := by omega
  have e : ∀ j, (hj : j < (mI s).length) → mk s (mks s) j = pz s (mI s)[j] := fun j hj => by
    rw [mk_get (by omega)]
    simp only [mks_I, List.getElem_map]
  refine ⟨(mI s)[i], (mI s)[i + 1], ?_, (mI_B (List.getElem_mem h1)).1, ?_, List.getElem?_eq_getElem (by omega), List.getElem?_eq_getElem h1⟩
  · have : (mI s).Pairwise (· < ·) := by
      rw [mI]
      exact List.pairwise_append.2 ⟨bI_inc, List.pairwise_singleton _ _, fun a ha b hb => by rw [List.mem_singleton] at hb; subst hb; exact (bI_lt ha).1⟩
    exact List.pairwise_iff_getElem.1 this i (i + 1) (by omega) h1 (by omega)
  · rw [part, ← e i (by omega), ← e (i + 1) h1]
    simp [clu, cutB]
theorem clu_v {s : ByteArray} (hv : Vd s 0) {x : ByteArray} (hx : x ∈ clu s) : Vd x 0 ∧ x.size ≤ s.size ∧ 0 < x.size := by
  obtain ⟨i, hi, rfl⟩ := List.mem_iff_getElem.1 hx
  obtain ⟨a, b, h1, h2, h3, _⟩ := clu_get' hi
  rw [h3]
  have := part_size s a b
  have := pz_le s b
  have := pz_step h1 h2
  exact ⟨part_vd hv (Nat.le_of_lt h1) h2, by omega, by omega⟩
theorem clu_ne {s : ByteArray} : clu s = [] ↔ s.size = 0 := by
  have hl := clu_len s
  constructor
  · intro h
    rw [h] at hl
    have := mks_len s
    have h1 : (mks s).length = 1 := by simp at hl; omega
    by_cases hs : 0 < s.size
    · rw [mks, if_pos hs] at h1
      obtain ⟨r, hr⟩ := bI_head (cl := cls s) (nch s) (Nat.pos_of_ne_zero fun e => by rw [nch_0] at e; omega)
      rw [bF_bI, hr] at h1
      simp at h1
    · omega
  · intro h
    have : mks s = [0] := by rw [mks, if_neg (by omega)]
    rw [this] at hl
    exact List.eq_nil_of_length_eq_zero (by simpa using hl)
noncomputable def fo (L P : List ByteArray) : Nat → Nat → Option Nat
  | 0, _ => none
  | n + 1, i => if occ L P i then some i else fo L P n (i + 1)
noncomputable def foV (s : ByteArray) : Option Nat → Int
  | some i => (mk s (mks s) i : Nat)
  | none => -1
noncomputable def cf (s : ByteArray) : List ByteArray := (clu s).map canS
noncomputable def findR (s p : ByteArray) : Int := if errB s p = 0 then foV s (fo (cf s) (cf p) ((cf s).length + 1) 0) else 0
theorem cf_len (s : ByteArray) : (cf s).length = (mks s).length - 1 := by rw [cf, List.length_map, clu_len]
theorem occ_nil (L : List ByteArray) : occ L [] 0 = true := by simp [occ]
theorem Pu_t2n (a b : Int) : Pu (.tup [.int a, .int b]) := Pu_t2 a b
theorem find_ok (s p : ByteArray) : FnM Tryd.prog mm24 49 [str s, str p] (.tup [.int (findR s p), .int (errB s p)]) := by
  have hc := check_ok [s, p] (by simp)
  rw [errL_2] at hc
  have hc : FnM Tryd.prog mm24 68 [.lst ([s, p].map str)] (.int (errB s p)) := hc
  have hN : findR s p = if errB s p = 0 then foV s (fo (cf s) (cf p) ((cf s).length + 1) 0) else 0 := rfl
  have he := errB_v (a := s) (b := p)
  have c1 := fun h => clusters_ok s h
  have c2 := fun h => clusters_ok p h
  have f1 := fun h h2 => forms_ok (clu s) h h2
  have f2 := fun h h2 => forms_ok (clu p) h h2
  have b1 := fun h => boundaries_ok s h
  have v1 := fun hv => @clu_v s hv
  have v2 := fun hv => @clu_v p hv
  have n1 := cf_len s
  have n2 := cf_len p
  have m1 := mks_len s
  have m2 := mks_len p
  have k1 := clu_len s
  have k2 := clu_len p
  have hbm := @bnds_mks s
  have hbn := @bnds_nil s
  have hcn := @clu_ne p
  have hcs := @clu_ne s
  have h0 := mks_first s
  have hcf : cf s = (clu s).map canS := rfl
  have hcf2 : cf p = (clu p).map canS := rfl
  rw [← hcf] at f1
  rw [← hcf2] at f2
  have oc := fun i h1 h2 h3 => occurs_ok (cf s) (cf p) i h1 h2 h3
  generalize findR s p = N at *
  generalize errB s p = E at *
  refine FnM.intro' [(0, str s), (1, str p)] 2 40 Tryd.func49 (by kernel_rfl) rfl rfl rfl rfl rfl ?_
  refine goB ?_
  refine callA (hc) ?_
  refine goB ?_
  refine ifA (fun h1 => ?_) (fun h1 => ?_)
  · simp at h1
    rw [if_neg h1] at hN
    refine goB ?_
    exact Ret.data rfl (by rw [hN]; rfl) (Pu_t2 _ _)
  simp at h1
  rw [if_pos h1] at hN
  obtain ⟨⟨s1, w1⟩, s2, w2⟩ := he h1
  refine goB ?_
  have f1 := f1 (by omega) fun x hx => by have := (v1 w1 hx).2.1; omega
  have f2 := f2 (by omega) fun x hx => by have := (v2 w2 hx).2.1; omega
  have oc := fun i h3 => oc i (by omega) (by omega) h3
  refine ifA (fun h2 => ?_) (fun h2 => ?_)
  · have h2 := of_decide_eq_true h2
    have hP : cf p = [] := by rw [hcf2, hcn.2 h2]; rfl
    rw [hP, fo, if_pos (occ_nil _)] at hN
    have hN : N = 0 := by rw [hN]; show ((mk s (mks s) 0 : Nat) : Int) = 0; rw [h0]; rfl
    refine goB ?_
    exact Ret.data rfl (by rw [hN, h1]; rfl) (Pu_t2 _ _)
  have h2 := of_decide_eq_false h2
  have hPn : cf p ≠ [] := by
    rw [hcf2]
    intro e
    exact h2 (hcn.1 (List.map_eq_nil_iff.1 e))
  refine goB ?_
  refine callA ((c1 (by omega))) ?_
  refine goB ?_
  refine callA (f1) ?_
  refine goB ?_
  refine callA ((c2 (by omega))) ?_
  refine goB ?_
  refine callA (f2) ?_
  refine goB ?_
  refine callA ((b1 (by omega))) ?_
  refine goB ?_
  have hbl : (bnds s).length = if s.size = 0 then 0 else (mks s).length := by
    by_cases q : s.size = 0
    · rw [if_pos q, hbn q]; rfl
    · rw [if_neg q, hbm (by omega)]
  refine keA [7, 8, 27, 28, 29, 1000000] ?_
  refine AWp.loopP (J := fun k : Nat => k ≤ (bnds s).length ∧ N = foV s (fo (cf s) (cf p) ((cf s).length + 1 - k) k)) (fun k => [(29, .int k)]) (fun k => (bnds s).length - k) 0 ⟨Nat.zero_le _, by rw [Nat.sub_zero]; exact hN⟩ .wk ?_
  clear hN
  rintro k ⟨hk, hN⟩
  refine goB ?_
  refine ifA (fun h3 => ?_) (fun h3 => ?_)
  · have h3 := of_decide_eq_true h3
    have hks : ¬ s.size = 0 := fun e => by rw [if_pos e] at hbl; omega
    rw [if_neg hks] at hbl
    have i1 := oc k (by omega)
    have hg : nth default (bnds s) (k : Int) = mk s (mks s) k := by rw [hbm (by omega)]; rfl
    rw [show (cf s).length + 1 - k = ((cf s).length + 1 - (k + 1)) + 1 by omega, fo] at hN
    refine goB ?_
    rw [hg]
    refine goB ?_
    refine callA (i1) ?_
    refine goB ?_
    refine keA [7, 8, 9, 10, 27, 28, 29, 37, 1000000] ?_
    refine ifA (fun h4 => ?_) (fun h4 => ?_)
    · rw [if_pos h4] at hN
      refine goB ?_
      exact Ret.data rfl (by rw [hN, h1]; rfl) (Pu_t2 _ _)
    rw [if_neg (by rw [h4]; decide)] at hN
    refine goB ?_
    rw [wrap_succ (by omega)]
    exact ⟨k + 1, ⟨by omega, hN⟩, by omega, .wk⟩
  have h3 := of_decide_eq_false h3
  obtain rfl : k = (bnds s).length := by omega
  have hN : N = -1 := by
    by_cases q : s.size = 0
    · rw [if_pos q] at hbl
      have hS : cf s = [] := by rw [hcf, hcs.2 q]; rfl
      rw [hbl, hS] at hN
      have : occ [] (cf p) 0 = false := by
        unfold occ
        rw [decide_eq_false_iff_not]
        simp
        exact fun e => hPn e
      rw [hN]
      show foV s (fo [] (cf p) 1 0) = -1
      rw [fo, this]; rfl
    · rw [if_neg q] at hbl
      rw [show (cf s).length + 1 - (bnds s).length = 0 by omega] at hN
      exact hN
  refine goB ?_
  exact Ret.data rfl (by rw [hN, h1]; rfl) (Pu_t2 _ _)
theorem cat_sum_lt {s : ByteArray} {k : Nat} (hk : k < (clu s).length) : mk s (mks s) k + ((clu s)[k]).size = mk s (mks s) (k + 1) := by
  have hl := clu_len s
  have ho := mk_ord s (i := k) (by omega)
  have : (clu s)[k] = s.extract (mk s (mks s) k) (mk s (mks s) (k + 1)) := by simp [clu, cutB]
  rw [this, ByteArray.size_extract]; omega
theorem refFind_ok (s p : ByteArray) : Fn Tryd.prog 55 [str s, str p] (.tup [.int (findR s p), .int (errB s p)]) := by
  have hc := both_ok s p
  have hN : findR s p = if errB s p = 0 then foV s (fo (cf s) (cf p) ((cf s).length + 1) 0) else 0 := rfl
  have he := errB_v (a := s) (b := p)
  have c1 := fun h h2 => refClusters_ok s h h2
  have c2 := fun h h2 => refClusters_ok p h h2
  have v1 := fun hv => @clu_v s hv
  have v2 := fun hv => @clu_v p hv
  have m1 := mks_len s
  have m2 := mks_len p
  have k1 := clu_len s
  have k2 := clu_len p
  have h0 := mks_first s
  have cs := fun k h => @cat_sum_lt s k h
  have ml := fun k h => mk_ord s (i := k) h
  have st' := fun (l : List ByteArray) a b c d => stands_ok l (clu p) a b c d
  have hcl : (cf s).length = (clu s).length := by rw [cf, List.length_map]
  have ho : ∀ k, occ (cf s) (cf p) k = decide ((((clu s).drop k).map canS).take (clu p).length = (clu p).map canS) := fun k => by
    simp only [occ, cf, List.length_map, List.map_drop]
  generalize findR s p = N at *
  generalize errB s p = E at *
  refine Fn.intro' [(0, str s), (1, str p)] 2 44 Tryd.func55 (by kernel_rfl) rfl rfl rfl rfl rfl ?_
  refine goB ?_
  refine callA (hc) ?_
  refine goB ?_
  refine ifA (fun h1 => ?_) (fun h1 => ?_)
  · simp at h1
    rw [if_neg h1] at hN
    refine goB ?_
    exact Ret.data rfl (by rw [hN]; rfl) (Pu_t2 _ _)
  simp at h1
  rw [if_pos h1] at hN
  obtain ⟨⟨s1, w1⟩, s2, w2⟩ := he h1
  have st' := fun (l : List ByteArray) a c => st' l a (by omega) c fun x hx => ⟨by have := (v2 w2 hx).2.1; omega, (v2 w2 hx).1⟩
  refine goB ?_
  refine callA ((c1 (by omega) w1)) ?_
  refine goB ?_
  refine callA ((c2 (by omega) w2)) ?_
  refine goB ?_
  refine keA [7, 8, 9, 10] ?_
  refine AWp.loopP (J := fun k : Nat => k ≤ (clu s).length + 1 ∧ N = foV s (fo (cf s) (cf p) ((cf s).length + 1 - k) k)) (fun k => [(9, .int (mk s (mks s) (min k (clu s).length) : Nat)), (10, .int k)]) (fun k => (clu s).length + 1 - k) 0 ⟨Nat.zero_le _, by rw [Nat.sub_zero]; exact hN⟩ (by rw [Nat.zero_min, h0]; exact .wk) ?_
  clear hN
  rintro k ⟨hk, hN⟩
  refine goB ?_
  refine ifA (fun h3 => ?_) (fun h3 => ?_)
  · have h3 := of_decide_eq_true h3
    have hkl : k ≤ (clu s).length := by omega
    have i1 := st' ((clu s).drop k) (by rw [List.length_drop]; omega) fun x hx => ⟨by have := (v1 w1 (List.mem_of_mem_drop hx)).2.1; omega, (v1 w1 (List.mem_of_mem_drop hx)).1⟩
    rw [← ho] at i1
    rw [show (cf s).length + 1 - k = ((cf s).length + 1 - (k + 1)) + 1 by omega, fo] at hN
    rw [Nat.min_eq_left hkl]
    refine goB ?_
    refine ARun.q1 rfl rfl (ql_slcL (a := k) (b := (clu s).length) (c := (clu s).length - k) (by simp +decide only [go_sem] <;> rfl) (by simp [bnd, lk, go_sem]) (by simp [bnd]) (by omega) (by omega) rfl) ?_
    rw [List.take_of_length_le (by rw [List.length_drop]; omega)]
    refine goB ?_
    refine callA (i1) ?_
    refine goB ?_
    refine keA [7, 8, 9, 10, 31] ?_
    refine ifA (fun h4 => ?_) (fun h4 => ?_)
    · rw [if_pos h4] at hN
      refine goB ?_
      exact Ret.data rfl (by rw [hN, h1]; rfl) (Pu_t2 _ _)
    rw [if_neg (by rw [h4]; decide)] at hN
    refine goB ?_
    refine keA [7, 8, 9, 10, 36] ?_
    refine ifA (fun h5 => ?_) (fun h5 => ?_)
    · have h5 := of_decide_eq_true h5
      have hkl2 : k < (clu s).length := by omega
      have hg : nth default (clu s) (k : Int) = (clu s)[k] := nth_eq hkl2
      have hcs := cs k hkl2
      have hml := ml k (by omega)
      refine goB ?_
      rw [hg]
      refine goB ?_
      rw [wrap_succ (by omega), wrap_id (by omega) (by omega), show ((mk s (mks s) k : Nat) : Int) + ((clu s)[k]).size = ((mk s (mks s) (k + 1) : Nat) : Int) by omega]
      exact ⟨k + 1, ⟨by omega, hN⟩, by omega, by rw [Nat.min_eq_left (by omega)]; exact .wk⟩
    have h5 := of_decide_eq_false h5
    refine goB ?_
    rw [wrap_succ (by omega)]
    exact ⟨k + 1, ⟨by omega, hN⟩, by omega, by rw [show min (k + 1) (clu s).length = k by omega]; exact .wk⟩
  have h3 := of_decide_eq_false h3
  obtain rfl : k = (clu s).length + 1 := by omega
  rw [show (cf s).length + 1 - ((clu s).length + 1) = 0 by omega] at hN
  refine goB ?_
  exact Ret.data rfl (by rw [hN, h1]; rfl) (Pu_t2 _ _)
theorem finds_law (s p : ByteArray) : FnM Tryd.prog mm24 13 [str s, str p] (.bool true) := by
  have i0 := long_ok s
  have i1 := long_ok p
  have i2 := awake_ok
  have i3 := find_ok s p
  have i4 := refFind_ok s p
  generalize findR s p = R at *
  generalize errB s p = E at *
  refine FnM.intro' [(0, str s), (1, str p)] 2 39 Tryd.func13 (by kernel_rfl) rfl rfl rfl rfl rfl ?_
  refine goB ?_
  refine callA (i0) ?_
  refine goB ?_
  refine gcallA (i := fun hg => i1) (hr := ?_)
  refine goB ?_
  refine ifA (fun h => ?_) (fun h => ?_)
  · refine goB ?_
    refine callA (i2) ?_
    refine goB ?_
    exact Ret.bool rfl Iff.rfl
  refine goB ?_
  refine callA (i3) ?_
  refine goB ?_
  refine callA (i4) ?_
  refine goB ?_
  refine gcallA (i := fun hg => i2) (hr := ?_)
  refine goB ?_
  exact Ret.bool rfl (by simp)
end Go.Ab
