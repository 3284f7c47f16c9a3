/- Part of the proof. -/
import Derived.Test.YtjfahhbobiiphaaYV
import Derived.Test.YtjfahhbobiiphaaAbP
set_option linter.unusedSimpArgs false
set_option linter.unusedVariables false
set_option maxHeartbeats 4000000
namespace Go.Ab
open Go Go.Ab Go.Proofs Go.Ab.Ty

abbrev ntA (N : Nt) : AV := .agg [.lst (N.f.map nL), .lst (N.s.map str), .lst (N.t.map AV.int)]
theorem Pu_intsI (l : List Int) : Pu (.lst (l.map AV.int)) := .lst fun e he c hc => by
  obtain ⟨x, _, rfl⟩ := List.mem_map.1 he
  simp only [AV.cells, List.mem_singleton] at hc; subst hc; exact .base _
@[simp] theorem Pu_nt (N : Nt) : Pu (.iptr (ntA N) 0) := .iptr fun c hc => by
  simp only [ntA, AV.cells, List.mem_cons, List.not_mem_nil, or_false] at hc
  rcases hc with rfl | rfl | rfl
  · exact Pu_rowsN _
  · exact .lst fun e he c hc => by
      obtain ⟨x, _, rfl⟩ := List.mem_map.1 he
      exact Pu_strs (l := N.s) x ‹_› c hc
  · exact Pu_intsI _
def cfB (c : List Bool) : Nat := (c.filter fun b => !b).length
theorem cfB_set : ∀ (c : List Bool) (q : Nat), c[q]? = some false → cfB (c.set q true) + 1 = cfB c
  | b :: c, 0, h => by
    simp at h; subst h
    simp [cfB]
  | b :: c, q + 1, h => by
    have := cfB_set c q (by simpa using h)
    unfold cfB at this ⊢
    rw [List.set_cons_succ, List.filter_cons, List.filter_cons]
    cases b <;> simp <;> omega
theorem clo_eq {N : Nt} (hN : N.In) {s c : List Bool} (hl : c.length = N.n) (h1 : ∀ i, inS s i → inS c i) (h2 : ∀ i, inS c i → inS (cloN N s) i) (h3 : Clo N c) : c = cloN N s := by
  have hfre : ∀ j i, Fre N j i → inS c j → inS c i := by
    intro j i h
    induction h with
    | refl => exact id
    | step h _ ih => exact fun hp => ih (h3 _ _ hp h)
  refine List.ext_getElem (by rw [hl, cloN_len]) fun i g1 g2 => ?_
  have hi : inS c i ↔ inS (cloN N s) i := ⟨h2 i, fun h => by
    obtain ⟨_, j, h4, h5⟩ := inS_clo.1 h
    exact hfre j i h5 (h1 j h4)⟩
  unfold inS at hi
  rw [List.getD_eq_getElem?_getD, List.getElem?_eq_getElem g1, List.getD_eq_getElem?_getD, List.getElem?_eq_getElem g2] at hi
  exact bool_iff hi
theorem inS_set {c : List Bool} {q i : Nat} (hq : q < c.length) : inS (c.set q true) i ↔ i = q ∨ inS c i := by
  unfold inS
  rw [getD_set _ _ _ _ _ hq]
  by_cases e : i = q <;> simp [e]
theorem inS_get {c : List Bool} {i : Nat} (h : i < c.length) : inS c i ↔ c[i] = true := by
  unfold inS; rw [List.getD_eq_getElem?_getD, List.getElem?_eq_getElem h]; rfl
instance : OfNat Bool 0 := ⟨false⟩
theorem close_ok (N : Nt) (hN : N.In) (hO : N.Ok) (hn : N.n ≤ 1000) (hf : ∀ r ∈ N.f, r.length ≤ 1000) (s : List Bool) (hs : s.length = N.n) : FnH Try.prog 140 [.iptr (ntA N) 0, .own 0 s.length 0 s.length] [acB s] (.own 0 (cloN N s).length 0 (cloN N s).length) [acB (cloN N s)] := by
  refine FnH.intro' [(0, .iptr (ntA N) 0), (1, .own 0 s.length 0 s.length)] 2 60 1 Try.func140 (by kernel_rfl) rfl rfl rfl rfl rfl rfl ?_
  refine goC ?_
  refine AWp.loop (X := List Bool × Bool) (J := fun p => p.1.length = N.n ∧ (∀ i, inS s i → inS p.1 i) ∧ (∀ i, inS p.1 i → inS (cloN N s) i) ∧ (p.2 = false → Clo N p.1)) (fun p => ⟨[(0, .iptr (ntA N) 0), (1, .own 0 p.1.length 0 p.1.length), (5, .bool p.2)], [acB p.1]⟩) (fun p => 2 * cfB p.1 + (if p.2 then 1 else 0)) (s, true) ⟨hs, fun i h => h, fun i h => inS_clo.2 ⟨?_, i, h, .refl i⟩, fun h => by cases h⟩ .wf ?_
  · rcases Nat.lt_or_ge i s.length with h' | h'
    · omega
    · unfold inS at h; rw [List.getD_eq_getElem?_getD, List.getElem?_eq_none h'] at h; cases h
  rintro ⟨c, ag⟩ ⟨hcl, hsub, hsup, hag⟩
  simp only at hcl hsub hsup hag ⊢
  refine goC ?_
  cases ag with
  | false =>
    refine iff_ ?_
    rw [← clo_eq hN hcl hsub hsup (hag rfl)]
    refine goC ?_
    exact RetH.of (vs := [.own 0 c.length 0 c.length]) [0] (by kernel_rfl) (by decide) (fun b hb => selG b hb) ⟨⟨_, rfl, .pu (PuB_acB c)⟩, trivial⟩ (.own (by decide))
  | true =>
    refine ift_ ?_
    refine goC ?_
    have hfn : N.f.length = N.n := hO.1
    have hnf : (N.f.map nL).length = N.n := by rw [List.length_map]; exact hfn
    refine AWp.loop (X := Nat × List Bool × Bool) (J := fun p => p.1 ≤ N.n ∧ p.2.1.length = N.n ∧ (∀ i, inS s i → inS p.2.1 i) ∧ (∀ i, inS p.2.1 i → inS (cloN N s) i) ∧ (p.2.2 = false → p.2.1 = c ∧ ∀ j, j < p.1 → inS c j → ∀ q ∈ N.F j, inS c q) ∧ (p.2.2 = true → cfB p.2.1 < cfB c))
      (fun p => ⟨[(0, .iptr (ntA N) 0), (1, .own 0 p.2.1.length 0 p.2.1.length), (5, .bool p.2.2), (6, .int p.1)], [acB p.2.1]⟩) (fun p => N.n - p.1) (0, c, false) ⟨Nat.zero_le _, hcl, hsub, hsup, fun _ => ⟨rfl, fun j h => by omega⟩, fun h => by cases h⟩ .wf ?_
    rintro ⟨i, c1, ag1⟩ ⟨hi, hcl1, hsub1, hsup1, hf1, ht1⟩
    simp only at hi hcl1 hsub1 hsup1 hf1 ht1 ⊢
    refine goC ?_
    refine ifA (fun hd => ?_) (fun hd => ?_)
    · have hd := of_decide_eq_true hd
      have hi2 : i < N.n := by omega
      refine goC ?_
      have hFi : nth default N.f (i : Int) = N.F i := by
        rw [nth_eq (by omega : i < N.f.length)]
        unfold Nt.F; rw [List.getD_eq_getElem?_getD, List.getElem?_eq_getElem (by omega)]; rfl
      have hFl : (N.F i).length ≤ 1000 := by
        rw [← hFi, nth_eq (by omega : i < N.f.length)]; exact hf _ (List.getElem_mem _)
      have hFq := hN.f i
      refine AWp.loop (X := Nat × List Bool × Bool) (J := fun p => p.1 ≤ (N.F i).length ∧ p.2.1.length = N.n ∧ (∀ i, inS s i → inS p.2.1 i) ∧ (∀ i, inS p.2.1 i → inS (cloN N s) i) ∧ (p.2.2 = false → p.2.1 = c ∧ (∀ j, j < i → inS c j → ∀ q ∈ N.F j, inS c q) ∧ (∀ q ∈ (N.F i).take p.1, inS c q)) ∧ (p.2.2 = true → cfB p.2.1 < cfB c))
        (fun p => ⟨[(0, .iptr (ntA N) 0), (1, .own 0 p.2.1.length 0 p.2.1.length), (5, .bool p.2.2), (6, .int i), (7, .int p.1)], [acB p.2.1]⟩) (fun p => (N.F i).length - p.1) (0, c1, ag1) ⟨Nat.zero_le _, hcl1, hsub1, hsup1, fun h => ⟨(hf1 h).1, (hf1 h).2, by simp⟩, ht1⟩ .wf ?_
      rintro ⟨k, c2, ag2⟩ ⟨hk, hcl2, hsub2, hsup2, hf2, ht2⟩
      simp only at hk hcl2 hsub2 hsup2 hf2 ht2 ⊢
      have hc2l : (c2.map AV.bool).length = N.n := by rw [List.length_map]; exact hcl2
      have hnc : nth 0 c2 (i : Int) = c2[i] := nth_eq (by omega)
      have hic := inS_get (c := c2) (i := i) (by omega)
      refine goD ?_
      rw [hnc]
      generalize c2[i] = bi at *
      refine gqA (h := fun hg => ql_idxI (l := N.f) (f := nL) (by simp +decide only [go_sem] <;> rfl) (by simp +decide only [go_sem] <;> rfl) Try.underlying103 (by omega) (by omega) (by kernel_rfl)) (hr := ?_)
      rw [hFi]
      refine goD ?_
      refine ifA (fun hd3 => ?_) (fun hd3 => ?_)
      · have hd3 : bi = true ∧ k < (N.F i).length := by
          cases bi with
          | false => simp at hd3
          | true => exact ⟨rfl, by simpa using hd3⟩
        obtain ⟨rfl, hk2⟩ := hd3
        have hin : inS c2 i := hic.2 rfl
        have hnq : nth default (N.F i) (k : Int) = (N.F i)[k] := nth_eq hk2
        have hqm : (N.F i)[k] ∈ N.F i := List.getElem_mem hk2
        have hqn := hFq _ hqm
        have htk := List.take_succ_eq_append_getElem hk2
        generalize (N.F i)[k] = q at *
        have hncq : nth 0 c2 (q : Int) = c2[q] := nth_eq (by omega)
        have hiq := inS_get (c := c2) (i := q) (by omega)
        have hcq : c2[q]? = some c2[q] := List.getElem?_eq_getElem (by omega)
        refine goD ?_
        rw [hFi]
        refine goD ?_
        rw [hnq]
        refine goD ?_
        rw [hncq]
        cases hb : c2[q] with
        | true =>
          rw [hb] at hiq
          refine iff_ ?_
          refine goD ?_
          rw [wrap_succ (by omega)]
          refine ⟨(k + 1, c2, ag2), ⟨hk2, hcl2, hsub2, hsup2, fun h => ?_, ht2⟩, by simp only; omega, .wf⟩
          obtain ⟨e1, e2, e3⟩ := hf2 h
          refine ⟨e1, e2, fun x hx => ?_⟩
          simp only at hx
          rw [htk, List.mem_append, List.mem_singleton] at hx
          rcases hx with hx | rfl
          · exact e3 x hx
          · rw [← e1]; exact hiq.2 rfl
        | false =>
          rw [hb] at hcq
          have hcf := cfB_set c2 q hcq
          refine ift_ ?_
          refine goD ?_
          rw [hFi]
          refine goD ?_
          rw [hnq]
          refine goD ?_
          refine ARun.p1 rfl rfl (pl_store_own (b := 0) (tot := c2.length) (i := q) (ty := 4) (sz := 1) (l := c2) (f := AV.bool) true (by simp +decide only [go_sem] <;> simp) (by simp +decide only [go_sem] <;> rfl) rfl rfl (by omega) sz4 rfl rfl) ?_
          refine goD ?_
          rw [wrap_succ (by omega)]
          have hq2 : q < c2.length := by omega
          have hinq : inS (cloN N s) q := clo_clo hN s i q (hsup2 i hin) hqm
          refine ⟨(k + 1, c2.set q true, true), ⟨hk2, by rw [List.length_set]; exact hcl2, fun x hx => (inS_set hq2).2 (.inr (hsub2 x hx)), fun x hx => ?_, fun h => (by cases h), fun _ => ?_⟩, by simp only; omega, ?_⟩
          · rcases (inS_set hq2).1 hx with rfl | hx
            · exact hinq
            · exact hsup2 x hx
          · simp only
            cases ag2 with
            | false => rw [← (hf2 rfl).1]; omega
            | true => have := ht2 rfl; omega
          · simp only [List.length_set]
            exact .wf
      · have hd3 : bi = true → k = (N.F i).length := fun h => by
          subst h
          have : ¬ ((k : Int) < ((N.F i).length : Int)) := by simpa using hd3
          omega
        refine goD ?_
        rw [wrap_succ (by omega)]
        refine ⟨(i + 1, c2, ag2), ⟨hi2, hcl2, hsub2, hsup2, fun h => ?_, ht2⟩, by simp only; omega, .wf⟩
        obtain ⟨e1, e2, e3⟩ := hf2 h
        refine ⟨e1, fun j hj hjc => ?_⟩
        simp only at hj
        rcases Nat.lt_or_ge j i with hji | hji
        · exact e2 j hji hjc
        · obtain rfl : j = i := by omega
          have hb := hic.1 (by rw [e1]; exact hjc)
          have hke := hd3 hb
          intro q hq
          refine e3 q ?_
          rw [hke, List.take_length]; exact hq
    · have hd := of_decide_eq_false hd
      obtain rfl : i = N.n := by omega
      refine goC ?_
      refine ⟨(c1, ag1), ⟨hcl1, hsub1, hsup1, fun h => ?_⟩, ?_, .wf⟩
      · obtain ⟨e1, e2⟩ := hf1 h
        simp only [e1]
        intro p q hp hq
        rcases Nat.lt_or_ge p N.n with h' | h'
        · exact e2 p h' hp q hq
        · unfold inS at hp; rw [List.getD_eq_getElem?_getD, List.getElem?_eq_none (by omega)] at hp; cases hp
      · cases ag1 with
        | false => simp [(hf1 rfl).1]
        | true => have := ht1 rfl; simp; omega
end Go.Ab
set_option maxHeartbeats 4000000
namespace Go.Ab
open Go Go.Ab Go.Proofs Go.Ab.Ty

theorem mid_get {A B : List AV} {x : AV} : (A ++ x :: B)[A.length]? = some x := by simp
theorem mid_cases {A B : List AV} {x y e e2 : AV} {i : Nat} (h1 : (A ++ x :: B)[i]? = some e) (h2 : (A ++ y :: B)[i]? = some e2) : (e = e2 ∧ (e ∈ A ∨ e ∈ B)) ∨ (e = x ∧ e2 = y) := by
  rcases Nat.lt_trichotomy i A.length with h | h | h
  · rw [List.getElem?_append_left h] at h1 h2
    rw [h1] at h2; injection h2 with h2
    exact .inl ⟨h2, .inl (List.mem_of_getElem? h1)⟩
  · subst h
    rw [mid_get] at h1 h2
    injection h1 with h1; injection h2 with h2
    exact .inr ⟨h1.symm, h2.symm⟩
  · rw [List.getElem?_append_right (by omega)] at h1 h2
    obtain ⟨k, hk⟩ : ∃ k, i - A.length = k + 1 := ⟨i - A.length - 1, by omega⟩
    rw [hk, List.getElem?_cons_succ] at h1 h2
    rw [h1] at h2; injection h2 with h2
    exact .inl ⟨h2, .inr (List.mem_of_getElem? h1)⟩
theorem BlkNil.mid {H : List ABlk} {ty sz : Nat} {A B : List AV} {x y : AV} (hA : ∀ e ∈ A, ∀ c ∈ e.cells, Pu c) (hB : ∀ e ∈ B, ∀ c ∈ e.cells, Pu c) (hx : x.cells = [x]) (hy : y.cells = [y]) (h : NilR H x y) : BlkNil H ⟨ty, sz, A ++ x :: B⟩ ⟨ty, sz, A ++ y :: B⟩ :=
  ⟨rfl, rfl, by simp, fun i e e2 h1 h2 => by
    rcases mid_cases h1 h2 with ⟨rfl, h3⟩ | ⟨rfl, rfl⟩
    · refine ⟨rfl, fun k c c2 h4 h5 => ?_⟩
      rw [h4] at h5; injection h5 with h5; subst h5
      have hc := List.mem_of_getElem? h4
      rcases h3 with h3 | h3
      · exact .pu (hA _ h3 c hc)
      · exact .pu (hB _ h3 c hc)
    · rw [hx, hy]
      refine ⟨rfl, fun k c c2 h4 h5 => ?_⟩
      cases k with
      | zero => simp at h4 h5; subst h4; subst h5; exact h
      | succ k => simp at h4⟩
theorem BlkPub.mid {r : Nat → Option Nat} {H : List ABlk} {ty sz : Nat} {A B : List AV} {x y : AV} (hA : ∀ e ∈ A, ∀ c ∈ e.cells, Pu c) (hB : ∀ e ∈ B, ∀ c ∈ e.cells, Pu c) (hx : x.cells = [x]) (hy : y.cells = [y]) (h : PubR r H x y) : BlkPub r H ⟨ty, sz, A ++ x :: B⟩ ⟨ty, sz, A ++ y :: B⟩ :=
  ⟨rfl, rfl, by simp, fun i e e2 h1 h2 => by
    rcases mid_cases h1 h2 with ⟨rfl, h3⟩ | ⟨rfl, rfl⟩
    · refine ⟨rfl, fun k c c2 h4 h5 => ?_⟩
      rw [h4] at h5; injection h5 with h5; subst h5
      have hc := List.mem_of_getElem? h4
      rcases h3 with h3 | h3
      · exact .pu (hA _ h3 c hc)
      · exact .pu (hB _ h3 c hc)
    · rw [hx, hy]
      refine ⟨rfl, fun k c c2 h4 h5 => ?_⟩
      cases k with
      | zero => simp at h4 h5; subst h4; subst h5; exact h
      | succ k => simp at h4⟩
def nxE (n : Nat) (R : List (List Nat)) : List AV := R.map nL ++ List.replicate (n - R.length) nilC
theorem nxE_len {n : Nat} {R : List (List Nat)} (h : R.length ≤ n) : (nxE n R).length = n := by simp [nxE]; omega
theorem nxE_nil {n : Nat} {R : List (List Nat)} (h : R.length < n) : nxE n R = R.map nL ++ nilC :: List.replicate (n - R.length - 1) nilC := by
  unfold nxE
  rw [show n - R.length = (n - R.length - 1) + 1 by omega, List.replicate_succ]; rfl
theorem nxE_new {n : Nat} {R : List (List Nat)} (h : R.length < n) (r : List Nat) : R.map nL ++ nL r :: List.replicate (n - R.length - 1) nilC = nxE n (R ++ [r]) := by
  unfold nxE
  rw [List.map_append, List.append_assoc, List.length_append]
  rw [show n - (R.length + [r].length) = n - R.length - 1 by simp; omega]; rfl
theorem nxE_get {n : Nat} {R : List (List Nat)} {c : Nat} (h : c < R.length) : (nxE n R)[c]? = some (nL R[c]) := by
  unfold nxE
  rw [List.getElem?_append_left (by simpa using h), List.getElem?_map, List.getElem?_eq_getElem h]; rfl
theorem nxE_all {n : Nat} {R : List (List Nat)} (h : R.length = n) : nxE n R = R.map nL := by unfold nxE; rw [h, Nat.sub_self]; simp
theorem Pu_nils (k : Nat) : ∀ e ∈ List.replicate k nilC, ∀ c ∈ e.cells, Pu c := fun e he c hc => by
  rw [(List.mem_replicate.1 he).2] at hc
  simp only [AV.cells, List.mem_singleton] at hc; subst hc; exact .base _
theorem Pu_nLs (R : List (List Nat)) : ∀ e ∈ R.map nL, ∀ c ∈ e.cells, Pu c := fun e he c hc => by
  obtain ⟨x, _, rfl⟩ := List.mem_map.1 he
  simp only [AV.cells, List.mem_singleton] at hc; subst hc; exact Pu_nL x
def edE (n : Nat) (R : List Bool) : List Bool := R ++ List.replicate (n - R.length) false
theorem edE_len {n : Nat} {R : List Bool} (h : R.length ≤ n) : (edE n R).length = n := by simp [edE]; omega
theorem edE_old {n : Nat} {R : List Bool} {c : Nat} {v : Bool} (h : R[c]? = some v) : (edE n R).set c v = edE n R := by
  obtain ⟨h1, h2⟩ := List.getElem?_eq_some_iff.1 h
  unfold edE
  rw [List.set_append_left _ _ h1]
  congr 1
  refine List.ext_getElem (by simp) fun i g1 g2 => ?_
  rw [List.getElem_set]
  split
  · rename_i e; subst e; exact h2.symm
  · rfl
theorem edE_new {n : Nat} {R : List Bool} (h : R.length < n) (v : Bool) : (edE n R).set R.length v = edE n (R ++ [v]) := by
  unfold edE
  rw [List.set_append_right _ _ (Nat.le_refl _), Nat.sub_self, show n - R.length = (n - R.length - 1) + 1 by omega, List.replicate_succ, List.set_cons_zero, List.append_assoc, List.length_append]
  rw [show n - (R.length + [v].length) = n - R.length - 1 by simp; omega]; rfl
theorem edE_all {n : Nat} {R : List Bool} (h : R.length = n) : edE n R = R := by unfold edE; rw [h, Nat.sub_self]; simp
theorem ql_ld107 {H : List ABlk} {ρ : Operand → AV} {p : Operand} {b tot i : Nat} {es : List AV} {x : AV} (hp : ρ p = .ptr b tot i 0) (hb : H[b]? = some ⟨107, 1, es⟩) (ht : es.length = tot) (he : es[i]? = some x) (hx : x.cells = [x]) : QL Try.prog H ρ (.load 107 p) x := by
  refine ql_fun1 ?_
  simp only [qfun, hp, hb, ht, he, if_true, agg107, sz107, ldE, hx, List.getElem?_cons_zero]
theorem pl_st107 {H : List ABlk} {ρ : Operand → AV} {p y : Operand} {b tot i c1 c2 c3 c4 d1 d2 d3 d4 : Nat} {A B : List AV} (hi : i = A.length) (hp : ρ p = .ptr b tot i 0) (hy : ρ y = .own d1 d2 d3 d4) (hb : H[b]? = some ⟨107, 1, A ++ .own c1 c2 c3 c4 :: B⟩) (ht : (A ++ AV.own c1 c2 c3 c4 :: B).length = tot) : PL Try.prog H ρ (.store 107 p y) .bad (H.set b ⟨107, 1, A ++ .own d1 d2 d3 d4 :: B⟩) := by
  subst hi
  have := pl_store (P := Try.prog) (H := H) (ρ := ρ) (t := 107) (x := p) (y := y) (b := b) (tot := tot) (i := A.length) (off := 0) (blk := ⟨107, 1, A ++ .own c1 c2 c3 c4 :: B⟩) (v := .own d1 d2 d3 d4) (e := .own c1 c2 c3 c4) (e' := .own d1 d2 d3 d4) hp hy hb ht mid_get sz107 rfl rfl
  simpa using this
end Go.Ab
set_option maxHeartbeats 4000000
namespace Go.Ab
open Go Go.Ab Go.Proofs Go.Ab.Ty

abbrev bxA (rows : List (List Nat)) (acs : List Bool) : ABlk := ⟨112, 2, [.agg [.lst (rows.map nL), lB acs]]⟩
abbrev clA : ABlk := ⟨112, 2, [.agg [nilC, nilC]]⟩
theorem PuB_bxA (rows : List (List Nat)) (acs : List Bool) : ∀ e ∈ (bxA rows acs).es, ∀ c ∈ e.cells, Pu c := fun e he c hc => by
  rw [List.mem_singleton] at he; subst he
  simp only [AV.cells, List.mem_cons, List.not_mem_nil, or_false] at hc
  rcases hc with rfl | rfl
  · exact Pu_rowsN rows
  · exact .lst fun e he c hc => by
      obtain ⟨x, _, rfl⟩ := List.mem_map.1 he
      exact Pu_bools acs x ‹_› c hc
theorem PuB_clA : ∀ e ∈ clA.es, ∀ c ∈ e.cells, Pu c := fun e he c hc => by
  rw [List.mem_singleton] at he; subst he
  simp only [AV.cells, List.mem_cons, List.not_mem_nil, or_false] at hc
  rcases hc with rfl | rfl <;> exact .base _
theorem PuBl_ll (rows : List (List Nat)) (acs : List Bool) : PuBl [bxA rows acs, clA] := .cons (PuB_bxA _ _) (.cons PuB_clA .nil)
theorem Pu_iN (l : List Nat) : ∀ x ∈ l, ∀ c ∈ (iN x).cells, Pu c := fun x _ c hc => by
  simp only [AV.cells, List.mem_singleton] at hc; subst hc; exact .base _
theorem acF1_at {rows : List (List Nat)} {acs : List Bool} {i c : Nat} (hl : acs.length = rows.length) (h : i < rows.length) (hc : (clF rows (cl1 acs)).getD i 0 = c) : acR acs (fsF rows (cl1 acs) c) = acR acs i := by
  have h1 := fsF_ok (hc ▸ clF_lt (cl0 := cl1 acs) h : c < cntF rows (cl1 acs))
  exact (cl1_iff (by rw [hl]; exact h1.1) (by rw [hl]; exact h)).1 (clR_fine0 h1.1 h _ (h1.2.trans hc.symm))
instance : OfNat (List Nat) 0 := ⟨[]⟩
theorem leastB_ok (rows : List (List Nat)) (acs : List Bool) (hp : 0 < rows.length) (hn : rows.length ≤ 300000000) (hal : acs.length = rows.length) (hw : ∀ r ∈ rows, 0 < r.length ∧ r.length ≤ 95) (hlt : ∀ r ∈ rows, ∀ x ∈ r, x < rows.length) :
    FnH Try.prog 143 [.agg [.lst (rows.map nL), lB acs]] [] (.agg [.lst ((lstR (rows, acs)).1.map nL), .own 0 (lstR (rows, acs)).2.length 0 (lstR (rows, acs)).2.length]) [acB (lstR (rows, acs)).2] := by
  unfold lstR
  simp only
  have hcl0l := cl1_len acs
  have hcl0g := fun i (h : i < acs.length) => cl1_get h
  have hacF := fun i c h hc => acF1_at (rows := rows) (acs := acs) (i := i) (c := c) hal h hc
  refine FnH.intro' [(0, .agg [.lst (rows.map nL), lB acs])] 1 173 0 Try.func143 (by kernel_rfl) rfl rfl rfl rfl rfl rfl ?_
  have hml : (acs.map AV.bool).length = acs.length := List.length_map _
  have hmr : (rows.map nL).length = rows.length := List.length_map _
  generalize hcl0 : cl1 acs = cl0 at *
  refine goD ?_
  refine ARun.p1 rfl rfl (pl_make (by simp +decide only [go_sem] <;> rfl) (by simp +decide only [go_sem] <;> rfl) Try.underlying107 el3 zero3 rfl (by omega) (by omega) (by omega) (by omega)) ?_
  rw [show (List.replicate ((acs.length : Int)).toNat (AV.base (.int .i64 0))) = (mixN acs.length cl0 0).map iN by rw [mixN_0]; simp]
  refine goD ?_
  refine AWp.loop (J := fun j : Nat => j ≤ acs.length) (fun j => ⟨[(1, .ptr 0 1 0 0), (2, .ptr 1 1 0 0), (3, .own 2 acs.length 0 acs.length), (4, .int j)], [bxA rows acs, clA, inB' (mixN acs.length cl0 j)]⟩) (fun j => acs.length - j) 0 (Nat.zero_le _) .wf ?_
  · intro j hj
    refine goD ?_
    refine ifA (fun hc => ?_) (fun hc => ?_)
    · have hc := of_decide_eq_true hc
      have hj2 : j < acs.length := by omega
      have hcg := hcl0g j hj2
      refine goD ?_
      rw [nth_at (acs := acs) hj2]
      generalize acR acs j = b at *
      cases b with
      | true =>
        simp only [if_true] at hcg
        refine ift_ ?_
        refine goD ?_
        refine ARun.q1 rfl rfl (ql_indexAddr_own (by simp +decide only [go_sem] <;> rfl) (by simp +decide only [go_sem] <;> rfl) Try.underlying107 (by rfl) (by simp [mixN_len]) (by omega) (by omega) (by kernel_rfl)) ?_
        refine ARun.p1 rfl rfl (pl_store_own (b := 2) (tot := acs.length) (i := j) (ty := 3) (sz := 1) (l := mixN acs.length cl0 j) (f := iN) (cl0.getD j 0) (by simp +decide only [go_sem] <;> simp) (by rw [hcg]; rfl) rfl (mixN_len _ _ _) (by rw [mixN_len]; omega) sz3 rfl rfl) ?_
        rw [mixN_set _ _ _ (by omega)]
        refine goD ?_
        rw [wrap_succ (by omega)]
        exact ⟨j + 1, by omega, by omega, .wf⟩
      | false =>
        simp only [Bool.false_eq_true, if_false] at hcg
        refine iff_ ?_
        refine goD ?_
        rw [mixN_skip _ _ _ hcg, wrap_succ (by omega)]
        exact ⟨j + 1, by omega, by omega, .wf⟩
    have hc := of_decide_eq_false hc
    obtain rfl : j = acs.length := by omega
    rw [mixN_all _ _ hcl0l]
    refine AWp.weaken (Wk.trimM (E2 := [(1, .ptr 0 1 0 0), (2, .ptr 1 1 0 0), (3, nL cl0)]) (H2 := [bxA rows acs, clA]) 2 (Nat.zero_le _) rfl ?_ (pubB (PuBl_ll rows acs))) ?_
    · exact ⟨.ptr (by decide), .ptr (by decide), .ownM (f := iN) (l := cl0) (by decide) rfl (by omega) (Pu_iN cl0), trivial⟩
    refine AWp.exit ?_
    repeat (with_reducible apply thenQ_e)
    refine blkQ_e (thenQ_n ?_)
    refine goD ?_
    refine AWp.loop (J := fun k : Nat => k ≤ ctR rows cl0 k) (fun k => ⟨[(1, .ptr 0 1 0 0), (2, .ptr 1 1 0 0), (3, nL (clR rows cl0 k)), (5, .int (ctR rows cl0 k))], [bxA rows acs, clA]⟩) (fun k => rows.length + 1 - k) 0 (Nat.zero_le _) .wf ?_
    intro k hk1
    have hcll : (clR rows cl0 k).length = rows.length := clR_len (by omega) k
    have hctk : ctR rows cl0 (k + 1) = (numL rows (clR rows cl0 k) rows.length).length := rfl
    have hctk2 : cntR rows cl0 k = (numL rows (clR rows cl0 k) rows.length).length := rfl
    have hclk : clR rows cl0 (k + 1) = refL rows (clR rows cl0 k) := rfl
    have hAle : cntR rows cl0 k ≤ rows.length := cntR_le k
    generalize hcl : clR rows cl0 k = cl at *
    generalize hct : ctR rows cl0 k = ct at *
    have hmcl : (cl.map fun x : Nat => AV.int x).length = cl.length := List.length_map _
    refine goD ?_
    refine ARun.p1 rfl rfl (pl_make (by simp +decide only [go_sem] <;> rfl) (by simp +decide only [go_sem] <;> rfl) Try.underlying107 el3 zero3 rfl (by omega) (by omega) (by omega) (by omega)) ?_
    rw [show (List.replicate ((cl.length : Int)).toNat (AV.base (.int .i64 0))) = (mixN cl.length (refL rows cl) 0).map iN by rw [mixN_0]; simp]
    refine goD ?_
    refine AWp.weaken (Wk.nil (E2 := [(1, .ptr 0 1 0 0), (2, .ptr 1 1 0 0), (3, nL cl), (5, .int ct), (6, .own 3 0 0 0), (7, .own 2 cl.length 0 cl.length), (8, .int 0)]) 107 1 (by intro p hp; simp only [List.mem_cons, List.not_mem_nil, or_false] at hp; rcases hp with rfl | rfl | rfl | rfl | rfl | rfl | rfl; exact .inl (Le.refl _); exact .inl (Le.refl _); exact .inl (Le.refl _); exact .inl (Le.refl _); exact .inr ⟨rfl, rfl⟩; exact .inl (Le.refl _); exact .inl (Le.refl _))) ?_
    refine AWp.loop (J := fun i : Nat => i ≤ rows.length) (fun i => ⟨[(1, .ptr 0 1 0 0), (2, .ptr 1 1 0 0), (3, nL cl), (5, .int ct), (6, .own 3 (numL rows cl i).length 0 (numL rows cl i).length), (7, .own 2 cl.length 0 cl.length), (8, .int i)], [bxA rows acs, clA, inB' (mixN cl.length (refL rows cl) i), rwB (numL rows cl i)]⟩) (fun i => rows.length - i) 0 (Nat.zero_le _) .wf ?_
    intro i hi
    have hix := fun h => refL_ix (rows := rows) (cl := cl) (i := i) h
    have hns := numL_succ rows cl i
    have hAl := numL_lenle rows cl hi
    have hAe : ∀ a ∈ numL rows cl i, a.length ≤ 96 := fun a ha => by
      obtain ⟨j, hj, rfl⟩ := mem_numL.1 ha
      unfold keyL
      rw [List.getD_eq_getElem?_getD (l := rows), List.getElem?_eq_getElem (by omega)]
      have := hw _ (List.getElem_mem (by omega : j < rows.length))
      simp only [Option.getD_some, List.length_cons, List.length_map]; omega
    generalize hA : numL rows cl i = A at *
    refine goD ?_
    refine ifA (fun hc => ?_) (fun hc => ?_)
    · have hc := of_decide_eq_true hc
      have hi2 : i < rows.length := by omega
      have hrl := hw _ (List.getElem_mem hi2)
      have hrx := hlt _ (List.getElem_mem hi2)
      have hky : keyL rows cl i = cl.getD i 0 :: (rows[i].map fun x => cl.getD x 0) := by
        unfold keyL; rw [List.getD_eq_getElem?_getD (l := rows), List.getElem?_eq_getElem hi2]; rfl
      have hnr : nth default rows (i : Int) = rows[i] := nth_eq hi2
      have hix := hix hi2
      generalize rows[i] = row at *
      refine goC ?_
      refine zq rfl rfl (qi (f := iN) (l := cl) rfl rfl (by simp only [go_sem]; rfl) (by omega) (by kernel_rfl)) ?_
      rw [nthN (l := cl) (k := i) (by omega)]
      refine ARun.q1 rfl rfl (ql_fun (v := .int (cl.getD i 0)) (by simp +decide only [go_sem] <;> rfl)) ?_
      refine ARun.p1 rfl rfl (pl_buildSlice (es := [.int (cl.getD i 0)]) (by decide) Try.underlying107 sz3 (by kernel_rfl) (by simp) (by simp +decide only [go_sem] <;> rfl) (by simp +decide only [go_sem] <;> rfl) rfl) ?_
      refine goC ?_
      generalize hkb : (fun t : Nat => cl.getD i 0 :: (row.take t).map fun x => cl.getD x 0) = kbp
      have hkb0 : kbp 0 = [cl.getD i 0] := by rw [← hkb]; rfl
      have hkbl : ∀ t, (kbp t).length ≤ 96 := fun t => by rw [← hkb]; simp only [List.length_cons, List.length_map, List.length_take]; omega
      have hkbs : ∀ t (h : t < row.length), kbp (t + 1) = kbp t ++ [cl.getD row[t] 0] := fun t h => by
        rw [← hkb]; simp only
        rw [List.take_succ_eq_append_getElem h, List.map_append]; rfl
      have hkbe : kbp row.length = keyL rows cl i := by
        rw [← hkb, hky]; simp only [List.take_length]
      clear hkb
      have hrnl : (row.map fun x : Nat => AV.int x).length = row.length := List.length_map _
      refine AWp.loop (J := fun t : Nat => t ≤ row.length) (fun t => ⟨[(1, .ptr 0 1 0 0), (2, .ptr 1 1 0 0), (3, nL cl), (5, .int ct), (6, .own 3 A.length 0 A.length), (7, .own 2 cl.length 0 cl.length), (8, .int i), (9, .own 4 (kbp t).length 0 (kbp t).length), (10, .int t)], [bxA rows acs, clA, inB' (mixN cl.length (refL rows cl) i), rwB A, inB' (kbp t)]⟩) (fun t => row.length - t) 0 (Nat.zero_le _) (by simp only [hkb0]; exact .wf) ?_
      intro t ht
      have hkbl := hkbl t
      have hkbs := hkbs t
      generalize hkt : kbp t = kt at *
      refine goD ?_
      rw [hnr]
      refine goD ?_
      refine ifA (fun hc2 => ?_) (fun hc2 => ?_)
      · have hc2 := of_decide_eq_true hc2
        have ht2 : t < row.length := by omega
        have hkbs := hkbs ht2
        have hxl := hrx _ (List.getElem_mem ht2)
        have hxn : nth default row (t : Int) = row[t] := nth_eq ht2
        generalize row[t] = x at *
        refine goD ?_
        rw [hnr]
        refine goD ?_
        rw [hxn]
        refine goD ?_
        rw [nthN (l := cl) (k := x) (by omega)]
        refine goD ?_
        refine ARun.p1 rfl rfl (pl_append (b := 4) (tot := kt.length) (es := [iN (cl.getD x 0)]) (by simp +decide only [go_sem] <;> rfl) (by simp +decide only [go_sem] <;> rfl) rfl (by simp) Try.underlying107 el3 rfl rfl (by simp) (fun e he => by rw [List.mem_singleton] at he; subst he; exact ⟨rfl, rfl⟩) (by simp; omega) (by simp; omega)) ?_
        rw [show kt.map iN ++ [iN (cl.getD x 0)] = (kt ++ [cl.getD x 0]).map iN by rw [List.map_append]; rfl]
        refine goD ?_
        rw [wrap_succ (by omega)]
        refine ⟨t + 1, ht2, by omega, ?_⟩
        simp only [hkbs, List.length_append, List.length_cons, List.length_nil]
        exact .wf
      have hc2 := of_decide_eq_false hc2
      obtain rfl : t = row.length := by omega
      rw [hkbe] at hkt
      subst hkt
      generalize hKy : keyL rows cl i = ky at *
      refine AWp.weaken (Wk.trimM (E2 := [(1, .ptr 0 1 0 0), (2, .ptr 1 1 0 0), (3, nL cl), (5, .int ct), (6, .own 3 A.length 0 A.length), (7, .own 2 cl.length 0 cl.length), (8, .int i), (9, nL ky)]) (H2 := [bxA rows acs, clA, inB' (mixN cl.length (refL rows cl) i), rwB A]) 4 (Nat.zero_le _) rfl ?_ (pubB (.cons (PuB_bxA _ _) (.cons PuB_clA (.cons (PuB_inB _) (.cons (PuB_rwB _) .nil)))))) ?_
      · exact ⟨.ptr (by decide), .ptr (by decide), .pu (Pu_nL cl), .pu (.base _), .own (by decide), .own (by decide), .pu (.base _), .ownM (f := iN) (l := ky) (by decide) rfl rfl (Pu_iN ky), trivial⟩
      refine AWp.exit ?_
      repeat (with_reducible apply thenQ_e)
      refine blkQ_e (thenQ_n ?_)
      refine goD ?_
      have hAl2 : A.length ≤ 300000000 := by omega
      have hmA : (A.map nL).length = A.length := List.length_map _
      refine AWp.loop (X := Nat × Int) (J := fun p => p.1 ≤ A.length ∧ ((p.2 = -1 ∧ ∀ x (h : x < A.length), x < p.1 → A[x] ≠ ky) ∨ ∃ x, ∃ h : x < A.length, p.2 = x ∧ A[x] = ky ∧ ∀ y (h : y < A.length), y < x → A[y] ≠ ky)) (fun p => ⟨[(1, .ptr 0 1 0 0), (2, .ptr 1 1 0 0), (3, nL cl), (5, .int ct), (6, .own 3 A.length 0 A.length), (7, .own 2 cl.length 0 cl.length), (8, .int i), (9, nL ky), (11, .int p.2), (12, .int p.1)], [bxA rows acs, clA, inB' (mixN cl.length (refL rows cl) i), rwB A]⟩) (fun p => A.length - p.1) (0, -1) ⟨Nat.zero_le _, .inl ⟨rfl, fun x h h' => by omega⟩⟩ .wf ?_
      rintro ⟨j, e⟩ ⟨hj, hje⟩
      simp only at hj hje ⊢
      refine goD ?_
      refine ifA (fun hd => ?_) (fun hd => ?_)
      · have hd : j < A.length ∧ e < 0 := by
          simp at hd
          omega
        obtain ⟨hj2, he⟩ := hd
        have hje : ∀ x (h : x < A.length), x < j → A[x] ≠ ky := by
          rcases hje with h | ⟨x, _, h, _⟩
          · exact h.2
          · omega
        have hnA : nth 0 A (j : Int) = A[j] := nth_eq hj2
        have i1 := eqInts_ok A[j] ky (by have := hAe _ (List.getElem_mem hj2); omega)
        refine goD ?_
        rw [hnA]
        refine goD ?_
        refine callA (i1) ?_
        refine goD ?_
        by_cases heq : A[j] = ky
        · rw [decide_eq_true heq]
          refine ift_ ?_
          refine goD ?_
          rw [wrap_succ (by omega)]
          exact ⟨(j + 1, j), ⟨hj2, .inr ⟨j, hj2, rfl, heq, fun y h h' => hje y h h'⟩⟩, by simp only; omega, .wf⟩
        · rw [decide_eq_false heq]
          refine iff_ ?_
          refine goD ?_
          rw [wrap_succ (by omega)]
          refine ⟨(j + 1, e), ⟨hj2, .inl ⟨by omega, fun x h h' => ?_⟩⟩, by simp only; omega, .wf⟩
          rcases Nat.lt_or_ge x j with hx | hx
          · exact hje x h hx
          · obtain rfl : x = j := by simp only at h'; omega
            exact heq
      · have hcase : (e = -1 ∧ ¬ ky ∈ A) ∨ (∃ x : Nat, e = x ∧ ky ∈ A ∧ ixN A ky = x ∧ x < A.length) := by
          rcases hje with ⟨h1, h2⟩ | ⟨x, hx, h1, h2, h3⟩
          · left
            refine ⟨h1, fun h => ?_⟩
            obtain ⟨x, hx, hxe⟩ := List.getElem_of_mem h
            have : A.length ≤ j := by
              subst h1
              simp at hd
              omega
            exact h2 x hx (by omega) hxe
          · right
            have hm : ky ∈ A := h2 ▸ List.getElem_mem hx
            refine ⟨x, h1, hm, ?_, hx⟩
            rw [ixN_old hm]
            exact idxOf_first hx h2 h3
        clear hje hd
        have hmxl := mixN_len cl.length (refL rows cl) i
        rcases hcase with ⟨rfl, hm⟩ | ⟨x, rfl, hm, hxe, hxl⟩
        · rw [addN_new hm] at hns
          rw [ixN_new hm] at hix
          refine goD ?_
          refine ift_ ?_
          refine goD ?_
          refine ARun.p1 rfl rfl (pl_append (b := 3) (tot := A.length) (es := [nL ky]) (by simp +decide only [go_sem] <;> rfl) (by simp +decide only [go_sem] <;> rfl) rfl (by simp) Try.underlying103 el107 rfl rfl (by simp) (fun e he => by rw [List.mem_singleton] at he; subst he; exact ⟨rfl, rfl⟩) (by simp; omega) (by simp; omega)) ?_
          rw [show A.map nL ++ [nL ky] = (A ++ [ky]).map nL by rw [List.map_append]; rfl]
          refine goD ?_
          refine ARun.p1 rfl rfl (pl_store_own (b := 2) (tot := cl.length) (i := i) (ty := 3) (sz := 1) (l := mixN cl.length (refL rows cl) i) (f := iN) ((refL rows cl).getD i 0) (by simp +decide only [go_sem] <;> simp) (by rw [hix]; rfl) rfl (mixN_len _ _ _) (by rw [mixN_len]; omega) sz3 rfl rfl) ?_
          rw [mixN_set _ _ _ (by omega)]
          refine goD ?_
          rw [wrap_succ (by omega)]
          refine ⟨i + 1, by omega, by omega, ?_⟩
          simp only [hns, List.length_append, List.length_cons, List.length_nil]
          exact .wf
        · rw [addN_old hm] at hns
          rw [hxe] at hix
          refine goD ?_
          refine iff_ (b := decide ((x : Int) < 0)) ?_ (by rw [decide_eq_false_iff_not]; omega)
          refine goD ?_
          refine ARun.p1 rfl rfl (pl_store_own (b := 2) (tot := cl.length) (i := i) (ty := 3) (sz := 1) (l := mixN cl.length (refL rows cl) i) (f := iN) ((refL rows cl).getD i 0) (by simp +decide only [go_sem] <;> simp) (by rw [hix]; rfl) rfl (mixN_len _ _ _) (by rw [mixN_len]; omega) sz3 rfl rfl) ?_
          rw [mixN_set _ _ _ (by omega)]
          refine goD ?_
          rw [wrap_succ (by omega)]
          refine ⟨i + 1, by omega, by omega, ?_⟩
          simp only [hns]
          exact .wf
    have hc := of_decide_eq_false hc
    obtain rfl : i = rows.length := by omega
    have hrl : (refL rows cl).length = rows.length := refL_len _ _
    rw [show mixN cl.length (refL rows cl) rows.length = refL rows cl from by rw [hcll]; exact mixN_all _ _ hrl]
    refine AWp.weaken (Wk.trimM (E2 := [(1, .ptr 0 1 0 0), (2, .ptr 1 1 0 0), (5, .int ct), (6, .lst (A.map nL)), (7, nL (refL rows cl))]) (H2 := [bxA rows acs, clA]) 2 (Nat.zero_le _) rfl ?_ (pubB (PuBl_ll rows acs))) ?_
    · exact ⟨.ptr (by decide), .ptr (by decide), .pu (.base _), .ownM (f := nL) (l := A) (by decide) rfl rfl (fun x _ c hc => by simp only [AV.cells, List.mem_singleton] at hc; subst hc; exact Pu_nL x), .ownM (f := iN) (l := refL rows cl) (by decide) rfl (by omega) (Pu_iN _), trivial⟩
    refine AWp.exit ?_
    repeat (with_reducible apply thenQ_e)
    refine blkQ_e (thenQ_n ?_)
    have hmA : (A.map nL).length = A.length := List.length_map _
    refine goD ?_
    rw [hA] at hctk hctk2
    have hA0 : 0 < A.length := by
      have := refL_lt (cl := cl) hp
      rw [hA] at this; omega
    have hmono : ct ≤ A.length := by
      rw [← hct, ← hctk2]
      cases k with
      | zero => exact Nat.zero_le _
      | succ k => exact cntR_mono k
    by_cases he : A.length = ct
    · have hstop : refL rows cl = clF rows cl0 ∧ A.length = cntF rows cl0 := by
        obtain ⟨k', rfl⟩ : ∃ k', k = k' + 1 := ⟨k - 1, by
          rcases Nat.eq_zero_or_pos k with h | h
          · subst h
            have : ct = 0 := by rw [← hct]; rfl
            omega
          · omega⟩
        have h1 : cntR rows cl0 (k' + 1) = cntR rows cl0 k' := by rw [hctk2, he, ← hct]; rfl
        have h2 := clF_stop h1
        exact ⟨by rw [← hclk]; exact h2.1, by rw [← h2.2, hctk2]⟩
      rw [show decide ((A.length : Int) = (ct : Int)) = true by rw [decide_eq_true]; omega]
      refine ift_ ?_
      rw [hstop.1]
      have hcF : ct = cntF rows cl0 := by omega
      have hFl : (clF rows cl0).length = rows.length := clF_len
      have hRl : (rowsF rows cl0).length = ct := by rw [rowsF_len, hcF]
      have hEl : (acsF rows cl0 acs).length = ct := by rw [hcF]; simp [acsF]
      refine AWp.weaken (Wk.nil (E2 := [(1, .ptr 0 1 0 0), (2, .ptr 1 1 0 0), (3, nL (clF rows cl0)), (5, .int ct)]) 107 1 (by intro p hp; simp only [List.mem_cons, List.not_mem_nil, or_false] at hp; rcases hp with rfl | rfl | rfl | rfl <;> exact .inl (Le.refl _))) ?_
      refine AWp.weaken (Wk.nil (E2 := [(1, .ptr 0 1 0 0), (2, .ptr 1 1 0 0), (3, nL (clF rows cl0)), (5, .int ct)]) 4 1 (by intro p hp; simp only [List.mem_cons, List.not_mem_nil, or_false] at hp; rcases hp with rfl | rfl | rfl | rfl <;> exact .inl (Le.refl _))) ?_
      refine AWp.weaken (Wk.nil (E2 := [(1, .ptr 0 1 0 0), (2, .ptr 1 1 0 0), (3, nL (clF rows cl0)), (5, .int ct)]) 112 2 (by intro p hp; simp only [List.mem_cons, List.not_mem_nil, or_false] at hp; rcases hp with rfl | rfl | rfl | rfl <;> exact .inl (Le.refl _))) ?_
      refine zs ?_
      with_reducible apply AWp.drawMK (k := 6) [none, some 0, none, some 1, none, some 2] [[0, 2, 4, 6], [0, 2, 4, 6], [0, 1, 4, 5], [0, 1, 4, 5], [3, 7], [0, 1, 2, 3]] (fun S => match S with
        | 0 => [bxA rows acs, clA, ⟨107, 1, []⟩, ⟨4, 1, []⟩, ⟨112, 2, []⟩]
        | 1 => [bxA rows acs, clA, ⟨107, 1, List.replicate ct nilC⟩, ⟨4, 1, []⟩, ⟨112, 2, []⟩]
        | 2 => [bxA rows acs, clA, ⟨107, 1, []⟩, ⟨4, 1, List.replicate ct (.bool false)⟩, ⟨112, 2, []⟩]
        | 3 => [bxA rows acs, clA, ⟨107, 1, List.replicate ct nilC⟩, ⟨4, 1, List.replicate ct (.bool false)⟩, ⟨112, 2, []⟩]
        | 4 => [bxA rows acs, clA, ⟨107, 1, []⟩, ⟨4, 1, []⟩, ⟨112, 2, [.agg [nilC, nilC]]⟩]
        | 5 => [bxA rows acs, clA, ⟨107, 1, List.replicate ct nilC⟩, ⟨4, 1, []⟩, ⟨112, 2, [.agg [nilC, nilC]]⟩]
        | 6 => [bxA rows acs, clA, ⟨107, 1, []⟩, ⟨4, 1, List.replicate ct (.bool false)⟩, ⟨112, 2, [.agg [nilC, nilC]]⟩]
        | _ => [bxA rows acs, clA, ⟨107, 1, List.replicate ct nilC⟩, ⟨4, 1, List.replicate ct (.bool false)⟩, ⟨112, 2, [.agg [nilC, nilC]]⟩]) 3 follows
      · refine ⟨rfl, rfl, by kernel_rfl, by decide, ?_, ?_⟩
        · simp +decide only [go_sem, List.map, List.take]; rfl
        · simp +decide only [go_sem, List.map, List.drop]; rfl
      · kernel_rfl
      · rfl
      refine MRun.q1 (v := .int ct) rfl rfl (fun S hS => ql_fun (by simp +decide only [go_sem] <;> rfl)) ?_
      refine MRun.p1 (v := .own 2 ct 0 ct) rfl rfl (fun S hS ρ' h => by
        have hl : ρ' (.tmp 107) = .int ct := (h (.tmp 107) (by simp [Op.operands])).trans (by simp +decide only [go_sem] <;> rfl)
        simp only [List.mem_cons, List.not_mem_nil, or_false] at hS
        rcases hS with rfl | rfl | rfl | rfl <;> exact pl_makeAt (b := 2) (blk0 := ⟨107, 1, []⟩) (n := (ct : Int)) (m := (ct : Int)) rfl rfl hl hl Try.underlying103 el107 zero107 rfl (by omega) (by omega) (by omega) (by omega)) ?_
      refine MRun.q1 (v := .int ct) rfl rfl (fun S hS => ql_fun (by simp +decide only [go_sem] <;> rfl)) ?_
      refine MRun.p1 (v := .own 3 ct 0 ct) rfl rfl (fun S hS ρ' h => by
        have hl : ρ' (.tmp 109) = .int ct := (h (.tmp 109) (by simp [Op.operands])).trans (by simp +decide only [go_sem] <;> rfl)
        simp only [List.mem_cons, List.not_mem_nil, or_false] at hS
        rcases hS with rfl | rfl | rfl | rfl <;> exact pl_makeAt (b := 3) (blk0 := ⟨4, 1, []⟩) (n := (ct : Int)) (m := (ct : Int)) rfl rfl hl hl Try.underlying71 el4 zero4 rfl (by omega) (by omega) (by omega) (by omega)) ?_
      refine MRun.q1 (v := .agg [.own 2 ct 0 ct, .own 3 ct 0 ct]) rfl rfl (fun S hS => ql_build pl112 zero112 (by simp +decide only [go_sem, List.map] <;> rfl)) ?_
      refine MRun.p1 (v := .ptr 4 1 0 0) rfl rfl (fun S hS ρ' h => by simp only [List.mem_cons, List.not_mem_nil, or_false] at hS; rcases hS with rfl | rfl | rfl | rfl <;> exact pl_allocAt (b := 4) (blk0 := ⟨112, 2, []⟩) rfl rfl zero112 rfl (by decide)) ?_
      refine MRun.nil ?_
      refine rcA ?_
      refine zOut ?_
      refine keF [1, 2, 3, 5, 13] ?_
      refine (show AWp Try.prog _ _ _ ⟨[(1, .ptr 0 1 0 0), (2, .ptr 1 1 0 0), (3, nL (clF rows cl0)), (5, .int ct), (13, .ptr 4 1 0 0)], [bxA rows acs, clA, ⟨107, 1, List.replicate ct nilC⟩, ⟨4, 1, List.replicate ct (.bool false)⟩, ⟨112, 2, [.agg [.own 2 ct 0 ct, .own 3 ct 0 ct]]⟩]⟩ from ?_)
      rw [show (List.replicate ct nilC) = nxE ct ([] : List (List Nat)) by simp [nxE], show List.replicate ct (AV.bool false) = (edE ct []).map AV.bool by simp [edE]]
      have hcix := fun i (h : i < rows.length) => clF_ix (cl0 := cl0) h
      have hclt := fun i (h : i < rows.length) => clF_lt (cl0 := cl0) h
      have hrow := fun i c (h : i < rows.length) hc => rowF_at (cl0 := cl0) (c := c) h hc
      have hfix := clF_fix (rows := rows) (cl0 := cl0)
      have hRg : ∀ c, c < ct → (rowsF rows cl0)[c]? = some (rowF rows cl0 c) := fun c hc => by
        unfold rowsF; rw [List.getElem?_map, List.getElem?_range (by omega)]; rfl
      have hEg : ∀ c, c < ct → (acsF rows cl0 acs)[c]? = some (acR acs (fsF rows cl0 c)) := fun c hc => by
        unfold acsF; rw [List.getElem?_map, List.getElem?_range (by omega)]; rfl
      refine goC ?_
      refine AWp.loop (J := fun i : Nat => i ≤ rows.length ∧ (numL rows (clF rows cl0) i).length ≤ ct) (fun i => ⟨[(1, .ptr 0 1 0 0), (2, .ptr 1 1 0 0), (3, nL (clF rows cl0)), (13, .ptr 4 1 0 0), (14, .int i)],
        [bxA rows acs, clA, ⟨107, 1, nxE ct ((rowsF rows cl0).take (numL rows (clF rows cl0) i).length)⟩, acB (edE ct ((acsF rows cl0 acs).take (numL rows (clF rows cl0) i).length)), ⟨112, 2, [.agg [.own 2 ct 0 ct, .own 3 ct 0 ct]]⟩]⟩) (fun i => rows.length - i) 0 ⟨Nat.zero_le _, Nat.zero_le _⟩ .wf ?_
      rintro i ⟨hi, hi2⟩
      have hns := numL_succ rows (clF rows cl0) i
      have hrt : ((rowsF rows cl0).take (numL rows (clF rows cl0) i).length).length = (numL rows (clF rows cl0) i).length := by rw [List.length_take]; omega
      have hat : ((acsF rows cl0 acs).take (numL rows (clF rows cl0) i).length).length = (numL rows (clF rows cl0) i).length := by rw [List.length_take]; omega
      have hcix := hcix i
      have hclt := hclt i
      have hrow := hrow i
      generalize hAi : numL rows (clF rows cl0) i = Ai at *
      generalize hkyi : keyL rows (clF rows cl0) i = kyi at *
      have hRt : ∀ c (h : c < Ai.length), ((rowsF rows cl0).take Ai.length)[c]? = some (rowF rows cl0 c) := fun c h => by
        rw [List.getElem?_take, if_pos h]; exact hRg c (by omega)
      have hEt : ∀ c (h : c < Ai.length), ((acsF rows cl0 acs).take Ai.length)[c]? = some (acR acs (fsF rows cl0 c)) := fun c h => by
        rw [List.getElem?_take, if_pos h]; exact hEg c (by omega)
      generalize hra : (rowsF rows cl0).take Ai.length = ra at *
      generalize haa : (acsF rows cl0 acs).take Ai.length = aa at *
      have hmcf : ((clF rows cl0).map fun x : Nat => AV.int x).length = (clF rows cl0).length := List.length_map _
      have hel := edE_len (n := ct) (R := aa) (by omega)
      have hnl := nxE_len (n := ct) (R := ra) (by omega)
      refine goC ?_
      refine ifA (fun hc6 => ?_) (fun hc6 => ?_)
      · have hc6 := of_decide_eq_true hc6
        have hi3 : i < rows.length := by omega
        have hcix := hcix hi3
        have hclt := hclt hi3
        have hac := hacF i _ hi3 rfl
        have hrF := hrow _ hi3 rfl
        refine goC ?_
        refine zq rfl rfl (qi (f := iN) (l := clF rows cl0) rfl rfl (by simp only [go_sem]; rfl) (by omega) (by kernel_rfl)) ?_
        rw [nthN (l := clF rows cl0) (k := i) (by omega)]
        generalize (clF rows cl0).getD i 0 = c at *
        refine goC ?_
        refine drA (k := 8) follows (hr := ?_)
        refine goD ?_
        rw [nth_at (acs := acs) (k := i) (by omega)]
        have hrlen : 0 < (rowF rows cl0 c).length ∧ (rowF rows cl0 c).length ≤ 95 := by
          rw [hrF, List.length_map, List.getD_eq_getElem?_getD, List.getElem?_eq_getElem hi3]
          exact hw _ (List.getElem_mem hi3)
        refine ARun.p1 rfl rfl (pl_store_own (b := 3) (tot := ct) (i := c) (ty := 4) (sz := 1) (l := edE ct aa) (f := AV.bool) (acR acs i) (by simp +decide only [go_sem] <;> simp) (by simp +decide only [go_sem] <;> rfl) rfl hel (by omega) sz4 rfl rfl) ?_
        by_cases hmem : kyi ∈ Ai
        · rw [addN_old hmem] at hns
          have hcA : c < Ai.length := by rw [hcix]; exact ixN_lt.2 hmem
          rw [edE_old (by rw [hEt c hcA, hac])]
          refine goC ?_
          refine ARun.q1 rfl rfl (ql_indexAddr_own (by simp +decide only [go_sem] <;> rfl) (by simp +decide only [go_sem] <;> rfl) Try.underlying103 (by rfl) (by omega) (by omega) (by omega) (by kernel_rfl)) ?_
          obtain ⟨hcr, hcre⟩ := List.getElem?_eq_some_iff.1 (hRt c hcA)
          refine ARun.q1 rfl rfl (ql_ld107 (b := 2) (tot := ct) (i := c) (es := nxE ct ra) (x := nL (rowF rows cl0 c)) (by simp +decide only [go_sem] <;> simp) rfl hnl (by rw [nxE_get hcr, hcre]) rfl) ?_
          have hml9 : ((rowF rows cl0 c).map fun x : Nat => AV.int x).length = (rowF rows cl0 c).length := List.length_map _
          refine goC ?_
          refine iff_ (b := decide (((rowF rows cl0 c).length : Int) = 0)) ?_ (by rw [decide_eq_false_iff_not]; omega)
          refine goC ?_
          rw [wrap_succ (by omega)]
          refine ⟨i + 1, ⟨hi3, by rw [hns]; omega⟩, by omega, ?_⟩
          simp only [hns, hra, haa]
          exact .wf
        · rw [addN_new hmem] at hns
          have hcA : c = Ai.length := by rw [hcix]; exact ixN_new hmem
          have hcc : c < ct := by omega
          have hclc : c < rows.length := by omega
          have hen : (edE ct aa).set c (acR acs i) = edE ct (aa ++ [acR acs i]) := by rw [show c = aa.length by omega]; exact edE_new (by omega) _
          have hxn : nxE ct ra = ra.map nL ++ nilC :: List.replicate (ct - ra.length - 1) nilC := nxE_nil (by omega)
          have hxw := fun r : List Nat => nxE_new (n := ct) (R := ra) (by omega) r
          have hrm : (ra.map nL).length = c := by rw [List.length_map]; omega
          have hxg : (nxE ct ra)[c]? = some nilC := by rw [hxn, ← hrm]; exact mid_get
          have hkk : (ra.map nL).length + (1 + (ct - ra.length - 1)) = ct := by rw [hrm]; omega
          have hra2 : (rowsF rows cl0).take (Ai.length + 1) = ra ++ [rowF rows cl0 c] := by
            have h1 := hRg c hcc
            rw [← hra, hcA, List.take_add_one, ← hcA, h1]; rfl
          have haa2 : (acsF rows cl0 acs).take (Ai.length + 1) = aa ++ [acR acs i] := by
            have h1 := hEg c hcc
            rw [← haa, ← hac, hcA, List.take_add_one, ← hcA, h1]; rfl
          rw [hen]
          generalize acR acs i = av at *
          refine goC ?_
          refine ARun.q1 rfl rfl (ql_indexAddr_own (by simp +decide only [go_sem] <;> rfl) (by simp +decide only [go_sem] <;> rfl) Try.underlying103 (by rfl) (by omega) (by omega) (by omega) (by kernel_rfl)) ?_
          refine ARun.q1 rfl rfl (ql_ld107 (b := 2) (tot := ct) (i := c) (es := nxE ct ra) (x := nilC) (by simp +decide only [go_sem] <;> simp) rfl hnl hxg rfl) ?_
          refine goC ?_
          refine ift_ ?_
          refine goC ?_
          refine AWp.weaken (Wk.nilC (E2 := [(1, .ptr 0 1 0 0), (2, .ptr 1 1 0 0), (3, nL (clF rows cl0)), (13, .ptr 4 1 0 0), (14, .int i), (15, iN c), (16, .int 0)]) (H2 := [bxA rows acs, clA, ⟨107, 1, ra.map nL ++ .own 5 0 0 0 :: List.replicate (ct - ra.length - 1) nilC⟩, acB (edE ct (aa ++ [av])), ⟨112, 2, [.agg [.own 2 ct 0 ct, .own 3 ct 0 ct]]⟩]) 3 1 ?_ ?_) ?_
          · rw [hxn]
            exact ⟨.pu (PuB_bxA _ _), .pu PuB_clA, .mid (Pu_nLs ra) (Pu_nils _) rfl rfl (.nil rfl), .pu (PuB_acB _), .one ⟨.own, .own, trivial⟩, trivial⟩
          · simp +decide only [NilE, lk, if_true, if_false]
            exact ⟨.ptr, .ptr, .pu (Pu_nL _), .ptr, .pu (.base _), .pu (.base _), .pu (.base _), trivial⟩
          have hrl := hw _ (List.getElem_mem hi3)
          have hrx := hlt _ (List.getElem_mem hi3)
          have hnr : nth default rows (i : Int) = rows[i] := nth_eq hi3
          rw [List.getD_eq_getElem?_getD (l := rows), List.getElem?_eq_getElem hi3, Option.getD_some] at hrF
          generalize hrowi : rows[i] = row at *
          have hrnl : (row.map fun x : Nat => AV.int x).length = row.length := List.length_map _
          refine AWp.loop (J := fun t : Nat => t ≤ row.length) (fun t => ⟨[(1, .ptr 0 1 0 0), (2, .ptr 1 1 0 0), (3, nL (clF rows cl0)), (13, .ptr 4 1 0 0), (14, .int i), (15, iN c), (16, .int t)], [bxA rows acs, clA, ⟨107, 1, ra.map nL ++ .own 5 (row.take t).length 0 (row.take t).length :: List.replicate (ct - ra.length - 1) nilC⟩, acB (edE ct (aa ++ [av])), ⟨112, 2, [.agg [.own 2 ct 0 ct, .own 3 ct 0 ct]]⟩, inB' ((row.take t).map fun x => (clF rows cl0).getD x 0)]⟩) (fun t => row.length - t) 0 (Nat.zero_le _) .wf ?_
          intro t ht
          refine goD ?_
          rw [hnr]
          refine goD ?_
          refine ifA (fun hc7 => ?_) (fun hc7 => ?_)
          · have hc7 := of_decide_eq_true hc7
            have ht2 : t < row.length := by omega
            have hxl := hrx _ (List.getElem_mem ht2)
            have hxv : nth default row (t : Int) = row[t] := nth_eq ht2
            have hts := List.take_succ_eq_append_getElem ht2
            have htl : (row.take t).length ≤ 95 := by rw [List.length_take]; omega
            generalize hxt : row[t] = x at *
            generalize row.take t = rj at *
            have hyx : nth default (clF rows cl0) (x : Int) = (clF rows cl0).getD x 0 := nthN (by omega)
            generalize hy : (clF rows cl0).getD x 0 = y at *
            have hmr' : (rows.map nL).length = rows.length := List.length_map _
            have hmrc : (rows.map nL)[i]? = some (nL row) := by
              rw [List.getElem?_map, List.getElem?_eq_getElem hi3, hrowi]; rfl
            have hmrx : (row.map iN)[t]? = some (iN x) := by
              rw [List.getElem?_map, List.getElem?_eq_getElem ht2, hxt]; rfl
            have hmcx : ((clF rows cl0).map iN)[x]? = some (iN y) := by
              rw [List.getElem?_map, List.getElem?_eq_getElem (by omega), ← hy, List.getD_eq_getElem?_getD, List.getElem?_eq_getElem (by omega)]; rfl
            have hpl : (ra.map nL ++ AV.own 5 rj.length 0 rj.length :: List.replicate (ct - ra.length - 1) nilC).length = ct := by simp only [List.length_append, List.length_cons, List.length_map, List.length_replicate]; omega
            have hpg : (ra.map nL ++ AV.own 5 rj.length 0 rj.length :: List.replicate (ct - ra.length - 1) nilC)[c]? = some (.own 5 rj.length 0 rj.length) := by rw [← hrm]; exact mid_get
            refine AWp.skip (z1 ?_)
            refine zs ?_
            refine AWp.block ?_
            with_reducible apply AWp.drawK (k := 21) [none, none, none, none, none, none, none, none, none, none, none, none, none, none, none, none, none, none, none, none, some 0] (fun c => match c with
              | 0 => [bxA rows acs, clA, ⟨107, 1, ra.map nL ++ .own 5 rj.length 0 rj.length :: List.replicate (ct - ra.length - 1) nilC⟩, acB (edE ct (aa ++ [av])), ⟨112, 2, [.agg [.own 2 ct 0 ct, .own 3 ct 0 ct]]⟩, inB' (rj.map fun x => (clF rows cl0).getD x 0)]
              | _ => [bxA rows acs, clA, ⟨107, 1, ra.map nL ++ .own 5 rj.length 0 rj.length :: List.replicate (ct - ra.length - 1) nilC⟩, acB (edE ct (aa ++ [av])), ⟨112, 2, [.agg [.own 2 ct 0 ct, .own 3 ct 0 ct]]⟩, inB' ((rj ++ [x]).map fun x => (clF rows cl0).getD x 0)]) 1 follows
            · refine ⟨rfl, rfl, by kernel_rfl, by decide, ?_, ?_⟩
              · simp +decide only [go_sem, List.map, List.take]; rfl
              · simp +decide only [go_sem, List.map, List.drop]; rfl
            · kernel_rfl
            · rfl
            refine GRun.qf1 (v := .ptr 4 1 0 0) rfl rfl (by simp +decide only [go_sem] <;> rfl) (by simp +decide only [go_sem] <;> rfl) ?_
            refine GRun.qf1 (v := .own 2 ct 0 ct) rfl rfl (by simp +decide only [go_sem] <;> rfl) (by simp +decide only [go_sem] <;> rfl) ?_
            refine GRun.qf1 (v := iN c) rfl rfl (by simp +decide only [go_sem] <;> rfl) (by simp +decide only [go_sem] <;> rfl) ?_
            refine GRun.qf1 (v := .ptr 4 1 0 0) rfl rfl (by simp +decide only [go_sem] <;> rfl) (by simp +decide only [go_sem] <;> rfl) ?_
            refine GRun.qf1 (v := .own 2 ct 0 ct) rfl rfl (by simp +decide only [go_sem] <;> rfl) (by simp +decide only [go_sem] <;> rfl) ?_
            refine GRun.qf1 (v := iN c) rfl rfl (by simp +decide only [go_sem] <;> rfl) (by simp +decide only [go_sem] <;> rfl) ?_
            refine GRun.q1 (v := .ptr 2 ct (0 + ((c : Nat) : Int).toNat) 0) rfl rfl (fun d _ => ql_indexAddr_own (k := .i64) (n := ((c : Nat) : Int)) (blk := ⟨107, 1, ra.map nL ++ .own 5 rj.length 0 rj.length :: List.replicate (ct - ra.length - 1) nilC⟩) (by simp +decide only [go_sem] <;> rfl) (by simp +decide only [go_sem] <;> rfl) Try.underlying103 (by match d with | 0 => rfl | _ + 1 => rfl) hpl (by omega) (by omega) (by kernel_rfl)) ?_
            refine GRun.q1 (v := .own 5 rj.length 0 rj.length) rfl rfl (fun d _ => ql_ld107 (b := 2) (tot := ct) (i := c) (es := ra.map nL ++ .own 5 rj.length 0 rj.length :: List.replicate (ct - ra.length - 1) nilC) (x := .own 5 rj.length 0 rj.length) (by simp +decide only [go_sem] <;> simp) (by match d with | 0 => rfl | _ + 1 => rfl) hpl hpg rfl) ?_
            refine GRun.qf1 (v := nL (clF rows cl0)) rfl rfl (by simp +decide only [go_sem] <;> rfl) (by simp +decide only [go_sem] <;> rfl) ?_
            refine GRun.qf1 (v := .ptr 0 1 0 0) rfl rfl (by simp +decide only [go_sem] <;> rfl) (by simp +decide only [go_sem] <;> rfl) ?_
            refine GRun.qf1 (v := .lst (rows.map nL)) rfl rfl (by simp +decide only [go_sem] <;> rfl) (by simp +decide only [go_sem] <;> rfl) ?_
            refine GRun.qf1 (v := .int i) rfl rfl (by simp +decide only [go_sem] <;> rfl) (by simp +decide only [go_sem] <;> rfl) ?_
            refine GRun.q1 (v := .iptr (nL row) 0) rfl rfl (fun d _ => ql_indexAddr_lst (by simp +decide only [go_sem] <;> rfl) (by simp +decide only [go_sem] <;> rfl) Try.underlying103 (by omega) (e := nL row) (by simpa using hmrc) (by kernel_rfl)) ?_
            refine GRun.qf1 (v := nL row) rfl rfl (by simp +decide only [go_sem] <;> rfl) (by simp +decide only [go_sem] <;> rfl) ?_
            refine GRun.qf1 (v := .int t) rfl rfl (by simp +decide only [go_sem] <;> rfl) (by simp +decide only [go_sem] <;> rfl) ?_
            refine GRun.q1 (v := .iptr (iN x) 0) rfl rfl (fun d _ => ql_indexAddr_lst (es := row.map iN) (by simp +decide only [go_sem] <;> rfl) (by simp +decide only [go_sem] <;> rfl) Try.underlying107 (by omega) (e := iN x) (by simpa using hmrx) (by kernel_rfl)) ?_
            refine GRun.qf1 (v := iN x) rfl rfl (by simp +decide only [go_sem] <;> rfl) (by simp +decide only [go_sem] <;> rfl) ?_
            refine GRun.q1 (v := .iptr (iN y) 0) rfl rfl (fun d _ => ql_indexAddr_lst (es := (clF rows cl0).map iN) (by simp +decide only [go_sem] <;> rfl) (by simp +decide only [go_sem] <;> rfl) Try.underlying107 (by omega) (e := iN y) (by simpa using hmcx) (by kernel_rfl)) ?_
            refine GRun.qf1 (v := iN y) rfl rfl (by simp +decide only [go_sem] <;> rfl) (by simp +decide only [go_sem] <;> rfl) ?_
            refine GRun.q1 (v := .lst [iN y]) rfl rfl (fun d _ => ql_buildSlice (by decide) Try.underlying107 sz3 (by kernel_rfl) (by decide) (by (simp +decide only [List.map, go_sem] <;> rfl)) (by (simp +decide only [List.map, go_sem] <;> rfl)) rfl) ?_
            refine GRun.p1 (v := .own 5 (rj.length + 1) 0 (rj.length + 1)) rfl rfl (fun ρ' h => ?_) ?_
            · have := pl_append (P := Try.prog) (ρ := ρ') (H := [bxA rows acs, clA, ⟨107, 1, ra.map nL ++ .own 5 rj.length 0 rj.length :: List.replicate (ct - ra.length - 1) nilC⟩, acB (edE ct (aa ++ [av])), ⟨112, 2, [.agg [.own 2 ct 0 ct, .own 3 ct 0 ct]]⟩, inB' (rj.map fun x => (clF rows cl0).getD x 0)]) (b := 5) (tot := rj.length) (es := [iN y]) ((h (.tmp 155) (by simp [Op.operands, Call.operands])).trans (by simp +decide only [go_sem] <;> rfl)) ((h (.tmp 167) (by simp [Op.operands, Call.operands])).trans (by simp +decide only [go_sem] <;> rfl)) rfl (by simp) Try.underlying107 el3 rfl rfl (by simp) (fun e he => by rw [List.mem_singleton] at he; subst he; exact ⟨rfl, rfl⟩) (by simp; omega) (by simp; omega)
              simp only [inB', List.map_append, List.map_cons, List.map_nil, hy]; exact this
            refine GRun.nil ?_
            refine rcA ?_
            refine ARun.p1 rfl rfl (pl_st107 (b := 2) (tot := ct) (i := c) (A := ra.map nL) (B := List.replicate (ct - ra.length - 1) nilC) (c1 := 5) (c2 := rj.length) (c3 := 0) (c4 := rj.length) (d1 := 5) (d2 := rj.length + 1) (d3 := 0) (d4 := rj.length + 1) hrm.symm (by simp +decide only [go_sem] <;> simp) (by simp +decide only [go_sem] <;> rfl) rfl hpl) ?_
            refine goC ?_
            rw [wrap_succ (by omega)]
            refine ⟨t + 1, ht2, by omega, ?_⟩
            simp only [hts, List.length_append, List.length_cons, List.length_nil]
            exact .wf
          have hc7 := of_decide_eq_false hc7
          obtain rfl : t = row.length := by omega
          rw [List.take_length, ← hrF]
          have hrFl : (rowF rows cl0 c).length = row.length := by rw [hrF, List.length_map]
          generalize rowF rows cl0 c = rw' at *
          refine AWp.weaken (Wk.selB (E2 := [(1, .ptr 0 1 0 0), (2, .ptr 1 1 0 0), (3, nL (clF rows cl0)), (13, .ptr 4 1 0 0), (14, .int i), (15, iN c)]) (H2 := [bxA rows acs, clA, ⟨107, 1, ra.map nL ++ nL rw' :: List.replicate (ct - ra.length - 1) nilC⟩, acB (edE ct (aa ++ [av])), ⟨112, 2, [.agg [.own 2 ct 0 ct, .own 3 ct 0 ct]]⟩]) [0, 1, 2, 3, 4] (by decide) (fun b hb => absurd hb (Nat.not_lt_zero _)) ⟨⟨_, rfl, .pu (PuB_bxA _ _)⟩, ⟨_, rfl, .pu PuB_clA⟩, ⟨_, rfl, .mid (Pu_nLs ra) (Pu_nils _) rfl rfl (.ownM (f := iN) (l := rw') rfl rfl hrFl (Pu_iN _))⟩, ⟨_, rfl, .pu (PuB_acB _)⟩, ⟨_, rfl, .one ⟨.own rfl, .own rfl, trivial⟩⟩, trivial⟩ (WkR.all ⟨.ptr rfl, .ptr rfl, .pu (Pu_nL _), .ptr rfl, .pu (.base _), .pu (.base _), trivial⟩)) ?_
          rw [hxw]
          refine AWp.exit ?_
          repeat (with_reducible apply thenQ_e)
          refine blkQ_e ?_
          refine goC ?_
          rw [wrap_succ (by omega)]
          refine ⟨i + 1, ⟨hi3, by rw [hns]; simp only [List.length_append, List.length_cons, List.length_nil]; omega⟩, by omega, ?_⟩
          simp only [hns, List.length_append, List.length_cons, List.length_nil, hra2, haa2]
          exact .wf
      · have hc6 := of_decide_eq_false hc6
        have hie : i = rows.length := by omega
        have hAc : Ai.length = ct := by rw [← hAi, hie, hfix.2, hcF]
        have hra2 : ra = rowsF rows cl0 := by rw [← hra, List.take_of_length_le (by omega)]
        have haa2 : aa = acsF rows cl0 acs := by rw [← haa, List.take_of_length_le (by omega)]
        rw [nxE_all (by omega), edE_all (by omega), ← hra2, ← haa2]
        refine AWp.exit ?_
        repeat (with_reducible apply thenQ_e)
        refine blkQ_e (thenQ_n ?_)
        refine goC ?_
        rw [show aa.length = ct by omega]
        exact RetH.of (vs := [.agg [.own 2 ct 0 ct, .own 3 ct 0 ct]]) [3] (by kernel_rfl) (by decide) (fun b hb => absurd hb (Nat.not_lt_zero _)) ⟨⟨_, rfl, .pu (PuB_acB _)⟩, trivial⟩ (.agg' ⟨.ownM (f := nL) (l := ra) rfl rfl (by omega) (fun x _ c hc => by simp only [AV.cells, List.mem_singleton] at hc; subst hc; exact Pu_nL x), .own rfl, trivial⟩)
    · rw [show decide ((A.length : Int) = (ct : Int)) = false by rw [decide_eq_false]; omega]
      refine iff_ ?_
      refine goD ?_
      refine ⟨k + 1, by rw [hctk]; omega, by omega, ?_⟩
      simp only [hctk, hclk]
      exact .wf
end Go.Ab
