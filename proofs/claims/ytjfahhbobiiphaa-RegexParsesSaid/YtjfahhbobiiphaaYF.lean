/- Part of the proof. -/
import Derived.Test.YtjfahhbobiiphaaYE
import Derived.Test.YtjfahhbobiiphaaYB
set_option linter.unusedSimpArgs false
set_option linter.unusedVariables false
set_option maxHeartbeats 4000000
namespace Go.Ab
open Go Go.Ab Go.Proofs Go.Ab.Ty

/-! ### unit -/
theorem unit_of (n : Nat) (hU : UnitC n) (hJ : JoinC n) : UnitC (n + 1) := by
  intro s i hi hl hn
  obtain ⟨R, hR⟩ : ∃ R, R = unitG (n + 1) (s.drop i) := ⟨_, rfl⟩
  rw [← hR]
  have hsz := bsL_size s
  have hgt := fun k (h : k < s.length) => bsL_get h
  have i1 := hU s (i + 1)
  have i2 := atom_of n hJ s i hi hl hn
  have hjs := (Sfx.atom (joinG_sfx (unitG_sfx n))).ends
  have hlen1 : (s.drop i).length = s.length - i := List.length_drop
  have hlen2 : (s.drop (i + 1)).length = s.length - (i + 1) := List.length_drop
  have hg2 : i < s.length → (bsL s)[i]? = some ((s.drop i).headD 0) := fun h => by rw [hgt _ h, drop_cons h]; rfl
  have hh : (s.drop i).head? = some 33 ↔ (i < s.length ∧ (s.drop i).headD 0 = 33) := by
    by_cases h : i < s.length
    · rw [drop_cons h]; simp [h]
    · rw [List.drop_eq_nil_of_le (by omega)]; simp
  rw [unitG, List.tail_drop] at hR
  have hlt : allL [decide (((i : Nat) : Int) < ((bsL s).size : Int))] = true → i < s.length := fun h => by
    have h2 : decide (((i : Nat) : Int) < ((bsL s).size : Int)) = true := by
      cases hd : decide (((i : Nat) : Int) < ((bsL s).size : Int)) with
      | true => rfl
      | false => rw [hd] at h; cases h
    have := of_decide_eq_true h2
    omega
  generalize (s.drop i).headD 0 = d at *
  generalize bsL s = B at *
  refine Fn.intro' [(0, str B), (1, .int i)] 2 58 Try.func110 (by kernel_rfl) rfl rfl rfl rfl rfl ?_
  refine goB ?_
  refine ARun.gl (v := chr d) rfl rfl (by simp +decide only [go_sem] <;> rfl) (fun hg3 => ql_index_str (s := B) (k := .i64) (n := (i : Int)) (by simp +decide only [go_sem] <;> rfl) (by simp +decide only [go_sem] <;> rfl) Try.underlying9 (by omega) (hg2 (hlt hg3))) ?_
  refine goB ?_
  by_cases h33 : (s.drop i).head? = some 33
  · rw [if_pos h33] at hR
    have h33 := hh.1 h33
    rw [show (bif decide ((i : Int) < (B.size : Int)) then decide ((d.toNat : Int) = 33) else false) = true by rw [decide_eq_true (by omega), h33.2]; rfl]
    refine ift_ ?_
    have i1 := i1 (by omega) hl (by omega)
    rcases hU2 : unitG n (s.drop (i + 1)) with ⟨⟨o2, s2, l2⟩, j⟩
    rw [hU2] at i1 hR
    rw [encX_mk] at i1
    simp only at i1 hR
    subst hR
    refine goB ?_
    rw [wrap_succ (by omega)]
    refine callA (i1) ?_
    refine goB ?_
    refine bldA pl24 zero24 ?_
    refine goB ?_
    simp only [encX_mk, List.map_cons, List.map_nil]
    exact ⟨[.agg [.int 8, str ByteArray.empty, .lst [.agg [.int o2, str s2, .lst (l2.map encX)]]], .int (ixr s j)], by kernel_rfl, .pu (Pu_tup2 (show Pu (.agg [.int 8, str ByteArray.empty, .lst [.agg [.int o2, str s2, .lst (l2.map encX)]]]) by have := Pu_enc (.mk 8 ByteArray.empty [.mk o2 s2 l2]); simpa only [encX_mk, List.map_cons, List.map_nil] using this) (.base _))⟩
  rw [if_neg h33] at hR
  have h33 : ¬ (i < s.length ∧ d = 33) := fun h => h33 (hh.2 h)
  have hE : (bif decide ((i : Int) < (B.size : Int)) then decide ((d.toNat : Int) = 33) else false) = false := by
    cases hb : (bif decide ((i : Int) < (B.size : Int)) then decide ((d.toNat : Int) = 33) else false) with
    | false => rfl
    | true =>
      exfalso
      simp at hb
      exact h33 ⟨by omega, UInt8.toNat_inj.1 (by show d.toNat = 33; omega)⟩
  rw [hE]
  refine iff_ ?_
  have hjs := hjs (s.drop i)
  rcases hJ2 : atomG (joinG (unitG n)) (s.drop i) with ⟨⟨o2, s2, l2⟩, j⟩
  rw [hJ2] at i2 hR hjs
  rw [encX_mk] at i2
  simp only at i2 hR hjs
  refine goB ?_
  refine callA (i2) ?_
  rcases j with _ | l3
  · simp only at hR
    subst hR
    rw [show ixr s none = -1 from rfl]
    refine goB ?_
    refine gxA (chr 0) ?_
    refine goB ?_
    refine iff_ ?_
    refine goB ?_
    rw [encX_mk]
    exact ⟨[.agg [.int o2, str s2, .lst (l2.map encX)], .int (-1)], by kernel_rfl, .pu (Pu_tup2 (Pu_aggX _ _ _) (.base _))⟩
  obtain ⟨m, hm, rfl⟩ := sfx_drop ((hjs l3 rfl).1.trans (List.drop_suffix _ _))
  rw [ixr_drop hm]
  simp only at hR
  refine goB ?_
  by_cases hm2 : m < s.length
  · have hg4 := hgt m hm2
    have hdc := drop_cons hm2
    rw [hdc, List.head?_cons, List.tail_cons] at hR
    generalize s[m] = e at *
    rw [show decide ((m : Int) < (B.size : Int)) = true from decide_eq_true (by omega)]
    try simp only [cond_false, cond_true]
    refine ARun.gl (v := chr e) rfl rfl (by simp +decide only [go_sem] <;> rfl) (fun hg3 => ql_index_str (s := B) (k := .i64) (n := (m : Int)) (by simp +decide only [go_sem] <;> rfl) (by simp +decide only [go_sem] <;> rfl) Try.underlying9 (by omega) hg4) ?_
    refine goB ?_
    refine ifA (fun he => ?_) (fun he => ?_)
    · have he : e = 42 := UInt8.toNat_inj.1 (by show e.toNat = 42; simp at he; omega)
      rw [if_pos (by rw [he])] at hR
      subst hR
      refine goB ?_
      refine bldA pl24 zero24 ?_
      refine goB ?_
      rw [wrap_succ (by omega), ixr_drop (by omega)]
      simp only [encX_mk, List.map_cons, List.map_nil]
      exact ⟨[.agg [.int 6, str ByteArray.empty, .lst [.agg [.int o2, str s2, .lst (l2.map encX)]]], .int (m + 1 : Nat)], by kernel_rfl, .pu (Pu_tup2 (show Pu (.agg [.int 6, str ByteArray.empty, .lst [.agg [.int o2, str s2, .lst (l2.map encX)]]]) by have := Pu_enc (.mk 6 ByteArray.empty [.mk o2 s2 l2]); simpa only [encX_mk, List.map_cons, List.map_nil] using this) (.base _))⟩
    have he : e ≠ 42 := fun h => by rw [h] at he; simp at he
    rw [if_neg (fun h => he (by injection h)), ← hdc] at hR
    subst hR
    refine goB ?_
    rw [ixr_drop hm, encX_mk]
    exact ⟨[.agg [.int o2, str s2, .lst (l2.map encX)], .int m], by kernel_rfl, .pu (Pu_tup2 (Pu_aggX _ _ _) (.base _))⟩
  have hm2 : m = s.length := by omega
  have hnil : s.drop m = [] := List.drop_eq_nil_of_le (by omega)
  rw [hnil, if_neg (by simp), ← hnil] at hR
  subst hR
  rw [show decide ((m : Int) < (B.size : Int)) = false from decide_eq_false (by omega)]
  try simp only [cond_false, cond_true]
  refine gxA (chr 0) ?_
  refine goB ?_
  refine iff_ ?_
  refine goB ?_
  rw [ixr_drop hm, encX_mk]
  exact ⟨[.agg [.int o2, str s2, .lst (l2.map encX)], .int m], by kernel_rfl, .pu (Pu_tup2 (Pu_aggX _ _ _) (.base _))⟩
end Go.Ab
set_option maxHeartbeats 4000000
namespace Go.Ab
open Go Go.Ab Go.Proofs Go.Ab.Ty

/-! ### joined -/
theorem Wk.envH {n : Fr} {E E2 : Env} {H H2 : List ABlk} (hH : H = H2) (h : WkE E E2) : Wk n ⟨E, H⟩ ⟨E2, H2⟩ := by subst hH; exact .env' h
theorem join_of (n : Nat) (hU : UnitC n) : JoinC n := by
  intro s i hi hl hn
  obtain ⟨R, hR⟩ : ∃ R, R = joinG (unitG n) (s.drop i) := ⟨_, rfl⟩
  rw [← hR]
  have hsz := bsL_size s
  have hgt := fun k (h : k < s.length) => bsL_get h
  have i1 := hU s i hi hl hn
  have hjs := (unitG_sfx n).ends
  have hlen1 : (s.drop i).length = s.length - i := List.length_drop
  unfold joinG at hR
  have hU1 := hU s
  generalize bsL s = B at *
  have hjs1 := hjs (s.drop i)
  rcases hU2 : unitG n (s.drop i) with ⟨⟨o1, s1, l1⟩, j⟩
  rw [hU2] at i1 hR hjs1
  rw [encX_mk] at i1
  simp only at i1 hR hjs1
  refine Fn.intro' [(0, str B), (1, .int i)] 2 89 Try.func80 (by kernel_rfl) rfl rfl rfl rfl rfl ?_
  refine goB ?_
  refine callA (i1) ?_
  rcases j with _ | l3
  · simp only at hR
    subst hR
    rw [show ixr s none = -1 from rfl]
    refine goB ?_
    refine gxA (chr 0) ?_
    refine goB ?_
    refine ift_ ?_
    refine goB ?_
    rw [encX_mk]
    exact ⟨[.agg [.int o1, str s1, .lst (l1.map encX)], .int (-1)], by kernel_rfl, .pu (Pu_tup2 (Pu_aggX _ _ _) (.base _))⟩
  obtain ⟨m, hm, hl3⟩ := sfx_drop ((hjs1 l3 rfl).1.trans (List.drop_suffix _ _))
  have hmn : l3.length < (s.drop i).length := (hjs1 l3 rfl).2
  subst hl3
  rw [ixr_drop hm]
  simp only at hR
  refine goB ?_
  by_cases hm2 : m < s.length
  · have hg4 := hgt m hm2
    have hdc := drop_cons hm2
    rw [show decide ((m : Int) < 0) = false from decide_eq_false (by omega), show decide ((m : Int) = (B.size : Int)) = false from decide_eq_false (by omega)]
    try simp only [cond_false, cond_true]
    refine ARun.gl (v := chr s[m]) rfl rfl (by simp +decide only [go_sem] <;> rfl) (fun hg3 => ql_index_str (s := B) (k := .i64) (n := (m : Int)) (by simp +decide only [go_sem] <;> rfl) (by simp +decide only [go_sem] <;> rfl) Try.underlying9 (by omega) hg4) ?_
    refine goB ?_
    refine ifA (fun he => ?_) (fun he => ?_)
    · have he : s[m] = 41 := UInt8.toNat_inj.1 (by show s[m].toNat = 41; simp at he; omega)
      rw [if_pos (.inr (by rw [hdc, he]; rfl))] at hR
      subst hR
      refine goB ?_
      rw [ixr_drop hm, encX_mk]
      exact ⟨[.agg [.int o1, str s1, .lst (l1.map encX)], .int m], by kernel_rfl, .pu (Pu_tup2 (Pu_aggX _ _ _) (.base _))⟩
    have he : s[m] ≠ 41 := fun h => by rw [h] at he; simp at he
    rw [if_neg (fun h => by
      rcases h with h | h
      · rw [hdc] at h; cases h
      · rw [hdc, List.head?_cons] at h; exact he (by injection h))] at hR
    obtain ⟨op, hop⟩ : ∃ op, op = opF ((s.drop m).headD 0) := ⟨_, rfl⟩
    have hcs := opF_cases ((s.drop m).headD 0)
    rw [← hop] at hR hcs
    refine goB ?_
    refine ARun.q1 rfl rfl (ql_index_str rfl rfl Try.underlying9 (by omega) hg4) ?_
    refine goB ?_
    refine keA [0, 1, 4, 5, 6, 7, 8, 9, 36] ?_
    refine AWp.joinP [(8, if s[m] = 124 then .int 5 else .int 4), (9, if s[m] = 124 then .int 1 else .int 0), (36, .bad)] ?_ ?_
    · refine ifA (fun h1 => ?_) (fun h1 => ?_)
      · have h1 : s[m] = 124 := UInt8.toNat_inj.1 (by show s[m].toNat = 124; simp at h1; omega)
        rw [if_pos h1, if_pos h1]
        refine goB ?_
        exact .wk
      · have h1 : s[m] ≠ 124 := fun e => by rw [e] at h1; simp at h1
        rw [if_neg h1, if_neg h1]
        refine goB ?_
        exact .wk
    refine goB ?_
    refine ARun.q1 rfl rfl (ql_index_str rfl rfl Try.underlying9 (by omega) hg4) ?_
    refine goB ?_
    refine keA [0, 1, 4, 5, 6, 7, 8, 9, 40] ?_
    refine AWp.joinP [(8, .int op), (9, .int (if op = 4 then 0 else 1)), (40, .bad)] ?_ ?_
    · rw [hop, hdc, List.headD_cons]
      unfold opF
      refine ifA (fun h1 => ?_) (fun h1 => ?_)
      · have h1 : s[m] = 38 := UInt8.toNat_inj.1 (by show s[m].toNat = 38; simp at h1; omega)
        rw [h1]
        refine goB ?_
        exact .wk
      · have h1 : s[m] ≠ 38 := fun e => by rw [e] at h1; simp at h1
        by_cases h2 : s[m] = 124
        · simp only [if_pos h2, if_neg h1]
          refine goB ?_
          exact .wk
        · simp only [if_neg h2, if_neg h1]
          refine goB ?_
          exact .wk
    refine goA ?_
    refine ARun.p1 rfl rfl (pl_buildSlice (es := [encX (.mk o1 s1 l1)]) (by decide) Try.underlying22 sz24 (by kernel_rfl) (by decide) (by simp +decide only [go_sem] <;> rfl) (by simp +decide only [List.map, go_sem, encX_mk]) rfl) ?_
    refine goA ?_
    refine bldA pl24 zero24 ?_
    refine goA ?_
    refine keA [0, 4, 5, 6, 7, 9, 10] ?_
    have hst : ∃ st : Nat, (if op = 4 then (0 : Int) else 1) = (st : Int) ∧ st ≤ 1 ∧ ∀ l : List UInt8, (if op = 4 then l else l.tail) = l.drop st := by
      by_cases h : op = 4
      · exact ⟨0, by simp [h], by omega, fun l => by simp [h]⟩
      · exact ⟨1, by simp [h], by omega, fun l => by simp [h, List.drop_one]⟩
    obtain ⟨st, hst1, hst2, hst3⟩ := hst
    have hst4 : st = 1 ↔ op ≠ 4 := by
      by_cases h : op = 4
      · rw [if_pos h] at hst1; constructor
        · intro e; omega
        · intro e; exact absurd h e
      · rw [if_neg h] at hst1; constructor
        · intro _; exact h
        · intro _; omega
    rw [hst1]
    simp only [List.length_cons, List.length_nil, List.length_append, Nat.zero_add, Nat.reduceAdd]
    refine AWp.loopH (J := fun y : Nat × Nat × List Rx × Rx => loopG (unitG n) op y.1 y.2.2.1 (s.drop y.2.1) = R ∧ y.2.1 ≤ s.length ∧ s.length - y.2.1 < y.1 ∧ y.2.2.1.length + y.1 ≤ s.length + 2 ∧ (s.drop y.2.1).length < (s.drop i).length) (fun y => [(7, .int y.2.1)]) (fun y => [zX, ⟨24, 3, [encX y.2.2.2]⟩, xbl y.2.2.1, ⟨24, 3, [.agg [.int op, str ByteArray.empty, .own 2 y.2.2.1.length 0 y.2.2.1.length]]⟩]) (fun y => y.1) ((s.drop m).length + 1, m, [.mk o1 s1 l1], .mk o1 s1 l1) ⟨hR.symm, hm, by simp only [List.length_drop]; omega, by simp only [List.length_drop, List.length_cons, List.length_nil]; omega, hmn⟩ (Wk.envH (by simp +decide [encX_mk] <;> rfl) (by simp +decide only [go_sem, WkE] <;> (repeat' apply And.intro) <;> first | exact Le.refl _ | trivial)) ?_
    rintro ⟨k, p, acc, ⟨o2, s2, l2⟩⟩ ⟨h1, h2, h3, h4, h5⟩
    simp only at h1 h2 h3 h4 h5 ⊢
    rw [encX_mk]
    obtain ⟨k, rfl⟩ : ∃ q, k = q + 1 := ⟨k - 1, by omega⟩
    rw [loopG] at h1
    refine goB ?_
    by_cases hp : p < s.length
    · have hg5 := hgt p hp
      have hdp := drop_cons hp
      rw [show decide ((p : Int) < (B.size : Int)) = true from decide_eq_true (by omega)]
      refine ARun.gl (v := chr s[p]) rfl rfl (by simp +decide only [go_sem] <;> rfl) (fun hg3 => ql_index_str (s := B) (k := .i64) (n := (p : Int)) (by simp +decide only [go_sem] <;> rfl) (by simp +decide only [go_sem] <;> rfl) Try.underlying9 (by omega) hg5) ?_
      refine goB ?_
      refine ifA (fun hc => ?_) (fun hc => ?_)
      · have hc : s[p] ≠ 41 := fun h => by rw [h] at hc; simp at hc
        rw [if_neg (fun h => by
          rcases h with h | h
          · rw [hdp] at h; cases h
          · rw [hdp, List.head?_cons] at h; exact hc (by injection h))] at h1
        refine goB ?_
        refine ARun.gl (v := chr s[p]) rfl rfl (by simp +decide only [go_sem] <;> rfl) (fun hg3 => ql_index_str (s := B) (k := .i64) (n := (p : Int)) (by simp +decide only [go_sem] <;> rfl) (by simp +decide only [go_sem] <;> rfl) Try.underlying9 (by omega) hg5) ?_
        refine goB ?_
        refine ARun.gl (v := chr s[p]) rfl rfl (by simp +decide only [go_sem] <;> rfl) (fun hg3 => ql_index_str (s := B) (k := .i64) (n := (p : Int)) (by simp +decide only [go_sem] <;> rfl) (by simp +decide only [go_sem] <;> rfl) Try.underlying9 (by omega) hg5) ?_
        refine goB ?_
        refine ifA (fun hq => ?_) (fun hq => ?_)
        · have hq : op ≠ 4 ∧ s[p] ≠ 124 ∧ s[p] ≠ 38 := by
            simp at hq
            exact ⟨hst4.1 (by have := hq.1.1; omega), fun e => by rw [e] at hq; simp at hq, fun e => by rw [e] at hq; simp at hq⟩
          rw [if_pos ⟨hq.1, by rw [hdp, List.head?_cons]; intro e; injection e with e; exact hq.2.1 e, by rw [hdp, List.head?_cons]; intro e; injection e with e; exact hq.2.2 e⟩] at h1
          subst h1
          refine goB ?_
          refine bldA pl24 zero24 ?_
          refine goB ?_
          exact ⟨[.agg [.int 0, str ByteArray.empty, .base (.slice none 0 0)], .int (-1)], by kernel_rfl, Pub.tup' ⟨Pub.agg' (show PubL _ 0 [_, _, _] [_, _, _] from ⟨.pu (.base _), .pu (.base _), .nilS, trivial⟩), .pu (.base _), trivial⟩⟩
        have hq : ¬ (op ≠ 4 ∧ (s.drop p).head? ≠ some 124 ∧ (s.drop p).head? ≠ some 38) := fun h => by
          rw [hdp, List.head?_cons] at h
          have e1 := hst4.2 h.1
          have e2 : s[p] ≠ 124 := fun e => h.2.1 (by rw [e])
          have e3 : s[p] ≠ 38 := fun e => h.2.2 (by rw [e])
          simp [e1] at hq
          have e4 : ¬ ((s[p].toNat : Int) = 124) := fun e => e2 (UInt8.toNat_inj.1 (by show _ = 124; omega))
          exact e3 (UInt8.toNat_inj.1 (by have := hq e4; show _ = 38; omega))
        rw [if_neg hq, hst3, List.drop_drop] at h1
        have hlp : (s.drop (p + st)).length ≤ (s.drop p).length := by simp only [List.length_drop]; omega
        have i2 := hU1 (p + st) (by omega) hl (by omega)
        have hjs2 := hjs (s.drop (p + st))
        rcases hU3 : unitG n (s.drop (p + st)) with ⟨⟨o3, s3, l3⟩, j⟩
        rw [hU3] at i2 h1 hjs2
        rw [encX_mk] at i2
        simp only at i2 h1 hjs2
        refine goB ?_
        rw [show IntKind.i64.wrap ((p : Int) + (st : Int)) = ((p + st : Nat) : Int) by rw [wrap_id (by omega) (by omega)]; omega]
        refine callA (i2) ?_
        rcases j with _ | l4
        · simp only at h1
          subst h1
          rw [show ixr s none = -1 from rfl]
          refine goB ?_
          refine ift_ ?_
          refine goB ?_
          refine bldA pl24 zero24 ?_
          refine goB ?_
          exact ⟨[.agg [.int 0, str ByteArray.empty, .base (.slice none 0 0)], .int (-1)], by kernel_rfl, Pub.tup' ⟨Pub.agg' (show PubL _ 0 [_, _, _] [_, _, _] from ⟨.pu (.base _), .pu (.base _), .nilS, trivial⟩), .pu (.base _), trivial⟩⟩
        obtain ⟨q, hq2, hl4⟩ := sfx_drop ((hjs2 l4 rfl).1.trans (List.drop_suffix _ _))
        have hql : l4.length < (s.drop (p + st)).length := (hjs2 l4 rfl).2
        subst hl4
        rw [ixr_drop hq2]
        simp only at h1
        simp only [List.length_drop] at hql h5 hlp hmn
        refine goB ?_
        refine iffd_ rfl (by omega) ?_
        refine goA ?_
        refine bslA Try.underlying22 sz24 ?_
        refine ARun.p1 rfl rfl (pl_appX (b := 2) (A := acc) (B := [.mk o3 s3 l3]) (by simp +decide only [go_sem] <;> rfl) (by simp +decide only [go_sem, List.map, encX_mk] <;> rfl) rfl (by simp; omega)) ?_
        refine goA ?_
        refine ⟨(k, q, acc ++ [.mk o3 s3 l3], .mk o3 s3 l3), ⟨h1, hq2, by simp only; omega, by simp only [List.length_append, List.length_cons, List.length_nil]; omega, by simp only [List.length_drop]; omega⟩, by simp only; omega, Wk.envH (by simp +decide [encX_mk] <;> rfl) (by simp +decide only [go_sem, WkE] <;> (repeat' apply And.intro) <;> first | exact Le.refl _ | trivial)⟩
      have hc : s[p] = 41 := UInt8.toNat_inj.1 (by show s[p].toNat = 41; simp at hc; omega)
      rw [if_pos (.inr (by rw [hdp, hc]; rfl))] at h1
      subst h1
      refine goB ?_
      rw [ixr_drop h2, encX_mk]
      exact ⟨[.agg [.int op, str ByteArray.empty, .own 2 acc.length 0 acc.length], .int p], by kernel_rfl, Pub.tup' ⟨Pub.agg' (show PubL _ 0 [_, _, _] [_, _, _] from ⟨.pu (.base _), .pu (.base _), Pub.ownM (f := encX) (l := acc) (by decide) rfl rfl (fun x _ c hc => Pu_Xc x c hc), trivial⟩), .pu (.base _), trivial⟩⟩
    have hp : p = s.length := by omega
    rw [if_pos (.inl (List.drop_eq_nil_of_le (by omega)))] at h1
    subst h1
    rw [show decide ((p : Int) < (B.size : Int)) = false from decide_eq_false (by omega)]
    refine gxA (chr 0) ?_
    refine goB ?_
    refine iff_ ?_
    refine goB ?_
    rw [ixr_drop h2, encX_mk]
    exact ⟨[.agg [.int op, str ByteArray.empty, .own 2 acc.length 0 acc.length], .int p], by kernel_rfl, Pub.tup' ⟨Pub.agg' (show PubL _ 0 [_, _, _] [_, _, _] from ⟨.pu (.base _), .pu (.base _), Pub.ownM (f := encX) (l := acc) (by decide) rfl rfl (fun x _ c hc => Pu_Xc x c hc), trivial⟩), .pu (.base _), trivial⟩⟩
  have hm2 : m = s.length := by omega
  have hnil : s.drop m = [] := List.drop_eq_nil_of_le (by omega)
  rw [if_pos (.inl hnil)] at hR
  subst hR
  rw [show decide ((m : Int) < 0) = false from decide_eq_false (by omega), show decide ((m : Int) = (B.size : Int)) = true from decide_eq_true (by omega)]
  try simp only [cond_false, cond_true]
  refine gxA (chr 0) ?_
  refine goB ?_
  refine ift_ ?_
  refine goB ?_
  rw [ixr_drop hm, encX_mk]
  exact ⟨[.agg [.int o1, str s1, .lst (l1.map encX)], .int m], by kernel_rfl, .pu (Pu_tup2 (Pu_aggX _ _ _) (.base _))⟩
end Go.Ab
