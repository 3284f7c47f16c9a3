/- Part of the proof. -/
import Derived.Test.YtjfahhbobiiphaaYD
import Derived.Test.YtjfahhbobiiphaaYA
import Derived.Test.YtjfahhbobiiphaaAbL
set_option linter.unusedSimpArgs false
set_option linter.unusedVariables false
set_option maxHeartbeats 4000000
namespace Go.Ab
open Go Go.Ab Go.Proofs Go.Ab.Ty

/-! ### the document's reader walked: set -/
def ixr (s : List UInt8) : Option (List UInt8) → Int
  | none => -1
  | some l => ((s.length - l.length : Nat) : Int)
theorem drop_cons {s : List UInt8} {k : Nat} (h : k < s.length) : s.drop k = s[k] :: s.drop (k + 1) := List.drop_eq_getElem_cons h
theorem bsL_get {s : List UInt8} {k : Nat} (h : k < s.length) : (bsL s)[k]? = some s[k] := by
  rw [bs_get (by rw [bsL_size]; exact h)]; rfl
theorem ixr_drop {s : List UInt8} {k : Nat} (h : k ≤ s.length) : ixr s (some (s.drop k)) = k := by
  simp only [ixr, List.length_drop]; omega
theorem refset_ok (s : List UInt8) (i : Nat) (hi : i ≤ s.length) (hl : s.length ≤ 1000000) : Fn Try.prog 148 [str (bsL s), .int i] (.tup [encX (setG [] (s.drop i)).1, .int (ixr s (setG [] (s.drop i)).2)]) := by
  obtain ⟨R, hR⟩ : ∃ R, R = setG [] (s.drop i) := ⟨_, rfl⟩
  rw [← hR]
  have hsz := bsL_size s
  have hgt := fun k (h : k < s.length) => bsL_get h
  generalize bsL s = B at *
  refine Fn.intro' [(0, str B), (1, .int i)] 2 52 Try.func148 (by kernel_rfl) rfl rfl rfl rfl rfl ?_
  refine goB ?_
  refine keA [0, 1, 4, 5, 6] ?_
  refine AWp.weaken (Wk.nil (E2 := [(0, str B), (1, .int i), (4, .ptr 0 1 0 0), (5, .int 0), (6, .own 1 0 0 0)]) 5 1 (by simp [lk, Le.refl])) ?_
  refine AWp.loopH (J := fun y : Nat × List UInt8 => setG y.2 (s.drop y.1) = R ∧ y.1 ≤ s.length ∧ y.2.length ≤ y.1) (fun y => [(1, .int y.1), (6, .own 1 y.2.length 0 y.2.length)]) (fun y => [zX, ubl y.2]) (fun y => s.length - y.1) (i, []) ⟨hR.symm, hi, by simp⟩ .wk ?_
  rintro ⟨k, a⟩ ⟨h1, h2, h3⟩
  simp only at h1 h2 h3 ⊢
  refine goB ?_
  by_cases hk : k < s.length
  · have hg := hgt k hk
    have hle : (s.drop (k + 1)).length = s.length - (k + 1) := List.length_drop
    rw [drop_cons hk, setG_cons] at h1
    generalize s[k] = c at *
    rw [show decide ((k : Int) < (B.size : Int)) = true from decide_eq_true (by omega)]
    refine ARun.gl (v := chr c) rfl rfl (by simp +decide only [go_sem] <;> rfl) (fun hg2 => ql_index_str rfl rfl Try.underlying9 (by omega) hg) ?_
    refine goB ?_
    refine ifA (fun h93 => ?_) (fun h93 => ?_)
    · have h93 : c ≠ 93 := fun e => by rw [e] at h93; simp at h93
      rw [if_neg h93] at h1
      refine goB ?_
      refine ARun.q1 rfl rfl (ql_index_str rfl rfl Try.underlying9 (by omega) hg) ?_
      refine goB ?_
      refine keA [0, 1, 4, 5, 6, 20] ?_
      by_cases h92 : c = 92
      · rw [if_pos h92] at h1
        subst h92
        refine iftd_ rfl (by decide) ?_
        refine goB ?_
        rw [wrap_succ (by omega)]
        by_cases hk2 : k + 1 < s.length
        · have hg2 := hgt (k + 1) hk2
          rw [drop_cons hk2] at h1
          simp only at h1
          generalize s[k + 1] = d at *
          refine iffd_ rfl (by omega) ?_
          refine goB ?_
          refine ARun.q1 rfl rfl (ql_index_str rfl rfl Try.underlying9 (by omega) hg2) ?_
          refine bslA Try.underlying32 sz5 ?_
          refine ARun.p1 rfl rfl (pl_append (b := 1) (tot := a.length) (es := [chr d]) (by simp +decide only [go_sem] <;> rfl) (by simp +decide only [go_sem] <;> rfl) rfl (by simp) Try.underlying32 el5 rfl rfl (by simp) (fun e he => by rw [List.mem_singleton] at he; subst he; exact ⟨rfl, rfl⟩) (by simp; omega) (by simp; omega)) ?_
          refine goB ?_
          rw [wrap_succ (by omega)]
          refine ⟨(k + 2, a ++ [d]), ⟨h1, by simp only; omega, by simp only [List.length_append, List.length_cons, List.length_nil]; omega⟩, by simp only; omega, ?_⟩
          simp only [List.length_append, List.length_cons, List.length_nil, Nat.zero_add]
          rw [show ubl (a ++ [d]) = ⟨5, 1, a.map chr ++ [chr d]⟩ by simp [ubl]]
          exact .wk
        have hk2 : k + 1 = s.length := by omega
        rw [List.drop_eq_nil_of_le (by omega)] at h1
        simp only at h1
        subst h1
        refine iftd_ rfl (by omega) ?_
        refine goB ?_
        refine bldA pl24 zero24 ?_
        refine goB ?_
        exact ⟨[.agg [.int 0, str ByteArray.empty, .base (.slice none 0 0)], .int (-1)], by kernel_rfl, Pub.tup' ⟨Pub.agg' (show PubL _ 0 [_, _, _] [_, _, _] from ⟨.pu (.base _), .pu (.base _), .nilS, trivial⟩), .pu (.base _), trivial⟩⟩
      · rw [if_neg h92] at h1
        refine iffd_ rfl (by intro e; exact h92 (UInt8.toNat_inj.1 (by show c.toNat = 92; omega))) ?_
        refine goB ?_
        refine iffd_ rfl (by omega) ?_
        refine goB ?_
        refine ARun.q1 rfl rfl (ql_index_str rfl rfl Try.underlying9 (by omega) hg) ?_
        refine bslA Try.underlying32 sz5 ?_
        refine ARun.p1 rfl rfl (pl_append (b := 1) (tot := a.length) (es := [chr c]) (by simp +decide only [go_sem] <;> rfl) (by simp +decide only [go_sem] <;> rfl) rfl (by simp) Try.underlying32 el5 rfl rfl (by simp) (fun e he => by rw [List.mem_singleton] at he; subst he; exact ⟨rfl, rfl⟩) (by simp; omega) (by simp; omega)) ?_
        refine goB ?_
        rw [wrap_succ (by omega)]
        refine ⟨(k + 1, a ++ [c]), ⟨h1, by simp only; omega, by simp only [List.length_append, List.length_cons, List.length_nil]; omega⟩, by simp only; omega, ?_⟩
        simp only [List.length_append, List.length_cons, List.length_nil, Nat.zero_add]
        rw [show ubl (a ++ [c]) = ⟨5, 1, a.map chr ++ [chr c]⟩ by simp [ubl]]
        exact .wk
    have h93 : c = 93 := UInt8.toNat_inj.1 (by show c.toNat = 93; simp at h93; omega)
    rw [if_pos h93] at h1
    subst h1
    refine goB ?_
    refine iffd_ rfl (by omega) ?_
    refine goB ?_
    rcases a with _ | ⟨c0, a⟩
    · refine goB ?_
      refine ift_ ?_
      refine goB ?_
      refine bldA pl24 zero24 ?_
      refine goB ?_
      rw [wrap_succ (by omega), ixr_drop (by omega)]
      exact ⟨[.agg [.int 1, str ByteArray.empty, .base (.slice none 0 0)], .int (k + 1 : Nat)], by kernel_rfl, Pub.tup' ⟨Pub.agg' (show PubL _ 0 [_, _, _] [_, _, _] from ⟨.pu (.base _), .pu (.base _), .nilS, trivial⟩), .pu (.base _), trivial⟩⟩
    · have hal : (c0 :: a).length = a.length + 1 := rfl
      refine goB ?_
      refine iffd_ rfl (by omega) ?_
      refine goB ?_
      refine ARun.q1 rfl rfl (ql_bytesStr (b := 1) (l := c0 :: a) (by simp +decide only [go_sem] <;> rfl) (by rfl) rfl Try.underlying32 Try.underlying5 Try.underlying9) ?_
      refine bldA pl24 zero24 ?_
      refine goB ?_
      rw [wrap_succ (by omega), ixr_drop (by omega)]
      exact ⟨[.agg [.int 3, str (bsL (c0 :: a)), .base (.slice none 0 0)], .int (k + 1 : Nat)], by kernel_rfl, Pub.tup' ⟨Pub.agg' (show PubL _ 0 [_, _, _] [_, _, _] from ⟨.pu (.base _), .pu (.base _), .nilS, trivial⟩), .pu (.base _), trivial⟩⟩
  have hk : k = s.length := by omega
  rw [List.drop_eq_nil_of_le (by omega), setG] at h1
  subst h1
  rw [show decide ((k : Int) < (B.size : Int)) = false from decide_eq_false (by omega)]
  refine gxA (chr 0) ?_
  refine goB ?_
  refine iff_ ?_
  refine goB ?_
  refine iftd_ rfl (by omega) ?_
  refine goB ?_
  refine bldA pl24 zero24 ?_
  refine goB ?_
  exact ⟨[.agg [.int 0, str ByteArray.empty, .base (.slice none 0 0)], .int (-1)], by kernel_rfl, Pub.tup' ⟨Pub.agg' (show PubL _ 0 [_, _, _] [_, _, _] from ⟨.pu (.base _), .pu (.base _), .nilS, trivial⟩), .pu (.base _), trivial⟩⟩
end Go.Ab
set_option maxHeartbeats 4000000
namespace Go.Ab
open Go Go.Ab Go.Proofs Go.Ab.Ty

/-! ### atom -/
def UnitC (n : Nat) : Prop := ∀ (s : List UInt8) (i : Nat), i ≤ s.length → s.length ≤ 1000000 → (s.drop i).length < n → Fn Try.prog 110 [str (bsL s), .int i] (.tup [encX (unitG n (s.drop i)).1, .int (ixr s (unitG n (s.drop i)).2)])
def JoinC (n : Nat) : Prop := ∀ (s : List UInt8) (i : Nat), i ≤ s.length → s.length ≤ 1000000 → (s.drop i).length < n → Fn Try.prog 80 [str (bsL s), .int i] (.tup [encX (joinG (unitG n) (s.drop i)).1, .int (ixr s (joinG (unitG n) (s.drop i)).2)])
theorem sfx_drop {s l : List UInt8} (h : l <:+ s) : ∃ m, m ≤ s.length ∧ l = s.drop m := ⟨s.length - l.length, by omega, List.suffix_iff_eq_drop.1 h⟩
theorem drop_head {s : List UInt8} {m : Nat} {c : UInt8} (h : m < s.length) : (s.drop m).head? = some c ↔ s[m] = c := by
  rw [drop_cons h, List.head?_cons]; simp only [Option.some.injEq]
theorem atom_of (n : Nat) (hJ : JoinC n) (s : List UInt8) (i : Nat) (hi : i ≤ s.length) (hl : s.length ≤ 1000000) (hn : (s.drop i).length < n + 1) : Fn Try.prog 132 [str (bsL s), .int i] (.tup [encX (atomG (joinG (unitG n)) (s.drop i)).1, .int (ixr s (atomG (joinG (unitG n)) (s.drop i)).2)]) := by
  obtain ⟨R, hR⟩ : ∃ R, R = atomG (joinG (unitG n)) (s.drop i) := ⟨_, rfl⟩
  rw [← hR]
  have hsz := bsL_size s
  have hgt := fun k (h : k < s.length) => bsL_get h
  have i1 := refset_ok s (i + 1)
  have i2 := hJ s (i + 1)
  have hjs := joinG_sfx (unitG_sfx n)
  have hlen1 : (s.drop i).length = s.length - i := List.length_drop
  have hlen2 : (s.drop (i + 1)).length = s.length - (i + 1) := List.length_drop
  have hex := fun k (h : k < s.length) => show (bsL s).extract k (k + 1) = bsL [s[k]] by
    rw [bsL_ext _ (by rw [bsL_size]; exact h)]; rfl
  generalize bsL s = B at *
  refine Fn.intro' [(0, str B), (1, .int i)] 2 91 Try.func132 (by kernel_rfl) rfl rfl rfl rfl rfl ?_
  refine goB ?_
  by_cases hk : i < s.length
  · have hg := hgt i hk
    rw [drop_cons hk, atomG_cons] at hR
    have hx := hex i hk
    generalize s[i] = c at *
    refine iffd_ rfl (by omega) ?_
    refine goB ?_
    refine ARun.q1 rfl rfl (ql_index_str rfl rfl Try.underlying9 (by omega) hg) ?_
    refine goB ?_
    by_cases h91 : c = 91
    · rw [if_pos h91] at hR
      have i1 := i1 (by omega) hl
      rw [← hR] at i1
      obtain ⟨⟨o2, s2, l2⟩, j⟩ := R
      rw [encX_mk] at i1 ⊢
      refine iftd_ rfl (by rw [h91]; decide) ?_
      refine goB ?_
      rw [wrap_succ (by omega)]
      refine callA (i1) ?_
      refine goB ?_
      exact ⟨[.agg [.int o2, str s2, .lst (l2.map encX)], .int (ixr s j)], by kernel_rfl, .pu (Pu_tup2 (Pu_aggX _ _ _) (.base _))⟩
    rw [if_neg h91] at hR
    have u8n : ∀ d : UInt8, c ≠ d → ¬ ((c.toNat : Int) = (d.toNat : Int)) := fun d h e => h (UInt8.toNat_inj.1 (by omega))
    refine iffd_ rfl (u8n 91 h91) ?_
    refine goB ?_
    refine ARun.q1 rfl rfl (ql_index_str rfl rfl Try.underlying9 (by omega) hg) ?_
    refine goB ?_
    by_cases h40 : c = 40
    · rw [if_pos h40] at hR
      refine iftd_ rfl (by rw [h40]; decide) ?_
      refine goB ?_
      rw [wrap_succ (by omega)]
      have hg2 : i + 1 < s.length → B[i + 1]? = some ((s.drop (i + 1)).headD 0) := fun h => by rw [hgt _ h, drop_cons h]; rfl
      have hh : (s.drop (i + 1)).head? = some 41 ↔ (i + 1 < s.length ∧ (s.drop (i + 1)).headD 0 = 41) := by
        by_cases h : i + 1 < s.length
        · rw [drop_cons h]; simp [h]
        · rw [List.drop_eq_nil_of_le (by omega)]; simp
      have hlt : allL [decide (((i + 1 : Nat) : Int) < (B.size : Int))] = true → i + 1 < s.length := fun h => by
        have h2 : decide (((i + 1 : Nat) : Int) < (B.size : Int)) = true := by
          cases hd : decide (((i + 1 : Nat) : Int) < (B.size : Int)) with
          | true => rfl
          | false => rw [hd] at h; cases h
        have := of_decide_eq_true h2
        omega
      generalize (s.drop (i + 1)).headD 0 = d at *
      refine ARun.gl (v := chr d) rfl rfl (by simp +decide only [go_sem] <;> rfl) (fun hg3 => ql_index_str (s := B) (k := .i64) (n := ((i + 1 : Nat) : Int)) (by simp +decide only [go_sem] <;> rfl) (by simp +decide only [go_sem] <;> rfl) Try.underlying9 (by omega) (hg2 (hlt hg3))) ?_
      refine goB ?_
      by_cases h41 : (s.drop (i + 1)).head? = some 41
      · rw [if_pos h41] at hR
        have h41 := hh.1 h41
        subst hR
        rw [show (bif decide (((i + 1 : Nat) : Int) < (B.size : Int)) then decide ((d.toNat : Int) = 41) else false) = true by rw [decide_eq_true (by omega), h41.2]; rfl]
        refine ift_ ?_
        refine goB ?_
        refine bldA pl24 zero24 ?_
        refine goB ?_
        rw [wrap_id (by omega) (by omega), List.tail_drop, ixr_drop (by omega)]
        exact ⟨[.agg [.int 2, str ByteArray.empty, .base (.slice none 0 0)], .int (i + 2)], by kernel_rfl, Pub.tup' ⟨Pub.agg' (show PubL _ 0 [_, _, _] [_, _, _] from ⟨.pu (.base _), .pu (.base _), .nilS, trivial⟩), .pu (.base _), trivial⟩⟩
      · rw [if_neg h41] at hR
        have h41 : ¬ (i + 1 < s.length ∧ d = 41) := fun h => h41 (hh.2 h)
        have hE : (bif decide (((i + 1 : Nat) : Int) < (B.size : Int)) then decide ((d.toNat : Int) = 41) else false) = false := by
          cases hb : (bif decide (((i + 1 : Nat) : Int) < (B.size : Int)) then decide ((d.toNat : Int) = 41) else false) with
          | false => rfl
          | true =>
            exfalso
            simp at hb
            exact h41 ⟨by omega, UInt8.toNat_inj.1 (by show d.toNat = 41; omega)⟩
        rw [hE]
        refine iff_ ?_
        have i2 := i2 (by omega) hl (by omega)
        have hjs := hjs (s.drop (i + 1))
        rcases hJ2 : joinG (unitG n) (s.drop (i + 1)) with ⟨⟨o2, s2, l2⟩, j⟩
        rw [hJ2] at i2 hR hjs
        rw [encX_mk] at i2
        simp only at i2 hR hjs
        refine goB ?_
        rw [wrap_succ (by omega)]
        refine callA (i2) ?_
        rcases j with _ | l3
        · simp only at hR
          subst hR
          rw [show ixr s none = -1 from rfl]
          refine goB ?_
          refine gxA (chr 0) ?_
          refine goB ?_
          refine ift_ ?_
          refine goB ?_
          refine bldA pl24 zero24 ?_
          refine goB ?_
          exact ⟨[.agg [.int 0, str ByteArray.empty, .base (.slice none 0 0)], .int (-1)], by kernel_rfl, Pub.tup' ⟨Pub.agg' (show PubL _ 0 [_, _, _] [_, _, _] from ⟨.pu (.base _), .pu (.base _), .nilS, trivial⟩), .pu (.base _), trivial⟩⟩
        obtain ⟨m, hm, rfl⟩ := sfx_drop ((hjs l3 rfl).trans (List.drop_suffix _ _))
        rw [ixr_drop hm]
        simp only at hR
        refine goB ?_
        by_cases hm2 : m < s.length
        · have hg4 := hgt m hm2
          rw [drop_cons hm2, List.head?_cons, List.tail_cons] at hR
          generalize s[m] = e at *
          rw [show decide ((m : Int) < 0) = false from decide_eq_false (by omega), show decide ((m : Int) = (B.size : Int)) = false from decide_eq_false (by omega)]
          simp only [cond_false, cond_true]
          refine ARun.gl (v := chr e) rfl rfl (by simp +decide only [go_sem] <;> rfl) (fun hg3 => ql_index_str (s := B) (k := .i64) (n := (m : Int)) (by simp +decide only [go_sem] <;> rfl) (by simp +decide only [go_sem] <;> rfl) Try.underlying9 (by omega) hg4) ?_
          refine goB ?_
          refine ifA (fun he => ?_) (fun he => ?_)
          · have he : e ≠ 41 := fun h => by rw [h] at he; simp at he
            rw [if_neg (fun h => he (by injection h))] at hR
            subst hR
            refine goB ?_
            refine bldA pl24 zero24 ?_
            refine goB ?_
            exact ⟨[.agg [.int 0, str ByteArray.empty, .base (.slice none 0 0)], .int (-1)], by kernel_rfl, Pub.tup' ⟨Pub.agg' (show PubL _ 0 [_, _, _] [_, _, _] from ⟨.pu (.base _), .pu (.base _), .nilS, trivial⟩), .pu (.base _), trivial⟩⟩
          have he : e = 41 := UInt8.toNat_inj.1 (by show e.toNat = 41; simp at he; omega)
          rw [if_pos (by rw [he])] at hR
          subst hR
          refine goB ?_
          rw [wrap_succ (by omega), ixr_drop (by omega), encX_mk]
          exact ⟨[.agg [.int o2, str s2, .lst (l2.map encX)], .int (m + 1 : Nat)], by kernel_rfl, .pu (Pu_tup2 (Pu_aggX _ _ _) (.base _))⟩
        have hm2 : m = s.length := by omega
        rw [List.drop_eq_nil_of_le (by omega), if_neg (by simp)] at hR
        subst hR
        rw [show decide ((m : Int) < 0) = false from decide_eq_false (by omega), show decide ((m : Int) = (B.size : Int)) = true from decide_eq_true (by omega)]
        simp only [cond_false, cond_true]
        refine gxA (chr 0) ?_
        refine goB ?_
        refine ift_ ?_
        refine goB ?_
        refine bldA pl24 zero24 ?_
        refine goB ?_
        exact ⟨[.agg [.int 0, str ByteArray.empty, .base (.slice none 0 0)], .int (-1)], by kernel_rfl, Pub.tup' ⟨Pub.agg' (show PubL _ 0 [_, _, _] [_, _, _] from ⟨.pu (.base _), .pu (.base _), .nilS, trivial⟩), .pu (.base _), trivial⟩⟩
    rw [if_neg h40] at hR
    refine iffd_ rfl (u8n 40 h40) ?_
    refine goB ?_
    refine ARun.q1 rfl rfl (ql_index_str rfl rfl Try.underlying9 (by omega) hg) ?_
    refine goB ?_
    by_cases h92 : c = 92
    · rw [if_pos h92] at hR
      refine iftd_ rfl (by rw [h92]; decide) ?_
      refine goB ?_
      rw [wrap_succ (by omega)]
      by_cases hk2 : i + 1 < s.length
      · have hx2 := hex (i + 1) hk2
        rw [drop_cons hk2] at hR
        simp only at hR
        generalize s[i + 1] = d at *
        subst hR
        refine iffd_ rfl (by omega) ?_
        refine goB ?_
        rw [wrap_succ (by omega)]
        refine ARun.q1 rfl rfl (ql_slice_str (l := i + 1) (h := i + 2) rfl Try.underlying9 (by simp [bnd, lk, go_sem]; omega) (by simp [bnd, lk, go_sem]; omega) (by omega) (by omega)) ?_
        rw [hx2]
        refine bldA pl24 zero24 ?_
        refine goB ?_
        rw [wrap_succ (by omega), ixr_drop (by omega)]
        exact ⟨[.agg [.int 3, str (bsL [d]), .base (.slice none 0 0)], .int (i + 1 + 1)], by kernel_rfl, Pub.tup' ⟨Pub.agg' (show PubL _ 0 [_, _, _] [_, _, _] from ⟨.pu (.base _), .pu (.base _), .nilS, trivial⟩), .pu (.base _), trivial⟩⟩
      have hk2 : i + 1 = s.length := by omega
      rw [List.drop_eq_nil_of_le (by omega)] at hR
      simp only at hR
      subst hR
      refine iftd_ rfl (by omega) ?_
      refine goB ?_
      refine bldA pl24 zero24 ?_
      refine goB ?_
      exact ⟨[.agg [.int 0, str ByteArray.empty, .base (.slice none 0 0)], .int (-1)], by kernel_rfl, Pub.tup' ⟨Pub.agg' (show PubL _ 0 [_, _, _] [_, _, _] from ⟨.pu (.base _), .pu (.base _), .nilS, trivial⟩), .pu (.base _), trivial⟩⟩
    rw [if_neg h92] at hR
    refine iffd_ rfl (u8n 92 h92) ?_
    refine goB ?_
    refine ARun.q1 rfl rfl (ql_index_str rfl rfl Try.underlying9 (by omega) hg) ?_
    have i3 := has_ok (s := ⟨#[92, 40, 41, 91, 93, 124, 38, 42, 33]⟩) (by decide) c
    have hsp := isIn_mem ⟨#[92, 40, 41, 91, 93, 124, 38, 42, 33]⟩ c
    refine callA (i3) ?_
    refine goB ?_
    refine ifA (fun hm => ?_) (fun hm => ?_)
    · have hm : c ∈ spL := by
        have := hsp.1 (by simpa using hm)
        simpa [spL] using this
      rw [if_pos hm] at hR
      subst hR
      refine goB ?_
      refine bldA pl24 zero24 ?_
      refine goB ?_
      exact ⟨[.agg [.int 0, str ByteArray.empty, .base (.slice none 0 0)], .int (-1)], by kernel_rfl, Pub.tup' ⟨Pub.agg' (show PubL _ 0 [_, _, _] [_, _, _] from ⟨.pu (.base _), .pu (.base _), .nilS, trivial⟩), .pu (.base _), trivial⟩⟩
    have hm : c ∉ spL := fun h => by
      have := hsp.2 (by simpa [spL] using h)
      simp [this] at hm
    rw [if_neg hm] at hR
    subst hR
    refine goB ?_
    refine iffd_ rfl (by omega) ?_
    refine goB ?_
    rw [wrap_succ (by omega)]
    refine ARun.q1 rfl rfl (ql_slice_str (l := i) (h := i + 1) rfl Try.underlying9 (by simp [bnd, lk, go_sem]) (by simp [bnd, lk, go_sem]; omega) (by omega) (by omega)) ?_
    rw [hx]
    refine bldA pl24 zero24 ?_
    refine goB ?_
    rw [wrap_succ (by omega), ixr_drop (by omega)]
    exact ⟨[.agg [.int 3, str (bsL [c]), .base (.slice none 0 0)], .int (i + 1 : Nat)], by kernel_rfl, Pub.tup' ⟨Pub.agg' (show PubL _ 0 [_, _, _] [_, _, _] from ⟨.pu (.base _), .pu (.base _), .nilS, trivial⟩), .pu (.base _), trivial⟩⟩
  have hk : i = s.length := by omega
  rw [List.drop_eq_nil_of_le (by omega)] at hR
  have hR : R = (rx0, none) := hR
  subst hR
  refine iftd_ rfl (by omega) ?_
  refine goB ?_
  refine bldA pl24 zero24 ?_
  refine goB ?_
  exact ⟨[.agg [.int 0, str ByteArray.empty, .base (.slice none 0 0)], .int (-1)], by kernel_rfl, Pub.tup' ⟨Pub.agg' (show PubL _ 0 [_, _, _] [_, _, _] from ⟨.pu (.base _), .pu (.base _), .nilS, trivial⟩), .pu (.base _), trivial⟩⟩
end Go.Ab
