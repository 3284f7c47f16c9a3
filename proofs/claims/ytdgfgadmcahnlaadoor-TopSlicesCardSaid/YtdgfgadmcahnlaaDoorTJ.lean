/- Part of the proof. -/
import Derived.Test.YtdgfgadmcahnlaaDoorTI
import Derived.Test.YtdgfgadmcahnlaaDoorAbI
set_option linter.unusedSimpArgs false
set_option linter.unusedVariables false
set_option maxHeartbeats 4000000
namespace Go.Ab
open Go Go.Ab Go.Proofs Go.Ab.Ty

/-! ### the parts of a character, in the document -/
theorem prt_a {c : Int} {l : List Int} (h : rowP 192 65 l6 c = some l) : prt c = some l := by
  have : prB 65 c = some l := by show (match rowP 192 65 l6 c with | some l => some l | none => rowP 200 69 l4 c) = _; rw [h]
  rw [prt, this]
theorem prt_b {c : Int} {l : List Int} (h1 : rowP 192 65 l6 c = none) (h : rowP 200 69 l4 c = some l) : prt c = some l := by
  have : prB 65 c = some l := by show (match rowP 192 65 l6 c with | some l => some l | none => rowP 200 69 l4 c) = _; rw [h1]; exact h
  rw [prt, this]
theorem prB_n {c : Int} (h1 : rowP 192 65 l6 c = none) (h2 : rowP 200 69 l4 c = none) : prB 65 c = none := by
  show (match rowP 192 65 l6 c with | some l => some l | none => rowP 200 69 l4 c) = _; rw [h1]; exact h2
theorem prt_c {c : Int} {l : List Int} (h1 : rowP 192 65 l6 c = none) (h2 : rowP 200 69 l4 c = none) (h : rowP 224 97 l6 c = some l) : prt c = some l := by
  have : prB 97 c = some l := by show (match rowP 224 97 l6 c with | some l => some l | none => rowP 232 101 l4 c) = _; rw [h]
  rw [prt, prB_n h1 h2, this]
theorem prt_d {c : Int} {l : List Int} (h1 : rowP 192 65 l6 c = none) (h2 : rowP 200 69 l4 c = none) (h3 : rowP 224 97 l6 c = none) (h : rowP 232 101 l4 c = some l) : prt c = some l := by
  have : prB 97 c = some l := by show (match rowP 224 97 l6 c with | some l => some l | none => rowP 232 101 l4 c) = _; rw [h3]; exact h
  rw [prt, prB_n h1 h2, this]
theorem prt_e {c : Int} (h1 : rowP 192 65 l6 c = none) (h2 : rowP 200 69 l4 c = none) (h3 : rowP 224 97 l6 c = none) (h4 : rowP 232 101 l4 c = none) : prt c = prT c := by
  have : prB 97 c = none := by show (match rowP 224 97 l6 c with | some l => some l | none => rowP 232 101 l4 c) = _; rw [h3]; exact h4
  rw [prt, prB_n h1 h2, this]
def prL (c : Int) : List Int := (prt c).getD []
theorem Pu_intL (l : List Int) : Pu (.lst (l.map AV.int)) := .lst fun e he c hc => by
  obtain ⟨x, _, rfl⟩ := List.mem_map.1 he
  exact Pu_cI x c hc
theorem two_ok (c : Int) (hc : 0 ≤ c ∧ c < 2097152) : Fn Tryd.prog 114 [.int c] (.lst ((prL c).map AV.int)) := by
  have w := fun l h => within_ok c l h
  have w1 := w [(192, 197)] (by decide)
  have w2 := w [(200, 203)] (by decide)
  have w3 := w [(224, 229)] (by decide)
  have w4 := w [(232, 235)] (by decide)
  have w5 := w [(44032, 55203)] (by decide)
  rw [inS_one] at w1 w2 w3 w4 w5
  simp only [flat, List.map] at w1 w2 w3 w4 w5
  obtain ⟨R, hR⟩ : ∃ R, R = prL c := ⟨_, rfl⟩
  rw [← hR]
  unfold prL at hR
  refine Fn.intro' [(0, .int c)] 1 85 Tryd.func114 (by kernel_rfl) rfl rfl rfl rfl rfl ?_
  refine goA ?_
  refine bslA Tryd.underlying37 sz3d ?_
  refine goA ?_
  refine bslA Tryd.underlying37 sz3d ?_
  refine goA ?_
  refine bslA Tryd.underlying37 sz3d ?_
  refine goA ?_
  refine callA (w1) ?_
  refine goA ?_
  refine ifA (fun c1 => ?_) (fun c1 => ?_)
  · have c1 := of_decide_eq_true c1
    have hrow : rowP 192 65 l6 c = some [65, nth 0 l6 (c - 192)] := by rw [rowP, if_pos (by simp [l6]; omega)]
    refine goA ?_
    rw [wrap_id (by omega) (by omega)]
    refine ARun.q1 rfl rfl (ql_idxI (l := l6) (f := AV.int) (n := c - 192) (by simp +decide only [go_sem] <;> rfl) (by simp +decide only [go_sem] <;> rfl) Tryd.underlying37 (by omega) (by simp [l6]; omega) (by kernel_rfl)) ?_
    refine goA ?_
    refine bslA Tryd.underlying37 sz3d ?_
    refine goA ?_
    exact Ret.data rfl (by rw [hR, prt_a hrow]; rfl) (Pu_intL _)
  have c1 := of_decide_eq_false c1
  have n1 : rowP 192 65 l6 c = none := by rw [rowP, if_neg (by simp [l6]; omega)]
  refine goA ?_
  refine bslA Tryd.underlying37 sz3d ?_
  refine goA ?_
  refine callA (w2) ?_
  refine goA ?_
  refine ifA (fun c2 => ?_) (fun c2 => ?_)
  · have c2 := of_decide_eq_true c2
    have hrow : rowP 200 69 l4 c = some [69, nth 0 l4 (c - 200)] := by rw [rowP, if_pos (by simp [l4]; omega)]
    refine goA ?_
    rw [wrap_id (by omega) (by omega)]
    refine ARun.q1 rfl rfl (ql_idxI (l := l4) (f := AV.int) (n := c - 200) (by simp +decide only [go_sem] <;> rfl) (by simp +decide only [go_sem] <;> rfl) Tryd.underlying37 (by omega) (by simp [l4]; omega) (by kernel_rfl)) ?_
    refine goA ?_
    refine bslA Tryd.underlying37 sz3d ?_
    refine goA ?_
    exact Ret.data rfl (by rw [hR, prt_b n1 hrow]; rfl) (Pu_intL _)
  have c2 := of_decide_eq_false c2
  have n2 : rowP 200 69 l4 c = none := by rw [rowP, if_neg (by simp [l4]; omega)]
  refine goA ?_
  refine bslA Tryd.underlying37 sz3d ?_
  refine goA ?_
  refine callA (w3) ?_
  refine goA ?_
  refine ifA (fun c3 => ?_) (fun c3 => ?_)
  · have c3 := of_decide_eq_true c3
    have hrow : rowP 224 97 l6 c = some [97, nth 0 l6 (c - 224)] := by rw [rowP, if_pos (by simp [l6]; omega)]
    refine goA ?_
    rw [wrap_id (by omega) (by omega)]
    refine ARun.q1 rfl rfl (ql_idxI (l := l6) (f := AV.int) (n := c - 224) (by simp +decide only [go_sem] <;> rfl) (by simp +decide only [go_sem] <;> rfl) Tryd.underlying37 (by omega) (by simp [l6]; omega) (by kernel_rfl)) ?_
    refine goA ?_
    refine bslA Tryd.underlying37 sz3d ?_
    refine goA ?_
    exact Ret.data rfl (by rw [hR, prt_c n1 n2 hrow]; rfl) (Pu_intL _)
  have c3 := of_decide_eq_false c3
  have n3 : rowP 224 97 l6 c = none := by rw [rowP, if_neg (by simp [l6]; omega)]
  refine goA ?_
  refine bslA Tryd.underlying37 sz3d ?_
  refine goA ?_
  refine callA (w4) ?_
  refine goA ?_
  refine ifA (fun c4 => ?_) (fun c4 => ?_)
  · have c4 := of_decide_eq_true c4
    have hrow : rowP 232 101 l4 c = some [101, nth 0 l4 (c - 232)] := by rw [rowP, if_pos (by simp [l4]; omega)]
    refine goA ?_
    rw [wrap_id (by omega) (by omega)]
    refine ARun.q1 rfl rfl (ql_idxI (l := l4) (f := AV.int) (n := c - 232) (by simp +decide only [go_sem] <;> rfl) (by simp +decide only [go_sem] <;> rfl) Tryd.underlying37 (by omega) (by simp [l4]; omega) (by kernel_rfl)) ?_
    refine goA ?_
    refine bslA Tryd.underlying37 sz3d ?_
    refine goA ?_
    exact Ret.data rfl (by rw [hR, prt_d n1 n2 n3 hrow]; rfl) (Pu_intL _)
  have c4 := of_decide_eq_false c4
  have n4 : rowP 232 101 l4 c = none := by rw [rowP, if_neg (by simp [l4]; omega)]
  refine goA ?_
  rw [prt_e n1 n2 n3 n4] at hR
  unfold prT at hR
  refine ifA (fun c5 => ?_) (fun c5 => ?_)
  · have c5 := of_decide_eq_true c5
    refine goA ?_
    refine bslA Tryd.underlying37 sz3d ?_
    refine goA ?_
    exact Ret.data rfl (by rw [hR, if_pos c5]; rfl) (Pu_intL _)
  have c5 := of_decide_eq_false c5
  rw [if_neg c5] at hR
  refine goA ?_
  refine ifA (fun c6 => ?_) (fun c6 => ?_)
  · have c6 := of_decide_eq_true c6
    refine goA ?_
    refine bslA Tryd.underlying37 sz3d ?_
    refine goA ?_
    exact Ret.data rfl (by rw [hR, if_pos c6]; rfl) (Pu_intL _)
  have c6 := of_decide_eq_false c6
  rw [if_neg c6] at hR
  refine goA ?_
  refine ifA (fun c7 => ?_) (fun c7 => ?_)
  · have c7 := of_decide_eq_true c7
    refine goA ?_
    refine bslA Tryd.underlying37 sz3d ?_
    refine goA ?_
    exact Ret.data rfl (by rw [hR, if_pos c7]; rfl) (Pu_intL _)
  have c7 := of_decide_eq_false c7
  rw [if_neg c7] at hR
  refine goA ?_
  refine bslA Tryd.underlying37 sz3d ?_
  refine goA ?_
  refine callA (w5) ?_
  refine goA ?_
  refine ifA (fun c8 => ?_) (fun c8 => ?_)
  · have c8 := of_decide_eq_true c8
    rw [if_pos c8] at hR
    refine keA [0, 2] ?_
    refine goA ?_
    obtain ⟨d, hd⟩ : ∃ d, d = c - 44032 := ⟨_, rfl⟩
    rw [← hd] at hR
    have e1 : IntKind.i64.wrap (c - 44032) = d := by rw [wrap_id (by omega) (by omega), hd]
    have e2 : d.tdiv 588 = d / 588 := Int.tdiv_eq_ediv_of_nonneg (by omega)
    have e3 : d.tmod 588 = d % 588 := Int.tmod_eq_emod_of_nonneg (by omega)
    have e4 : (d % 588).tdiv 28 = d % 588 / 28 := Int.tdiv_eq_ediv_of_nonneg (by omega)
    have e5 : d.tmod 28 = d % 28 := Int.tmod_eq_emod_of_nonneg (by omega)
    have w1 : IntKind.i64.wrap (d / 588) = d / 588 := wrap_id (by omega) (by omega)
    have w2 : IntKind.i64.wrap (4352 + d / 588) = 4352 + d / 588 := wrap_id (by omega) (by omega)
    have w3 : IntKind.i64.wrap (d % 588 / 28) = d % 588 / 28 := wrap_id (by omega) (by omega)
    have w4 : IntKind.i64.wrap (4449 + d % 588 / 28) = 4449 + d % 588 / 28 := wrap_id (by omega) (by omega)
    have w5 : IntKind.i64.wrap (4519 + d % 28) = 4519 + d % 28 := wrap_id (by omega) (by omega)
    simp only [e1, e2, e3, e4, w1, w2, w3, w4]
    refine ARun.p1 rfl rfl (pl_buildSlice (by decide) Tryd.underlying37 sz3d (by kernel_rfl) (by decide) (by simp +decide only [go_sem] <;> rfl) (by simp +decide only [go_sem] <;> rfl) (by rfl)) ?_
    refine goA ?_
    refine ifA (fun c9 => ?_) (fun c9 => ?_)
    · have h5 : ¬ d % 28 = 0 := by simp at c9; rw [e5] at c9; exact c9
      refine goA ?_
      simp only [e5, w5]
      refine bslA Tryd.underlying37 sz3d ?_
      refine goA ?_
      refine ARun.p1 rfl rfl (pl_append (b := 0) (tot := 2) (es := [.int (4519 + d % 28)]) (by simp +decide only [go_sem] <;> rfl) (by simp +decide only [go_sem] <;> rfl) rfl rfl Tryd.underlying37 el3d rfl rfl (by simp) (fun e he => by rw [List.mem_singleton] at he; subst he; exact ⟨rfl, rfl⟩) (by simp) (by simp)) ?_
      refine goA ?_
      exact Ret.pub rfl (by rw [hR]; simp only [hangul, if_neg h5, Option.getD_some]; exact Pub.ownM (l := [4352 + d / 588, 4449 + d % 588 / 28, 4519 + d % 28]) (f := AV.int) (by decide) rfl rfl fun x _ => Pu_cI x)
    · have h5 : d % 28 = 0 := by simp at c9; rw [e5] at c9; exact c9
      refine goA ?_
      exact Ret.pub rfl (by rw [hR]; simp only [hangul, if_pos h5, Option.getD_some]; exact Pub.ownM (l := [4352 + d / 588, 4449 + d % 588 / 28]) (f := AV.int) (by decide) rfl rfl fun x _ => Pu_cI x)
  have c8 := of_decide_eq_false c8
  rw [if_neg c8] at hR
  refine goA ?_
  exact Ret.pub rfl (by rw [hR]; exact Pub.nilS)
end Go.Ab
-- fnh
set_option maxHeartbeats 4000000
namespace Go.Ab
open Go Go.Ab Go.Proofs Go.Ab.Ty

/-! ### a character, taken apart for good -/
def deep : Nat → Int → Prop
  | 0, c => prt c = none
  | n + 1, c => prt c = none ∨ ∃ l, prt c = some l ∧ l ≠ [] ∧ l.length ≤ 3 ∧ ∀ x ∈ l, (0 ≤ x ∧ x < 2097152) ∧ deep n x
def full : Nat → Int → List Int
  | 0, c => [c]
  | n + 1, c => match prt c with
    | none => [c]
    | some l => (l.map (full n)).flatten
theorem full_len : ∀ {n : Nat} {c : Int}, deep n c → (full n c).length ≤ 3 ^ n
  | 0, c, _ => Nat.le_refl _
  | n + 1, c, h => by
    rcases h with h | ⟨l, h, _, hl, hx⟩
    · rw [full, h]; exact Nat.one_le_pow _ _ (by decide)
    · rw [full, h]
      simp only [List.length_flatten, List.map_map]
      have : ∀ l : List Int, (∀ x ∈ l, deep n x) → (l.map (List.length ∘ full n)).sum ≤ l.length * 3 ^ n := by
        intro l
        induction l with
        | nil => intro _; simp
        | cons a r ih =>
          intro h
          have h1 := full_len (h a (by simp))
          have h2 := ih fun x hx => h x (by simp [hx])
          simp only [List.map_cons, List.sum_cons, List.length_cons, Function.comp, Nat.add_mul, Nat.one_mul]
          omega
      have h2 := this l fun x hx' => (hx x hx').2
      have h3 : l.length * 3 ^ n ≤ 3 * 3 ^ n := Nat.mul_le_mul_right _ hl
      rw [Nat.pow_succ]; omega
theorem PuBl_I (l : List Int) : PuBl [⟨3, 1, l.map AV.int⟩] := fun blk h1 e h2 c h3 => by
  rw [List.mem_singleton] at h1; subst h1
  obtain ⟨x, _, rfl⟩ := List.mem_map.1 h2
  exact Pu_cI x c h3
theorem refParts_n (c : Int) (hc : 0 ≤ c ∧ c < 2097152) (hp : prt c = none) (l : List Int) (hl : l.length ≤ 1000000) :
    FnH Tryd.prog 103 [.own 0 l.length 0 l.length, .int c] [⟨3, 1, l.map AV.int⟩] (.own 0 (l ++ [c]).length 0 (l ++ [c]).length) [⟨3, 1, (l ++ [c]).map AV.int⟩] := by
  have i1 := two_ok c hc
  rw [prL, hp] at i1
  refine FnH.intro' [(0, .own 0 l.length 0 l.length), (1, .int c)] 2 29 1 Tryd.func103 (by kernel_rfl) rfl rfl rfl rfl rfl rfl ?_
  refine goD ?_
  refine callA (i1) ?_
  refine goD ?_
  refine ifT ?_
  refine goD ?_
  refine ARun.p1 rfl rfl (pl_append (b := 0) (tot := l.length) (es := [.int c]) (by simp +decide only [go_sem] <;> rfl) (by simp +decide only [go_sem] <;> rfl) rfl (by simp) Tryd.underlying37 el3d rfl rfl (by simp) (fun e he => by rw [List.mem_singleton] at he; subst he; exact ⟨rfl, rfl⟩) (by simp; omega) (by simp; omega)) ?_
  refine goD ?_
  exact RetH.same rfl (by rw [List.length_append]; rfl) (by rw [List.map_append]; rfl)
def fillT (n : Nat) (l p : List Int) (k : Nat) : List Int := l ++ ((p.take k).map (full n)).flatten
theorem fillT_s {n : Nat} {l p : List Int} {k : Nat} (h : k < p.length) : fillT n l p (k + 1) = fillT n l p k ++ full n p[k] := by
  unfold fillT
  rw [List.take_succ_eq_append_getElem h, List.map_append, List.flatten_append, ← List.append_assoc, List.map_cons, List.map_nil, List.flatten_cons, List.flatten_nil, List.append_nil]
theorem fillT_len {n : Nat} {l p : List Int} (hx : ∀ x ∈ p, deep n x) : ∀ {k : Nat}, k ≤ p.length → (fillT n l p k).length ≤ l.length + k * 3 ^ n
  | 0, _ => by simp [fillT]
  | k + 1, h => by
    rw [fillT_s (by omega), List.length_append]
    have h1 := fillT_len (n := n) (l := l) hx (k := k) (by omega)
    have h2 := full_len (hx _ (List.getElem_mem (show k < p.length by omega)))
    rw [Nat.add_mul, Nat.one_mul]; omega
theorem refParts_ok : ∀ (n : Nat) (c : Int), 0 ≤ c ∧ c < 2097152 → deep n c → ∀ l : List Int, l.length + 3 ^ n ≤ 1000000 →
    FnH Tryd.prog 103 [.own 0 l.length 0 l.length, .int c] [⟨3, 1, l.map AV.int⟩] (.own 0 (l ++ full n c).length 0 (l ++ full n c).length) [⟨3, 1, (l ++ full n c).map AV.int⟩] := by
  intro n
  induction n with
  | zero => exact fun c hc hd l hl => refParts_n c hc hd l (by simp at hl; omega)
  | succ n ih =>
    intro c hc hd l hl
    have hl1 : l.length ≤ 1000000 := Nat.le_trans (Nat.le_add_right _ _) hl
    rcases hp : prt c with _ | p
    · have e : full (n + 1) c = [c] := by rw [full, hp]
      rw [e]
      exact refParts_n c hc hp l hl1
    · have e : full (n + 1) c = (p.map (full n)).flatten := by rw [full, hp]
      rcases hd with hd | ⟨p', hd, hne, hlen, hx⟩
      · rw [hp] at hd; cases hd
      rw [hp] at hd; injection hd with hd; subst hd
      have i1 := two_ok c hc
      rw [prL, hp] at i1
      rw [e]
      have hfin : fillT n l p p.length = l ++ (p.map (full n)).flatten := by simp [fillT]
      have hfl := fun k h => fillT_len (n := n) (l := l) (p := p) (fun x hx' => (hx x hx').2) (k := k) h
      have hpow : 3 ^ (n + 1) = 3 ^ n * 3 := Nat.pow_succ ..
      have hpl : 0 < p.length := List.length_pos_iff.2 hne
      refine FnH.intro' [(0, .own 0 l.length 0 l.length), (1, .int c)] 2 29 1 Tryd.func103 (by kernel_rfl) rfl rfl rfl rfl rfl rfl ?_
      simp only [Option.getD_some] at i1
      refine goD ?_
      refine callA (i1) ?_
      refine goD ?_
      refine ifA (fun h => ?_) (fun h => ?_)
      · exfalso; simp at h; exact hne h
      refine goD ?_
      refine keA [0, 4, 5, 6] ?_
      refine AWp.loopH (J := fun k : Nat => k ≤ p.length) (fun k => [(0, .own 0 (fillT n l p k).length 0 (fillT n l p k).length), (6, .int k)]) (fun k => [⟨3, 1, (fillT n l p k).map AV.int⟩]) (fun k => p.length - k) 0 (Nat.zero_le _) (by simp only [fillT, List.take_zero, List.map_nil, List.flatten_nil, List.append_nil]; exact .wk) ?_
      intro k hk
      refine goD ?_
      refine ifA (fun h2 => ?_) (fun h2 => ?_)
      · have h2 := of_decide_eq_true h2
        have hk2 : k < p.length := by omega
        have hg : nth 0 p (k : Int) = p[k] := nth_eq hk2
        have hxx := hx _ (List.getElem_mem hk2)
        have hf := hfl k hk
        have hq : k * 3 ^ n + 3 ^ n ≤ 3 ^ n * 3 := by
          have : (k + 1) * 3 ^ n ≤ 3 * 3 ^ n := Nat.mul_le_mul_right _ (by omega)
          rw [Nat.add_mul, Nat.one_mul] at this; omega
        have i2 := ih p[k] hxx.1 hxx.2 (fillT n l p k) (by omega)
        rw [← fillT_s hk2] at i2
        refine goD ?_
        rw [hg]
        refine goD ?_
        refine ARun.p1 rfl rfl (pl_callH (e := [0]) (d' := .own 0 (fillT n l p (k + 1)).length 0 (fillT n l p (k + 1)).length) i2 (CallE.put1 (b := 0) rfl (PuBl_I _) (PuBl_I _)) rfl (by simp +decide only [go_sem] <;> rfl) (by simp +decide only [go_sem, List.map]; exact ⟨.own rfl, .pu (.base _), trivial⟩) (.own rfl)) ?_
        refine goD ?_
        rw [wrap_succ (by omega)]
        exact ⟨k + 1, by omega, by omega, .wk⟩
      · have h2 := of_decide_eq_false h2
        obtain rfl : k = p.length := by omega
        refine goD ?_
        rw [← hfin]
        exact RetH.same rfl rfl rfl
end Go.Ab
set_option maxHeartbeats 4000000
namespace Go.Ab
open Go Go.Ab Go.Proofs Go.Ab.Ty

/-! ### how deep the parts go -/
theorem rowP_none {f b c : Int} {l : List Int} (h : c < f ∨ f + l.length ≤ c) : rowP f b l c = none := by rw [rowP, if_neg (by omega)]
theorem prt_none {x : Int} (h : (x < 192 ∨ 236 ≤ x) ∧ x ≠ 7845 ∧ x ≠ 7785 ∧ x ≠ 7779 ∧ ¬ (44032 ≤ x ∧ x ≤ 55203)) : prt x = none := by
  rw [prt_e (rowP_none (by simp [l6]; omega)) (rowP_none (by simp [l4]; omega)) (rowP_none (by simp [l6]; omega)) (rowP_none (by simp [l4]; omega)), prT, if_neg h.2.1, if_neg h.2.2.1, if_neg h.2.2.2.1, if_neg h.2.2.2.2]
theorem deep_none {n : Nat} {x : Int} (h : prt x = none) : deep n x := by
  cases n with
  | zero => exact h
  | succ n => exact .inl h
theorem l6_rg (i : Int) : nth 0 l6 i = 0 ∨ (768 ≤ nth 0 l6 i ∧ nth 0 l6 i ≤ 778) := by
  unfold nth l6
  rcases h : i.toNat with _ | _ | _ | _ | _ | _ | n <;> simp
theorem l4_rg (i : Int) : nth 0 l4 i = 0 ∨ (768 ≤ nth 0 l4 i ∧ nth 0 l4 i ≤ 778) := by
  unfold nth l4
  rcases h : i.toNat with _ | _ | _ | _ | n <;> simp
theorem two_deep {n : Nat} {c a b : Int} (h : prt c = some [a, b]) (ha : 0 ≤ a ∧ a < 2097152) (hb : 0 ≤ b ∧ b < 2097152) (da : deep n a) (db : deep n b) : deep (n + 1) c :=
  .inr ⟨_, h, by simp, by simp, fun x hx => by
    simp only [List.mem_cons, List.not_mem_nil, or_false] at hx
    rcases hx with rfl | rfl
    · exact ⟨ha, da⟩
    · exact ⟨hb, db⟩⟩
theorem low_deep {n : Nat} {c : Int} (h : 192 ≤ c ∧ c < 236) : deep (n + 1) c := by
  by_cases c1 : c < 198
  · have r : rowP 192 65 l6 c = some [65, nth 0 l6 (c - 192)] := by rw [rowP, if_pos (by simp [l6]; omega)]
    have := l6_rg (c - 192)
    exact two_deep (prt_a r) (by omega) (by omega) (deep_none (prt_none (by omega))) (deep_none (prt_none (by omega)))
  have n1 : rowP 192 65 l6 c = none := rowP_none (by simp [l6]; omega)
  by_cases c2 : 200 ≤ c ∧ c < 204
  · have r : rowP 200 69 l4 c = some [69, nth 0 l4 (c - 200)] := by rw [rowP, if_pos (by simp [l4]; omega)]
    have := l4_rg (c - 200)
    exact two_deep (prt_b n1 r) (by omega) (by omega) (deep_none (prt_none (by omega))) (deep_none (prt_none (by omega)))
  have n2 : rowP 200 69 l4 c = none := rowP_none (by simp [l4]; omega)
  by_cases c3 : 224 ≤ c ∧ c < 230
  · have r : rowP 224 97 l6 c = some [97, nth 0 l6 (c - 224)] := by rw [rowP, if_pos (by simp [l6]; omega)]
    have := l6_rg (c - 224)
    exact two_deep (prt_c n1 n2 r) (by omega) (by omega) (deep_none (prt_none (by omega))) (deep_none (prt_none (by omega)))
  have n3 : rowP 224 97 l6 c = none := rowP_none (by simp [l6]; omega)
  by_cases c4 : 232 ≤ c ∧ c < 236
  · have r : rowP 232 101 l4 c = some [101, nth 0 l4 (c - 232)] := by rw [rowP, if_pos (by simp [l4]; omega)]
    have := l4_rg (c - 232)
    exact two_deep (prt_d n1 n2 n3 r) (by omega) (by omega) (deep_none (prt_none (by omega))) (deep_none (prt_none (by omega)))
  have n4 : rowP 232 101 l4 c = none := rowP_none (by simp [l4]; omega)
  refine .inl ?_
  rw [prt_e n1 n2 n3 n4, prT, if_neg (by omega), if_neg (by omega), if_neg (by omega), if_neg (by omega)]
theorem high_e {c : Int} (h : 236 ≤ c) : prt c = prT c :=
  prt_e (rowP_none (by simp [l6]; omega)) (rowP_none (by simp [l4]; omega)) (rowP_none (by simp [l6]; omega)) (rowP_none (by simp [l4]; omega))
theorem deep3 (c : Int) : deep 3 c := by
  by_cases c0 : 192 ≤ c ∧ c < 236
  · exact low_deep c0
  by_cases c1 : c = 7779
  · subst c1
    exact two_deep (n := 2) (a := 115) (b := 803) (by rw [high_e (by omega), prT, if_neg (by omega), if_neg (by omega), if_pos rfl]) (by omega) (by omega) (deep_none (prt_none (by omega))) (deep_none (prt_none (by omega)))
  by_cases c2 : c = 7785
  · subst c2
    exact two_deep (n := 2) (a := 7779) (b := 775) (by rw [high_e (by omega), prT, if_neg (by omega), if_pos rfl]) (by omega) (by omega)
      (two_deep (n := 1) (a := 115) (b := 803) (by rw [high_e (by omega), prT, if_neg (by omega), if_neg (by omega), if_pos rfl]) (by omega) (by omega) (deep_none (prt_none (by omega))) (deep_none (prt_none (by omega)))) (deep_none (prt_none (by omega)))
  by_cases c3 : c = 7845
  · subst c3
    exact two_deep (n := 2) (a := 226) (b := 769) (by rw [high_e (by omega), prT, if_pos rfl]) (by omega) (by omega) (low_deep (by omega)) (deep_none (prt_none (by omega)))
  by_cases c4 : 44032 ≤ c ∧ c ≤ 55203
  · refine .inr ⟨hangul (c - 44032), by rw [high_e (by omega), prT, if_neg c3, if_neg c2, if_neg c1, if_pos c4], by simp [hangul], by unfold hangul; split <;> simp, fun x hx => ?_⟩
    have hr : 4352 ≤ x ∧ x < 4600 := by
      unfold hangul at hx
      split at hx <;> simp at hx <;> omega
    exact ⟨by omega, deep_none (prt_none (by omega))⟩
  · exact deep_none (prt_none (by omega))
end Go.Ab
set_option maxHeartbeats 4000000
namespace Go.Ab
open Go Go.Ab Go.Proofs Go.Ab.Ty

/-! ### marks in order: plain -/
def ofRk (r : Int) (l : List Int) : List Int := l.filter fun c => decide (rk c = r)
def byRk (l : List Int) : List Int := ofRk 7 l ++ ofRk 202 l ++ ofRk 220 l ++ ofRk 230 l
def canG (run : List Int) : List Int → List Int
  | [] => byRk run
  | x :: l => if 0 < rk x then canG (run ++ [x]) l else byRk run ++ x :: canG [] l
def canL (l : List Int) : List Int := canG [] l
theorem ofRk_app (r : Int) (a b : List Int) : ofRk r (a ++ b) = ofRk r a ++ ofRk r b := by simp [ofRk]
theorem byRk_congr {a b : List Int} (h : ∀ r, ofRk r a = ofRk r b) : byRk a = byRk b := by simp [byRk, h]
theorem canG_congr : ∀ {l a b : List Int}, (∀ r, ofRk r a = ofRk r b) → canG a l = canG b l
  | [], a, b, h => byRk_congr h
  | x :: l, a, b, h => by
    rw [canG, canG]
    split
    · exact canG_congr fun r => by rw [ofRk_app, ofRk_app, h]
    · rw [byRk_congr h]
theorem ofRk_swap {x y : Int} (h : rk x ≠ rk y) (r : Int) : ofRk r [x, y] = ofRk r [y, x] := by
  simp only [ofRk, List.filter]
  by_cases h1 : rk x = r <;> by_cases h2 : rk y = r <;> simp [h1, h2]
  exact absurd (h1.trans h2.symm) h
theorem canG_swap {x y : Int} (hx : 0 < rk x) (hy : 0 < rk y) (hne : rk x ≠ rk y) (b : List Int) : ∀ (a run : List Int), canG run (a ++ x :: y :: b) = canG run (a ++ y :: x :: b)
  | [], run => by
    simp only [List.nil_append]
    rw [canG, if_pos hx, canG, if_pos hy, canG, if_pos hy, canG, if_pos hx, List.append_assoc, List.append_assoc]
    refine canG_congr fun r => ?_
    have h := ofRk_swap hne r
    rw [ofRk_app r run ([x] ++ [y]), ofRk_app r run ([y] ++ [x])]
    exact congrArg (ofRk r run ++ ·) h
  | z :: a, run => by
    simp only [List.cons_append]
    rw [canG, canG]
    split
    · exact canG_swap hx hy hne b a _
    · rw [canG_swap hx hy hne b a []]
def okL : List Int → Prop
  | [] => True
  | [_] => True
  | x :: y :: l => (rk y = 0 ∨ rk x ≤ rk y) ∧ okL (y :: l)
theorem rk_vals (c : Int) : rk c = 0 ∨ rk c = 7 ∨ rk c = 202 ∨ rk c = 220 ∨ rk c = 230 := by
  unfold rk
  repeat' split
  all_goals simp
theorem byRk_snoc {l : List Int} {x : Int} (h : byRk l = l) (hx : 0 < rk x) (hl : ∀ y ∈ l, rk y ≤ rk x) : byRk (l ++ [x]) = l ++ [x] := by
  have h0 : ∀ r, rk x < r → ofRk r l = [] := fun r hr => List.filter_eq_nil_iff.2 fun y hy => by have := hl y hy; simp; omega
  simp only [byRk, ofRk_app] at h ⊢
  have h1 : ∀ r, rk x = r → ofRk r [x] = [x] := fun r e => by simp [ofRk, e]
  have h2 : ∀ r, rk x ≠ r → ofRk r [x] = [] := fun r e => by simp [ofRk, e]
  rcases rk_vals x with e | e | e | e | e
  · omega
  · rw [h1 7 e, h2 202 (by omega), h2 220 (by omega), h2 230 (by omega)]
    rw [h0 202 (by omega), h0 220 (by omega), h0 230 (by omega)] at h ⊢
    simp at h ⊢; exact h
  · rw [h2 7 (by omega), h1 202 e, h2 220 (by omega), h2 230 (by omega)]
    rw [h0 220 (by omega), h0 230 (by omega)] at h ⊢
    simp at h ⊢; rw [← List.append_assoc, h]
  · rw [h2 7 (by omega), h2 202 (by omega), h1 220 e, h2 230 (by omega)]
    rw [h0 230 (by omega)] at h ⊢
    simp at h ⊢; rw [← List.append_assoc, ← List.append_assoc, List.append_assoc (ofRk 7 l), h]
  · rw [h2 7 (by omega), h2 202 (by omega), h2 220 (by omega), h1 230 e]
    simp at h ⊢; conv => rhs; rw [← h]
    simp
theorem canG_ok : ∀ {l run : List Int}, byRk run = run → (∀ y ∈ run, 0 < rk y) → (∀ z l', l = z :: l' → 0 < rk z → ∀ y ∈ run, rk y ≤ rk z) → okL l → canG run l = run ++ l
  | [], run, h, _, _, _ => by rw [canG, h, List.append_nil]
  | x :: l, run, h, hp, hl, ho => by
    have ho' : okL l := by
      cases l with
      | nil => trivial
      | cons y l => exact ho.2
    rw [canG]
    split
    · rename_i hx
      have hm := hl x l rfl hx
      have := canG_ok (l := l) (run := run ++ [x]) (byRk_snoc h hx hm) (fun y hy => by
        rcases List.mem_append.1 hy with hy | hy
        · exact hp y hy
        · rw [List.mem_singleton] at hy; subst hy; exact hx) (fun z l' e hz y hy => by
        subst e
        have h2 : rk x ≤ rk z := by rcases ho.1 with h | h <;> omega
        rcases List.mem_append.1 hy with hy | hy
        · exact Int.le_trans (hm y hy) h2
        · rw [List.mem_singleton] at hy; subst hy; exact h2) ho'
      rw [this, List.append_assoc]; rfl
    · rename_i hx
      have := canG_ok (l := l) (run := []) rfl (fun y hy => by cases hy) (fun z l' _ _ y hy => by cases hy) ho'
      rw [this, h]; rfl
theorem canL_ok {l : List Int} (h : okL l) : canL l = l := canG_ok rfl (fun y hy => by cases hy) (fun z l' _ _ y hy => by cases hy) h
theorem canL_swap {x y : Int} (hx : 0 < rk x) (hy : 0 < rk y) (hne : rk x ≠ rk y) (a b : List Int) : canL (a ++ x :: y :: b) = canL (a ++ y :: x :: b) := canG_swap hx hy hne b a []
end Go.Ab
set_option maxHeartbeats 4000000
namespace Go.Ab
open Go Go.Ab Go.Proofs Go.Ab.Ty

/-! ### a stable sort of marks: plain -/
def Srt (l : List Int) : Prop := l.Pairwise fun x y => rk x ≤ rk y
def Same (a b : List Int) : Prop := ∀ r, ofRk r a = ofRk r b
def st (l : List Int) : List Int := ofRk 0 l ++ byRk l
theorem ofRk_cons (r x : Int) (l : List Int) : ofRk r (x :: l) = if rk x = r then x :: ofRk r l else ofRk r l := by
  by_cases h : rk x = r
  · rw [if_pos h]; simp [ofRk, h]
  · rw [if_neg h]; simp [ofRk, h]
theorem ofRk_nil (r : Int) : ofRk r [] = [] := rfl
theorem mem_ofRk {r x : Int} {l : List Int} : x ∈ ofRk r l ↔ x ∈ l ∧ rk x = r := by simp [ofRk]
theorem ofRk_ofRk (r q : Int) (l : List Int) : ofRk r (ofRk q l) = if r = q then ofRk r l else [] := by
  by_cases h : r = q
  · subst h; rw [if_pos rfl]; simp [ofRk]
  · rw [if_neg h]
    refine List.filter_eq_nil_iff.2 fun x hx => ?_
    have := (mem_ofRk.1 hx).2
    simp; omega
theorem Same.refl (a : List Int) : Same a a := fun _ => rfl
theorem Same.symm {a b : List Int} (h : Same a b) : Same b a := fun r => (h r).symm
theorem Same.trans {a b c : List Int} (h : Same a b) (k : Same b c) : Same a c := fun r => (h r).trans (k r)
theorem Same.app {a b c d : List Int} (h : Same a b) (k : Same c d) : Same (a ++ c) (b ++ d) := fun r => by rw [ofRk_app, ofRk_app, h, k]
theorem st_congr {a b : List Int} (h : Same a b) : st a = st b := by rw [st, st, h 0, byRk_congr h]
theorem st_same (l : List Int) : Same (st l) l := fun r => by
  rw [st, byRk]
  simp only [ofRk_app, ofRk_ofRk]
  by_cases h : r = 0 ∨ r = 7 ∨ r = 202 ∨ r = 220 ∨ r = 230
  · rcases h with rfl | rfl | rfl | rfl | rfl <;> simp
  · have e : ofRk r l = [] := List.filter_eq_nil_iff.2 fun x hx => by have := rk_vals x; simp; omega
    rw [e]
    simp only [ite_self, List.append_nil]
theorem mem_same {a b : List Int} (h : Same a b) (x : Int) : x ∈ a ↔ x ∈ b := by
  have h1 := h (rk x)
  constructor
  · intro hx
    have : x ∈ ofRk (rk x) a := mem_ofRk.2 ⟨hx, rfl⟩
    rw [h1] at this
    exact (mem_ofRk.1 this).1
  · intro hx
    have : x ∈ ofRk (rk x) b := mem_ofRk.2 ⟨hx, rfl⟩
    rw [← h1] at this
    exact (mem_ofRk.1 this).1
theorem mem_st (l : List Int) (x : Int) : x ∈ st l ↔ x ∈ l := mem_same (st_same l) x
theorem st_srt (l : List Int) : Srt (st l) := by
  have h : ∀ r, (ofRk r l).Pairwise fun x y => rk x ≤ rk y := fun r =>
    (List.pairwise_of_forall (R := fun _ _ => True) (fun _ _ => trivial)).imp_of_mem fun {a b} ha hb _ => by
      have := (mem_ofRk.1 ha).2; have := (mem_ofRk.1 hb).2; omega
  unfold Srt st byRk
  simp only [List.pairwise_append, List.mem_append, mem_ofRk]
  refine ⟨h 0, ⟨⟨⟨h 7, h 202, ?_⟩, h 220, ?_⟩, h 230, ?_⟩, ?_⟩
  all_goals
    intro x hx y hy
    omega
theorem st_cons (x : Int) (l : List Int) (h : ∀ y ∈ l, rk x ≤ rk y) : st (x :: l) = x :: st l := by
  have e : ∀ r, r < rk x → ofRk r l = [] := fun r hr => List.filter_eq_nil_iff.2 fun y hy => by have := h y hy; simp; omega
  rcases rk_vals x with e0 | e0 | e0 | e0 | e0
  · simp [st, byRk, ofRk_cons, e0]
  · simp [st, byRk, ofRk_cons, e0, e 0 (by omega)]
  · simp [st, byRk, ofRk_cons, e0, e 0 (by omega), e 7 (by omega)]
  · simp [st, byRk, ofRk_cons, e0, e 0 (by omega), e 7 (by omega), e 202 (by omega)]
  · simp [st, byRk, ofRk_cons, e0, e 0 (by omega), e 7 (by omega), e 202 (by omega), e 220 (by omega)]
theorem st_of_srt : ∀ {m : List Int}, Srt m → st m = m
  | [], _ => rfl
  | x :: m, h => by
    obtain ⟨h1, h2⟩ := List.pairwise_cons.1 h
    rw [st_cons x m h1, st_of_srt h2]
theorem st_uniq {m l : List Int} (h : Srt m) (h2 : Same m l) : m = st l := by rw [← st_congr h2, st_of_srt h]
theorem st_len : ∀ l : List Int, (st l).length = l.length
  | [] => rfl
  | x :: l => by
    have ih := st_len l
    simp only [st, byRk, List.length_append, List.length_cons] at ih ⊢
    rcases rk_vals x with e0 | e0 | e0 | e0 | e0
    all_goals
      simp [ofRk_cons, e0]
      omega
theorem st_parts {A1 A2 B1 B2 : List Int} (h1 : ∀ b ∈ B1, ∀ a ∈ A2, rk b < rk a) (h2 : ∀ a ∈ A1, ∀ b ∈ B2, rk a ≤ rk b) (hA : Srt (A1 ++ A2)) (hB : Srt (B1 ++ B2)) :
    st (A1 ++ B1) ++ st (A2 ++ B2) = st (A1 ++ A2 ++ (B1 ++ B2)) := by
  refine st_uniq ?_ fun r => ?_
  · refine List.pairwise_append.2 ⟨st_srt _, st_srt _, fun x hx y hy => ?_⟩
    rw [mem_st, List.mem_append] at hx hy
    have hA := (List.pairwise_append.1 hA).2.2
    have hB := (List.pairwise_append.1 hB).2.2
    rcases hx with hx | hx <;> rcases hy with hy | hy
    · exact hA x hx y hy
    · exact h2 x hx y hy
    · have := h1 x hx y hy; omega
    · exact hB x hx y hy
  · have e : ofRk r B1 ++ ofRk r A2 = ofRk r A2 ++ ofRk r B1 := by
      rcases hb : ofRk r B1 with _ | ⟨b, t⟩
      · simp
      · have hb1 : b ∈ ofRk r B1 := by rw [hb]; simp
        obtain ⟨hb2, hb3⟩ := mem_ofRk.1 hb1
        have : ofRk r A2 = [] := List.filter_eq_nil_iff.2 fun y hy => by have := h1 b hb2 y hy; simp; omega
        rw [this]; simp
    simp only [ofRk_app, (st_same _) r, List.append_assoc]
    rw [← List.append_assoc (ofRk r B1), e, List.append_assoc]
theorem st_ins {S1 S2 : List Int} {x : Int} (hS : Srt (S1 ++ S2)) (h1 : ∀ y ∈ S1, rk y ≤ rk x) (h2 : ∀ y ∈ S2, rk x < rk y) : S1 ++ x :: S2 = st (S1 ++ S2 ++ [x]) := by
  have := st_parts (A1 := S1) (A2 := S2) (B1 := [x]) (B2 := []) (fun b hb a ha => by rw [List.mem_singleton] at hb; subst hb; exact h2 a ha) (fun a _ b hb => by cases hb) hS (by simp [Srt])
  simp only [List.append_nil] at this
  rw [← this]
  have h3 := List.pairwise_append.1 hS
  rw [st_of_srt (m := S1 ++ [x]), st_of_srt (m := S2) h3.2.1, List.append_assoc, List.singleton_append]
  exact List.pairwise_append.2 ⟨h3.1, by simp, fun a ha b hb => by rw [List.mem_singleton] at hb; subst hb; exact h1 a ha⟩
theorem st_insF {S1 S2 : List Int} {x : Int} (hS : Srt (S1 ++ S2)) (h1 : ∀ y ∈ S1, rk y < rk x) (h2 : ∀ y ∈ S2, rk x ≤ rk y) : S1 ++ x :: S2 = st (x :: (S1 ++ S2)) := by
  have := st_parts (A1 := []) (A2 := [x]) (B1 := S1) (B2 := S2) (fun b hb a ha => by rw [List.mem_singleton] at ha; subst ha; exact h1 b hb) (fun a ha => by cases ha) (by simp [Srt]) hS
  simp only [List.nil_append, List.singleton_append] at this
  rw [← this]
  have h3 := List.pairwise_append.1 hS
  rw [st_of_srt (m := S1) h3.1, st_of_srt (m := x :: S2)]
  exact List.pairwise_cons.2 ⟨h2, h3.2.1⟩
theorem st_pos {l : List Int} (h : ∀ x ∈ l, 0 < rk x) : st l = byRk l := by
  have : ofRk 0 l = [] := List.filter_eq_nil_iff.2 fun y hy => by have := h y hy; simp; omega
  rw [st, this, List.nil_append]
theorem st_one (x : Int) : st [x] = [x] := st_of_srt (by simp [Srt])
theorem st_nil : st [] = [] := rfl
theorem st_st (a b : List Int) : st (st a ++ b) = st (a ++ b) := st_congr ((st_same a).app (.refl b))
theorem st_st2 (a b : List Int) : st (a ++ st b) = st (a ++ b) := st_congr ((Same.refl a).app (st_same b))
end Go.Ab
-- fnh
set_option maxHeartbeats 4000000
namespace Go.Ab
open Go Go.Ab Go.Proofs Go.Ab.Ty

/-! ### an own list of characters: read, written, two exchanged -/
abbrev rbl (l : List Int) : ABlk := ⟨21, 1, l.map r32⟩
section
variable {H : List ABlk} {ρ : Operand → AV}
theorem ql_loadR {x : Operand} {b tot i : Nat} {l : List Int} {v : Int} (hx : ρ x = .ptr b tot i 0) (hb : H[b]? = some (rbl l)) (ht : l.length = tot) (hv : l[i]? = some v) : QL Tryd.prog H ρ (.load 21 x) (r32 v) := by
  refine ql_fun1 ?_
  have e : (l.map r32)[i]? = some (r32 v) := by rw [List.getElem?_map, hv]; rfl
  have e2 : ldE (aggTy Tryd.prog 21) (szTy Tryd.prog 21) (r32 v) 0 = some (r32 v) := by
    rw [show aggTy Tryd.prog 21 = some false by kernel_rfl, show szTy Tryd.prog 21 = some 1 by kernel_rfl]; rfl
  simp only [qfun, hx, hb, List.length_map, ht, if_true, e, e2]
theorem pl_storeR {x y : Operand} {b tot i : Nat} {l : List Int} (v : Int) (hx : ρ x = .ptr b tot i 0) (hy : ρ y = r32 v) (hb : H[b]? = some (rbl l)) (ht : l.length = tot) (hi : i < l.length) :
    PL Tryd.prog H ρ (.store 21 x y) .bad (H.set b (rbl (l.set i v))) := by
  exact pl_store_own v hx hy hb ht hi (by kernel_rfl) rfl rfl
theorem ql_ixR {x i : Operand} {n : Int} {b tot off len : Nat} {l : List Int} (hx : ρ x = .own b tot off len) (hi : ρ i = .int n) (hb : H[b]? = some (rbl l)) (ht : l.length = tot) (h0 : 0 ≤ n) (hn : n < len) : QL Tryd.prog H ρ (.indexAddr 96 x i) (.ptr b tot (off + n.toNat) 0) :=
  ql_indexAddr_own hx hi Tryd.underlying96 hb (by simpa using ht) h0 hn (by kernel_rfl)
end
theorem swp_far (P M Q : List Int) (x y : Int) : ((P ++ y :: M ++ x :: Q).set P.length x).set (P.length + 1 + M.length) y = P ++ x :: M ++ y :: Q := by
  have e1 : (P ++ y :: M ++ x :: Q).set P.length x = P ++ x :: M ++ x :: Q := by
    rw [List.append_assoc, List.append_assoc, List.set_append_right _ _ (Nat.le_refl _), Nat.sub_self]; rfl
  rw [e1, List.set_append_right _ _ (by simp; omega)]
  congr 1
  rw [show P.length + 1 + M.length - (P ++ x :: M).length = 0 by simp; omega]
  rfl
theorem swp_up (P Q : List Int) (x y : Int) : ((P ++ y :: x :: Q).set P.length x).set (P.length + 1) y = P ++ x :: y :: Q := by
  simp
theorem swp_dn (P Q : List Int) (x y : Int) : ((P ++ y :: x :: Q).set (P.length + 1) y).set P.length x = P ++ x :: y :: Q := by
  rw [List.set_comm _ _ (by omega)]; exact swp_up P Q x y
theorem at_app (P Q : List Int) (x : Int) : (P ++ x :: Q)[P.length]? = some x := by simp
theorem at_app1 (P Q : List Int) (x y : Int) : (P ++ y :: x :: Q)[P.length + 1]? = some x := by simp
theorem at_appF (P M Q : List Int) (x y : Int) : (P ++ y :: M ++ x :: Q)[P.length + 1 + M.length]? = some x := by
  rw [List.getElem?_append_right (by simp; omega), show P.length + 1 + M.length - (P ++ y :: M).length = 0 by simp; omega]; rfl
theorem toNat_le' {a : Int} {n : Nat} (h : a = n) : a.toNat = n := by subst h; rfl
end Go.Ab
