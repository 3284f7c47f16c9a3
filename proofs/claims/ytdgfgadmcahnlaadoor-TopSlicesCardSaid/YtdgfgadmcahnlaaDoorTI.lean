/- Part of the proof. -/
import Derived.Test.YtdgfgadmcahnlaaDoorTH
import Derived.Test.YtdgfgadmcahnlaaDoorAbI
set_option linter.unusedSimpArgs false
set_option linter.unusedVariables false
set_option maxHeartbeats 4000000
namespace Go.Ab
open Go Go.Ab Go.Proofs Go.Ab.Ty

/-! ### ranks of marks -/
def rk (c : Int) : Int := if 0x300 ≤ c ∧ c ≤ 788 then 230 else if (790 ≤ c ∧ c ≤ 793) ∨ (803 ≤ c ∧ c ≤ 806) then 220 else if c = 807 ∨ c = 808 then 202 else if c = 2364 then 7 else 0
abbrev r32 (c : Int) : AV := .base (.int .i32 c)
theorem rank_ok (c : Int) : Fn Tryd.prog 100 [r32 c] (.int (rk c)) := by
  obtain ⟨R, hR⟩ : ∃ R, R = rk c := ⟨_, rfl⟩
  rw [← hR]
  unfold rk at hR
  refine Fn.intro' [(0, r32 c)] 1 33 Tryd.func100 (by kernel_rfl) rfl rfl rfl rfl rfl ?_
  refine goB ?_
  refine ifA (fun c1 => ?_) (fun c1 => ?_)
  · simp at c1
    refine goB ?_
    exact Ret.data rfl (by rw [hR, if_pos (by omega)]; rfl) (.base _)
  rw [if_neg (by simp at c1; omega)] at hR
  refine gnB ?_
  refine keA [0, 2, 10] ?_
  refine AWp.joinP [(10, .bool (decide ((790 ≤ c ∧ c ≤ 793) ∨ (803 ≤ c ∧ c ≤ 806))))] ?_ ?_
  · refine ifA (fun c2 => ?_) (fun c2 => ?_)
    · refine goB ?_
      exact .env' (by simp +decide only [go_sem]; exact Le.of_eq (congrArg AV.bool (by rw [Bool.eq_iff_iff]; simp at c2 ⊢; omega)))
    refine goB ?_
    exact .env' (by simp +decide only [go_sem]; exact Le.of_eq (congrArg AV.bool (by rw [Bool.eq_iff_iff]; simp at c2 ⊢; omega)))
  refine ifA (fun c3 => ?_) (fun c3 => ?_)
  · refine goB ?_
    exact Ret.data rfl (by rw [hR, if_pos (by simpa using c3)]; rfl) (.base _)
  rw [if_neg (by simpa using c3)] at hR
  refine goB ?_
  refine keA [0, 2, 23] ?_
  refine ifA (fun c4 => ?_) (fun c4 => ?_)
  · refine goB ?_
    exact Ret.data rfl (by rw [hR, if_pos (by simp at c4; omega)]; rfl) (.base _)
  rw [if_neg (by simp at c4; omega)] at hR
  refine goB ?_
  refine ifA (fun c5 => ?_) (fun c5 => ?_)
  · refine goB ?_
    exact Ret.data rfl (by rw [hR, if_pos (by simpa using c5)]; rfl) (.base _)
  rw [if_neg (by simpa using c5)] at hR
  refine goB ?_
  exact Ret.data rfl (by rw [hR]; rfl) (.base _)
theorem rk_rg (c : Int) : 0 ≤ rk c ∧ rk c ≤ 230 := by
  unfold rk
  repeat' split
  all_goals omega
theorem cmp_ok (x y : Int) : Fn Tryd.prog 102 [r32 x, r32 y] (.int (rk x - rk y)) := by
  have i1 := rank_ok x
  have i2 := rank_ok y
  have h1 := rk_rg x
  have h2 := rk_rg y
  refine Fn.intro' [(0, r32 x), (1, r32 y)] 2 10 Tryd.func102 (by kernel_rfl) rfl rfl rfl rfl rfl ?_
  refine goB ?_
  refine callA (i1) ?_
  refine goB ?_
  refine callA (i2) ?_
  refine goB ?_
  rw [wrap_id (by omega) (by omega)]
  exact Ret.data rfl rfl (.base _)
theorem refRank_ok (c : Int) : Fn Tryd.prog 104 [.int c] (.int (rk c)) := by
  have w := fun l h => within_ok c l h
  have w1 := w [(768, 788)] (by decide)
  have w2 := w [(790, 793), (803, 806)] (by decide)
  have w3 := w [(807, 808)] (by decide)
  rw [inS_one] at w1 w3
  simp only [flat, List.map] at w1 w2 w3
  obtain ⟨R, hR⟩ : ∃ R, R = rk c := ⟨_, rfl⟩
  rw [← hR]
  unfold rk at hR
  refine Fn.intro' [(0, .int c)] 1 18 Tryd.func104 (by kernel_rfl) rfl rfl rfl rfl rfl ?_
  refine goB ?_
  refine callA (w1) ?_
  refine goB ?_
  refine ifA (fun c1 => ?_) (fun c1 => ?_)
  · have c1 := of_decide_eq_true c1
    refine goB ?_
    exact Ret.data rfl (by rw [hR, if_pos (by omega)]; rfl) (.base _)
  have c1 := of_decide_eq_false c1
  rw [if_neg (by omega)] at hR
  refine goB ?_
  refine callA (w2) ?_
  refine goB ?_
  refine ifA (fun c2 => ?_) (fun c2 => ?_)
  · rw [if_pos (by simp [inS] at c2; omega)] at hR
    refine goB ?_
    exact Ret.data rfl (by rw [hR]; rfl) (.base _)
  rw [if_neg (by simp [inS] at c2; omega)] at hR
  refine goB ?_
  refine callA (w3) ?_
  refine goB ?_
  refine ifA (fun c3 => ?_) (fun c3 => ?_)
  · have c3 := of_decide_eq_true c3
    refine goB ?_
    exact Ret.data rfl (by rw [hR, if_pos (by omega)]; rfl) (.base _)
  have c3 := of_decide_eq_false c3
  rw [if_neg (by omega)] at hR
  refine goB ?_
  refine ifA (fun c4 => ?_) (fun c4 => ?_)
  · have c4 := of_decide_eq_true c4
    refine goB ?_
    exact Ret.data rfl (by rw [hR, if_pos c4]; rfl) (.base _)
  have c4 := of_decide_eq_false c4
  refine goB ?_
  exact Ret.data rfl (by rw [hR, if_neg c4]; rfl) (.base _)
end Go.Ab
-- fnh
set_option maxHeartbeats 4000000
namespace Go.Ab
open Go Go.Ab Go.Proofs Go.Ab.Ty

/-! ### what a character consists of -/
theorem wrap32_id {x : Int} (h1 : -2147483648 ≤ x) (h2 : x ≤ 2147483647) : IntKind.i32.wrap x = x := by
  simp [IntKind.wrap, IntKind.signed, IntKind.bits]
  split <;> omega
def rowP (f b : Int) (l : List Int) (c : Int) : Option (List Int) := if f ≤ c ∧ c - f < l.length then some [b, nth 0 l (c - f)] else none
def encR : Option (List Int) → AV
  | none => .tup [.base (.slice none 0 0), .bool false]
  | some l => .tup [.lst (l.map r32), .bool true]
theorem Pu_r32L (l : List Int) : Pu (.lst (l.map r32)) := .lst fun e he c hc => by
  obtain ⟨x, _, rfl⟩ := List.mem_map.1 he
  simp only [AV.cells, List.mem_singleton] at hc
  subst hc; exact .base _
theorem Pu_encR : ∀ o : Option (List Int), Pu (encR o)
  | none => .tup fun c hc => by
    simp only [List.mem_cons, List.not_mem_nil, or_false] at hc
    rcases hc with rfl | rfl
    · exact .base _
    · exact .base _
  | some l => .tup fun c hc => by
    simp only [List.mem_cons, List.not_mem_nil, or_false] at hc
    rcases hc with rfl | rfl
    · exact Pu_r32L l
    · exact .base _
theorem row_ok (f b c : Int) (l : List Int) (hf : 0 ≤ f ∧ f ≤ 100000) (hc : 0 ≤ c ∧ c < 2097152) (hl : l.length ≤ 100) : FnH Tryd.prog 112 [r32 f, r32 b, .lst (l.map r32), .ptr 0 1 0 0] [⟨21, 1, [r32 c]⟩] (encR (rowP f b l c)) [⟨21, 1, [r32 c]⟩] := by
  refine FnH.intro' [(0, r32 f), (1, r32 b), (2, .lst (l.map r32)), (3, .ptr 0 1 0 0)] 4 29 1 Tryd.func112 (by kernel_rfl) rfl rfl rfl rfl rfl rfl ?_
  have hw : IntKind.i64.wrap (IntKind.i32.wrap (c - f)) = c - f := by rw [wrap32_id (by omega) (by omega), wrap_id (by omega) (by omega)]
  refine goD ?_
  rw [hw]
  refine keA [0, 1, 2, 3, 7, 8, 9, 22] ?_
  refine ifA (fun h => ?_) (fun h => ?_)
  · have h2 : f ≤ c ∧ c - f < l.length := by simp at h; omega
    have e : nth default l (c - f) = nth 0 l (c - f) := rfl
    refine goD ?_
    exact RetH.same rfl (by rw [rowP, if_pos h2]; rfl) rfl
  · have h2 : ¬ (f ≤ c ∧ c - f < l.length) := by simp at h; omega
    refine goD ?_
    exact RetH.same rfl (by rw [rowP, if_neg h2]; rfl) rfl
end Go.Ab
set_option maxHeartbeats 4000000
namespace Go.Ab
open Go Go.Ab Go.Proofs Go.Ab.Ty

/-! ### the parts of a character -/
def l6 : List Int := [768, 769, 770, 771, 776, 778]
def l4 : List Int := [768, 769, 770, 776]
def hangul (d : Int) : List Int := [4352 + d / 588, 4449 + d % 588 / 28] ++ (if d % 28 = 0 then [] else [4519 + d % 28])
def prB (b c : Int) : Option (List Int) := match rowP (127 + b) b l6 c with
  | some l => some l
  | none => rowP (135 + b) (b + 4) l4 c
def prT (c : Int) : Option (List Int) := if c = 7845 then some [226, 769] else if c = 7785 then some [7779, 775] else if c = 7779 then some [115, 803] else if 44032 ≤ c ∧ c ≤ 55203 then some (hangul (c - 44032)) else none
def prt (c : Int) : Option (List Int) := match prB 65 c with
  | some l => some l
  | none => match prB 97 c with
    | some l => some l
    | none => prT c
theorem PuBl_c (c : Int) : PuBl [⟨21, 1, [r32 c]⟩] := fun blk h1 e h2 d h3 => by
  rw [List.mem_singleton] at h1; subst h1
  simp only [List.mem_singleton] at h2; subst h2
  simp only [AV.cells, List.mem_singleton] at h3; subst h3; exact .base _
theorem Pu_r32 (x : Int) : ∀ c ∈ (r32 x).cells, Pu c := fun c hc => by simp only [AV.cells, List.mem_singleton] at hc; subst hc; exact .base _
theorem el21d : elI Tryd.prog 21 1 4 = true := by kernel_rfl
theorem sz21d : szTy Tryd.prog 21 = some 1 := by kernel_rfl
theorem encR_n : encR none = .tup [.base (.slice none 0 0), .bool false] := rfl
theorem encR_s (l : List Int) : encR (some l) = .tup [.lst (l.map r32), .bool true] := rfl
theorem parts_ok (c : Int) (hc : 0 ≤ c ∧ c < 2097152) : Fn Tryd.prog 99 [r32 c] (encR (prt c)) := by
  have r6 := fun f b h => row_ok f b c l6 h hc (by decide)
  have r4 := fun f b h => row_ok f b c l4 h hc (by decide)
  obtain ⟨R, hR⟩ : ∃ R, R = prt c := ⟨_, rfl⟩
  rw [← hR]
  refine Fn.intro' [(0, r32 c)] 1 86 Tryd.func99 (by kernel_rfl) rfl rfl rfl rfl rfl ?_
  refine goA ?_
  refine bslA Tryd.underlying96 sz21d ?_
  refine goA ?_
  refine keA [1, 2, 3, 4, 15, 16, 17] ?_
  refine AWp.loopP (J := fun k : Nat => k ≤ 2 ∧ (1 ≤ k → prB 65 c = none) ∧ (2 ≤ k → prB 97 c = none)) (fun k => [(17, .int k)]) (fun k => 2 - k) 0 ⟨by omega, by omega, by omega⟩ .wk ?_
  rintro k ⟨hk, n1, n2⟩
  obtain rfl | rfl | rfl : k = 0 ∨ k = 1 ∨ k = 2 := by omega
  · refine goA ?_
    refine ifT ?_
    refine goA ?_
    refine ARun.q1 rfl rfl (ql_indexAddr_lst rfl rfl Tryd.underlying96 (by omega) (e := r32 65) (by rfl) (by kernel_rfl)) ?_
    refine goA ?_
    rw [show IntKind.i32.wrap (IntKind.i32.wrap (192 + 65) - 65) = 192 by decide]
    refine bslA Tryd.underlying96 sz21d ?_
    refine goA ?_
    have hp : prB 65 c = match rowP 192 65 l6 c with
      | some l => some l
      | none => rowP 200 69 l4 c := rfl
    refine ARun.p1 rfl rfl (pl_callH (e := [0]) (d' := encR (rowP 192 65 l6 c)) (r6 192 65 (by omega)) (CallE.put1 (b := 0) rfl (PuBl_c c) (PuBl_c c)) rfl (by simp +decide only [go_sem] <;> rfl) (by simp +decide only [go_sem, List.map]; exact ⟨.pu (.base _), .pu (.base _), .pu (Pu_r32L l6), .ptr rfl, trivial⟩) (.pu (Pu_encR _))) ?_
    rcases hr : rowP 192 65 l6 c with _ | l
    rotate_left
    · rw [hr] at hp
      simp only [encR_n, encR_s]
      refine goA ?_
      refine ifT ?_
      refine goA ?_
      exact Ret.data rfl (by rw [hR, prt, hp]; rfl) (Pu_encR _)
    rw [hr] at hp
    simp only at hp
    simp only [encR_n, encR_s]
    refine goA ?_
    refine ifF ?_
    refine goA ?_
    rw [show IntKind.i32.wrap (192 + 8) = 200 by decide, show IntKind.i32.wrap (65 + 4) = 69 by decide]
    refine bslA Tryd.underlying96 sz21d ?_
    refine goA ?_
    refine ARun.p1 rfl rfl (pl_callH (e := [0]) (d' := encR (rowP 200 69 l4 c)) (r4 200 69 (by omega)) (CallE.put1 (b := 0) rfl (PuBl_c c) (PuBl_c c)) rfl (by simp +decide only [go_sem] <;> rfl) (by simp +decide only [go_sem, List.map]; exact ⟨.pu (.base _), .pu (.base _), .pu (Pu_r32L l4), .ptr rfl, trivial⟩) (.pu (Pu_encR _))) ?_
    rw [← hp]
    rcases hr2 : prB 65 c with _ | l
    rotate_left
    · simp only [encR_n, encR_s]
      refine goA ?_
      refine ifT ?_
      refine goA ?_
      exact Ret.data rfl (by rw [hR, prt, hr2]; rfl) (Pu_encR _)
    simp only [encR_n, encR_s]
    refine goA ?_
    refine ifF ?_
    refine goA ?_
    rw [wrap_id (by omega) (by omega)]
    exact ⟨1, ⟨by omega, by intro _; first | exact hr2 | trivial, by omega⟩, by omega, .wk⟩
  · refine goA ?_
    refine ifT ?_
    refine goA ?_
    refine ARun.q1 rfl rfl (ql_indexAddr_lst rfl rfl Tryd.underlying96 (by omega) (e := r32 97) (by rfl) (by kernel_rfl)) ?_
    refine goA ?_
    rw [show IntKind.i32.wrap (IntKind.i32.wrap (192 + 97) - 65) = 224 by decide]
    refine bslA Tryd.underlying96 sz21d ?_
    refine goA ?_
    have hp : prB 97 c = match rowP 224 97 l6 c with
      | some l => some l
      | none => rowP 232 101 l4 c := rfl
    refine ARun.p1 rfl rfl (pl_callH (e := [0]) (d' := encR (rowP 224 97 l6 c)) (r6 224 97 (by omega)) (CallE.put1 (b := 0) rfl (PuBl_c c) (PuBl_c c)) rfl (by simp +decide only [go_sem] <;> rfl) (by simp +decide only [go_sem, List.map]; exact ⟨.pu (.base _), .pu (.base _), .pu (Pu_r32L l6), .ptr rfl, trivial⟩) (.pu (Pu_encR _))) ?_
    rcases hr : rowP 224 97 l6 c with _ | l
    rotate_left
    · rw [hr] at hp
      simp only [encR_n, encR_s]
      refine goA ?_
      refine ifT ?_
      refine goA ?_
      exact Ret.data rfl (by rw [hR, prt, n1 (by omega), hp]; rfl) (Pu_encR _)
    rw [hr] at hp
    simp only at hp
    simp only [encR_n, encR_s]
    refine goA ?_
    refine ifF ?_
    refine goA ?_
    rw [show IntKind.i32.wrap (224 + 8) = 232 by decide, show IntKind.i32.wrap (97 + 4) = 101 by decide]
    refine bslA Tryd.underlying96 sz21d ?_
    refine goA ?_
    refine ARun.p1 rfl rfl (pl_callH (e := [0]) (d' := encR (rowP 232 101 l4 c)) (r4 232 101 (by omega)) (CallE.put1 (b := 0) rfl (PuBl_c c) (PuBl_c c)) rfl (by simp +decide only [go_sem] <;> rfl) (by simp +decide only [go_sem, List.map]; exact ⟨.pu (.base _), .pu (.base _), .pu (Pu_r32L l4), .ptr rfl, trivial⟩) (.pu (Pu_encR _))) ?_
    rw [← hp]
    rcases hr2 : prB 97 c with _ | l
    rotate_left
    · simp only [encR_n, encR_s]
      refine goA ?_
      refine ifT ?_
      refine goA ?_
      exact Ret.data rfl (by rw [hR, prt, n1 (by omega), hr2]; rfl) (Pu_encR _)
    simp only [encR_n, encR_s]
    refine goA ?_
    refine ifF ?_
    refine goA ?_
    rw [wrap_id (by omega) (by omega)]
    exact ⟨2, ⟨by omega, by intro _; exact n1 (by omega), by intro _; first | exact hr2 | trivial⟩, by omega, .wk⟩
  have n1 := n1 (by omega)
  have n2 := n2 (by omega)
  have hT : R = prT c := by rw [hR, prt, n1, n2]
  unfold prT at hT
  refine goA ?_
  refine ifF ?_
  refine goA ?_
  refine ifA (fun c1 => ?_) (fun c1 => ?_)
  · have c1 := of_decide_eq_true c1
    refine goA ?_
    refine bslA Tryd.underlying96 sz21d ?_
    refine goA ?_
    exact Ret.data rfl (by rw [hT, if_pos c1]; rfl) (Pu_encR _)
  have c1 := of_decide_eq_false c1
  rw [if_neg c1] at hT
  refine goA ?_
  refine ifA (fun c2 => ?_) (fun c2 => ?_)
  · have c2 := of_decide_eq_true c2
    refine goA ?_
    refine bslA Tryd.underlying96 sz21d ?_
    refine goA ?_
    exact Ret.data rfl (by rw [hT, if_pos c2]; rfl) (Pu_encR _)
  have c2 := of_decide_eq_false c2
  rw [if_neg c2] at hT
  refine goA ?_
  refine ifA (fun c3 => ?_) (fun c3 => ?_)
  · have c3 := of_decide_eq_true c3
    refine goA ?_
    refine bslA Tryd.underlying96 sz21d ?_
    refine goA ?_
    exact Ret.data rfl (by rw [hT, if_pos c3]; rfl) (Pu_encR _)
  have c3 := of_decide_eq_false c3
  rw [if_neg c3] at hT
  refine goA ?_
  refine keA [1, 2, 3, 59] ?_
  refine ifA (fun c4 => ?_) (fun c4 => ?_)
  · rw [if_pos (by simp at c4; omega)] at hT
    refine goA ?_
    have hcr : 44032 ≤ c ∧ c ≤ 55203 := by simp at c4; omega
    obtain ⟨d, hd⟩ : ∃ d, d = c - 44032 := ⟨_, rfl⟩
    rw [← hd] at hT
    have e1 : IntKind.i32.wrap (c - 44032) = d := by rw [wrap32_id (by omega) (by omega), hd]
    have e2 : d.tdiv 588 = d / 588 := Int.tdiv_eq_ediv_of_nonneg (by omega)
    have e3 : d.tmod 588 = d % 588 := Int.tmod_eq_emod_of_nonneg (by omega)
    have e4 : (d % 588).tdiv 28 = d % 588 / 28 := Int.tdiv_eq_ediv_of_nonneg (by omega)
    have e5 : d.tmod 28 = d % 28 := Int.tmod_eq_emod_of_nonneg (by omega)
    have w1 : IntKind.i32.wrap (d / 588) = d / 588 := wrap32_id (by omega) (by omega)
    have w2 : IntKind.i32.wrap (4352 + d / 588) = 4352 + d / 588 := wrap32_id (by omega) (by omega)
    have w3 : IntKind.i32.wrap (d % 588 / 28) = d % 588 / 28 := wrap32_id (by omega) (by omega)
    have w4 : IntKind.i32.wrap (4449 + d % 588 / 28) = 4449 + d % 588 / 28 := wrap32_id (by omega) (by omega)
    have w5 : IntKind.i32.wrap (4519 + d % 28) = 4519 + d % 28 := wrap32_id (by omega) (by omega)
    simp only [e1, e2, e3, e4, w1, w2, w3, w4]
    refine ARun.p1 rfl rfl (pl_buildSlice (by decide) Tryd.underlying96 sz21d (by kernel_rfl) (by decide) (by simp +decide only [go_sem] <;> rfl) (by simp +decide only [go_sem] <;> rfl) (by rfl)) ?_
    refine goA ?_
    refine ifA (fun c5 => ?_) (fun c5 => ?_)
    · have h5 : ¬ d % 28 = 0 := by simp at c5; rw [e5] at c5; exact c5
      refine goA ?_
      simp only [e5, w5]
      refine bslA Tryd.underlying96 sz21d ?_
      refine goA ?_
      refine ARun.p1 rfl rfl (pl_append (b := 1) (tot := 2) (es := [r32 (4519 + d % 28)]) (by simp +decide only [go_sem] <;> rfl) (by simp +decide only [go_sem] <;> rfl) rfl rfl Tryd.underlying96 el21d rfl rfl (by simp) (fun e he => by rw [List.mem_singleton] at he; subst he; exact ⟨rfl, rfl⟩) (by simp) (by simp)) ?_
      refine goA ?_
      exact Ret.pub rfl (by rw [hT, hangul, if_neg h5]; exact Pub.tup' ⟨Pub.ownM (l := [4352 + d / 588, 4449 + d % 588 / 28, 4519 + d % 28]) (f := r32) (by decide) rfl rfl fun x _ => Pu_r32 x, Pub.pu (.base _), trivial⟩)
    · have h5 : d % 28 = 0 := by simp at c5; rw [e5] at c5; exact c5
      refine goA ?_
      exact Ret.pub rfl (by rw [hT, hangul, if_pos h5]; exact Pub.tup' ⟨Pub.ownM (l := [4352 + d / 588, 4449 + d % 588 / 28]) (f := r32) (by decide) rfl rfl fun x _ => Pu_r32 x, Pub.pu (.base _), trivial⟩)
  rw [if_neg (by simp at c4; omega)] at hT
  refine goA ?_
  exact Ret.data rfl (by rw [hT]; rfl) (Pu_encR _)
end Go.Ab
