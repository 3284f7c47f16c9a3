/- Part of the proof. -/
import Derived.Test.YtpgbgclphjgdbaaCC
import Derived.Test.YtpgbgclphjgdbaaAbQ
set_option linter.unusedSimpArgs false
set_option linter.unusedVariables false
set_option maxHeartbeats 4000000
namespace Go.Ab
open Go Go.Ab Go.Proofs Go.Ab.Ty

/-! ### Missing, on the one input of awake -/
abbrev nilV : AV := .base (.slice none 0 0)
abbrev mA : AV := .agg [.lst [], .lst [], .lst [], .lst []]
abbrev bT : AV := .agg [.int 2, str ByteArray.empty, .int 0, .lst []]
abbrev nB (o n : Int) : AV := .agg [.int o, str ByteArray.empty, .int n, .int 0, str ByteArray.empty, .int 0, .lst [], .lst [], .lst [], .int 0]
@[simp] theorem Pu_nil : Pu (.lst []) := .lst (by simp)
@[simp] theorem Pu_mA : Pu mA := .agg fun c hc => by
  simp only [List.mem_cons, List.not_mem_nil, or_false, or_self] at hc; subst hc; exact Pu_nil
@[simp] theorem Pu_bT : Pu bT := Pu_Tm 2 ByteArray.empty 0 []
@[simp] theorem Pu_nB (o n : Int) : Pu (nB o n) := Pu_N o ByteArray.empty n 0 ByteArray.empty 0 [] [] [] 0
abbrev zNom : AV := (.agg [.base (.string ByteArray.empty), .base (.int .i64 (0)), .base (.slice none 0 0), .base (.bool false), .base (.bool false), .base (.slice none 0 0), .base (.slice none 0 0), .base (.int .i64 (0)), .base (.string ByteArray.empty), .base (.int .i64 (0)), .base (.int .i64 (0)), .base (.string ByteArray.empty), .base (.int .i64 (0)), .base (.slice none 0 0), .base (.slice none 0 0), .base (.slice none 0 0), .base (.int .i64 (0))])
abbrev zCas : AV := (.agg [.base (.string ByteArray.empty), .base (.slice none 0 0), .base (.bool false)])
@[simp] theorem Pu_zNom : Pu zNom := .agg (by simp)
@[simp] theorem Pu_zCas : Pu zCas := .agg (by simp)
theorem Pu_cB (o n : Int) : ∀ c ∈ (nB o n).cells, Pu c := Pu_cN (.mk o ByteArray.empty n 0 ByteArray.empty 0 [] [] [] 0)
@[simp] theorem Pu_l1B (o n : Int) : Pu (.lst [nB o n]) := Pu_mapN [.mk o ByteArray.empty n 0 ByteArray.empty 0 [] [] [] 0]
theorem Pu_t2v (u v : Value) : Pu (.tup [.base u, .base v]) := .tup fun c hc => by
  simp only [List.mem_cons, List.not_mem_nil, or_false] at hc
  rcases hc with rfl | rfl <;> exact .base _
theorem named_b : Fn Try.prog 93 [mA, bT] (.tup [zNom, .bool false]) := by
  refine Fn.intro' [(0, mA), (1, bT)] 2 23 Try.func93 (by kernel_rfl) rfl rfl rfl rfl rfl ?_
  refine goB ?_
  refine ift_ ?_ ?_ rfl
  rotate_left
  · rfl
  refine goB ?_
  refine bldA pl65 zero65 ?_
  refine goB ?_
  exact ⟨[zNom, .bool false], by kernel_rfl, .tup' ⟨.pu Pu_zNom, .pu (.base _), trivial⟩⟩
theorem Cases_b : Fn Try.prog 71 [mA, bT] (.tup [nilV, .bool false]) := by
  have i1 := named_b
  refine Fn.intro' [(0, mA), (1, bT)] 2 68 Try.func71 (by kernel_rfl) rfl rfl rfl rfl rfl ?_
  refine goB ?_
  refine callA (i1) ?_
  refine goB ?_
  refine ift_ ?_ ?_ rfl
  rotate_left
  · rfl
  refine goB ?_
  exact Ret.data rfl rfl (Pu_t2v _ _)
theorem cases_b : Fn Try.prog 68 [mA, bT] (.tup [nilV, .bool false]) := by
  have i1 := Cases_b
  refine Fn.intro' [(0, mA), (1, bT)] 2 34 Try.func68 (by kernel_rfl) rfl rfl rfl rfl rfl ?_
  refine goB ?_
  refine callA (i1) ?_
  refine goB ?_
  refine AWp.turn ?_
  refine goB ?_
  refine iff_ ?_ ?_ rfl
  rotate_left
  · rfl
  refine goB ?_
  exact Ret.data rfl rfl (Pu_t2v _ _)
theorem caseOf_b : Fn Try.prog 47 [mA, bT, str ByteArray.empty] (.tup [zCas, .bool false]) := by
  have i1 := cases_b
  refine Fn.intro' [(0, mA), (1, bT), (2, str ByteArray.empty)] 3 31 Try.func47 (by kernel_rfl) rfl rfl rfl rfl rfl ?_
  refine goB ?_
  refine callA (i1) ?_
  refine goB ?_
  refine AWp.turn ?_
  refine goB ?_
  refine iff_ ?_ ?_ rfl
  rotate_left
  · rfl
  refine goB ?_
  refine bldA pl70 zero70 ?_
  refine goB ?_
  exact ⟨[zCas, .bool false], by kernel_rfl, .tup' ⟨.pu Pu_zCas, .pu (.base _), trivial⟩⟩
theorem wild_b : Fn Try.prog 37 [] (nB 40 0) := by
  refine Fn.intro' [] 0 2 Try.func37 (by kernel_rfl) rfl rfl rfl rfl rfl ?_
  refine goB ?_
  refine bldA pl27 zero27 ?_
  refine goB ?_
  exact ⟨[.agg [.int 40, str ByteArray.empty, .int 0, .int 0, str ByteArray.empty, .int 0, nilV, nilV, nilV, .int 0]], by kernel_rfl, Pub.agg' (show PubL _ 0 [_, _, _, _, _, _, _, _, _, _] [_, _, _, _, _, _, _, _, _, _] from ⟨.pu (.base _), .pu (.base _), .pu (.base _), .pu (.base _), .pu (.base _), .pu (.base _), .nilS, .nilS, .nilS, .pu (.base _), trivial⟩)⟩
theorem isWild_b (o n : Int) : Fn Try.prog 38 [nB o n] (.bool (decide (o = 40 ∨ o = 41))) := by
  refine Fn.intro' [(0, nB o n)] 1 11 Try.func38 (by kernel_rfl) rfl rfl rfl rfl rfl ?_
  refine goB ?_
  exact Ret.bool rfl (by rw [decide_eq_true_iff]; simp)
theorem same_b (o n o' n' : Int) (b : Bool) (h : b = true ↔ samH o ByteArray.empty n o' ByteArray.empty n') : Fn Try.prog 39 [nB o n, nB o' n'] (.bool b) := by
  have := sameHead_ok o ByteArray.empty n 0 ByteArray.empty 0 [] [] [] 0 o' ByteArray.empty n' 0 ByteArray.empty 0 [] [] [] 0
  rwa [show decide (samH o ByteArray.empty n o' ByteArray.empty n') = b by rw [Bool.eq_iff_iff, decide_eq_true_iff]; exact h.symm] at this
theorem wilds_b : Fn Try.prog 83 [.int 0] (.lst []) := by
  refine Fn.intro' [(0, .int 0)] 1 18 Try.func83 (by kernel_rfl) rfl rfl rfl rfl rfl ?_
  refine goB ?_
  refine ARun.p1 rfl rfl (pl_make (by simp +decide only [go_sem] <;> rfl) (by simp +decide only [go_sem] <;> rfl) Try.underlying22 el27 zero27 rfl (by omega) (by omega) (by omega) (by omega)) ?_
  refine goB ?_
  refine AWp.turn ?_
  refine goB ?_
  refine iff_ ?_ ?_ rfl
  rotate_left
  · rfl
  refine goB ?_
  exact Ret.pub rfl (Pub.ownM (f := encN) (l := []) (Nat.zero_le _) rfl rfl (fun x _ c hc => Pu_cN x c hc))
theorem size_b (o n : Int) : Fn Try.prog 66 [nB o n] (.tup [.int 1, .int 1]) := by
  refine Fn.intro' [(0, nB o n)] 1 30 Try.func66 (by kernel_rfl) rfl rfl rfl rfl rfl ?_
  refine goB ?_
  refine AWp.turn ?_
  refine goB ?_
  refine iff_ ?_ ?_ rfl
  rotate_left
  · rfl
  refine goB ?_
  exact Ret.data rfl rfl (Pu_t2v _ _)
theorem atom_b : Fn Try.prog 46 [bT, nB 43 1] (.bool true) := by
  refine Fn.intro' [(0, bT), (1, nB 43 1)] 2 32 Try.func46 (by kernel_rfl) rfl rfl rfl rfl rfl ?_
  refine goB ?_
  refine iff_ ?_ ?_ rfl
  rotate_left
  · rfl
  refine goB ?_
  refine ift_ ?_ ?_ rfl
  rotate_left
  · rfl
  refine goB ?_
  exact Ret.bool rfl (by simp)
theorem Fits_b : Fn Try.prog 22 [mA, bT, nB 43 1] (.bool true) := by
  have i1 := isWild_b 43 1
  have i2 := atom_b
  refine Fn.intro' [(0, mA), (1, bT), (2, nB 43 1)] 3 69 Try.func22 (by kernel_rfl) rfl rfl rfl rfl rfl ?_
  refine goB ?_
  refine callA (i1) ?_
  refine goB ?_
  refine iff_ ?_ ?_ rfl
  rotate_left
  · rfl
  refine goB ?_
  refine ift_ ?_ ?_ rfl
  rotate_left
  · rfl
  refine goB ?_
  refine callA (i2) ?_
  refine goB ?_
  exact Ret.bool rfl (by simp)
theorem clone_b (o n : Int) : Fn Try.prog 65 [.lst [nB o n]] (.lst [nB o n]) := by
  refine Fn.intro' [(0, .lst [nB o n])] 1 8 Try.func65 (by kernel_rfl) rfl rfl rfl rfl rfl ?_
  refine goB ?_
  refine ARun.q1 rfl rfl (ql_eqnil_some rfl (by simp) rfl Try.underlying22) ?_
  refine goB ?_
  refine iff_ ?_
  refine goA ?_
  refine ARun.p1 rfl rfl (pl_buildSlice (es := []) (by decide) Try.underlying22 sz27 (by kernel_rfl) (by decide) (by rfl) (by rfl) (by rfl)) ?_
  refine goB ?_
  refine ARun.p1 rfl rfl (pl_append (b := 0) (tot := 0) (es := [nB o n]) (by simp +decide only [go_sem] <;> rfl) (by simp +decide only [go_sem] <;> rfl) rfl rfl Try.underlying22 el27 rfl rfl (by simp) (fun e he => by rw [List.mem_singleton] at he; subst he; exact ⟨rfl, rfl⟩) (by simp) (by simp)) ?_
  refine goB ?_
  exact Ret.pub rfl (Pub.ownM (f := id) (l := [nB o n]) (Nat.zero_le _) rfl rfl (fun x hx c hc => by rw [List.mem_singleton] at hx; subst hx; exact Pu_cB o n c hc))
theorem clone0_b : Fn Try.prog 65 [.lst []] (.lst []) := by
  refine Fn.intro' [(0, .lst [])] 1 8 Try.func65 (by kernel_rfl) rfl rfl rfl rfl rfl ?_
  refine goB ?_
  refine ARun.q1 rfl rfl (ql_eqnil_none rfl rfl Try.underlying22) ?_
  refine goB ?_
  refine AWp.condAny rfl ?_ ?_
  · refine goB ?_
    exact ⟨_, rfl, .nilS⟩
  · refine goA ?_
    refine ARun.p1 rfl rfl (pl_buildSlice (es := []) (by decide) Try.underlying22 sz27 (by kernel_rfl) (by decide) (by rfl) (by rfl) (by rfl)) ?_
    refine goB ?_
    refine ARun.q1 rfl rfl (ql_append_zero (b := 0) (tot := 0) (by simp +decide only [go_sem] <;> rfl) (by rfl) (by simp +decide only [go_sem] <;> rfl) Try.underlying22 el27) ?_
    refine goB ?_
    exact Ret.pub rfl (Pub.ownM (f := encN) (l := []) (Nat.zero_le _) rfl rfl (fun x _ c hc => Pu_cN x c hc))
theorem cloneT_b : Fn Try.prog 79 [nilV] nilV := by
  refine Fn.intro' [(0, nilV)] 1 8 Try.func79 (by kernel_rfl) rfl rfl rfl rfl rfl ?_
  refine goB ?_
  refine ARun.q1 rfl rfl (ql_eqnil_nil rfl rfl Try.underlying23) ?_
  refine goB ?_
  refine ift_ ?_ ?_ rfl
  rotate_left
  · rfl
  refine goB ?_
  exact ⟨_, rfl, .pu (.base _)⟩
theorem right_b : Fn Try.prog 35 [mA, bT, .lst [nB 43 1], nilV] (.int 0) := by
  have i1 := clone_b 43 1
  have i2 := size_b 43 1
  have i3 := Fits_b
  refine Fn.intro' [(0, mA), (1, bT), (2, .lst [nB 43 1]), (3, nilV)] 4 46 Try.func35 (by kernel_rfl) rfl rfl rfl rfl rfl ?_
  refine goB ?_
  refine iff_ ?_ ?_ rfl
  rotate_left
  · rfl
  refine goB ?_
  refine callA (i1) ?_
  refine goB ?_
  refine ARun.q1 rfl rfl (ql_append_data (by simp +decide only [go_sem] <;> rfl) (by simp +decide only [go_sem] <;> rfl) (.inr rfl) Try.underlying22 el27) ?_
  refine goB ?_
  refine AWp.turn ?_
  refine goB ?_
  refine ift_ ?_ ?_ rfl
  rotate_left
  · rfl
  refine goB ?_
  refine ARun.q1 rfl rfl (ql_indexAddr_lst rfl rfl Try.underlying22 (by omega) (e := nB 43 1) rfl (by kernel_rfl)) ?_
  refine goB ?_
  refine callA (i2) ?_
  refine goB ?_
  refine gcallA (i := fun hg => i3) (hr := ?_)
  refine goB ?_
  refine iff_ ?_ ?_ rfl
  rotate_left
  · rfl
  refine goB ?_
  refine AWpI.turn ?_
  refine goB ?_
  refine iff_ ?_ ?_ rfl
  rotate_left
  · rfl
  refine goB ?_
  refine iff_ ?_ ?_ rfl
  rotate_left
  · rfl
  refine goB ?_
  exact Ret.data rfl rfl (.base _)
theorem Pu_ipB (o n : Int) : Pu (.iptr (nB o n) 0) := .iptr (Pu_cB o n)
theorem LendL_nB {H : List ABlk} (o n : Int) : LendL H (nB o n).cells (nB o n).cells := ⟨.pu (.base _), .pu (.base _), .pu (.base _), .pu (.base _), .pu (.base _), .pu (.base _), .pu Pu_nil, .pu Pu_nil, .pu Pu_nil, .pu (.base _), trivial⟩
theorem idxF0_b (fid : FuncId) (caps : List AV) (hc : ∀ c ∈ caps, Pu c) : Fn Try.prog 30 [nilV, .clo fid caps] (.int (-1)) := by
  refine Fn.intro' [(0, nilV), (1, .clo fid caps)] 2 19 Try.func30 (by kernel_rfl) rfl rfl rfl rfl rfl ?_
  refine goB ?_
  refine AWp.turn ?_
  refine goB ?_
  refine iff_ ?_ ?_ rfl
  rotate_left
  · rfl
  refine goB ?_
  exact Ret.data rfl rfl (.base _)
theorem conF0_b (fid : FuncId) (caps : List AV) (hc : ∀ c ∈ caps, Pu c) : Fn Try.prog 98 [nilV, .clo fid caps] (.bool false) := by
  have i1 := idxF0_b fid caps hc
  refine Fn.intro' [(0, nilV), (1, .clo fid caps)] 2 9 Try.func98 (by kernel_rfl) rfl rfl rfl rfl rfl ?_
  refine goB ?_
  refine ARun.q1 rfl rfl (ql_callC i1 rfl (by simp +decide only [go_sem] <;> rfl) (by simp +decide only [go_sem] <;> rfl) (by simpa using Pu.clo hc)) ?_
  refine goB ?_
  exact Ret.bool rfl (by simp)
theorem idxF1_b (o n : Int) (fid : FuncId) (caps : List AV) (b : Bool) (hc : ∀ c ∈ caps, Pu c) (h : Fn Try.prog fid (nB o n :: caps) (.bool b)) : Fn Try.prog 30 [.lst [nB o n], .clo fid caps] (.int (if b then 0 else -1)) := by
  refine Fn.intro' [(0, .lst [nB o n]), (1, .clo fid caps)] 2 19 Try.func30 (by kernel_rfl) rfl rfl rfl rfl rfl ?_
  refine goB ?_
  refine AWp.turn ?_
  refine goB ?_
  refine ift_ ?_ ?_ rfl
  rotate_left
  · rfl
  refine goB ?_
  refine ARun.q1 rfl rfl (ql_indexAddr_lst rfl rfl Try.underlying22 (by omega) (e := nB o n) rfl (by kernel_rfl)) ?_
  refine goB ?_
  refine ARun.q1 rfl rfl (ql_callC h rfl (by simp +decide only [go_sem] <;> rfl) rfl (by simpa using hc)) ?_
  refine goB ?_
  cases b with
  | true =>
    refine ift_ ?_ ?_ rfl
    rotate_left
    · rfl
    refine goB ?_
    exact Ret.data rfl rfl (.base _)
  | false =>
    refine iff_ ?_ ?_ rfl
    rotate_left
    · rfl
    refine goB ?_
    refine AWpI.turn ?_
    refine goB ?_
    refine iff_ ?_ ?_ rfl
    rotate_left
    · rfl
    refine goB ?_
    exact Ret.data rfl rfl (.base _)
theorem conF1_b (o n : Int) (fid : FuncId) (caps : List AV) (b : Bool) (hc : ∀ c ∈ caps, Pu c) (h : Fn Try.prog fid (nB o n :: caps) (.bool b)) : Fn Try.prog 98 [.lst [nB o n], .clo fid caps] (.bool b) := by
  have i1 := idxF1_b o n fid caps b hc h
  refine Fn.intro' [(0, .lst [nB o n]), (1, .clo fid caps)] 2 9 Try.func98 (by kernel_rfl) rfl rfl rfl rfl rfl ?_
  refine goB ?_
  refine ARun.q1 rfl rfl (ql_callC i1 rfl (by simp +decide only [go_sem] <;> rfl) (by simp +decide only [go_sem] <;> rfl) (by simpa using Pu.clo hc)) ?_
  refine goB ?_
  exact Ret.bool rfl (by cases b <;> simp)
theorem own_B {r : Nat → Option Nat} {H : List ABlk} {b : Nat} {o n : Int} {x y z : AV} (hk : r b = none) (h : H[b]? = some ⟨27, 10, [.agg [.int o, str ByteArray.empty, .int n, .int 0, str ByteArray.empty, .int 0, x, y, z, .int 0]]⟩) (hx : PubR r H x (.lst [])) (hy : PubR r H y (.lst [])) (hz : PubR r H z (.lst [])) : PubR r H (.own b 1 0 1) (.lst [nB o n]) :=
  PubR.lst hk h rfl (Nat.le_refl _) rfl fun i e d hi he hd => by
    obtain rfl : i = 0 := by omega
    injection he with he
    injection hd with hd
    subst he; subst hd
    refine ⟨rfl, fun j c c' hc hc' => ?_⟩
    exact (show PubRL r H [.int o, str ByteArray.empty, .int n, .int 0, str ByteArray.empty, .int 0, x, y, z, .int 0] [.int o, str ByteArray.empty, .int n, .int 0, str ByteArray.empty, .int 0, .lst [], .lst [], .lst [], .int 0] from ⟨.pu (.base _), .pu (.base _), .pu (.base _), .pu (.base _), .pu (.base _), .pu (.base _), hx, hy, hz, .pu (.base _), trivial⟩).get j c c' hc hc'
theorem heads_b : Fn Try.prog 84 [.lst [.lst [nB 43 1]]] (.lst [nB 43 1]) := by
  have i1 := isWild_b 43 1
  have i2 := wilds_b
  refine Fn.intro' [(0, .lst [.lst [nB 43 1]])] 1 39 Try.func84 (by kernel_rfl) rfl rfl rfl rfl rfl ?_
  refine goB ?_
  refine AWp.turn ?_
  refine goB ?_
  refine ift_ ?_ ?_ rfl
  rotate_left
  · rfl
  refine goB ?_
  refine ARun.q1 rfl rfl (ql_indexAddr_lst rfl rfl Try.underlying129 (by omega) (e := .lst [nB 43 1]) rfl (by kernel_rfl)) ?_
  refine goB ?_
  refine ARun.q1 rfl rfl (ql_indexAddr_lst rfl rfl Try.underlying22 (by omega) (e := nB 43 1) rfl (by kernel_rfl)) ?_
  refine goB ?_
  refine callA (i1) ?_
  refine goB ?_
  refine gqA (v := .bool false) (h := fun hg => ql_callM (args := [nilV, .clo 99 [.iptr (nB 43 1) 0]]) rfl (by simp +decide only [go_sem] <;> rfl) (by simp +decide only [go_sem, List.map]; exact ⟨.pu (.base _), .clo' ⟨.iptr rfl rfl rfl (LendL_nB 43 1), trivial⟩, trivial⟩) (.base _) (conF0_b 99 [.iptr (nB 43 1) 0] (by simpa using Pu_ipB 43 1))) (hr := ?_)
  refine goB ?_
  refine iff_ ?_ ?_ rfl
  rotate_left
  · rfl
  refine AWp.skip (z1 ?_)
  refine keF [3, 6, 7, 8, 9] ?_
  refine goB ?_
  refine drA (k := 13) follows (hr := ?_)
  refine goB ?_
  refine callA (i2) ?_
  refine goB ?_
  refine bldA pl27 zero27 ?_
  refine goB ?_
  refine ARun.p1 rfl rfl (pl_append_nil (es := [.agg [.int 43, str ByteArray.empty, .int 1, .int 0, str ByteArray.empty, .int 0, nilV, nilV, .lst [], .int 0]]) (by simp +decide only [go_sem] <;> rfl) (by simp +decide only [go_sem] <;> rfl) Try.underlying22 el27 (fun e he => by rw [List.mem_singleton] at he; subst he; exact ⟨rfl, rfl⟩) (by simp) (by simp)) ?_
  refine goB ?_
  refine AWpI.turn ?_
  refine goB ?_
  refine iff_ ?_ ?_ rfl
  rotate_left
  · rfl
  refine goB ?_
  exact Ret.pub rfl (own_B rfl rfl .nilS .nilS (.pu Pu_nil))
/-! ### split and its helpers -/
theorem Pu_lb (b : Bool) : Pu (.tup [.lst [], .bool b]) := .tup fun c hc => by
  simp only [List.mem_cons, List.not_mem_nil, or_false] at hc
  rcases hc with rfl | rfl
  · exact Pu_nil
  · exact .base _
theorem under1_b : Fn Try.prog 97 [nB 43 1, .iptr (nB 43 1) 0] (.tup [.lst [], .bool true]) := by
  have i1 := isWild_b 43 1
  have i2 := same_b 43 1 43 1 true (by simp [samH])
  refine Fn.intro' [(0, nB 43 1), (1, .iptr (nB 43 1) 0)] 2 16 Try.func97 (by kernel_rfl) rfl rfl rfl rfl rfl ?_
  refine goB ?_
  refine callA (i1) ?_
  refine goB ?_
  refine iff_ ?_ ?_ rfl
  rotate_left
  · rfl
  refine goB ?_
  refine drA (k := 5) follows (hr := ?_)
  refine goB ?_
  refine callA (i2) ?_
  refine goB ?_
  exact Ret.data rfl rfl (Pu_lb _)
theorem under2_b : Fn Try.prog 97 [nB 40 0, .iptr (nB 43 1) 0] (.tup [.lst [], .bool true]) := by
  have i1 := isWild_b 40 0
  have i2 := wilds_b
  refine Fn.intro' [(0, nB 40 0), (1, .iptr (nB 43 1) 0)] 2 16 Try.func97 (by kernel_rfl) rfl rfl rfl rfl rfl ?_
  refine goB ?_
  refine callA (i1) ?_
  refine goB ?_
  refine ift_ ?_ ?_ rfl
  rotate_left
  · rfl
  refine goB ?_
  refine callA (i2) ?_
  refine goB ?_
  exact Ret.data rfl rfl (Pu_lb _)
theorem beyond_b : Fn Try.prog 85 [nB 43 1] (.tup [nilV, .bool false]) := by
  have i1 := isWild_b 43 1
  refine Fn.intro' [(0, nB 43 1)] 1 6 Try.func85 (by kernel_rfl) rfl rfl rfl rfl rfl ?_
  refine goB ?_
  refine callA (i1) ?_
  refine goB ?_
  exact Ret.data rfl rfl (Pu_t2v _ _)
theorem split1_b (o n : Int) (fid : FuncId) (caps : List AV) (hc : ∀ c ∈ caps, Pu c) (h : Fn Try.prog fid (nB o n :: caps) (.tup [.lst [], .bool true])) : Fn Try.prog 80 [.lst [.lst [nB o n]], .clo fid caps] (.lst [.lst []]) := by
  have i2 := clone0_b
  refine Fn.intro' [(0, .lst [.lst [nB o n]]), (1, .clo fid caps)] 2 35 Try.func80 (by kernel_rfl) rfl rfl rfl rfl rfl ?_
  refine goB ?_
  refine AWp.turn ?_
  refine goB ?_
  refine ift_ ?_ ?_ rfl
  rotate_left
  · rfl
  refine goB ?_
  refine ARun.q1 rfl rfl (ql_indexAddr_lst rfl rfl Try.underlying129 (by omega) (e := .lst [nB o n]) rfl (by kernel_rfl)) ?_
  refine goB ?_
  refine ARun.q1 rfl rfl (ql_indexAddr_lst rfl rfl Try.underlying22 (by omega) (e := nB o n) rfl (by kernel_rfl)) ?_
  refine goB ?_
  refine ARun.q1 rfl rfl (ql_callC h rfl (by simp +decide only [go_sem] <;> rfl) rfl (by simpa using hc)) ?_
  refine goB ?_
  refine ift_ ?_ ?_ rfl
  rotate_left
  · rfl
  refine keF [5, 7, 8, 10, 11, 12] ?_
  refine drA (k := 7) follows (hr := ?_)
  refine goB ?_
  refine callA (i2) ?_
  refine goB ?_
  refine ARun.q1 rfl rfl (ql_slice_lst (l := 1) (h := 1) (es := [nB o n]) (by simp +decide only [go_sem] <;> rfl) Try.underlying22 (by rfl) (by rfl) (by decide) (by simp) sz27 (fun e he => by rw [List.mem_singleton] at he; subst he; rfl)) ?_
  refine goB ?_
  refine ARun.q1 rfl rfl (ql_append_data (by simp +decide only [go_sem] <;> rfl) (by simp +decide only [go_sem] <;> rfl) (.inl rfl) Try.underlying22 el27) ?_
  refine goB ?_
  refine ARun.p1 rfl rfl (pl_append_nil (es := [.lst []]) (by simp +decide only [go_sem] <;> rfl) (by simp +decide only [go_sem] <;> rfl) Try.underlying129 el22 (fun e he => by rw [List.mem_singleton] at he; subst he; exact ⟨rfl, rfl⟩) (by simp) (by simp)) ?_
  refine goB ?_
  refine AWpI.turn ?_
  refine goB ?_
  refine iff_ ?_ ?_ rfl
  rotate_left
  · rfl
  refine goB ?_
  exact Ret.pub rfl (Pub.ownM (f := id) (l := [.lst []]) (Nat.zero_le _) rfl rfl (fun x hx c hc => by rw [List.mem_singleton] at hx; subst hx; simp only [id, AV.cells, List.mem_singleton] at hc; subst hc; exact Pu_nil))
theorem splitB_b : Fn Try.prog 80 [.lst [.lst [nB 43 1]], .clo 85 []] nilV := by
  have i1 := beyond_b
  refine Fn.intro' [(0, .lst [.lst [nB 43 1]]), (1, .clo 85 [])] 2 35 Try.func80 (by kernel_rfl) rfl rfl rfl rfl rfl ?_
  refine goB ?_
  refine AWp.turn ?_
  refine goB ?_
  refine ift_ ?_ ?_ rfl
  rotate_left
  · rfl
  refine goB ?_
  refine ARun.q1 rfl rfl (ql_indexAddr_lst rfl rfl Try.underlying129 (by omega) (e := .lst [nB 43 1]) rfl (by kernel_rfl)) ?_
  refine goB ?_
  refine ARun.q1 rfl rfl (ql_indexAddr_lst rfl rfl Try.underlying22 (by omega) (e := nB 43 1) rfl (by kernel_rfl)) ?_
  refine goB ?_
  refine ARun.q1 rfl rfl (ql_callC i1 rfl (by simp +decide only [go_sem] <;> rfl) rfl (by simp)) ?_
  refine goB ?_
  refine iff_ ?_ ?_ rfl
  rotate_left
  · rfl
  refine goB ?_
  refine AWpI.turn ?_
  refine goB ?_
  refine iff_ ?_ ?_ rfl
  rotate_left
  · rfl
  refine goB ?_
  exact ⟨_, rfl, .pu (.base _)⟩
/-! ### payload and into -/
theorem payload_b : Fn Try.prog 82 [nB 43 1, .iptr mA 0, .iptr bT 0] nilV := by
  have i1 := caseOf_b
  refine Fn.intro' [(0, nB 43 1), (1, .iptr mA 0), (2, .iptr bT 0)] 3 20 Try.func82 (by kernel_rfl) rfl rfl rfl rfl rfl ?_
  refine goB ?_
  refine callA (i1) ?_
  refine goB ?_
  refine ift_ ?_ ?_ rfl
  rotate_left
  · rfl
  refine goB ?_
  exact ⟨_, rfl, .pu (.base _)⟩
end Go.Ab
set_option maxHeartbeats 4000000
namespace Go.Ab
open Go Go.Ab Go.Proofs Go.Ab.Ty

/-! ### nothing is left to look at -/
theorem miss0_b : Fn Try.prog 67 [mA, nilV, .lst [.lst []], .lst []] (.tup [nilV, .bool false]) := by
  refine Fn.intro' [(0, mA), (1, nilV), (2, .lst [.lst []]), (3, .lst [])] 4 135 Try.func67 (by kernel_rfl) rfl rfl rfl rfl rfl ?_
  refine goB ?_
  refine ift_ ?_ ?_ rfl
  rotate_left
  · rfl
  refine goB ?_
  refine drA (k := 4) follows (hr := ?_)
  refine goB ?_
  exact ⟨[nilV, .bool false], by kernel_rfl, .pu (Pu_t2v _ _)⟩
theorem miss1_b : Fn Try.prog 67 [mA, .lst [], nilV, .lst []] (.tup [nilV, .bool true]) := by
  refine Fn.intro' [(0, mA), (1, .lst []), (2, nilV), (3, .lst [])] 4 135 Try.func67 (by kernel_rfl) rfl rfl rfl rfl rfl ?_
  refine goB ?_
  refine ift_ ?_ ?_ rfl
  rotate_left
  · rfl
  refine goB ?_
  refine drA (k := 4) follows (hr := ?_)
  refine goB ?_
  exact ⟨[nilV, .bool true], by kernel_rfl, .pu (Pu_t2v _ _)⟩
theorem PubR.clo' {r : Nat → Option Nat} {H : List ABlk} {f : FuncId} {cs ds : List AV} (h : PubRL r H cs ds) : PubR r H (.clo f cs) (.clo f ds) := .clo h.len h.get
theorem PubRL_nB {r : Nat → Option Nat} {H : List ABlk} (o n : Int) : PubRL r H (nB o n).cells (nB o n).cells := ⟨.pu (.base _), .pu (.base _), .pu (.base _), .pu (.base _), .pu (.base _), .pu (.base _), .pu Pu_nil, .pu Pu_nil, .pu Pu_nil, .pu (.base _), trivial⟩
theorem under_b : Fn Try.prog 81 [nB 43 1] (.clo 97 [.iptr (nB 43 1) 0]) := by
  refine Fn.intro' [(0, nB 43 1)] 1 4 Try.func81 (by kernel_rfl) rfl rfl rfl rfl rfl ?_
  refine goB ?_
  exact ⟨[.clo 97 [.ptr 0 1 0 0]], by kernel_rfl, PubR.clo' ⟨PubR.iptr rfl rfl rfl rfl (PubRL_nB 43 1), trivial⟩⟩
@[simp] theorem Pu_ll (o n : Int) : Pu (.lst [.lst [nB o n]]) := .lst fun e he c hc => by
  rw [List.mem_singleton] at he; subst he
  simp only [AV.cells, List.mem_singleton] at hc; subst hc; exact Pu_l1B o n
@[simp] theorem Pu_l0 : Pu (.lst [.lst []]) := .lst fun e he c hc => by
  rw [List.mem_singleton] at he; subst he
  simp only [AV.cells, List.mem_singleton] at hc; subst hc; exact Pu_nil
@[simp] theorem Pu_cloB (f : FuncId) (o n : Int) : Pu (.clo f [.iptr (nB o n) 0]) := .clo fun c hc => by
  rw [List.mem_singleton] at hc; subst hc; exact Pu_ipB o n
abbrev ipQ : AV := .iptr (.lst [nB 40 0]) 0
abbrev ipR : AV := .iptr (.lst [.lst [nB 43 1]]) 0
abbrev ipT : AV := .iptr (.lst [bT]) 0
theorem into_b : Fn Try.prog 78 [nB 43 1, nilV, ipT, ipQ, .iptr mA 0, ipR] (.tup [nilV, .bool false]) := by
  have i1 := cloneT_b
  have i2 := under_b
  have i3 := split1_b 40 0 97 [.iptr (nB 43 1) 0] (by simpa using Pu_ipB 43 1) under2_b
  have i4 := split1_b 43 1 97 [.iptr (nB 43 1) 0] (by simpa using Pu_ipB 43 1) under1_b
  have i5 := miss0_b
  refine Fn.intro' [(0, nB 43 1), (1, nilV), (2, ipT), (3, ipQ), (4, .iptr mA 0), (5, ipR)] 6 60 Try.func78 (by kernel_rfl) rfl rfl rfl rfl rfl ?_
  refine goB ?_
  refine drA (k := 5) follows (hr := ?_)
  refine goB ?_
  refine callA (i1) ?_
  refine goB ?_
  refine ARun.q1 rfl rfl (ql_slice_lst (l := 1) (h := 1) (es := [bT]) (by simp +decide only [go_sem] <;> rfl) Try.underlying23 (by rfl) (by rfl) (by decide) (by simp) sz25 (fun e he => by rw [List.mem_singleton] at he; subst he; rfl)) ?_
  refine goB ?_
  refine ARun.q1 rfl rfl (ql_append_nil0 (by simp +decide only [go_sem] <;> rfl) (by simp +decide only [go_sem] <;> rfl) (.inl rfl) Try.underlying23 el25) ?_
  refine goB ?_
  refine drA (k := 5) follows (hr := ?_)
  refine goB ?_
  refine callA (i2) ?_
  refine goB ?_
  refine callA (i3) ?_
  refine goB ?_
  refine drA (k := 14) follows (hr := ?_)
  refine goB ?_
  refine callA (i2) ?_
  refine goB ?_
  refine callA (i4) ?_
  refine goB ?_
  refine ARun.q1 rfl rfl (ql_indexAddr_lst rfl rfl Try.underlying129 (by omega) (e := .lst []) rfl (by kernel_rfl)) ?_
  refine goB ?_
  refine callA (i5) ?_
  refine goB ?_
  refine ift_ ?_ ?_ rfl
  rotate_left
  · rfl
  refine goB ?_
  exact ⟨[nilV, .bool false], by kernel_rfl, .pu (Pu_t2v _ _)⟩
end Go.Ab
